/- Layer 6: a wal: plain words, no program. -/
import Derived.Test.YtifgajinfcihmaaGreatDoorJAn
import Derived.Test.YtifgajinfcihmaaGreatDoorJAo
import Derived.Test.YtifgajinfcihmaaGreatDoorJAs
import Derived.Test.YtifgajinfcihmaaGreatDoorJAm
namespace Go.Proofs.YtifgajinfcihmaaGreatDoor.Wl
open Go Pk Dsk Go.Proofs.YtifgajinfcihmaaGreatDoor.Nm
def recsB (es : List En) : List UInt8 := es.flatMap recB
theorem recsB_cons (e : En) (es : List En) : recsB (e :: es) = recB e ++ recsB es := by unfold recsB; simp
theorem recsB_append (xs ys : List En) : recsB (xs ++ ys) = recsB xs ++ recsB ys := by unfold recsB; simp
theorem recsB_snoc (xs : List En) (e : En) : recsB (xs ++ [e]) = recsB xs ++ recB e := by unfold recsB; simp
theorem recsB_len_ge : ∀ es : List En, 32 * es.length ≤ (recsB es).length
 | [] => by simp
 | e :: r => by
   have := recsB_len_ge r
   have := recB_pos e
   rw [recsB_cons, List.length_append, List.length_cons]; omega
def follow : Int → List En → Prop
 | _, [] => True
 | i, e :: r => e.ix = i ∧ follow (i + 1) r
def allR (es : List En) : Prop := ∀ e ∈ es, rightE e = true
theorem follow_get : ∀ {es : List En} {i : Int}, follow i es → ∀ k (h : k < es.length), es[k].ix = i + k
 | e :: r, i, h, 0, _ => by have := h.1; simp [this]
 | e :: r, i, h, k + 1, hk => by
   have := follow_get h.2 k (by simpa using hk)
   simp only [List.getElem_cons_succ]; rw [this]; omega
theorem follow_append : ∀ {xs ys : List En} {i : Int}, follow i (xs ++ ys) ↔ follow i xs ∧ follow (i + xs.length) ys
 | [], ys, i => by simp [follow]
 | e :: r, ys, i => by
   show (e.ix = i ∧ follow (i + 1) (r ++ ys)) ↔ _
   rw [follow_append]
   show _ ↔ (e.ix = i ∧ follow (i + 1) r) ∧ _
   rw [List.length_cons, show i + 1 + (r.length : Int) = i + ((r.length + 1 : Nat) : Int) by omega, and_assoc]
def scanF : Nat → Int → List UInt8 → List En
 | 0, _, _ => []
 | n + 1, i, b =>
   match entryS b with
   | none => []
   | some (e, k) => if e.ix = i then e :: scanF n (i + 1) (b.drop k) else []
def scanS (i : Int) (b : List UInt8) : List En := scanF (b.length + 1) i b
theorem scanF_none {n : Nat} {i : Int} {b : List UInt8} (h : entryS b = none) : scanF n i b = [] := by
 cases n with
 | zero => rfl
 | succ n => unfold scanF; rw [h]
theorem scanF_no {n : Nat} {i : Int} {b : List UInt8} {e : En} {k : Nat} (h : entryS b = some (e, k)) (hi : e.ix ≠ i) : scanF n i b = [] := by
 cases n with
 | zero => rfl
 | succ n => unfold scanF; rw [h]; simp only; rw [if_neg hi]
theorem scanF_yes {n : Nat} {i : Int} {b : List UInt8} {e : En} {k : Nat} (h : entryS b = some (e, k)) (hi : e.ix = i) : scanF (n + 1) i b = e :: scanF n (i + 1) (b.drop k) := by
 rw [scanF, h]; simp only; rw [if_pos hi]
theorem entryS_short {b : List UInt8} (h : b.length < 32) : entryS b = none := by
 cases he : entryS b with
 | none => rfl
 | some x => obtain ⟨e, n⟩ := x; have := entryS_pos he; omega
theorem scanF_fuel : ∀ (n m : Nat) (i : Int) (b : List UInt8), b.length < 32 * n + 32 → b.length < 32 * m + 32 → scanF n i b = scanF m i b
 | 0, m, i, b, h, _ => by rw [scanF_none (entryS_short (by omega)), scanF_none (entryS_short (by omega))]
 | n + 1, 0, i, b, _, h => by rw [scanF_none (entryS_short (by omega)), scanF_none (entryS_short (by omega))]
 | n + 1, m + 1, i, b, h1, h2 => by
   unfold scanF
   cases he : entryS b with
   | none => rfl
   | some x =>
     obtain ⟨e, k⟩ := x
     have := entryS_pos he
     simp only
     by_cases hi : e.ix = i
     ·rw [if_pos hi, if_pos hi, scanF_fuel n m (i + 1) (b.drop k) (by rw [List.length_drop]; omega) (by rw [List.length_drop]; omega)]
     ·rw [if_neg hi, if_neg hi]
theorem scanS_eq {n : Nat} {i : Int} {b : List UInt8} (h : b.length < 32 * n + 32) : scanF n i b = scanS i b := scanF_fuel _ _ _ _ h (by omega)
theorem scanS_yes {i : Int} {b : List UInt8} {e : En} {k : Nat} (h : entryS b = some (e, k)) (hi : e.ix = i) : scanS i b = e :: scanS (i + 1) (b.drop k) := by
 unfold scanS
 have hp := entryS_pos h
 rw [scanF_yes h hi, scanS_eq (n := b.length) (by rw [List.length_drop]; omega)]; rfl
theorem scanS_none {i : Int} {b : List UInt8} (h : entryS b = none) : scanS i b = [] := scanF_none h
theorem scanS_no {i : Int} {b : List UInt8} {e : En} {k : Nat} (h : entryS b = some (e, k)) (hi : e.ix ≠ i) : scanS i b = [] := scanF_no h hi
theorem scanF_ok : ∀ (n : Nat) (i : Int) (b : List UInt8), follow i (scanF n i b) ∧ allR (scanF n i b) ∧ b.take (recsB (scanF n i b)).length = recsB (scanF n i b)
 | 0, i, b => ⟨trivial, (fun _ h => by cases h), by simp [scanF, recsB]⟩
 | n + 1, i, b => by
   cases he : entryS b with
   | none => rw [scanF_none he]; exact ⟨trivial, (fun _ h => by cases h), by simp [recsB]⟩
   | some x =>
     obtain ⟨e, k⟩ := x
     by_cases hi : e.ix = i
     ·rw [scanF_yes he hi]
      obtain ⟨h1, h2, h3⟩ := scanF_ok n (i + 1) (b.drop k)
      obtain ⟨hr, hk, hb⟩ := entryS_iff.1 he
      refine ⟨⟨hi, h1⟩, fun x hx => ?_, ?_⟩
      ·rcases List.mem_cons.1 hx with rfl | hx
       ·exact hr
       ·exact h2 x hx
      ·rw [recsB_cons, List.length_append, ← hk, List.take_add, hb, h3]
     ·rw [scanF_no he hi]; exact ⟨trivial, (fun _ h => by cases h), by simp [recsB]⟩
theorem scanS_ok (i : Int) (b : List UInt8) : follow i (scanS i b) ∧ allR (scanS i b) ∧ b.take (recsB (scanS i b)).length = recsB (scanS i b) := scanF_ok _ i b
theorem scanS_recs : ∀ (es : List En) (i : Int) (r : List UInt8), follow i es → allR es → scanS i (recsB es ++ r) = es ++ scanS (i + es.length) r
 | [], i, r, _, _ => by simp [recsB]
 | e :: es, i, r, hf, ha => by
   have hr := ha e (by simp)
   have he : entryS (recsB (e :: es) ++ r) = some (e, (recB e).length) := by rw [recsB_cons, List.append_assoc]; exact entryS_rec hr _
   rw [scanS_yes he hf.1]
   have hd : (recsB (e :: es) ++ r).drop (recB e).length = recsB es ++ r := by rw [recsB_cons, List.append_assoc, List.drop_left]
   rw [hd, scanS_recs es (i + 1) r hf.2 (fun x hx => ha x (List.mem_cons_of_mem _ hx)), List.length_cons, List.cons_append]
   congr 2; congr 1; omega
theorem scanS_all {es : List En} {i : Int} (hf : follow i es) (ha : allR es) : scanS i (recsB es) = es := by
 have := scanS_recs es i [] hf ha
 rw [List.append_nil] at this
 rw [this, scanS_none (entryS_short (by simp)), List.append_nil]
structure Sg where
 ix : Int
 es : List En
 wet : Bool
def nmW (i : Int) : Name := nmOf 119 i.toNat
def sgN (s : Sg) : Name := nmW s.ix
def sgB (s : Sg) : List UInt8 := recsB s.es
def allE (ss : List Sg) : List En := ss.flatMap Sg.es
theorem allE_snoc (ss : List Sg) (s : Sg) : allE (ss ++ [s]) = allE ss ++ s.es := by unfold allE; simp
theorem allE_cons (s : Sg) (ss : List Sg) : allE (s :: ss) = s.es ++ allE ss := by unfold allE; simp
def lastE (es : List En) : Int := match es.getLast? with
 | none => 0
 | some e => e.ix
def firstE (es : List En) : Int := match es.head? with
 | none => 0
 | some e => e.ix
theorem lastE_snoc (es : List En) (e : En) : lastE (es ++ [e]) = e.ix := by unfold lastE; simp
def wrLast (d : S) (ss : List Sg) (s : Sg) (e : En) : S × List Sg × Nat :=
 let r := write d (sgN s) ((sgB s).length : Int) (recB e)
 if r.2 = 0 then (r.1, ss ++ [⟨s.ix, s.es ++ [e], true⟩], 0) else (r.1, ss ++ [s], r.2)
def dueW (ss : List Sg) : Bool := match ss.getLast? with
 | none => true
 | some s => decide (256 ≤ (sgB s).length)
def write1 (d : S) (ss : List Sg) (e : En) : S × List Sg × Nat :=
 if dueW ss = true then
  let r := create d (nmW e.ix)
  if r.2 = 0 then wrLast r.1 ss ⟨e.ix, [], false⟩ e else (r.1, ss, r.2)
 else match ss.getLast? with
  | none => (d, ss, 0)
  | some s => wrLast d ss.dropLast s e
def writeAll (d : S) (ss : List Sg) : List En → S × List Sg × Nat
 | [] => (d, ss, 0)
 | e :: r => if (write1 d ss e).2.2 = 0 then writeAll (write1 d ss e).1 (write1 d ss e).2.1 r else write1 d ss e
def gapB : Int → List En → Bool
 | _, [] => false
 | l, e :: r => if l ≠ 0 ∧ e.ix ≠ l + 1 then true else gapB e.ix r
def appendW (d : S) (ss : List Sg) (es : List En) : S × List Sg × Nat :=
 if es.any (fun e => !rightE e) then (d, ss, 1)
 else if gapB (lastE (allE ss)) es then (d, ss, 60)
 else writeAll d ss es
def syncW (d : S) (pre : List Sg) : List Sg → S × List Sg × Nat
 | [] => (d, pre, 0)
 | s :: r =>
   if s.wet = true then
    if (sync d (sgN s)).2 = 0 then syncW (sync d (sgN s)).1 (pre ++ [⟨s.ix, s.es, false⟩]) r else ((sync d (sgN s)).1, pre ++ s :: r, (sync d (sgN s)).2)
   else syncW d (pre ++ [s]) r
def syncO (d : S) : List Sg → S × Nat
 | [] => (d, 0)
 | s :: r => if (sync d (sgN s)).2 = 0 then syncO (sync d (sgN s)).1 r else sync d (sgN s)
def keepN (s : Sg) (last i : Int) : Nat := (i - (last - s.es.length + 1)).toNat
def cutF : Nat → S → List Sg → Int → S × List Sg × Nat
 | 0, d, ss, _ => (d, ss, 0)
 | n + 1, d, ss, i =>
   match ss.getLast? with
   | none => (d, ss, 0)
   | some s =>
     if lastE (allE ss) < i then (d, ss, 0)
     else if keepN s (lastE (allE ss)) i = 0 then
      if (remove d (sgN s)).2 = 0 then cutF n (remove d (sgN s)).1 ss.dropLast i else ((remove d (sgN s)).1, ss, (remove d (sgN s)).2)
     else
      let k := keepN s (lastE (allE ss)) i
      let r := cut d (sgN s) ((recsB (s.es.take k)).length : Int)
      if r.2 = 0 then cutF n r.1 (ss.dropLast ++ [⟨s.ix, s.es.take k, s.wet⟩]) i else (r.1, ss, r.2)
def cutW (d : S) (ss : List Sg) (i : Int) : S × List Sg × Nat := cutF (ss.length + 1) d ss i
def dropW (d : S) (ss : List Sg) (i : Int) : S × List Sg × Nat :=
 match ss with
 | [] => (d, [], 0)
 | s :: r =>
   if i < lastE s.es then (d, s :: r, 0)
   else if (remove d (sgN s)).2 = 0 then dropW (remove d (sgN s)).1 r i else ((remove d (sgN s)).1, s :: r, (remove d (sgN s)).2)
def rmW (s : S) : List Name → S × Nat
 | [] => (s, 0)
 | n :: r => if (remove s n).2 = 0 then rmW (remove s n).1 r else remove s n
def idxW (n : Name) : Int := match idxN 119 n with
 | none => 0
 | some i => (i : Int)
def loadW (d : S) (ss : List Sg) : List Name → S × List Sg × Nat
 | [] => (d, ss, 0)
 | n :: r =>
   if allE ss ≠ [] ∧ idxW n ≠ lastE (allE ss) + 1 then ((rmW d (n :: r).reverse).1, ss, (rmW d (n :: r).reverse).2)
   else if (read d n).2 ≠ 0 then (d, ss, (read d n).2)
   else
    let es := scanS (idxW n) (read d n).1
    if es = [] then ((rmW d (n :: r).reverse).1, ss, (rmW d (n :: r).reverse).2)
    else if (recsB es).length = (read d n).1.length then loadW d (ss ++ [⟨idxW n, es, false⟩]) r
    else if (rmW d r.reverse).2 ≠ 0 then ((rmW d r.reverse).1, ss ++ [⟨idxW n, es, false⟩], (rmW d r.reverse).2)
    else ((cut (rmW d r.reverse).1 n ((recsB es).length : Int)).1, ss ++ [⟨idxW n, es, false⟩], (cut (rmW d r.reverse).1 n ((recsB es).length : Int)).2)
def namesW (d : S) : List Name := (snames d).filter fun n => (idxN 119 n).isSome
def openW (d : S) : S × List Sg × Nat :=
 if d.down then (d, [], 50)
 else
  let r := loadW d [] (namesW d)
  if r.2.2 ≠ 0 then r
  else ((syncO r.1 r.2.1).1, r.2.1, (syncO r.1 r.2.1).2)
end Go.Proofs.YtifgajinfcihmaaGreatDoor.Wl
namespace Go.Proofs.YtifgajinfcihmaaGreatDoor.Wl
open Go Pk Dsk Go.Proofs.YtifgajinfcihmaaGreatDoor.Nm
theorem lt_append : ∀ {a b x y : Name}, a.length = b.length → lt (a ++ x) (b ++ y) = (lt a b || (a == b && lt x y))
 | [], [], x, y, _ => by
   show lt x y = (lt [] [] || (true && lt x y))
   rw [lt_irrefl]; simp
 | c :: a, d :: b, x, y, h => by
   have ih := @lt_append a b x y (by simpa using h)
   show (decide (c < d) || (c == d && lt (a ++ x) (b ++ y))) = ((decide (c < d) || (c == d && lt a b)) || ((c :: a) == (d :: b) && lt x y))
   rw [ih]
   have h2 : ((c :: a) == (d :: b)) = (c == d && a == b) := rfl
   rw [h2]
   cases decide (c < d) <;> cases (c == d) <;> cases lt a b <;> cases (a == b) <;> cases lt x y <;> rfl
 | [], d :: b, _, _, h => by simp at h
 | c :: a, [], _, _, h => by simp at h
theorem pad_lt : ∀ (k i j : Nat), j < 10 ^ k → i < j → lt (pad k i) (pad k j) = true
 | 0, i, j, h, h2 => by simp at h; omega
 | k + 1, i, j, h, h2 => by
   unfold pad
   rw [lt_append (by rw [pad_len, pad_len])]
   by_cases hq : i / 10 < j / 10
   ·rw [pad_lt k _ _ (by rw [Nat.pow_succ] at h; omega) hq]; rfl
   ·have e : i / 10 = j / 10 := by omega
    rw [e]
    have h3 : lt [UInt8.ofNat (48 + i % 10)] [UInt8.ofNat (48 + j % 10)] = true := by
     show (decide (_ < _) || _) = true
     rw [Bool.or_eq_true]; left
     rw [decide_eq_true_eq, UInt8.lt_iff_toNat_lt, dig_ok _ (by omega), dig_ok _ (by omega)]; omega
    rw [h3]; simp
theorem nmW_lt {i j : Int} (h0 : 0 ≤ i) (h1 : i < j) (h2 : j < 1000000000000000) : lt (nmW i) (nmW j) = true := by
 unfold nmW nmOf
 have h := pad_lt 15 i.toNat j.toNat (by simp; omega) (by omega)
 show (decide ((119 : UInt8) < 119) || ((119 : UInt8) == 119 && lt (pad 15 i.toNat) (pad 15 j.toNat))) = true
 rw [h]; rfl
theorem nmW_named (i : Int) : named (nmW i) = true := by unfold named nmW; rw [nmOf_len]; decide
theorem nmW_idx {i : Int} (h0 : 0 ≤ i) (h1 : i < 1000000000000000) : idxN 119 (nmW i) = some i.toNat := idxN_iff.2 ⟨by omega, rfl⟩
theorem idxW_nmW {i : Int} (h0 : 0 ≤ i) (h1 : i < 1000000000000000) : idxW (nmW i) = i := by
 unfold idxW; rw [nmW_idx h0 h1]; simp only; omega
def up (fs : List File) : S := ⟨fs, false, 0⟩
section
variable {pre post fs : List File} {f : File}
theorem mid_ne (hs : Sorted (pre ++ f :: post)) : (∀ g ∈ pre, g.name ≠ f.name) ∧ (∀ g ∈ post, g.name ≠ f.name) := by
 unfold Sorted at hs
 rw [List.pairwise_append, List.pairwise_cons] at hs
 exact ⟨fun g hg => lt_ne (hs.2.2 g hg f (by simp)), fun g hg e => lt_ne (hs.2.1.1 g hg) e.symm⟩
theorem find_mid (hs : Sorted (pre ++ f :: post)) : find f.name (pre ++ f :: post) = some f := by
 unfold find
 rw [List.find?_append, List.find?_eq_none.2 (fun g hg => by simpa using (mid_ne hs).1 g hg), List.find?_cons_of_pos (by simp)]; rfl
theorem upd_mid (hs : Sorted (pre ++ f :: post)) (g : File → File) : upd f.name g (pre ++ f :: post) = pre ++ g f :: post := by
 obtain ⟨h1, h2⟩ := mid_ne hs
 rw [upd_append, upd_of_none h1]
 show pre ++ ((if (f.name == f.name) = true then g f else f) :: upd f.name g post) = _
 rw [upd_of_none h2, if_pos (by simp)]
theorem del_mid (hs : Sorted (pre ++ f :: post)) : del f.name (pre ++ f :: post) = pre ++ post := by
 obtain ⟨h1, h2⟩ := mid_ne hs
 unfold del
 rw [List.filter_append, List.filter_cons_of_neg (by simp), List.filter_eq_self.2 (fun g hg => by simpa using h1 g hg), List.filter_eq_self.2 (fun g hg => by simpa using h2 g hg)]
theorem ins_last : ∀ {fs : List File}, (∀ g ∈ fs, lt g.name f.name = true) → ins f fs = fs ++ [f]
 | [], _ => rfl
 | y :: r, h => by
   unfold ins
   rw [if_neg (by rw [lt_asymm (h y (by simp))]; decide), ins_last (fun g hg => h g (List.mem_cons_of_mem _ hg))]; rfl
theorem put_last (h : ∀ g ∈ fs, lt g.name f.name = true) : put f fs = fs ++ [f] := by
 unfold put; rw [del_of_none (find_none.2 (fun g hg => lt_ne (h g hg))), ins_last h]
theorem create_last {n : Name} (hn : named n = true) (h : ∀ g ∈ fs, lt g.name n = true) (hl : fs.length ≠ 256) : create (up fs) n = (up (fs ++ [⟨n, [], []⟩]), 0) := by
 unfold create
 rw [step_idle rfl]
 simp only [look_none (s := up fs) rfl hn (find_none.2 (fun g hg => lt_ne (h g hg)))]
 rw [if_pos trivial, if_neg (show ¬ (up fs).files.length = 256 from hl)]
 show (S.mk (put ⟨n, [], []⟩ fs) false 0, 0) = _
 rw [put_last h]; rfl
theorem up_look (hn : named f.name = true) (hs : Sorted (pre ++ f :: post)) : Dsk.look (up (pre ++ f :: post)) [f.name] = (some f, 0) := look_found rfl hn (find_mid hs)
theorem remove_mid (hn : named f.name = true) (hs : Sorted (pre ++ f :: post)) : remove (up (pre ++ f :: post)) f.name = (up (pre ++ post), 0) := by
 unfold remove
 rw [step_idle rfl]
 simp only [up_look hn hs]
 show (S.mk (del f.name (pre ++ f :: post)) false 0, 0) = _
 rw [del_mid hs]; rfl
theorem sync_mid (hn : named f.name = true) (hs : Sorted (pre ++ f :: post)) : sync (up (pre ++ f :: post)) f.name = (up (pre ++ ⟨f.name, f.now, f.now⟩ :: post), 0) := by
 unfold sync
 rw [step_idle rfl]
 simp only [up_look hn hs]
 show (S.mk (upd f.name _ (pre ++ f :: post)) false 0, 0) = _
 rw [upd_mid hs]; rfl
theorem write_mid {c : List UInt8} (hn : named f.name = true) (hs : Sorted (pre ++ f :: post)) (hl : f.now.length + c.length ≤ 65536) :
 write (up (pre ++ f :: post)) f.name (f.now.length : Int) c = (up (pre ++ ⟨f.name, f.now ++ c, f.safe⟩ :: post), 0) := by
 unfold write
 rw [step_idle rfl]
 simp only [up_look hn hs]
 rw [if_neg (by omega), if_neg (by omega)]
 show (S.mk (upd f.name _ (pre ++ f :: post)) false 0, 0) = _
 rw [upd_mid hs]
 have e : over f.now (Int.toNat (f.now.length : Int)) c = f.now ++ c := by unfold over; simp
 rw [e]; rfl
theorem cut_mid {k : Nat} (hn : named f.name = true) (hs : Sorted (pre ++ f :: post)) (hl : k ≤ f.now.length) :
 cut (up (pre ++ f :: post)) f.name (k : Int) = (up (pre ++ ⟨f.name, f.now.take k, f.safe.take k⟩ :: post), 0) := by
 unfold cut
 rw [step_idle rfl]
 simp only [up_look hn hs]
 rw [if_neg (by omega)]
 show (S.mk (upd f.name _ (pre ++ f :: post)) false 0, 0) = _
 rw [upd_mid hs]; rfl
theorem read_mid (hn : named f.name = true) (hs : Sorted (pre ++ f :: post)) : Dsk.read (up (pre ++ f :: post)) f.name = (f.now, 0) := by
 unfold Dsk.read
 rw [up_look hn hs]
end
def chainS : Int → List Sg → Prop
 | _, [] => True
 | i, s :: r => s.ix = i ∧ s.es ≠ [] ∧ follow i s.es ∧ allR s.es ∧ chainS (i + s.es.length) r
theorem last_follow {i : Int} {es : List En} (h : follow i es) (hne : es ≠ []) : lastE es = i + es.length - 1 := by
 have e := (List.dropLast_concat_getLast hne).symm
 rw [e] at h
 have h2 := (follow_append.1 h).2.1
 conv => lhs; rw [e]
 rw [lastE_snoc, h2, List.length_dropLast]
 have := List.length_pos_iff.2 hne
 omega
theorem chain_append : ∀ {xs ys : List Sg} {i : Int}, chainS i (xs ++ ys) ↔ chainS i xs ∧ chainS (i + (allE xs).length) ys
 | [], ys, i => by simp [chainS, allE]
 | s :: r, ys, i => by
   show (s.ix = i ∧ s.es ≠ [] ∧ follow i s.es ∧ allR s.es ∧ chainS (i + s.es.length) (r ++ ys)) ↔ (s.ix = i ∧ s.es ≠ [] ∧ follow i s.es ∧ allR s.es ∧ chainS (i + s.es.length) r) ∧ chainS (i + (allE (s :: r)).length) ys
   rw [chain_append, allE_cons, List.length_append, show i + s.es.length + ((allE r).length : Int) = i + ((s.es.length + (allE r).length : Nat) : Int) by omega]
   simp only [and_assoc]
theorem chain_follow : ∀ {ss : List Sg} {i : Int}, chainS i ss → follow i (allE ss) ∧ allR (allE ss)
 | [], i, _ => ⟨trivial, fun _ h => by cases h⟩
 | s :: r, i, h => by
   obtain ⟨h1, h2, h3, h4, h5⟩ := h
   obtain ⟨a, b⟩ := chain_follow h5
   rw [allE_cons]
   refine ⟨follow_append.2 ⟨h3, a⟩, fun e he => ?_⟩
   rcases List.mem_append.1 he with he | he
   ·exact h4 e he
   ·exact b e he
theorem seg_bounds {s : Sg} (h2 : s.es ≠ []) (h3 : follow s.ix s.es) (h4 : allR s.es) : 1 ≤ s.ix ∧ s.ix + s.es.length ≤ 1099511627777 := by
 have hl := List.length_pos_iff.2 h2
 have a := follow_get h3 0 hl
 have b := follow_get h3 (s.es.length - 1) (by omega)
 have c := rightE_iff.1 (h4 _ (List.getElem_mem hl))
 have d := rightE_iff.1 (h4 _ (List.getElem_mem (show s.es.length - 1 < s.es.length by omega)))
 omega
theorem chain_ix : ∀ {ss : List Sg} {i : Int}, chainS i ss → ∀ s ∈ ss, 1 ≤ s.ix ∧ i ≤ s.ix ∧ s.ix + s.es.length ≤ 1099511627777 ∧ s.ix + s.es.length ≤ i + (allE ss).length ∧ s.es ≠ []
 | [], i, _, s, hs => by cases hs
 | x :: r, i, h, s, hs => by
   obtain ⟨h1, h2, h3, h4, h5⟩ := h
   rw [allE_cons, List.length_append]
   subst h1
   rcases List.mem_cons.1 hs with rfl | hs
   ·obtain ⟨a, b⟩ := seg_bounds h2 h3 h4
    exact ⟨a, Int.le_refl _, b, by omega, h2⟩
   ·obtain ⟨a, b, c, d, e⟩ := chain_ix h5 s hs
    exact ⟨a, by omega, c, by omega, e⟩
theorem chain_pair : ∀ {ss : List Sg} {i : Int}, chainS i ss → ss.Pairwise (fun a b : Sg => a.ix + (a.es.length : Int) ≤ b.ix)
 | [], i, _ => List.Pairwise.nil
 | x :: r, i, h => by
   obtain ⟨h1, h2, h3, h4, h5⟩ := h
   subst h1
   rw [List.pairwise_cons]
   exact ⟨fun s hs => (chain_ix h5 s hs).2.1, chain_pair h5⟩
structure SegK where
 s : Sg
 k : Nat
def fileK (x : SegK) : File := ⟨sgN x.s, sgB x.s, recsB (x.s.es.take x.k)⟩
def diskK (xs : List SegK) : S := up (xs.map fileK)
def segsK (xs : List SegK) : List Sg := xs.map SegK.s
def SafeK (t : Int) (x : SegK) : Prop := x.k ≤ x.s.es.length ∧ (x.s.wet = false → x.k = x.s.es.length) ∧ ∀ e ∈ x.s.es.drop x.k, t < e.ix
structure RunK (t i : Int) (xs : List SegK) : Prop where
 chain : chainS i (segsK xs)
 safe : ∀ x ∈ xs, SafeK t x
theorem segsK_append (xs ys : List SegK) : segsK (xs ++ ys) = segsK xs ++ segsK ys := List.map_append
theorem segsK_snoc (xs : List SegK) (x : SegK) : segsK (xs ++ [x]) = segsK xs ++ [x.s] := List.map_append
theorem chain_sorted {xs : List SegK} {i : Int} (h : chainS i (segsK xs)) : Sorted (xs.map fileK) := by
 have hp := chain_pair h
 have hi := chain_ix h
 unfold Sorted
 unfold segsK at hp hi
 rw [List.pairwise_map] at hp ⊢
 refine hp.imp_of_mem (fun {a b} ha hb hab => ?_)
 obtain ⟨a1, a2, a3, a4, a5⟩ := hi a.s (List.mem_map_of_mem ha)
 obtain ⟨b1, b2, b3, b4, b5⟩ := hi b.s (List.mem_map_of_mem hb)
 have := List.length_pos_iff.2 a5
 have := List.length_pos_iff.2 b5
 exact nmW_lt (by omega) (by omega) (by omega)
theorem RunK.sorted {t i : Int} {xs : List SegK} (h : RunK t i xs) : Sorted (xs.map fileK) := chain_sorted h.chain
theorem RunK.nil (t i : Int) : RunK t i [] := ⟨trivial, fun _ h => by cases h⟩
theorem snoc_or {α : Type} (xs : List α) : xs = [] ∨ ∃ pre x, xs = pre ++ [x] := by
 by_cases h : xs = []
 ·exact .inl h
 ·exact .inr ⟨xs.dropLast, xs.getLast h, (List.dropLast_concat_getLast h).symm⟩
theorem RunK.last {t i : Int} {xs : List SegK} (h : RunK t i xs) (hne : allE (segsK xs) ≠ []) : lastE (allE (segsK xs)) = i + (allE (segsK xs)).length - 1 := last_follow (chain_follow h.chain).1 hne
theorem RunK.empty {t i : Int} {xs : List SegK} (h : RunK t i xs) (he : allE (segsK xs) = []) : xs = [] := by
 cases xs with
 | nil => rfl
 | cons x r =>
   have h2 := h.chain.2.1
   unfold segsK at he
   rw [List.map_cons, allE_cons] at he
   exact absurd (List.append_eq_nil_iff.1 he).1 h2
theorem wrLast_run {fs : List File} {ss : List Sg} {s : Sg} {e : En} {sf : List UInt8} (hs : Sorted (fs ++ [⟨sgN s, sgB s, sf⟩])) (hl : (sgB s).length + (recB e).length ≤ 65536) :
 wrLast (up (fs ++ [⟨sgN s, sgB s, sf⟩])) ss s e = (up (fs ++ [⟨sgN s, sgB s ++ recB e, sf⟩]), ss ++ [⟨s.ix, s.es ++ [e], true⟩], 0) := by
 unfold wrLast
 rw [write_mid (f := ⟨sgN s, sgB s, sf⟩) (post := []) (nmW_named _) hs hl]
 simp only
 rw [if_pos trivial]
theorem follow_one {i : Int} {e : En} : follow i [e] ↔ e.ix = i := by simp [follow]
theorem write1_run {t i : Int} {xs : List SegK} {e : En} (h : RunK t i xs) (hr : rightE e = true) (hi : e.ix = i + (allE (segsK xs)).length) (ht : t < e.ix) (hc : dueW (segsK xs) = true → xs.length < 256) :
 ∃ ys, write1 (diskK xs) (segsK xs) e = (diskK ys, segsK ys, 0) ∧ RunK t i ys ∧ allE (segsK ys) = allE (segsK xs) ++ [e] ∧ ys.length ≤ xs.length + 1 ∧ (dueW (segsK xs) = false → ys.length = xs.length) := by
 have hre := rightE_iff.1 hr
 have hrl := recB_le hr
 have hci := chain_ix h.chain
 by_cases hd : dueW (segsK xs) = true
 ·obtain ⟨y, hy⟩ : ∃ y : SegK, y = ⟨⟨e.ix, [e], true⟩, 0⟩ := ⟨_, rfl⟩
  have hfy : fileK y = ⟨nmW e.ix, sgB ⟨e.ix, [], false⟩ ++ recB e, []⟩ := by
   rw [hy]; unfold fileK sgN sgB; simp [recsB]
  have hlt : ∀ g ∈ xs.map fileK, lt g.name (nmW e.ix) = true := fun g hg => by
   obtain ⟨x, hx, rfl⟩ := List.mem_map.1 hg
   obtain ⟨a1, a2, a3, a4, a5⟩ := hci x.s (List.mem_map_of_mem hx)
   have := List.length_pos_iff.2 a5
   exact nmW_lt (by omega) (by omega) (by omega)
  have hch : chainS i (segsK (xs ++ [y])) := by
   rw [segsK_snoc, chain_append]
   refine ⟨h.chain, ?_⟩
   rw [hy]
   exact ⟨hi, by simp, follow_one.2 hi, fun z hz => by rw [List.mem_singleton.1 hz]; exact hr, trivial⟩
  have hrun : RunK t i (xs ++ [y]) := ⟨hch, fun z hz => by
   rcases List.mem_append.1 hz with hz | hz
   ·exact h.safe z hz
   ·rw [List.mem_singleton.1 hz, hy]
    refine ⟨Nat.zero_le _, (fun e => by cases e), fun z hz => ?_⟩
    have : z = e := by simpa using hz
    rw [this]; exact ht⟩
  refine ⟨xs ++ [y], ?_, hrun, by rw [segsK_snoc, allE_snoc, hy], by simp, fun h9 => by rw [hd] at h9; cases h9⟩
  unfold write1
  rw [if_pos hd]
  have hcr : create (diskK xs) (nmW e.ix) = (up (xs.map fileK ++ [⟨nmW e.ix, [], []⟩]), 0) := create_last (nmW_named _) hlt (by rw [List.length_map]; have := hc hd; omega)
  rw [hcr]
  simp only
  rw [if_pos trivial]
  have hso := hrun.sorted
  rw [List.map_append, List.map_singleton, hfy] at hso
  have hso2 : Sorted (xs.map fileK ++ [⟨sgN ⟨e.ix, [], false⟩, sgB ⟨e.ix, [], false⟩, []⟩]) := by
   rw [sorted_names] at hso ⊢
   rw [List.map_append] at hso ⊢
   exact hso
  have hw := wrLast_run (ss := segsK xs) (e := e) hso2 (by show 0 + _ ≤ _; omega)
  refine hw.trans ?_
  rw [segsK_snoc]
  unfold diskK
  rw [List.map_append, List.map_singleton, hfy, hy]; rfl
 ·have hd' : dueW (segsK xs) = false := by simpa using hd
  rcases snoc_or xs with rfl | ⟨pre, x, rfl⟩
  ·exact absurd rfl hd
  ·rw [segsK_snoc] at hd' hi ⊢
   have hgl : (segsK pre ++ [x.s]).getLast? = some x.s := by simp
   have hlt : (sgB x.s).length < 256 := by
    unfold dueW at hd'
    rw [hgl] at hd'
    have := of_decide_eq_false hd'
    omega
   obtain ⟨y, hy⟩ : ∃ y : SegK, y = ⟨⟨x.s.ix, x.s.es ++ [e], true⟩, x.k⟩ := ⟨_, rfl⟩
   obtain ⟨sk1, sk2, sk3⟩ := h.safe x (by simp)
   have hfy : fileK y = ⟨sgN x.s, sgB x.s ++ recB e, recsB (x.s.es.take x.k)⟩ := by
    rw [hy]; unfold fileK sgN sgB; simp only; rw [recsB_snoc, List.take_append_of_le_length sk1]
   have hcx := h.chain
   rw [segsK_snoc, chain_append] at hcx
   obtain ⟨hc1, h1, h2, h3, h4, -⟩ := hcx
   rw [allE_snoc, List.length_append] at hi
   have hch : chainS i (segsK (pre ++ [y])) := by
    rw [segsK_snoc, chain_append]
    refine ⟨hc1, ?_⟩
    rw [hy]
    refine ⟨h1, by simp, follow_append.2 ⟨h3, follow_one.2 (by rw [hi]; omega)⟩, fun z hz => ?_, trivial⟩
    rcases List.mem_append.1 hz with hz | hz
    ·exact h4 z hz
    ·rw [List.mem_singleton.1 hz]; exact hr
   refine ⟨pre ++ [y], ?_, ⟨hch, fun z hz => ?_⟩, by rw [segsK_snoc, allE_snoc, allE_snoc, hy, List.append_assoc], by simp, fun _ => by simp⟩
   ·unfold write1
    rw [if_neg (by rw [hd']; decide), hgl]
    simp only
    rw [List.dropLast_concat]
    have hso := h.sorted
    unfold diskK
    rw [List.map_append, List.map_singleton] at hso ⊢
    rw [show fileK x = ⟨sgN x.s, sgB x.s, recsB (x.s.es.take x.k)⟩ from rfl] at hso ⊢
    rw [wrLast_run hso (by omega), segsK_snoc, List.map_append, List.map_singleton, hfy, hy]
   ·rcases List.mem_append.1 hz with hz | hz
    ·exact h.safe z (by simp [hz])
    ·rw [List.mem_singleton.1 hz, hy]
     refine ⟨by show x.k ≤ (x.s.es ++ [e]).length; rw [List.length_append]; omega, (fun e => by cases e), fun z hz => ?_⟩
     have hz : z ∈ (x.s.es ++ [e]).drop x.k := hz
     rw [List.drop_append_of_le_length sk1] at hz
     rcases List.mem_append.1 hz with hz | hz
     ·exact sk3 z hz
     ·rw [List.mem_singleton.1 hz]; exact ht
theorem follow_gap : ∀ {es : List En} {l : Int}, l ≠ 0 → allR es → gapB l es = false → follow (l + 1) es
 | [], _, _, _, _ => trivial
 | e :: r, l, hl, ha, h => by
   unfold gapB at h
   by_cases hc : l ≠ 0 ∧ e.ix ≠ l + 1
   ·rw [if_pos hc] at h; cases h
   ·rw [if_neg hc] at h
    have he : e.ix = l + 1 := by
     by_cases h9 : e.ix = l + 1
     ·exact h9
     ·exact absurd ⟨hl, h9⟩ hc
    have hr := rightE_iff.1 (ha e (by simp))
    have := follow_gap (l := e.ix) (by omega) (fun x hx => ha x (List.mem_cons_of_mem _ hx)) h
    rw [he] at this
    exact ⟨he, this⟩
theorem all_right {es : List En} (h : es.any (fun e => !rightE e) = false) : allR es := fun e he => by
 have := (List.any_eq_false.1 h) e he
 simpa using this
theorem follow_ge : ∀ {es : List En} {i : Int}, follow i es → ∀ e ∈ es, i ≤ e.ix
 | [], _, _, e, he => by cases he
 | x :: r, i, h, e, he => by
   rcases List.mem_cons.1 he with rfl | he
   ·rw [h.1]; exact Int.le_refl _
   ·have := follow_ge h.2 e he; omega
def dryK (x : SegK) : SegK := ⟨⟨x.s.ix, x.s.es, false⟩, x.s.es.length⟩
theorem fileK_dry (x : SegK) : fileK (dryK x) = ⟨sgN x.s, sgB x.s, sgB x.s⟩ := by
 unfold fileK dryK sgN sgB; simp
theorem dry_of {t : Int} {x : SegK} (h : SafeK t x) (hw : x.s.wet = false) : dryK x = x := by
 have h2 := h.2.1 hw
 obtain ⟨⟨ix, es, wet⟩, k⟩ := x
 simp only at h2 hw
 subst h2; subst hw; rfl
theorem allE_dry (xs : List SegK) : allE (segsK (xs.map dryK)) = allE (segsK xs) := by
 unfold allE segsK
 rw [List.map_map, List.flatMap_map, List.flatMap_map]; rfl
theorem chain_dry : ∀ {xs : List SegK} {i : Int}, chainS i (segsK xs) → chainS i (segsK (xs.map dryK))
 | [], _, _ => trivial
 | _ :: _, _, ⟨h1, h2, h3, h4, h5⟩ => ⟨h1, h2, h3, h4, chain_dry h5⟩
theorem safe_dry (t : Int) (x : SegK) : SafeK t (dryK x) := ⟨Nat.le_refl _, fun _ => rfl, fun e he => by
 have he : e ∈ x.s.es.drop x.s.es.length := he
 rw [List.drop_length] at he; cases he⟩
theorem RunK.dry {t i : Int} {xs : List SegK} (h : RunK t i xs) (t' : Int) : RunK t' i (xs.map dryK) := ⟨chain_dry h.chain, fun x hx => by
 obtain ⟨y, _, rfl⟩ := List.mem_map.1 hx
 exact safe_dry t' y⟩
theorem names_dry (xs : List SegK) : (xs.map fileK).map File.name = ((xs.map dryK).map fileK).map File.name := by
 rw [List.map_map, List.map_map, List.map_map]; rfl
theorem sorted_mix {pre post : List SegK} (h : Sorted ((pre ++ post).map fileK)) : Sorted ((pre.map dryK).map fileK ++ post.map fileK) := by
 rw [sorted_names] at h ⊢
 rw [List.map_append] at h ⊢
 rw [List.map_append] at h
 rw [← names_dry]; exact h
theorem syncW_go {t : Int} : ∀ (post pre : List SegK), Sorted ((pre ++ post).map fileK) → (∀ x ∈ post, SafeK t x) →
 syncW (up ((pre.map dryK).map fileK ++ post.map fileK)) (segsK (pre.map dryK)) (segsK post) = (diskK ((pre ++ post).map dryK), segsK ((pre ++ post).map dryK), 0)
 | [], pre, _, _ => by
   unfold segsK syncW diskK
   simp
 | x :: r, pre, hs, hx => by
   have hs2 := sorted_mix hs
   rw [List.map_cons] at hs2
   have ih := syncW_go r (pre ++ [x]) (by rw [List.append_assoc]; exact hs) (fun y hy => hx y (List.mem_cons_of_mem _ hy))
   rw [List.append_assoc] at ih
   have e1 : (((pre ++ [x]).map dryK).map fileK) ++ r.map fileK = (pre.map dryK).map fileK ++ fileK (dryK x) :: r.map fileK := by simp
   have e2 : segsK ((pre ++ [x]).map dryK) = segsK (pre.map dryK) ++ [⟨x.s.ix, x.s.es, false⟩] := by unfold segsK; simp [dryK]
   rw [e1, e2] at ih
   have e3 : segsK (x :: r) = x.s :: segsK r := rfl
   rw [e3]
   unfold syncW
   by_cases hw : x.s.wet = true
   ·rw [if_pos hw]
    have hsy : sync (up ((pre.map dryK).map fileK ++ (x :: r).map fileK)) (sgN x.s) = (up ((pre.map dryK).map fileK ++ fileK (dryK x) :: r.map fileK), 0) := by
     rw [List.map_cons]
     rw [fileK_dry]
     exact sync_mid (f := fileK x) (nmW_named _) hs2
    rw [hsy]
    simp only
    rw [if_pos trivial]
    exact ih
   ·rw [if_neg hw]
    have hdx := dry_of (hx x (by simp)) (by simpa using hw)
    have e4 : (⟨x.s.ix, x.s.es, false⟩ : Sg) = x.s := congrArg SegK.s hdx
    rw [e4, hdx] at ih
    rw [List.map_cons]
    exact ih
theorem syncW_ok {t i : Int} {xs : List SegK} (h : RunK t i xs) : syncW (diskK xs) [] (segsK xs) = (diskK (xs.map dryK), segsK (xs.map dryK), 0) := by
 exact syncW_go xs [] h.sorted h.safe
theorem recs_take (es : List En) (a b : Nat) : (recsB (es.take a)).take (recsB (es.take b)).length = recsB (es.take (min a b)) := by
 rcases Nat.le_total a b with h | h
 ·rw [Nat.min_eq_left h, List.take_of_length_le]
  have e : es.take b = es.take a ++ (es.take b).drop a := by
   conv => lhs; rw [← List.take_append_drop a (es.take b)]
   rw [List.take_take, Nat.min_eq_left h]
  rw [e, recsB_append, List.length_append]; omega
 ·rw [Nat.min_eq_right h]
  have e : es.take a = es.take b ++ (es.take a).drop b := by
   conv => lhs; rw [← List.take_append_drop b (es.take a)]
   rw [List.take_take, Nat.min_eq_left h]
  rw [e, recsB_append, List.take_left]
theorem recs_take_all (es : List En) (b : Nat) : (recsB es).take (recsB (es.take b)).length = recsB (es.take b) := by
 have h := recs_take es es.length b
 rw [List.take_length] at h
 rw [h]
 rcases Nat.le_total es.length b with k | k
 ·rw [Nat.min_eq_left k, List.take_length, List.take_of_length_le k]
 ·rw [Nat.min_eq_right k]
theorem recs_take_le (es : List En) (b : Nat) : (recsB (es.take b)).length ≤ (recsB es).length := by
 have := congrArg List.length (recs_take_all es b)
 rw [List.length_take] at this; omega
theorem cutF_done {n : Nat} {d : S} {ss : List Sg} {c : Int} (h : lastE (allE ss) < c) : cutF n d ss c = (d, ss, 0) := by
 cases n with
 | zero => rfl
 | succ n =>
   unfold cutF
   cases ss.getLast? with
   | none => rfl
   | some s => simp only; rw [if_pos h]
theorem cutF_ok {t i c : Int} : ∀ (n : Nat) (xs : List SegK), xs.length < n → RunK t i xs →
 ∃ ys, cutF n (diskK xs) (segsK xs) c = (diskK ys, segsK ys, 0) ∧ RunK t i ys ∧ allE (segsK ys) = (allE (segsK xs)).take (c - i).toNat ∧ ys.length ≤ xs.length
 | 0, xs, h, _ => by omega
 | n + 1, xs, hn, h => by
   rcases snoc_or xs with rfl | ⟨pre, x, rfl⟩
   ·exact ⟨[], rfl, h, by simp [segsK, allE], Nat.le_refl _⟩
   ·have hcx := h.chain
    rw [segsK_snoc, chain_append] at hcx
    obtain ⟨hc1, h1, h2, h3, h4, -⟩ := hcx
    have hlp := List.length_pos_iff.2 h2
    have hal : allE (segsK (pre ++ [x])) = allE (segsK pre) ++ x.s.es := by rw [segsK_snoc, allE_snoc]
    have hne : allE (segsK (pre ++ [x])) ≠ [] := by rw [hal]; simp [h2]
    have hL := h.last hne
    have hll : (allE (segsK (pre ++ [x]))).length = (allE (segsK pre)).length + x.s.es.length := by rw [hal, List.length_append]
    rw [hll] at hL
    by_cases hc : lastE (allE (segsK (pre ++ [x]))) < c
    ·refine ⟨pre ++ [x], cutF_done hc, h, ?_, Nat.le_refl _⟩
     rw [List.take_of_length_le (by rw [hll]; omega)]
    ·have hgl : (segsK (pre ++ [x])).getLast? = some x.s := by rw [segsK_snoc]; simp
     have hdl : (segsK (pre ++ [x])).dropLast = segsK pre := by rw [segsK_snoc, List.dropLast_concat]
     have hk : keepN x.s (lastE (allE (segsK (pre ++ [x])))) c = (c - x.s.ix).toNat := by
      unfold keepN; rw [hL, h1]; congr 1; omega
     have hso := h.sorted
     rw [List.map_append, List.map_singleton] at hso
     have hpre : RunK t i pre := ⟨hc1, fun y hy => h.safe y (by simp [hy])⟩
     obtain ⟨sk1, sk2, sk3⟩ := h.safe x (by simp)
     rw [cutF, hgl]
     simp only
     rw [if_neg hc, hk]
     by_cases h0 : (c - x.s.ix).toNat = 0
     ·rw [if_pos h0]
      have hrm : remove (diskK (pre ++ [x])) (sgN x.s) = (diskK pre, 0) := by
       unfold diskK
       rw [List.map_append, List.map_singleton]
       have := remove_mid (f := fileK x) (nmW_named _) hso
       rw [List.append_nil] at this
       exact this
      rw [hrm]
      simp only
      rw [if_pos trivial, hdl]
      obtain ⟨ys, k1, k2, k3, k4⟩ := cutF_ok n pre (by simp at hn; omega) hpre
      refine ⟨ys, k1, k2, ?_, by simp; omega⟩
      rw [k3, hal, List.take_append_of_le_length (by omega)]
     ·rw [if_neg h0]
      obtain ⟨k, hkk⟩ : ∃ k, k = (c - x.s.ix).toNat := ⟨_, rfl⟩
      rw [← hkk] at h0 ⊢
      obtain ⟨y, hy⟩ : ∃ y : SegK, y = ⟨⟨x.s.ix, x.s.es.take k, x.s.wet⟩, min x.k k⟩ := ⟨_, rfl⟩
      have hkl : k < x.s.es.length := by omega
      have hfy : fileK y = ⟨sgN x.s, (sgB x.s).take (recsB (x.s.es.take k)).length, (recsB (x.s.es.take x.k)).take (recsB (x.s.es.take k)).length⟩ := by
       unfold sgB
       rw [recs_take, recs_take_all, hy]
       unfold fileK sgN sgB
       simp only [List.take_take, Nat.min_assoc, Nat.min_self]
      have hct : cut (diskK (pre ++ [x])) (sgN x.s) ((recsB (x.s.es.take k)).length : Int) = (diskK (pre ++ [y]), 0) := by
       unfold diskK
       rw [List.map_append, List.map_singleton, List.map_append, List.map_singleton, hfy]
       exact cut_mid (f := fileK x) (post := []) (nmW_named _) hso (recs_take_le _ _)
      have hsy : segsK (pre ++ [y]) = segsK pre ++ [⟨x.s.ix, x.s.es.take k, x.s.wet⟩] := by rw [segsK_snoc, hy]
      have hly : (x.s.es.take k).length = k := by rw [List.length_take]; omega
      have hfk : follow (i + ((allE (segsK pre)).length : Int)) (x.s.es.take k) := by
       have h9 := h3
       rw [← List.take_append_drop k x.s.es] at h9
       exact (follow_append.1 h9).1
      have hch : chainS i (segsK (pre ++ [y])) := by
       rw [hsy, chain_append]
       exact ⟨hc1, h1, (by intro e; have e : x.s.es.take k = [] := e; rw [e] at hly; simp at hly; omega), hfk, fun z hz => h4 z (List.mem_of_mem_take hz), trivial⟩
      have hrun : RunK t i (pre ++ [y]) := ⟨hch, fun z hz => by
       rcases List.mem_append.1 hz with hz | hz
       ·exact h.safe z (by simp [hz])
       ·rw [List.mem_singleton.1 hz, hy]
        refine ⟨by show min x.k k ≤ (x.s.es.take k).length; rw [hly]; omega, fun hw => ?_, fun z hz => ?_⟩
        ·have := sk2 hw
         show min x.k k = (x.s.es.take k).length
         rw [hly]; omega
        ·have hz : z ∈ (x.s.es.take k).drop (min x.k k) := hz
         rcases Nat.le_total x.k k with hle | hle
         ·rw [Nat.min_eq_left hle] at hz
          rw [List.drop_take] at hz
          exact sk3 z (List.mem_of_mem_take hz)
         ·rw [Nat.min_eq_right hle, List.drop_of_length_le (by rw [hly]; omega)] at hz; cases hz⟩
      refine ⟨pre ++ [y], ?_, hrun, ?_, by simp⟩
      ·rw [hct]
       simp only
       rw [if_pos trivial, hdl, ← hsy]
       refine cutF_done ?_
       rw [hrun.last (by rw [hsy, allE_snoc]; simp only [ne_eq, List.append_eq_nil_iff, not_and]; intro _ e; rw [e] at hly; simp at hly; omega)]
       rw [hsy, allE_snoc, List.length_append]
       simp only [hly]
       omega
      ·rw [hsy, allE_snoc, hal, List.take_append, List.take_of_length_le (l := allE (segsK pre)) (by omega)]
       simp only
       congr 2; omega
theorem cutW_ok {t i c : Int} {xs : List SegK} (h : RunK t i xs) :
 ∃ ys, cutW (diskK xs) (segsK xs) c = (diskK ys, segsK ys, 0) ∧ RunK t i ys ∧ allE (segsK ys) = (allE (segsK xs)).take (c - i).toNat ∧ ys.length ≤ xs.length := by
 unfold cutW
 refine cutF_ok _ xs ?_ h
 unfold segsK; rw [List.length_map]; omega
theorem dropW_ok {t c : Int} : ∀ (xs : List SegK) {i : Int}, RunK t i xs →
 ∃ pre ys, xs = pre ++ ys ∧ dropW (diskK xs) (segsK xs) c = (diskK ys, segsK ys, 0) ∧ RunK t (i + (allE (segsK pre)).length) ys ∧ (∀ e ∈ allE (segsK pre), e.ix ≤ c) ∧ (∀ y r, ys = y :: r → c < lastE y.s.es)
 | [], i, h => ⟨[], [], rfl, rfl, RunK.nil _ _, (fun _ h => by cases h), fun _ _ h => by cases h⟩
 | x :: r, i, h => by
   obtain ⟨h1, h2, h3, h4, h5⟩ := h.chain
   have hl := last_follow h3 h2
   by_cases hc : c < lastE x.s.es
   ·refine ⟨[], x :: r, rfl, ?_, by simpa [segsK, allE] using h, (fun _ h => by cases h), fun y r' e => by injection e with e; rw [← e]; exact hc⟩
    show dropW (diskK (x :: r)) (x.s :: segsK r) c = _
    unfold dropW
    rw [if_pos hc]; rfl
   ·have hr : RunK t (i + x.s.es.length) r := ⟨h5, fun y hy => h.safe y (List.mem_cons_of_mem _ hy)⟩
    obtain ⟨pre, ys, e, k1, k2, k3, k4⟩ := dropW_ok r hr
    have hal : allE (segsK (x :: pre)) = x.s.es ++ allE (segsK pre) := allE_cons _ _
    refine ⟨x :: pre, ys, by rw [e]; rfl, ?_, ?_, fun z hz => ?_, k4⟩
    ·show dropW (diskK (x :: r)) (x.s :: segsK r) c = _
     unfold dropW
     rw [if_neg hc]
     have hrm : remove (diskK (x :: r)) (sgN x.s) = (diskK r, 0) := remove_mid (f := fileK x) (pre := []) (nmW_named _) h.sorted
     rw [hrm]
     simp only
     rw [if_pos trivial]; exact k1
    ·rw [hal, List.length_append, show i + ((x.s.es.length + (allE (segsK pre)).length : Nat) : Int) = i + (x.s.es.length : Int) + ((allE (segsK pre)).length : Int) by omega]; exact k2
    ·rw [hal] at hz
     rcases List.mem_append.1 hz with hz | hz
     ·obtain ⟨j, hj, rfl⟩ := List.getElem_of_mem hz
      have := follow_get h3 j hj
      omega
     ·exact k3 z hz
end Go.Proofs.YtifgajinfcihmaaGreatDoor.Wl
namespace Go.Proofs.YtifgajinfcihmaaGreatDoor.Wl
open Go Pk Dsk Go.Proofs.YtifgajinfcihmaaGreatDoor.Nm
def takeO (first : Bool) (nx : Int) : List File → List Sg
 | [] => []
 | g :: r =>
   if first = false ∧ idxW g.name ≠ nx then []
   else if scanS (idxW g.name) g.now = [] then []
   else if (recsB (scanS (idxW g.name) g.now)).length = g.now.length then ⟨idxW g.name, scanS (idxW g.name) g.now, false⟩ :: takeO false (idxW g.name + (scanS (idxW g.name) g.now).length) r
   else [⟨idxW g.name, scanS (idxW g.name) g.now, false⟩]
def loadF (first : Bool) (nx : Int) : List File → List File
 | [] => []
 | g :: r =>
   if first = false ∧ idxW g.name ≠ nx then []
   else if scanS (idxW g.name) g.now = [] then []
   else if (recsB (scanS (idxW g.name) g.now)).length = g.now.length then g :: loadF false (idxW g.name + (scanS (idxW g.name) g.now).length) r
   else [⟨g.name, g.now.take (recsB (scanS (idxW g.name) g.now)).length, g.safe.take (recsB (scanS (idxW g.name) g.now)).length⟩]
def fileD (s : Sg) : File := ⟨sgN s, sgB s, sgB s⟩
theorem rmW_rev : ∀ (n : Nat) (rest pre : List File), rest.length = n → Sorted (pre ++ rest) → (∀ g ∈ rest, named g.name = true) → rmW (up (pre ++ rest)) (rest.map File.name).reverse = (up pre, 0)
 | 0, rest, pre, h, _, _ => by
   obtain rfl := List.eq_nil_of_length_eq_zero h
   rw [List.append_nil]; rfl
 | n + 1, rest, pre, h, hs, hn => by
   rcases snoc_or rest with rfl | ⟨r0, g, rfl⟩
   ·simp at h
   ·rw [List.map_append, List.map_singleton, List.reverse_append]
    show rmW _ (g.name :: (r0.map File.name).reverse) = _
    rw [← List.append_assoc] at hs ⊢
    have hr := remove_mid (f := g) (post := []) (hn g (by simp)) hs
    rw [List.append_nil] at hr
    unfold rmW
    rw [hr]
    simp only
    rw [if_pos trivial]
    refine rmW_rev n r0 pre (by simpa using h) ?_ (fun x hx => hn x (by simp [hx]))
    unfold Sorted at hs ⊢
    exact (List.pairwise_append.1 hs).1
theorem loadW_take : ∀ (rest pre : List File) (ss : List Sg) (first : Bool) (nx : Int), Sorted (pre ++ rest) → (∀ g ∈ rest, named g.name = true) → (first = true → allE ss = []) → (first = false → allE ss ≠ [] ∧ nx = lastE (allE ss) + 1) →
 loadW (up (pre ++ rest)) ss (rest.map File.name) = (up (pre ++ loadF first nx rest), ss ++ takeO first nx rest, 0)
 | [], pre, ss, first, nx, _, _, _, _ => by simp [loadW, loadF, takeO]
 | g :: r, pre, ss, first, nx, hs, hn, h1, h2 => by
   have hrm := rmW_rev _ (g :: r) pre rfl hs hn
   have hs2 : Sorted ((pre ++ [g]) ++ r) := by rw [List.append_assoc]; exact hs
   have hrr := rmW_rev _ r (pre ++ [g]) rfl hs2 (fun x hx => hn x (List.mem_cons_of_mem _ hx))
   rw [List.append_assoc] at hrr
   have hrd := read_mid (hn g (by simp)) hs
   have hcond : (allE ss ≠ [] ∧ idxW g.name ≠ lastE (allE ss) + 1) ↔ (first = false ∧ idxW g.name ≠ nx) := by
    cases first with
    | true =>
      have := h1 rfl
      constructor
      ·rintro ⟨a, _⟩; exact absurd this a
      ·rintro ⟨a, _⟩; cases a
    | false =>
      obtain ⟨a, b⟩ := h2 rfl
      rw [b]
      exact ⟨fun h => ⟨rfl, h.2⟩, fun h => ⟨a, h.2⟩⟩
   rw [List.map_cons] at hrm ⊢
   unfold loadW loadF takeO
   by_cases hg : first = false ∧ idxW g.name ≠ nx
   ·rw [if_pos (hcond.2 hg), if_pos hg, if_pos hg, hrm]; simp
   ·rw [if_neg (fun h => hg (hcond.1 h)), if_neg hg, if_neg hg, hrd]
    rw [if_neg (by simp)]
    simp only
    by_cases he : scanS (idxW g.name) g.now = []
    ·rw [if_pos he, if_pos he, if_pos he, hrm]; simp
    ·rw [if_neg he, if_neg he, if_neg he]
     obtain ⟨es, hes⟩ : ∃ es, es = scanS (idxW g.name) g.now := ⟨_, rfl⟩
     rw [← hes] at he ⊢
     by_cases hl : (recsB es).length = g.now.length
     ·rw [if_pos hl, if_pos hl, if_pos hl]
      have hfo := (scanS_ok (idxW g.name) g.now).1
      rw [← hes] at hfo
      have hal : allE (ss ++ [⟨idxW g.name, es, false⟩]) = allE ss ++ es := allE_snoc _ _
      have hla : lastE (allE ss ++ es) = lastE es := by
       have e := (List.dropLast_concat_getLast he).symm
       rw [e, ← List.append_assoc, lastE_snoc, lastE_snoc]
      have ih := loadW_take r (pre ++ [g]) (ss ++ [⟨idxW g.name, es, false⟩]) false (idxW g.name + es.length) hs2 (fun x hx => hn x (List.mem_cons_of_mem _ hx)) (fun e => by cases e) (fun _ => ⟨by rw [hal]; simp [he], by rw [hal, hla, last_follow hfo he]; omega⟩)
      rw [List.append_assoc, List.append_assoc, List.append_assoc] at ih
      exact ih
     ·rw [if_neg hl, if_neg hl, if_neg hl]
      have hrr' : rmW (up (pre ++ g :: r)) (r.map File.name).reverse = (up (pre ++ [g]), 0) := hrr
      rw [hrr', if_neg (by simp)]
      have hle : (recsB es).length ≤ g.now.length := by
       have h9 := (scanS_ok (idxW g.name) g.now).2.2
       rw [← hes] at h9
       have := congrArg List.length h9
       rw [List.length_take] at this; omega
      have hs1 : Sorted (pre ++ [g]) := by unfold Sorted at hs2 ⊢; exact (List.pairwise_append.1 hs2).1
      rw [cut_mid (f := g) (post := []) (hn g (by simp)) hs1 hle]
theorem syncO_all : ∀ (T : List Sg) (pre F : List File), Sorted (pre ++ F) → F.map (fun g => (g.name, g.now)) = T.map (fun s => (sgN s, sgB s)) → syncO (up (pre ++ F)) T = (up (pre ++ T.map fileD), 0)
 | [], pre, [], _, _ => by rw [syncO, List.map_nil]
 | [], pre, g :: F, _, h => by cases h
 | s :: r, pre, [], _, h => by simp at h
 | s :: r, pre, g :: F, hs, h => by
   rw [List.map_cons, List.map_cons] at h
   obtain ⟨h1, h2⟩ := List.cons.inj h
   obtain ⟨h3, h4⟩ := Prod.mk.inj h1
   have hsy := sync_mid (f := g) (by rw [h3]; exact nmW_named _) hs
   rw [h3, h4] at hsy
   unfold syncO
   rw [hsy]
   simp only
   rw [if_pos trivial]
   have hs2 : Sorted ((pre ++ [fileD s]) ++ F) := by
    rw [sorted_names] at hs ⊢
    have e : ((pre ++ [fileD s]) ++ F).map File.name = (pre ++ g :: F).map File.name := by simp [fileD, h3]
    rw [e]; exact hs
   have ih := syncO_all r (pre ++ [fileD s]) F hs2 h2
   rw [List.append_assoc, List.append_assoc] at ih
   exact ih
def IdxNamed (fs : List File) : Prop := ∀ g ∈ fs, ∃ j : Nat, j < 1000000000000000 ∧ g.name = nmOf 119 j
theorem idx_back {n : Name} {j : Nat} (hj : j < 1000000000000000) (h : n = nmOf 119 j) : nmW (idxW n) = n ∧ named n = true ∧ (idxN 119 n).isSome = true ∧ 0 ≤ idxW n ∧ idxW n < 1000000000000000 := by
 have h1 : idxN 119 n = some j := idxN_iff.2 ⟨hj, h⟩
 have h2 : idxW n = (j : Int) := by unfold idxW; rw [h1]
 refine ⟨by rw [h2, h]; rfl, by rw [h]; exact nmW_named (j : Int), by rw [h1]; rfl, by omega, by omega⟩
theorem loadF_take : ∀ (fs : List File) (first : Bool) (nx : Int), IdxNamed fs → (loadF first nx fs).map (fun g => (g.name, g.now)) = (takeO first nx fs).map (fun s => (sgN s, sgB s))
 | [], _, _, _ => rfl
 | g :: r, first, nx, h => by
   obtain ⟨j, hj, hn⟩ := h g (by simp)
   obtain ⟨k1, -⟩ := idx_back hj hn
   obtain ⟨-, -, h3⟩ := scanS_ok (idxW g.name) g.now
   unfold loadF takeO
   by_cases hg : first = false ∧ idxW g.name ≠ nx
   ·rw [if_pos hg, if_pos hg]; rfl
   ·rw [if_neg hg, if_neg hg]
    by_cases he : scanS (idxW g.name) g.now = []
    ·rw [if_pos he, if_pos he]; rfl
    ·rw [if_neg he, if_neg he]
     by_cases hl : (recsB (scanS (idxW g.name) g.now)).length = g.now.length
     ·rw [if_pos hl, if_pos hl, List.map_cons, List.map_cons, loadF_take r _ _ (fun x hx => h x (List.mem_cons_of_mem _ hx))]
      congr 1
      rw [hl, List.take_length] at h3
      show (g.name, g.now) = (nmW (idxW g.name), recsB _)
      rw [k1, ← h3]
     ·rw [if_neg hl, if_neg hl]
      show [(g.name, g.now.take _)] = [(nmW (idxW g.name), recsB _)]
      rw [k1, h3]
theorem loadF_names : ∀ (fs : List File) (first : Bool) (nx : Int), ∃ n, (loadF first nx fs).map File.name = (fs.map File.name).take n
 | [], _, _ => ⟨0, rfl⟩
 | g :: r, first, nx => by
   unfold loadF
   by_cases hg : first = false ∧ idxW g.name ≠ nx
   ·rw [if_pos hg]; exact ⟨0, by simp⟩
   ·rw [if_neg hg]
    by_cases he : scanS (idxW g.name) g.now = []
    ·rw [if_pos he]; exact ⟨0, by simp⟩
    ·rw [if_neg he]
     by_cases hl : (recsB (scanS (idxW g.name) g.now)).length = g.now.length
     ·rw [if_pos hl]
      obtain ⟨n, hn⟩ := loadF_names r false (idxW g.name + (scanS (idxW g.name) g.now).length)
      exact ⟨n + 1, by rw [List.map_cons, hn]; rfl⟩
     ·rw [if_neg hl]; exact ⟨1, rfl⟩
theorem openW_eq {fs : List File} (hs : Sorted fs) (hn : IdxNamed fs) : openW (up fs) = (up ((takeO true 0 fs).map fileD), takeO true 0 fs, 0) := by
 have hnm : ∀ g ∈ fs, named g.name = true := fun g hg => by
  obtain ⟨j, hj, e⟩ := hn g hg
  exact (idx_back hj e).2.1
 have hw : namesW (up fs) = fs.map File.name := by
  unfold namesW snames
  show List.filter _ (fs.map File.name) = fs.map File.name
  rw [List.filter_eq_self]
  intro n hm
  obtain ⟨g, hg, rfl⟩ := List.mem_map.1 hm
  obtain ⟨j, hj, e⟩ := hn g hg
  exact (idx_back hj e).2.2.1
 have hl := loadW_take fs [] [] true 0 hs hnm (fun _ => rfl) (fun e => by cases e)
 have hsl : Sorted (loadF true 0 fs) := by
  obtain ⟨n, e⟩ := loadF_names fs true 0
  rw [sorted_names] at hs ⊢
  rw [e]
  exact hs.sublist (List.take_sublist _ _)
 have hy := syncO_all (takeO true 0 fs) [] (loadF true 0 fs) hsl (loadF_take fs true 0 hn)
 rw [List.nil_append] at hl hy
 unfold openW
 rw [if_neg (show ¬ (up fs).down = true from fun h => by cases h), hw]
 rw [List.nil_append, List.nil_append] at hl
 simp only [hl]
 rw [if_neg (by simp)]
 rw [hy]
 rfl
theorem chain_takeO : ∀ (fs : List File) (first : Bool) (nx : Int), ∃ i, (first = false → i = nx) ∧ chainS i (takeO first nx fs) ∧ ∀ s ∈ takeO first nx fs, s.wet = false
 | [], _, nx => ⟨nx, fun _ => rfl, trivial, fun _ h => by cases h⟩
 | g :: r, first, nx => by
   obtain ⟨h1, h2, -⟩ := scanS_ok (idxW g.name) g.now
   unfold takeO
   by_cases hg : first = false ∧ idxW g.name ≠ nx
   ·rw [if_pos hg]; exact ⟨nx, fun _ => rfl, trivial, fun _ h => by cases h⟩
   ·rw [if_neg hg]
    have hi : first = false → idxW g.name = nx := fun e => by
     by_cases h9 : idxW g.name = nx
     ·exact h9
     ·exact absurd ⟨e, h9⟩ hg
    by_cases he : scanS (idxW g.name) g.now = []
    ·rw [if_pos he]; exact ⟨nx, fun _ => rfl, trivial, fun _ h => by cases h⟩
    ·rw [if_neg he]
     by_cases hl : (recsB (scanS (idxW g.name) g.now)).length = g.now.length
     ·rw [if_pos hl]
      obtain ⟨i, k1, k2, k3⟩ := chain_takeO r false (idxW g.name + (scanS (idxW g.name) g.now).length)
      rw [k1 rfl] at k2
      refine ⟨idxW g.name, hi, ⟨rfl, he, h1, h2, k2⟩, fun s hs => ?_⟩
      rcases List.mem_cons.1 hs with rfl | hs
      ·rfl
      ·exact k3 s hs
     ·rw [if_neg hl]
      exact ⟨idxW g.name, hi, ⟨rfl, he, h1, h2, trivial⟩, fun s hs => by rw [List.mem_singleton.1 hs]⟩
def fullK (s : Sg) : SegK := ⟨s, s.es.length⟩
theorem segsK_full (T : List Sg) : segsK (T.map fullK) = T := by
 unfold segsK; rw [List.map_map]
 conv => rhs; rw [← List.map_id T]
 rfl
theorem diskK_full (T : List Sg) : diskK (T.map fullK) = up (T.map fileD) := by
 unfold diskK
 rw [List.map_map]
 congr 1
 refine List.map_congr_left fun s _ => ?_
 show (⟨sgN s, sgB s, recsB (s.es.take s.es.length)⟩ : File) = ⟨sgN s, sgB s, sgB s⟩
 rw [List.take_length]; rfl
theorem run_full {T : List Sg} {i : Int} (h : chainS i T) (t : Int) : RunK t i (T.map fullK) := ⟨by rw [segsK_full]; exact h, fun x hx => by
 obtain ⟨s, _, rfl⟩ := List.mem_map.1 hx
 exact ⟨Nat.le_refl _, fun _ => rfl, fun e he => by
  have he : e ∈ s.es.drop s.es.length := he
  rw [List.drop_length] at he; cases he⟩⟩
theorem openW_raw {fs : List File} (hs : Sorted fs) (hn : IdxNamed fs) : ∃ i T, openW (up fs) = (diskK (T.map fullK), T, 0) ∧ chainS i T ∧ (∀ s ∈ T, s.wet = false) ∧ T = takeO true 0 fs := by
 obtain ⟨i, -, h1, h2⟩ := chain_takeO fs true 0
 exact ⟨i, _, by rw [openW_eq hs hn, diskK_full], h1, h2, rfl⟩
theorem takeO_chain : ∀ (xs : List SegK) (i : Int) (first : Bool) (nx : Int), chainS i (segsK xs) → (first = false → nx = i) → takeO first nx (xs.map fileK) = segsK (xs.map dryK)
 | [], _, _, _, _, _ => rfl
 | x :: r, i, first, nx, h, hf => by
   obtain ⟨h1, h2, h3, h4, h5⟩ := h
   subst h1
   obtain ⟨b1, b2⟩ := seg_bounds h2 h3 h4
   have hi : idxW (fileK x).name = x.s.ix := idxW_nmW (by omega) (by omega)
   have hsc : scanS x.s.ix (fileK x).now = x.s.es := scanS_all h3 h4
   rw [List.map_cons]
   unfold takeO
   have hl : (recsB x.s.es).length = (fileK x).now.length := rfl
   rw [hi, hsc, if_neg (by rintro ⟨a, b⟩; exact b (hf a).symm), if_neg h2, if_pos hl, takeO_chain r _ false _ h5 (fun _ => rfl)]
   rfl
theorem idxNamed_K {xs : List SegK} {i : Int} (h : chainS i (segsK xs)) : IdxNamed (xs.map fileK) := fun g hg => by
 obtain ⟨x, hx, rfl⟩ := List.mem_map.1 hg
 obtain ⟨a1, a2, a3, a4, a5⟩ := chain_ix h x.s (List.mem_map_of_mem hx)
 exact ⟨x.s.ix.toNat, by omega, rfl⟩
theorem fileD_dry (xs : List SegK) : (segsK (xs.map dryK)).map fileD = (xs.map dryK).map fileK := by
 unfold segsK
 rw [List.map_map, List.map_map, List.map_map]
 refine List.map_congr_left fun x _ => ?_
 show fileD (dryK x).s = fileK (dryK x)
 rw [fileK_dry]; rfl
theorem openW_ok {t i : Int} {xs : List SegK} (h : RunK t i xs) : openW (diskK xs) = (diskK (xs.map dryK), segsK (xs.map dryK), 0) := by
 have e := takeO_chain xs i true 0 h.chain (fun e => by cases e)
 have ho := openW_eq h.sorted (idxNamed_K h.chain)
 rw [e, fileD_dry] at ho
 exact ho
def Torn (now b : List UInt8) (sl : Nat) : Prop :=
 b.length ≤ now.length ∧ ∀ i, 32 * i + 32 ≤ now.length → (∀ q, q < 32 → b[32 * i + q]? = now[32 * i + q]?) ∨ (sl ≤ 32 * i ∧ (b[32 * i]?).getD 0 = 0)
theorem kept_torn {f : File} (h1 : f.now.length % 32 = 0) (h2 : f.safe.length % 32 = 0) (hp : f.now.take f.safe.length = f.safe) (keep : List Bool) (n : Nat) : Torn f.now (keptBytes f keep n).1 f.safe.length := by
 have hsl : f.safe.length ≤ f.now.length := by
  have := congrArg List.length hp
  rw [List.length_take] at this; omega
 have key : ∀ j, j ≤ (loose f).length → ∀ i, 32 * i + 32 ≤ f.now.length → (∀ q, q < 32 → (keptTo f keep n j).1[32 * i + q]? = f.now[32 * i + q]?) ∨ (f.safe.length ≤ 32 * i ∧ ((keptTo f keep n j).1[32 * i]?).getD 0 = 0) := by
  intro j
  induction j with
  | zero =>
    intro _ i hi
    rw [keptTo_zero]
    rcases Nat.lt_or_ge (32 * i) f.safe.length with h | h
    ·left
     intro q hq
     show f.safe[32 * i + q]? = _
     rw [← hp, List.getElem?_take, if_pos (by omega)]
    ·right
     refine ⟨h, ?_⟩
     show (f.safe[32 * i]?).getD 0 = 0
     rw [List.getElem?_eq_none h]; rfl
  | succ j ih =>
    intro hj i hi
    have ih := ih (by omega) i hi
    rw [keptTo_succ (by omega)]
    obtain ⟨i0, hi0⟩ : ∃ i0, i0 = (loose f)[j]'(by omega) := ⟨_, rfl⟩
    have hl0 := loose_lt (List.getElem_mem (show j < (loose f).length by omega))
    rw [← hi0] at hl0 ⊢
    unfold keptStep
    simp only
    split
    ·have hsec : (sector f.now i0).length = 32 := by unfold sector; rw [List.length_take, List.length_drop]; omega
     show (∀ q, q < 32 → (overZ (keptTo f keep n j).1 (i0 * 32) (sector f.now i0))[32 * i + q]? = _) ∨ (_ ∧ ((overZ (keptTo f keep n j).1 (i0 * 32) (sector f.now i0))[32 * i]?).getD 0 = 0)
     by_cases e : i = i0
     ·left
      subst e
      intro q hq
      rw [overZ_mid (by omega) (by rw [hsec]; omega)]
      unfold sector
      rw [List.getElem_take, List.getElem_drop, List.getElem?_eq_getElem (by omega)]
      congr 2; omega
     ·have hno : ∀ q, q < 32 → ¬ (i0 * 32 ≤ 32 * i + q ∧ 32 * i + q < i0 * 32 + (sector f.now i0).length) := fun q hq => by rw [hsec]; omega
      rcases ih with ih | ⟨ih1, ih2⟩
      ·left
       intro q hq
       have h9 := ih q hq
       have hlt : 32 * i + q < (keptTo f keep n j).1.length := by
        rcases Nat.lt_or_ge (32 * i + q) (keptTo f keep n j).1.length with h8 | h8
        ·exact h8
        ·rw [List.getElem?_eq_none h8, List.getElem?_eq_getElem (by omega)] at h9; cases h9
       rw [overZ_old (hno q hq) hlt, ← h9, List.getElem?_eq_getElem hlt]
      ·right
       refine ⟨ih1, ?_⟩
       have h0 := hno 0 (by omega)
       rw [Nat.add_zero] at h0
       rcases Nat.lt_or_ge (32 * i) (keptTo f keep n j).1.length with h8 | h8
       ·rw [overZ_old h0 h8, ← List.getElem?_eq_getElem h8]; exact ih2
       ·rcases Nat.lt_or_ge (32 * i) (i0 * 32 + (sector f.now i0).length) with h7 | h7
        ·rw [overZ_zero h0 (by omega) h7]; rfl
        ·rw [List.getElem?_eq_none (by rw [overZ_len]; omega)]; rfl
    ·exact ih
 refine ⟨?_, ?_⟩
 ·have := keptBytes_len f keep n
  omega
 ·have := key _ (Nat.le_refl _)
  rw [keptTo_all] at this
  exact this
theorem least {P : Nat → Prop} : ∀ {m : Nat}, (∃ s, s < m ∧ ¬ P s) → ∃ s, s < m ∧ ¬ P s ∧ ∀ s', s' < s → P s'
 | 0, ⟨s, h, _⟩ => by omega
 | m + 1, ⟨s, h, hn⟩ => by
   by_cases h2 : ∃ s, s < m ∧ ¬ P s
   ·obtain ⟨s, a, b, c⟩ := least h2
    exact ⟨s, by omega, b, c⟩
   ·have h3 : ∀ s', s' < m → P s' := fun s' hs' => Classical.byContradiction fun h4 => h2 ⟨s', hs', h4⟩
    have : s = m := by
     rcases Nat.lt_or_ge s m with h4 | h4
     ·exact absurd (h3 s h4) hn
     ·omega
    subst this
    exact ⟨s, h, hn, h3⟩
theorem recB_sec (e : En) (r : List UInt8) {j : Nat} (hj : j < nSec (recF e).length) : ((recB e ++ r)[32 * j]?).getD 0 ≠ 0 := by
 have h := (sig_ok (nSec (recF e).length) 1 (pad31 (recF e)) r (pad31_len _) j hj).2
 rw [List.getD_eq_getElem?_getD] at h
 unfold recB
 rw [h]
 unfold sg; split <;> decide
theorem recB_len2 (e : En) : (recB e).length = 32 * nSec (recF e).length := by rw [recB_len, ← recF_len]
theorem take_good {b c : List UInt8} {m : Nat} (_hc : 32 * m ≤ c.length) (h : ∀ s, s < m → ∀ q, q < 32 → b[32 * s + q]? = c[32 * s + q]?) : b.take (32 * m) = c.take (32 * m) := by
 apply List.ext_getElem?
 intro p
 rw [List.getElem?_take, List.getElem?_take]
 split
 ·rename_i hp
  have := h (p / 32) (by omega) (p % 32) (by omega)
  rw [show 32 * (p / 32) + p % 32 = p by omega] at this
  exact this
 ·rfl
theorem torn_none {e : En} {b r : List UInt8} {s : Nat} (hr : rightE e = true) (hs : s < nSec (recF e).length) (hb : (b[32 * s]?).getD 0 = 0) (hg : ∀ s', s' < s → ∀ q, q < 32 → b[32 * s' + q]? = (recB e ++ r)[32 * s' + q]?) : entryS b = none := by
 cases he : entryS b with
 | none => rfl
 | some x =>
   exfalso
   obtain ⟨e', n'⟩ := x
   obtain ⟨k1, k2, k3⟩ := entryS_iff.1 he
   have hl' := recB_len2 e'
   have hl := recB_len2 e
   obtain ⟨m', hm'⟩ : ∃ m', m' = nSec (recF e').length := ⟨_, rfl⟩
   obtain ⟨m, hm⟩ : ∃ m, m = nSec (recF e).length := ⟨_, rfl⟩
   rw [← hm'] at hl'
   rw [← hm] at hl hs
   have hms : m' ≤ s := by
    rcases Nat.lt_or_ge s m' with h9 | h9
    ·exfalso
     have h8 := recB_sec e' [] (hm' ▸ h9)
     rw [List.append_nil, ← k3, List.getElem?_take, if_pos (by omega)] at h8
     exact h8 hb
    ·exact h9
   have h7 : b.take (32 * m') = (recB e ++ r).take (32 * m') := take_good (by rw [List.length_append]; omega) (fun s' hs' => hg s' (by omega))
   rw [← hl', ← k2, k3, k2, hl', List.take_append_of_le_length (by omega)] at h7
   have h6 : recB e = recB e' ++ (recB e).drop (32 * m') := by rw [h7, List.take_append_drop]
   have h5 : unsig m' (recB e) = pad31 (recF e') := by
    rw [h6, hm']
    exact unsig_sig _ 1 _ _ (pad31_len _)
   have h4 : unsig m (recB e) = pad31 (recF e) := by
    rw [hm]
    have := unsig_sig (nSec (recF e).length) 1 (pad31 (recF e)) [] (pad31_len _)
    rw [List.append_nil] at this
    exact this
   have h3 := unsig_take m' (recB e) m (by omega) (by omega)
   rw [h5, h4] at h3
   have hpl := payB_len hr
   have hpl' := payB_len k1
   have hfl := recF_len e
   have hm1 : 1 ≤ m' := by rw [hm', recF_len]; unfold nSec; omega
   have h31 : 31 * m' < (recF e).length := by rw [hm] at hs; unfold nSec at hs; omega
   have hu : (unframe (pad31 (recF e'))).2.2 = 0 := by
    unfold pad31; rw [show recF e' = frameB (payB e') from rfl, unframe_frame (by omega)]
   rw [h3] at hu
   unfold pad31 at hu
   rw [show recF e = frameB (payB e) from rfl] at hu
   rw [unframe_more (by omega) (by omega) (by rw [← hfl]; exact h31)] at hu
   cases hu
theorem scan_torn : ∀ (es : List En) (i : Int) (b : List UInt8) (k : Nat), follow i es → allR es → k ≤ es.length → Torn (recsB es) b (recsB (es.take k)).length →
 ∃ j, k ≤ j ∧ j ≤ es.length ∧ scanS i b = es.take j ∧ (j = es.length → b.length = (recsB es).length)
 | [], i, b, k, _, _, hk, ht => by
   obtain rfl : b = [] := List.eq_nil_of_length_eq_zero (by have := ht.1; simpa [recsB] using this)
   exact ⟨0, by simpa using hk, Nat.le_refl _, scanS_none (entryS_short (by simp)), fun _ => rfl⟩
 | e :: r, i, b, k, hf, ha, hk, ⟨ht1, ht2⟩ => by
   have hr := ha e (by simp)
   have hl := recB_len2 e
   obtain ⟨m, hm⟩ : ∃ m, m = nSec (recF e).length := ⟨_, rfl⟩
   rw [← hm] at hl
   rw [recsB_cons] at ht1 ht2 ⊢
   rw [List.length_append] at ht1 ⊢
   have hm1 : 1 ≤ m := by have := recB_pos e; omega
   by_cases hall : ∀ s, s < m → ∀ q, q < 32 → b[32 * s + q]? = (recB e ++ recsB r)[32 * s + q]?
   ·have htk : b.take (32 * m) = recB e := by
     rw [take_good (by rw [List.length_append]; omega) hall, ← hl, List.take_left]
    have hbl : 32 * m ≤ b.length := by
     have := congrArg List.length htk
     rw [List.length_take, hl] at this; omega
    have he : entryS b = some (e, 32 * m) := entryS_iff.2 ⟨hr, hl.symm, by exact htk⟩
    have hT : Torn (recsB r) (b.drop (32 * m)) (recsB (r.take (k - 1))).length := by
     refine ⟨by rw [List.length_drop]; omega, fun s hs => ?_⟩
     rcases ht2 (m + s) (by rw [List.length_append]; omega) with h | ⟨h1, h2⟩
     ·left
      intro q hq
      have h9 := h q hq
      rw [List.getElem?_append_right (by omega), hl, show 32 * (m + s) + q - 32 * m = 32 * s + q by omega] at h9
      rw [List.getElem?_drop, show 32 * m + (32 * s + q) = 32 * (m + s) + q by omega]
      exact h9
     ·right
      refine ⟨?_, by rw [List.getElem?_drop, show 32 * m + 32 * s = 32 * (m + s) by omega]; exact h2⟩
      cases k with
      | zero => simp [recsB]
      | succ k =>
        rw [List.take_succ_cons, recsB_cons, List.length_append] at h1
        rw [Nat.add_sub_cancel]; omega
    obtain ⟨j, j1, j2, j3, j4⟩ := scan_torn r (i + 1) (b.drop (32 * m)) (k - 1) hf.2 (fun x hx => ha x (List.mem_cons_of_mem _ hx)) (by simp at hk; omega) hT
    refine ⟨j + 1, by omega, by simpa using j2, ?_, fun hj => ?_⟩
    ·rw [scanS_yes he hf.1, j3, List.take_succ_cons]
    ·have := j4 (by simpa using hj)
     rw [List.length_drop] at this; omega
   ·have hex : ∃ s, s < m ∧ ¬ (∀ q, q < 32 → b[32 * s + q]? = (recB e ++ recsB r)[32 * s + q]?) := by
     refine Classical.byContradiction fun h9 => hall fun s hs => Classical.byContradiction fun h8 => h9 ⟨s, hs, h8⟩
    obtain ⟨s, hs, hbad, hgood⟩ := least hex
    rcases ht2 s (by rw [List.length_append]; omega) with h | ⟨h1, h2⟩
    ·exact absurd h hbad
    ·have hk0 : k = 0 := by
      cases k with
      | zero => rfl
      | succ k =>
        rw [List.take_succ_cons, recsB_cons, List.length_append] at h1
        omega
     subst hk0
     exact ⟨0, Nat.le_refl _, Nat.zero_le _, by rw [scanS_none (torn_none hr (by rw [← hm]; exact hs) h2 hgood)]; rfl, fun e => by simp at e⟩
def TornF : List SegK → List File → Prop
 | [], [] => True
 | x :: xs, g :: gs => g.name = sgN x.s ∧ Torn (sgB x.s) g.now (recsB (x.s.es.take x.k)).length ∧ TornF xs gs
 | _, _ => False
theorem recsB_mod (es : List En) : (recsB es).length % 32 = 0 := by
 induction es with
 | nil => rfl
 | cons e r ih => rw [recsB_cons, List.length_append]; have := recB_mod e; omega
theorem crash_torn (keep : List Bool) : ∀ (xs : List SegK) (n : Nat), TornF xs (crashFiles keep (xs.map fileK) n)
 | [], _ => trivial
 | x :: r, n => by
   rw [List.map_cons]
   unfold crashFiles
   exact ⟨rfl, kept_torn (f := fileK x) (recsB_mod _) (recsB_mod _) (recs_take_all _ _) keep n, crash_torn keep r _⟩
theorem tornF_names : ∀ {xs : List SegK} {gs : List File}, TornF xs gs → gs.map File.name = (xs.map fileK).map File.name
 | [], [], _ => rfl
 | x :: xs, g :: gs, h => by rw [List.map_cons, List.map_cons, List.map_cons, tornF_names h.2.2, h.1]; rfl
 | [], _ :: _, h => h.elim
 | _ :: _, [], h => h.elim
theorem takeO_gap {xs : List SegK} {gs : List File} {i nx : Int} (h : chainS i (segsK xs)) (ht : TornF xs gs) (hn : nx ≠ i) : takeO false nx gs = [] := by
 cases xs with
 | nil => cases gs with
   | nil => rfl
   | cons g r => exact ht.elim
 | cons x r => cases gs with
   | nil => exact ht.elim
   | cons g gs =>
     obtain ⟨h1, h2, h3, h4, h5⟩ := h
     subst h1
     obtain ⟨b1, b2⟩ := seg_bounds h2 h3 h4
     have hi : idxW g.name = x.s.ix := by rw [ht.1]; exact idxW_nmW (by omega) (by omega)
     unfold takeO
     rw [hi, if_pos ⟨rfl, fun e => hn e.symm⟩]
theorem takeO_torn {t : Int} : ∀ (xs : List SegK) (gs : List File) (i : Int) (first : Bool) (nx : Int), chainS i (segsK xs) → (∀ x ∈ xs, SafeK t x) → (first = false → nx = i) → TornF xs gs →
 ∃ n, allE (takeO first nx gs) = (allE (segsK xs)).take n ∧ ∀ e ∈ (allE (segsK xs)).drop n, t < e.ix
 | [], [], i, first, nx, _, _, _, _ => ⟨0, rfl, fun e he => by cases he⟩
 | [], _ :: _, _, _, _, _, _, _, h => h.elim
 | _ :: _, [], _, _, _, _, _, _, h => h.elim
 | x :: xs, g :: gs, i, first, nx, h, hs, hf, ⟨t1, t2, t3⟩ => by
   obtain ⟨h1, h2, h3, h4, h5⟩ := h
   subst h1
   obtain ⟨b1, b2⟩ := seg_bounds h2 h3 h4
   have hi : idxW g.name = x.s.ix := by rw [t1]; exact idxW_nmW (by omega) (by omega)
   obtain ⟨s1, s2, s3⟩ := hs x (by simp)
   obtain ⟨j, j1, j2, j3, j4⟩ := scan_torn x.s.es x.s.ix g.now x.k h3 h4 s1 t2
   have hal : allE (segsK (x :: xs)) = x.s.es ++ allE (segsK xs) := allE_cons _ _
   rw [hal]
   have hrest : j < x.s.es.length → ∀ e ∈ (x.s.es ++ allE (segsK xs)).drop j, t < e.ix := fun hj e he => by
    rw [List.drop_append_of_le_length (by omega)] at he
    have hmem : x.s.es[j] ∈ x.s.es.drop x.k := by
     rw [List.mem_iff_getElem]
     exact ⟨j - x.k, by rw [List.length_drop]; omega, by rw [List.getElem_drop]; congr 1; omega⟩
    rcases List.mem_append.1 he with he | he
    ·obtain ⟨q, hq, rfl⟩ := List.getElem_of_mem he
     rw [List.length_drop] at hq
     refine s3 _ ?_
     rw [List.mem_iff_getElem]
     exact ⟨j + q - x.k, by rw [List.length_drop]; omega, by rw [List.getElem_drop, List.getElem_drop]; congr 1; omega⟩
    ·have h9 := s3 _ hmem
     have h8 := follow_get h3 j hj
     have h7 := follow_ge (chain_follow h5).1 e he
     omega
   unfold takeO
   rw [hi, j3, if_neg (by rintro ⟨a, b⟩; exact b (hf a).symm)]
   by_cases he : x.s.es.take j = []
   ·rw [if_pos he]
    have hj0 : j = 0 := by
     have h7 : min j x.s.es.length = 0 := by
      have h6 := congrArg List.length he
      rw [List.length_take] at h6; exact h6
     have := List.length_pos_iff.2 h2
     omega
    subst hj0
    exact ⟨0, rfl, hrest (List.length_pos_iff.2 h2)⟩
   ·rw [if_neg he]
    by_cases hj : j = x.s.es.length
    ·have hbl := j4 hj
     subst hj
     rw [List.take_length]
     rw [if_pos (by rw [hbl])]
     obtain ⟨n, n1, n2⟩ := takeO_torn xs gs _ false _ h5 (fun y hy => hs y (List.mem_cons_of_mem _ hy)) (fun _ => rfl) t3
     refine ⟨x.s.es.length + n, ?_, ?_⟩
     ·rw [allE_cons, n1, List.take_append, List.take_of_length_le (l := x.s.es) (by omega), Nat.add_sub_cancel_left]
     ·rw [List.drop_append, List.drop_of_length_le (by omega), List.nil_append, Nat.add_sub_cancel_left]; exact n2
    ·have hjl : j < x.s.es.length := by omega
     refine ⟨j, ?_, hrest hjl⟩
     rw [List.take_append_of_le_length (by omega)]
     have hg : takeO false (x.s.ix + ((x.s.es.take j).length : Int)) gs = [] := takeO_gap h5 t3 (by rw [List.length_take]; omega)
     split
     ·rw [hg]
      show (x.s.es.take j) ++ [] = _
      rw [List.append_nil]
     ·show (x.s.es.take j) ++ [] = _
      rw [List.append_nil]
theorem crash_up (s : S) (keep : List Bool) : crash s keep = up (crashFiles keep s.files 0) := rfl
theorem tornF_sorted {xs : List SegK} {gs : List File} {i : Int} (h : chainS i (segsK xs)) (ht : TornF xs gs) : Sorted gs ∧ IdxNamed gs := by
 have hn := tornF_names ht
 refine ⟨?_, fun g hg => ?_⟩
 ·have := chain_sorted h
  rw [sorted_names] at this ⊢
  rw [hn]; exact this
 ·have : g.name ∈ (xs.map fileK).map File.name := by rw [← hn]; exact List.mem_map_of_mem hg
  obtain ⟨f, hf, e⟩ := List.mem_map.1 this
  obtain ⟨j, hj, e2⟩ := idxNamed_K h f hf
  exact ⟨j, hj, by rw [← e, e2]⟩
theorem crash_open {t i : Int} {xs : List SegK} (h : RunK t i xs) (keep : List Bool) :
 ∃ i' T n, openW (crash (diskK xs) keep) = (diskK (T.map fullK), T, 0) ∧ chainS i' T ∧ (∀ s ∈ T, s.wet = false) ∧ allE T = (allE (segsK xs)).take n ∧ ∀ e ∈ (allE (segsK xs)).drop n, t < e.ix := by
 have ht := crash_torn keep xs 0
 obtain ⟨hs, hn⟩ := tornF_sorted h.chain ht
 obtain ⟨i', T, h1, h2, h3, h4⟩ := openW_raw hs hn
 obtain ⟨n, n1, n2⟩ := takeO_torn xs _ i true 0 h.chain h.safe (fun e => by cases e) ht
 exact ⟨i', T, n, h1, h2, h3, by rw [h4]; exact n1, n2⟩
theorem crash_files_nil : ∀ (fs : List File) (n : Nat), crashFiles [] fs n = fs.map (fun f => ⟨f.name, f.safe, f.safe⟩)
 | [], _ => rfl
 | f :: r, n => by
   unfold crashFiles
   simp only [List.map_cons, keptBytes_nil, crash_files_nil r]
theorem crash_full (T : List Sg) : crash (diskK (T.map fullK)) [] = diskK (T.map fullK) := by
 rw [diskK_full, crash_up]
 congr 1
 show crashFiles [] (T.map fileD) 0 = _
 rw [crash_files_nil, List.map_map]
 rfl
theorem full_dry {T : List Sg} (h : ∀ s ∈ T, s.wet = false) : (T.map fullK).map dryK = T.map fullK := by
 rw [List.map_map]
 refine List.map_congr_left fun s hs => ?_
 have hw := h s hs
 obtain ⟨ix, es, wet⟩ := s
 simp only at hw
 subst hw; rfl
theorem open_full {T : List Sg} {i : Int} (h : chainS i T) (hw : ∀ s ∈ T, s.wet = false) : openW (diskK (T.map fullK)) = (diskK (T.map fullK), T, 0) := by
 rw [openW_ok (run_full h 0), full_dry hw, segsK_full]
end Go.Proofs.YtifgajinfcihmaaGreatDoor.Wl
namespace Go.Proofs.YtifgajinfcihmaaGreatDoor.Wl
open Go Pk Dsk Go.Proofs.YtifgajinfcihmaaGreatDoor.Nm
def SmallS (ss : List Sg) : Prop := ∀ s ∈ ss, s.es.length ≤ 8
theorem small_len : ∀ {ss : List Sg}, SmallS ss → (allE ss).length ≤ 8 * ss.length
 | [], _ => Nat.le_refl _
 | s :: r, h => by
   have h1 := h s (by simp)
   have h2 := small_len (ss := r) (fun x hx => h x (List.mem_cons_of_mem _ hx))
   rw [allE_cons, List.length_append, List.length_cons]; omega
theorem wrLast_small {d d' : S} {ss ss' : List Sg} {s : Sg} {e : En} {k : Nat} (h : wrLast d ss s e = (d', ss', k)) (hs : SmallS ss) (hl : s.es.length ≤ 7) : SmallS ss' := by
 unfold wrLast at h
 simp only at h
 split at h
 ·injection h with _ h; injection h with h _
  subst h
  intro x hx
  rcases List.mem_append.1 hx with hx | hx
  ·exact hs x hx
  ·rw [List.mem_singleton.1 hx]
   show (s.es ++ [e]).length ≤ 8
   rw [List.length_append, List.length_singleton]; omega
 ·injection h with _ h; injection h with h _
  subst h
  intro x hx
  rcases List.mem_append.1 hx with hx | hx
  ·exact hs x hx
  ·rw [List.mem_singleton.1 hx]; omega
theorem write1_small {d d' : S} {ss ss' : List Sg} {e : En} {k : Nat} (h : write1 d ss e = (d', ss', k)) (hs : SmallS ss) : SmallS ss' := by
 unfold write1 at h
 simp only at h
 split at h
 ·split at h
  ·exact wrLast_small h hs (Nat.zero_le _)
  ·injection h with _ h; injection h with h _
   subst h; exact hs
 ·next hd =>
  cases hl : ss.getLast? with
  | none => exact absurd (by unfold dueW; rw [hl]) hd
  | some s =>
    rw [hl] at h
    refine wrLast_small h (fun x hx => hs x ((List.dropLast_sublist _).subset hx)) ?_
    have hd' : dueW ss = false := by simpa using hd
    unfold dueW at hd'
    rw [hl] at hd'
    have h1 := of_decide_eq_false hd'
    have h2 := recsB_len_ge s.es
    unfold sgB at h1
    omega
theorem create_full {fs : List File} {n : Name} (hn : named n = true) (h : ∀ g ∈ fs, lt g.name n = true) (hl : fs.length = 256) : create (up fs) n = (up fs, 3) := by
 unfold create
 rw [step_idle rfl]
 simp only [look_none (s := up fs) rfl hn (find_none.2 (fun g hg => lt_ne (h g hg)))]
 rw [if_pos trivial, if_pos (show (up fs).files.length = 256 from hl)]
theorem write1_full {t i : Int} {xs : List SegK} {e : En} (h : RunK t i xs) (hr : rightE e = true) (hi : e.ix = i + (allE (segsK xs)).length) (hd : dueW (segsK xs) = true) (hc : xs.length = 256) : (write1 (diskK xs) (segsK xs) e).2.2 = 3 := by
 have hre := rightE_iff.1 hr
 have hci := chain_ix h.chain
 have hlt : ∀ g ∈ xs.map fileK, lt g.name (nmW e.ix) = true := fun g hg => by
  obtain ⟨x, hx, rfl⟩ := List.mem_map.1 hg
  obtain ⟨a1, a2, a3, a4, a5⟩ := hci x.s (List.mem_map_of_mem hx)
  have := List.length_pos_iff.2 a5
  exact nmW_lt (by omega) (by omega) (by omega)
 unfold write1
 rw [if_pos hd]
 have hcr : create (diskK xs) (nmW e.ix) = (diskK xs, 3) := create_full (nmW_named _) hlt (by rw [List.length_map]; exact hc)
 rw [hcr]
 simp only
 rw [if_neg (by decide)]
theorem write1_all {t i : Int} {xs : List SegK} {e : En} (h : RunK t i xs) (hr : rightE e = true) (hi : e.ix = i + (allE (segsK xs)).length) (ht : t < e.ix) (hc : xs.length ≤ 256) (hs : SmallS (segsK xs)) :
 (∃ ys, write1 (diskK xs) (segsK xs) e = (diskK ys, segsK ys, 0) ∧ RunK t i ys ∧ allE (segsK ys) = allE (segsK xs) ++ [e] ∧ ys.length ≤ 256 ∧ SmallS (segsK ys)) ∨ (write1 (diskK xs) (segsK xs) e).2.2 = 3 := by
 by_cases hf : dueW (segsK xs) = true ∧ xs.length = 256
 ·exact .inr (write1_full h hr hi hf.1 hf.2)
 ·obtain ⟨ys, h1, h2, h3, h4, h5⟩ := write1_run h hr hi ht (fun hd => by
   rcases Nat.lt_or_ge xs.length 256 with h9 | h9
   ·exact h9
   ·exact absurd ⟨hd, by omega⟩ hf)
  refine .inl ⟨ys, h1, h2, h3, ?_, write1_small h1 hs⟩
  cases hd : dueW (segsK xs) with
  | false => rw [h5 hd]; exact hc
  | true =>
    have : xs.length ≠ 256 := fun h9 => hf ⟨hd, h9⟩
    omega
theorem writeAll_all {t i : Int} : ∀ (es : List En) {xs : List SegK}, RunK t i xs → allR es → follow (i + (allE (segsK xs)).length) es → (∀ e ∈ es, t < e.ix) → xs.length ≤ 256 → SmallS (segsK xs) →
 (∃ ys, writeAll (diskK xs) (segsK xs) es = (diskK ys, segsK ys, 0) ∧ RunK t i ys ∧ allE (segsK ys) = allE (segsK xs) ++ es ∧ ys.length ≤ 256 ∧ SmallS (segsK ys)) ∨ (writeAll (diskK xs) (segsK xs) es).2.2 = 3
 | [], xs, h, _, _, _, hc, hs => .inl ⟨xs, rfl, h, by simp, hc, hs⟩
 | e :: r, xs, h, ha, hf, ht, hc, hs => by
   rcases write1_all h (ha e (by simp)) hf.1 (ht e (by simp)) hc hs with ⟨ys, h1, h2, h3, h4, h5⟩ | h1
   ·have hw : writeAll (diskK xs) (segsK xs) (e :: r) = writeAll (diskK ys) (segsK ys) r := by
     conv => lhs; unfold writeAll
     rw [h1]
     simp only
     rw [if_pos trivial]
    rw [hw]
    rcases writeAll_all r h2 (fun x hx => ha x (List.mem_cons_of_mem _ hx)) (by
     rw [h3, List.length_append, List.length_singleton]
     have := hf.2
     rw [show i + (((allE (segsK xs)).length + 1 : Nat) : Int) = i + ((allE (segsK xs)).length : Int) + 1 by omega]
     exact this) (fun x hx => ht x (List.mem_cons_of_mem _ hx)) h4 h5 with ⟨zs, k1, k2, k3, k4, k5⟩ | k1
    ·exact .inl ⟨zs, k1, k2, by rw [k3, h3, List.append_assoc]; rfl, k4, k5⟩
    ·exact .inr k1
   ·right
    unfold writeAll
    rw [if_neg (by rw [h1]; decide)]
    exact h1
theorem append_start {t i : Int} {es : List En} {xs : List SegK} (h : RunK t i xs) (ht : t = 0 ∨ (allE (segsK xs) ≠ [] ∧ t ≤ lastE (allE (segsK xs)))) (ha : allR es) (h2 : gapB (lastE (allE (segsK xs))) es = false) :
 ∃ j, RunK t j xs ∧ follow (j + (allE (segsK xs)).length) es ∧ (∀ e ∈ es, t < e.ix) ∧ (xs = [] ∨ j = i) := by
 by_cases he : allE (segsK xs) = []
 ·have hx := h.empty he
  subst hx
  have ht0 : t = 0 := by
   rcases ht with ht | ⟨ht, _⟩
   ·exact ht
   ·exact absurd he ht
  cases es with
  | nil => exact ⟨i, h, trivial, (fun _ h => by cases h), .inl rfl⟩
  | cons e r =>
    have hre := rightE_iff.1 (ha e (by simp))
    have hf : follow e.ix (e :: r) := by
     refine ⟨rfl, follow_gap (by omega) (fun x hx => ha x (List.mem_cons_of_mem _ hx)) ?_⟩
     rw [he] at h2
     unfold gapB at h2
     rw [if_neg (by rintro ⟨h9, _⟩; exact h9 rfl)] at h2
     exact h2
    exact ⟨e.ix, RunK.nil _ _, by simpa [segsK, allE] using hf, (fun x hx => by
     have := rightE_iff.1 (ha x hx); omega), .inl rfl⟩
 ·have hl := h.last he
  have hci := chain_follow h.chain
  have hlp := List.length_pos_iff.2 he
  have h1i := rightE_iff.1 (hci.2 _ (List.getElem_mem hlp))
  have h2i := follow_get hci.1 0 hlp
  have hf : follow (i + (allE (segsK xs)).length) es := by
   have := follow_gap (by omega) ha h2
   rw [hl, show i + ((allE (segsK xs)).length : Int) - 1 + 1 = i + ((allE (segsK xs)).length : Int) by omega] at this
   exact this
  exact ⟨i, h, hf, (fun x hx => by
   have := follow_ge hf x hx
   rcases ht with ht | ⟨_, ht⟩ <;> omega), .inr rfl⟩
structure KpOK (t i : Int) (xs : List SegK) : Prop where
 run : RunK t i xs
 len : xs.length ≤ 256
 small : SmallS (segsK xs)
 safe : t = 0 ∨ (allE (segsK xs) ≠ [] ∧ firstE (allE (segsK xs)) ≤ t ∧ t ≤ lastE (allE (segsK xs)))
theorem KpOK.top {t i : Int} {xs : List SegK} (h : KpOK t i xs) : t = 0 ∨ (allE (segsK xs) ≠ [] ∧ t ≤ lastE (allE (segsK xs))) := h.safe.imp id (fun h => ⟨h.1, h.2.2⟩)
theorem KpOK.count {t i : Int} {xs : List SegK} (h : KpOK t i xs) : (segsK xs).length ≤ 256 ∧ (allE (segsK xs)).length ≤ 2048 := by
 have h1 := small_len h.small
 have h2 := h.len
 have h3 : (segsK xs).length = xs.length := List.length_map ..
 omega
theorem KpOK.right {t i : Int} {xs : List SegK} (h : KpOK t i xs) : allR (allE (segsK xs)) := (chain_follow h.run.chain).2
theorem KpOK.ne {t i : Int} {xs : List SegK} (h : KpOK t i xs) : ∀ s ∈ segsK xs, s.es ≠ [] := fun s hs => (chain_ix h.run.chain s hs).2.2.2.2
theorem KpOK.nil (i : Int) : KpOK 0 i [] := ⟨RunK.nil _ _, Nat.zero_le _, (fun _ h => by cases h), .inl rfl⟩
theorem kp_append {t i : Int} {xs : List SegK} (h : KpOK t i xs) (es : List En) :
 (appendW (diskK xs) (segsK xs) es).2.2 = 3 ∨ ∃ j ys c, appendW (diskK xs) (segsK xs) es = (diskK ys, segsK ys, c) ∧ (c = 0 ∨ c = 1 ∨ c = 60) ∧ KpOK t j ys := by
 cases h1 : es.any (fun e => !rightE e) with
 | true => exact .inr ⟨i, xs, 1, by unfold appendW; rw [h1, if_pos rfl], .inr (.inl rfl), h⟩
 | false =>
   have ha := all_right h1
   cases h2 : gapB (lastE (allE (segsK xs))) es with
   | true => exact .inr ⟨i, xs, 60, by unfold appendW; rw [h1, if_neg (by decide), h2, if_pos rfl], .inr (.inr rfl), h⟩
   | false =>
     obtain ⟨j, k1, k2, k3, -⟩ := append_start h.run h.top ha h2
     have e0 : appendW (diskK xs) (segsK xs) es = writeAll (diskK xs) (segsK xs) es := by unfold appendW; rw [h1, if_neg (by decide), h2, if_neg (by decide)]
     rw [e0]
     rcases writeAll_all es k1 ha k2 k3 h.len h.small with ⟨ys, u1, u2, u3, u4, u5⟩ | u1
     ·refine .inr ⟨j, ys, 0, u1, .inl rfl, u2, u4, u5, ?_⟩
      rcases h.safe with hs | ⟨s1, s2, s3⟩
      ·exact .inl hs
      ·right
       have hp := List.length_pos_iff.2 s1
       have hne : allE (segsK ys) ≠ [] := by rw [u3]; intro h9; exact s1 (List.append_eq_nil_iff.1 h9).1
       refine ⟨hne, ?_, ?_⟩
       ·have : firstE (allE (segsK ys)) = firstE (allE (segsK xs)) := by
         rw [u3]; unfold firstE
         cases h9 : allE (segsK xs) with
         | nil => exact absurd h9 s1
         | cons e r => rfl
        rw [this]; exact s2
       ·have l1 := last_follow (chain_follow u2.chain).1 hne
        have l2 := last_follow (chain_follow k1.chain).1 s1
        rw [l1, u3, List.length_append]
        omega
     ·exact .inl u1
theorem kp_inv {t i : Int} {xs : List SegK} (h : KpOK t i xs) {es : List En} (ha : allR es) (h2 : gapB (lastE (allE (segsK xs))) es = false) :
 ∃ P : Nat → S → List Sg → Prop, P 0 (diskK xs) (segsK xs) ∧
   (∀ k dk sk d2 s2, P k dk sk → (hk : k < es.length) → write1 dk sk es[k] = (d2, s2, 0) → P (k + 1) d2 s2) ∧ ∀ k dk sk, P k dk sk → sk.length + 1 ≤ 900000 ∧ (allE sk).length + 1 ≤ 900000 := by
 obtain ⟨j, k1, k2, k3, -⟩ := append_start h.run h.top ha h2
 refine ⟨fun k dk sk => ∃ ys, dk = diskK ys ∧ sk = segsK ys ∧ RunK t j ys ∧ ys.length ≤ 256 ∧ SmallS (segsK ys) ∧ follow (j + (allE (segsK ys)).length) (es.drop k), ⟨xs, rfl, rfl, k1, h.len, h.small, k2⟩, ?_, ?_⟩
 ·rintro k dk sk d2 s2 ⟨ys, rfl, rfl, u1, u2, u3, u4⟩ hk hw
  rw [List.drop_eq_getElem_cons hk] at u4
  rcases write1_all u1 (ha _ (List.getElem_mem hk)) u4.1 (k3 _ (List.getElem_mem hk)) u2 u3 with ⟨zs, v1, v2, v3, v4, v5⟩ | v1
  ·rw [hw] at v1
   injection v1 with e1 e2; injection e2 with e2 _
   subst e1; subst e2
   refine ⟨zs, rfl, rfl, v2, v4, v5, ?_⟩
   rw [v3, List.length_append, List.length_singleton, show j + (((allE (segsK ys)).length + 1 : Nat) : Int) = j + ((allE (segsK ys)).length : Int) + 1 by omega]
   exact u4.2
  ·rw [hw] at v1; cases v1
 ·rintro k dk sk ⟨ys, rfl, rfl, u1, u2, u3, u4⟩
  have h1 := small_len u3
  have h3 : (segsK ys).length = ys.length := List.length_map ..
  omega
theorem firstE_hd : ∀ {es : List En} (h : 0 < es.length), firstE es = es[0].ix
 | _ :: _, _ => rfl
theorem firstE_run {t i : Int} {xs : List SegK} (h : RunK t i xs) (hne : allE (segsK xs) ≠ []) : firstE (allE (segsK xs)) = i := by
 have hp := List.length_pos_iff.2 hne
 have h1 := follow_get (chain_follow h.chain).1 0 hp
 have h2 := firstE_hd hp
 omega
theorem run_pos {t i : Int} {xs : List SegK} (h : RunK t i xs) (hne : allE (segsK xs) ≠ []) : 1 ≤ i := by
 have hp := List.length_pos_iff.2 hne
 have h1 := follow_get (chain_follow h.chain).1 0 hp
 have h2 := rightE_iff.1 ((chain_follow h.chain).2 _ (List.getElem_mem hp))
 omega
theorem small_dry {xs : List SegK} (h : SmallS (segsK xs)) : SmallS (segsK (xs.map dryK)) := fun s hs => by
 obtain ⟨y, hy, rfl⟩ := List.mem_map.1 hs
 obtain ⟨x, hx, rfl⟩ := List.mem_map.1 hy
 exact h x.s (List.mem_map_of_mem hx)
theorem kp_sync {t i : Int} {xs : List SegK} (h : KpOK t i xs) : KpOK (lastE (allE (segsK (xs.map dryK)))) i (xs.map dryK) := by
 refine ⟨h.run.dry _, by rw [List.length_map]; exact h.len, small_dry h.small, ?_⟩
 rw [allE_dry]
 by_cases he : allE (segsK xs) = []
 ·left; rw [he]; rfl
 ·right
  have hp := List.length_pos_iff.2 he
  rw [firstE_run h.run he, h.run.last he]
  exact ⟨he, by omega, Int.le_refl _⟩
theorem run_mono {t t' i : Int} {xs : List SegK} (h : RunK t i xs) (ht : t' ≤ t) : RunK t' i xs := ⟨h.chain, fun x hx => by
 obtain ⟨a, b, c⟩ := h.safe x hx
 exact ⟨a, b, fun e he => by have := c e he; omega⟩⟩
theorem kp_nonneg {t i : Int} {xs : List SegK} (h : KpOK t i xs) : 0 ≤ t := by
 rcases h.safe with hs | ⟨s1, s2, _⟩
 ·omega
 ·have := run_pos h.run s1
  rw [firstE_run h.run s1] at s2; omega
theorem lastE_nil {es : List En} (h : es = []) : lastE es = 0 := by rw [h]; rfl
theorem small_last {ss : List Sg} {s : Sg} (h : SmallS ss) (hl : ss.getLast? = some s) : s.es.length ≤ 8 := h s (List.mem_of_getLast? hl)
theorem small_dl {ss : List Sg} (h : SmallS ss) : SmallS ss.dropLast := fun s hs => h s ((List.dropLast_sublist _).subset hs)
theorem cutF_small : ∀ (n : Nat) {d d' : S} {ss ss' : List Sg} {c : Int} {k : Nat}, cutF n d ss c = (d', ss', k) → SmallS ss → SmallS ss'
 | 0, d, d', ss, ss', c, k, h, hs => by
   unfold cutF at h
   injection h with _ h; injection h with h _
   subst h; exact hs
 | n + 1, d, d', ss, ss', c, k, h, hs => by
   unfold cutF at h
   cases hl : ss.getLast? with
   | none =>
     rw [hl] at h
     injection h with _ h; injection h with h _
     subst h; exact hs
   | some s =>
     rw [hl] at h
     simp only at h
     split at h
     ·injection h with _ h; injection h with h _
      subst h; exact hs
     ·split at h
      ·split at h
       ·exact cutF_small n h (small_dl hs)
       ·injection h with _ h; injection h with h _
        subst h; exact hs
      ·split at h
       ·refine cutF_small n h (fun x hx => ?_)
        rcases List.mem_append.1 hx with hx | hx
        ·exact small_dl hs x hx
        ·rw [List.mem_singleton.1 hx]
         have := small_last hs hl
         show (s.es.take _).length ≤ 8
         rw [List.length_take]; omega
       ·injection h with _ h; injection h with h _
        subst h; exact hs
theorem kp_cut {t i c : Int} {xs : List SegK} (h : KpOK t i xs) :
 ∃ ys, cutW (diskK xs) (segsK xs) c = (diskK ys, segsK ys, 0) ∧ KpOK (min t (lastE (allE (segsK ys)))) i ys := by
 obtain ⟨ys, u1, u2, u3, u4⟩ := cutW_ok (c := c) h.run
 have h0 := kp_nonneg h
 refine ⟨ys, u1, run_mono u2 (Int.min_le_left _ _), Nat.le_trans u4 h.len, ?_, ?_⟩
 ·unfold cutW at u1; exact cutF_small _ u1 h.small
 ·by_cases hne : allE (segsK ys) = []
  ·left; rw [lastE_nil hne]; omega
  ·rcases h.safe with hs | ⟨s1, s2, s3⟩
   ·left
    have l1 := u2.last hne
    have p1 := run_pos u2 hne
    have := List.length_pos_iff.2 hne
    omega
   ·right
    rw [firstE_run h.run s1] at s2
    have l1 := u2.last hne
    have := List.length_pos_iff.2 hne
    rw [firstE_run u2 hne]
    exact ⟨hne, by omega, Int.min_le_right _ _⟩
theorem kp_drop {t i c : Int} {xs : List SegK} (h : KpOK t i xs) :
 ∃ j ys, dropW (diskK xs) (segsK xs) c = (diskK ys, segsK ys, 0) ∧ KpOK (if t < firstE (allE (segsK ys)) ∨ lastE (allE (segsK ys)) = 0 then 0 else t) j ys := by
 obtain ⟨pre, ys, u1, u2, u3, -, -⟩ := dropW_ok (c := c) xs h.run
 have hsm : SmallS (segsK ys) := fun s hs => h.small s (by rw [u1, segsK_append]; exact List.mem_append_right _ hs)
 have hle : ys.length ≤ 256 := by have := h.len; rw [u1, List.length_append] at this; omega
 have h0 := kp_nonneg h
 refine ⟨i + (allE (segsK pre)).length, ys, u2, ?_⟩
 split
 ·exact ⟨run_mono u3 h0, hle, hsm, .inl rfl⟩
 ·next hc =>
  refine ⟨u3, hle, hsm, ?_⟩
  rcases h.safe with hs | ⟨s1, s2, s3⟩
  ·exact .inl hs
  ·right
   have hne : allE (segsK ys) ≠ [] := fun h9 => hc (.inr (lastE_nil h9))
   refine ⟨hne, by omega, ?_⟩
   have l1 := u3.last hne
   have l2 := h.run.last s1
   rw [u1, segsK_append] at l2
   have e9 : (allE (segsK pre ++ segsK ys)).length = (allE (segsK pre)).length + (allE (segsK ys)).length := by unfold allE; rw [List.flatMap_append, List.length_append]
   rw [e9] at l2
   rw [u1, segsK_append] at s3
   omega
theorem kp_crash {t i : Int} {xs : List SegK} (h : KpOK t i xs) (keep : List Bool) :
 ∃ i' T n, openW (crash (diskK xs) keep) = (diskK (T.map fullK), T, 0) ∧ chainS i' T ∧ allE T = (allE (segsK xs)).take n ∧ n ≤ (allE (segsK xs)).length ∧ (t = 0 ∨ t ≤ lastE (allE T)) := by
 obtain ⟨i', T, n, k1, k2, k3, k4, k5⟩ := crash_open h.run keep
 refine ⟨i', T, min n (allE (segsK xs)).length, k1, k2, by rw [k4, List.take_eq_take_iff]; omega, Nat.min_le_right _ _, ?_⟩
 rcases h.safe with hs | ⟨s1, s2, s3⟩
 ·exact .inl hs
 ·right
  rw [firstE_run h.run s1] at s2
  rw [h.run.last s1] at s3
  have hf := (chain_follow h.run.chain).1
  have hlt : (t - i).toNat < (allE (segsK xs)).length := by omega
  have hg := follow_get hf _ hlt
  have hn : (t - i).toNat < n := by
   rcases Nat.lt_or_ge (t - i).toNat n with h9 | h9
   ·exact h9
   ·exfalso
    have hm : (allE (segsK xs))[(t - i).toNat] ∈ (allE (segsK xs)).drop n := by
     rw [List.mem_iff_getElem]
     exact ⟨(t - i).toNat - n, by rw [List.length_drop]; omega, by rw [List.getElem_drop]; congr 1; omega⟩
    have := k5 _ hm
    omega
  have hf2 : follow i ((allE (segsK xs)).take n) := by
   rw [← List.take_append_drop n (allE (segsK xs))] at hf
   exact (follow_append.1 hf).1
  have hne : (allE (segsK xs)).take n ≠ [] := fun h9 => by
   have := congrArg List.length h9
   rw [List.length_take, List.length_nil] at this; omega
  rw [k4, last_follow hf2 hne, List.length_take]
  omega
end Go.Proofs.YtifgajinfcihmaaGreatDoor.Wl
