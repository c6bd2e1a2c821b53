/- Layer 6: a wal: plain words, no program. -/
import Derived.Test.YtifgajinfcihmaaGreatDoorHAn
import Derived.Test.YtifgajinfcihmaaGreatDoorHAo
import Derived.Test.YtifgajinfcihmaaGreatDoorHAs
import Derived.Test.YtifgajinfcihmaaGreatDoorHAm
namespace Go.Proofs.YtifgajinfcihmaaGreatDoor.Wl
open Go Pk Dsk Nm
def recsB (es : List En) : List UInt8 := es.flatMap recB
theorem recsB_cons (e : En) (es : List En) : recsB (e :: es) = recB e ++ recsB es := by unfold recsB; simp
theorem recsB_append (xs ys : List En) : recsB (xs ++ ys) = recsB xs ++ recsB ys := by unfold recsB; simp
theorem recsB_snoc (xs : List En) (e : En) : recsB (xs ++ [e]) = recsB xs ++ recB e := by unfold recsB; simp
theorem recsB_len_ge : ∀ es : List En, 32 * es.length ≤ (recsB es).length
 | [] => by simp
 | e :: r => by
   have := recsB_len_ge r
   have := recB_pos e
   rw [recsB_cons, List.length_append, List.length_cons]; omega
def follow : Int → List En → Prop
 | _, [] => True
 | i, e :: r => e.ix = i ∧ follow (i + 1) r
def allR (es : List En) : Prop := ∀ e ∈ es, rightE e = true
theorem follow_get : ∀ {es : List En} {i : Int}, follow i es → ∀ k (h : k < es.length), es[k].ix = i + k
 | e :: r, i, h, 0, _ => by have := h.1; simp [this]
 | e :: r, i, h, k + 1, hk => by
   have := follow_get h.2 k (by simpa using hk)
   simp only [List.getElem_cons_succ]; rw [this]; omega
theorem follow_append : ∀ {xs ys : List En} {i : Int}, follow i (xs ++ ys) ↔ follow i xs ∧ follow (i + xs.length) ys
 | [], ys, i => by simp [follow]
 | e :: r, ys, i => by
   show (e.ix = i ∧ follow (i + 1) (r ++ ys)) ↔ _
   rw [follow_append]
   show _ ↔ (e.ix = i ∧ follow (i + 1) r) ∧ _
   rw [List.length_cons, show i + 1 + (r.length : Int) = i + ((r.length + 1 : Nat) : Int) by omega, and_assoc]
def scanF : Nat → Int → List UInt8 → List En
 | 0, _, _ => []
 | n + 1, i, b =>
   match entryS b with
   | none => []
   | some (e, k) => if e.ix = i then e :: scanF n (i + 1) (b.drop k) else []
def scanS (i : Int) (b : List UInt8) : List En := scanF (b.length + 1) i b
theorem scanF_none {n : Nat} {i : Int} {b : List UInt8} (h : entryS b = none) : scanF n i b = [] := by
 cases n with
 | zero => rfl
 | succ n => unfold scanF; rw [h]
theorem scanF_no {n : Nat} {i : Int} {b : List UInt8} {e : En} {k : Nat} (h : entryS b = some (e, k)) (hi : e.ix ≠ i) : scanF n i b = [] := by
 cases n with
 | zero => rfl
 | succ n => unfold scanF; rw [h]; simp only; rw [if_neg hi]
theorem scanF_yes {n : Nat} {i : Int} {b : List UInt8} {e : En} {k : Nat} (h : entryS b = some (e, k)) (hi : e.ix = i) : scanF (n + 1) i b = e :: scanF n (i + 1) (b.drop k) := by
 rw [scanF, h]; simp only; rw [if_pos hi]
theorem entryS_short {b : List UInt8} (h : b.length < 32) : entryS b = none := by
 cases he : entryS b with
 | none => rfl
 | some x => obtain ⟨e, n⟩ := x; have := entryS_pos he; omega
theorem scanF_fuel : ∀ (n m : Nat) (i : Int) (b : List UInt8), b.length < 32 * n + 32 → b.length < 32 * m + 32 → scanF n i b = scanF m i b
 | 0, m, i, b, h, _ => by rw [scanF_none (entryS_short (by omega)), scanF_none (entryS_short (by omega))]
 | n + 1, 0, i, b, _, h => by rw [scanF_none (entryS_short (by omega)), scanF_none (entryS_short (by omega))]
 | n + 1, m + 1, i, b, h1, h2 => by
   unfold scanF
   cases he : entryS b with
   | none => rfl
   | some x =>
     obtain ⟨e, k⟩ := x
     have := entryS_pos he
     simp only
     by_cases hi : e.ix = i
     ·rw [if_pos hi, if_pos hi, scanF_fuel n m (i + 1) (b.drop k) (by rw [List.length_drop]; omega) (by rw [List.length_drop]; omega)]
     ·rw [if_neg hi, if_neg hi]
theorem scanS_eq {n : Nat} {i : Int} {b : List UInt8} (h : b.length < 32 * n + 32) : scanF n i b = scanS i b := scanF_fuel _ _ _ _ h (by omega)
theorem scanS_yes {i : Int} {b : List UInt8} {e : En} {k : Nat} (h : entryS b = some (e, k)) (hi : e.ix = i) : scanS i b = e :: scanS (i + 1) (b.drop k) := by
 unfold scanS
 have hp := entryS_pos h
 rw [scanF_yes h hi, scanS_eq (n := b.length) (by rw [List.length_drop]; omega)]; rfl
theorem scanS_none {i : Int} {b : List UInt8} (h : entryS b = none) : scanS i b = [] := scanF_none h
theorem scanS_no {i : Int} {b : List UInt8} {e : En} {k : Nat} (h : entryS b = some (e, k)) (hi : e.ix ≠ i) : scanS i b = [] := scanF_no h hi
theorem scanF_ok : ∀ (n : Nat) (i : Int) (b : List UInt8), follow i (scanF n i b) ∧ allR (scanF n i b) ∧ b.take (recsB (scanF n i b)).length = recsB (scanF n i b)
 | 0, i, b => ⟨trivial, (fun _ h => by cases h), by simp [scanF, recsB]⟩
 | n + 1, i, b => by
   cases he : entryS b with
   | none => rw [scanF_none he]; exact ⟨trivial, (fun _ h => by cases h), by simp [recsB]⟩
   | some x =>
     obtain ⟨e, k⟩ := x
     by_cases hi : e.ix = i
     ·rw [scanF_yes he hi]
      obtain ⟨h1, h2, h3⟩ := scanF_ok n (i + 1) (b.drop k)
      obtain ⟨hr, hk, hb⟩ := entryS_iff.1 he
      refine ⟨⟨hi, h1⟩, fun x hx => ?_, ?_⟩
      ·rcases List.mem_cons.1 hx with rfl | hx
       ·exact hr
       ·exact h2 x hx
      ·rw [recsB_cons, List.length_append, ← hk, List.take_add, hb, h3]
     ·rw [scanF_no he hi]; exact ⟨trivial, (fun _ h => by cases h), by simp [recsB]⟩
theorem scanS_ok (i : Int) (b : List UInt8) : follow i (scanS i b) ∧ allR (scanS i b) ∧ b.take (recsB (scanS i b)).length = recsB (scanS i b) := scanF_ok _ i b
theorem scanS_recs : ∀ (es : List En) (i : Int) (r : List UInt8), follow i es → allR es → scanS i (recsB es ++ r) = es ++ scanS (i + es.length) r
 | [], i, r, _, _ => by simp [recsB]
 | e :: es, i, r, hf, ha => by
   have hr := ha e (by simp)
   have he : entryS (recsB (e :: es) ++ r) = some (e, (recB e).length) := by rw [recsB_cons, List.append_assoc]; exact entryS_rec hr _
   rw [scanS_yes he hf.1]
   have hd : (recsB (e :: es) ++ r).drop (recB e).length = recsB es ++ r := by rw [recsB_cons, List.append_assoc, List.drop_left]
   rw [hd, scanS_recs es (i + 1) r hf.2 (fun x hx => ha x (List.mem_cons_of_mem _ hx)), List.length_cons, List.cons_append]
   congr 2; congr 1; omega
theorem scanS_all {es : List En} {i : Int} (hf : follow i es) (ha : allR es) : scanS i (recsB es) = es := by
 have := scanS_recs es i [] hf ha
 rw [List.append_nil] at this
 rw [this, scanS_none (entryS_short (by simp)), List.append_nil]
structure Sg where
 ix : Int
 es : List En
 wet : Bool
def nmW (i : Int) : Name := nmOf 119 i.toNat
def sgN (s : Sg) : Name := nmW s.ix
def sgB (s : Sg) : List UInt8 := recsB s.es
def allE (ss : List Sg) : List En := ss.flatMap Sg.es
theorem allE_snoc (ss : List Sg) (s : Sg) : allE (ss ++ [s]) = allE ss ++ s.es := by unfold allE; simp
theorem allE_cons (s : Sg) (ss : List Sg) : allE (s :: ss) = s.es ++ allE ss := by unfold allE; simp
def lastE (es : List En) : Int := match es.getLast? with
 | none => 0
 | some e => e.ix
def firstE (es : List En) : Int := match es.head? with
 | none => 0
 | some e => e.ix
theorem lastE_snoc (es : List En) (e : En) : lastE (es ++ [e]) = e.ix := by unfold lastE; simp
def wrLast (d : S) (ss : List Sg) (s : Sg) (e : En) : S × List Sg × Nat :=
 let r := write d (sgN s) ((sgB s).length : Int) (recB e)
 if r.2 = 0 then (r.1, ss ++ [⟨s.ix, s.es ++ [e], true⟩], 0) else (r.1, ss ++ [s], r.2)
def dueW (ss : List Sg) : Bool := match ss.getLast? with
 | none => true
 | some s => decide (256 ≤ (sgB s).length)
def write1 (d : S) (ss : List Sg) (e : En) : S × List Sg × Nat :=
 if dueW ss = true then
  let r := create d (nmW e.ix)
  if r.2 = 0 then wrLast r.1 ss ⟨e.ix, [], false⟩ e else (r.1, ss, r.2)
 else match ss.getLast? with
  | none => (d, ss, 0)
  | some s => wrLast d ss.dropLast s e
def writeAll (d : S) (ss : List Sg) : List En → S × List Sg × Nat
 | [] => (d, ss, 0)
 | e :: r => if (write1 d ss e).2.2 = 0 then writeAll (write1 d ss e).1 (write1 d ss e).2.1 r else write1 d ss e
def gapB : Int → List En → Bool
 | _, [] => false
 | l, e :: r => if l ≠ 0 ∧ e.ix ≠ l + 1 then true else gapB e.ix r
def appendW (d : S) (ss : List Sg) (es : List En) : S × List Sg × Nat :=
 if es.any (fun e => !rightE e) then (d, ss, 1)
 else if gapB (lastE (allE ss)) es then (d, ss, 60)
 else writeAll d ss es
def syncW (d : S) (pre : List Sg) : List Sg → S × List Sg × Nat
 | [] => (d, pre, 0)
 | s :: r =>
   if s.wet = true then
    if (sync d (sgN s)).2 = 0 then syncW (sync d (sgN s)).1 (pre ++ [⟨s.ix, s.es, false⟩]) r else ((sync d (sgN s)).1, pre ++ s :: r, (sync d (sgN s)).2)
   else syncW d (pre ++ [s]) r
def syncO (d : S) : List Sg → S × Nat
 | [] => (d, 0)
 | s :: r => if (sync d (sgN s)).2 = 0 then syncO (sync d (sgN s)).1 r else sync d (sgN s)
def keepN (s : Sg) (last i : Int) : Nat := (i - (last - s.es.length + 1)).toNat
def cutF : Nat → S → List Sg → Int → S × List Sg × Nat
 | 0, d, ss, _ => (d, ss, 0)
 | n + 1, d, ss, i =>
   match ss.getLast? with
   | none => (d, ss, 0)
   | some s =>
     if lastE (allE ss) < i then (d, ss, 0)
     else if keepN s (lastE (allE ss)) i = 0 then
      if (remove d (sgN s)).2 = 0 then cutF n (remove d (sgN s)).1 ss.dropLast i else ((remove d (sgN s)).1, ss, (remove d (sgN s)).2)
     else
      let k := keepN s (lastE (allE ss)) i
      let r := cut d (sgN s) ((recsB (s.es.take k)).length : Int)
      if r.2 = 0 then cutF n r.1 (ss.dropLast ++ [⟨s.ix, s.es.take k, s.wet⟩]) i else (r.1, ss, r.2)
def cutW (d : S) (ss : List Sg) (i : Int) : S × List Sg × Nat := cutF (ss.length + 1) d ss i
def dropW (d : S) (ss : List Sg) (i : Int) : S × List Sg × Nat :=
 match ss with
 | [] => (d, [], 0)
 | s :: r =>
   if i < lastE s.es then (d, s :: r, 0)
   else if (remove d (sgN s)).2 = 0 then dropW (remove d (sgN s)).1 r i else ((remove d (sgN s)).1, s :: r, (remove d (sgN s)).2)
def rmW (s : S) : List Name → S × Nat
 | [] => (s, 0)
 | n :: r => if (remove s n).2 = 0 then rmW (remove s n).1 r else remove s n
def idxW (n : Name) : Int := match idxN 119 n with
 | none => 0
 | some i => (i : Int)
def loadW (d : S) (ss : List Sg) : List Name → S × List Sg × Nat
 | [] => (d, ss, 0)
 | n :: r =>
   if allE ss ≠ [] ∧ idxW n ≠ lastE (allE ss) + 1 then ((rmW d (n :: r).reverse).1, ss, (rmW d (n :: r).reverse).2)
   else if (read d n).2 ≠ 0 then (d, ss, (read d n).2)
   else
    let es := scanS (idxW n) (read d n).1
    if es = [] then ((rmW d (n :: r).reverse).1, ss, (rmW d (n :: r).reverse).2)
    else if (recsB es).length = (read d n).1.length then loadW d (ss ++ [⟨idxW n, es, false⟩]) r
    else if (rmW d r.reverse).2 ≠ 0 then ((rmW d r.reverse).1, ss ++ [⟨idxW n, es, false⟩], (rmW d r.reverse).2)
    else ((cut (rmW d r.reverse).1 n ((recsB es).length : Int)).1, ss ++ [⟨idxW n, es, false⟩], (cut (rmW d r.reverse).1 n ((recsB es).length : Int)).2)
def namesW (d : S) : List Name := (snames d).filter fun n => (idxN 119 n).isSome
def openW (d : S) : S × List Sg × Nat :=
 if d.down then (d, [], 50)
 else
  let r := loadW d [] (namesW d)
  if r.2.2 ≠ 0 then r
  else ((syncO r.1 r.2.1).1, r.2.1, (syncO r.1 r.2.1).2)
end Go.Proofs.YtifgajinfcihmaaGreatDoor.Wl
namespace Go.Proofs.YtifgajinfcihmaaGreatDoor.Wl
open Go Pk Dsk Nm
theorem lt_append : ∀ {a b x y : Name}, a.length = b.length → lt (a ++ x) (b ++ y) = (lt a b || (a == b && lt x y))
 | [], [], x, y, _ => by
   show lt x y = (lt [] [] || (true && lt x y))
   rw [lt_irrefl]; simp
 | c :: a, d :: b, x, y, h => by
   have ih := @lt_append a b x y (by simpa using h)
   show (decide (c < d) || (c == d && lt (a ++ x) (b ++ y))) = ((decide (c < d) || (c == d && lt a b)) || ((c :: a) == (d :: b) && lt x y))
   rw [ih]
   have h2 : ((c :: a) == (d :: b)) = (c == d && a == b) := rfl
   rw [h2]
   cases decide (c < d) <;> cases (c == d) <;> cases lt a b <;> cases (a == b) <;> cases lt x y <;> rfl
 | [], d :: b, _, _, h => by simp at h
 | c :: a, [], _, _, h => by simp at h
theorem pad_lt : ∀ (k i j : Nat), j < 10 ^ k → i < j → lt (pad k i) (pad k j) = true
 | 0, i, j, h, h2 => by simp at h; omega
 | k + 1, i, j, h, h2 => by
   unfold pad
   rw [lt_append (by rw [pad_len, pad_len])]
   by_cases hq : i / 10 < j / 10
   ·rw [pad_lt k _ _ (by rw [Nat.pow_succ] at h; omega) hq]; rfl
   ·have e : i / 10 = j / 10 := by omega
    rw [e]
    have h3 : lt [UInt8.ofNat (48 + i % 10)] [UInt8.ofNat (48 + j % 10)] = true := by
     show (decide (_ < _) || _) = true
     rw [Bool.or_eq_true]; left
     rw [decide_eq_true_eq, UInt8.lt_iff_toNat_lt, dig_ok _ (by omega), dig_ok _ (by omega)]; omega
    rw [h3]; simp
theorem nmW_lt {i j : Int} (h0 : 0 ≤ i) (h1 : i < j) (h2 : j < 1000000000000000) : lt (nmW i) (nmW j) = true := by
 unfold nmW nmOf
 have h := pad_lt 15 i.toNat j.toNat (by simp; omega) (by omega)
 show (decide ((119 : UInt8) < 119) || ((119 : UInt8) == 119 && lt (pad 15 i.toNat) (pad 15 j.toNat))) = true
 rw [h]; rfl
theorem nmW_named (i : Int) : named (nmW i) = true := by unfold named nmW; rw [nmOf_len]; decide
theorem nmW_idx {i : Int} (h0 : 0 ≤ i) (h1 : i < 1000000000000000) : idxN 119 (nmW i) = some i.toNat := idxN_iff.2 ⟨by omega, rfl⟩
theorem idxW_nmW {i : Int} (h0 : 0 ≤ i) (h1 : i < 1000000000000000) : idxW (nmW i) = i := by
 unfold idxW; rw [nmW_idx h0 h1]; simp only; omega
def up (fs : List File) : S := ⟨fs, false, 0⟩
section
variable {pre post fs : List File} {f : File}
theorem mid_ne (hs : Sorted (pre ++ f :: post)) : (∀ g ∈ pre, g.name ≠ f.name) ∧ (∀ g ∈ post, g.name ≠ f.name) := by
 unfold Sorted at hs
 rw [List.pairwise_append, List.pairwise_cons] at hs
 exact ⟨fun g hg => lt_ne (hs.2.2 g hg f (by simp)), fun g hg e => lt_ne (hs.2.1.1 g hg) e.symm⟩
theorem find_mid (hs : Sorted (pre ++ f :: post)) : find f.name (pre ++ f :: post) = some f := by
 unfold find
 rw [List.find?_append, List.find?_eq_none.2 (fun g hg => by simpa using (mid_ne hs).1 g hg), List.find?_cons_of_pos (by simp)]; rfl
theorem upd_mid (hs : Sorted (pre ++ f :: post)) (g : File → File) : upd f.name g (pre ++ f :: post) = pre ++ g f :: post := by
 obtain ⟨h1, h2⟩ := mid_ne hs
 rw [upd_append, upd_of_none h1]
 show pre ++ ((if (f.name == f.name) = true then g f else f) :: upd f.name g post) = _
 rw [upd_of_none h2, if_pos (by simp)]
theorem del_mid (hs : Sorted (pre ++ f :: post)) : del f.name (pre ++ f :: post) = pre ++ post := by
 obtain ⟨h1, h2⟩ := mid_ne hs
 unfold del
 rw [List.filter_append, List.filter_cons_of_neg (by simp), List.filter_eq_self.2 (fun g hg => by simpa using h1 g hg), List.filter_eq_self.2 (fun g hg => by simpa using h2 g hg)]
theorem ins_last : ∀ {fs : List File}, (∀ g ∈ fs, lt g.name f.name = true) → ins f fs = fs ++ [f]
 | [], _ => rfl
 | y :: r, h => by
   unfold ins
   rw [if_neg (by rw [lt_asymm (h y (by simp))]; decide), ins_last (fun g hg => h g (List.mem_cons_of_mem _ hg))]; rfl
theorem put_last (h : ∀ g ∈ fs, lt g.name f.name = true) : put f fs = fs ++ [f] := by
 unfold put; rw [del_of_none (find_none.2 (fun g hg => lt_ne (h g hg))), ins_last h]
theorem create_last {n : Name} (hn : named n = true) (h : ∀ g ∈ fs, lt g.name n = true) (hl : fs.length ≠ 256) : create (up fs) n = (up (fs ++ [⟨n, [], []⟩]), 0) := by
 unfold create
 rw [step_idle rfl]
 simp only [look_none (s := up fs) rfl hn (find_none.2 (fun g hg => lt_ne (h g hg)))]
 rw [if_pos trivial, if_neg (show ¬ (up fs).files.length = 256 from hl)]
 show (S.mk (put ⟨n, [], []⟩ fs) false 0, 0) = _
 rw [put_last h]; rfl
theorem up_look (hn : named f.name = true) (hs : Sorted (pre ++ f :: post)) : Dsk.look (up (pre ++ f :: post)) [f.name] = (some f, 0) := look_found rfl hn (find_mid hs)
theorem remove_mid (hn : named f.name = true) (hs : Sorted (pre ++ f :: post)) : remove (up (pre ++ f :: post)) f.name = (up (pre ++ post), 0) := by
 unfold remove
 rw [step_idle rfl]
 simp only [up_look hn hs]
 show (S.mk (del f.name (pre ++ f :: post)) false 0, 0) = _
 rw [del_mid hs]; rfl
theorem sync_mid (hn : named f.name = true) (hs : Sorted (pre ++ f :: post)) : sync (up (pre ++ f :: post)) f.name = (up (pre ++ ⟨f.name, f.now, f.now⟩ :: post), 0) := by
 unfold sync
 rw [step_idle rfl]
 simp only [up_look hn hs]
 show (S.mk (upd f.name _ (pre ++ f :: post)) false 0, 0) = _
 rw [upd_mid hs]; rfl
theorem write_mid {c : List UInt8} (hn : named f.name = true) (hs : Sorted (pre ++ f :: post)) (hl : f.now.length + c.length ≤ 65536) :
 write (up (pre ++ f :: post)) f.name (f.now.length : Int) c = (up (pre ++ ⟨f.name, f.now ++ c, f.safe⟩ :: post), 0) := by
 unfold write
 rw [step_idle rfl]
 simp only [up_look hn hs]
 rw [if_neg (by omega), if_neg (by omega)]
 show (S.mk (upd f.name _ (pre ++ f :: post)) false 0, 0) = _
 rw [upd_mid hs]
 have e : over f.now (Int.toNat (f.now.length : Int)) c = f.now ++ c := by unfold over; simp
 rw [e]; rfl
theorem cut_mid {k : Nat} (hn : named f.name = true) (hs : Sorted (pre ++ f :: post)) (hl : k ≤ f.now.length) :
 cut (up (pre ++ f :: post)) f.name (k : Int) = (up (pre ++ ⟨f.name, f.now.take k, f.safe.take k⟩ :: post), 0) := by
 unfold cut
 rw [step_idle rfl]
 simp only [up_look hn hs]
 rw [if_neg (by omega)]
 show (S.mk (upd f.name _ (pre ++ f :: post)) false 0, 0) = _
 rw [upd_mid hs]; rfl
theorem read_mid (hn : named f.name = true) (hs : Sorted (pre ++ f :: post)) : Dsk.read (up (pre ++ f :: post)) f.name = (f.now, 0) := by
 unfold Dsk.read
 rw [up_look hn hs]
end
def chainS : Int → List Sg → Prop
 | _, [] => True
 | i, s :: r => s.ix = i ∧ s.es ≠ [] ∧ follow i s.es ∧ allR s.es ∧ chainS (i + s.es.length) r
theorem last_follow {i : Int} {es : List En} (h : follow i es) (hne : es ≠ []) : lastE es = i + es.length - 1 := by
 have e := (List.dropLast_concat_getLast hne).symm
 rw [e] at h
 have h2 := (follow_append.1 h).2.1
 conv => lhs; rw [e]
 rw [lastE_snoc, h2, List.length_dropLast]
 have := List.length_pos_iff.2 hne
 omega
theorem chain_append : ∀ {xs ys : List Sg} {i : Int}, chainS i (xs ++ ys) ↔ chainS i xs ∧ chainS (i + (allE xs).length) ys
 | [], ys, i => by simp [chainS, allE]
 | s :: r, ys, i => by
   show (s.ix = i ∧ s.es ≠ [] ∧ follow i s.es ∧ allR s.es ∧ chainS (i + s.es.length) (r ++ ys)) ↔ (s.ix = i ∧ s.es ≠ [] ∧ follow i s.es ∧ allR s.es ∧ chainS (i + s.es.length) r) ∧ chainS (i + (allE (s :: r)).length) ys
   rw [chain_append, allE_cons, List.length_append, show i + s.es.length + ((allE r).length : Int) = i + ((s.es.length + (allE r).length : Nat) : Int) by omega]
   simp only [and_assoc]
theorem chain_follow : ∀ {ss : List Sg} {i : Int}, chainS i ss → follow i (allE ss) ∧ allR (allE ss)
 | [], i, _ => ⟨trivial, fun _ h => by cases h⟩
 | s :: r, i, h => by
   obtain ⟨h1, h2, h3, h4, h5⟩ := h
   obtain ⟨a, b⟩ := chain_follow h5
   rw [allE_cons]
   refine ⟨follow_append.2 ⟨h3, a⟩, fun e he => ?_⟩
   rcases List.mem_append.1 he with he | he
   ·exact h4 e he
   ·exact b e he
theorem seg_bounds {s : Sg} (h2 : s.es ≠ []) (h3 : follow s.ix s.es) (h4 : allR s.es) : 1 ≤ s.ix ∧ s.ix + s.es.length ≤ 1099511627777 := by
 have hl := List.length_pos_iff.2 h2
 have a := follow_get h3 0 hl
 have b := follow_get h3 (s.es.length - 1) (by omega)
 have c := rightE_iff.1 (h4 _ (List.getElem_mem hl))
 have d := rightE_iff.1 (h4 _ (List.getElem_mem (show s.es.length - 1 < s.es.length by omega)))
 omega
theorem chain_ix : ∀ {ss : List Sg} {i : Int}, chainS i ss → ∀ s ∈ ss, 1 ≤ s.ix ∧ i ≤ s.ix ∧ s.ix + s.es.length ≤ 1099511627777 ∧ s.ix + s.es.length ≤ i + (allE ss).length ∧ s.es ≠ []
 | [], i, _, s, hs => by cases hs
 | x :: r, i, h, s, hs => by
   obtain ⟨h1, h2, h3, h4, h5⟩ := h
   rw [allE_cons, List.length_append]
   subst h1
   rcases List.mem_cons.1 hs with rfl | hs
   ·obtain ⟨a, b⟩ := seg_bounds h2 h3 h4
    exact ⟨a, Int.le_refl _, b, by omega, h2⟩
   ·obtain ⟨a, b, c, d, e⟩ := chain_ix h5 s hs
    exact ⟨a, by omega, c, by omega, e⟩
theorem chain_pair : ∀ {ss : List Sg} {i : Int}, chainS i ss → ss.Pairwise (fun a b : Sg => a.ix + (a.es.length : Int) ≤ b.ix)
 | [], i, _ => List.Pairwise.nil
 | x :: r, i, h => by
   obtain ⟨h1, h2, h3, h4, h5⟩ := h
   subst h1
   rw [List.pairwise_cons]
   exact ⟨fun s hs => (chain_ix h5 s hs).2.1, chain_pair h5⟩
structure SegK where
 s : Sg
 k : Nat
def fileK (x : SegK) : File := ⟨sgN x.s, sgB x.s, recsB (x.s.es.take x.k)⟩
def diskK (xs : List SegK) : S := up (xs.map fileK)
def segsK (xs : List SegK) : List Sg := xs.map SegK.s
def SafeK (t : Int) (x : SegK) : Prop := x.k ≤ x.s.es.length ∧ (x.s.wet = false → x.k = x.s.es.length) ∧ ∀ e ∈ x.s.es.drop x.k, t < e.ix
structure RunK (t i : Int) (xs : List SegK) : Prop where
 chain : chainS i (segsK xs)
 safe : ∀ x ∈ xs, SafeK t x
theorem segsK_append (xs ys : List SegK) : segsK (xs ++ ys) = segsK xs ++ segsK ys := List.map_append
theorem segsK_snoc (xs : List SegK) (x : SegK) : segsK (xs ++ [x]) = segsK xs ++ [x.s] := List.map_append
theorem chain_sorted {xs : List SegK} {i : Int} (h : chainS i (segsK xs)) : Sorted (xs.map fileK) := by
 have hp := chain_pair h
 have hi := chain_ix h
 unfold Sorted
 unfold segsK at hp hi
 rw [List.pairwise_map] at hp ⊢
 refine hp.imp_of_mem (fun {a b} ha hb hab => ?_)
 obtain ⟨a1, a2, a3, a4, a5⟩ := hi a.s (List.mem_map_of_mem ha)
 obtain ⟨b1, b2, b3, b4, b5⟩ := hi b.s (List.mem_map_of_mem hb)
 have := List.length_pos_iff.2 a5
 have := List.length_pos_iff.2 b5
 exact nmW_lt (by omega) (by omega) (by omega)
theorem RunK.sorted {t i : Int} {xs : List SegK} (h : RunK t i xs) : Sorted (xs.map fileK) := chain_sorted h.chain
theorem RunK.nil (t i : Int) : RunK t i [] := ⟨trivial, fun _ h => by cases h⟩
theorem snoc_or {α : Type} (xs : List α) : xs = [] ∨ ∃ pre x, xs = pre ++ [x] := by
 by_cases h : xs = []
 ·exact .inl h
 ·exact .inr ⟨xs.dropLast, xs.getLast h, (List.dropLast_concat_getLast h).symm⟩
theorem RunK.last {t i : Int} {xs : List SegK} (h : RunK t i xs) (hne : allE (segsK xs) ≠ []) : lastE (allE (segsK xs)) = i + (allE (segsK xs)).length - 1 := last_follow (chain_follow h.chain).1 hne
theorem wrLast_run {fs : List File} {ss : List Sg} {s : Sg} {e : En} {sf : List UInt8} (hs : Sorted (fs ++ [⟨sgN s, sgB s, sf⟩])) (hl : (sgB s).length + (recB e).length ≤ 65536) :
 wrLast (up (fs ++ [⟨sgN s, sgB s, sf⟩])) ss s e = (up (fs ++ [⟨sgN s, sgB s ++ recB e, sf⟩]), ss ++ [⟨s.ix, s.es ++ [e], true⟩], 0) := by
 unfold wrLast
 rw [write_mid (f := ⟨sgN s, sgB s, sf⟩) (post := []) (nmW_named _) hs hl]
 simp only
 rw [if_pos trivial]
theorem follow_one {i : Int} {e : En} : follow i [e] ↔ e.ix = i := by simp [follow]
theorem write1_run {t i : Int} {xs : List SegK} {e : En} (h : RunK t i xs) (hr : rightE e = true) (hi : e.ix = i + (allE (segsK xs)).length) (ht : t < e.ix) (hc : xs.length < 256) :
 ∃ ys, write1 (diskK xs) (segsK xs) e = (diskK ys, segsK ys, 0) ∧ RunK t i ys ∧ allE (segsK ys) = allE (segsK xs) ++ [e] ∧ ys.length ≤ xs.length + 1 := by
 have hre := rightE_iff.1 hr
 have hrl := recB_le hr
 have hci := chain_ix h.chain
 by_cases hd : dueW (segsK xs) = true
 ·obtain ⟨y, hy⟩ : ∃ y : SegK, y = ⟨⟨e.ix, [e], true⟩, 0⟩ := ⟨_, rfl⟩
  have hfy : fileK y = ⟨nmW e.ix, sgB ⟨e.ix, [], false⟩ ++ recB e, []⟩ := by
   rw [hy]; unfold fileK sgN sgB; simp [recsB]
  have hlt : ∀ g ∈ xs.map fileK, lt g.name (nmW e.ix) = true := fun g hg => by
   obtain ⟨x, hx, rfl⟩ := List.mem_map.1 hg
   obtain ⟨a1, a2, a3, a4, a5⟩ := hci x.s (List.mem_map_of_mem hx)
   have := List.length_pos_iff.2 a5
   exact nmW_lt (by omega) (by omega) (by omega)
  have hch : chainS i (segsK (xs ++ [y])) := by
   rw [segsK_snoc, chain_append]
   refine ⟨h.chain, ?_⟩
   rw [hy]
   exact ⟨hi, by simp, follow_one.2 hi, fun z hz => by rw [List.mem_singleton.1 hz]; exact hr, trivial⟩
  have hrun : RunK t i (xs ++ [y]) := ⟨hch, fun z hz => by
   rcases List.mem_append.1 hz with hz | hz
   ·exact h.safe z hz
   ·rw [List.mem_singleton.1 hz, hy]
    refine ⟨Nat.zero_le _, (fun e => by cases e), fun z hz => ?_⟩
    have : z = e := by simpa using hz
    rw [this]; exact ht⟩
  refine ⟨xs ++ [y], ?_, hrun, by rw [segsK_snoc, allE_snoc, hy], by simp⟩
  unfold write1
  rw [if_pos hd]
  have hcr : create (diskK xs) (nmW e.ix) = (up (xs.map fileK ++ [⟨nmW e.ix, [], []⟩]), 0) := create_last (nmW_named _) hlt (by rw [List.length_map]; omega)
  rw [hcr]
  simp only
  rw [if_pos trivial]
  have hso := hrun.sorted
  rw [List.map_append, List.map_singleton, hfy] at hso
  have hso2 : Sorted (xs.map fileK ++ [⟨sgN ⟨e.ix, [], false⟩, sgB ⟨e.ix, [], false⟩, []⟩]) := by
   rw [sorted_names] at hso ⊢
   rw [List.map_append] at hso ⊢
   exact hso
  have hw := wrLast_run (ss := segsK xs) (e := e) hso2 (by show 0 + _ ≤ _; omega)
  refine hw.trans ?_
  rw [segsK_snoc]
  unfold diskK
  rw [List.map_append, List.map_singleton, hfy, hy]; rfl
 ·have hd' : dueW (segsK xs) = false := by simpa using hd
  rcases snoc_or xs with rfl | ⟨pre, x, rfl⟩
  ·exact absurd rfl hd
  ·rw [segsK_snoc] at hd' hi ⊢
   have hgl : (segsK pre ++ [x.s]).getLast? = some x.s := by simp
   have hlt : (sgB x.s).length < 256 := by
    unfold dueW at hd'
    rw [hgl] at hd'
    have := of_decide_eq_false hd'
    omega
   obtain ⟨y, hy⟩ : ∃ y : SegK, y = ⟨⟨x.s.ix, x.s.es ++ [e], true⟩, x.k⟩ := ⟨_, rfl⟩
   obtain ⟨sk1, sk2, sk3⟩ := h.safe x (by simp)
   have hfy : fileK y = ⟨sgN x.s, sgB x.s ++ recB e, recsB (x.s.es.take x.k)⟩ := by
    rw [hy]; unfold fileK sgN sgB; simp only; rw [recsB_snoc, List.take_append_of_le_length sk1]
   have hcx := h.chain
   rw [segsK_snoc, chain_append] at hcx
   obtain ⟨hc1, h1, h2, h3, h4, -⟩ := hcx
   rw [allE_snoc, List.length_append] at hi
   have hch : chainS i (segsK (pre ++ [y])) := by
    rw [segsK_snoc, chain_append]
    refine ⟨hc1, ?_⟩
    rw [hy]
    refine ⟨h1, by simp, follow_append.2 ⟨h3, follow_one.2 (by rw [hi]; omega)⟩, fun z hz => ?_, trivial⟩
    rcases List.mem_append.1 hz with hz | hz
    ·exact h4 z hz
    ·rw [List.mem_singleton.1 hz]; exact hr
   refine ⟨pre ++ [y], ?_, ⟨hch, fun z hz => ?_⟩, by rw [segsK_snoc, allE_snoc, allE_snoc, hy, List.append_assoc], by simp⟩
   ·unfold write1
    rw [if_neg (by rw [hd']; decide), hgl]
    simp only
    rw [List.dropLast_concat]
    have hso := h.sorted
    unfold diskK
    rw [List.map_append, List.map_singleton] at hso ⊢
    rw [show fileK x = ⟨sgN x.s, sgB x.s, recsB (x.s.es.take x.k)⟩ from rfl] at hso ⊢
    rw [wrLast_run hso (by omega), segsK_snoc, List.map_append, List.map_singleton, hfy, hy]
   ·rcases List.mem_append.1 hz with hz | hz
    ·exact h.safe z (by simp [hz])
    ·rw [List.mem_singleton.1 hz, hy]
     refine ⟨by show x.k ≤ (x.s.es ++ [e]).length; rw [List.length_append]; omega, (fun e => by cases e), fun z hz => ?_⟩
     have hz : z ∈ (x.s.es ++ [e]).drop x.k := hz
     rw [List.drop_append_of_le_length sk1] at hz
     rcases List.mem_append.1 hz with hz | hz
     ·exact sk3 z hz
     ·rw [List.mem_singleton.1 hz]; exact ht
theorem writeAll_ok {t i : Int} : ∀ (es : List En) {xs : List SegK}, RunK t i xs → allR es → follow (i + (allE (segsK xs)).length) es → (∀ e ∈ es, t < e.ix) → xs.length + es.length ≤ 256 →
 ∃ ys, writeAll (diskK xs) (segsK xs) es = (diskK ys, segsK ys, 0) ∧ RunK t i ys ∧ allE (segsK ys) = allE (segsK xs) ++ es ∧ ys.length ≤ xs.length + es.length
 | [], xs, h, _, _, _, _ => ⟨xs, rfl, h, by simp, by simp⟩
 | e :: r, xs, h, ha, hf, ht, hc => by
   rw [List.length_cons] at hc
   obtain ⟨ys, h1, h2, h3, h4⟩ := write1_run h (ha e (by simp)) hf.1 (ht e (by simp)) (by omega)
   obtain ⟨zs, k1, k2, k3, k4⟩ := writeAll_ok r h2 (fun x hx => ha x (List.mem_cons_of_mem _ hx)) (by
    rw [h3, List.length_append, List.length_singleton]
    have := hf.2
    rw [show i + (((allE (segsK xs)).length + 1 : Nat) : Int) = i + ((allE (segsK xs)).length : Int) + 1 by omega]
    exact this) (fun x hx => ht x (List.mem_cons_of_mem _ hx)) (by omega)
   refine ⟨zs, ?_, k2, by rw [k3, h3, List.append_assoc]; rfl, by rw [List.length_cons]; omega⟩
   unfold writeAll
   rw [h1]
   simp only
   rw [if_pos trivial]
   exact k1
theorem gap_follow : ∀ {es : List En} {l : Int}, follow (l + 1) es → gapB l es = false
 | [], _, _ => rfl
 | e :: r, l, h => by
   unfold gapB
   rw [if_neg (by rintro ⟨_, h2⟩; exact h2 h.1)]
   exact gap_follow (by rw [h.1]; exact h.2)
theorem gap_zero {es : List En} {i : Int} (h : follow i es) : gapB 0 es = false := by
 cases es with
 | nil => rfl
 | cons e r =>
   unfold gapB
   rw [if_neg (by rintro ⟨h1, _⟩; exact h1 rfl)]
   exact gap_follow (by rw [h.1]; exact h.2)
theorem any_right {es : List En} (h : allR es) : es.any (fun e => !rightE e) = false := by
 rw [List.any_eq_false]
 intro e he
 rw [h e he]; decide
theorem follow_ge : ∀ {es : List En} {i : Int}, follow i es → ∀ e ∈ es, i ≤ e.ix
 | [], _, _, e, he => by cases he
 | x :: r, i, h, e, he => by
   rcases List.mem_cons.1 he with rfl | he
   ·rw [h.1]; exact Int.le_refl _
   ·have := follow_ge h.2 e he; omega
theorem appendW_ok {t i : Int} {es : List En} {xs : List SegK} (h : RunK t i xs) (ha : allR es) (hf : follow (i + (allE (segsK xs)).length) es) (ht : ∀ e ∈ es, t < e.ix) (hc : xs.length + es.length ≤ 256) :
 ∃ ys, appendW (diskK xs) (segsK xs) es = (diskK ys, segsK ys, 0) ∧ RunK t i ys ∧ allE (segsK ys) = allE (segsK xs) ++ es ∧ ys.length ≤ xs.length + es.length := by
 unfold appendW
 rw [any_right ha]
 rw [if_neg (by decide)]
 have hg : gapB (lastE (allE (segsK xs))) es = false := by
  by_cases he : allE (segsK xs) = []
  ·rw [he]; exact gap_zero hf
  ·rw [h.last he]
   refine gap_follow ?_
   rw [show i + ((allE (segsK xs)).length : Int) - 1 + 1 = i + ((allE (segsK xs)).length : Int) by omega]; exact hf
 rw [hg, if_neg (by decide)]
 exact writeAll_ok es h ha hf ht hc
def dryK (x : SegK) : SegK := ⟨⟨x.s.ix, x.s.es, false⟩, x.s.es.length⟩
theorem fileK_dry (x : SegK) : fileK (dryK x) = ⟨sgN x.s, sgB x.s, sgB x.s⟩ := by
 unfold fileK dryK sgN sgB; simp
theorem dry_of {t : Int} {x : SegK} (h : SafeK t x) (hw : x.s.wet = false) : dryK x = x := by
 have h2 := h.2.1 hw
 obtain ⟨⟨ix, es, wet⟩, k⟩ := x
 simp only at h2 hw
 subst h2; subst hw; rfl
theorem allE_dry (xs : List SegK) : allE (segsK (xs.map dryK)) = allE (segsK xs) := by
 unfold allE segsK
 rw [List.map_map, List.flatMap_map, List.flatMap_map]; rfl
theorem chain_dry : ∀ {xs : List SegK} {i : Int}, chainS i (segsK xs) → chainS i (segsK (xs.map dryK))
 | [], _, _ => trivial
 | _ :: _, _, ⟨h1, h2, h3, h4, h5⟩ => ⟨h1, h2, h3, h4, chain_dry h5⟩
theorem safe_dry (t : Int) (x : SegK) : SafeK t (dryK x) := ⟨Nat.le_refl _, fun _ => rfl, fun e he => by
 have he : e ∈ x.s.es.drop x.s.es.length := he
 rw [List.drop_length] at he; cases he⟩
theorem RunK.dry {t i : Int} {xs : List SegK} (h : RunK t i xs) (t' : Int) : RunK t' i (xs.map dryK) := ⟨chain_dry h.chain, fun x hx => by
 obtain ⟨y, _, rfl⟩ := List.mem_map.1 hx
 exact safe_dry t' y⟩
theorem names_dry (xs : List SegK) : (xs.map fileK).map File.name = ((xs.map dryK).map fileK).map File.name := by
 rw [List.map_map, List.map_map, List.map_map]; rfl
theorem sorted_mix {pre post : List SegK} (h : Sorted ((pre ++ post).map fileK)) : Sorted ((pre.map dryK).map fileK ++ post.map fileK) := by
 rw [sorted_names] at h ⊢
 rw [List.map_append] at h ⊢
 rw [List.map_append] at h
 rw [← names_dry]; exact h
theorem syncW_go {t : Int} : ∀ (post pre : List SegK), Sorted ((pre ++ post).map fileK) → (∀ x ∈ post, SafeK t x) →
 syncW (up ((pre.map dryK).map fileK ++ post.map fileK)) (segsK (pre.map dryK)) (segsK post) = (diskK ((pre ++ post).map dryK), segsK ((pre ++ post).map dryK), 0)
 | [], pre, _, _ => by
   unfold segsK syncW diskK
   simp
 | x :: r, pre, hs, hx => by
   have hs2 := sorted_mix hs
   rw [List.map_cons] at hs2
   have ih := syncW_go r (pre ++ [x]) (by rw [List.append_assoc]; exact hs) (fun y hy => hx y (List.mem_cons_of_mem _ hy))
   rw [List.append_assoc] at ih
   have e1 : (((pre ++ [x]).map dryK).map fileK) ++ r.map fileK = (pre.map dryK).map fileK ++ fileK (dryK x) :: r.map fileK := by simp
   have e2 : segsK ((pre ++ [x]).map dryK) = segsK (pre.map dryK) ++ [⟨x.s.ix, x.s.es, false⟩] := by unfold segsK; simp [dryK]
   rw [e1, e2] at ih
   have e3 : segsK (x :: r) = x.s :: segsK r := rfl
   rw [e3]
   unfold syncW
   by_cases hw : x.s.wet = true
   ·rw [if_pos hw]
    have hsy : sync (up ((pre.map dryK).map fileK ++ (x :: r).map fileK)) (sgN x.s) = (up ((pre.map dryK).map fileK ++ fileK (dryK x) :: r.map fileK), 0) := by
     rw [List.map_cons]
     rw [fileK_dry]
     exact sync_mid (f := fileK x) (nmW_named _) hs2
    rw [hsy]
    simp only
    rw [if_pos trivial]
    exact ih
   ·rw [if_neg hw]
    have hdx := dry_of (hx x (by simp)) (by simpa using hw)
    have e4 : (⟨x.s.ix, x.s.es, false⟩ : Sg) = x.s := congrArg SegK.s hdx
    rw [e4, hdx] at ih
    rw [List.map_cons]
    exact ih
theorem syncW_ok {t i : Int} {xs : List SegK} (h : RunK t i xs) : syncW (diskK xs) [] (segsK xs) = (diskK (xs.map dryK), segsK (xs.map dryK), 0) := by
 exact syncW_go xs [] h.sorted h.safe
theorem recs_take (es : List En) (a b : Nat) : (recsB (es.take a)).take (recsB (es.take b)).length = recsB (es.take (min a b)) := by
 rcases Nat.le_total a b with h | h
 ·rw [Nat.min_eq_left h, List.take_of_length_le]
  have e : es.take b = es.take a ++ (es.take b).drop a := by
   conv => lhs; rw [← List.take_append_drop a (es.take b)]
   rw [List.take_take, Nat.min_eq_left h]
  rw [e, recsB_append, List.length_append]; omega
 ·rw [Nat.min_eq_right h]
  have e : es.take a = es.take b ++ (es.take a).drop b := by
   conv => lhs; rw [← List.take_append_drop b (es.take a)]
   rw [List.take_take, Nat.min_eq_left h]
  rw [e, recsB_append, List.take_left]
theorem recs_take_all (es : List En) (b : Nat) : (recsB es).take (recsB (es.take b)).length = recsB (es.take b) := by
 have h := recs_take es es.length b
 rw [List.take_length] at h
 rw [h]
 rcases Nat.le_total es.length b with k | k
 ·rw [Nat.min_eq_left k, List.take_length, List.take_of_length_le k]
 ·rw [Nat.min_eq_right k]
theorem recs_take_le (es : List En) (b : Nat) : (recsB (es.take b)).length ≤ (recsB es).length := by
 have := congrArg List.length (recs_take_all es b)
 rw [List.length_take] at this; omega
theorem cutF_done {n : Nat} {d : S} {ss : List Sg} {c : Int} (h : lastE (allE ss) < c) : cutF n d ss c = (d, ss, 0) := by
 cases n with
 | zero => rfl
 | succ n =>
   unfold cutF
   cases ss.getLast? with
   | none => rfl
   | some s => simp only; rw [if_pos h]
theorem cutF_ok {t i c : Int} : ∀ (n : Nat) (xs : List SegK), xs.length < n → RunK t i xs →
 ∃ ys, cutF n (diskK xs) (segsK xs) c = (diskK ys, segsK ys, 0) ∧ RunK t i ys ∧ allE (segsK ys) = (allE (segsK xs)).take (c - i).toNat ∧ ys.length ≤ xs.length
 | 0, xs, h, _ => by omega
 | n + 1, xs, hn, h => by
   rcases snoc_or xs with rfl | ⟨pre, x, rfl⟩
   ·exact ⟨[], rfl, h, by simp [segsK, allE], Nat.le_refl _⟩
   ·have hcx := h.chain
    rw [segsK_snoc, chain_append] at hcx
    obtain ⟨hc1, h1, h2, h3, h4, -⟩ := hcx
    have hlp := List.length_pos_iff.2 h2
    have hal : allE (segsK (pre ++ [x])) = allE (segsK pre) ++ x.s.es := by rw [segsK_snoc, allE_snoc]
    have hne : allE (segsK (pre ++ [x])) ≠ [] := by rw [hal]; simp [h2]
    have hL := h.last hne
    have hll : (allE (segsK (pre ++ [x]))).length = (allE (segsK pre)).length + x.s.es.length := by rw [hal, List.length_append]
    rw [hll] at hL
    by_cases hc : lastE (allE (segsK (pre ++ [x]))) < c
    ·refine ⟨pre ++ [x], cutF_done hc, h, ?_, Nat.le_refl _⟩
     rw [List.take_of_length_le (by rw [hll]; omega)]
    ·have hgl : (segsK (pre ++ [x])).getLast? = some x.s := by rw [segsK_snoc]; simp
     have hdl : (segsK (pre ++ [x])).dropLast = segsK pre := by rw [segsK_snoc, List.dropLast_concat]
     have hk : keepN x.s (lastE (allE (segsK (pre ++ [x])))) c = (c - x.s.ix).toNat := by
      unfold keepN; rw [hL, h1]; congr 1; omega
     have hso := h.sorted
     rw [List.map_append, List.map_singleton] at hso
     have hpre : RunK t i pre := ⟨hc1, fun y hy => h.safe y (by simp [hy])⟩
     obtain ⟨sk1, sk2, sk3⟩ := h.safe x (by simp)
     rw [cutF, hgl]
     simp only
     rw [if_neg hc, hk]
     by_cases h0 : (c - x.s.ix).toNat = 0
     ·rw [if_pos h0]
      have hrm : remove (diskK (pre ++ [x])) (sgN x.s) = (diskK pre, 0) := by
       unfold diskK
       rw [List.map_append, List.map_singleton]
       have := remove_mid (f := fileK x) (nmW_named _) hso
       rw [List.append_nil] at this
       exact this
      rw [hrm]
      simp only
      rw [if_pos trivial, hdl]
      obtain ⟨ys, k1, k2, k3, k4⟩ := cutF_ok n pre (by simp at hn; omega) hpre
      refine ⟨ys, k1, k2, ?_, by simp; omega⟩
      rw [k3, hal, List.take_append_of_le_length (by omega)]
     ·rw [if_neg h0]
      obtain ⟨k, hkk⟩ : ∃ k, k = (c - x.s.ix).toNat := ⟨_, rfl⟩
      rw [← hkk] at h0 ⊢
      obtain ⟨y, hy⟩ : ∃ y : SegK, y = ⟨⟨x.s.ix, x.s.es.take k, x.s.wet⟩, min x.k k⟩ := ⟨_, rfl⟩
      have hkl : k < x.s.es.length := by omega
      have hfy : fileK y = ⟨sgN x.s, (sgB x.s).take (recsB (x.s.es.take k)).length, (recsB (x.s.es.take x.k)).take (recsB (x.s.es.take k)).length⟩ := by
       unfold sgB
       rw [recs_take, recs_take_all, hy]
       unfold fileK sgN sgB
       simp only [List.take_take, Nat.min_assoc, Nat.min_self]
      have hct : cut (diskK (pre ++ [x])) (sgN x.s) ((recsB (x.s.es.take k)).length : Int) = (diskK (pre ++ [y]), 0) := by
       unfold diskK
       rw [List.map_append, List.map_singleton, List.map_append, List.map_singleton, hfy]
       exact cut_mid (f := fileK x) (post := []) (nmW_named _) hso (recs_take_le _ _)
      have hsy : segsK (pre ++ [y]) = segsK pre ++ [⟨x.s.ix, x.s.es.take k, x.s.wet⟩] := by rw [segsK_snoc, hy]
      have hly : (x.s.es.take k).length = k := by rw [List.length_take]; omega
      have hfk : follow (i + ((allE (segsK pre)).length : Int)) (x.s.es.take k) := by
       have h9 := h3
       rw [← List.take_append_drop k x.s.es] at h9
       exact (follow_append.1 h9).1
      have hch : chainS i (segsK (pre ++ [y])) := by
       rw [hsy, chain_append]
       exact ⟨hc1, h1, (by intro e; have e : x.s.es.take k = [] := e; rw [e] at hly; simp at hly; omega), hfk, fun z hz => h4 z (List.mem_of_mem_take hz), trivial⟩
      have hrun : RunK t i (pre ++ [y]) := ⟨hch, fun z hz => by
       rcases List.mem_append.1 hz with hz | hz
       ·exact h.safe z (by simp [hz])
       ·rw [List.mem_singleton.1 hz, hy]
        refine ⟨by show min x.k k ≤ (x.s.es.take k).length; rw [hly]; omega, fun hw => ?_, fun z hz => ?_⟩
        ·have := sk2 hw
         show min x.k k = (x.s.es.take k).length
         rw [hly]; omega
        ·have hz : z ∈ (x.s.es.take k).drop (min x.k k) := hz
         rcases Nat.le_total x.k k with hle | hle
         ·rw [Nat.min_eq_left hle] at hz
          rw [List.drop_take] at hz
          exact sk3 z (List.mem_of_mem_take hz)
         ·rw [Nat.min_eq_right hle, List.drop_of_length_le (by rw [hly]; omega)] at hz; cases hz⟩
      refine ⟨pre ++ [y], ?_, hrun, ?_, by simp⟩
      ·rw [hct]
       simp only
       rw [if_pos trivial, hdl, ← hsy]
       refine cutF_done ?_
       rw [hrun.last (by rw [hsy, allE_snoc]; simp only [ne_eq, List.append_eq_nil_iff, not_and]; intro _ e; rw [e] at hly; simp at hly; omega)]
       rw [hsy, allE_snoc, List.length_append]
       simp only [hly]
       omega
      ·rw [hsy, allE_snoc, hal, List.take_append, List.take_of_length_le (l := allE (segsK pre)) (by omega)]
       simp only
       congr 2; omega
theorem cutW_ok {t i c : Int} {xs : List SegK} (h : RunK t i xs) :
 ∃ ys, cutW (diskK xs) (segsK xs) c = (diskK ys, segsK ys, 0) ∧ RunK t i ys ∧ allE (segsK ys) = (allE (segsK xs)).take (c - i).toNat ∧ ys.length ≤ xs.length := by
 unfold cutW
 refine cutF_ok _ xs ?_ h
 unfold segsK; rw [List.length_map]; omega
theorem dropW_ok {t c : Int} : ∀ (xs : List SegK) {i : Int}, RunK t i xs →
 ∃ pre ys, xs = pre ++ ys ∧ dropW (diskK xs) (segsK xs) c = (diskK ys, segsK ys, 0) ∧ RunK t (i + (allE (segsK pre)).length) ys ∧ (∀ e ∈ allE (segsK pre), e.ix ≤ c) ∧ (∀ y r, ys = y :: r → c < lastE y.s.es)
 | [], i, h => ⟨[], [], rfl, rfl, RunK.nil _ _, (fun _ h => by cases h), fun _ _ h => by cases h⟩
 | x :: r, i, h => by
   obtain ⟨h1, h2, h3, h4, h5⟩ := h.chain
   have hl := last_follow h3 h2
   by_cases hc : c < lastE x.s.es
   ·refine ⟨[], x :: r, rfl, ?_, by simpa [segsK, allE] using h, (fun _ h => by cases h), fun y r' e => by injection e with e; rw [← e]; exact hc⟩
    show dropW (diskK (x :: r)) (x.s :: segsK r) c = _
    unfold dropW
    rw [if_pos hc]; rfl
   ·have hr : RunK t (i + x.s.es.length) r := ⟨h5, fun y hy => h.safe y (List.mem_cons_of_mem _ hy)⟩
    obtain ⟨pre, ys, e, k1, k2, k3, k4⟩ := dropW_ok r hr
    have hal : allE (segsK (x :: pre)) = x.s.es ++ allE (segsK pre) := allE_cons _ _
    refine ⟨x :: pre, ys, by rw [e]; rfl, ?_, ?_, fun z hz => ?_, k4⟩
    ·show dropW (diskK (x :: r)) (x.s :: segsK r) c = _
     unfold dropW
     rw [if_neg hc]
     have hrm : remove (diskK (x :: r)) (sgN x.s) = (diskK r, 0) := remove_mid (f := fileK x) (pre := []) (nmW_named _) h.sorted
     rw [hrm]
     simp only
     rw [if_pos trivial]; exact k1
    ·rw [hal, List.length_append, show i + ((x.s.es.length + (allE (segsK pre)).length : Nat) : Int) = i + (x.s.es.length : Int) + ((allE (segsK pre)).length : Int) by omega]; exact k2
    ·rw [hal] at hz
     rcases List.mem_append.1 hz with hz | hz
     ·obtain ⟨j, hj, rfl⟩ := List.getElem_of_mem hz
      have := follow_get h3 j hj
      omega
     ·exact k3 z hz
end Go.Proofs.YtifgajinfcihmaaGreatDoor.Wl
namespace Go.Proofs.YtifgajinfcihmaaGreatDoor.Wl
open Go Pk Dsk Nm
def takeO (first : Bool) (nx : Int) : List File → List Sg
 | [] => []
 | g :: r =>
   if first = false ∧ idxW g.name ≠ nx then []
   else if scanS (idxW g.name) g.now = [] then []
   else if (recsB (scanS (idxW g.name) g.now)).length = g.now.length then ⟨idxW g.name, scanS (idxW g.name) g.now, false⟩ :: takeO false (idxW g.name + (scanS (idxW g.name) g.now).length) r
   else [⟨idxW g.name, scanS (idxW g.name) g.now, false⟩]
def loadF (first : Bool) (nx : Int) : List File → List File
 | [] => []
 | g :: r =>
   if first = false ∧ idxW g.name ≠ nx then []
   else if scanS (idxW g.name) g.now = [] then []
   else if (recsB (scanS (idxW g.name) g.now)).length = g.now.length then g :: loadF false (idxW g.name + (scanS (idxW g.name) g.now).length) r
   else [⟨g.name, g.now.take (recsB (scanS (idxW g.name) g.now)).length, g.safe.take (recsB (scanS (idxW g.name) g.now)).length⟩]
def fileD (s : Sg) : File := ⟨sgN s, sgB s, sgB s⟩
theorem rmW_rev : ∀ (n : Nat) (rest pre : List File), rest.length = n → Sorted (pre ++ rest) → (∀ g ∈ rest, named g.name = true) → rmW (up (pre ++ rest)) (rest.map File.name).reverse = (up pre, 0)
 | 0, rest, pre, h, _, _ => by
   obtain rfl := List.eq_nil_of_length_eq_zero h
   rw [List.append_nil]; rfl
 | n + 1, rest, pre, h, hs, hn => by
   rcases snoc_or rest with rfl | ⟨r0, g, rfl⟩
   ·simp at h
   ·rw [List.map_append, List.map_singleton, List.reverse_append]
    show rmW _ (g.name :: (r0.map File.name).reverse) = _
    rw [← List.append_assoc] at hs ⊢
    have hr := remove_mid (f := g) (post := []) (hn g (by simp)) hs
    rw [List.append_nil] at hr
    unfold rmW
    rw [hr]
    simp only
    rw [if_pos trivial]
    refine rmW_rev n r0 pre (by simpa using h) ?_ (fun x hx => hn x (by simp [hx]))
    unfold Sorted at hs ⊢
    exact (List.pairwise_append.1 hs).1
theorem loadW_take : ∀ (rest pre : List File) (ss : List Sg) (first : Bool) (nx : Int), Sorted (pre ++ rest) → (∀ g ∈ rest, named g.name = true) → (first = true → allE ss = []) → (first = false → allE ss ≠ [] ∧ nx = lastE (allE ss) + 1) →
 loadW (up (pre ++ rest)) ss (rest.map File.name) = (up (pre ++ loadF first nx rest), ss ++ takeO first nx rest, 0)
 | [], pre, ss, first, nx, _, _, _, _ => by simp [loadW, loadF, takeO]
 | g :: r, pre, ss, first, nx, hs, hn, h1, h2 => by
   have hrm := rmW_rev _ (g :: r) pre rfl hs hn
   have hs2 : Sorted ((pre ++ [g]) ++ r) := by rw [List.append_assoc]; exact hs
   have hrr := rmW_rev _ r (pre ++ [g]) rfl hs2 (fun x hx => hn x (List.mem_cons_of_mem _ hx))
   rw [List.append_assoc] at hrr
   have hrd := read_mid (hn g (by simp)) hs
   have hcond : (allE ss ≠ [] ∧ idxW g.name ≠ lastE (allE ss) + 1) ↔ (first = false ∧ idxW g.name ≠ nx) := by
    cases first with
    | true =>
      have := h1 rfl
      constructor
      ·rintro ⟨a, _⟩; exact absurd this a
      ·rintro ⟨a, _⟩; cases a
    | false =>
      obtain ⟨a, b⟩ := h2 rfl
      rw [b]
      exact ⟨fun h => ⟨rfl, h.2⟩, fun h => ⟨a, h.2⟩⟩
   rw [List.map_cons] at hrm ⊢
   unfold loadW loadF takeO
   by_cases hg : first = false ∧ idxW g.name ≠ nx
   ·rw [if_pos (hcond.2 hg), if_pos hg, if_pos hg, hrm]; simp
   ·rw [if_neg (fun h => hg (hcond.1 h)), if_neg hg, if_neg hg, hrd]
    rw [if_neg (by simp)]
    simp only
    by_cases he : scanS (idxW g.name) g.now = []
    ·rw [if_pos he, if_pos he, if_pos he, hrm]; simp
    ·rw [if_neg he, if_neg he, if_neg he]
     obtain ⟨es, hes⟩ : ∃ es, es = scanS (idxW g.name) g.now := ⟨_, rfl⟩
     rw [← hes] at he ⊢
     by_cases hl : (recsB es).length = g.now.length
     ·rw [if_pos hl, if_pos hl, if_pos hl]
      have hfo := (scanS_ok (idxW g.name) g.now).1
      rw [← hes] at hfo
      have hal : allE (ss ++ [⟨idxW g.name, es, false⟩]) = allE ss ++ es := allE_snoc _ _
      have hla : lastE (allE ss ++ es) = lastE es := by
       have e := (List.dropLast_concat_getLast he).symm
       rw [e, ← List.append_assoc, lastE_snoc, lastE_snoc]
      have ih := loadW_take r (pre ++ [g]) (ss ++ [⟨idxW g.name, es, false⟩]) false (idxW g.name + es.length) hs2 (fun x hx => hn x (List.mem_cons_of_mem _ hx)) (fun e => by cases e) (fun _ => ⟨by rw [hal]; simp [he], by rw [hal, hla, last_follow hfo he]; omega⟩)
      rw [List.append_assoc, List.append_assoc, List.append_assoc] at ih
      exact ih
     ·rw [if_neg hl, if_neg hl, if_neg hl]
      have hrr' : rmW (up (pre ++ g :: r)) (r.map File.name).reverse = (up (pre ++ [g]), 0) := hrr
      rw [hrr', if_neg (by simp)]
      have hle : (recsB es).length ≤ g.now.length := by
       have h9 := (scanS_ok (idxW g.name) g.now).2.2
       rw [← hes] at h9
       have := congrArg List.length h9
       rw [List.length_take] at this; omega
      have hs1 : Sorted (pre ++ [g]) := by unfold Sorted at hs2 ⊢; exact (List.pairwise_append.1 hs2).1
      rw [cut_mid (f := g) (post := []) (hn g (by simp)) hs1 hle]
theorem syncO_all : ∀ (T : List Sg) (pre F : List File), Sorted (pre ++ F) → F.map (fun g => (g.name, g.now)) = T.map (fun s => (sgN s, sgB s)) → syncO (up (pre ++ F)) T = (up (pre ++ T.map fileD), 0)
 | [], pre, [], _, _ => by rw [syncO, List.map_nil]
 | [], pre, g :: F, _, h => by cases h
 | s :: r, pre, [], _, h => by simp at h
 | s :: r, pre, g :: F, hs, h => by
   rw [List.map_cons, List.map_cons] at h
   obtain ⟨h1, h2⟩ := List.cons.inj h
   obtain ⟨h3, h4⟩ := Prod.mk.inj h1
   have hsy := sync_mid (f := g) (by rw [h3]; exact nmW_named _) hs
   rw [h3, h4] at hsy
   unfold syncO
   rw [hsy]
   simp only
   rw [if_pos trivial]
   have hs2 : Sorted ((pre ++ [fileD s]) ++ F) := by
    rw [sorted_names] at hs ⊢
    have e : ((pre ++ [fileD s]) ++ F).map File.name = (pre ++ g :: F).map File.name := by simp [fileD, h3]
    rw [e]; exact hs
   have ih := syncO_all r (pre ++ [fileD s]) F hs2 h2
   rw [List.append_assoc, List.append_assoc] at ih
   exact ih
def IdxNamed (fs : List File) : Prop := ∀ g ∈ fs, ∃ j : Nat, j < 1000000000000000 ∧ g.name = nmOf 119 j
theorem idx_back {n : Name} {j : Nat} (hj : j < 1000000000000000) (h : n = nmOf 119 j) : nmW (idxW n) = n ∧ named n = true ∧ (idxN 119 n).isSome = true ∧ 0 ≤ idxW n ∧ idxW n < 1000000000000000 := by
 have h1 : idxN 119 n = some j := idxN_iff.2 ⟨hj, h⟩
 have h2 : idxW n = (j : Int) := by unfold idxW; rw [h1]
 refine ⟨by rw [h2, h]; rfl, by rw [h]; exact nmW_named (j : Int), by rw [h1]; rfl, by omega, by omega⟩
theorem loadF_take : ∀ (fs : List File) (first : Bool) (nx : Int), IdxNamed fs → (loadF first nx fs).map (fun g => (g.name, g.now)) = (takeO first nx fs).map (fun s => (sgN s, sgB s))
 | [], _, _, _ => rfl
 | g :: r, first, nx, h => by
   obtain ⟨j, hj, hn⟩ := h g (by simp)
   obtain ⟨k1, -⟩ := idx_back hj hn
   obtain ⟨-, -, h3⟩ := scanS_ok (idxW g.name) g.now
   unfold loadF takeO
   by_cases hg : first = false ∧ idxW g.name ≠ nx
   ·rw [if_pos hg, if_pos hg]; rfl
   ·rw [if_neg hg, if_neg hg]
    by_cases he : scanS (idxW g.name) g.now = []
    ·rw [if_pos he, if_pos he]; rfl
    ·rw [if_neg he, if_neg he]
     by_cases hl : (recsB (scanS (idxW g.name) g.now)).length = g.now.length
     ·rw [if_pos hl, if_pos hl, List.map_cons, List.map_cons, loadF_take r _ _ (fun x hx => h x (List.mem_cons_of_mem _ hx))]
      congr 1
      rw [hl, List.take_length] at h3
      show (g.name, g.now) = (nmW (idxW g.name), recsB _)
      rw [k1, ← h3]
     ·rw [if_neg hl, if_neg hl]
      show [(g.name, g.now.take _)] = [(nmW (idxW g.name), recsB _)]
      rw [k1, h3]
theorem loadF_names : ∀ (fs : List File) (first : Bool) (nx : Int), ∃ n, (loadF first nx fs).map File.name = (fs.map File.name).take n
 | [], _, _ => ⟨0, rfl⟩
 | g :: r, first, nx => by
   unfold loadF
   by_cases hg : first = false ∧ idxW g.name ≠ nx
   ·rw [if_pos hg]; exact ⟨0, by simp⟩
   ·rw [if_neg hg]
    by_cases he : scanS (idxW g.name) g.now = []
    ·rw [if_pos he]; exact ⟨0, by simp⟩
    ·rw [if_neg he]
     by_cases hl : (recsB (scanS (idxW g.name) g.now)).length = g.now.length
     ·rw [if_pos hl]
      obtain ⟨n, hn⟩ := loadF_names r false (idxW g.name + (scanS (idxW g.name) g.now).length)
      exact ⟨n + 1, by rw [List.map_cons, hn]; rfl⟩
     ·rw [if_neg hl]; exact ⟨1, rfl⟩
theorem openW_eq {fs : List File} (hs : Sorted fs) (hn : IdxNamed fs) : openW (up fs) = (up ((takeO true 0 fs).map fileD), takeO true 0 fs, 0) := by
 have hnm : ∀ g ∈ fs, named g.name = true := fun g hg => by
  obtain ⟨j, hj, e⟩ := hn g hg
  exact (idx_back hj e).2.1
 have hw : namesW (up fs) = fs.map File.name := by
  unfold namesW snames
  show List.filter _ (fs.map File.name) = fs.map File.name
  rw [List.filter_eq_self]
  intro n hm
  obtain ⟨g, hg, rfl⟩ := List.mem_map.1 hm
  obtain ⟨j, hj, e⟩ := hn g hg
  exact (idx_back hj e).2.2.1
 have hl := loadW_take fs [] [] true 0 hs hnm (fun _ => rfl) (fun e => by cases e)
 have hsl : Sorted (loadF true 0 fs) := by
  obtain ⟨n, e⟩ := loadF_names fs true 0
  rw [sorted_names] at hs ⊢
  rw [e]
  exact hs.sublist (List.take_sublist _ _)
 have hy := syncO_all (takeO true 0 fs) [] (loadF true 0 fs) hsl (loadF_take fs true 0 hn)
 rw [List.nil_append] at hl hy
 unfold openW
 rw [if_neg (show ¬ (up fs).down = true from fun h => by cases h), hw]
 rw [List.nil_append, List.nil_append] at hl
 simp only [hl]
 rw [if_neg (by simp)]
 rw [hy]
 rfl
theorem takeO_chain : ∀ (xs : List SegK) (i : Int) (first : Bool) (nx : Int), chainS i (segsK xs) → (first = false → nx = i) → takeO first nx (xs.map fileK) = segsK (xs.map dryK)
 | [], _, _, _, _, _ => rfl
 | x :: r, i, first, nx, h, hf => by
   obtain ⟨h1, h2, h3, h4, h5⟩ := h
   subst h1
   obtain ⟨b1, b2⟩ := seg_bounds h2 h3 h4
   have hi : idxW (fileK x).name = x.s.ix := idxW_nmW (by omega) (by omega)
   have hsc : scanS x.s.ix (fileK x).now = x.s.es := scanS_all h3 h4
   rw [List.map_cons]
   unfold takeO
   have hl : (recsB x.s.es).length = (fileK x).now.length := rfl
   rw [hi, hsc, if_neg (by rintro ⟨a, b⟩; exact b (hf a).symm), if_neg h2, if_pos hl, takeO_chain r _ false _ h5 (fun _ => rfl)]
   rfl
theorem idxNamed_K {xs : List SegK} {i : Int} (h : chainS i (segsK xs)) : IdxNamed (xs.map fileK) := fun g hg => by
 obtain ⟨x, hx, rfl⟩ := List.mem_map.1 hg
 obtain ⟨a1, a2, a3, a4, a5⟩ := chain_ix h x.s (List.mem_map_of_mem hx)
 exact ⟨x.s.ix.toNat, by omega, rfl⟩
theorem fileD_dry (xs : List SegK) : (segsK (xs.map dryK)).map fileD = (xs.map dryK).map fileK := by
 unfold segsK
 rw [List.map_map, List.map_map, List.map_map]
 refine List.map_congr_left fun x _ => ?_
 show fileD (dryK x).s = fileK (dryK x)
 rw [fileK_dry]; rfl
theorem openW_ok {t i : Int} {xs : List SegK} (h : RunK t i xs) : openW (diskK xs) = (diskK (xs.map dryK), segsK (xs.map dryK), 0) := by
 have e := takeO_chain xs i true 0 h.chain (fun e => by cases e)
 have ho := openW_eq h.sorted (idxNamed_K h.chain)
 rw [e, fileD_dry] at ho
 exact ho
end Go.Proofs.YtifgajinfcihmaaGreatDoor.Wl
