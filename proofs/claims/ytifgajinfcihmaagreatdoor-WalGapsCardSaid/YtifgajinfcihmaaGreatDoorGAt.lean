/- Layer 6: a wal: plain words, no program. -/
import Derived.Test.YtifgajinfcihmaaGreatDoorGAn
import Derived.Test.YtifgajinfcihmaaGreatDoorGAo
import Derived.Test.YtifgajinfcihmaaGreatDoorGAs
import Derived.Test.YtifgajinfcihmaaGreatDoorGAm
namespace Go.Proofs.YtifgajinfcihmaaGreatDoor.Wl
open Go Pk Dsk Go.Proofs.YtifgajinfcihmaaGreatDoor.Nm
def recsB (es : List En) : List UInt8 := es.flatMap recB
theorem recsB_cons (e : En) (es : List En) : recsB (e :: es) = recB e ++ recsB es := by unfold recsB; simp
theorem recsB_snoc (xs : List En) (e : En) : recsB (xs ++ [e]) = recsB xs ++ recB e := by unfold recsB; simp
theorem recsB_len_ge : ∀ es : List En, 32 * es.length ≤ (recsB es).length
 | [] => by simp
 | e :: r => by
   have := recsB_len_ge r
   have := recB_pos e
   rw [recsB_cons, List.length_append, List.length_cons]; omega
def follow : Int → List En → Prop
 | _, [] => True
 | i, e :: r => e.ix = i ∧ follow (i + 1) r
def allR (es : List En) : Prop := ∀ e ∈ es, rightE e = true
theorem follow_get : ∀ {es : List En} {i : Int}, follow i es → ∀ k (h : k < es.length), es[k].ix = i + k
 | e :: r, i, h, 0, _ => by have := h.1; simp [this]
 | e :: r, i, h, k + 1, hk => by
   have := follow_get h.2 k (by simpa using hk)
   simp only [List.getElem_cons_succ]; rw [this]; omega
theorem follow_append : ∀ {xs ys : List En} {i : Int}, follow i (xs ++ ys) ↔ follow i xs ∧ follow (i + xs.length) ys
 | [], ys, i => by simp [follow]
 | e :: r, ys, i => by
   show (e.ix = i ∧ follow (i + 1) (r ++ ys)) ↔ _
   rw [follow_append]
   show _ ↔ (e.ix = i ∧ follow (i + 1) r) ∧ _
   rw [List.length_cons, show i + 1 + (r.length : Int) = i + ((r.length + 1 : Nat) : Int) by omega, and_assoc]
def scanF : Nat → Int → List UInt8 → List En
 | 0, _, _ => []
 | n + 1, i, b =>
   match entryS b with
   | none => []
   | some (e, k) => if e.ix = i then e :: scanF n (i + 1) (b.drop k) else []
def scanS (i : Int) (b : List UInt8) : List En := scanF (b.length + 1) i b
theorem scanF_none {n : Nat} {i : Int} {b : List UInt8} (h : entryS b = none) : scanF n i b = [] := by
 cases n with
 | zero => rfl
 | succ n => unfold scanF; rw [h]
theorem scanF_no {n : Nat} {i : Int} {b : List UInt8} {e : En} {k : Nat} (h : entryS b = some (e, k)) (hi : e.ix ≠ i) : scanF n i b = [] := by
 cases n with
 | zero => rfl
 | succ n => unfold scanF; rw [h]; simp only; rw [if_neg hi]
theorem scanF_yes {n : Nat} {i : Int} {b : List UInt8} {e : En} {k : Nat} (h : entryS b = some (e, k)) (hi : e.ix = i) : scanF (n + 1) i b = e :: scanF n (i + 1) (b.drop k) := by
 rw [scanF, h]; simp only; rw [if_pos hi]
theorem entryS_short {b : List UInt8} (h : b.length < 32) : entryS b = none := by
 cases he : entryS b with
 | none => rfl
 | some x => obtain ⟨e, n⟩ := x; have := entryS_pos he; omega
theorem scanF_fuel : ∀ (n m : Nat) (i : Int) (b : List UInt8), b.length < 32 * n + 32 → b.length < 32 * m + 32 → scanF n i b = scanF m i b
 | 0, m, i, b, h, _ => by rw [scanF_none (entryS_short (by omega)), scanF_none (entryS_short (by omega))]
 | n + 1, 0, i, b, _, h => by rw [scanF_none (entryS_short (by omega)), scanF_none (entryS_short (by omega))]
 | n + 1, m + 1, i, b, h1, h2 => by
   unfold scanF
   cases he : entryS b with
   | none => rfl
   | some x =>
     obtain ⟨e, k⟩ := x
     have := entryS_pos he
     simp only
     by_cases hi : e.ix = i
     ·rw [if_pos hi, if_pos hi, scanF_fuel n m (i + 1) (b.drop k) (by rw [List.length_drop]; omega) (by rw [List.length_drop]; omega)]
     ·rw [if_neg hi, if_neg hi]
theorem scanS_eq {n : Nat} {i : Int} {b : List UInt8} (h : b.length < 32 * n + 32) : scanF n i b = scanS i b := scanF_fuel _ _ _ _ h (by omega)
theorem scanS_yes {i : Int} {b : List UInt8} {e : En} {k : Nat} (h : entryS b = some (e, k)) (hi : e.ix = i) : scanS i b = e :: scanS (i + 1) (b.drop k) := by
 unfold scanS
 have hp := entryS_pos h
 rw [scanF_yes h hi, scanS_eq (n := b.length) (by rw [List.length_drop]; omega)]; rfl
theorem scanS_none {i : Int} {b : List UInt8} (h : entryS b = none) : scanS i b = [] := scanF_none h
theorem scanS_no {i : Int} {b : List UInt8} {e : En} {k : Nat} (h : entryS b = some (e, k)) (hi : e.ix ≠ i) : scanS i b = [] := scanF_no h hi
theorem scanF_ok : ∀ (n : Nat) (i : Int) (b : List UInt8), follow i (scanF n i b) ∧ allR (scanF n i b) ∧ b.take (recsB (scanF n i b)).length = recsB (scanF n i b)
 | 0, i, b => ⟨trivial, (fun _ h => by cases h), by simp [scanF, recsB]⟩
 | n + 1, i, b => by
   cases he : entryS b with
   | none => rw [scanF_none he]; exact ⟨trivial, (fun _ h => by cases h), by simp [recsB]⟩
   | some x =>
     obtain ⟨e, k⟩ := x
     by_cases hi : e.ix = i
     ·rw [scanF_yes he hi]
      obtain ⟨h1, h2, h3⟩ := scanF_ok n (i + 1) (b.drop k)
      obtain ⟨hr, hk, hb⟩ := entryS_iff.1 he
      refine ⟨⟨hi, h1⟩, fun x hx => ?_, ?_⟩
      ·rcases List.mem_cons.1 hx with rfl | hx
       ·exact hr
       ·exact h2 x hx
      ·rw [recsB_cons, List.length_append, ← hk, List.take_add, hb, h3]
     ·rw [scanF_no he hi]; exact ⟨trivial, (fun _ h => by cases h), by simp [recsB]⟩
theorem scanS_ok (i : Int) (b : List UInt8) : follow i (scanS i b) ∧ allR (scanS i b) ∧ b.take (recsB (scanS i b)).length = recsB (scanS i b) := scanF_ok _ i b
structure Sg where
 ix : Int
 es : List En
 wet : Bool
def nmW (i : Int) : Name := nmOf 119 i.toNat
def sgN (s : Sg) : Name := nmW s.ix
def sgB (s : Sg) : List UInt8 := recsB s.es
def allE (ss : List Sg) : List En := ss.flatMap Sg.es
theorem allE_snoc (ss : List Sg) (s : Sg) : allE (ss ++ [s]) = allE ss ++ s.es := by unfold allE; simp
theorem allE_cons (s : Sg) (ss : List Sg) : allE (s :: ss) = s.es ++ allE ss := by unfold allE; simp
def lastE (es : List En) : Int := match es.getLast? with
 | none => 0
 | some e => e.ix
def firstE (es : List En) : Int := match es.head? with
 | none => 0
 | some e => e.ix
theorem lastE_snoc (es : List En) (e : En) : lastE (es ++ [e]) = e.ix := by unfold lastE; simp
def wrLast (d : S) (ss : List Sg) (s : Sg) (e : En) : S × List Sg × Nat :=
 let r := write d (sgN s) ((sgB s).length : Int) (recB e)
 if r.2 = 0 then (r.1, ss ++ [⟨s.ix, s.es ++ [e], true⟩], 0) else (r.1, ss ++ [s], r.2)
def dueW (ss : List Sg) : Bool := match ss.getLast? with
 | none => true
 | some s => decide (256 ≤ (sgB s).length)
def write1 (d : S) (ss : List Sg) (e : En) : S × List Sg × Nat :=
 if dueW ss = true then
  let r := create d (nmW e.ix)
  if r.2 = 0 then wrLast r.1 ss ⟨e.ix, [], false⟩ e else (r.1, ss, r.2)
 else match ss.getLast? with
  | none => (d, ss, 0)
  | some s => wrLast d ss.dropLast s e
def writeAll (d : S) (ss : List Sg) : List En → S × List Sg × Nat
 | [] => (d, ss, 0)
 | e :: r => if (write1 d ss e).2.2 = 0 then writeAll (write1 d ss e).1 (write1 d ss e).2.1 r else write1 d ss e
def gapB : Int → List En → Bool
 | _, [] => false
 | l, e :: r => if l ≠ 0 ∧ e.ix ≠ l + 1 then true else gapB e.ix r
def appendW (d : S) (ss : List Sg) (es : List En) : S × List Sg × Nat :=
 if es.any (fun e => !rightE e) then (d, ss, 1)
 else if gapB (lastE (allE ss)) es then (d, ss, 60)
 else writeAll d ss es
def syncW (d : S) (pre : List Sg) : List Sg → S × List Sg × Nat
 | [] => (d, pre, 0)
 | s :: r =>
   if s.wet = true then
    if (sync d (sgN s)).2 = 0 then syncW (sync d (sgN s)).1 (pre ++ [⟨s.ix, s.es, false⟩]) r else ((sync d (sgN s)).1, pre ++ s :: r, (sync d (sgN s)).2)
   else syncW d (pre ++ [s]) r
def syncO (d : S) : List Sg → S × Nat
 | [] => (d, 0)
 | s :: r => if (sync d (sgN s)).2 = 0 then syncO (sync d (sgN s)).1 r else sync d (sgN s)
def keepN (s : Sg) (last i : Int) : Nat := (i - (last - s.es.length + 1)).toNat
def cutF : Nat → S → List Sg → Int → S × List Sg × Nat
 | 0, d, ss, _ => (d, ss, 0)
 | n + 1, d, ss, i =>
   match ss.getLast? with
   | none => (d, ss, 0)
   | some s =>
     if lastE (allE ss) < i then (d, ss, 0)
     else if keepN s (lastE (allE ss)) i = 0 then
      if (remove d (sgN s)).2 = 0 then cutF n (remove d (sgN s)).1 ss.dropLast i else ((remove d (sgN s)).1, ss, (remove d (sgN s)).2)
     else
      let k := keepN s (lastE (allE ss)) i
      let r := cut d (sgN s) ((recsB (s.es.take k)).length : Int)
      if r.2 = 0 then cutF n r.1 (ss.dropLast ++ [⟨s.ix, s.es.take k, s.wet⟩]) i else (r.1, ss, r.2)
def cutW (d : S) (ss : List Sg) (i : Int) : S × List Sg × Nat := cutF (ss.length + 1) d ss i
def rmW (s : S) : List Name → S × Nat
 | [] => (s, 0)
 | n :: r => if (remove s n).2 = 0 then rmW (remove s n).1 r else remove s n
def idxW (n : Name) : Int := match idxN 119 n with
 | none => 0
 | some i => (i : Int)
def loadW (d : S) (ss : List Sg) : List Name → S × List Sg × Nat
 | [] => (d, ss, 0)
 | n :: r =>
   if allE ss ≠ [] ∧ idxW n ≠ lastE (allE ss) + 1 then ((rmW d (n :: r).reverse).1, ss, (rmW d (n :: r).reverse).2)
   else if (read d n).2 ≠ 0 then (d, ss, (read d n).2)
   else
    let es := scanS (idxW n) (read d n).1
    if es = [] then ((rmW d (n :: r).reverse).1, ss, (rmW d (n :: r).reverse).2)
    else if (recsB es).length = (read d n).1.length then loadW d (ss ++ [⟨idxW n, es, false⟩]) r
    else if (rmW d r.reverse).2 ≠ 0 then ((rmW d r.reverse).1, ss ++ [⟨idxW n, es, false⟩], (rmW d r.reverse).2)
    else ((cut (rmW d r.reverse).1 n ((recsB es).length : Int)).1, ss ++ [⟨idxW n, es, false⟩], (cut (rmW d r.reverse).1 n ((recsB es).length : Int)).2)
def namesW (d : S) : List Name := (snames d).filter fun n => (idxN 119 n).isSome
def openW (d : S) : S × List Sg × Nat :=
 if d.down then (d, [], 50)
 else
  let r := loadW d [] (namesW d)
  if r.2.2 ≠ 0 then r
  else ((syncO r.1 r.2.1).1, r.2.1, (syncO r.1 r.2.1).2)
end Go.Proofs.YtifgajinfcihmaaGreatDoor.Wl
namespace Go.Proofs.YtifgajinfcihmaaGreatDoor.Wl
open Go Pk Dsk Go.Proofs.YtifgajinfcihmaaGreatDoor.Nm
theorem lt_append : ∀ {a b x y : Name}, a.length = b.length → lt (a ++ x) (b ++ y) = (lt a b || (a == b && lt x y))
 | [], [], x, y, _ => by
   show lt x y = (lt [] [] || (true && lt x y))
   rw [lt_irrefl]; simp
 | c :: a, d :: b, x, y, h => by
   have ih := @lt_append a b x y (by simpa using h)
   show (decide (c < d) || (c == d && lt (a ++ x) (b ++ y))) = ((decide (c < d) || (c == d && lt a b)) || ((c :: a) == (d :: b) && lt x y))
   rw [ih]
   have h2 : ((c :: a) == (d :: b)) = (c == d && a == b) := rfl
   rw [h2]
   cases decide (c < d) <;> cases (c == d) <;> cases lt a b <;> cases (a == b) <;> cases lt x y <;> rfl
 | [], d :: b, _, _, h => by simp at h
 | c :: a, [], _, _, h => by simp at h
theorem pad_lt : ∀ (k i j : Nat), j < 10 ^ k → i < j → lt (pad k i) (pad k j) = true
 | 0, i, j, h, h2 => by simp at h; omega
 | k + 1, i, j, h, h2 => by
   unfold pad
   rw [lt_append (by rw [pad_len, pad_len])]
   by_cases hq : i / 10 < j / 10
   ·rw [pad_lt k _ _ (by rw [Nat.pow_succ] at h; omega) hq]; rfl
   ·have e : i / 10 = j / 10 := by omega
    rw [e]
    have h3 : lt [UInt8.ofNat (48 + i % 10)] [UInt8.ofNat (48 + j % 10)] = true := by
     show (decide (_ < _) || _) = true
     rw [Bool.or_eq_true]; left
     rw [decide_eq_true_eq, UInt8.lt_iff_toNat_lt, dig_ok _ (by omega), dig_ok _ (by omega)]; omega
    rw [h3]; simp
theorem nmW_lt {i j : Int} (h0 : 0 ≤ i) (h1 : i < j) (h2 : j < 1000000000000000) : lt (nmW i) (nmW j) = true := by
 unfold nmW nmOf
 have h := pad_lt 15 i.toNat j.toNat (by simp; omega) (by omega)
 show (decide ((119 : UInt8) < 119) || ((119 : UInt8) == 119 && lt (pad 15 i.toNat) (pad 15 j.toNat))) = true
 rw [h]; rfl
theorem nmW_named (i : Int) : named (nmW i) = true := by unfold named nmW; rw [nmOf_len]; decide
def up (fs : List File) : S := ⟨fs, false, 0⟩
section
variable {pre post fs : List File} {f : File}
theorem mid_ne (hs : Sorted (pre ++ f :: post)) : (∀ g ∈ pre, g.name ≠ f.name) ∧ (∀ g ∈ post, g.name ≠ f.name) := by
 unfold Sorted at hs
 rw [List.pairwise_append, List.pairwise_cons] at hs
 exact ⟨fun g hg => lt_ne (hs.2.2 g hg f (by simp)), fun g hg e => lt_ne (hs.2.1.1 g hg) e.symm⟩
theorem find_mid (hs : Sorted (pre ++ f :: post)) : find f.name (pre ++ f :: post) = some f := by
 unfold find
 rw [List.find?_append, List.find?_eq_none.2 (fun g hg => by simpa using (mid_ne hs).1 g hg), List.find?_cons_of_pos (by simp)]; rfl
theorem upd_mid (hs : Sorted (pre ++ f :: post)) (g : File → File) : upd f.name g (pre ++ f :: post) = pre ++ g f :: post := by
 obtain ⟨h1, h2⟩ := mid_ne hs
 rw [upd_append, upd_of_none h1]
 show pre ++ ((if (f.name == f.name) = true then g f else f) :: upd f.name g post) = _
 rw [upd_of_none h2, if_pos (by simp)]
theorem ins_last : ∀ {fs : List File}, (∀ g ∈ fs, lt g.name f.name = true) → ins f fs = fs ++ [f]
 | [], _ => rfl
 | y :: r, h => by
   unfold ins
   rw [if_neg (by rw [lt_asymm (h y (by simp))]; decide), ins_last (fun g hg => h g (List.mem_cons_of_mem _ hg))]; rfl
theorem put_last (h : ∀ g ∈ fs, lt g.name f.name = true) : put f fs = fs ++ [f] := by
 unfold put; rw [del_of_none (find_none.2 (fun g hg => lt_ne (h g hg))), ins_last h]
theorem create_last {n : Name} (hn : named n = true) (h : ∀ g ∈ fs, lt g.name n = true) (hl : fs.length ≠ 256) : create (up fs) n = (up (fs ++ [⟨n, [], []⟩]), 0) := by
 unfold create
 rw [step_idle rfl]
 simp only [look_none (s := up fs) rfl hn (find_none.2 (fun g hg => lt_ne (h g hg)))]
 rw [if_pos trivial, if_neg (show ¬ (up fs).files.length = 256 from hl)]
 show (S.mk (put ⟨n, [], []⟩ fs) false 0, 0) = _
 rw [put_last h]; rfl
theorem up_look (hn : named f.name = true) (hs : Sorted (pre ++ f :: post)) : Dsk.look (up (pre ++ f :: post)) [f.name] = (some f, 0) := look_found rfl hn (find_mid hs)
theorem write_mid {c : List UInt8} (hn : named f.name = true) (hs : Sorted (pre ++ f :: post)) (hl : f.now.length + c.length ≤ 65536) :
 write (up (pre ++ f :: post)) f.name (f.now.length : Int) c = (up (pre ++ ⟨f.name, f.now ++ c, f.safe⟩ :: post), 0) := by
 unfold write
 rw [step_idle rfl]
 simp only [up_look hn hs]
 rw [if_neg (by omega), if_neg (by omega)]
 show (S.mk (upd f.name _ (pre ++ f :: post)) false 0, 0) = _
 rw [upd_mid hs]
 have e : over f.now (Int.toNat (f.now.length : Int)) c = f.now ++ c := by unfold over; simp
 rw [e]; rfl
end
def chainS : Int → List Sg → Prop
 | _, [] => True
 | i, s :: r => s.ix = i ∧ s.es ≠ [] ∧ follow i s.es ∧ allR s.es ∧ chainS (i + s.es.length) r
theorem last_follow {i : Int} {es : List En} (h : follow i es) (hne : es ≠ []) : lastE es = i + es.length - 1 := by
 have e := (List.dropLast_concat_getLast hne).symm
 rw [e] at h
 have h2 := (follow_append.1 h).2.1
 conv => lhs; rw [e]
 rw [lastE_snoc, h2, List.length_dropLast]
 have := List.length_pos_iff.2 hne
 omega
theorem chain_append : ∀ {xs ys : List Sg} {i : Int}, chainS i (xs ++ ys) ↔ chainS i xs ∧ chainS (i + (allE xs).length) ys
 | [], ys, i => by simp [chainS, allE]
 | s :: r, ys, i => by
   show (s.ix = i ∧ s.es ≠ [] ∧ follow i s.es ∧ allR s.es ∧ chainS (i + s.es.length) (r ++ ys)) ↔ (s.ix = i ∧ s.es ≠ [] ∧ follow i s.es ∧ allR s.es ∧ chainS (i + s.es.length) r) ∧ chainS (i + (allE (s :: r)).length) ys
   rw [chain_append, allE_cons, List.length_append, show i + s.es.length + ((allE r).length : Int) = i + ((s.es.length + (allE r).length : Nat) : Int) by omega]
   simp only [and_assoc]
theorem chain_follow : ∀ {ss : List Sg} {i : Int}, chainS i ss → follow i (allE ss) ∧ allR (allE ss)
 | [], i, _ => ⟨trivial, fun _ h => by cases h⟩
 | s :: r, i, h => by
   obtain ⟨h1, h2, h3, h4, h5⟩ := h
   obtain ⟨a, b⟩ := chain_follow h5
   rw [allE_cons]
   refine ⟨follow_append.2 ⟨h3, a⟩, fun e he => ?_⟩
   rcases List.mem_append.1 he with he | he
   ·exact h4 e he
   ·exact b e he
theorem seg_bounds {s : Sg} (h2 : s.es ≠ []) (h3 : follow s.ix s.es) (h4 : allR s.es) : 1 ≤ s.ix ∧ s.ix + s.es.length ≤ 1099511627777 := by
 have hl := List.length_pos_iff.2 h2
 have a := follow_get h3 0 hl
 have b := follow_get h3 (s.es.length - 1) (by omega)
 have c := rightE_iff.1 (h4 _ (List.getElem_mem hl))
 have d := rightE_iff.1 (h4 _ (List.getElem_mem (show s.es.length - 1 < s.es.length by omega)))
 omega
theorem chain_ix : ∀ {ss : List Sg} {i : Int}, chainS i ss → ∀ s ∈ ss, 1 ≤ s.ix ∧ i ≤ s.ix ∧ s.ix + s.es.length ≤ 1099511627777 ∧ s.ix + s.es.length ≤ i + (allE ss).length ∧ s.es ≠ []
 | [], i, _, s, hs => by cases hs
 | x :: r, i, h, s, hs => by
   obtain ⟨h1, h2, h3, h4, h5⟩ := h
   rw [allE_cons, List.length_append]
   subst h1
   rcases List.mem_cons.1 hs with rfl | hs
   ·obtain ⟨a, b⟩ := seg_bounds h2 h3 h4
    exact ⟨a, Int.le_refl _, b, by omega, h2⟩
   ·obtain ⟨a, b, c, d, e⟩ := chain_ix h5 s hs
    exact ⟨a, by omega, c, by omega, e⟩
theorem chain_pair : ∀ {ss : List Sg} {i : Int}, chainS i ss → ss.Pairwise (fun a b : Sg => a.ix + (a.es.length : Int) ≤ b.ix)
 | [], i, _ => List.Pairwise.nil
 | x :: r, i, h => by
   obtain ⟨h1, h2, h3, h4, h5⟩ := h
   subst h1
   rw [List.pairwise_cons]
   exact ⟨fun s hs => (chain_ix h5 s hs).2.1, chain_pair h5⟩
structure SegK where
 s : Sg
 k : Nat
def fileK (x : SegK) : File := ⟨sgN x.s, sgB x.s, recsB (x.s.es.take x.k)⟩
def diskK (xs : List SegK) : S := up (xs.map fileK)
def segsK (xs : List SegK) : List Sg := xs.map SegK.s
def SafeK (t : Int) (x : SegK) : Prop := x.k ≤ x.s.es.length ∧ (x.s.wet = false → x.k = x.s.es.length) ∧ ∀ e ∈ x.s.es.drop x.k, t < e.ix
structure RunK (t i : Int) (xs : List SegK) : Prop where
 chain : chainS i (segsK xs)
 safe : ∀ x ∈ xs, SafeK t x
theorem segsK_snoc (xs : List SegK) (x : SegK) : segsK (xs ++ [x]) = segsK xs ++ [x.s] := List.map_append
theorem chain_sorted {xs : List SegK} {i : Int} (h : chainS i (segsK xs)) : Sorted (xs.map fileK) := by
 have hp := chain_pair h
 have hi := chain_ix h
 unfold Sorted
 unfold segsK at hp hi
 rw [List.pairwise_map] at hp ⊢
 refine hp.imp_of_mem (fun {a b} ha hb hab => ?_)
 obtain ⟨a1, a2, a3, a4, a5⟩ := hi a.s (List.mem_map_of_mem ha)
 obtain ⟨b1, b2, b3, b4, b5⟩ := hi b.s (List.mem_map_of_mem hb)
 have := List.length_pos_iff.2 a5
 have := List.length_pos_iff.2 b5
 exact nmW_lt (by omega) (by omega) (by omega)
theorem RunK.sorted {t i : Int} {xs : List SegK} (h : RunK t i xs) : Sorted (xs.map fileK) := chain_sorted h.chain
theorem RunK.nil (t i : Int) : RunK t i [] := ⟨trivial, fun _ h => by cases h⟩
theorem snoc_or {α : Type} (xs : List α) : xs = [] ∨ ∃ pre x, xs = pre ++ [x] := by
 by_cases h : xs = []
 ·exact .inl h
 ·exact .inr ⟨xs.dropLast, xs.getLast h, (List.dropLast_concat_getLast h).symm⟩
theorem RunK.last {t i : Int} {xs : List SegK} (h : RunK t i xs) (hne : allE (segsK xs) ≠ []) : lastE (allE (segsK xs)) = i + (allE (segsK xs)).length - 1 := last_follow (chain_follow h.chain).1 hne
theorem wrLast_run {fs : List File} {ss : List Sg} {s : Sg} {e : En} {sf : List UInt8} (hs : Sorted (fs ++ [⟨sgN s, sgB s, sf⟩])) (hl : (sgB s).length + (recB e).length ≤ 65536) :
 wrLast (up (fs ++ [⟨sgN s, sgB s, sf⟩])) ss s e = (up (fs ++ [⟨sgN s, sgB s ++ recB e, sf⟩]), ss ++ [⟨s.ix, s.es ++ [e], true⟩], 0) := by
 unfold wrLast
 rw [write_mid (f := ⟨sgN s, sgB s, sf⟩) (post := []) (nmW_named _) hs hl]
 simp only
 rw [if_pos trivial]
theorem follow_one {i : Int} {e : En} : follow i [e] ↔ e.ix = i := by simp [follow]
theorem write1_run {t i : Int} {xs : List SegK} {e : En} (h : RunK t i xs) (hr : rightE e = true) (hi : e.ix = i + (allE (segsK xs)).length) (ht : t < e.ix) (hc : xs.length < 256) :
 ∃ ys, write1 (diskK xs) (segsK xs) e = (diskK ys, segsK ys, 0) ∧ RunK t i ys ∧ allE (segsK ys) = allE (segsK xs) ++ [e] ∧ ys.length ≤ xs.length + 1 := by
 have hre := rightE_iff.1 hr
 have hrl := recB_le hr
 have hci := chain_ix h.chain
 by_cases hd : dueW (segsK xs) = true
 ·obtain ⟨y, hy⟩ : ∃ y : SegK, y = ⟨⟨e.ix, [e], true⟩, 0⟩ := ⟨_, rfl⟩
  have hfy : fileK y = ⟨nmW e.ix, sgB ⟨e.ix, [], false⟩ ++ recB e, []⟩ := by
   rw [hy]; unfold fileK sgN sgB; simp [recsB]
  have hlt : ∀ g ∈ xs.map fileK, lt g.name (nmW e.ix) = true := fun g hg => by
   obtain ⟨x, hx, rfl⟩ := List.mem_map.1 hg
   obtain ⟨a1, a2, a3, a4, a5⟩ := hci x.s (List.mem_map_of_mem hx)
   have := List.length_pos_iff.2 a5
   exact nmW_lt (by omega) (by omega) (by omega)
  have hch : chainS i (segsK (xs ++ [y])) := by
   rw [segsK_snoc, chain_append]
   refine ⟨h.chain, ?_⟩
   rw [hy]
   exact ⟨hi, by simp, follow_one.2 hi, fun z hz => by rw [List.mem_singleton.1 hz]; exact hr, trivial⟩
  have hrun : RunK t i (xs ++ [y]) := ⟨hch, fun z hz => by
   rcases List.mem_append.1 hz with hz | hz
   ·exact h.safe z hz
   ·rw [List.mem_singleton.1 hz, hy]
    refine ⟨Nat.zero_le _, (fun e => by cases e), fun z hz => ?_⟩
    have : z = e := by simpa using hz
    rw [this]; exact ht⟩
  refine ⟨xs ++ [y], ?_, hrun, by rw [segsK_snoc, allE_snoc, hy], by simp⟩
  unfold write1
  rw [if_pos hd]
  have hcr : create (diskK xs) (nmW e.ix) = (up (xs.map fileK ++ [⟨nmW e.ix, [], []⟩]), 0) := create_last (nmW_named _) hlt (by rw [List.length_map]; omega)
  rw [hcr]
  simp only
  rw [if_pos trivial]
  have hso := hrun.sorted
  rw [List.map_append, List.map_singleton, hfy] at hso
  have hso2 : Sorted (xs.map fileK ++ [⟨sgN ⟨e.ix, [], false⟩, sgB ⟨e.ix, [], false⟩, []⟩]) := by
   rw [sorted_names] at hso ⊢
   rw [List.map_append] at hso ⊢
   exact hso
  have hw := wrLast_run (ss := segsK xs) (e := e) hso2 (by show 0 + _ ≤ _; omega)
  refine hw.trans ?_
  rw [segsK_snoc]
  unfold diskK
  rw [List.map_append, List.map_singleton, hfy, hy]; rfl
 ·have hd' : dueW (segsK xs) = false := by simpa using hd
  rcases snoc_or xs with rfl | ⟨pre, x, rfl⟩
  ·exact absurd rfl hd
  ·rw [segsK_snoc] at hd' hi ⊢
   have hgl : (segsK pre ++ [x.s]).getLast? = some x.s := by simp
   have hlt : (sgB x.s).length < 256 := by
    unfold dueW at hd'
    rw [hgl] at hd'
    have := of_decide_eq_false hd'
    omega
   obtain ⟨y, hy⟩ : ∃ y : SegK, y = ⟨⟨x.s.ix, x.s.es ++ [e], true⟩, x.k⟩ := ⟨_, rfl⟩
   obtain ⟨sk1, sk2, sk3⟩ := h.safe x (by simp)
   have hfy : fileK y = ⟨sgN x.s, sgB x.s ++ recB e, recsB (x.s.es.take x.k)⟩ := by
    rw [hy]; unfold fileK sgN sgB; simp only; rw [recsB_snoc, List.take_append_of_le_length sk1]
   have hcx := h.chain
   rw [segsK_snoc, chain_append] at hcx
   obtain ⟨hc1, h1, h2, h3, h4, -⟩ := hcx
   rw [allE_snoc, List.length_append] at hi
   have hch : chainS i (segsK (pre ++ [y])) := by
    rw [segsK_snoc, chain_append]
    refine ⟨hc1, ?_⟩
    rw [hy]
    refine ⟨h1, by simp, follow_append.2 ⟨h3, follow_one.2 (by rw [hi]; omega)⟩, fun z hz => ?_, trivial⟩
    rcases List.mem_append.1 hz with hz | hz
    ·exact h4 z hz
    ·rw [List.mem_singleton.1 hz]; exact hr
   refine ⟨pre ++ [y], ?_, ⟨hch, fun z hz => ?_⟩, by rw [segsK_snoc, allE_snoc, allE_snoc, hy, List.append_assoc], by simp⟩
   ·unfold write1
    rw [if_neg (by rw [hd']; decide), hgl]
    simp only
    rw [List.dropLast_concat]
    have hso := h.sorted
    unfold diskK
    rw [List.map_append, List.map_singleton] at hso ⊢
    rw [show fileK x = ⟨sgN x.s, sgB x.s, recsB (x.s.es.take x.k)⟩ from rfl] at hso ⊢
    rw [wrLast_run hso (by omega), segsK_snoc, List.map_append, List.map_singleton, hfy, hy]
   ·rcases List.mem_append.1 hz with hz | hz
    ·exact h.safe z (by simp [hz])
    ·rw [List.mem_singleton.1 hz, hy]
     refine ⟨by show x.k ≤ (x.s.es ++ [e]).length; rw [List.length_append]; omega, (fun e => by cases e), fun z hz => ?_⟩
     have hz : z ∈ (x.s.es ++ [e]).drop x.k := hz
     rw [List.drop_append_of_le_length sk1] at hz
     rcases List.mem_append.1 hz with hz | hz
     ·exact sk3 z hz
     ·rw [List.mem_singleton.1 hz]; exact ht
theorem writeAll_ok {t i : Int} : ∀ (es : List En) {xs : List SegK}, RunK t i xs → allR es → follow (i + (allE (segsK xs)).length) es → (∀ e ∈ es, t < e.ix) → xs.length + es.length ≤ 256 →
 ∃ ys, writeAll (diskK xs) (segsK xs) es = (diskK ys, segsK ys, 0) ∧ RunK t i ys ∧ allE (segsK ys) = allE (segsK xs) ++ es ∧ ys.length ≤ xs.length + es.length
 | [], xs, h, _, _, _, _ => ⟨xs, rfl, h, by simp, by simp⟩
 | e :: r, xs, h, ha, hf, ht, hc => by
   rw [List.length_cons] at hc
   obtain ⟨ys, h1, h2, h3, h4⟩ := write1_run h (ha e (by simp)) hf.1 (ht e (by simp)) (by omega)
   obtain ⟨zs, k1, k2, k3, k4⟩ := writeAll_ok r h2 (fun x hx => ha x (List.mem_cons_of_mem _ hx)) (by
    rw [h3, List.length_append, List.length_singleton]
    have := hf.2
    rw [show i + (((allE (segsK xs)).length + 1 : Nat) : Int) = i + ((allE (segsK xs)).length : Int) + 1 by omega]
    exact this) (fun x hx => ht x (List.mem_cons_of_mem _ hx)) (by omega)
   refine ⟨zs, ?_, k2, by rw [k3, h3, List.append_assoc]; rfl, by rw [List.length_cons]; omega⟩
   unfold writeAll
   rw [h1]
   simp only
   rw [if_pos trivial]
   exact k1
theorem gap_follow : ∀ {es : List En} {l : Int}, follow (l + 1) es → gapB l es = false
 | [], _, _ => rfl
 | e :: r, l, h => by
   unfold gapB
   rw [if_neg (by rintro ⟨_, h2⟩; exact h2 h.1)]
   exact gap_follow (by rw [h.1]; exact h.2)
theorem gap_zero {es : List En} {i : Int} (h : follow i es) : gapB 0 es = false := by
 cases es with
 | nil => rfl
 | cons e r =>
   unfold gapB
   rw [if_neg (by rintro ⟨h1, _⟩; exact h1 rfl)]
   exact gap_follow (by rw [h.1]; exact h.2)
theorem follow_gap : ∀ {es : List En} {l : Int}, l ≠ 0 → allR es → gapB l es = false → follow (l + 1) es
 | [], _, _, _, _ => trivial
 | e :: r, l, hl, ha, h => by
   unfold gapB at h
   by_cases hc : l ≠ 0 ∧ e.ix ≠ l + 1
   ·rw [if_pos hc] at h; cases h
   ·rw [if_neg hc] at h
    have he : e.ix = l + 1 := by
     by_cases h9 : e.ix = l + 1
     ·exact h9
     ·exact absurd ⟨hl, h9⟩ hc
    have hr := rightE_iff.1 (ha e (by simp))
    have := follow_gap (l := e.ix) (by omega) (fun x hx => ha x (List.mem_cons_of_mem _ hx)) h
    rw [he] at this
    exact ⟨he, this⟩
theorem any_right {es : List En} (h : allR es) : es.any (fun e => !rightE e) = false := by
 rw [List.any_eq_false]
 intro e he
 rw [h e he]; decide
theorem appendW_ok {t i : Int} {es : List En} {xs : List SegK} (h : RunK t i xs) (ha : allR es) (hf : follow (i + (allE (segsK xs)).length) es) (ht : ∀ e ∈ es, t < e.ix) (hc : xs.length + es.length ≤ 256) :
 ∃ ys, appendW (diskK xs) (segsK xs) es = (diskK ys, segsK ys, 0) ∧ RunK t i ys ∧ allE (segsK ys) = allE (segsK xs) ++ es ∧ ys.length ≤ xs.length + es.length := by
 unfold appendW
 rw [any_right ha]
 rw [if_neg (by decide)]
 have hg : gapB (lastE (allE (segsK xs))) es = false := by
  by_cases he : allE (segsK xs) = []
  ·rw [he]; exact gap_zero hf
  ·rw [h.last he]
   refine gap_follow ?_
   rw [show i + ((allE (segsK xs)).length : Int) - 1 + 1 = i + ((allE (segsK xs)).length : Int) by omega]; exact hf
 rw [hg, if_neg (by decide)]
 exact writeAll_ok es h ha hf ht hc
theorem cutF_done {n : Nat} {d : S} {ss : List Sg} {c : Int} (h : lastE (allE ss) < c) : cutF n d ss c = (d, ss, 0) := by
 cases n with
 | zero => rfl
 | succ n =>
   unfold cutF
   cases ss.getLast? with
   | none => rfl
   | some s => simp only; rw [if_pos h]
end Go.Proofs.YtifgajinfcihmaaGreatDoor.Wl
