/- Layer 8: the walk of find. -/
import Derived.Test.YtfpomllhkbbipaaGreatDoorGBe
import Derived.Test.YtfpomllhkbbipaaGreatDoorGAv
import Derived.Test.YtfpomllhkbbipaaGreatDoorGAt
import Derived.Test.YtfpomllhkbbipaaGreatDoorGAo
import Derived.Test.YtfpomllhkbbipaaGreatDoorGAx
namespace Go.Proofs.YtfpomllhkbbipaaGreatDoor
open Go Go.RowKit Go.Shelf Go.Maps Go.Lib Mem Pk Cf Dsk Go.Proofs.YtfpomllhkbbipaaGreatDoor.Nm Sto
attribute [local go_sem] Oper.semAt_some
namespace Sto
def cand (s : S) (n : Name) : Option SnT :=
 match readS (read s n).1 with
 | some x => if (idxS n).map Int.ofNat = some x.x then some x else none
 | none => none
theorem findS_cons (s : S) (n : Name) (r : List Name) : findS s (n :: r) = match cand s n with | some x => some x | none => findS s r := by
 show (match readS (read s n).1 with | some x => if (idxS n).map Int.ofNat = some x.x then some x else findS s r | none => findS s r) = _
 unfold cand
 cases readS (read s n).1 with
 | none => rfl
 | some x => simp only; split <;> rfl
theorem findS_skip (s : S) : ∀ (l r : List Name), (∀ n ∈ l, cand s n = none) → findS s (l ++ r) = findS s r
 | [], _, _ => rfl
 | n :: l, r, h => by
   rw [List.cons_append, findS_cons, h n (by simp)]
   exact findS_skip s l r (fun m hm => h m (List.mem_cons_of_mem _ hm))
theorem back_list (xs : List Name) : (List.range xs.length).map (backN xs) = xs.reverse := by
 apply List.ext_getElem
 ·simp
 ·intro i h1 h2
  have hi : i < xs.length := by simpa using h1
  rw [List.getElem_map, List.getElem_range, List.getElem_reverse]
  unfold backN
  rw [List.getD_eq_getElem?_getD, List.getElem?_eq_getElem (by omega)]
  rfl
theorem find_done {s : S} {xs : List Name} (h : ∀ k ∈ List.range xs.length, cand s (backN xs k) = none) : findS s xs.reverse = none := by
 rw [← back_list, ← List.append_nil ((List.range xs.length).map (backN xs)), findS_skip s _ [] (fun n hn => by
  obtain ⟨k, hk, rfl⟩ := List.mem_map.1 hn; exact h k hk)]
 rfl
theorem find_stop {s : S} {xs : List Name} {k : Nat} {x : SnT} (hk : k < xs.length) (h : ∀ j ∈ List.range k, cand s (backN xs j) = none) (hx : cand s (backN xs k) = some x) : findS s xs.reverse = some x := by
 rw [← back_list]
 have e : List.range xs.length = List.range k ++ (k :: (List.range (xs.length - (k + 1))).map (fun i => k + 1 + i)) := by
  have h1 : xs.length = (k + 1) + (xs.length - (k + 1)) := by omega
  rw [h1, List.range_add, List.range_succ, List.append_assoc]
  simp
 rw [e, List.map_append, findS_skip s _ _ (fun n hn => by
  obtain ⟨j, hj, rfl⟩ := List.mem_map.1 hn; exact h j hj), List.map_cons, findS_cons, hx]
end Sto
def FndP (res : Option SnT) (w : World) (e : Ending) (w' : World) : Prop :=
 Below w.heap.size w w' ∧ (res = none → e = .returned (.tuple #[.agg #[.int .i64 0, .int .i64 0, .slice none 0 0, .slice none 0 0, .slice none 0 0], .bool false])) ∧
 ∀ s, res = some s → ∃ A B D a b d, e = .returned (.tuple #[.agg #[.int .i64 s.x, .int .i64 s.t, .slice A s.vs.length a, .slice B s.ls.length b, .slice D s.ds.length d], .bool true]) ∧
   Mem.Own fI w.heap.size 3 w' (.slice A s.vs.length a) s.vs ∧ Mem.Own fI w.heap.size 3 w' (.slice B s.ls.length b) s.ls ∧ Mem.Own fB w.heap.size 5 w' (.slice D s.ds.length d) s.ds
theorem frm_grown {F : Nat → Prop} {w w1 w2 : World} {row : Option Nat} (h : Frm F w w1) (hg : w1.grownBy w2 row) (hr : ∀ k, row = some k → w.heap.size ≤ k) : Frm F w w2 := by
 obtain ⟨a, b, c, d, e⟩ := hg
 exact ⟨a.trans h.os, b.trans h.tape, c.trans h.output, Nat.le_trans h.size d, fun g hl h1 => (e g (Nat.lt_of_lt_of_le hl h.size) (fun e' => by have := hr g e'.symm; omega)).trans (h.block g hl h1)⟩
def FnX (s : S) (xs : List Name) (rb qb : Nat) (w2 : World) (pre : List Nat) (W : World) : Prop :=
 ∃ pre0 k x, pre = pre0 ++ [k] ∧ Hid (∀ j ∈ pre0, cand s (backN xs j) = none) ∧ Hid (cand s (backN xs k) = some x) ∧ Frm (fun g => g = rb ∨ g = qb) w2 W ∧ Blk W qb 4 #[.bool true] ∧
   ∃ A B D a b d, Blk W rb 43 #[.int .i64 x.x, .int .i64 x.t, .slice A x.vs.length a, .slice B x.ls.length b, .slice D x.ds.length d] ∧
     Mem.Own fI w2.heap.size 3 W (.slice A x.vs.length a) x.vs ∧ Mem.Own fI w2.heap.size 3 W (.slice B x.ls.length b) x.ls ∧ Mem.Own fB w2.heap.size 5 W (.slice D x.ds.length d) x.ds
theorem back_mem {xs : List Name} (h : 0 < xs.length) (k : Nat) : backN xs k ∈ xs := by
 unfold backN
 rw [List.getD_eq_getElem?_getD, List.getElem?_eq_getElem (by omega)]
 exact List.getElem_mem _
set_option maxRecDepth 100000 in
set_option maxHeartbeats 4000000 in
theorem sFind_any {G F : Nat → Prop} {B p : Nat} {s : S} {w : World} (hl : LaidB B w) (hx : DX G B p s w) {A : Option Addr} {c : Nat} {xs : List Name} {te : TypeId} (hs : SlB encStr te F w A xs) (hn : xs.length ≤ 1000) (hnl : ∀ n ∈ xs, n.length ≤ 1000) (hid : ∀ n ∈ xs, ∃ i, idxS n = some i) :
 Calls Tryz.prog 30 #[.pointer (some ⟨p, 0, none⟩), .slice A xs.length c] w (FndP (findS s xs.reverse) w) := by
 obtain ⟨w1, hw1⟩ : ∃ z, z = ((w.alloc (.cells #[.pointer (some ⟨p, 0, none⟩)] 23)).alloc (.cells #[.int .i64 0, .int .i64 0, .slice none 0 0, .slice none 0 0, .slice none 0 0] 43)).alloc (.cells #[.bool false] 4) := ⟨_, rfl⟩
 have hs1 : w1.heap.size = w.heap.size + 3 := by rw [hw1]; simp
 have hb1 : Below w.heap.size w w1 := by rw [hw1]; exact (((Below.refl _ _).alloc (Nat.le_refl _) _).alloc (by simp) _).alloc (by simp; omega) _
 have hD1 : Blk w1 w.heap.size 23 #[.pointer (some ⟨p, 0, none⟩)] := by rw [hw1]; exact ((Blk.new_ w _ _).alloc _).alloc _
 have hR1 : Blk w1 (w.heap.size + 1) 43 #[.int .i64 0, .int .i64 0, .slice none 0 0, .slice none 0 0, .slice none 0 0] := by
  have h1 := (Blk.new_ (w.alloc (.cells #[.pointer (some ⟨p, 0, none⟩)] 23)) 43 #[.int .i64 0, .int .i64 0, .slice none 0 0, .slice none 0 0, .slice none 0 0]).alloc (.cells #[.bool false] 4)
  rw [World.size_alloc] at h1; rw [hw1]; exact h1
 have hQ1 : Blk w1 (w.heap.size + 1 + 1) 4 #[.bool false] := by
  have h1 := Blk.new_ ((w.alloc (.cells #[.pointer (some ⟨p, 0, none⟩)] 23)).alloc (.cells #[.int .i64 0, .int .i64 0, .slice none 0 0, .slice none 0 0, .slice none 0 0] 43)) 4 #[.bool false]
  rw [World.size_alloc, World.size_alloc] at h1; rw [hw1]; exact h1
 obtain ⟨w2, hw2⟩ : ∃ z, z = w1.alloc (.cells #[.slice A xs.length c] 55) := ⟨_, rfl⟩
 have hs2 : w2.heap.size = w.heap.size + 4 := by rw [hw2, World.size_alloc, hs1]
 have hb12 : Below w1.heap.size w1 w2 := by rw [hw2]; exact (Below.refl _ _).alloc (Nat.le_refl _) _
 have hN2 : Blk w2 w1.heap.size 55 #[.slice A xs.length c] := by rw [hw2]; exact Blk.new_ w1 _ _
 have hb2 : Below w.heap.size w w2 := hb1.trans (hb12.mono hb1.size)
 have hD2 := hD1.below hb12 hD1.lt
 have hR2 := hR1.below hb12 hR1.lt
 have hQ2 := hQ1.below hb12 hQ1.lt
 have hx2 := hx.below hb2
 have hl2 : LaidB B w2 := hl.on (hb2.mono hx.le)
 obtain ⟨bA, oA, hA, hbA, hcA⟩ : ∃ b o, (xs.length = 0 ∨ A = some ⟨b, o, none⟩) ∧ b < w2.heap.size ∧ ∀ j (hj : j < xs.length), w2.cell? ⟨b, o + j, none⟩ = some (.string ⟨(xs[j]).toArray⟩) := by
  by_cases h0 : 0 < xs.length
  ·obtain ⟨b', o', e', -, hc'⟩ := (hs.sl.below hb2).at h0
   refine ⟨b', o', .inr e', ?_, fun j hj => hc' j hj⟩
   have := hc' 0 h0
   unfold World.cell? at this
   rcases Nat.lt_or_ge b' w2.heap.size with h9 | h9
   ·exact h9
   ·have h10 : w2.heap[b']? = none := Array.getElem?_eq_none h9
    simp [h10] at this
  ·exact ⟨0, 0, .inl (by omega), by omega, fun j hj => absurd hj (by omega)⟩
 have hstops := back_stops Fence.wide 8 trivial rfl (by decide) w1.heap.size bA oA c xs A hA (by omega) w2 (by omega) (.inr hbA) (hN2.cell 0) hcA
 have HSTOPS := Lib.hid hstops
 have HX2 := Lib.hid hx2
 have HL2 := Lib.hid hl2
 have HD2 := Lib.hid hD2
 have HR2 := Lib.hid hR2
 have HQ2 := Lib.hid hQ2
 have HN2 := Lib.hid hN2
 have HB2 := Lib.hid hb2
 have HNL := Lib.hid hnl
 have HID := Lib.hid hid
 have HS1 := Lib.hid hs1
 have HS2 := Lib.hid hs2
 have HBA := Lib.hid hbA
 have HW2 := Lib.hid hw2
 have hbw := hx.le
 have HW1 := Lib.hid hw1
 clear hw1 hl hx hs hnl hid hb1 hD1 hR1 hQ1 hb12 hb2 hD2 hR2 hQ2 hx2 hl2 hA hcA hstops hN2 hw2 hbA hs1 hs2
 refine (callsIn_wide (n := 9)).1 (callsIn_of_wp_marks Tryz.func30 rfl trivial (wpIn_wide.2 ?_) rfl)
 simp only [Tryz.ntmps30, List.size_toArray, List.length_cons, List.length_nil, Nat.reduceAdd, Nat.reduceSub, Array.replicate_succ, Array.replicate_zero, List.push_toArray, List.append_toArray, List.nil_append, List.cons_append]
 obtain ⟨QQ, hQQ⟩ : ∃ q, q = bodyPostM Fence.wide 9 Tryz.prog Tryz.f30 (FndP (findS s xs.reverse) w) := ⟨_, rfl⟩
 rw [← hQQ]
 have HQQ := Lib.hid hQQ; clear hQQ
 go_upto_region 1 with fail
 rw [← HW1.out]
 go_wp2_with fail
 (with_reducible refine (Backward_any (w := w1) (A := A) (len := xs.length) (cap := c)).mono ?_); rintro e w9 ⟨rfl, rfl⟩
 go_wp2_with fail
 rw [← HW2.out]
 refine (wpIn_wide (n := 9)).1 ?_
 refine' wpIn_rangeFunc_ownF (a₁ := _) rfl (by decide) (gf := 94) (lb := #[.pointer (some ⟨w1.heap.size, 0, none⟩)]) rfl trivial (enters_of Tryz.func94 (by kernel_rfl) rfl)
  HSTOPS.out KpC.trans (KpC.put (by have := HS1.out; have := HS2.out; omega) HBA.out) (Below.refl _ _) (fun _ => rfl)
  (fun pre W => Below w2.heap.size w2 W ∧ ∀ k ∈ pre, cand s (backN xs k) = none)
  (fun c pre W => c = .ret ∧ FnX s xs (w.heap.size + 1) (w.heap.size + 1 + 1) w2 pre W) ?hI ?hIx ?h0 ?assign ?body ?done ?stop
 case hI =>
  rintro pre' W W' row ⟨h1, h2⟩ hg hr
  exact ⟨h1.grown hg h1.size (fun k e => (hr k e).1), h2⟩
 case hIx =>
  rintro c' pre' W W' row ⟨h1, pre0, k, x, e1, h2, h3, h4, h5, A1, B1, D1, a1, b1, d1, h6, h7, h8, h9⟩ hg hr
  exact ⟨h1, pre0, k, x, e1, h2, h3, frm_grown h4 hg (fun k e => (hr k e).1), blk_turn h5 hg (fun r e => (hr r e).2), A1, B1, D1, a1, b1, d1, blk_turn h6 hg (fun r e => (hr r e).2), own_turn h7 hg (fun r e => (hr r e).2), own_turn h8 hg (fun r e => (hr r e).2), own_turn h9 hg (fun r e => (hr r e).2)⟩
 case h0 => exact ⟨Below.refl _ _, fun k hk => by cases hk⟩
 case assign =>
  intro l x' W K hK
  unfold bkE
  gi_wp2
  exact hK
 case done =>
  rintro D' ys W hD rfl ⟨hbW, hnW⟩ hK
  have HF := Lib.hid (find_done hnW)
  have hRW := HR2.out.below hbW HR2.out.lt
  have hQW := HQ2.out.below hbW HQ2.out.lt
  have q0 := hRW.free 0
  have q1 := hRW.free 1
  have q2 := hRW.free 2
  have q3 := hRW.free 3
  have q4 := hRW.free 4
  have q5 := hQW.free 0
  obtain ⟨d0, d1, d2, d3, d4⟩ := held5 hRW (Below.refl _ _)
  have d5 := hQW.cell 0
  go_wp2_with fail
  obtain ⟨W9, hW9⟩ : ∃ z, z = (put5 W (w.heap.size + 1) (.int .i64 0) (.int .i64 0) (.slice none 0 0) (.slice none 0 0) (.slice none 0 0)).setCell ⟨w.heap.size + 1 + 1, 0, none⟩ (.bool false) := ⟨_, rfl⟩
  have hp9 := put5_frm W (w.heap.size + 1) (.int .i64 0) (.int .i64 0) (.slice none 0 0) (.slice none 0 0) (.slice none 0 0)
  have hf9 : Frm (fun g => g = w.heap.size + 1 ∨ g = w.heap.size + 1 + 1) W W9 := by rw [hW9]; exact (hp9.mono (fun _ _ e => .inl e)).setCell (p := ⟨w.heap.size + 1 + 1, 0, none⟩) (fun _ => .inr rfl) _
  have hR9 : Blk W9 (w.heap.size + 1) 43 #[.int .i64 0, .int .i64 0, .slice none 0 0, .slice none 0 0, .slice none 0 0] := by rw [hW9]; exact (put5_blk hRW).far (by show w.heap.size + 1 ≠ w.heap.size + 1 + 1; omega) _
  have hQ9 : Blk W9 (w.heap.size + 1 + 1) 4 #[.bool false] := by rw [hW9]; exact (hQW.frm hp9 (by omega)).set_ 0 _
  unfold put5 at hW9
  rw [← hW9]
  have hs2 := HS2.out
  have hK9 : W9.heap[D']? = some (.deferred (some [])) := (hf9.block D' (Array.getElem?_eq_some_iff.1 hK).1 (fun e => by omega)).trans hK
  have hg9 := grownBy_putObj' W9 D' (.deferred none)
  have hrow : ∀ r, some D' = some r → ∃ o : Obj, W9.heap[r]? = some o ∧ o.isCells = false := fun r e => by cases e; exact ⟨_, hK9, rfl⟩
  obtain ⟨r0, r1, r2, r3, r4⟩ := held5 (blk_turn hR9 hg9 hrow) (Below.refl _ _)
  have r5 := (blk_turn hQ9 hg9 hrow).cell 0
  rw [HQQ.out]
  refine ⟨by simp, .inl ⟨_, _, rfl, run_takeDeferred hK9, ?_⟩⟩
  refine ⟨.tuple #[.agg #[.int .i64 0, .int .i64 0, .slice none 0 0, .slice none 0 0, .slice none 0 0], .bool false], by simp [results, Tryz.results30, go_sem, r0, r1, r2, r3, r4, r5], ?_⟩
  have hbb : Below w.heap.size w W9 := HB2.out.trans ((hbW.mono (by omega)).trans (hf9.to_below (fun k _ h1 h2 => by omega) (by have := hbW.size; omega)))
  refine ⟨hbb.grown hg9 hbb.size (fun k e => by cases e; omega), fun _ => rfl, fun x hx => by rw [HF.out] at hx; cases hx⟩
 case stop =>
  rintro D' c' pre' W hD ⟨k, hk, rfl⟩ ⟨rfl, pre0, k', x, e1, h2, h3, h4, h5, A1, B1, D1, a1, b1, d1, h6, h7, h8, h9⟩ hK
  obtain ⟨hpre, hkk⟩ := List.append_inj' e1 rfl
  obtain rfl : k = k' := by injection hkk
  have HF := Lib.hid (find_stop hk (by rw [hpre]; exact h2.out) h3.out)
  gi_wp2_with fail
  have hs2 := HS2.out
  have hg9 := grownBy_putObj' W D' (.deferred none)
  have hrow : ∀ r, some D' = some r → ∃ o : Obj, W.heap[r]? = some o ∧ o.isCells = false := fun r e => by cases e; exact ⟨_, hK, rfl⟩
  obtain ⟨r0, r1, r2, r3, r4⟩ := held5 (blk_turn h6 hg9 hrow) (Below.refl _ _)
  have r5 := (blk_turn h5 hg9 hrow).cell 0
  rw [HQQ.out]
  refine ⟨by simp, .inl ⟨_, _, rfl, run_takeDeferred hK, ?_⟩⟩
  refine ⟨.tuple #[.agg #[.int .i64 x.x, .int .i64 x.t, .slice A1 x.vs.length a1, .slice B1 x.ls.length b1, .slice D1 x.ds.length d1], .bool true], by simp [results, Tryz.results30, go_sem, r0, r1, r2, r3, r4, r5], ?_⟩
  have hbb : Below w.heap.size w W := HB2.out.trans (h4.to_below (fun k _ h1 h2 => by omega) (by omega))
  refine ⟨hbb.grown hg9 hbb.size (fun k e => by cases e; omega), (fun h => by rw [HF.out] at h; cases h), fun x' hx' => ?_⟩
  rw [HF.out] at hx'
  obtain rfl := Option.some.inj hx'
  exact ⟨A1, B1, D1, a1, b1, d1, rfl, own_turn (Own.lowerI h7 (by omega)) hg9 hrow, own_turn (Own.lowerI h8 (by omega)) hg9 hrow, own_turn (Own.lowerS h9 (by omega)) hg9 hrow⟩
 case body =>
  rintro l pre' x' W ⟨hbW, hnW⟩ hlen
  obtain ⟨nm, hnm⟩ : ∃ z, z = backN xs x' := ⟨_, rfl⟩
  have hmem : nm ∈ xs := by rw [hnm]; exact back_mem (by omega) x'
  obtain ⟨i, hi⟩ := HID.out nm hmem
  have hlen16 := HNL.out nm hmem
  have hsn : sname ⟨nm.toArray⟩ = nm := by unfold sname; simp
  have hsz : (⟨nm.toArray⟩ : ByteArray).size = nm.length := by simp [ByteArray.size]
  have hszB := hbW.size
  have hs2 := HS2.out
  have HIX := Lib.hid (SIndex_any (HL2.out.on (hbW.mono (by omega))) (by omega) ⟨nm.toArray⟩ (by omega))
  obtain ⟨⟨bs, kc⟩, hrd⟩ : ∃ z, z = Dsk.read s nm := ⟨_, rfl⟩
  have HRD : Hid (∀ W', Below w2.heap.size w2 W' → Calls Tryz.prog 20 #[.pointer (some ⟨p, 0, none⟩), .string ⟨nm.toArray⟩] W' fun e w' => ∃ A c, e = .returned (.tuple #[.slice A bs.length c, .int .i64 (kc : Int)]) ∧ SlB fB 5 (fun g => W'.heap.size ≤ g) w' A bs ∧ bs.length ≤ c ∧ c ≤ maxLen ∧ D B p s w' ∧ Below W'.heap.size W' w') :=
   Lib.hid fun W' hb => L_Read (HX2.out.below hb).drop ⟨nm.toArray⟩ (by rw [hsz]; exact Nat.le_trans hlen16 (by unfold maxLen; decide)) (show Dsk.read s (sname ⟨nm.toArray⟩) = (bs, kc) from (by rw [hsn]; exact hrd.symm)) rfl
  have HCD : Hid (cand s (backN xs x') = match readS bs with | some x => if (idxS nm).map Int.ofNat = some x.x then some x else none | none => none) := Lib.hid (by unfold cand; rw [← hnm, ← hrd])
  have HI := Lib.hid hi
  have HSN := Lib.hid hsn
  have HBW := Lib.hid hbW
  have HNW := Lib.hid hnW
  rw [← hnm]
  clear hbW hnW hmem hlen16 hsn hsz hszB hs2 hnm hrd hi hlen
  gi_wp2_with fail
  refine ⟨trivial, ?_⟩
  refine (CallsIn.inRound l (callsIn_wide.2 HIX.out)).mono ?_
  rintro e W1 ⟨⟨v, rfl, hv⟩, hb1⟩
  have hv2 : v = (i : Int) := hv i (by rw [HSN.out]; exact HI.out)
  subst hv2
  have HB1 : Hid (Below w2.heap.size w2 W1) := Lib.hid (HBW.out.trans (hb1.mono HBW.out.size))
  have HB01 := Lib.hid hb1
  have c0 : W1.cell? ⟨w.heap.size, 0, none⟩ = some (.pointer (some ⟨p, 0, none⟩)) := (HD2.out.below HB1.out HD2.out.lt).cell 0
  clear hv hb1 HIX
  gi_wp2_with fail
  refine ⟨trivial, ?_⟩
  refine (CallsIn.inRound l (callsIn_wide.2 (HRD.out W1 HB1.out))).mono ?_
  rintro e W2 ⟨A4, c4, rfl, hs4, hc4, hm4, -, hb2⟩
  have HB2 : Hid (Below w2.heap.size w2 W2) := Lib.hid (HB1.out.trans (hb2.mono HB1.out.size))
  have HB02 : Hid (Below W.heap.size W W2) := Lib.hid (HB01.out.trans (hb2.mono HB01.out.size))
  have HSR := Lib.hid (SRead_any hs4.sl hc4 hm4)
  clear hs4 hc4 hm4 hb2 c0 HRD HB01
  obtain ⟨rs, hrs⟩ : ∃ z, z = readS bs := ⟨_, rfl⟩
  rw [← hrs] at HSR HCD
  clear hrs
  gi_wp2_with fail
  refine ⟨trivial, ?_⟩
  refine (CallsIn.inRound l (callsIn_wide.2 HSR.out)).mono ?_
  rintro e W3 ⟨hb3, hno, hyes⟩
  have HB3 : Hid (Below w2.heap.size w2 W3) := Lib.hid (HB2.out.trans (hb3.mono HB2.out.size))
  have HB03 : Hid (Below W.heap.size W W3) := Lib.hid (HB02.out.trans (hb3.mono HB02.out.size))
  clear hb3 HSR
  cases rs with
  | none =>
    obtain rfl := hno rfl
    clear hyes hno
    have hb34 : Below W3.heap.size W3 (W3.alloc (.cells #[.int .i64 0, .int .i64 0, .slice none 0 0, .slice none 0 0, .slice none 0 0] 43)) := (Below.refl _ _).alloc (Nat.le_refl _) _
    have HB4 := Lib.hid (HB3.out.trans (hb34.mono HB3.out.size))
    have HB04 := Lib.hid (HB03.out.trans (hb34.mono HB03.out.size))
    clear hb34
    gi_wp2_with fail
    refine ⟨keeps_below HB04.out, ⟨HB04.out.block w1.heap.size (by have := HBW.out.size; have := HS1.out; have := HS2.out; omega), HB04.out.block bA (Nat.lt_of_lt_of_le HBA.out HBW.out.size)⟩, HB4.out, fun k hk => ?_⟩
    rcases List.mem_append.1 hk with hk | hk
    ·exact HNW.out k hk
    ·obtain rfl : k = x' := by simpa using hk
     rw [HCD.out]
  | some x =>
    obtain ⟨A1, B1, D1, a1, b1, d1, rfl, o1, o2, o3⟩ := hyes x rfl
    have HO1 := Lib.hid o1
    have HO2 := Lib.hid o2
    have HO3 := Lib.hid o3
    clear hyes hno o1 o2 o3
    by_cases hxi : x.x = (i : Int)
    ·have t1 : (x.x == (i : Int)) = true := by simpa using hxi
     have hR4 := (HR2.out.below HB3.out HR2.out.lt).alloc (.cells #[.int .i64 x.x, .int .i64 x.t, .slice A1 x.vs.length a1, .slice B1 x.ls.length b1, .slice D1 x.ds.length d1] 43)
     have hQ4 := (HQ2.out.below HB3.out HQ2.out.lt).alloc (.cells #[.int .i64 x.x, .int .i64 x.t, .slice A1 x.vs.length a1, .slice B1 x.ls.length b1, .slice D1 x.ds.length d1] 43)
     have hb34 : Below W3.heap.size W3 (W3.alloc (.cells #[.int .i64 x.x, .int .i64 x.t, .slice A1 x.vs.length a1, .slice B1 x.ls.length b1, .slice D1 x.ds.length d1] 43)) := (Below.refl _ _).alloc (Nat.le_refl _) _
     have HB4 := Lib.hid (HB3.out.trans (hb34.mono HB3.out.size))
     have HB04 := Lib.hid (HB03.out.trans (hb34.mono HB03.out.size))
     have HP1 := Lib.hid (HO1.out.below hb34)
     have HP2 := Lib.hid (HO2.out.below hb34)
     have HP3 := Lib.hid (HO3.out.below hb34)
     have HR4 := Lib.hid hR4
     have HQ4 := Lib.hid hQ4
     have HXI := Lib.hid hxi
     have q0 := hR4.free 0
     have q1 := hR4.free 1
     have q2 := hR4.free 2
     have q3 := hR4.free 3
     have q4 := hR4.free 4
     have q5 := hQ4.free 0
     obtain ⟨d0, d1', d2, d3, d4⟩ := held5 hR4 (Below.refl _ _)
     have d5 := hQ4.cell 0
     clear hxi hb34 hR4 hQ4
     gi_wp2_with fail
     obtain ⟨W4, hW4⟩ : ∃ z, z = W3.alloc (.cells #[.int .i64 x.x, .int .i64 x.t, .slice A1 x.vs.length a1, .slice B1 x.ls.length b1, .slice D1 x.ds.length d1] 43) := ⟨_, rfl⟩
     rw [← hW4] at HB4 HB04 HP1 HP2 HP3 HR4 HQ4 ⊢
     obtain ⟨W9, hW9⟩ : ∃ z, z = (put5 W4 (w.heap.size + 1) (.int .i64 x.x) (.int .i64 x.t) (.slice A1 x.vs.length a1) (.slice B1 x.ls.length b1) (.slice D1 x.ds.length d1)).setCell ⟨w.heap.size + 1 + 1, 0, none⟩ (.bool true) := ⟨_, rfl⟩
     have hp9 := put5_frm W4 (w.heap.size + 1) (.int .i64 x.x) (.int .i64 x.t) (.slice A1 x.vs.length a1) (.slice B1 x.ls.length b1) (.slice D1 x.ds.length d1)
     have hs9 : Frm (fun g => g = w.heap.size + 1 + 1) (put5 W4 (w.heap.size + 1) (.int .i64 x.x) (.int .i64 x.t) (.slice A1 x.vs.length a1) (.slice B1 x.ls.length b1) (.slice D1 x.ds.length d1)) W9 := by rw [hW9]; exact (Frm.refl (fun g => g = w.heap.size + 1 + 1) _).setCell (p := ⟨w.heap.size + 1 + 1, 0, none⟩) (fun _ => rfl) _
     have hf9 : Frm (fun g => g = w.heap.size + 1 ∨ g = w.heap.size + 1 + 1) W4 W9 := (hp9.mono (fun _ _ e => .inl e)).trans (hs9.mono (fun _ _ e => .inr e))
     have hQp := HQ4.out.frm hp9 (by omega)
     have hR9 : Blk W9 (w.heap.size + 1) 43 #[.int .i64 x.x, .int .i64 x.t, .slice A1 x.vs.length a1, .slice B1 x.ls.length b1, .slice D1 x.ds.length d1] := (put5_blk HR4.out).frm hs9 (by omega)
     have hQ9 : Blk W9 (w.heap.size + 1 + 1) 4 #[.bool true] := by rw [hW9]; exact hQp.set_ 0 _
     have hko : KeepsOthers W4 W9 := by rw [hW9]; unfold put5; exact (((((KeepsOthers.setCell _ _ _).trans (KeepsOthers.setCell _ _ _)).trans (KeepsOthers.setCell _ _ _)).trans (KeepsOthers.setCell _ _ _)).trans (KeepsOthers.setCell _ _ _)).trans (KeepsOthers.setCell _ _ _)
     unfold put5 at hW9
     rw [← hW9]
     have hfar : ∀ {α : Type} {f : α → Value} {e : TypeId} {v : Value} {ys : List α}, e ≠ 43 → e ≠ 4 → Mem.Own f W2.heap.size e W4 v ys → Mem.Own f W2.heap.size e W9 v ys := fun hn1 hn2 ho => own_frmT (own_frmT ho HR4.out hn1 hp9) hQp hn2 hs9
     have hz := HB2.out.size
     refine ⟨(keeps_below HB04.out).trans hko, rfl, pre', x', x, rfl, Lib.hid HNW.out, Lib.hid (by rw [HCD.out, HI.out, if_pos (by rw [HXI.out]; rfl)]), (Frm.below HB4.out).trans hf9, hQ9, A1, B1, D1, a1, b1, d1, hR9, Own.lowerI (hfar (by decide) (by decide) HP1.out) hz, Own.lowerI (hfar (by decide) (by decide) HP2.out) hz, Own.lowerS (hfar (by decide) (by decide) HP3.out) hz⟩
    ·have t1 : (x.x == (i : Int)) = false := by simpa using hxi
     have hb34 : Below W3.heap.size W3 (W3.alloc (.cells #[.int .i64 x.x, .int .i64 x.t, .slice A1 x.vs.length a1, .slice B1 x.ls.length b1, .slice D1 x.ds.length d1] 43)) := (Below.refl _ _).alloc (Nat.le_refl _) _
     have HB4 := Lib.hid (HB3.out.trans (hb34.mono HB3.out.size))
     have HB04 := Lib.hid (HB03.out.trans (hb34.mono HB03.out.size))
     have HXI := Lib.hid hxi
     clear hxi hb34
     gi_wp2_with fail
     refine ⟨keeps_below HB04.out, ⟨HB04.out.block w1.heap.size (by have := HBW.out.size; have := HS1.out; have := HS2.out; omega), HB04.out.block bA (Nat.lt_of_lt_of_le HBA.out HBW.out.size)⟩, HB4.out, fun k hk => ?_⟩
     rcases List.mem_append.1 hk with hk | hk
     ·exact HNW.out k hk
     ·obtain rfl : k = x' := by simpa using hk
      rw [HCD.out, HI.out, if_neg (show ¬ Option.map Int.ofNat (some i) = some x.x from fun h => HXI.out (Option.some.inj h).symm)]
end Go.Proofs.YtfpomllhkbbipaaGreatDoor
