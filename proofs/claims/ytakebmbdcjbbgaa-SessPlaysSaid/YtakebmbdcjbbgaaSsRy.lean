/- Layer 13: the document's Bytes. -/
import Derived.Test.YtakebmbdcjbbgaaSsRn
import Derived.Test.YtakebmbdcjbbgaaReg
namespace Go.Proofs.Ytakebmbdcjbbgaa
open Go Go.RowKit Go.Maps Go.Lib Mem Ss Pk

theorem numsB_appR (a b : List Int) : numsB (a ++ b) = numsB a ++ numsB b := by unfold numsB; rw [List.flatMap_append]
theorem numsB_threeR (a b c : Int) : numsB [a, b, c] = numB a ++ numB b ++ numB c := by unfold numsB; simp
theorem RbI.drew {w1 W : World} {kv v : Value} {ks : List RI} {xs : List UInt8} (h : RbI w1 kv ks xs v W) : RbI w1 kv ks xs v W.drew := h.draw 1
def RyO (w1 : World) (t : Tb) (ov iv : Value) (W : World) : Prop := ∃ (k : Nat) (kv : Value) (ks : List RI), k ≤ t.length ∧ iv = .int .i64 k ∧ RbI w1 kv ks (numsB ((t.length : Int) :: (t.take k).flatMap snNs)) ov W
def RyI (w1 : World) (pre : List Int) (kv : Value) (ks : List RI) (kept : List It) (ov iv : Value) (W : World) : Prop := ∃ j : Nat, j ≤ kept.length ∧ iv = .int .i64 j ∧ RbI w1 kv ks (numsB (pre ++ (kept.take j).flatMap itNs)) ov W
set_option maxRecDepth 100000 in
set_option maxHeartbeats 4000000 in
theorem RBytes13_any {w : World} {A : Option Addr} {c : Nat} {its : List RI} {t : Tb} (hs : SlC 4 riN w A its) (hr : R its t) :
    Calls Try.prog 23 #[.agg #[.slice A its.length c]] w (BytP (numsB (tbNs t)) w) := by
  have hl : its.length ≤ 128 := hr.few
  obtain ⟨w1, hw1⟩ : ∃ z, z = w.alloc (.cells #[.slice A its.length c] 44) := ⟨_, rfl⟩
  have HB1 : Hid (Below w.heap.size w w1) := Lib.hid (by rw [hw1]; exact (Below.refl _ _).alloc (Nat.le_refl _) _)
  have HX1 : Hid (Blk w1 w.heap.size 44 #[.slice A its.length c]) := Lib.hid (by rw [hw1]; exact Blk.new_ w _ _)
  have HZ1 : Hid (w1.heap.size = w.heap.size + 1) := Lib.hid (by rw [hw1, World.size_alloc])
  have HS := Lib.hid (hs.below HB1.out)
  have HW1 := Lib.hid hw1; clear hw1
  have HR := Lib.hid hr
  have HOK := Lib.hid hr.ok
  have hfew := hr.ok.few
  have HSS := Lib.hid (RSessions_any (c := c) HS.out HR.out)
  have HIDL : Hid ((t.map Sn.id).length = t.length) := Lib.hid (List.length_map _)
  clear hs hr
  go_enter Try.func23, Try.ntmps23
  go_upto_region 1 with fail
  rw [← HW1.out]
  clear HW1
  have t0 : w1.cell? ⟨w.heap.size, 0, none⟩ = some (.slice A its.length c) := HX1.out.cell 0
  go_wp2_with fail
  (with_reducible refine HSS.out.mono ?_); rintro e w2 ⟨A2, c2, rfl, ho2, hb2⟩
  rw [HIDL.out] at ho2 ⊢
  have HO2 := Lib.hid ho2
  have HB2 := Lib.hid hb2
  clear ho2 hb2 t0
  have HNM := Lib.hid (RNum_pos (w := w2) (t.length : Int) (by omega) (by omega))
  go_wp2_with fail
  (with_reducible refine HNM.out.mono ?_); rintro e w3 ⟨v3, rfl, ho3, hb3⟩
  have HI3 : Hid (RbI w2 (.slice none 0 0) [] (numsB [(t.length : Int)]) v3 w3) := Lib.hid ⟨by unfold numsB; simpa using ho3, hb3, OwnK.nil⟩
  have HT2 : Hid (Blk w2 w.heap.size 44 #[.slice A its.length c]) := Lib.hid (HX1.out.below HB2.out HX1.out.lt)
  have HS2 := Lib.hid (HS.out.below HB2.out)
  have HBW : Hid (Below w.heap.size w w2) := Lib.hid (HB1.out.trans (HB2.out.mono HB1.out.size))
  clear ho3 hb3 HNM HSS
  go_wp2_with fail
  go_loopw [4, 5] (fun ov iv wr => RyO w2 t ov iv wr) (fun _ iv _ => t.length - (RowKit.intOf iv).toNat)
  case atStart => exact ⟨0, _, _, Nat.zero_le _, rfl, by rw [List.take_zero]; exact HI3.out⟩
  case round =>
    obtain ⟨k, kv, ks, hk, rfl, hi⟩ := hrel
    obtain ⟨wo, rfl⟩ : ∃ wo, wo = wr := ⟨_, rfl⟩
    have HI := Lib.hid hi
    have HBO : Hid (Below w2.heap.size w2 wo) := Lib.hid hi.below
    clear hi
    by_cases hlt : k < t.length
    · have hpre : ((t.length : Int) :: (t.take k).flatMap snNs).length ≤ 433 := by
        have h1 := tbNs_len (t := t.take k) (fun s hs => (HOK.out.each s (List.mem_of_mem_take hs)).kept.len)
        rw [List.length_cons]
        rw [List.length_take] at h1
        omega
      obtain ⟨pre, hpr⟩ : ∃ z, z = ((t.length : Int) :: (t.take k).flatMap snNs) := ⟨_, rfl⟩
      rw [← hpr] at HI hpre
      have hst9 := flat_take_snoc snNs t hlt
      obtain ⟨s, hs⟩ : ∃ z, z = t[k] := ⟨_, rfl⟩
      have hmem : s ∈ t := by rw [hs]; exact List.getElem_mem hlt
      have hos := HOK.out.each s hmem
      have hfnd := findS_mem HOK.out.rise hmem
      rw [← hs] at hst9
      have HNXT : Hid ((t.length : Int) :: (t.take (k + 1)).flatMap snNs = pre ++ snNs s) := Lib.hid (by rw [hst9, hpr]; rfl)
      have hkt : keptT t s.id = s.kept := by unfold keptT; rw [hfnd]
      have hht : rHigh its s.id = s.high := by rw [HR.out.high]; unfold highT; rw [hfnd]
      have hkl : s.kept.length ≤ 8 := hos.kept.len
      have HKML : Hid ((s.kept.map (riOf s.id)).length = s.kept.length) := Lib.hid (List.length_map _)
      have hid1 := numOk_iff.1 hos.id
      have HOS := Lib.hid hos
      have HSO := Lib.hid (HS2.out.below HBO.out)
      have HTO := Lib.hid (HT2.out.below HBO.out HT2.out.lt)
      obtain ⟨b, o, rfl, -, hc⟩ := (HO2.out.below HBO.out).sl.2.at (k := k) (by rw [HIDL.out]; exact hlt)
      have e0 : wo.cell? ⟨b, o + k, none⟩ = some (.int .i64 s.id) := by
        rw [hc k (by rw [HIDL.out]; exact hlt), List.getElem_map, ← hs]; rfl
      have HE2 : Hid (b < w2.heap.size ∧ w2.cell? ⟨b, o + k, none⟩ = some (.int .i64 s.id)) := Lib.hid (by
        obtain ⟨b', o', hA, hb', hc'⟩ := HO2.out.sl.2.at (k := k) (by rw [HIDL.out]; exact hlt)
        cases hA
        refine ⟨hb', ?_⟩
        rw [hc' k (by rw [HIDL.out]; exact hlt), List.getElem_map, ← hs]; rfl)
      have t0 : wo.cell? ⟨w.heap.size, 0, none⟩ = some (.slice A its.length c) := HTO.out.cell 0
      have HK := Lib.hid (RKept_any (c := c) (HS2.out.below (HI.out.drew).below) HR.out s.id)
      rw [hkt] at HK
      have hk0 : (0 : Int) ≤ (k : Int) := by omega
      have hk1 : (k : Int) < (t.length : Int) := by omega
      have HLT := Lib.hid hlt
      have HPR := Lib.hid hpre
      have HHT := Lib.hid hht
      clear hst9 hs hmem hfnd hkt hc hpr hpre hht
      go_upto_region 6 with fail
      refine AnyZ.start (S := (fun W => W.cell? ⟨w.heap.size, 0, none⟩ = some (.slice A its.length c) ∧ W.cell? ⟨b, o + k, none⟩ = some (.int .i64 s.id))) (z := 1007) (by kernel_rfl) ?_ (fun hHeld => ?_)
      · exact ⟨t0, e0⟩
      refine AnyZ.take (i := 0) (v := ?_) rfl (by kernel_rfl) (by kernel_rfl) (by kernel_rfl) (by kernel_rfl) (fun _ _ _ h => h) (Or.inl ⟨by kernel_rfl, ?_⟩) (by assumption) ?_
      rotate_left
      · intro w hSw; (try dsimp only at hSw); go_simp; try with_reducible rfl
      try simp only [Act.put, List.getElem_toArray, List.getElem_cons_succ, List.getElem_cons_zero, List.setIfInBounds_toArray, List.set_cons_zero, List.set_cons_succ]
      refine AnyZ.take (i := 1) (v := ?_) rfl (by kernel_rfl) (by kernel_rfl) (by kernel_rfl) (by kernel_rfl) (fun _ _ _ h => h) (Or.inl ⟨by kernel_rfl, ?_⟩) (by assumption) ?_
      rotate_left
      · intro w hSw; (try dsimp only at hSw); go_simp; try with_reducible rfl
      try simp only [Act.put, List.getElem_toArray, List.getElem_cons_succ, List.getElem_cons_zero, List.setIfInBounds_toArray, List.set_cons_zero, List.set_cons_succ]
      refine AnyZ.take (i := 2) (v := ?_) rfl (by kernel_rfl) (by kernel_rfl) (by kernel_rfl) (by kernel_rfl) (fun _ _ _ h => h) (Or.inl ⟨by kernel_rfl, ?_⟩) (by assumption) ?_
      rotate_left
      · intro w hSw; (try dsimp only at hSw); go_simp; try with_reducible rfl
      try simp only [Act.put, List.getElem_toArray, List.getElem_cons_succ, List.getElem_cons_zero, List.setIfInBounds_toArray, List.set_cons_zero, List.set_cons_succ]
      refine AnyZ.take (i := 3) (v := ?_) rfl (by kernel_rfl) (by kernel_rfl) (by kernel_rfl) (by kernel_rfl) (fun _ _ _ h => h) (Or.inl ⟨by kernel_rfl, ?_⟩) (by assumption) ?_
      rotate_left
      · intro w hSw; (try dsimp only at hSw); go_simp; try with_reducible rfl
      try simp only [Act.put, List.getElem_toArray, List.getElem_cons_succ, List.getElem_cons_zero, List.setIfInBounds_toArray, List.set_cons_zero, List.set_cons_succ]
      refine AnyZ.take (i := 4) (v := ?_) rfl (by kernel_rfl) (by kernel_rfl) (by kernel_rfl) (by kernel_rfl) (fun _ _ _ h => h) (Or.inl ⟨by kernel_rfl, ?_⟩) (by assumption) ?_
      rotate_left
      · intro w hSw; (try dsimp only at hSw); go_simp; try with_reducible rfl
      try simp only [Act.put, List.getElem_toArray, List.getElem_cons_succ, List.getElem_cons_zero, List.setIfInBounds_toArray, List.set_cons_zero, List.set_cons_succ]
      refine AnyZ.ready (rs := [5]) (by kernel_rfl) (by simp) ?_
      refine AllZ.cons rfl (fun K hK => ?_) AllZ.nil
      go_simp
      (with_reducible refine HK.out.mono ?_); rintro e w4 ⟨A4, c4, rfl, ho4, hb4⟩
      rw [HKML.out] at ho4 ⊢
      have HI4 := Lib.hid ((HI.out.drew).newK hb4 ho4)
      clear ho4 hb4 HK e0 t0 HSO HTO
      refine hK.out _ _ ?_ (fun hHeld => ?_)
      · exact ⟨(HT2.out.below HI4.out.below HT2.out.lt).cell 0, (HI4.out.below.cell HE2.out.1).trans HE2.out.2⟩
      clear hK K
      try simp only [Act.put, List.getElem_toArray, List.getElem_cons_succ, List.getElem_cons_zero, List.setIfInBounds_toArray, List.set_cons_zero, List.set_cons_succ]
      refine AnyZ.take (i := 6) (v := ?_) rfl (by kernel_rfl) (by kernel_rfl) (by kernel_rfl) (by kernel_rfl) (fun _ _ _ h => h) (Or.inl ⟨by kernel_rfl, ?_⟩) (by assumption) ?_
      rotate_left
      · intro w hSw; (try dsimp only at hSw); go_simp; try with_reducible rfl
      try simp only [Act.put, List.getElem_toArray, List.getElem_cons_succ, List.getElem_cons_zero, List.setIfInBounds_toArray, List.set_cons_zero, List.set_cons_succ]
      refine AnyZ.done (by kernel_rfl) ?_ _
      go_upto_region 7 with fail
      have hC : ∀ (W : World) (kv : Value) (ks : List RI) (xs : List UInt8) (v : Value), RbI w2 kv ks xs v W → W.cell? ⟨w.heap.size, 0, none⟩ = some (.slice A its.length c) ∧ W.cell? ⟨b, o + k, none⟩ = some (.int .i64 s.id) := fun _ _ _ _ _ h =>
        ⟨(HT2.out.below h.below HT2.out.lt).cell 0, (h.below.cell HE2.out.1).trans HE2.out.2⟩
      have HC := Lib.hid hC
      clear hC
      have hxl : (numsB pre).length ≤ 4330 := Nat.le_trans (numsB_len _) (by have := HPR.out; omega)
      have HN1 := Lib.hid (rnum_any (HI4.out.drew).own (HI4.out.drew).below.size (by omega) s.id (by omega) (by omega))
      refine AnyZ.start (S := (fun W => W.cell? ⟨w.heap.size, 0, none⟩ = some (.slice A its.length c) ∧ W.cell? ⟨b, o + k, none⟩ = some (.int .i64 s.id))) (z := 1017) (by kernel_rfl) ?_ (fun hHeld => ?_)
      · exact HC.out _ _ _ _ _ (HI4.out.drew)
      refine AnyZ.take (i := 0) (v := ?_) rfl (by kernel_rfl) (by kernel_rfl) (by kernel_rfl) (by kernel_rfl) (fun _ _ _ h => h) (Or.inl ⟨by kernel_rfl, ?_⟩) (by assumption) ?_
      rotate_left
      · intro w hSw; (try dsimp only at hSw); go_simp; try with_reducible rfl
      try simp only [Act.put, List.getElem_toArray, List.getElem_cons_succ, List.getElem_cons_zero, List.setIfInBounds_toArray, List.set_cons_zero, List.set_cons_succ]
      refine AnyZ.take (i := 1) (v := ?_) rfl (by kernel_rfl) (by kernel_rfl) (by kernel_rfl) (by kernel_rfl) (fun _ _ _ h => h) (Or.inl ⟨by kernel_rfl, ?_⟩) (by assumption) ?_
      rotate_left
      · intro w hSw; (try dsimp only at hSw); go_simp; try with_reducible rfl
      try simp only [Act.put, List.getElem_toArray, List.getElem_cons_succ, List.getElem_cons_zero, List.setIfInBounds_toArray, List.set_cons_zero, List.set_cons_succ]
      refine AnyZ.take (i := 2) (v := ?_) rfl (by kernel_rfl) (by kernel_rfl) (by kernel_rfl) (by kernel_rfl) (fun _ _ _ h => h) (Or.inl ⟨by kernel_rfl, ?_⟩) (by assumption) ?_
      rotate_left
      · intro w hSw; (try dsimp only at hSw); go_simp; try with_reducible rfl
      try simp only [Act.put, List.getElem_toArray, List.getElem_cons_succ, List.getElem_cons_zero, List.setIfInBounds_toArray, List.set_cons_zero, List.set_cons_succ]
      refine AnyZ.take (i := 3) (v := ?_) rfl (by kernel_rfl) (by kernel_rfl) (by kernel_rfl) (by kernel_rfl) (fun _ _ _ h => h) (Or.inl ⟨by kernel_rfl, ?_⟩) (by assumption) ?_
      rotate_left
      · intro w hSw; (try dsimp only at hSw); go_simp; try with_reducible rfl
      try simp only [Act.put, List.getElem_toArray, List.getElem_cons_succ, List.getElem_cons_zero, List.setIfInBounds_toArray, List.set_cons_zero, List.set_cons_succ]
      refine AnyZ.take (i := 4) (v := ?_) rfl (by kernel_rfl) (by kernel_rfl) (by kernel_rfl) (by kernel_rfl) (fun _ _ _ h => h) (Or.inl ⟨by kernel_rfl, ?_⟩) (by assumption) ?_
      rotate_left
      · intro w hSw; (try dsimp only at hSw); go_simp; try with_reducible rfl
      try simp only [Act.put, List.getElem_toArray, List.getElem_cons_succ, List.getElem_cons_zero, List.setIfInBounds_toArray, List.set_cons_zero, List.set_cons_succ]
      refine AnyZ.take (i := 6) (v := ?_) rfl (by kernel_rfl) (by kernel_rfl) (by kernel_rfl) (by kernel_rfl) (fun _ _ _ h => h) (Or.inl ⟨by kernel_rfl, ?_⟩) (by assumption) ?_
      rotate_left
      · intro w hSw; (try dsimp only at hSw); go_simp; try with_reducible rfl
      try simp only [Act.put, List.getElem_toArray, List.getElem_cons_succ, List.getElem_cons_zero, List.setIfInBounds_toArray, List.set_cons_zero, List.set_cons_succ]
      refine AnyZ.take (i := 7) (v := ?_) rfl (by kernel_rfl) (by kernel_rfl) (by kernel_rfl) (by kernel_rfl) (fun _ _ _ h => h) (Or.inl ⟨by kernel_rfl, ?_⟩) (by assumption) ?_
      rotate_left
      · intro w hSw; (try dsimp only at hSw); go_simp; try with_reducible rfl
      try simp only [Act.put, List.getElem_toArray, List.getElem_cons_succ, List.getElem_cons_zero, List.setIfInBounds_toArray, List.set_cons_zero, List.set_cons_succ]
      refine AnyZ.take (i := 8) (v := ?_) rfl (by kernel_rfl) (by kernel_rfl) (by kernel_rfl) (by kernel_rfl) (fun _ _ _ h => h) (Or.inl ⟨by kernel_rfl, ?_⟩) (by assumption) ?_
      rotate_left
      · intro w hSw; (try dsimp only at hSw); go_simp; try with_reducible rfl
      try simp only [Act.put, List.getElem_toArray, List.getElem_cons_succ, List.getElem_cons_zero, List.setIfInBounds_toArray, List.set_cons_zero, List.set_cons_succ]
      refine AnyZ.take (i := 9) (v := ?_) rfl (by kernel_rfl) (by kernel_rfl) (by kernel_rfl) (by kernel_rfl) (fun _ _ _ h => h) (Or.inl ⟨by kernel_rfl, ?_⟩) (by assumption) ?_
      rotate_left
      · intro w hSw; (try dsimp only at hSw); go_simp; try with_reducible rfl
      try simp only [Act.put, List.getElem_toArray, List.getElem_cons_succ, List.getElem_cons_zero, List.setIfInBounds_toArray, List.set_cons_zero, List.set_cons_succ]
      refine AnyZ.take (i := 10) (v := ?_) rfl (by kernel_rfl) (by kernel_rfl) (by kernel_rfl) (by kernel_rfl) (fun _ _ _ h => h) (Or.inl ⟨by kernel_rfl, ?_⟩) (by assumption) ?_
      rotate_left
      · intro w hSw; (try dsimp only at hSw); go_simp; try with_reducible rfl
      try simp only [Act.put, List.getElem_toArray, List.getElem_cons_succ, List.getElem_cons_zero, List.setIfInBounds_toArray, List.set_cons_zero, List.set_cons_succ]
      refine AnyZ.take (i := 13) (v := ?_) rfl (by kernel_rfl) (by kernel_rfl) (by kernel_rfl) (by kernel_rfl) (fun _ _ _ h => h) (Or.inl ⟨by kernel_rfl, ?_⟩) (by assumption) ?_
      rotate_left
      · intro w hSw; (try dsimp only at hSw); go_simp; try with_reducible rfl
      try simp only [Act.put, List.getElem_toArray, List.getElem_cons_succ, List.getElem_cons_zero, List.setIfInBounds_toArray, List.set_cons_zero, List.set_cons_succ]
      refine AnyZ.take (i := 14) (v := ?_) rfl (by kernel_rfl) (by kernel_rfl) (by kernel_rfl) (by kernel_rfl) (fun _ _ _ h => h) (Or.inl ⟨by kernel_rfl, ?_⟩) (by assumption) ?_
      rotate_left
      · intro w hSw; (try dsimp only at hSw); go_simp; try with_reducible rfl
      try simp only [Act.put, List.getElem_toArray, List.getElem_cons_succ, List.getElem_cons_zero, List.setIfInBounds_toArray, List.set_cons_zero, List.set_cons_succ]
      refine AnyZ.ready (rs := [5]) (by kernel_rfl) (by simp) ?_
      refine AllZ.cons rfl (fun K hK => ?_) AllZ.nil
      go_simp
      (with_reducible refine HN1.out.mono ?_); rintro e w5 hn5
      obtain ⟨v5, rfl, hi5⟩ := (HI4.out.drew).num hn5
      have HI5 := Lib.hid hi5
      have HH5 := Lib.hid (RHighest_any (c := c) (HS2.out.below hi5.below) s.id)
      rw [HHT.out] at HH5
      clear hn5 hi5 HN1
      refine hK.out _ _ ?_ (fun hHeld => ?_)
      · exact HC.out _ _ _ _ _ HI5.out
      clear hK K
      try simp only [Act.put, List.getElem_toArray, List.getElem_cons_succ, List.getElem_cons_zero, List.setIfInBounds_toArray, List.set_cons_zero, List.set_cons_succ]
      refine AnyZ.ready (rs := [11]) (by kernel_rfl) (by simp) ?_
      refine AllZ.cons rfl (fun K hK => ?_) AllZ.nil
      go_simp
      (with_reducible refine HH5.out.mono ?_); rintro e w6 ⟨rfl, hb6⟩
      have hi6 := HI5.out.call hb6
      have HI6 := Lib.hid hi6
      have HN6 := Lib.hid (rnum_any hi6.own hi6.below.size (by rw [List.length_append]; have := numB_len s.id; omega) s.high (by have := HOS.out.low; omega) (by have := HOS.out.top; omega))
      clear hb6 hi6 HH5 HI5
      refine hK.out _ _ ?_ (fun hHeld => ?_)
      · exact HC.out _ _ _ _ _ HI6.out
      clear hK K
      try simp only [Act.put, List.getElem_toArray, List.getElem_cons_succ, List.getElem_cons_zero, List.setIfInBounds_toArray, List.set_cons_zero, List.set_cons_succ]
      refine AnyZ.ready (rs := [12]) (by kernel_rfl) (by simp) ?_
      refine AllZ.cons rfl (fun K hK => ?_) AllZ.nil
      go_simp
      (with_reducible refine HN6.out.mono ?_); rintro e w7 hn7
      obtain ⟨v7, rfl, hi7⟩ := HI6.out.num hn7
      have HI7 := Lib.hid hi7
      have HN7 := Lib.hid (rnum_any hi7.own hi7.below.size (by rw [List.length_append, List.length_append]; have := numB_len s.id; have := numB_len s.high; omega) (s.kept.length : Int) (by omega) (by omega))
      clear hn7 hi7 HN6 HI6
      refine hK.out _ _ ?_ (fun hHeld => ?_)
      · exact HC.out _ _ _ _ _ HI7.out
      clear hK K
      try simp only [Act.put, List.getElem_toArray, List.getElem_cons_succ, List.getElem_cons_zero, List.setIfInBounds_toArray, List.set_cons_zero, List.set_cons_succ]
      refine AnyZ.ready (rs := [15]) (by kernel_rfl) (by simp) ?_
      refine AllZ.cons rfl (fun K hK => ?_) AllZ.nil
      go_simp
      (with_reducible refine HN7.out.mono ?_); rintro e w8 hn8
      obtain ⟨v8, rfl, hi8⟩ := HI7.out.num hn8
      have HI8 := Lib.hid hi8
      clear hn8 hi8 HN7 HI7
      refine hK.out _ _ ?_ (fun hHeld => ?_)
      · exact HC.out _ _ _ _ _ HI8.out
      clear hK K
      try simp only [Act.put, List.getElem_toArray, List.getElem_cons_succ, List.getElem_cons_zero, List.setIfInBounds_toArray, List.set_cons_zero, List.set_cons_succ]
      refine AnyZ.take (i := 16) (v := ?_) rfl (by kernel_rfl) (by kernel_rfl) (by kernel_rfl) (by kernel_rfl) (fun _ _ _ h => h) (Or.inl ⟨by kernel_rfl, ?_⟩) (by assumption) ?_
      rotate_left
      · intro w hSw; (try dsimp only at hSw); go_simp; try with_reducible rfl
      try simp only [Act.put, List.getElem_toArray, List.getElem_cons_succ, List.getElem_cons_zero, List.setIfInBounds_toArray, List.set_cons_zero, List.set_cons_succ]
      refine AnyZ.done (by kernel_rfl) ?_ _
      go_wp2_with fail
      obtain ⟨PRE, hPRE⟩ : ∃ z, z = pre ++ [s.id, s.high, (s.kept.length : Int)] := ⟨_, rfl⟩
      have HI9 : Hid (RbI w2 (.slice A4 s.kept.length c4) (s.kept.map (riOf s.id)) (numsB PRE) v8 w8) := Lib.hid (by
        have h := HI8.out
        rw [hPRE, numsB_appR, numsB_threeR, ← List.append_assoc, ← List.append_assoc]
        exact h)
      have hprl : PRE.length ≤ 436 := by rw [hPRE, List.length_append]; have := HPR.out; show _ + 3 ≤ 436; omega
      have HPRE := Lib.hid hPRE
      clear hPRE HI8 HI4 hxl
      go_loopw [4, 7] (fun ov iv wr => RyI w2 PRE (.slice A4 s.kept.length c4) (s.kept.map (riOf s.id)) s.kept ov iv wr) (fun _ iv _ => s.kept.length - (RowKit.intOf iv).toNat)
      case atStart => exact ⟨0, Nat.zero_le _, rfl, by rw [List.take_zero]; simpa using HI9.out⟩
      case round =>
        obtain ⟨j, hj, rfl, hi5⟩ := hrel
        obtain ⟨wi, rfl⟩ : ∃ wo, wo = wr := ⟨_, rfl⟩
        have HJ := Lib.hid hi5
        clear hi5
        by_cases hjl : j < s.kept.length
        · have hst9 := flat_take_snoc itNs s.kept hjl
          obtain ⟨y, hy⟩ : ∃ z, z = s.kept[j] := ⟨_, rfl⟩
          have hym : y ∈ s.kept := by rw [hy]; exact List.getElem_mem hjl
          have g1 := HOS.out.kept.pos y hym
          have g2 := HOS.out.kept.high y hym
          have g3 := vdOk_iff.1 (HOS.out.kept.vd y hym)
          have g4 := HOS.out.top
          have hjm : j < (s.kept.map (riOf s.id)).length := by rw [HKML.out]; exact hjl
          have HCC : Hid (∃ b2 o2, A4 = some ⟨b2, o2, none⟩ ∧ ∀ W xs v, RbI w2 (.slice A4 s.kept.length c4) (s.kept.map (riOf s.id)) xs v W → W.cell? ⟨b2, o2 + j * 4 + 1, none⟩ = some (.int .i64 y.seq) ∧ W.cell? ⟨b2, o2 + j * 4 + 2, none⟩ = some (.int .i64 y.code) ∧ W.cell? ⟨b2, o2 + j * 4 + 3, none⟩ = some (.int .i64 y.num)) := Lib.hid (by
            obtain ⟨b2, o2, hA2, -, -, -⟩ := (OwnK.slK riN_len HJ.out.kept).2.at hjm
            refine ⟨b2, o2, hA2, fun W xs v h => ?_⟩
            obtain ⟨b3, o3, hA3, -, -, hc⟩ := (OwnK.slK riN_len h.kept).2.at hjm
            rw [hA2] at hA3; cases hA3
            rw [List.getElem_map, ← hy] at hc
            exact ⟨hc 1 (by decide), hc 2 (by decide), hc 3 (by decide)⟩)
          obtain ⟨b2, o2, hA2, hcc⟩ := HCC.out
          rw [← hy] at hst9
          have HC2 := Lib.hid hcc
          rw [hA2]
          have HA2 := Lib.hid hA2
          have hpj : (PRE ++ (s.kept.take j).flatMap itNs).length ≤ 500 := by
            rw [List.length_append, itNs_len, List.length_take]; omega
          have hxl : (numsB (PRE ++ (s.kept.take j).flatMap itNs)).length ≤ 5000 := Nat.le_trans (numsB_len _) (by omega)
          have HXL := Lib.hid hxl
          have HN1 := Lib.hid (rnum_any (HJ.out.drew).own (HJ.out.drew).below.size (by omega) y.seq (by omega) (by omega))
          have hk0 : (0 : Int) ≤ (j : Int) := by omega
          have hk1 : (j : Int) < (s.kept.length : Int) := by omega
          have HST9 := Lib.hid hst9
          have HJL := Lib.hid hjl
          clear hst9 hy hcc hA2 HCC hym hjm hpj hxl
          go_upto_region 11 with fail
          refine AnyZ.start (S := (fun W => W.cell? ⟨b2, o2 + j * 4 + 1, none⟩ = some (.int .i64 y.seq) ∧ W.cell? ⟨b2, o2 + j * 4 + 2, none⟩ = some (.int .i64 y.code) ∧ W.cell? ⟨b2, o2 + j * 4 + 3, none⟩ = some (.int .i64 y.num))) (z := 1020) (by kernel_rfl) ?_ (fun hHeld => ?_)
          · exact HC2.out _ _ _ (HJ.out.drew)
          refine AnyZ.take (i := 0) (v := ?_) rfl (by kernel_rfl) (by kernel_rfl) (by kernel_rfl) (by kernel_rfl) (fun _ _ _ h => h) (Or.inl ⟨by kernel_rfl, ?_⟩) (by assumption) ?_
          rotate_left
          · intro w hSw; (try dsimp only at hSw); go_simp; try with_reducible rfl
          try simp only [Act.put, List.getElem_toArray, List.getElem_cons_succ, List.getElem_cons_zero, List.setIfInBounds_toArray, List.set_cons_zero, List.set_cons_succ]
          refine AnyZ.take (i := 1) (v := ?_) rfl (by kernel_rfl) (by kernel_rfl) (by kernel_rfl) (by kernel_rfl) (fun _ _ _ h => h) (Or.inl ⟨by kernel_rfl, ?_⟩) (by assumption) ?_
          rotate_left
          · intro w hSw; (try dsimp only at hSw); go_simp; try with_reducible rfl
          try simp only [Act.put, List.getElem_toArray, List.getElem_cons_succ, List.getElem_cons_zero, List.setIfInBounds_toArray, List.set_cons_zero, List.set_cons_succ]
          refine AnyZ.take (i := 2) (v := ?_) rfl (by kernel_rfl) (by kernel_rfl) (by kernel_rfl) (by kernel_rfl) (fun _ _ _ h => h) (Or.inl ⟨by kernel_rfl, ?_⟩) (by assumption) ?_
          rotate_left
          · intro w hSw; (try dsimp only at hSw); go_simp; try with_reducible rfl
          try simp only [Act.put, List.getElem_toArray, List.getElem_cons_succ, List.getElem_cons_zero, List.setIfInBounds_toArray, List.set_cons_zero, List.set_cons_succ]
          refine AnyZ.take (i := 3) (v := ?_) rfl (by kernel_rfl) (by kernel_rfl) (by kernel_rfl) (by kernel_rfl) (fun _ _ _ h => h) (Or.inl ⟨by kernel_rfl, ?_⟩) (by assumption) ?_
          rotate_left
          · intro w hSw; (try dsimp only at hSw); go_simp; try with_reducible rfl
          try simp only [Act.put, List.getElem_toArray, List.getElem_cons_succ, List.getElem_cons_zero, List.setIfInBounds_toArray, List.set_cons_zero, List.set_cons_succ]
          refine AnyZ.take (i := 4) (v := ?_) rfl (by kernel_rfl) (by kernel_rfl) (by kernel_rfl) (by kernel_rfl) (fun _ _ _ h => h) (Or.inl ⟨by kernel_rfl, ?_⟩) (by assumption) ?_
          rotate_left
          · intro w hSw; (try dsimp only at hSw); go_simp; try with_reducible rfl
          try simp only [Act.put, List.getElem_toArray, List.getElem_cons_succ, List.getElem_cons_zero, List.setIfInBounds_toArray, List.set_cons_zero, List.set_cons_succ]
          refine AnyZ.take (i := 5) (v := ?_) rfl (by kernel_rfl) (by kernel_rfl) (by kernel_rfl) (by kernel_rfl) (fun _ _ _ h => h) (Or.inl ⟨by kernel_rfl, ?_⟩) (by assumption) ?_
          rotate_left
          · intro w hSw; (try dsimp only at hSw); go_simp; try with_reducible rfl
          try simp only [Act.put, List.getElem_toArray, List.getElem_cons_succ, List.getElem_cons_zero, List.setIfInBounds_toArray, List.set_cons_zero, List.set_cons_succ]
          refine AnyZ.take (i := 7) (v := ?_) rfl (by kernel_rfl) (by kernel_rfl) (by kernel_rfl) (by kernel_rfl) (fun _ _ _ h => h) (Or.inl ⟨by kernel_rfl, ?_⟩) (by assumption) ?_
          rotate_left
          · intro w hSw; (try dsimp only at hSw); go_simp; try with_reducible rfl
          try simp only [Act.put, List.getElem_toArray, List.getElem_cons_succ, List.getElem_cons_zero, List.setIfInBounds_toArray, List.set_cons_zero, List.set_cons_succ]
          refine AnyZ.take (i := 8) (v := ?_) rfl (by kernel_rfl) (by kernel_rfl) (by kernel_rfl) (by kernel_rfl) (fun _ _ _ h => h) (Or.inl ⟨by kernel_rfl, ?_⟩) (by assumption) ?_
          rotate_left
          · intro w hSw; (try dsimp only at hSw); go_simp; try with_reducible rfl
          try simp only [Act.put, List.getElem_toArray, List.getElem_cons_succ, List.getElem_cons_zero, List.setIfInBounds_toArray, List.set_cons_zero, List.set_cons_succ]
          refine AnyZ.take (i := 9) (v := ?_) rfl (by kernel_rfl) (by kernel_rfl) (by kernel_rfl) (by kernel_rfl) (fun _ _ _ h => h) (Or.inl ⟨by kernel_rfl, ?_⟩) (by assumption) ?_
          rotate_left
          · intro w hSw; (try dsimp only at hSw); go_simp; try with_reducible rfl
          try simp only [Act.put, List.getElem_toArray, List.getElem_cons_succ, List.getElem_cons_zero, List.setIfInBounds_toArray, List.set_cons_zero, List.set_cons_succ]
          refine AnyZ.take (i := 10) (v := ?_) rfl (by kernel_rfl) (by kernel_rfl) (by kernel_rfl) (by kernel_rfl) (fun _ _ _ h => h) (Or.inl ⟨by kernel_rfl, ?_⟩) (by assumption) ?_
          rotate_left
          · intro w hSw; (try dsimp only at hSw); go_simp; try with_reducible rfl
          try simp only [Act.put, List.getElem_toArray, List.getElem_cons_succ, List.getElem_cons_zero, List.setIfInBounds_toArray, List.set_cons_zero, List.set_cons_succ]
          refine AnyZ.take (i := 11) (v := ?_) rfl (by kernel_rfl) (by kernel_rfl) (by kernel_rfl) (by kernel_rfl) (fun _ _ _ h => h) (Or.inl ⟨by kernel_rfl, ?_⟩) (by assumption) ?_
          rotate_left
          · intro w hSw; (try dsimp only at hSw); go_simp; try with_reducible rfl
          try simp only [Act.put, List.getElem_toArray, List.getElem_cons_succ, List.getElem_cons_zero, List.setIfInBounds_toArray, List.set_cons_zero, List.set_cons_succ]
          refine AnyZ.take (i := 13) (v := ?_) rfl (by kernel_rfl) (by kernel_rfl) (by kernel_rfl) (by kernel_rfl) (fun _ _ _ h => h) (Or.inl ⟨by kernel_rfl, ?_⟩) (by assumption) ?_
          rotate_left
          · intro w hSw; (try dsimp only at hSw); go_simp; try with_reducible rfl
          try simp only [Act.put, List.getElem_toArray, List.getElem_cons_succ, List.getElem_cons_zero, List.setIfInBounds_toArray, List.set_cons_zero, List.set_cons_succ]
          refine AnyZ.take (i := 14) (v := ?_) rfl (by kernel_rfl) (by kernel_rfl) (by kernel_rfl) (by kernel_rfl) (fun _ _ _ h => h) (Or.inl ⟨by kernel_rfl, ?_⟩) (by assumption) ?_
          rotate_left
          · intro w hSw; (try dsimp only at hSw); go_simp; try with_reducible rfl
          try simp only [Act.put, List.getElem_toArray, List.getElem_cons_succ, List.getElem_cons_zero, List.setIfInBounds_toArray, List.set_cons_zero, List.set_cons_succ]
          refine AnyZ.take (i := 15) (v := ?_) rfl (by kernel_rfl) (by kernel_rfl) (by kernel_rfl) (by kernel_rfl) (fun _ _ _ h => h) (Or.inl ⟨by kernel_rfl, ?_⟩) (by assumption) ?_
          rotate_left
          · intro w hSw; (try dsimp only at hSw); go_simp; try with_reducible rfl
          try simp only [Act.put, List.getElem_toArray, List.getElem_cons_succ, List.getElem_cons_zero, List.setIfInBounds_toArray, List.set_cons_zero, List.set_cons_succ]
          refine AnyZ.take (i := 16) (v := ?_) rfl (by kernel_rfl) (by kernel_rfl) (by kernel_rfl) (by kernel_rfl) (fun _ _ _ h => h) (Or.inl ⟨by kernel_rfl, ?_⟩) (by assumption) ?_
          rotate_left
          · intro w hSw; (try dsimp only at hSw); go_simp; try with_reducible rfl
          try simp only [Act.put, List.getElem_toArray, List.getElem_cons_succ, List.getElem_cons_zero, List.setIfInBounds_toArray, List.set_cons_zero, List.set_cons_succ]
          refine AnyZ.take (i := 17) (v := ?_) rfl (by kernel_rfl) (by kernel_rfl) (by kernel_rfl) (by kernel_rfl) (fun _ _ _ h => h) (Or.inl ⟨by kernel_rfl, ?_⟩) (by assumption) ?_
          rotate_left
          · intro w hSw; (try dsimp only at hSw); go_simp; try with_reducible rfl
          try simp only [Act.put, List.getElem_toArray, List.getElem_cons_succ, List.getElem_cons_zero, List.setIfInBounds_toArray, List.set_cons_zero, List.set_cons_succ]
          refine AnyZ.ready (rs := [6]) (by kernel_rfl) (by simp) ?_
          refine AllZ.cons rfl (fun K hK => ?_) AllZ.nil
          go_simp
          (with_reducible refine HN1.out.mono ?_); rintro e w5 hn5
          obtain ⟨v5, rfl, hi5⟩ := (HJ.out.drew).num hn5
          have HJ5 := Lib.hid hi5
          have HN5 := Lib.hid (rnum_any hi5.own hi5.below.size (by rw [List.length_append]; have := numB_len y.seq; have := HXL.out; omega) y.code (by omega) (by omega))
          clear hn5 hi5 HN1
          refine hK.out _ _ ?_ (fun hHeld => ?_)
          · exact HC2.out _ _ _ HJ5.out
          clear hK K
          try simp only [Act.put, List.getElem_toArray, List.getElem_cons_succ, List.getElem_cons_zero, List.setIfInBounds_toArray, List.set_cons_zero, List.set_cons_succ]
          refine AnyZ.ready (rs := [12]) (by kernel_rfl) (by simp) ?_
          refine AllZ.cons rfl (fun K hK => ?_) AllZ.nil
          go_simp
          (with_reducible refine HN5.out.mono ?_); rintro e w6 hn6
          obtain ⟨v6, rfl, hi6⟩ := HJ5.out.num hn6
          have HJ6 := Lib.hid hi6
          have HN6 := Lib.hid (rnum_any hi6.own hi6.below.size (by rw [List.length_append, List.length_append]; have := numB_len y.seq; have := numB_len y.code; have := HXL.out; omega) y.num (by omega) (by omega))
          clear hn6 hi6 HN5 HJ5
          refine hK.out _ _ ?_ (fun hHeld => ?_)
          · exact HC2.out _ _ _ HJ6.out
          clear hK K
          try simp only [Act.put, List.getElem_toArray, List.getElem_cons_succ, List.getElem_cons_zero, List.setIfInBounds_toArray, List.set_cons_zero, List.set_cons_succ]
          refine AnyZ.ready (rs := [18]) (by kernel_rfl) (by simp) ?_
          refine AllZ.cons rfl (fun K hK => ?_) AllZ.nil
          go_simp
          (with_reducible refine HN6.out.mono ?_); rintro e w7 hn7
          obtain ⟨v7, rfl, hi7⟩ := HJ6.out.num hn7
          have HJ7 := Lib.hid hi7
          clear hn7 hi7 HN6 HJ6
          refine hK.out _ _ ?_ (fun hHeld => ?_)
          · exact HC2.out _ _ _ HJ7.out
          clear hK K
          try simp only [Act.put, List.getElem_toArray, List.getElem_cons_succ, List.getElem_cons_zero, List.setIfInBounds_toArray, List.set_cons_zero, List.set_cons_succ]
          refine AnyZ.take (i := 19) (v := ?_) rfl (by kernel_rfl) (by kernel_rfl) (by kernel_rfl) (by kernel_rfl) (fun _ _ _ h => h) (Or.inl ⟨by kernel_rfl, ?_⟩) (by assumption) ?_
          rotate_left
          · intro w hSw; (try dsimp only at hSw); go_simp; try with_reducible rfl
          try simp only [Act.put, List.getElem_toArray, List.getElem_cons_succ, List.getElem_cons_zero, List.setIfInBounds_toArray, List.set_cons_zero, List.set_cons_succ]
          refine AnyZ.done (by kernel_rfl) ?_ _
          go_wp2_with fail
          go_roundw
          case rel =>
            refine ⟨j + 1, HJL.out, by go_num, ?_⟩
            rw [HST9.out, ← List.append_assoc, numsB_appR, show itNs y = [y.seq, y.code, y.num] from rfl, numsB_threeR, ← List.append_assoc, ← List.append_assoc]
            have h7 := HJ7.out
            rw [HA2.out] at h7
            exact h7
          case measure => simp [RowKit.intOf]; have := HJL.out; omega
        · have hje : j = s.kept.length := by omega
          subst hje
          have hbz := HJ.out
          rw [List.take_length, HPRE.out, List.append_assoc, show [s.id, s.high, (s.kept.length : Int)] ++ s.kept.flatMap itNs = snNs s from rfl, ← HNXT.out] at hbz
          have HBZ := Lib.hid hbz
          clear hbz
          go_wp2_with fail
          go_roundw
          case rel => exact ⟨k + 1, _, _, HLT.out, by go_num, HBZ.out⟩
          case measure => simp [RowKit.intOf]; have := HLT.out; omega
    · have hke : k = t.length := by omega
      subst hke
      have hz := HI.out
      rw [List.take_length] at hz
      change RbI w2 kv ks (numsB (tbNs t)) _ wo at hz
      have HZ := Lib.hid hz
      clear hz
      go_wp2_with fail
      go_ret
      obtain ⟨Az, cz, hv⟩ := HZ.out.own.form
      refine ⟨Az, cz, congrArg Ending.returned hv, ?_, HBW.out.trans (HZ.out.below.mono HBW.out.size)⟩
      rw [← hv]
      exact Mem.Own.base_ HZ.out.own HBW.out.size
end Go.Proofs.Ytakebmbdcjbbgaa
