/- Layer 13: alike: is a table what the document's is? -/
import Derived.Test.YtakebmbdcjbbgaaSsIt
import Derived.Test.YtakebmbdcjbbgaaSsA
import Derived.Test.YtakebmbdcjbbgaaSsPt
import Derived.Test.YtakebmbdcjbbgaaReg
namespace Go.Proofs.Ytakebmbdcjbbgaa
open Go Go.RowKit Go.Maps Go.Lib Mem Ss

/-- the caller's own copy of what is kept, from number j on as it was -/
def KRow (g o : Nat) (ks : List It) (j : Nat) (W : World) : Prop := ∃ cur, Blk W g 76 cur ∧ ∀ i (hi : i < ks.length), j ≤ i → ∀ d, d < 3 → cur[o + i * 3 + d]? = (itN ks[i])[d]?
theorem KRow.next {g o j : Nat} {ks : List It} {W : World} (h : KRow g o ks j W) (u : Value) : KRow g o ks (j + 1) (W.setCell ⟨g, o + j * 3, none⟩ u) := by
  obtain ⟨cur, hb, hc⟩ := h
  refine ⟨_, hb.set_ (o + j * 3) u, fun i hi hij d hd => ?_⟩
  rw [Array.getElem?_setIfInBounds_ne (by omega)]
  exact hc i hi (by omega) d hd
theorem KRow.drew {g o j : Nat} {ks : List It} {W : World} (h : KRow g o ks j W) : KRow g o ks j W.drew := h
theorem KRow.of {base c : Nat} {w : World} {A : Option Addr} {n : Nat} {ks : List It} (h : OwnK 3 itN base 76 w (.slice A n c) ks) (h0 : 0 < ks.length) : ∃ g o, A = some ⟨g, o, none⟩ ∧ base ≤ g ∧ g < w.heap.size ∧ KRow g o ks 0 w := by
  rcases h.2 with ⟨h1, h2⟩ | ⟨g, cap, cur, hv, hb, hh, hnc, hcap, hsz, htake⟩
  · omega
  · injection hv with a b c
    subst a; subst b; subst c
    refine ⟨g, 0, rfl, hb, lt_of_block hh, cur, hh, fun i hi _ d hd => ?_⟩
    have h1 := flatMap_get itN_len ks hi hd
    rw [← htake, List.getElem?_take] at h1
    rw [if_pos (by omega)] at h1
    rw [Nat.zero_add]; simpa using h1
theorem wf_ak {n : Int} (h1 : 1 ≤ n) (h2 : n ≤ 1099511627776) : (Lit.int .i64 n).wf = true := by
  have e1 : IntKind.i64.min = -9223372036854775808 := rfl
  have e2 : IntKind.i64.max = 9223372036854775807 := rfl
  simp [Lit.wf, e1, e2]; omega
def AkO (n b : Nat) (w : World) (iv : Value) (W : World) : Prop := ∃ k : Nat, k ≤ n ∧ iv = .int .i64 k ∧ Below b w W
theorem KRow.below {g o j B : Nat} {ks : List It} {W W' : World} (h : KRow g o ks j W) (hb : Below B W W') (hg : g < B) : KRow g o ks j W' := by
  obtain ⟨cur, h1, hc⟩ := h
  exact ⟨cur, h1.below hb hg, hc⟩
def AkI (A : Option Addr) (ks : List It) (b m : Nat) (w : World) (B : Option Addr) (rs : List RI) (iv : Value) (W : World) : Prop :=
  ∃ j : Nat, j ≤ ks.length ∧ iv = .int .i64 j ∧ (0 < ks.length → ∃ g o, A = some ⟨g, o, none⟩ ∧ b ≤ g ∧ g < m ∧ KRow g o ks j W) ∧ Below b w W ∧ SlK 4 riN 46 (fun g => m ≤ g) W B rs
theorem riOf_len (id : Int) (ks : List It) : (ks.map (riOf id)).length = ks.length := List.length_map _
theorem SlC.setFar {α : Type} {k : Nat} {f : α → List Value} {e : TypeId} {base : Nat} {w : World} {A : Option Addr} {xs : List α} (h : SlK k f e (fun g => base ≤ g) w A xs) {g i : Nat} (hg : g < base) (u : Value) : SlK k f e (fun g => base ≤ g) (w.setCell ⟨g, i, none⟩ u) A xs :=
  h.frm (G := fun k => k = g) ((Frm.refl (fun k => k = g) w).setCell (p := ⟨g, i, none⟩) (fun _ => rfl) u) (fun k h1 h2 => by omega)
set_option maxRecDepth 100000 in
set_option maxHeartbeats 4000000 in
theorem alike13_any {w : World} {p : Nat} {t : Tb} (ht : TabAt 0 w p t) {A : Option Addr} {c : Nat} {its : List RI} (hs : SlC 4 riN w A its) (hr : R its t) :
    Calls Try.prog 19 #[.pointer (some ⟨p, 0, none⟩), .agg #[.slice A its.length c]] w fun e w' => e = .returned (.bool true) ∧ Below w.heap.size w w' := by
  have hl : its.length ≤ 128 := hr.few
  obtain ⟨w1, hw1⟩ : ∃ z, z = w.alloc (.cells #[.slice A its.length c] 44) := ⟨_, rfl⟩
  have HB1 : Hid (Below w.heap.size w w1) := Lib.hid (by rw [hw1]; exact (Below.refl _ _).alloc (Nat.le_refl _) _)
  have HX1 : Hid (Blk w1 w.heap.size 44 #[.slice A its.length c]) := Lib.hid (by rw [hw1]; exact Blk.new_ w _ _)
  have HS := Lib.hid (hs.below HB1.out)
  have HT := Lib.hid (ht.below HB1.out)
  have HW1 := Lib.hid hw1; clear hw1
  have HR := Lib.hid hr
  have HOK := Lib.hid hr.ok
  have hfew := hr.ok.few
  have HSS := Lib.hid (RSessions_any (c := c) HS.out HR.out)
  have HIDL : Hid ((t.map Sn.id).length = t.length) := Lib.hid (List.length_map _)
  clear hs hr ht
  go_enter Try.func19, Try.ntmps19
  go_upto_region 1 with fail
  rw [← HW1.out]
  clear HW1
  have t0 : w1.cell? ⟨w.heap.size, 0, none⟩ = some (.slice A its.length c) := HX1.out.cell 0
  go_wp2_with fail
  (with_reducible refine HSS.out.mono ?_); rintro e w2 ⟨A2, c2, rfl, ho2, hb2⟩
  have HO2 := Lib.hid ho2
  have HB2 := Lib.hid hb2
  have HT2 := Lib.hid (HT.out.below hb2)
  have HS2 := Lib.hid (Sessions_any HT2.out)
  clear ho2 hb2 t0 HSS
  go_wp2_with fail
  (with_reducible refine HS2.out.mono ?_); rintro e w3 ⟨A3, c3, rfl, ho3, hb3⟩
  have HB3 : Hid (Below w.heap.size w w3) := Lib.hid ((HB1.out.trans (HB2.out.mono HB1.out.size)).trans (hb3.mono (Nat.le_trans HB1.out.size HB2.out.size)))
  have hids := (HO2.out.sl.2.below hb3)
  have HSN := Lib.hid (SameNums_any A3 A2 c3 c2 (t.map Sn.id) (t.map Sn.id) w3 ho3.sl.2 hids)
  rw [decide_eq_true rfl] at HSN
  have HIDS := Lib.hid hids
  have HX3 : Hid (Blk w3 w.heap.size 44 #[.slice A its.length c]) := Lib.hid ((HX1.out.below HB2.out HX1.out.lt).below hb3 (Nat.lt_of_lt_of_le HX1.out.lt HB2.out.size))
  have HS3 := Lib.hid ((HS.out.below HB2.out).below hb3)
  have HT3 := Lib.hid (HT2.out.below hb3)
  clear ho3 hb3 hids HS2 HB2 HT2 HO2 HX1 HS HT HB1
  rw [HIDL.out] at HSN ⊢
  go_wp2_with fail
  (with_reducible refine HSN.out.mono ?_); rintro e w4 ⟨rfl, n4, rfl⟩
  clear HSN
  go_wp2_with fail
  go_loopw [20] (fun iv wr => AkO t.length w3.heap.size w3 iv wr) (fun iv _ => t.length - (RowKit.intOf iv).toNat)
  case atStart => exact ⟨0, Nat.zero_le _, rfl, below_drewN (Below.refl _ _) _⟩
  case round =>
    obtain ⟨k, hk, rfl, hbw⟩ := hrel
    obtain ⟨wo, rfl⟩ : ∃ wo, wo = wr := ⟨_, rfl⟩
    have HB := Lib.hid hbw; clear hbw
    by_cases hlt : k < t.length
    · have hkl : k < (t.map Sn.id).length := by rw [HIDL.out]; exact hlt
      obtain ⟨b, o, rfl, -, hc⟩ := (HIDS.out.below HB.out).at hkl
      have hid := (HOK.out.each _ (List.getElem_mem hlt)).id
      have hcell := hc k hkl
      rw [List.getElem_map] at hcell
      obtain ⟨id, hidx⟩ : ∃ z, z = t[k].id := ⟨_, rfl⟩
      rw [← hidx] at hcell hid
      have e0 : wo.cell? ⟨b, o + k, none⟩ = some (.int .i64 id) := hcell
      have hid2 := numOk_iff.1 hid
      have HW := Lib.hid (wf_ak (n := id) hid2.1 hid2.2)
      have hk0 : (0 : Int) ≤ (k : Int) := by omega
      have hk1 : (k : Int) < (t.length : Int) := by omega
      have HLT := Lib.hid hlt
      clear hc hcell hidx hid hkl hid2
      go_upto_region 7 with fail
      have HTo := Lib.hid (HT3.out.below HB.out)
      have HSo := Lib.hid (HS3.out.below HB.out)
      have HXo := Lib.hid (HX3.out.below HB.out HX3.out.lt)
      obtain ⟨ks, hks⟩ : ∃ z, z = keptT t id := ⟨_, rfl⟩
      have hk8 : ks.length ≤ 8 := by
        rw [hks]; unfold keptT
        cases hf : findS id t with
        | none => simp
        | some s => exact (HOK.out.each s (findS_some hf).1).kept.len
      have HK1 := Lib.hid (Kept_any (HTo.out.below (Below.refl wo.heap.size wo).drew) id HW.out)
      have HK2 : Hid (∀ W, SlC 4 riN W A its → Calls Try.prog 37 #[.agg #[.slice A its.length c], .int .i64 id] W (RkP (ks.map (riOf id)) W)) := Lib.hid fun W h => by rw [hks]; exact RKept_any h HR.out id
      have HK3 : Hid (∀ W, TabAt 0 W p t → Calls Try.prog 14 #[.pointer (some ⟨p, 0, none⟩), .int .i64 id] W (HiP (highT t id) W)) := Lib.hid fun W h => Highest_any h id HW.out
      have HK4 : Hid (∀ W, SlC 4 riN W A its → Calls Try.prog 20 #[.agg #[.slice A its.length c], .int .i64 id] W (IntB (highT t id) W)) := Lib.hid fun W h => by
        have := RHighest_any (c := c) h id
        rw [HR.out.high] at this
        exact this
      unfold HiP at HK3
      unfold IntB at HK4
      rw [← hks] at HK1
      obtain ⟨hi, hhi⟩ : ∃ z, z = highT t id := ⟨_, rfl⟩
      rw [← hhi] at HK3 HK4
      clear hks hhi e0
      refine AnyZ.start (S := (fun W => W.cell? ⟨w.heap.size, 0, none⟩ = some (.slice A its.length c))) (z := 1008) (by kernel_rfl) ?_ (fun hHeld => ?_)
      · exact HXo.out.cell 0
      refine AnyZ.take (i := 0) (v := ?_) rfl (by kernel_rfl) (by kernel_rfl) (by kernel_rfl) (by kernel_rfl) (fun _ _ _ h => h) (Or.inl ⟨by kernel_rfl, ?_⟩) (by assumption) ?_
      rotate_left
      · intro w hSw; (try dsimp only at hSw); go_simp; try with_reducible rfl
      try simp only [Act.put, List.getElem_toArray, List.getElem_cons_succ, List.getElem_cons_zero, List.setIfInBounds_toArray, List.set_cons_zero, List.set_cons_succ]
      refine AnyZ.take (i := 1) (v := ?_) rfl (by kernel_rfl) (by kernel_rfl) (by kernel_rfl) (by kernel_rfl) (fun _ _ _ h => h) (Or.inl ⟨by kernel_rfl, ?_⟩) (by assumption) ?_
      rotate_left
      · intro w hSw; (try dsimp only at hSw); go_simp; try with_reducible rfl
      try simp only [Act.put, List.getElem_toArray, List.getElem_cons_succ, List.getElem_cons_zero, List.setIfInBounds_toArray, List.set_cons_zero, List.set_cons_succ]
      refine AnyZ.take (i := 3) (v := ?_) rfl (by kernel_rfl) (by kernel_rfl) (by kernel_rfl) (by kernel_rfl) (fun _ _ _ h => h) (Or.inl ⟨by kernel_rfl, ?_⟩) (by assumption) ?_
      rotate_left
      · intro w hSw; (try dsimp only at hSw); go_simp; try with_reducible rfl
      try simp only [Act.put, List.getElem_toArray, List.getElem_cons_succ, List.getElem_cons_zero, List.setIfInBounds_toArray, List.set_cons_zero, List.set_cons_succ]
      refine AnyZ.take (i := 4) (v := ?_) rfl (by kernel_rfl) (by kernel_rfl) (by kernel_rfl) (by kernel_rfl) (fun _ _ _ h => h) (Or.inl ⟨by kernel_rfl, ?_⟩) (by assumption) ?_
      rotate_left
      · intro w hSw; (try dsimp only at hSw); go_simp; try with_reducible rfl
      try simp only [Act.put, List.getElem_toArray, List.getElem_cons_succ, List.getElem_cons_zero, List.setIfInBounds_toArray, List.set_cons_zero, List.set_cons_succ]
      refine AnyZ.ready (rs := [2]) (by kernel_rfl) (by simp) ?_
      refine AllZ.cons rfl (fun K hK => ?_) AllZ.nil
      go_simp
      (with_reducible refine HK1.out.mono ?_); rintro e wa ⟨A5, c5, rfl, ho5, hb5⟩
      have HO5 := Lib.hid ho5
      have HSa := Lib.hid (HSo.out.below (Below.refl wo.heap.size wo).drew |>.below hb5)
      have HTa := Lib.hid (HTo.out.below (Below.refl wo.heap.size wo).drew |>.below hb5)
      have HXa := Lib.hid ((HXo.out.drew).below hb5 HXo.out.lt)
      have HBa : Hid (Below w3.heap.size w3 wa) := Lib.hid (HB.out.drew.trans (hb5.mono HB.out.size))
      clear ho5 hb5
      refine hK.out _ _ ?_ (fun hHeld => ?_)
      · exact HXa.out.cell 0
      clear hK K
      try simp only [Act.put, List.getElem_toArray, List.getElem_cons_succ, List.getElem_cons_zero, List.setIfInBounds_toArray, List.set_cons_zero, List.set_cons_succ]
      refine AnyZ.ready (rs := [5]) (by kernel_rfl) (by simp) ?_
      refine AllZ.cons rfl (fun K hK => ?_) AllZ.nil
      go_simp
      (with_reducible refine (HK2.out _ HSa.out).mono ?_); rintro e wb ⟨A6, c6, rfl, ho6, hb6⟩
      rw [riOf_len] at ho6 ⊢
      have HO6 := Lib.hid ho6
      have HO5b := Lib.hid (HO5.out.below hb6)
      have HSb := Lib.hid (HSa.out.below hb6)
      have HTb := Lib.hid (HTa.out.below hb6)
      have HXb := Lib.hid (HXa.out.below hb6 HXa.out.lt)
      have HBb : Hid (Below w3.heap.size w3 wb) := Lib.hid (HBa.out.trans (hb6.mono HBa.out.size))
      have HAB := Lib.hid hb6
      clear ho6 hb6
      refine hK.out _ _ ?_ (fun hHeld => ?_)
      · exact HXb.out.cell 0
      clear hK K
      try simp only [Act.put, List.getElem_toArray, List.getElem_cons_succ, List.getElem_cons_zero, List.setIfInBounds_toArray, List.set_cons_zero, List.set_cons_succ]
      refine AnyZ.take (i := 6) (v := ?_) rfl (by kernel_rfl) (by kernel_rfl) (by kernel_rfl) (by kernel_rfl) (fun _ _ _ h => h) (Or.inl ⟨by kernel_rfl, ?_⟩) (by assumption) ?_
      rotate_left
      · intro w hSw; (try dsimp only at hSw); go_simp; try with_reducible rfl
      try simp only [Act.put, List.getElem_toArray, List.getElem_cons_succ, List.getElem_cons_zero, List.setIfInBounds_toArray, List.set_cons_zero, List.set_cons_succ]
      refine AnyZ.take (i := 7) (v := ?_) rfl (by kernel_rfl) (by kernel_rfl) (by kernel_rfl) (by kernel_rfl) (fun _ _ _ h => h) (Or.inl ⟨by kernel_rfl, ?_⟩) (by assumption) ?_
      rotate_left
      · intro w hSw; (try dsimp only at hSw); go_simp; try with_reducible rfl
      try simp only [Act.put, List.getElem_toArray, List.getElem_cons_succ, List.getElem_cons_zero, List.setIfInBounds_toArray, List.set_cons_zero, List.set_cons_succ]
      refine AnyZ.done (by kernel_rfl) ?_ _
      go_upto_region 8 with fail
      refine AnyZ.start (S := (fun W => W.cell? ⟨w.heap.size, 0, none⟩ = some (.slice A its.length c))) (z := 1014) (by kernel_rfl) ?_ (fun hHeld => ?_)
      · exact HXb.out.cell 0
      refine AnyZ.take (i := 0) (v := ?_) rfl (by kernel_rfl) (by kernel_rfl) (by kernel_rfl) (by kernel_rfl) (fun _ _ _ h => h) (Or.inl ⟨by kernel_rfl, ?_⟩) (by assumption) ?_
      rotate_left
      · intro w hSw; (try dsimp only at hSw); go_simp; try with_reducible rfl
      try simp only [Act.put, List.getElem_toArray, List.getElem_cons_succ, List.getElem_cons_zero, List.setIfInBounds_toArray, List.set_cons_zero, List.set_cons_succ]
      refine AnyZ.take (i := 1) (v := ?_) rfl (by kernel_rfl) (by kernel_rfl) (by kernel_rfl) (by kernel_rfl) (fun _ _ _ h => h) (Or.inl ⟨by kernel_rfl, ?_⟩) (by assumption) ?_
      rotate_left
      · intro w hSw; (try dsimp only at hSw); go_simp; try with_reducible rfl
      try simp only [Act.put, List.getElem_toArray, List.getElem_cons_succ, List.getElem_cons_zero, List.setIfInBounds_toArray, List.set_cons_zero, List.set_cons_succ]
      refine AnyZ.take (i := 3) (v := ?_) rfl (by kernel_rfl) (by kernel_rfl) (by kernel_rfl) (by kernel_rfl) (fun _ _ _ h => h) (Or.inl ⟨by kernel_rfl, ?_⟩) (by assumption) ?_
      rotate_left
      · intro w hSw; (try dsimp only at hSw); go_simp; try with_reducible rfl
      try simp only [Act.put, List.getElem_toArray, List.getElem_cons_succ, List.getElem_cons_zero, List.setIfInBounds_toArray, List.set_cons_zero, List.set_cons_succ]
      refine AnyZ.take (i := 4) (v := ?_) rfl (by kernel_rfl) (by kernel_rfl) (by kernel_rfl) (by kernel_rfl) (fun _ _ _ h => h) (Or.inl ⟨by kernel_rfl, ?_⟩) (by assumption) ?_
      rotate_left
      · intro w hSw; (try dsimp only at hSw); go_simp; try with_reducible rfl
      try simp only [Act.put, List.getElem_toArray, List.getElem_cons_succ, List.getElem_cons_zero, List.setIfInBounds_toArray, List.set_cons_zero, List.set_cons_succ]
      refine AnyZ.ready (rs := [2]) (by kernel_rfl) (by simp) ?_
      refine AllZ.cons rfl (fun K hK => ?_) AllZ.nil
      go_simp
      (with_reducible refine (HK3.out _ (HTb.out.below (Below.refl wb.heap.size wb).drew)).mono ?_); rintro e wc ⟨rfl, rfl⟩
      refine hK.out _ _ ?_ (fun hHeld => ?_)
      · exact hHeld
      clear hK K
      try simp only [Act.put, List.getElem_toArray, List.getElem_cons_succ, List.getElem_cons_zero, List.setIfInBounds_toArray, List.set_cons_zero, List.set_cons_succ]
      refine AnyZ.ready (rs := [5]) (by kernel_rfl) (by simp) ?_
      refine AllZ.cons rfl (fun K hK => ?_) AllZ.nil
      go_simp
      (with_reducible refine (HK4.out _ (HSb.out.below (Below.refl wb.heap.size wb).drew)).mono ?_); rintro e wc ⟨rfl, hb7⟩
      have HO6c := Lib.hid ((HO6.out.drewN 1).below hb7)
      have HO5c := Lib.hid ((HO5b.out.drewN 1).below hb7)
      have HXc := Lib.hid (HXb.out.drew.below hb7 HXb.out.lt)
      have HBc : Hid (Below w3.heap.size w3 wc) := Lib.hid (HBb.out.drew.trans (hb7.mono HBb.out.size))
      have HBC : Hid (Below wa.heap.size wb.drew wc) := Lib.hid (hb7.mono HAB.out.size)
      clear hb7
      refine hK.out _ _ ?_ (fun hHeld => ?_)
      · exact HXc.out.cell 0
      clear hK K
      try simp only [Act.put, List.getElem_toArray, List.getElem_cons_succ, List.getElem_cons_zero, List.setIfInBounds_toArray, List.set_cons_zero, List.set_cons_succ]
      refine AnyZ.take (i := 6) (v := ?_) rfl (by kernel_rfl) (by kernel_rfl) (by kernel_rfl) (by kernel_rfl) (fun _ _ _ h => h) (Or.inl ⟨by kernel_rfl, ?_⟩) (by assumption) ?_
      rotate_left
      · intro w hSw; (try dsimp only at hSw); go_simp; try with_reducible rfl
      try simp only [Act.put, List.getElem_toArray, List.getElem_cons_succ, List.getElem_cons_zero, List.setIfInBounds_toArray, List.set_cons_zero, List.set_cons_succ]
      refine AnyZ.take (i := 7) (v := ?_) rfl (by kernel_rfl) (by kernel_rfl) (by kernel_rfl) (by kernel_rfl) (fun _ _ _ h => h) (Or.inl ⟨by kernel_rfl, ?_⟩) (by assumption) ?_
      rotate_left
      · intro w hSw; (try dsimp only at hSw); go_simp; try with_reducible rfl
      try simp only [Act.put, List.getElem_toArray, List.getElem_cons_succ, List.getElem_cons_zero, List.setIfInBounds_toArray, List.set_cons_zero, List.set_cons_succ]
      refine AnyZ.take (i := 8) (v := ?_) rfl (by kernel_rfl) (by kernel_rfl) (by kernel_rfl) (by kernel_rfl) (fun _ _ _ h => h) (Or.inl ⟨by kernel_rfl, ?_⟩) (by assumption) ?_
      rotate_left
      · intro w hSw; (try dsimp only at hSw); go_simp; try with_reducible rfl
      try simp only [Act.put, List.getElem_toArray, List.getElem_cons_succ, List.getElem_cons_zero, List.setIfInBounds_toArray, List.set_cons_zero, List.set_cons_succ]
      refine AnyZ.take (i := 9) (v := ?_) rfl (by kernel_rfl) (by kernel_rfl) (by kernel_rfl) (by kernel_rfl) (fun _ _ _ h => h) (Or.inl ⟨by kernel_rfl, ?_⟩) (by assumption) ?_
      rotate_left
      · intro w hSw; (try dsimp only at hSw); go_simp; try with_reducible rfl
      try simp only [Act.put, List.getElem_toArray, List.getElem_cons_succ, List.getElem_cons_zero, List.setIfInBounds_toArray, List.set_cons_zero, List.set_cons_succ]
      refine AnyZ.take (i := 10) (v := ?_) rfl (by kernel_rfl) (by kernel_rfl) (by kernel_rfl) (by kernel_rfl) (fun _ _ _ h => h) (Or.inl ⟨by kernel_rfl, ?_⟩) (by assumption) ?_
      rotate_left
      · intro w hSw; (try dsimp only at hSw); go_simp; try with_reducible rfl
      try simp only [Act.put, List.getElem_toArray, List.getElem_cons_succ, List.getElem_cons_zero, List.setIfInBounds_toArray, List.set_cons_zero, List.set_cons_succ]
      refine AnyZ.take (i := 11) (v := ?_) rfl (by kernel_rfl) (by kernel_rfl) (by kernel_rfl) (by kernel_rfl) (fun _ _ _ h => h) (Or.inl ⟨by kernel_rfl, ?_⟩) (by assumption) ?_
      rotate_left
      · intro w hSw; (try dsimp only at hSw); go_simp; try with_reducible rfl
      try simp only [Act.put, List.getElem_toArray, List.getElem_cons_succ, List.getElem_cons_zero, List.setIfInBounds_toArray, List.set_cons_zero, List.set_cons_succ]
      refine AnyZ.take (i := 12) (v := ?_) rfl (by kernel_rfl) (by kernel_rfl) (by kernel_rfl) (by kernel_rfl) (fun _ _ _ h => h) (Or.inl ⟨by kernel_rfl, ?_⟩) (by assumption) ?_
      rotate_left
      · intro w hSw; (try dsimp only at hSw); go_simp; try with_reducible rfl
      try simp only [Act.put, List.getElem_toArray, List.getElem_cons_succ, List.getElem_cons_zero, List.setIfInBounds_toArray, List.set_cons_zero, List.set_cons_succ]
      refine AnyZ.take (i := 13) (v := ?_) rfl (by kernel_rfl) (by kernel_rfl) (by kernel_rfl) (by kernel_rfl) (fun _ _ _ h => h) (Or.inl ⟨by kernel_rfl, ?_⟩) (by assumption) ?_
      rotate_left
      · intro w hSw; (try dsimp only at hSw); go_simp; try with_reducible rfl
      try simp only [Act.put, List.getElem_toArray, List.getElem_cons_succ, List.getElem_cons_zero, List.setIfInBounds_toArray, List.set_cons_zero, List.set_cons_succ]
      refine AnyZ.done (by kernel_rfl) ?_ _
      go_upto_region 10 with fail
      have HKR : Hid (0 < ks.length → ∃ g o, A5 = some ⟨g, o, none⟩ ∧ w3.heap.size ≤ g ∧ g < wa.heap.size ∧ KRow g o ks 0 wc) := Lib.hid fun h0 => by
        obtain ⟨g, o, e, h1, h2, h3⟩ := KRow.of HO5.out h0
        exact ⟨g, o, e, Nat.le_trans HB.out.size h1, h2, ((h3.below HAB.out h2).drew).below HBC.out h2⟩
      have HRW := Lib.hid (HO6c.out.slK riN_len).2
      have hk9 : ks.length ≤ 9223372036854775807 := by omega
      clear HO5b HO6 HO5c HXo HXa HXb HTo HTa HTb HSo HSa HSb HK1 HK2 HK3 HK4
      go_wp2_with fail
      go_loopw [46] (fun iv wr => AkI A5 ks w3.heap.size wa.heap.size w3 A6 (ks.map (riOf id)) iv wr) (fun iv _ => ks.length - (RowKit.intOf iv).toNat)
      case atStart => exact ⟨0, Nat.zero_le _, rfl, HKR.out, HBc.out, HRW.out⟩
      case round =>
        obtain ⟨j, hj, rfl, hkr, hbw, hsl⟩ := hrel
        obtain ⟨wi, rfl⟩ : ∃ wo, wo = wr := ⟨_, rfl⟩
        have HBI := Lib.hid hbw
        have HSL := Lib.hid hsl
        clear hbw hsl HKR
        by_cases hjl : j < ks.length
        · obtain ⟨g, o2, rfl, hg1, hg2, hkw⟩ := hkr (by omega)
          have HKW := Lib.hid hkw
          obtain ⟨cur, hcb, hcc⟩ := hkw
          obtain ⟨b3, o3, rfl, hb3, -, hd⟩ := HSL.out.at (j := j) (by rw [riOf_len]; exact hjl)
          rw [List.getElem_map] at hd
          have hcj := hcc j hjl (Nat.le_refl _)
          obtain ⟨x, hx⟩ : ∃ z, z = ks[j] := ⟨_, rfl⟩
          rw [← hx] at hcj hd
          have c0 : wi.cell? ⟨g, o2 + j * 3, none⟩ = some (.int .i64 x.seq) := (hcb.cell _).trans (hcj 0 (by decide))
          have c1 : wi.cell? ⟨g, o2 + j * 3 + 1, none⟩ = some (.int .i64 x.code) := (hcb.cell _).trans (hcj 1 (by decide))
          have c2 : wi.cell? ⟨g, o2 + j * 3 + 2, none⟩ = some (.int .i64 x.num) := (hcb.cell _).trans (hcj 2 (by decide))
          have f0 := hcb.free (o2 + j * 3)
          have d1 : wi.cell? ⟨b3, o3 + j * 4 + 1, none⟩ = some (.int .i64 x.seq) := hd 1 (by decide)
          have d2 : wi.cell? ⟨b3, o3 + j * 4 + 2, none⟩ = some (.int .i64 x.code) := hd 2 (by decide)
          have d3 : wi.cell? ⟨b3, o3 + j * 4 + 3, none⟩ = some (.int .i64 x.num) := hd 3 (by decide)
          have hj0 : (0 : Int) ≤ (j : Int) := by omega
          have hj1 : (j : Int) < (ks.length : Int) := by omega
          have HJL := Lib.hid hjl
          have HG1 := Lib.hid hg1
          have HG2 := Lib.hid hg2
          have HB3' := Lib.hid hb3
          clear hkr hcb hcc hcj hd hx hg1 hg2 hb3
          go_upto_region 13 with fail
          refine AnyZ.start (S := (fun W => W.cell? ⟨g, o2 + j * 3, none⟩ = some (.int .i64 x.seq) ∧ W.cell? ⟨g, o2 + j * 3 + 1, none⟩ = some (.int .i64 x.code) ∧ W.cell? ⟨g, o2 + j * 3 + 2, none⟩ = some (.int .i64 x.num) ∧ W.cell? ⟨b3, o3 + j * 4 + 1, none⟩ = some (.int .i64 x.seq) ∧ W.cell? ⟨b3, o3 + j * 4 + 2, none⟩ = some (.int .i64 x.code) ∧ W.cell? ⟨b3, o3 + j * 4 + 3, none⟩ = some (.int .i64 x.num))) (z := 1039) (by kernel_rfl) ?_ (fun hHeld => ?_)
          · exact ⟨c0, c1, c2, d1, d2, d3⟩
          refine AnyZ.take (i := 0) (v := ?_) rfl (by kernel_rfl) (by kernel_rfl) (by kernel_rfl) (by kernel_rfl) (fun _ _ _ h => h) (Or.inl ⟨by kernel_rfl, ?_⟩) (by assumption) ?_
          rotate_left
          · intro w hSw; (try dsimp only at hSw); go_simp; try with_reducible rfl
          try simp only [Act.put, List.getElem_toArray, List.getElem_cons_succ, List.getElem_cons_zero, List.setIfInBounds_toArray, List.set_cons_zero, List.set_cons_succ]
          refine AnyZ.take (i := 1) (v := ?_) rfl (by kernel_rfl) (by kernel_rfl) (by kernel_rfl) (by kernel_rfl) (fun _ _ _ h => h) (Or.inl ⟨by kernel_rfl, ?_⟩) (by assumption) ?_
          rotate_left
          · intro w hSw; (try dsimp only at hSw); go_simp; try with_reducible rfl
          try simp only [Act.put, List.getElem_toArray, List.getElem_cons_succ, List.getElem_cons_zero, List.setIfInBounds_toArray, List.set_cons_zero, List.set_cons_succ]
          refine AnyZ.take (i := 2) (v := ?_) rfl (by kernel_rfl) (by kernel_rfl) (by kernel_rfl) (by kernel_rfl) (fun _ _ _ h => h) (Or.inl ⟨by kernel_rfl, ?_⟩) (by assumption) ?_
          rotate_left
          · intro w hSw; (try dsimp only at hSw); go_simp; try with_reducible rfl
          try simp only [Act.put, List.getElem_toArray, List.getElem_cons_succ, List.getElem_cons_zero, List.setIfInBounds_toArray, List.set_cons_zero, List.set_cons_succ]
          refine AnyZ.take (i := 3) (v := ?_) rfl (by kernel_rfl) (by kernel_rfl) (by kernel_rfl) (by kernel_rfl) (fun _ _ _ h => h) (Or.inl ⟨by kernel_rfl, ?_⟩) (by assumption) ?_
          rotate_left
          · intro w hSw; (try dsimp only at hSw); go_simp; try with_reducible rfl
          try simp only [Act.put, List.getElem_toArray, List.getElem_cons_succ, List.getElem_cons_zero, List.setIfInBounds_toArray, List.set_cons_zero, List.set_cons_succ]
          refine AnyZ.take (i := 4) (v := ?_) rfl (by kernel_rfl) (by kernel_rfl) (by kernel_rfl) (by kernel_rfl) (fun _ _ _ h => h) (Or.inl ⟨by kernel_rfl, ?_⟩) (by assumption) ?_
          rotate_left
          · intro w hSw; (try dsimp only at hSw); go_simp; try with_reducible rfl
          try simp only [Act.put, List.getElem_toArray, List.getElem_cons_succ, List.getElem_cons_zero, List.setIfInBounds_toArray, List.set_cons_zero, List.set_cons_succ]
          refine AnyZ.take (i := 5) (v := ?_) rfl (by kernel_rfl) (by kernel_rfl) (by kernel_rfl) (by kernel_rfl) (fun _ _ _ h => h) (Or.inl ⟨by kernel_rfl, ?_⟩) (by assumption) ?_
          rotate_left
          · intro w hSw; (try dsimp only at hSw); go_simp; try with_reducible rfl
          try simp only [Act.put, List.getElem_toArray, List.getElem_cons_succ, List.getElem_cons_zero, List.setIfInBounds_toArray, List.set_cons_zero, List.set_cons_succ]
          refine AnyZ.take (i := 6) (v := ?_) rfl (by kernel_rfl) (by kernel_rfl) (by kernel_rfl) (by kernel_rfl) (fun _ _ _ h => h) (Or.inl ⟨by kernel_rfl, ?_⟩) (by assumption) ?_
          rotate_left
          · intro w hSw; (try dsimp only at hSw); go_simp; try with_reducible rfl
          try simp only [Act.put, List.getElem_toArray, List.getElem_cons_succ, List.getElem_cons_zero, List.setIfInBounds_toArray, List.set_cons_zero, List.set_cons_succ]
          refine AnyZ.take (i := 7) (v := ?_) rfl (by kernel_rfl) (by kernel_rfl) (by kernel_rfl) (by kernel_rfl) (fun _ _ _ h => h) (Or.inl ⟨by kernel_rfl, ?_⟩) (by assumption) ?_
          rotate_left
          · intro w hSw; (try dsimp only at hSw); go_simp; try with_reducible rfl
          try simp only [Act.put, List.getElem_toArray, List.getElem_cons_succ, List.getElem_cons_zero, List.setIfInBounds_toArray, List.set_cons_zero, List.set_cons_succ]
          refine AnyZ.take (i := 8) (v := ?_) rfl (by kernel_rfl) (by kernel_rfl) (by kernel_rfl) (by kernel_rfl) (fun _ _ _ h => h) (Or.inl ⟨by kernel_rfl, ?_⟩) (by assumption) ?_
          rotate_left
          · intro w hSw; (try dsimp only at hSw); go_simp; try with_reducible rfl
          try simp only [Act.put, List.getElem_toArray, List.getElem_cons_succ, List.getElem_cons_zero, List.setIfInBounds_toArray, List.set_cons_zero, List.set_cons_succ]
          refine AnyZ.take (i := 9) (v := ?_) rfl (by kernel_rfl) (by kernel_rfl) (by kernel_rfl) (by kernel_rfl) (fun _ _ _ h => h) (Or.inl ⟨by kernel_rfl, ?_⟩) (by assumption) ?_
          rotate_left
          · intro w hSw; (try dsimp only at hSw); go_simp; try with_reducible rfl
          try simp only [Act.put, List.getElem_toArray, List.getElem_cons_succ, List.getElem_cons_zero, List.setIfInBounds_toArray, List.set_cons_zero, List.set_cons_succ]
          refine AnyZ.take (i := 10) (v := ?_) rfl (by kernel_rfl) (by kernel_rfl) (by kernel_rfl) (by kernel_rfl) (fun _ _ _ h => h) (Or.inl ⟨by kernel_rfl, ?_⟩) (by assumption) ?_
          rotate_left
          · intro w hSw; (try dsimp only at hSw); go_simp; try with_reducible rfl
          try simp only [Act.put, List.getElem_toArray, List.getElem_cons_succ, List.getElem_cons_zero, List.setIfInBounds_toArray, List.set_cons_zero, List.set_cons_succ]
          refine AnyZ.take (i := 11) (v := ?_) rfl (by kernel_rfl) (by kernel_rfl) (by kernel_rfl) (by kernel_rfl) (fun _ _ _ h => h) (Or.inl ⟨by kernel_rfl, ?_⟩) (by assumption) ?_
          rotate_left
          · intro w hSw; (try dsimp only at hSw); go_simp; try with_reducible rfl
          try simp only [Act.put, List.getElem_toArray, List.getElem_cons_succ, List.getElem_cons_zero, List.setIfInBounds_toArray, List.set_cons_zero, List.set_cons_succ]
          refine AnyZ.take (i := 12) (v := ?_) rfl (by kernel_rfl) (by kernel_rfl) (by kernel_rfl) (by kernel_rfl) (fun _ _ _ h => h) (Or.inl ⟨by kernel_rfl, ?_⟩) (by assumption) ?_
          rotate_left
          · intro w hSw; (try dsimp only at hSw); go_simp; try with_reducible rfl
          try simp only [Act.put, List.getElem_toArray, List.getElem_cons_succ, List.getElem_cons_zero, List.setIfInBounds_toArray, List.set_cons_zero, List.set_cons_succ]
          refine AnyZ.take (i := 13) (v := ?_) rfl (by kernel_rfl) (by kernel_rfl) (by kernel_rfl) (by kernel_rfl) (fun _ _ _ h => h) (Or.inl ⟨by kernel_rfl, ?_⟩) (by assumption) ?_
          rotate_left
          · intro w hSw; (try dsimp only at hSw); go_simp; try with_reducible rfl
          try simp only [Act.put, List.getElem_toArray, List.getElem_cons_succ, List.getElem_cons_zero, List.setIfInBounds_toArray, List.set_cons_zero, List.set_cons_succ]
          refine AnyZ.take (i := 14) (v := ?_) rfl (by kernel_rfl) (by kernel_rfl) (by kernel_rfl) (by kernel_rfl) (fun _ _ _ h => h) (Or.inl ⟨by kernel_rfl, ?_⟩) (by assumption) ?_
          rotate_left
          · intro w hSw; (try dsimp only at hSw); go_simp; try with_reducible rfl
          try simp only [Act.put, List.getElem_toArray, List.getElem_cons_succ, List.getElem_cons_zero, List.setIfInBounds_toArray, List.set_cons_zero, List.set_cons_succ]
          refine AnyZ.take (i := 15) (v := ?_) rfl (by kernel_rfl) (by kernel_rfl) (by kernel_rfl) (by kernel_rfl) (fun _ _ _ h => h) (Or.inl ⟨by kernel_rfl, ?_⟩) (by assumption) ?_
          rotate_left
          · intro w hSw; (try dsimp only at hSw); go_simp; try with_reducible rfl
          try simp only [Act.put, List.getElem_toArray, List.getElem_cons_succ, List.getElem_cons_zero, List.setIfInBounds_toArray, List.set_cons_zero, List.set_cons_succ]
          refine AnyZ.take (i := 16) (v := ?_) rfl (by kernel_rfl) (by kernel_rfl) (by kernel_rfl) (by kernel_rfl) (fun _ _ _ h => h) (Or.inl ⟨by kernel_rfl, ?_⟩) (by assumption) ?_
          rotate_left
          · intro w hSw; (try dsimp only at hSw); go_simp; try with_reducible rfl
          try simp only [Act.put, List.getElem_toArray, List.getElem_cons_succ, List.getElem_cons_zero, List.setIfInBounds_toArray, List.set_cons_zero, List.set_cons_succ]
          refine AnyZ.take (i := 17) (v := ?_) rfl (by kernel_rfl) (by kernel_rfl) (by kernel_rfl) (by kernel_rfl) (fun _ _ _ h => h) (Or.inl ⟨by kernel_rfl, ?_⟩) (by assumption) ?_
          rotate_left
          · intro w hSw; (try dsimp only at hSw); go_simp; try with_reducible rfl
          try simp only [Act.put, List.getElem_toArray, List.getElem_cons_succ, List.getElem_cons_zero, List.setIfInBounds_toArray, List.set_cons_zero, List.set_cons_succ]
          refine AnyZ.take (i := 18) (v := ?_) rfl (by kernel_rfl) (by kernel_rfl) (by kernel_rfl) (by kernel_rfl) (fun _ _ _ h => h) (Or.inl ⟨by kernel_rfl, ?_⟩) (by assumption) ?_
          rotate_left
          · intro w hSw; (try dsimp only at hSw); go_simp; try with_reducible rfl
          try simp only [Act.put, List.getElem_toArray, List.getElem_cons_succ, List.getElem_cons_zero, List.setIfInBounds_toArray, List.set_cons_zero, List.set_cons_succ]
          refine AnyZ.take (i := 19) (v := ?_) rfl (by kernel_rfl) (by kernel_rfl) (by kernel_rfl) (by kernel_rfl) (fun _ _ _ h => h) (Or.inl ⟨by kernel_rfl, ?_⟩) (by assumption) ?_
          rotate_left
          · intro w hSw; (try dsimp only at hSw); go_simp; try with_reducible rfl
          try simp only [Act.put, List.getElem_toArray, List.getElem_cons_succ, List.getElem_cons_zero, List.setIfInBounds_toArray, List.set_cons_zero, List.set_cons_succ]
          refine AnyZ.take (i := 20) (v := ?_) rfl (by kernel_rfl) (by kernel_rfl) (by kernel_rfl) (by kernel_rfl) (fun _ _ _ h => h) (Or.inl ⟨by kernel_rfl, ?_⟩) (by assumption) ?_
          rotate_left
          · intro w hSw; (try dsimp only at hSw); go_simp; try with_reducible rfl
          try simp only [Act.put, List.getElem_toArray, List.getElem_cons_succ, List.getElem_cons_zero, List.setIfInBounds_toArray, List.set_cons_zero, List.set_cons_succ]
          refine AnyZ.take (i := 21) (v := ?_) rfl (by kernel_rfl) (by kernel_rfl) (by kernel_rfl) (by kernel_rfl) (fun _ _ _ h => h) (Or.inl ⟨by kernel_rfl, ?_⟩) (by assumption) ?_
          rotate_left
          · intro w hSw; (try dsimp only at hSw); go_simp; try with_reducible rfl
          try simp only [Act.put, List.getElem_toArray, List.getElem_cons_succ, List.getElem_cons_zero, List.setIfInBounds_toArray, List.set_cons_zero, List.set_cons_succ]
          refine AnyZ.take (i := 22) (v := ?_) rfl (by kernel_rfl) (by kernel_rfl) (by kernel_rfl) (by kernel_rfl) (fun _ _ _ h => h) (Or.inl ⟨by kernel_rfl, ?_⟩) (by assumption) ?_
          rotate_left
          · intro w hSw; (try dsimp only at hSw); go_simp; try with_reducible rfl
          try simp only [Act.put, List.getElem_toArray, List.getElem_cons_succ, List.getElem_cons_zero, List.setIfInBounds_toArray, List.set_cons_zero, List.set_cons_succ]
          refine AnyZ.take (i := 23) (v := ?_) rfl (by kernel_rfl) (by kernel_rfl) (by kernel_rfl) (by kernel_rfl) (fun _ _ _ h => h) (Or.inl ⟨by kernel_rfl, ?_⟩) (by assumption) ?_
          rotate_left
          · intro w hSw; (try dsimp only at hSw); go_simp; try with_reducible rfl
          try simp only [Act.put, List.getElem_toArray, List.getElem_cons_succ, List.getElem_cons_zero, List.setIfInBounds_toArray, List.set_cons_zero, List.set_cons_succ]
          refine AnyZ.take (i := 24) (v := ?_) rfl (by kernel_rfl) (by kernel_rfl) (by kernel_rfl) (by kernel_rfl) (fun _ _ _ h => h) (Or.inl ⟨by kernel_rfl, ?_⟩) (by assumption) ?_
          rotate_left
          · intro w hSw; (try dsimp only at hSw); go_simp; try with_reducible rfl
          try simp only [Act.put, List.getElem_toArray, List.getElem_cons_succ, List.getElem_cons_zero, List.setIfInBounds_toArray, List.set_cons_zero, List.set_cons_succ]
          refine AnyZ.take (i := 25) (v := ?_) rfl (by kernel_rfl) (by kernel_rfl) (by kernel_rfl) (by kernel_rfl) (fun _ _ _ h => h) (Or.inl ⟨by kernel_rfl, ?_⟩) (by assumption) ?_
          rotate_left
          · intro w hSw; (try dsimp only at hSw); go_simp; try with_reducible rfl
          try simp only [Act.put, List.getElem_toArray, List.getElem_cons_succ, List.getElem_cons_zero, List.setIfInBounds_toArray, List.set_cons_zero, List.set_cons_succ]
          refine AnyZ.take (i := 26) (v := ?_) rfl (by kernel_rfl) (by kernel_rfl) (by kernel_rfl) (by kernel_rfl) (fun _ _ _ h => h) (Or.inl ⟨by kernel_rfl, ?_⟩) (by assumption) ?_
          rotate_left
          · intro w hSw; (try dsimp only at hSw); go_simp; try with_reducible rfl
          try simp only [Act.put, List.getElem_toArray, List.getElem_cons_succ, List.getElem_cons_zero, List.setIfInBounds_toArray, List.set_cons_zero, List.set_cons_succ]
          refine AnyZ.take (i := 27) (v := ?_) rfl (by kernel_rfl) (by kernel_rfl) (by kernel_rfl) (by kernel_rfl) (fun _ _ _ h => h) (Or.inl ⟨by kernel_rfl, ?_⟩) (by assumption) ?_
          rotate_left
          · intro w hSw; (try dsimp only at hSw); go_simp; try with_reducible rfl
          try simp only [Act.put, List.getElem_toArray, List.getElem_cons_succ, List.getElem_cons_zero, List.setIfInBounds_toArray, List.set_cons_zero, List.set_cons_succ]
          refine AnyZ.take (i := 28) (v := ?_) rfl (by kernel_rfl) (by kernel_rfl) (by kernel_rfl) (by kernel_rfl) (fun _ _ _ h => h) (Or.inl ⟨by kernel_rfl, ?_⟩) (by assumption) ?_
          rotate_left
          · intro w hSw; (try dsimp only at hSw); go_simp; try with_reducible rfl
          try simp only [Act.put, List.getElem_toArray, List.getElem_cons_succ, List.getElem_cons_zero, List.setIfInBounds_toArray, List.set_cons_zero, List.set_cons_succ]
          refine AnyZ.take (i := 29) (v := ?_) rfl (by kernel_rfl) (by kernel_rfl) (by kernel_rfl) (by kernel_rfl) (fun _ _ _ h => h) (Or.inl ⟨by kernel_rfl, ?_⟩) (by assumption) ?_
          rotate_left
          · intro w hSw; (try dsimp only at hSw); go_simp; try with_reducible rfl
          try simp only [Act.put, List.getElem_toArray, List.getElem_cons_succ, List.getElem_cons_zero, List.setIfInBounds_toArray, List.set_cons_zero, List.set_cons_succ]
          refine AnyZ.take (i := 30) (v := ?_) rfl (by kernel_rfl) (by kernel_rfl) (by kernel_rfl) (by kernel_rfl) (fun _ _ _ h => h) (Or.inl ⟨by kernel_rfl, ?_⟩) (by assumption) ?_
          rotate_left
          · intro w hSw; (try dsimp only at hSw); go_simp; try with_reducible rfl
          try simp only [Act.put, List.getElem_toArray, List.getElem_cons_succ, List.getElem_cons_zero, List.setIfInBounds_toArray, List.set_cons_zero, List.set_cons_succ]
          refine AnyZ.take (i := 31) (v := ?_) rfl (by kernel_rfl) (by kernel_rfl) (by kernel_rfl) (by kernel_rfl) (fun _ _ _ h => h) (Or.inl ⟨by kernel_rfl, ?_⟩) (by assumption) ?_
          rotate_left
          · intro w hSw; (try dsimp only at hSw); go_simp; try with_reducible rfl
          try simp only [Act.put, List.getElem_toArray, List.getElem_cons_succ, List.getElem_cons_zero, List.setIfInBounds_toArray, List.set_cons_zero, List.set_cons_succ]
          refine AnyZ.take (i := 32) (v := ?_) rfl (by kernel_rfl) (by kernel_rfl) (by kernel_rfl) (by kernel_rfl) (fun _ _ _ h => h) (Or.inl ⟨by kernel_rfl, ?_⟩) (by assumption) ?_
          rotate_left
          · intro w hSw; (try dsimp only at hSw); go_simp; try with_reducible rfl
          try simp only [Act.put, List.getElem_toArray, List.getElem_cons_succ, List.getElem_cons_zero, List.setIfInBounds_toArray, List.set_cons_zero, List.set_cons_succ]
          refine AnyZ.take (i := 33) (v := ?_) rfl (by kernel_rfl) (by kernel_rfl) (by kernel_rfl) (by kernel_rfl) (fun _ _ _ h => h) (Or.inl ⟨by kernel_rfl, ?_⟩) (by assumption) ?_
          rotate_left
          · intro w hSw; (try dsimp only at hSw); go_simp; try with_reducible rfl
          try simp only [Act.put, List.getElem_toArray, List.getElem_cons_succ, List.getElem_cons_zero, List.setIfInBounds_toArray, List.set_cons_zero, List.set_cons_succ]
          refine AnyZ.take (i := 34) (v := ?_) rfl (by kernel_rfl) (by kernel_rfl) (by kernel_rfl) (by kernel_rfl) (fun _ _ _ h => h) (Or.inl ⟨by kernel_rfl, ?_⟩) (by assumption) ?_
          rotate_left
          · intro w hSw; (try dsimp only at hSw); go_simp; try with_reducible rfl
          try simp only [Act.put, List.getElem_toArray, List.getElem_cons_succ, List.getElem_cons_zero, List.setIfInBounds_toArray, List.set_cons_zero, List.set_cons_succ]
          refine AnyZ.take (i := 35) (v := ?_) rfl (by kernel_rfl) (by kernel_rfl) (by kernel_rfl) (by kernel_rfl) (fun _ _ _ h => h) (Or.inl ⟨by kernel_rfl, ?_⟩) (by assumption) ?_
          rotate_left
          · intro w hSw; (try dsimp only at hSw); go_simp; try with_reducible rfl
          try simp only [Act.put, List.getElem_toArray, List.getElem_cons_succ, List.getElem_cons_zero, List.setIfInBounds_toArray, List.set_cons_zero, List.set_cons_succ]
          refine AnyZ.take (i := 36) (v := ?_) rfl (by kernel_rfl) (by kernel_rfl) (by kernel_rfl) (by kernel_rfl) (fun _ _ _ h => h) (Or.inl ⟨by kernel_rfl, ?_⟩) (by assumption) ?_
          rotate_left
          · intro w hSw; (try dsimp only at hSw); go_simp; try with_reducible rfl
          try simp only [Act.put, List.getElem_toArray, List.getElem_cons_succ, List.getElem_cons_zero, List.setIfInBounds_toArray, List.set_cons_zero, List.set_cons_succ]
          refine AnyZ.take (i := 37) (v := ?_) rfl (by kernel_rfl) (by kernel_rfl) (by kernel_rfl) (by kernel_rfl) (fun _ _ _ h => h) (Or.inl ⟨by kernel_rfl, ?_⟩) (by assumption) ?_
          rotate_left
          · intro w hSw; (try dsimp only at hSw); go_simp; try with_reducible rfl
          try simp only [Act.put, List.getElem_toArray, List.getElem_cons_succ, List.getElem_cons_zero, List.setIfInBounds_toArray, List.set_cons_zero, List.set_cons_succ]
          refine AnyZ.take (i := 38) (v := ?_) rfl (by kernel_rfl) (by kernel_rfl) (by kernel_rfl) (by kernel_rfl) (fun _ _ _ h => h) (Or.inl ⟨by kernel_rfl, ?_⟩) (by assumption) ?_
          rotate_left
          · intro w hSw; (try dsimp only at hSw); go_simp; try with_reducible rfl
          try simp only [Act.put, List.getElem_toArray, List.getElem_cons_succ, List.getElem_cons_zero, List.setIfInBounds_toArray, List.set_cons_zero, List.set_cons_succ]
          refine AnyZ.done (by kernel_rfl) ?_ _
          go_wp2_with fail
          go_roundw
          case rel => exact ⟨j + 1, HJL.out, by go_num, fun _ => ⟨g, o2, rfl, HG1.out, HG2.out, HKW.out.drew.next _⟩, HBI.out.drew.setCell (p := ⟨g, o2 + j * 3, none⟩) HG1.out _, SlC.setFar (w := wi.drew) HSL.out HG2.out _⟩
          case measure => simp [RowKit.intOf]; have := HJL.out; omega
        · go_wp2_with fail
          go_roundw
          case rel => exact ⟨k + 1, HLT.out, by go_num, HBI.out⟩
          case measure => simp [RowKit.intOf]; have := HLT.out; omega
    · go_wp2_with fail
      go_ret
      exact ⟨rfl, HB3.out.trans (HB.out.mono HB3.out.size)⟩
end Go.Proofs.Ytakebmbdcjbbgaa
