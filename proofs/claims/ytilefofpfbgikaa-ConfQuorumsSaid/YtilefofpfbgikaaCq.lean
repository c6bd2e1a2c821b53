/- Layer 15: ConfQuorums: the walk. -/
import Derived.Test.YtilefofpfbgikaaCr
import Derived.Test.YtilefofpfbgikaaCqL
namespace Go.Proofs.Ytilefofpfbgikaa
open Go Go.RowKit Go.Maps Go.Lib Mem Pk Cf

def comB (vs one two : List Int) : Bool := one.any fun a => two.any fun b => decide (a = b) && hasB vs a
def overB (vs xs one two : List Int) : Bool := one.any fun a => two.any fun b => decide (a = b) && (hasB vs a && hasB xs a)
theorem com_true {vs one two : List Int} {v : Int} (h : v ∈ vs) (h1 : v ∈ one) (h2 : v ∈ two) : comB vs one two = true := by
  unfold comB
  rw [List.any_eq_true]
  refine ⟨v, h1, ?_⟩
  rw [List.any_eq_true]
  exact ⟨v, h2, by simp [hasB, h]⟩
theorem over_true {vs xs one two : List Int} {v : Int} (h : v ∈ vs) (h' : v ∈ xs) (h1 : v ∈ one) (h2 : v ∈ two) : overB vs xs one two = true := by
  unfold overB
  rw [List.any_eq_true]
  refine ⟨v, h1, ?_⟩
  rw [List.any_eq_true]
  exact ⟨v, h2, by simp [hasB, h, h']⟩
theorem any_take {α : Type} (f : α → Bool) {xs : List α} {k : Nat} (h : k < xs.length) : (xs.take (k + 1)).any f = ((xs.take k).any f || f xs[k]) := by
  rw [List.take_succ_eq_append_getElem h, List.any_append]; simp
def CqOut (vs xs one two : List Int) (w4 : World) (cv ov iv : Value) (wr : World) : Prop :=
  ∃ k : Nat, k ≤ one.length ∧ iv = .int .i64 (k : Int) ∧ cv = .bool (comB vs (one.take k) two) ∧ ov = .bool (overB vs xs (one.take k) two) ∧ Below w4.heap.size w4 wr
def CqIn (vs xs two : List Int) (a : Int) (c0 o0 : Bool) (w4 : World) (cv ov iv : Value) (wr : World) : Prop :=
  ∃ k : Nat, k ≤ two.length ∧ iv = .int .i64 (k : Int) ∧ cv = .bool (c0 || (two.take k).any fun b => decide (a = b) && hasB vs a) ∧ ov = .bool (o0 || (two.take k).any fun b => decide (a = b) && (hasB vs a && hasB xs a)) ∧ Below w4.heap.size w4 wr
set_option maxRecDepth 100000 in
set_option maxHeartbeats 8000000 in
theorem confQuorums_go {w : World} (A : Option Addr) (c : Nat) (vs : List Int) (hA : IntsIn w A c vs) (B : Option Addr) (d : Nat) (ls : List Int) (hB : IntsIn w B d ls) (kind n : Int)
    (C : Option Addr) (cc : Nat) (one : List Int) (h1s : Sl fI w C one) (D : Option Addr) (dd : Nat) (two : List Int) (h2s : Sl fI w D two) :
    Calls Try.prog 7 #[.agg #[.slice A vs.length c, .slice B ls.length d], .int .i64 kind, .int .i64 n, .slice C one.length cc, .slice D two.length dd] w fun e w' => e = .returned (.bool true) ∧ Below w.heap.size w w' := by
  have H : Hid (CI w A vs B ls) := Lib.hid ⟨hA.sl, hB.sl⟩
  have hroom := hA.room
  unfold Room at hroom
  have HSZ : Hid (vs.length ≤ 20000000000000) := by show _ ≤ _; omega
  have hl1 := h1s.len
  have hl2 := h2s.len
  have HC := Lib.hid h1s; clear h1s
  have HD := Lib.hid h2s; clear h2s
  clear hA hB hroom
  obtain ⟨q1, hq1⟩ : ∃ q, q = quorumB vs one := ⟨_, rfl⟩
  have HQ1 := Lib.hid hq1; clear hq1
  obtain ⟨q2, hq2⟩ : ∃ q, q = quorumB vs two := ⟨_, rfl⟩
  have HQ2 := Lib.hid hq2; clear hq2
  go_enter Try.func7, Try.ntmps7
  go_upto_region 1 with fail
  obtain ⟨w1, hw1⟩ : ∃ x, x = w.alloc (.cells #[.slice A vs.length c, .slice B ls.length d] 24) := ⟨_, rfl⟩
  rw [← hw1]
  have hb1 : Below w.heap.size w w1 := by rw [hw1]; exact (Below.refl _ _).alloc (Nat.le_refl _) _
  have hx1 : Blk w1 w.heap.size 24 #[.slice A vs.length c, .slice B ls.length d] := by rw [hw1]; exact Blk.new_ w _ _
  have H1 := Lib.hid (H.out.below hb1)
  have HC1 := Lib.hid (HC.out.below hb1)
  have HD1 := Lib.hid (HD.out.below hb1)
  have HB1 := Lib.hid hb1
  have HX1 := Lib.hid hx1
  clear hw1 hb1 hx1 H HC HD
  go_wp2_with fail
  (with_reducible refine (alive_any _).mono ?_); rintro e wa ⟨rfl, hba⟩
  have Ha := Lib.hid (H1.out.below hba)
  have HCa := Lib.hid (HC1.out.below hba)
  have HDa := Lib.hid (HD1.out.below hba)
  have HBa : Hid (Below w.heap.size w wa) := HB1.out.trans (hba.mono HB1.out.size)
  have HXa := Lib.hid (HX1.out.below hba HX1.out.lt)
  clear hba HX1 HB1 H1 HC1 HD1
  have hdr := below_drew0 wa
  have HQa : Hid (∀ W, Below wa.heap.size wa W → Calls Try.prog 38 #[.agg #[.slice A vs.length c, .slice B ls.length d], .slice C one.length cc] W (RgPost q1 wa)) := Lib.hid fun W hb => by rw [HQ1.out]; exact (Quorum_any (Ha.out.below hb) C cc one (HCa.out.below hb) HSZ.out).mono fun _ _ h => rg_of hb h
  have HRa : Hid (∀ W, Below wa.heap.size wa W → Calls Try.prog 39 #[.agg #[.slice A vs.length c, .slice B ls.length d], .slice C one.length cc] W (RgPost q1 wa)) := Lib.hid fun W hb => by rw [HQ1.out]; exact (RQuorum_any (Ha.out.below hb) C cc one (HCa.out.below hb) HSZ.out).mono fun _ _ h => rg_of hb h
  go_upto_region 3 with fail
  go_cut [27] (fun v wx => v = .bool false ∧ Below wa.heap.size wa wx)
  case first =>
    go_region_held3 (fun W => W.cell? ⟨w.heap.size, 0, none⟩ = some (.slice A vs.length c) ∧ W.cell? ⟨w.heap.size, 1, none⟩ = some (.slice B ls.length d)) (first | exact heldN HXa.out (by assumption) | exact heldN HXa.out (below_drewN (by assumption) _))
      (first | (go_at_call 38; (with_reducible refine (HQa.out _ ?_).mono ?_); (assumption); rintro e wI ⟨rfl, hbI⟩)
             | (go_at_call 39; (with_reducible refine (HRa.out _ ?_).mono ?_); (assumption); rintro e wI ⟨rfl, hbI⟩))
    all_goals (go_wp2_with fail; go_meet; exact ⟨by simp, by assumption⟩)
  case rest =>
    obtain ⟨rfl, hbc⟩ := hcut
    have HBc : Hid (Below w.heap.size w wc) := HBa.out.trans (hbc.mono HBa.out.size)
    have Hc := Lib.hid (Ha.out.below hbc)
    have HCc := Lib.hid (HCa.out.below hbc)
    have HDc := Lib.hid (HDa.out.below hbc)
    have HXc := Lib.hid (HXa.out.below hbc HXa.out.lt)
    clear hbc hdr HXa HBa Ha HCa HDa HQa HRa
    have d0 : wc.cell? ⟨w.heap.size, 0, none⟩ = some (.slice A vs.length c) := HXc.out.cell 0
    have d1 : wc.cell? ⟨w.heap.size, 1, none⟩ = some (.slice B ls.length d) := HXc.out.cell 1
    have HRG := Lib.hid (Right_any (c := c) (d := d) Hc.out)
    go_wp2_with fail
    (with_reducible refine HRG.out.mono ?_); rintro e w2 ⟨rfl, hb2⟩
    have H2 := Lib.hid (Hc.out.below hb2)
    have HC2 := Lib.hid (HCc.out.below hb2)
    have HD2 := Lib.hid (HDc.out.below hb2)
    have HB2 : Hid (Below w.heap.size w w2) := HBc.out.trans (hb2.mono HBc.out.size)
    have HX2 := Lib.hid (HXc.out.below hb2 HXc.out.lt)
    clear hb2 HXc HBc Hc HCc HDc HRG d0 d1
    cases hr : rightB vs ls with
    | false =>
      clear hr
      go_wp2_with fail
      go_ret
      exact ⟨ret_bool rfl, HB2.out⟩
    | true =>
      have HRT := Lib.hid hr; clear hr
      have d0 : w2.cell? ⟨w.heap.size, 0, none⟩ = some (.slice A vs.length c) := HX2.out.cell 0
      have d1 : w2.cell? ⟨w.heap.size, 1, none⟩ = some (.slice B ls.length d) := HX2.out.cell 1
      obtain ⟨res, hres⟩ : ∃ r, r = nextR vs ls kind n := ⟨_, rfl⟩
      have hnx := Next_any (c := c) (d := d) H2.out kind n
      rw [← hres] at hnx
      have HRES := Lib.hid hres; clear hres
      have HNX := Lib.hid hnx; clear hnx
      go_wp2_with fail
      (with_reducible refine HNX.out.mono ?_); rintro e w3 ⟨A3, c3, B3, d3, rfl, ho3, hl3, hb3⟩
      obtain ⟨xs, ys, code⟩ := res
      simp only at ho3 hl3 ⊢
      have HPL1 : Hid (q1 = true → q2 = true → comB vs one two = true) := Lib.hid fun e1 e2 => by
        obtain ⟨v, h1, h2, h3⟩ := quorum_meet (by rw [← HQ1.out]; exact e1) (by rw [← HQ2.out]; exact e2)
        exact com_true h1 h2 h3
      have HPL2 : Hid (code = 0 → q1 = true → quorumB xs two = true → overB vs xs one two = true) := Lib.hid fun e0 e1 e2 => by
        have hc : (nextR vs ls kind n).2.2 = 0 := by rw [← HRES.out]; exact e0
        have hx : xs = (nextR vs ls kind n).1 := by rw [← HRES.out]
        rw [hx] at e2 ⊢
        obtain ⟨v, h1, h2, h3, h4⟩ := quorum_over hc (by rw [← HQ1.out]; exact e1) e2
        exact over_true h1 h2 h3 h4
      have HXL : Hid (code = 0 → xs.length ≤ 20000000000000) := Lib.hid fun e0 => by
        have hc : (nextR vs ls kind n).2.2 = 0 := by rw [← HRES.out]; exact e0
        have h := rise_small (right_rise (next_keeps hc).1).1
        rw [← HRES.out] at h; simp only at h; omega
      go_upto_region 8 with fail
      obtain ⟨w4, hw4⟩ : ∃ x, x = w3.alloc (.cells #[.slice A3 xs.length c3, .slice B3 ys.length d3] 24) := ⟨_, rfl⟩
      rw [← hw4]
      have hb4 : Below w3.heap.size w3 w4 := by rw [hw4]; exact (Below.refl _ _).alloc (Nat.le_refl _) _
      have hx4 : Blk w4 w3.heap.size 24 #[.slice A3 xs.length c3, .slice B3 ys.length d3] := by rw [hw4]; exact Blk.new_ w3 _ _
      have hb24 : Below w2.heap.size w2 w4 := hb3.trans (hb4.mono hb3.size)
      have HJ4 : Hid (CI w4 A3 xs B3 ys) := Lib.hid ((CI.mk ho3.sl.2 hl3.sl.2).below hb4)
      have HY4 := Lib.hid hx4
      have HX4 := Lib.hid (HX2.out.below hb24 HX2.out.lt)
      have H4 := Lib.hid (H2.out.below hb24)
      have HC4 := Lib.hid (HC2.out.below hb24)
      have HD4 := Lib.hid (HD2.out.below hb24)
      have HB4 : Hid (Below w.heap.size w w4) := HB2.out.trans (hb24.mono HB2.out.size)
      clear hw4 hb4 hx4 hb24 ho3 hl3 hb3 d0 d1 HNX HRES H2 HC2 HD2 HX2 HB2
      have HVC : Hid (∀ W a, Below w4.heap.size w4 W → Calls Try.prog 24 #[.agg #[.slice A vs.length c, .slice B ls.length d], .int .i64 a] W (RgPost (hasB vs a) w4)) := Lib.hid fun W a hb => vVt H4.out hb a
      have HVD : Hid (∀ W a, Below w4.heap.size w4 W → Calls Try.prog 24 #[.agg #[.slice A3 xs.length c3, .slice B3 ys.length d3], .int .i64 a] W (RgPost (hasB xs a) w4)) := Lib.hid fun W a hb => vVt HJ4.out hb a
      have HQC : Hid (∀ W, Below w4.heap.size w4 W → Calls Try.prog 38 #[.agg #[.slice A vs.length c, .slice B ls.length d], .slice C one.length cc] W (RgPost q1 w4)) := Lib.hid fun W hb => by rw [HQ1.out]; exact (Quorum_any (H4.out.below hb) C cc one (HC4.out.below hb) HSZ.out).mono fun _ _ h => rg_of hb h
      have HQD : Hid (∀ W, Below w4.heap.size w4 W → Calls Try.prog 38 #[.agg #[.slice A vs.length c, .slice B ls.length d], .slice D two.length dd] W (RgPost q2 w4)) := Lib.hid fun W hb => by rw [HQ2.out]; exact (Quorum_any (H4.out.below hb) D dd two (HD4.out.below hb) HSZ.out).mono fun _ _ h => rg_of hb h
      have HCX : Hid (∀ W, Below w4.heap.size w4 W → W.cell? ⟨w.heap.size, 0, none⟩ = some (.slice A vs.length c) ∧ W.cell? ⟨w.heap.size, 1, none⟩ = some (.slice B ls.length d) ∧ W.cell? ⟨w3.heap.size, 0, none⟩ = some (.slice A3 xs.length c3) ∧ W.cell? ⟨w3.heap.size, 1, none⟩ = some (.slice B3 ys.length d3)) := Lib.hid fun W hb => held8 HX4.out HY4.out hb
      go_wp2_with fail
      go_loopw [13, 14, 40] (fun cv ov iv wr => CqOut vs xs one two w4 cv ov iv wr) (fun _ _ iv _ => one.length - (intOf iv).toNat)
      case atStart => exact ⟨0, Nat.zero_le _, rfl, rfl, rfl, Below.refl _ _⟩
      case round =>
        obtain ⟨k, hk, rfl, rfl, rfl, hbw⟩ := hrel
        have HBW := Lib.hid hbw; clear hbw
        obtain ⟨wo, rfl⟩ : ∃ wo, wo = wr := ⟨_, rfl⟩
        by_cases hlt : k < one.length
        · obtain ⟨b0, o0, hC, _, hcl⟩ := (HC4.out.below HBW.out).at hlt
          have c1 := hcl k hlt
          obtain ⟨a, ha⟩ : ∃ a, a = one[k] := ⟨_, rfl⟩
          rw [← ha] at c1; unfold fI at c1
          have HN1 : Hid (comB vs (one.take (k + 1)) two = (comB vs (one.take k) two || two.any fun b => decide (a = b) && hasB vs a)) := Lib.hid (by unfold comB; rw [any_take _ hlt, ← ha])
          have HN2 : Hid (overB vs xs (one.take (k + 1)) two = (overB vs xs (one.take k) two || two.any fun b => decide (a = b) && (hasB vs a && hasB xs a))) := Lib.hid (by unfold overB; rw [any_take _ hlt, ← ha])
          obtain ⟨cm0, hcm0⟩ : ∃ x, x = comB vs (one.take k) two := ⟨_, rfl⟩
          obtain ⟨ov0, hov0⟩ : ∃ x, x = overB vs xs (one.take k) two := ⟨_, rfl⟩
          rw [← hcm0] at HN1 ⊢
          rw [← hov0] at HN2 ⊢
          subst hC
          have tk0 : (0 : Int) ≤ (k : Int) := by omega
          have tk1 : (k : Int) < (one.length : Int) := by omega
          clear hcl ha hcm0 hov0
          go_wp2_with fail
          clear c1
          go_loopw [13, 14, 46] (fun cv ov iv wr => CqIn vs xs two a cm0 ov0 w4 cv ov iv wr) (fun _ _ iv _ => two.length - (intOf iv).toNat)
          case atStart => exact ⟨0, Nat.zero_le _, rfl, by simp, by simp, HBW.out⟩
          case round =>
            obtain ⟨j, hj, rfl, rfl, rfl, hbw⟩ := hrel
            have HBV := Lib.hid hbw; clear hbw
            by_cases hjl : j < two.length
            · obtain ⟨b1, o1, hD, _, hcl⟩ := (HD4.out.below HBV.out).at hjl
              have c2 := hcl j hjl
              obtain ⟨b, hb⟩ : ∃ b, b = two[j] := ⟨_, rfl⟩
              rw [← hb] at c2; unfold fI at c2
              have hM1 := any_take (fun b => decide (a = b) && hasB vs a) hjl
              have hM2 := any_take (fun b => decide (a = b) && (hasB vs a && hasB xs a)) hjl
              rw [← hb] at hM1 hM2
              obtain ⟨cm, hcm⟩ : ∃ x, x = (cm0 || (two.take j).any fun b => decide (a = b) && hasB vs a) := ⟨_, rfl⟩
              obtain ⟨ov, hov⟩ : ∃ x, x = (ov0 || (two.take j).any fun b => decide (a = b) && (hasB vs a && hasB xs a)) := ⟨_, rfl⟩
              obtain ⟨ra, hra⟩ : ∃ x, x = hasB vs a := ⟨_, rfl⟩
              obtain ⟨rb, hrb⟩ : ∃ x, x = hasB xs a := ⟨_, rfl⟩
              have HM1 : Hid ((cm0 || (two.take (j + 1)).any fun b => decide (a = b) && hasB vs a) = (cm || (decide (a = b) && ra))) := Lib.hid (by rw [hM1, hcm, hra, Bool.or_assoc])
              have HM2 : Hid ((ov0 || (two.take (j + 1)).any fun b => decide (a = b) && (hasB vs a && hasB xs a)) = (ov || (decide (a = b) && (ra && rb)))) := Lib.hid (by rw [hM2, hov, hra, hrb, Bool.or_assoc])
              rw [← hcm, ← hov]
              subst hD
              have tj0 : (0 : Int) ≤ (j : Int) := by omega
              have tj1 : (j : Int) < (two.length : Int) := by omega
              have HV1 : Hid (∀ W, Below w4.heap.size w4 W → Calls Try.prog 24 #[.agg #[.slice A vs.length c, .slice B ls.length d], .int .i64 a] W (RgPost ra w4)) := Lib.hid fun W hb => by rw [hra]; exact HVC.out W a hb
              have HV2 : Hid (∀ W, Below w4.heap.size w4 W → Calls Try.prog 24 #[.agg #[.slice A3 xs.length c3, .slice B3 ys.length d3], .int .i64 a] W (RgPost rb w4)) := Lib.hid fun W hb => by rw [hrb]; exact HVD.out W a hb
              obtain ⟨g0, g1, g2, g3⟩ := HCX.out _ HBV.out
              have hbV := HBV.out
              clear hcl hb hM1 hM2 hcm hov hra hrb
              by_cases hab : a = b
              · have tab : (a == b) = true := by rw [beq_iff_eq]; exact hab
                have HAB := Lib.hid hab; clear hab
                cases cm with
                | true =>
                  cases ov with
                  | true =>
                    go_wp2_with (first | (go_at_call 24; (with_reducible refine (HV1.out _ ?_).mono ?_); (assumption); rintro e wI ⟨rfl, hbI⟩; obtain ⟨g0, g1, g2, g3⟩ := HCX.out _ hbI) | (go_at_call 24; (with_reducible refine (HV2.out _ ?_).mono ?_); (assumption); rintro e wI ⟨rfl, hbI⟩; obtain ⟨g0, g1, g2, g3⟩ := HCX.out _ hbI))
                    go_roundw
                    case rel => exact ⟨j + 1, by omega, by go_num, by rw [HM1.out]; simp [HAB.out], by rw [HM2.out]; simp [HAB.out], by first | exact HBV.out | assumption⟩
                    case measure => simp [intOf]; omega
                  | false =>
                    cases ra with
                    | true =>
                      go_wp2_with (first | (go_at_call 24; (with_reducible refine (HV1.out _ ?_).mono ?_); (assumption); rintro e wI ⟨rfl, hbI⟩; obtain ⟨g0, g1, g2, g3⟩ := HCX.out _ hbI) | (go_at_call 24; (with_reducible refine (HV2.out _ ?_).mono ?_); (assumption); rintro e wI ⟨rfl, hbI⟩; obtain ⟨g0, g1, g2, g3⟩ := HCX.out _ hbI))
                      go_roundw
                      case rel => exact ⟨j + 1, by omega, by go_num, by rw [HM1.out]; simp [HAB.out], by rw [HM2.out]; simp [HAB.out], by first | exact HBV.out | assumption⟩
                      case measure => simp [intOf]; omega
                    | false =>
                      go_wp2_with (first | (go_at_call 24; (with_reducible refine (HV1.out _ ?_).mono ?_); (assumption); rintro e wI ⟨rfl, hbI⟩; obtain ⟨g0, g1, g2, g3⟩ := HCX.out _ hbI) | (go_at_call 24; (with_reducible refine (HV2.out _ ?_).mono ?_); (assumption); rintro e wI ⟨rfl, hbI⟩; obtain ⟨g0, g1, g2, g3⟩ := HCX.out _ hbI))
                      go_roundw
                      case rel => exact ⟨j + 1, by omega, by go_num, by rw [HM1.out]; simp [HAB.out], by rw [HM2.out]; simp [HAB.out], by first | exact HBV.out | assumption⟩
                      case measure => simp [intOf]; omega
                | false =>
                  cases ov with
                  | true =>
                    go_wp2_with (first | (go_at_call 24; (with_reducible refine (HV1.out _ ?_).mono ?_); (assumption); rintro e wI ⟨rfl, hbI⟩; obtain ⟨g0, g1, g2, g3⟩ := HCX.out _ hbI) | (go_at_call 24; (with_reducible refine (HV2.out _ ?_).mono ?_); (assumption); rintro e wI ⟨rfl, hbI⟩; obtain ⟨g0, g1, g2, g3⟩ := HCX.out _ hbI))
                    go_roundw
                    case rel => exact ⟨j + 1, by omega, by go_num, by rw [HM1.out]; simp [HAB.out], by rw [HM2.out]; simp [HAB.out], by first | exact HBV.out | assumption⟩
                    case measure => simp [intOf]; omega
                  | false =>
                    cases ra with
                    | true =>
                      go_wp2_with (first | (go_at_call 24; (with_reducible refine (HV1.out _ ?_).mono ?_); (assumption); rintro e wI ⟨rfl, hbI⟩; obtain ⟨g0, g1, g2, g3⟩ := HCX.out _ hbI) | (go_at_call 24; (with_reducible refine (HV2.out _ ?_).mono ?_); (assumption); rintro e wI ⟨rfl, hbI⟩; obtain ⟨g0, g1, g2, g3⟩ := HCX.out _ hbI))
                      go_roundw
                      case rel => exact ⟨j + 1, by omega, by go_num, by rw [HM1.out]; simp [HAB.out], by rw [HM2.out]; simp [HAB.out], by first | exact HBV.out | assumption⟩
                      case measure => simp [intOf]; omega
                    | false =>
                      go_wp2_with (first | (go_at_call 24; (with_reducible refine (HV1.out _ ?_).mono ?_); (assumption); rintro e wI ⟨rfl, hbI⟩; obtain ⟨g0, g1, g2, g3⟩ := HCX.out _ hbI) | (go_at_call 24; (with_reducible refine (HV2.out _ ?_).mono ?_); (assumption); rintro e wI ⟨rfl, hbI⟩; obtain ⟨g0, g1, g2, g3⟩ := HCX.out _ hbI))
                      go_roundw
                      case rel => exact ⟨j + 1, by omega, by go_num, by rw [HM1.out]; simp [HAB.out], by rw [HM2.out]; simp [HAB.out], by first | exact HBV.out | assumption⟩
                      case measure => simp [intOf]; omega
              · have tab : (a == b) = false := by rw [beq_eq_false_iff_ne]; exact hab
                have HAB := Lib.hid hab; clear hab
                cases cm with
                | true =>
                  cases ov with
                  | true =>
                    go_wp2_with (first | (go_at_call 24; (with_reducible refine (HV1.out _ ?_).mono ?_); (assumption); rintro e wI ⟨rfl, hbI⟩; obtain ⟨g0, g1, g2, g3⟩ := HCX.out _ hbI) | (go_at_call 24; (with_reducible refine (HV2.out _ ?_).mono ?_); (assumption); rintro e wI ⟨rfl, hbI⟩; obtain ⟨g0, g1, g2, g3⟩ := HCX.out _ hbI))
                    go_roundw
                    case rel => exact ⟨j + 1, by omega, by go_num, by rw [HM1.out]; simp [HAB.out], by rw [HM2.out]; simp [HAB.out], by first | exact HBV.out | assumption⟩
                    case measure => simp [intOf]; omega
                  | false =>
                    go_wp2_with (first | (go_at_call 24; (with_reducible refine (HV1.out _ ?_).mono ?_); (assumption); rintro e wI ⟨rfl, hbI⟩; obtain ⟨g0, g1, g2, g3⟩ := HCX.out _ hbI) | (go_at_call 24; (with_reducible refine (HV2.out _ ?_).mono ?_); (assumption); rintro e wI ⟨rfl, hbI⟩; obtain ⟨g0, g1, g2, g3⟩ := HCX.out _ hbI))
                    go_roundw
                    case rel => exact ⟨j + 1, by omega, by go_num, by rw [HM1.out]; simp [HAB.out], by rw [HM2.out]; simp [HAB.out], by first | exact HBV.out | assumption⟩
                    case measure => simp [intOf]; omega
                | false =>
                  cases ov with
                  | true =>
                    go_wp2_with (first | (go_at_call 24; (with_reducible refine (HV1.out _ ?_).mono ?_); (assumption); rintro e wI ⟨rfl, hbI⟩; obtain ⟨g0, g1, g2, g3⟩ := HCX.out _ hbI) | (go_at_call 24; (with_reducible refine (HV2.out _ ?_).mono ?_); (assumption); rintro e wI ⟨rfl, hbI⟩; obtain ⟨g0, g1, g2, g3⟩ := HCX.out _ hbI))
                    go_roundw
                    case rel => exact ⟨j + 1, by omega, by go_num, by rw [HM1.out]; simp [HAB.out], by rw [HM2.out]; simp [HAB.out], by first | exact HBV.out | assumption⟩
                    case measure => simp [intOf]; omega
                  | false =>
                    go_wp2_with (first | (go_at_call 24; (with_reducible refine (HV1.out _ ?_).mono ?_); (assumption); rintro e wI ⟨rfl, hbI⟩; obtain ⟨g0, g1, g2, g3⟩ := HCX.out _ hbI) | (go_at_call 24; (with_reducible refine (HV2.out _ ?_).mono ?_); (assumption); rintro e wI ⟨rfl, hbI⟩; obtain ⟨g0, g1, g2, g3⟩ := HCX.out _ hbI))
                    go_roundw
                    case rel => exact ⟨j + 1, by omega, by go_num, by rw [HM1.out]; simp [HAB.out], by rw [HM2.out]; simp [HAB.out], by first | exact HBV.out | assumption⟩
                    case measure => simp [intOf]; omega
            · have hje : j = two.length := by omega
              subst hje
              have tj1 : ¬ (two.length : Int) < (two.length : Int) := by omega
              go_wp2_with fail
              go_roundw
              case rel => exact ⟨k + 1, by omega, by go_num, by rw [HN1.out, List.take_length], by rw [HN2.out, List.take_length], HBV.out⟩
              case measure => simp [intOf]; omega
        · have hke : k = one.length := by omega
          subst hke
          rw [List.take_length]
          obtain ⟨cm, hcm⟩ : ∃ x, x = comB vs one two := ⟨_, rfl⟩
          obtain ⟨ov, hov⟩ : ∃ x, x = overB vs xs one two := ⟨_, rfl⟩
          have HP1 : Hid (q1 = true → q2 = true → cm = true) := Lib.hid (by rw [hcm]; exact HPL1.out)
          have HP2 : Hid (code = 0 → q1 = true → quorumB xs two = true → ov = true) := Lib.hid (by rw [hov]; exact HPL2.out)
          rw [← hcm, ← hov]
          obtain ⟨g0, g1, g2, g3⟩ := HCX.out _ HBW.out
          have hbW := HBW.out
          have HFIN : Hid (∀ W, Below w4.heap.size w4 W → Below w.heap.size w W) := Lib.hid fun W hb => HB4.out.trans (hb.mono HB4.out.size)
          have tk1 : ¬ (one.length : Int) < (one.length : Int) := by omega
          obtain ⟨q3, hq3⟩ : ∃ q, q = quorumB xs two := ⟨_, rfl⟩
          rw [← hq3] at HP2
          have HQX : Hid (code = 0 → ∀ W, Below w4.heap.size w4 W → Calls Try.prog 38 #[.agg #[.slice A3 xs.length c3, .slice B3 ys.length d3], .slice D two.length dd] W (RgPost q3 w4)) := Lib.hid fun e0 W hb => by rw [hq3]; exact (Quorum_any (HJ4.out.below hb) D dd two (HD4.out.below hb) (HXL.out e0)).mono fun _ _ h => rg_of hb h
          clear hcm hov hq3 HQ1 HQ2 HPL1 HPL2 HXL
          cases q1 with
          | false =>
            by_cases hcode : code = 0
            · subst hcode
              go_wp2_with (first | (go_at_call 38; (with_reducible refine (HQC.out _ ?_).mono ?_); (assumption); rintro e wI ⟨rfl, hbI⟩; obtain ⟨g0, g1, g2, g3⟩ := HCX.out _ hbI) | (go_at_call 38; (with_reducible refine (HQD.out _ ?_).mono ?_); (assumption); rintro e wI ⟨rfl, hbI⟩; obtain ⟨g0, g1, g2, g3⟩ := HCX.out _ hbI))
              go_ret
              exact ⟨ret_bool (by simp), HFIN.out _ (by assumption)⟩
            · have tc : (code == 0) = false := by rw [beq_eq_false_iff_ne]; exact hcode
              go_wp2_with (first | (go_at_call 38; (with_reducible refine (HQC.out _ ?_).mono ?_); (assumption); rintro e wI ⟨rfl, hbI⟩; obtain ⟨g0, g1, g2, g3⟩ := HCX.out _ hbI) | (go_at_call 38; (with_reducible refine (HQD.out _ ?_).mono ?_); (assumption); rintro e wI ⟨rfl, hbI⟩; obtain ⟨g0, g1, g2, g3⟩ := HCX.out _ hbI))
              go_ret
              exact ⟨ret_bool (by simp), HFIN.out _ (by assumption)⟩
          | true =>
            cases q2 with
            | false =>
              by_cases hcode : code = 0
              · subst hcode
                have HQY := Lib.hid (HQX.out rfl)
                cases q3 with
                | false =>
                  go_wp2_with (first | (go_at_call 38; (with_reducible refine (HQC.out _ ?_).mono ?_); (assumption); rintro e wI ⟨rfl, hbI⟩; obtain ⟨g0, g1, g2, g3⟩ := HCX.out _ hbI) | (go_at_call 38; (with_reducible refine (HQD.out _ ?_).mono ?_); (assumption); rintro e wI ⟨rfl, hbI⟩; obtain ⟨g0, g1, g2, g3⟩ := HCX.out _ hbI) | (go_at_call 38; (with_reducible refine (HQY.out _ ?_).mono ?_); (assumption); rintro e wI ⟨rfl, hbI⟩; obtain ⟨g0, g1, g2, g3⟩ := HCX.out _ hbI))
                  go_ret
                  exact ⟨ret_bool (by simp), HFIN.out _ (by assumption)⟩
                | true =>
                  obtain rfl : ov = true := HP2.out rfl rfl rfl
                  go_wp2_with (first | (go_at_call 38; (with_reducible refine (HQC.out _ ?_).mono ?_); (assumption); rintro e wI ⟨rfl, hbI⟩; obtain ⟨g0, g1, g2, g3⟩ := HCX.out _ hbI) | (go_at_call 38; (with_reducible refine (HQD.out _ ?_).mono ?_); (assumption); rintro e wI ⟨rfl, hbI⟩; obtain ⟨g0, g1, g2, g3⟩ := HCX.out _ hbI) | (go_at_call 38; (with_reducible refine (HQY.out _ ?_).mono ?_); (assumption); rintro e wI ⟨rfl, hbI⟩; obtain ⟨g0, g1, g2, g3⟩ := HCX.out _ hbI))
                  go_ret
                  exact ⟨ret_bool (by simp), HFIN.out _ (by assumption)⟩
              · have tc : (code == 0) = false := by rw [beq_eq_false_iff_ne]; exact hcode
                go_wp2_with (first | (go_at_call 38; (with_reducible refine (HQC.out _ ?_).mono ?_); (assumption); rintro e wI ⟨rfl, hbI⟩; obtain ⟨g0, g1, g2, g3⟩ := HCX.out _ hbI) | (go_at_call 38; (with_reducible refine (HQD.out _ ?_).mono ?_); (assumption); rintro e wI ⟨rfl, hbI⟩; obtain ⟨g0, g1, g2, g3⟩ := HCX.out _ hbI))
                go_ret
                exact ⟨ret_bool (by simp), HFIN.out _ (by assumption)⟩
            | true =>
              obtain rfl : cm = true := HP1.out rfl rfl
              by_cases hcode : code = 0
              · subst hcode
                have HQY := Lib.hid (HQX.out rfl)
                cases q3 with
                | false =>
                  go_wp2_with (first | (go_at_call 38; (with_reducible refine (HQC.out _ ?_).mono ?_); (assumption); rintro e wI ⟨rfl, hbI⟩; obtain ⟨g0, g1, g2, g3⟩ := HCX.out _ hbI) | (go_at_call 38; (with_reducible refine (HQD.out _ ?_).mono ?_); (assumption); rintro e wI ⟨rfl, hbI⟩; obtain ⟨g0, g1, g2, g3⟩ := HCX.out _ hbI) | (go_at_call 38; (with_reducible refine (HQY.out _ ?_).mono ?_); (assumption); rintro e wI ⟨rfl, hbI⟩; obtain ⟨g0, g1, g2, g3⟩ := HCX.out _ hbI))
                  go_ret
                  exact ⟨ret_bool (by simp), HFIN.out _ (by assumption)⟩
                | true =>
                  obtain rfl : ov = true := HP2.out rfl rfl rfl
                  go_wp2_with (first | (go_at_call 38; (with_reducible refine (HQC.out _ ?_).mono ?_); (assumption); rintro e wI ⟨rfl, hbI⟩; obtain ⟨g0, g1, g2, g3⟩ := HCX.out _ hbI) | (go_at_call 38; (with_reducible refine (HQD.out _ ?_).mono ?_); (assumption); rintro e wI ⟨rfl, hbI⟩; obtain ⟨g0, g1, g2, g3⟩ := HCX.out _ hbI) | (go_at_call 38; (with_reducible refine (HQY.out _ ?_).mono ?_); (assumption); rintro e wI ⟨rfl, hbI⟩; obtain ⟨g0, g1, g2, g3⟩ := HCX.out _ hbI))
                  go_ret
                  exact ⟨ret_bool (by simp), HFIN.out _ (by assumption)⟩
              · have tc : (code == 0) = false := by rw [beq_eq_false_iff_ne]; exact hcode
                go_wp2_with (first | (go_at_call 38; (with_reducible refine (HQC.out _ ?_).mono ?_); (assumption); rintro e wI ⟨rfl, hbI⟩; obtain ⟨g0, g1, g2, g3⟩ := HCX.out _ hbI) | (go_at_call 38; (with_reducible refine (HQD.out _ ?_).mono ?_); (assumption); rintro e wI ⟨rfl, hbI⟩; obtain ⟨g0, g1, g2, g3⟩ := HCX.out _ hbI))
                go_ret
                exact ⟨ret_bool (by simp), HFIN.out _ (by assumption)⟩
theorem confQuorums_walk {w : World} (A : Option Addr) (c : Nat) (vs : List Int) (hA : IntsIn w A c vs) (B : Option Addr) (d : Nat) (ls : List Int) (hB : IntsIn w B d ls) (kind : Int) (_ : (Lit.int .i64 kind).wf = true) (n : Int) (_ : (Lit.int .i64 n).wf = true)
    (C : Option Addr) (cc : Nat) (one : List Int) (_ : one.length ≤ cc) (_ : cc ≤ maxLen) (h1s : Sl fI w C one) (_ : ∀ x ∈ one, (Lit.int .i64 x).wf = true) (_ : Room 8 one.length) (D : Option Addr) (dd : Nat) (two : List Int) (_ : two.length ≤ dd) (_ : dd ≤ maxLen) (h2s : Sl fI w D two) (_ : ∀ x ∈ two, (Lit.int .i64 x).wf = true) (_ : Room 8 two.length) :
    Calls Try.prog 7 #[.agg #[.slice A vs.length c, .slice B ls.length d], .int .i64 kind, .int .i64 n, .slice C one.length cc, .slice D two.length dd] w fun e w' => e = .returned (.bool true) ∧ Below w.heap.size w w' :=
  confQuorums_go A c vs hA B d ls hB kind n C cc one h1s D dd two h2s
end Go.Proofs.Ytilefofpfbgikaa
