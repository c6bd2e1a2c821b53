/- Layer 15: ConfChanges: the walk. -/
import Derived.Test.YtilefofpfbgikaaCr
import Derived.Test.YtilefofpfbgikaaCqL
namespace Go.Proofs.Ytilefofpfbgikaa
open Go Go.RowKit Go.Maps Go.Lib Mem Pk Cf

/-- ints that do not lie in block r -/
def SlN (r : Nat) (w : World) (A : Option Addr) (xs : List Int) : Prop := Sl fI w A xs ∧ (0 < xs.length → ∀ a, A = some a → a.block ≠ r)
theorem SlN.below {r : Nat} {w w' : World} {A : Option Addr} {xs : List Int} (h : SlN r w A xs) (hb : Below w.heap.size w w') : SlN r w' A xs := ⟨h.1.below hb, h.2⟩
theorem SlN.frm {r : Nat} {w w' : World} {A : Option Addr} {xs : List Int} (h : SlN r w A xs) (hf : Frm (fun g => g = r) w w') : SlN r w' A xs := by
  refine ⟨⟨h.1.1, fun hn => ?_⟩, h.2⟩
  obtain ⟨b, o, rfl, hb, hc⟩ := h.1.at hn
  have hne : b ≠ r := h.2 hn _ rfl
  refine ⟨b, o, rfl, fun j hj => ?_⟩
  rw [World.cell?_of_block (w := w) (hf.block b hb hne)]
  exact hc j hj
theorem SlN.arg {w : World} {A : Option Addr} {xs : List Int} (h : Sl fI w A xs) : SlN w.heap.size w A xs := ⟨h, fun hn a ha => by
  obtain ⟨b, o, e, hb, hc⟩ := h.at hn
  rw [ha] at e; injection e with e; subst e
  exact Nat.ne_of_lt hb⟩
theorem SlN.own {r base : Nat} {w : World} {A : Option Addr} {n c : Nat} {xs : List Int} (h : Own fI base 3 w (.slice A n c) xs) (hr : r < base) : SlN r w A xs := ⟨h.sl.2, fun hn a ha => by
  have hl := h.sl.1
  obtain ⟨g, e, hg⟩ := h.addr (by omega)
  rw [ha] at e; injection e with e; subst e
  show g ≠ r
  omega⟩
def CcRel (m : Nat) (w : World) (iv : Value) (wr : World) : Prop :=
  ∃ (k : Nat) (vs ls : List Int) (A : Option Addr) (c : Nat) (B : Option Addr) (d : Nat), k ≤ m ∧ iv = .int .i64 (k : Int) ∧ Blk wr w.heap.size 24 #[.slice A vs.length c, .slice B ls.length d] ∧ SlN w.heap.size wr A vs ∧ SlN w.heap.size wr B ls ∧ rightB vs ls = true ∧ Below w.heap.size w wr
def CcIn (w5 : World) (iv : Value) (wr : World) : Prop := ∃ m : Nat, 1 ≤ m ∧ m ≤ 8 ∧ iv = .int .i64 (m : Int) ∧ Below w5.heap.size w5 wr
set_option maxRecDepth 100000 in
set_option maxHeartbeats 8000000 in
theorem confChanges_go {w : World} (A : Option Addr) (c : Nat) (vs : List Int) (hA : IntsIn w A c vs) (B : Option Addr) (d : Nat) (ls : List Int) (hB : IntsIn w B d ls)
    (C : Option Addr) (cc : Nat) (ks : List Int) (h1s : Sl fI w C ks) (D : Option Addr) (dd : Nat) (ns : List Int) (h2s : Sl fI w D ns) :
    Calls Try.prog 8 #[.agg #[.slice A vs.length c, .slice B ls.length d], .slice C ks.length cc, .slice D ns.length dd] w fun e w' => e = .returned (.bool true) ∧ Below w.heap.size w w' := by
  have HSA : Hid (SlN w.heap.size w A vs ∧ SlN w.heap.size w B ls) := Lib.hid ⟨SlN.arg hA.sl, SlN.arg hB.sl⟩
  clear hA hB
  have hl1 := h1s.len
  have hl2 := h2s.len
  have HC := Lib.hid h1s; clear h1s
  have HD := Lib.hid h2s; clear h2s
  go_enter Try.func8, Try.ntmps8
  go_upto_region 1 with fail
  obtain ⟨w1, hw1⟩ : ∃ x, x = w.alloc (.cells #[.slice A vs.length c, .slice B ls.length d] 24) := ⟨_, rfl⟩
  rw [← hw1]
  have hb1 : Below w.heap.size w w1 := by rw [hw1]; exact (Below.refl _ _).alloc (Nat.le_refl _) _
  have hx1 : Blk w1 w.heap.size 24 #[.slice A vs.length c, .slice B ls.length d] := by rw [hw1]; exact Blk.new_ w _ _
  have HS1 : Hid (SlN w.heap.size w1 A vs ∧ SlN w.heap.size w1 B ls) := Lib.hid ⟨HSA.out.1.below hb1, HSA.out.2.below hb1⟩
  have HB1 := Lib.hid hb1
  have HX1 := Lib.hid hx1
  clear hw1 hb1 hx1 HSA
  go_wp2_with fail
  (with_reducible refine (alive_any _).mono ?_); rintro e wa ⟨rfl, hba⟩
  have HSa : Hid (SlN w.heap.size wa A vs ∧ SlN w.heap.size wa B ls) := Lib.hid ⟨HS1.out.1.below hba, HS1.out.2.below hba⟩
  have HBa : Hid (Below w.heap.size w wa) := HB1.out.trans (hba.mono HB1.out.size)
  have HXa := Lib.hid (HX1.out.below hba HX1.out.lt)
  clear hba HX1 HB1 HS1
  have d0 : wa.cell? ⟨w.heap.size, 0, none⟩ = some (.slice A vs.length c) := HXa.out.cell 0
  have d1 : wa.cell? ⟨w.heap.size, 1, none⟩ = some (.slice B ls.length d) := HXa.out.cell 1
  have HRG := Lib.hid (Right_any (c := c) (d := d) (CI.mk HSa.out.1.1 HSa.out.2.1))
  go_wp2_with fail
  (with_reducible refine HRG.out.mono ?_); rintro e w2 ⟨rfl, hb2⟩
  have HS2 : Hid (SlN w.heap.size w2 A vs ∧ SlN w.heap.size w2 B ls) := Lib.hid ⟨HSa.out.1.below hb2, HSa.out.2.below hb2⟩
  have HB2 : Hid (Below w.heap.size w w2) := HBa.out.trans (hb2.mono HBa.out.size)
  have HX2 := Lib.hid (HXa.out.below hb2 HXa.out.lt)
  clear hb2 HXa HBa HSa HRG d0 d1
  cases hr : rightB vs ls with
  | false =>
    clear hr
    go_wp2_with fail
    go_ret
    exact ⟨ret_bool rfl, HB2.out⟩
  | true =>
    have HRT := Lib.hid hr; clear hr
    go_wp2_with fail
    go_loopw [20] (fun iv wr => CcRel ks.length w iv wr) (fun iv _ => ks.length - (intOf iv).toNat)
    case atStart => exact ⟨0, vs, ls, A, c, B, d, Nat.zero_le _, rfl, HX2.out, HS2.out.1, HS2.out.2, HRT.out, HB2.out⟩
    case round =>
      obtain ⟨k, vs', ls', A', c', B', d', hk, rfl, hblk, hsv, hsl, hrt, hbw⟩ := hrel
      have HSV : Hid (SlN w.heap.size wr A' vs' ∧ SlN w.heap.size wr B' ls') := Lib.hid ⟨hsv, hsl⟩
      have HBLK := Lib.hid hblk
      have HRT' := Lib.hid hrt
      have HBW := Lib.hid hbw
      clear hblk hsv hsl hrt hbw HS2 HX2 HB2 HRT
      obtain ⟨wo, rfl⟩ : ∃ wo, wo = wr := ⟨_, rfl⟩
      by_cases hlt : k < ks.length
      · obtain ⟨b0, o0, hC, _, hcl⟩ := (HC.out.below HBW.out).at hlt
        have c1 := hcl k hlt
        obtain ⟨kd, hkd⟩ : ∃ a, a = ks[k] := ⟨_, rfl⟩
        rw [← hkd] at c1; unfold fI at c1
        have tk0 : (0 : Int) ≤ (k : Int) := by omega
        have tk1 : (k : Int) < (ks.length : Int) := by omega
        subst hC
        clear hcl hkd
        by_cases hnl : k < ns.length
        · obtain ⟨b1, o1, hD, _, hcl⟩ := (HD.out.below HBW.out).at hnl
          have c2 := hcl k hnl
          obtain ⟨n, hn⟩ : ∃ a, a = ns[k] := ⟨_, rfl⟩
          rw [← hn] at c2; unfold fI at c2
          have tn1 : ¬ (ns.length : Int) ≤ (k : Int) := by omega
          have tn2 : (k : Int) < (ns.length : Int) := by omega
          subst hD
          clear hcl hn
          obtain ⟨res, hres⟩ : ∃ r, r = nextR vs' ls' kd n := ⟨_, rfl⟩
          have hnx := Next_any (c := c') (d := d') (CI.mk HSV.out.1.1 HSV.out.2.1) kd n
          rw [← hres] at hnx
          have HRES := Lib.hid hres; clear hres
          have HNX := Lib.hid hnx; clear hnx
          have d0 : wo.cell? ⟨w.heap.size, 0, none⟩ = some (.slice A' vs'.length c') := HBLK.out.cell 0
          have d1 : wo.cell? ⟨w.heap.size, 1, none⟩ = some (.slice B' ls'.length d') := HBLK.out.cell 1
          go_wp2_with fail
          (with_reducible refine HNX.out.mono ?_); rintro e w3 ⟨A3, c3, B3, d3, rfl, ho3, hl3, hb3⟩
          obtain ⟨xs, ys, code⟩ := res
          simp only at ho3 hl3 ⊢
          go_upto_region 11 with fail
          obtain ⟨w4, hw4⟩ : ∃ x, x = w3.alloc (.cells #[.slice A3 xs.length c3, .slice B3 ys.length d3] 24) := ⟨_, rfl⟩
          rw [← hw4]
          have hb4 : Below w3.heap.size w3 w4 := by rw [hw4]; exact (Below.refl _ _).alloc (Nat.le_refl _) _
          have hx4 : Blk w4 w3.heap.size 24 #[.slice A3 xs.length c3, .slice B3 ys.length d3] := by rw [hw4]; exact Blk.new_ w3 _ _
          have hb24 : Below wo.heap.size wo w4 := hb3.trans (hb4.mono hb3.size)
          have hwl := HBLK.out.lt
          have HJ4 : Hid (SlN w.heap.size w4 A3 xs ∧ SlN w.heap.size w4 B3 ys) := Lib.hid ⟨(SlN.own ho3 hwl).below hb4, (SlN.own hl3 hwl).below hb4⟩
          have HY4 := Lib.hid hx4
          have HX4 := Lib.hid (HBLK.out.below hb24 hwl)
          have HS4 : Hid (SlN w.heap.size w4 A' vs' ∧ SlN w.heap.size w4 B' ls') := Lib.hid ⟨HSV.out.1.below hb24, HSV.out.2.below hb24⟩
          have HB4 : Hid (Below w.heap.size w w4) := HBW.out.trans (hb24.mono HBW.out.size)
          clear hw4 hb4 hx4 hb24 hwl ho3 hl3 hb3 d0 d1 HNX HSV HBLK HBW c1 c2
          by_cases hcode : code = 0
          · subst hcode
            have hcd : (nextR vs' ls' kd n).2.2 = 0 := by rw [← HRES.out]
            have hkp := next_keeps hcd
            have hnv := next_voters hcd
            rw [← HRES.out] at hkp
            simp only at hkp
            have HKP := Lib.hid hkp
            have HKD : Hid (kd = 1 ∨ kd = 2 ∨ kd = 3) := Lib.hid (by rcases hnv.2.2.2 with h | h | h; exact .inl h.1; exact .inr (.inl h.1); exact .inr (.inr h.1))
            clear hcd hkp hnv HRES
            have HVD : Hid (∀ W a, Below w4.heap.size w4 W → Calls Try.prog 24 #[.agg #[.slice A3 xs.length c3, .slice B3 ys.length d3], .int .i64 a] W (RgPost (hasB xs a) w4)) := Lib.hid fun W a hb => vVt (CI.mk HJ4.out.1.1 HJ4.out.2.1) hb a
            have HMD : Hid (∀ W a, Below w4.heap.size w4 W → Calls Try.prog 26 #[.agg #[.slice A3 xs.length c3, .slice B3 ys.length d3], .int .i64 a] W (RgPost (hasB xs a || hasB ys a) w4)) := Lib.hid fun W a hb => vMb (CI.mk HJ4.out.1.1 HJ4.out.2.1) hb a
            have HVC : Hid (∀ W a, Below w4.heap.size w4 W → Calls Try.prog 24 #[.agg #[.slice A' vs'.length c', .slice B' ls'.length d'], .int .i64 a] W (RgPost (hasB vs' a) w4)) := Lib.hid fun W a hb => vVt (CI.mk HS4.out.1.1 HS4.out.2.1) hb a
            have HMC : Hid (∀ W a, Below w4.heap.size w4 W → Calls Try.prog 26 #[.agg #[.slice A' vs'.length c', .slice B' ls'.length d'], .int .i64 a] W (RgPost (hasB vs' a || hasB ls' a) w4)) := Lib.hid fun W a hb => vMb (CI.mk HS4.out.1.1 HS4.out.2.1) hb a
            have HRD : Hid (∀ W, Below w4.heap.size w4 W → Calls Try.prog 23 #[.agg #[.slice A3 xs.length c3, .slice B3 ys.length d3]] W (RgPost true w4)) := Lib.hid fun W hb => by have h := vRg (c := c3) (d := d3) (CI.mk HJ4.out.1.1 HJ4.out.2.1) hb; rw [HKP.out.1] at h; exact h
            have HCX : Hid (∀ W, Below w4.heap.size w4 W → W.cell? ⟨w.heap.size, 0, none⟩ = some (.slice A' vs'.length c') ∧ W.cell? ⟨w.heap.size, 1, none⟩ = some (.slice B' ls'.length d') ∧ W.cell? ⟨w3.heap.size, 0, none⟩ = some (.slice A3 xs.length c3) ∧ W.cell? ⟨w3.heap.size, 1, none⟩ = some (.slice B3 ys.length d3)) := Lib.hid fun W hb => held8 HX4.out HY4.out hb
            have hb44 : Below w4.heap.size w4 w4 := Below.refl _ _
            go_upto_region 12 with fail
            go_cut [60] (fun v wx => v = .bool false ∧ Below w4.heap.size w4 wx)
            case first =>
              obtain ⟨g0, g1, g2, g3⟩ := HCX.out _ hb44
              have hk2 := HKP.out.2.1
              have hk3 := HKP.out.2.2.1
              have HV1 : Hid (∀ W, Below w4.heap.size w4 W → Calls Try.prog 24 #[.agg #[.slice A3 xs.length c3, .slice B3 ys.length d3], .int .i64 n] W (RgPost (decide (kd = 2)) w4)) := Lib.hid fun W hb => by rw [← hk3]; exact HVD.out W n hb
              have HM1 : Hid (∀ W, Below w4.heap.size w4 W → Calls Try.prog 26 #[.agg #[.slice A3 xs.length c3, .slice B3 ys.length d3], .int .i64 n] W (RgPost (decide (kd ≠ 3)) w4)) := Lib.hid fun W hb => by rw [← hk2]; exact HMD.out W n hb
              clear hk2 hk3
              rcases HKD.out with rfl | rfl | rfl
              all_goals (
                go_wp2_with (first | (go_at_call 23; (with_reducible refine (HRD.out _ ?_).mono ?_); (assumption); rintro e wI ⟨rfl, hbI⟩; obtain ⟨g0, g1, g2, g3⟩ := HCX.out _ hbI) | (go_at_call 26; (with_reducible refine (HM1.out _ ?_).mono ?_); (assumption); rintro e wI ⟨rfl, hbI⟩; obtain ⟨g0, g1, g2, g3⟩ := HCX.out _ hbI) | (go_at_call 24; (with_reducible refine (HV1.out _ ?_).mono ?_); (assumption); rintro e wI ⟨rfl, hbI⟩; obtain ⟨g0, g1, g2, g3⟩ := HCX.out _ hbI))
                go_meet
                exact ⟨by simp, by assumption⟩)
            case rest =>
              obtain ⟨rfl, hbc⟩ := hcut
              have HBc := Lib.hid hbc; clear hbc hb44
              go_wp2_with fail
              go_loopw [12] (fun iv wr => CcIn w4 iv wr) (fun iv _ => 8 - (intOf iv).toNat)
              case atStart => exact ⟨1, by omega, by omega, rfl, HBc.out⟩
              case round =>
                obtain ⟨m, hm1, hm8, rfl, hbw⟩ := hrel
                have HBV := Lib.hid hbw; clear hbw
                obtain ⟨wq, rfl⟩ : ∃ wq, wq = wr := ⟨_, rfl⟩
                by_cases hm7 : m ≤ 7
                · have tm : (m : Int) ≤ 7 := by omega
                  go_upto_region 17 with fail
                  go_cut [85] (fun v wx => v = .bool false ∧ Below w4.heap.size w4 wx)
                  case first =>
                    by_cases hmn : (m : Int) = n
                    · have tmn : ((m : Int) == n) = true := by rw [beq_iff_eq]; exact hmn
                      have tmn2 : ((m : Int) != n) = false := by rw [bne, tmn]; rfl
                      have tmn3 : decide ((m : Int) = n) = true := by rw [decide_eq_true_iff]; exact hmn
                      clear hmn
                      go_quiet (fail)
                      go_wp2_with fail
                      go_meet
                      exact ⟨by simp, below_drewN HBV.out _⟩
                    · have tmn : ((m : Int) == n) = false := by rw [beq_eq_false_iff_ne]; exact hmn
                      have tmn2 : ((m : Int) != n) = true := by rw [bne, tmn]; rfl
                      have tmn3 : decide ((m : Int) = n) = false := by rw [decide_eq_false_iff_not]; exact hmn
                      have hkk := HKP.out.2.2.2 m hmn
                      obtain ⟨pv, hpv⟩ : ∃ x, x = hasB vs' m := ⟨_, rfl⟩
                      obtain ⟨pm, hpm⟩ : ∃ x, x = (hasB vs' m || hasB ls' m) := ⟨_, rfl⟩
                      have HV1 : Hid (∀ W, Below w4.heap.size w4 W → Calls Try.prog 24 #[.agg #[.slice A' vs'.length c', .slice B' ls'.length d'], .int .i64 (m : Int)] W (RgPost pv w4)) := Lib.hid fun W hb => by rw [hpv]; exact HVC.out W m hb
                      have HV2 : Hid (∀ W, Below w4.heap.size w4 W → Calls Try.prog 24 #[.agg #[.slice A3 xs.length c3, .slice B3 ys.length d3], .int .i64 (m : Int)] W (RgPost pv w4)) := Lib.hid fun W hb => by rw [hpv, ← hkk.1]; exact HVD.out W m hb
                      have HM1 : Hid (∀ W, Below w4.heap.size w4 W → Calls Try.prog 26 #[.agg #[.slice A' vs'.length c', .slice B' ls'.length d'], .int .i64 (m : Int)] W (RgPost pm w4)) := Lib.hid fun W hb => by rw [hpm]; exact HMC.out W m hb
                      have HM2 : Hid (∀ W, Below w4.heap.size w4 W → Calls Try.prog 26 #[.agg #[.slice A3 xs.length c3, .slice B3 ys.length d3], .int .i64 (m : Int)] W (RgPost pm w4)) := Lib.hid fun W hb => by rw [hpm, ← hkk.2]; exact HMD.out W m hb
                      have hbq : Below w4.heap.size w4 wq.drew := HBV.out.drew
                      clear hkk hpv hpm
                      go_region_held3 (fun W => W.cell? ⟨w.heap.size, 0, none⟩ = some (.slice A' vs'.length c') ∧ W.cell? ⟨w.heap.size, 1, none⟩ = some (.slice B' ls'.length d') ∧ W.cell? ⟨w3.heap.size, 0, none⟩ = some (.slice A3 xs.length c3) ∧ W.cell? ⟨w3.heap.size, 1, none⟩ = some (.slice B3 ys.length d3)) (first | exact HCX.out _ (by assumption) | exact HCX.out _ (below_drewN (by assumption) _))
                        (first | (go_at_call 24; (with_reducible refine (HV1.out _ ?_).mono ?_); (assumption); rintro e wI ⟨rfl, hbI⟩)
                               | (go_at_call 24; (with_reducible refine (HV2.out _ ?_).mono ?_); (assumption); rintro e wI ⟨rfl, hbI⟩)
                               | (go_at_call 26; (with_reducible refine (HM1.out _ ?_).mono ?_); (assumption); rintro e wI ⟨rfl, hbI⟩)
                               | (go_at_call 26; (with_reducible refine (HM2.out _ ?_).mono ?_); (assumption); rintro e wI ⟨rfl, hbI⟩))
                      all_goals (go_wp2_with fail; go_meet; exact ⟨by simp, by assumption⟩)
                  case rest =>
                    obtain ⟨rfl, hbc⟩ := hcut
                    go_wp2_with fail
                    go_roundw
                    case rel => exact ⟨m + 1, by omega, by omega, by go_num, hbc⟩
                    case measure => simp [intOf]; omega
                · have tm : ¬ (m : Int) ≤ 7 := by omega
                  obtain ⟨g0, g1, g2, g3⟩ := HCX.out _ HBV.out
                  have hx := HX4.out.below HBV.out HX4.out.lt
                  have y0 := hx.free 0
                  have y1 := hx.free 1
                  have hfr : Frm (fun g => g = w.heap.size) wq ((wq.setCell ⟨w.heap.size, 0, none⟩ (.slice A3 xs.length c3)).setCell ⟨w.heap.size, 1, none⟩ (.slice B3 ys.length d3)) := ((Frm.refl (fun g => g = w.heap.size) wq).setCell (p := ⟨w.heap.size, 0, none⟩) (fun _ => rfl) _).setCell (p := ⟨w.heap.size, 1, none⟩) (fun _ => rfl) _
                  have HX5 : Hid (Blk ((wq.setCell ⟨w.heap.size, 0, none⟩ (.slice A3 xs.length c3)).setCell ⟨w.heap.size, 1, none⟩ (.slice B3 ys.length d3)) w.heap.size 24 #[.slice A3 xs.length c3, .slice B3 ys.length d3]) := Lib.hid ((hx.set_ 0 _).set_ 1 _)
                  have HJ5 := Lib.hid (And.intro ((HJ4.out.1.below HBV.out).frm hfr) ((HJ4.out.2.below HBV.out).frm hfr))
                  have HB5 : Hid (Below w.heap.size w ((wq.setCell ⟨w.heap.size, 0, none⟩ (.slice A3 xs.length c3)).setCell ⟨w.heap.size, 1, none⟩ (.slice B3 ys.length d3))) := Lib.hid (((HB4.out.trans (HBV.out.mono HB4.out.size)).setCell (p := ⟨w.heap.size, 0, none⟩) (Nat.le_refl _) _).setCell (p := ⟨w.heap.size, 1, none⟩) (Nat.le_refl _) _)
                  clear hx hfr
                  go_wp2_with fail
                  go_roundw
                  case rel => exact ⟨k + 1, xs, ys, A3, c3, B3, d3, by omega, by go_num, HX5.out, HJ5.out.1, HJ5.out.2, HKP.out.1, HB5.out⟩
                  case measure => simp [intOf]; omega
          · have tc : (code == 0) = false := by rw [beq_eq_false_iff_ne]; exact hcode
            go_wp2_with fail
            go_roundw
            case rel => exact ⟨k + 1, vs', ls', A', c', B', d', by omega, by go_num, HX4.out, HS4.out.1, HS4.out.2, HRT'.out, HB4.out⟩
            case measure => simp [intOf]; omega
        · have tn1 : (ns.length : Int) ≤ (k : Int) := by omega
          go_wp2_with fail
          go_ret
          exact ⟨ret_bool rfl, HBW.out⟩
      · have tk1 : ¬ (k : Int) < (ks.length : Int) := by omega
        go_wp2_with fail
        go_ret
        exact ⟨ret_bool rfl, HBW.out⟩
theorem confChanges_walk {w : World} (A : Option Addr) (c : Nat) (vs : List Int) (hA : IntsIn w A c vs) (B : Option Addr) (d : Nat) (ls : List Int) (hB : IntsIn w B d ls)
    (C : Option Addr) (cc : Nat) (one : List Int) (_ : one.length ≤ cc) (_ : cc ≤ maxLen) (h1s : Sl fI w C one) (_ : ∀ x ∈ one, (Lit.int .i64 x).wf = true) (_ : Room 8 one.length) (D : Option Addr) (dd : Nat) (two : List Int) (_ : two.length ≤ dd) (_ : dd ≤ maxLen) (h2s : Sl fI w D two) (_ : ∀ x ∈ two, (Lit.int .i64 x).wf = true) (_ : Room 8 two.length) :
    Calls Try.prog 8 #[.agg #[.slice A vs.length c, .slice B ls.length d], .slice C one.length cc, .slice D two.length dd] w fun e w' => e = .returned (.bool true) ∧ Below w.heap.size w w' :=
  confChanges_go A c vs hA B d ls hB C cc one h1s D dd two h2s
end Go.Proofs.Ytilefofpfbgikaa
