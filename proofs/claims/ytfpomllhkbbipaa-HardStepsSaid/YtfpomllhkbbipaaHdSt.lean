/- Layer 7: HardSteps: the walk. -/
import Derived.Test.YtfpomllhkbbipaaHdC
import Derived.Test.YtfpomllhkbbipaaAnd
namespace Go.Proofs.Ytfpomllhkbbipaa
open Go Go.RowKit Go.Maps Go.Lib Mem Pk Dsk Hd

theorem old0 (f : Nat) : ({ s0 with fuse := f } : S) = ⟨old none, false, f⟩ := rfl
theorem steps0 {t v : Int} {m : Nat} (hr : rightH t v = true) (hn : ((0, 0) : Int × Int) ≠ (t, v)) (h1 : 1 ≤ m) :
    (m ≤ 4 → ∃ s', saveH ⟨old none, false, m⟩ (0, 0) t v = (s', (0, 0), 50) ∧ s'.down = true) ∧ (4 < m → saveH ⟨old none, false, m⟩ (0, 0) t v = (⟨old (some (bytesH t v)), false, m - 4⟩, (t, v), 0)) := by
  have hs := steps_after none (bytesH t v) m (by have := bytesH_len t v; omega)
  constructor
  · intro h
    have h4 : m = 1 ∨ m = 2 ∨ m = 3 ∨ m = 4 := by omega
    rcases h4 with rfl | rfl | rfl | rfl
    all_goals exact ⟨_, saveH_bad hr hn hs (by decide), rfl⟩
  · intro h
    have : afterH none (bytesH t v) m = (⟨old (some (bytesH t v)), false, m - 4⟩, 0) := by
      unfold afterH
      rw [if_neg (by omega), if_neg (by omega), if_neg (by omega), if_neg (by omega)]
    rw [this] at hs
    exact saveH_ok hr hn hs
set_option maxRecDepth 100000 in
set_option maxHeartbeats 4000000 in
theorem hardSteps_walk {w : World} (t : Int) (_ : (Lit.int .i64 t).wf = true) (v : Int) (_ : (Lit.int .i64 v).wf = true) (n : Int) (_ : (Lit.int .i64 n).wf = true) :
    Calls Try.prog 5 #[.int .i64 t, .int .i64 v, .int .i64 n] w fun e w' => e = .returned (.bool true) ∧ Below w.heap.size w w' := by
  obtain ⟨k, hk, e1⟩ := and_lit n 7 (by decide)
  obtain ⟨a, ha⟩ : ∃ p, p = decide (0 ≤ t) := ⟨_, rfl⟩
  obtain ⟨b, hb⟩ : ∃ p, p = decide (t ≤ 1099511627776) := ⟨_, rfl⟩
  obtain ⟨c, hc⟩ : ∃ p, p = decide (0 ≤ v) := ⟨_, rfl⟩
  obtain ⟨d, hd⟩ : ∃ p, p = decide (v ≤ 7) := ⟨_, rfl⟩
  have hrt : rightH t v = (a && (b && (c && d))) := by unfold rightH; rw [ha, hb, hc, hd]
  have HRT := Lib.hid hrt
  obtain ⟨x, hx⟩ : ∃ p, p = (t == 0) := ⟨_, rfl⟩
  obtain ⟨y, hy⟩ : ∃ p, p = (v == 0) := ⟨_, rfl⟩
  have HSM : Hid ((x && y) = true ↔ ((0, 0) : Int × Int) = (t, v)) := Lib.hid (by
    rw [hx, hy, Bool.and_eq_true, beq_iff_eq, beq_iff_eq, Prod.mk.injEq]
    constructor
    · rintro ⟨h1, h2⟩; exact ⟨h1.symm, h2.symm⟩
    · rintro ⟨h1, h2⟩; exact ⟨h1.symm, h2.symm⟩)
  have t1 := ha.symm
  have t2 := hb.symm
  have t3 := hc.symm
  have t4 := hd.symm
  have t5 := hx.symm
  have t6 := hy.symm
  have E1 := Lib.hid e1
  clear ha hb hc hd hx hy hrt e1
  have hk1 : wrap64 (1 + (k : Int)) = ((k + 1 : Nat) : Int) := by unfold wrap64; omega
  have HK1 : Hid (wrap64 (1 + (k : Int)) = ((k + 1 : Nat) : Int)) := Lib.hid hk1
  clear hk1
  go_enter Try.func5, Try.ntmps5
  go_wp2_with fail
  (with_reducible refine (L_New w w.heap.size (Nat.le_refl _)).mono ?_); rintro e w1 ⟨p, rfl, hd1, -, hb1⟩
  have HD1 := Lib.hid hd1
  have HB1 := Lib.hid hb1
  clear hd1 hb1
  go_wp2_with fail
  (with_reducible refine (alive_any _).mono ?_); rintro e w2 ⟨rfl, hb2⟩
  have HD2 := Lib.hid (HD1.out.below hb2)
  have HB2 : Hid (Below w.heap.size w w2) := Lib.hid (HB1.out.trans (hb2.mono HB1.out.size))
  clear hb2 HB1 HD1
  go_wp2_with fail
  (with_reducible refine (L_hOpen HD2.out o0).mono ?_); rintro e w3 ⟨hb, rfl, ha3, hb3⟩
  have HA3 := Lib.hid ha3
  have HB3 : Hid (Below w.heap.size w w3) := Lib.hid (HB2.out.trans hb3)
  clear ha3 hb3 HB2 HD2
  go_upto_region 7 with fail
  go_cut [10] (fun s10 wx => s10 = .bool (a && (b && (c && d))) ∧ wx = w3)
  case first =>
    cases a <;> cases b <;> cases c <;> cases d <;>
    · go_wp2_with fail
      go_meet
      exact ⟨rfl, rfl⟩
  case rest =>
    obtain ⟨rfl, hwc⟩ := hcut
    rw [hwc]; clear hwc
    clear t1 t2 t3 t4
    go_upto_region 8 with fail
    go_cut [11] (fun s11 wx => s11 = .bool (x && y) ∧ wx = w3)
    case first =>
      cases x <;> cases y <;>
      · go_wp2_with fail
        go_meet
        exact ⟨rfl, rfl⟩
    case rest =>
      obtain ⟨rfl, hwc⟩ := hcut
      rw [hwc]; clear hwc
      clear t5 t6
      obtain ⟨r, hr⟩ : ∃ z, z = (a && (b && (c && d))) := ⟨_, rfl⟩
      obtain ⟨q, hq⟩ : ∃ z, z = (x && y) := ⟨_, rfl⟩
      have HR : Hid (rightH t v = r) := Lib.hid (by rw [HRT.out, hr])
      have HQ : Hid (q = true ↔ ((0, 0) : Int × Int) = (t, v)) := Lib.hid (by rw [hq]; exact HSM.out)
      rw [← hr, ← hq]
      clear hr hq HRT HSM
      obtain ⟨m, hm⟩ : ∃ m, m = k + 1 := ⟨_, rfl⟩
      have HM : Hid (wrap64 (1 + bits BinOp.and IntKind.i64 n 7) = (m : Int)) := Lib.hid (by
        have h7 : bits BinOp.and IntKind.i64 n 7 = (k : Int) := E1.out
        rw [h7, hm]; exact HK1.out)
      have hm1 : 1 ≤ m := by omega
      have hm8 : m ≤ 8 := by omega
      have HF := Lib.hid (L_hFail HA3.out (m : Int) (by
        have e3 : IntKind.i64.min = -9223372036854775808 := rfl
        have e4 : IntKind.i64.max = 9223372036854775807 := rfl
        simp [Lit.wf, e3, e4]; omega))
      clear E1 HK1 hm hk
      go_upto_region 10 with fail
      rw [HM.out]
      go_wp2_with fail
      (with_reducible refine HF.out.mono ?_); rintro e w4 ⟨rfl, ha4, hb4⟩
      have HA4 : Hid (HA w.heap.size p hb ⟨old none, false, m⟩ (0, 0) w4) := Lib.hid ha4
      have HB4 : Hid (Below w.heap.size w w4) := Lib.hid (HB3.out.trans hb4)
      clear ha4 hb4 HF HB3 HM HA3
      cases r with
      | false =>
        have HS := Lib.hid (saveH_no (s := ⟨old none, false, m⟩) (tv := (0, 0)) HR.out)
        go_wp2_with fail
        (with_reducible refine (L_hSave HA4.out t v HS.out (ki := 1) rfl).mono ?_); rintro e w5 ⟨rfl, ha5, hb5⟩
        have HA5 := Lib.hid ha5
        have HB5 : Hid (Below w.heap.size w w5) := Lib.hid (HB4.out.trans hb5)
        clear ha5 hb5
        go_wp2_with fail
        (with_reducible refine (L_hDown HA5.out rfl).mono ?_); rintro e w' ⟨rfl, rfl⟩
        go_wp2_with fail
        (with_reducible refine (L_hTerm HA5.out).mono ?_); rintro e w' ⟨rfl, rfl⟩
        go_wp2_with fail
        go_ret
        exact ⟨rfl, HB5.out⟩
      | true =>
        cases q with
        | true =>
          have HS := Lib.hid (saveH_same (s := ⟨old none, false, m⟩) HR.out (HQ.out.1 rfl))
          go_wp2_with fail
          (with_reducible refine (L_hSave HA4.out t v HS.out (ki := 0) rfl).mono ?_); rintro e w5 ⟨rfl, ha5, hb5⟩
          have HA5 := Lib.hid ha5
          have HB5 : Hid (Below w.heap.size w w5) := Lib.hid (HB4.out.trans hb5)
          clear ha5 hb5
          go_wp2_with fail
          (with_reducible refine (L_hDown HA5.out rfl).mono ?_); rintro e w' ⟨rfl, rfl⟩
          go_wp2_with fail
          go_ret
          exact ⟨rfl, HB5.out⟩
        | false =>
          have hne : ((0, 0) : Int × Int) ≠ (t, v) := fun e => by have := HQ.out.2 e; cases this
          obtain ⟨h4, h5⟩ := steps0 HR.out hne hm1
          by_cases hm4 : m ≤ 4
          · obtain ⟨s', hs, hdn⟩ := h4 hm4
            have HS := Lib.hid hs
            have HDN := Lib.hid hdn
            have t4 : decide ((m : Int) ≤ 4) = true := decide_eq_true (by omega)
            have t4' : decide (m ≤ 4) = true := decide_eq_true hm4
            clear hs hdn h4 h5 hne
            go_wp2_with fail
            (with_reducible refine (L_hSave HA4.out t v HS.out (ki := 50) rfl).mono ?_); rintro e w5 ⟨rfl, ha5, hb5⟩
            have HA5 := Lib.hid ha5
            have HB5 : Hid (Below w.heap.size w w5) := Lib.hid (HB4.out.trans hb5)
            clear ha5 hb5
            go_wp2_with fail
            (with_reducible refine (L_hDown HA5.out HDN.out).mono ?_); rintro e w' ⟨rfl, rfl⟩
            go_wp2_with fail
            go_ret
            exact ⟨rfl, HB5.out⟩
          · have HS := Lib.hid (h5 (by omega))
            have t4 : decide ((m : Int) ≤ 4) = false := decide_eq_false (by omega)
            have t4' : decide (m ≤ 4) = false := decide_eq_false hm4
            clear h4 h5 hne hm4
            go_wp2_with fail
            (with_reducible refine (L_hSave HA4.out t v HS.out (ki := 0) rfl).mono ?_); rintro e w5 ⟨rfl, ha5, hb5⟩
            have HA5 := Lib.hid ha5
            have HB5 : Hid (Below w.heap.size w w5) := Lib.hid (HB4.out.trans hb5)
            have HS2 := Lib.hid (saveH_same (s := ⟨old (some (bytesH t v)), false, m - 4⟩) (tv := (t, v)) HR.out rfl)
            clear ha5 hb5
            go_wp2_with fail
            (with_reducible refine (L_hTerm HA5.out).mono ?_); rintro e w' ⟨rfl, rfl⟩
            go_wp2_with fail
            (with_reducible refine (L_hVote HA5.out).mono ?_); rintro e w' ⟨rfl, rfl⟩
            go_wp2_with fail
            (with_reducible refine (L_hSave HA5.out t v HS2.out (ki := 0) rfl).mono ?_); rintro e w6 ⟨rfl, ha6, hb6⟩
            have HA6 := Lib.hid ha6
            have HB6 : Hid (Below w.heap.size w w6) := Lib.hid (HB5.out.trans hb6)
            clear ha6 hb6
            go_wp2_with fail
            (with_reducible refine (L_hDown HA6.out rfl).mono ?_); rintro e w' ⟨rfl, rfl⟩
            go_wp2_with fail
            go_ret
            exact ⟨rfl, HB6.out⟩
end Go.Proofs.Ytfpomllhkbbipaa
