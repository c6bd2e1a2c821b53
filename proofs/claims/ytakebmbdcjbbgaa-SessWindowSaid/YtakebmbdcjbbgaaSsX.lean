/- Layer 13: SessWindow: the walk. -/
import Derived.Test.YtakebmbdcjbbgaaSsA
import Derived.Test.YtakebmbdcjbbgaaSsO
import Derived.Test.YtakebmbdcjbbgaaAnd
namespace Go.Proofs.Ytakebmbdcjbbgaa
open Go Go.RowKit Go.Maps Go.Lib Mem Ss

def WinRel (I F : Int) (n b p : Nat) (w : World) (iv : Value) (W : World) : Prop := ∃ i : Nat, i ≤ n ∧ iv = .int .i64 i ∧ TX (fun g => g < b) W p (wt I F i) ∧ Below b w W
def WinRel2 (I F L : Int) (n b p : Nat) (w : World) (kv : Value) (W : World) : Prop := ∃ k : Int, F ≤ k ∧ k ≤ L + 4 ∧ kv = .int .i64 k ∧ TX (fun g => g < b) W p (wt I F n) ∧ Below b w W
theorem wt_gone {id first L k : Int} {i : Nat} (hi : 0 < i) (hid : numOk id = true) (h : k ≤ L - 8) (hL : L = first + (i : Int) - 1) (hk : k ≤ 1099511627776) (hf : first ≤ k) : lookI (wt id first i) id k = (0, 0) := by
  have hwi : wt id first i = [⟨id, first + i - 1, wk first i⟩] := by unfold wt; rw [if_neg (by omega)]
  have hfi : findS id (wt id first i) = some ⟨id, first + i - 1, wk first i⟩ := by
    rw [hwi]; unfold findS; rw [List.find?_cons]; simp
  unfold lookI
  rw [hfi]
  simp only
  rw [if_pos (show k ≤ first + (i : Int) - 1 - 8 by omega)]
  split <;> rfl
theorem wt_free {id first L k : Int} {i : Nat} (hi : 0 < i) (hid : numOk id = true) (h : ¬ k ≤ L) (hL : L = first + (i : Int) - 1) (hf : first ≤ k) : lookI (wt id first i) id k = (0, 0) := by
  have hwi : wt id first i = [⟨id, first + i - 1, wk first i⟩] := by unfold wt; rw [if_neg (by omega)]
  have hfi : findS id (wt id first i) = some ⟨id, first + i - 1, wk first i⟩ := by
    rw [hwi]; unfold findS; rw [List.find?_cons]; simp
  unfold lookI
  rw [hfi]
  simp only
  have hn : itAt k (wk first i) = none := itAt_none.2 fun x hx => by
    obtain ⟨j, -, h3, rfl⟩ := wk_mem.1 hx
    show first + (j : Int) ≠ k
    omega
  rw [hn]
  split
  · split <;> rfl
  · rfl
set_option maxRecDepth 100000 in
set_option maxHeartbeats 4000000 in
theorem sessWindow_walk {w : World} (x : Int) (_ : (Lit.int .i64 x).wf = true) (y : Int) (_ : (Lit.int .i64 y).wf = true) (z : Int) (_ : (Lit.int .i64 z).wf = true) :
    Calls Try.prog 4 #[.int .i64 x, .int .i64 y, .int .i64 z] w fun e w' => e = .returned (.bool true) ∧ Below w.heap.size w w' := by
  obtain ⟨m1, hm1, e1⟩ := and_lit x 1023 (by decide)
  obtain ⟨m2, hm2, e2⟩ := and_lit y 1023 (by decide)
  obtain ⟨m3, hm3, e3⟩ := and_lit z 31 (by decide)
  have e1 : bits .and .i64 x 1023 = (m1 : Int) := e1
  have e2 : bits .and .i64 y 1023 = (m2 : Int) := e2
  have e3 : bits .and .i64 z 31 = (m3 : Int) := e3
  obtain ⟨I, hI⟩ : ∃ z, z = 1 + (m1 : Int) := ⟨_, rfl⟩
  obtain ⟨F, hF⟩ : ∃ z, z = 1 + (m2 : Int) := ⟨_, rfl⟩
  obtain ⟨N, hN⟩ : ∃ z, z = 1 + m3 := ⟨_, rfl⟩
  have hN' : 1 + (m3 : Int) = (N : Int) := by omega
  have HNN := Lib.hid hN'; clear hN'
  have HI := Lib.hid hI; clear hI
  have HF := Lib.hid hF; clear hF
  have HN := Lib.hid hN; clear hN
  have hI1 : 1 ≤ I ∧ I ≤ 1024 := by have := HI.out; omega
  have hF1 : 1 ≤ F ∧ F ≤ 1024 := by have := HF.out; omega
  have hN1 : 1 ≤ N ∧ N ≤ 32 := by have := HN.out; omega
  have HI1 := Lib.hid hI1; clear hI1
  have HF1 := Lib.hid hF1; clear hF1
  have HN1 := Lib.hid hN1; clear hN1
  have HIN : Hid (numOk I = true) := Lib.hid (numOk_iff.2 ⟨HI1.out.1, by have := HI1.out.2; omega⟩)
  have hiw : (Lit.int .i64 I).wf = true := by
    have := HI1.out
    simp [Lit.wf, IntKind.min, IntKind.max, IntKind.signed, IntKind.bits]; omega
  go_enter Try.func4, Try.ntmps4
  go_wp2_with fail
  (with_reducible refine (X_New _).mono ?_); rintro e w2 ⟨p, rfl, h2, hb2⟩
  have H2 := Lib.hid h2
  have HB2 := Lib.hid hb2
  clear h2 hb2
  go_wp2_with fail
  (with_reducible refine (alive_any _).mono ?_); rintro e w3 ⟨rfl, hb3⟩
  have H3 : Hid (TX (fun g => g < w.heap.size) w3 p (wt I F 0)) := Lib.hid (H2.out.below hb3)
  have HB3 : Hid (Below w.heap.size w w3) := Lib.hid (HB2.out.trans (hb3.mono HB2.out.size))
  clear hb3 HB2 H2
  go_upto_region 7 with fail
  rw [← HI.out, ← HF.out, HNN.out]
  clear e1 e2 e3 hm1 hm2 hm3 HI HF HNN HN
  obtain ⟨f1, f2⟩ := HF1.out
  obtain ⟨n1, n2⟩ := HN1.out
  go_wp2_with fail
  go_loopw [8] (fun iv wr => WinRel I F N w.heap.size p w iv wr) (fun iv _ => N - (RowKit.intOf iv).toNat)
  case atStart => exact ⟨0, Nat.zero_le _, rfl, H3.out, HB3.out⟩
  case round =>
    obtain ⟨i, hi, rfl, htx, hbw⟩ := hrel
    obtain ⟨wo, rfl⟩ : ∃ wo, wo = wr := ⟨_, rfl⟩
    have HT := Lib.hid htx; clear htx
    have HB := Lib.hid hbw; clear hbw
    by_cases hlt : i < N
    · have hp := X_Put HT.out I (F + i) 0 i hiw
      unfold XPut at hp
      rw [wt_put i HIN.out f1 (by omega)] at hp
      have HP := Lib.hid hp; clear hp
      go_wp2_with fail
      (with_reducible refine HP.out.mono ?_); rintro e wb ⟨rfl, htb, hfb⟩
      have HTB := Lib.hid htb
      have HBB : Hid (Below w.heap.size w wb) := Lib.hid (HB.out.trans (hfb.to_below (fun k _ h1 h => h h1) HB.out.size))
      clear htb hfb
      go_wp2_with fail
      go_roundw
      case rel => exact ⟨i + 1, by omega, by go_num, HTB.out, HBB.out⟩
      case measure => simp [RowKit.intOf]; omega
    · have hie : i = N := by omega
      subst hie
      obtain ⟨g1, g2⟩ := wt_high (id := I) (first := F) (i := i) (by omega)
      have hhi := Highest_any HT.out.tab I hiw
      unfold HiP at hhi
      rw [g1] at hhi
      have HKP := Lib.hid (Kept_any HT.out.tab I hiw)
      obtain ⟨L, hL⟩ : ∃ z, z = F + (i : Int) - 1 := ⟨_, rfl⟩
      rw [← hL] at hhi
      have HHI := Lib.hid hhi
      have HL := Lib.hid hL
      have HG2 := Lib.hid g2
      have hL1 : 1 ≤ L ∧ L ≤ 2000 := by omega
      obtain ⟨l1, l2⟩ := hL1
      clear hhi hL g1 g2
      go_upto_region 13 with fail
      rw [← HL.out]
      go_wp2_with fail
      (with_reducible refine HHI.out.mono ?_); rintro e wb ⟨rfl, rfl⟩
      go_wp2_with fail
      (with_reducible refine HKP.out.mono ?_); rintro e wb ⟨A1, c1, rfl, ho1, hb1⟩
      have HTB := Lib.hid (HT.out.below hb1)
      have HBB : Hid (Below w.heap.size w wb) := Lib.hid (HB.out.trans (hb1.mono HB.out.size))
      clear ho1 hb1
      rw [HG2.out]
      have tm : (((min i 8 : Nat) : Int) != min (i : Int) 8) = false := by rw [bne_eq_false_iff_eq]; omega
      go_wp2_with fail
      have HI2 : Hid (i ≤ 32) := Lib.hid n2
      clear tm
      go_loopw [10] (fun kv wr => WinRel2 I F L i w.heap.size p w kv wr) (fun kv _ => (L + 4 - RowKit.intOf kv).toNat)
      case atStart => exact ⟨F, Int.le_refl _, by have := HL.out; omega, rfl, HTB.out, HBB.out⟩
      case round =>
        obtain ⟨k, hk1, hk2, rfl, htx2, hbw2⟩ := hrel
        obtain ⟨wo2, rfl⟩ : ∃ wo, wo = wr := ⟨_, rfl⟩
        have HT2 := Lib.hid htx2; clear htx2
        have HBo := Lib.hid hbw2; clear hbw2
        by_cases hlt : k ≤ L + 3
        · have hkn : numOk k = true := numOk_iff.2 ⟨by omega, by omega⟩
          obtain ⟨hlk, hlv⟩ := wt_look (id := I) (first := F) (i := i) (by omega) HIN.out hkn hk1
          rw [← HL.out] at hlk hlv
          clear hkn
          by_cases ha : k ≤ L - 8
          · rw [if_pos ha] at hlk
            have hlv' : lookI (wt I F i) I k = (0, 0) := wt_gone (by omega) HIN.out ha HL.out (by omega) hk1
            have HLK := Lib.hid (X_Look HT2.out I k hiw (c := 130) (a := 0) (b := 0) ⟨hlk, hlv'⟩)
            clear hlk hlv hlv'
            go_wp2_with fail
            (with_reducible refine HLK.out.mono ?_); rintro e wc ⟨rfl, hbc⟩
            have HTc := Lib.hid ((HT2.out.below hbc).below ((Below.refl _ _).alloc (Nat.le_refl _) (.cells #[.int .i64 0, .int .i64 0] 25)))
            have HBc : Hid (Below w.heap.size w (wc.alloc (.cells #[.int .i64 0, .int .i64 0] 25))) := Lib.hid ((HBo.out.trans (hbc.mono HBo.out.size)).alloc (by have := HBo.out.size; have := hbc.size; omega) _)
            clear hbc HLK
            go_wp2_with fail
            go_roundw
            case rel => exact ⟨k + 1, by omega, by omega, by go_num, HTc.out, HBc.out⟩
            case measure => simp [RowKit.intOf]; omega
          · by_cases hb : k ≤ L
            · rw [if_neg ha, if_pos hb] at hlk
              have hlv' := hlv ha hb
              obtain ⟨kf, hkf⟩ : ∃ z, z = k - F := ⟨_, rfl⟩
              have ekf : IntKind.i64.wrap (k - F) = kf := by rw [IntKind.wrap_i64]; omega
              rw [← hkf] at hlv'
              clear hkf
              have HLK := Lib.hid (X_Look HT2.out I k hiw (c := 5) (a := 0) (b := kf) ⟨hlk, hlv'⟩)
              clear hlk hlv hlv'
              go_wp2_with fail
              (with_reducible refine HLK.out.mono ?_); rintro e wc ⟨rfl, hbc⟩
              have HTc := Lib.hid ((HT2.out.below hbc).below ((Below.refl _ _).alloc (Nat.le_refl _) (.cells #[.int .i64 0, .int .i64 kf] 25)))
              have HBc : Hid (Below w.heap.size w (wc.alloc (.cells #[.int .i64 0, .int .i64 kf] 25))) := Lib.hid ((HBo.out.trans (hbc.mono HBo.out.size)).alloc (by have := HBo.out.size; have := hbc.size; omega) _)
              clear hbc HLK
              go_wp2_with fail
              go_roundw
              case rel => exact ⟨k + 1, by omega, by omega, by go_num, HTc.out, HBc.out⟩
              case measure => simp [RowKit.intOf]; omega
            · rw [if_neg ha, if_neg hb] at hlk
              have hlv' : lookI (wt I F i) I k = (0, 0) := wt_free (by omega) HIN.out hb HL.out hk1
              have HLK := Lib.hid (X_Look HT2.out I k hiw (c := 0) (a := 0) (b := 0) ⟨hlk, hlv'⟩)
              clear hlk hlv hlv'
              go_wp2_with fail
              (with_reducible refine HLK.out.mono ?_); rintro e wc ⟨rfl, hbc⟩
              have HTc := Lib.hid ((HT2.out.below hbc).below ((Below.refl _ _).alloc (Nat.le_refl _) (.cells #[.int .i64 0, .int .i64 0] 25)))
              have HBc : Hid (Below w.heap.size w (wc.alloc (.cells #[.int .i64 0, .int .i64 0] 25))) := Lib.hid ((HBo.out.trans (hbc.mono HBo.out.size)).alloc (by have := HBo.out.size; have := hbc.size; omega) _)
              clear hbc HLK
              go_wp2_with fail
              go_roundw
              case rel => exact ⟨k + 1, by omega, by omega, by go_num, HTc.out, HBc.out⟩
              case measure => simp [RowKit.intOf]; omega
        · go_wp2_with fail
          go_ret
          exact ⟨rfl, HBo.out⟩
end Go.Proofs.Ytakebmbdcjbbgaa
