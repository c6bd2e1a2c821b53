/- Layer 5: the walk of the law DiskSectors. -/
import Derived.Test.YtepkjnhijocojaaDskLP
import Derived.Test.YtepkjnhijocojaaDskQ2
import Derived.Test.YtepkjnhijocojaaDskX
namespace Go.Proofs.Ytepkjnhijocojaa
open Go.RowKit Go.Maps Mem Dsk

def SecRel (w : World) (n N g : Nat) (iv : Value) (wr : World) : Prop :=
  ∃ k : Nat, k ≤ N ∧ iv = .int .i64 k ∧ Own fB w.heap.size 5 wr (.slice (some ⟨g, 0, none⟩) N N) (secPre n k) ∧ Below w.heap.size w wr
set_option maxRecDepth 100000 in
set_option maxHeartbeats 4000000 in
theorem diskSectors_walk {w : World} (x : Int) (wx : (Lit.int .i64 x).wf = true) (K : Option Addr) (c : Nat) (keep : List Bool) (hc : keep.length ≤ c) (_ : c ≤ maxLen) (hs : Sl fBool w K keep) (_ : ∀ x ∈ keep, True) (_ : Room 1 keep.length) :
    Calls Try.prog 3 #[.int .i64 x, .slice K keep.length c] w fun e w' => e = .returned (.bool true) ∧ Below w.heap.size w w' := by
  obtain ⟨m, hm15, hm⟩ := and_small x 15 (by decide)
  have hm : bits .and .i64 x 15 = (m : Int) := hm
  obtain ⟨te, hsb⟩ := hs.old
  have hl := hs.len
  obtain ⟨N, hN⟩ : ∃ N, N = 32 * (m + 1) := ⟨_, rfl⟩
  have hN512 : N ≤ 512 := by omega
  have hmk := run_makeT (P := Try.prog) u8T rfl .i64 .i64 (32 * (1 + (m : Int))) N (by omega) (by omega) (by omega)
  have HN := Lib.hid hN; clear hN
  clear hs hc
  go_enter Try.func3, Try.ntmps3
  go_wp2_with fail
  (with_reducible refine (L_New w w.heap.size (Nat.le_refl _)).mono ?_); rintro e w1 ⟨p, rfl, hd1, hp, hb1⟩
  go_wp2_with fail
  (with_reducible refine (alive_any w1).mono ?_); rintro e w2 ⟨rfl, hb2⟩
  have hd2 := hd1.below hb2
  have HB2 : Hid (Below w.heap.size w w2) := hb1.trans (hb2.mono hb1.size)
  clear hb1 hb2 hd1
  go_wp2_with fail
  go_loopw [30] (fun iv wr => SecRel w2 (m + 1) N w2.heap.size iv wr) (fun iv _ => N - (intOf iv).toNat)
  case atStart => exact ⟨0, Nat.zero_le _, rfl, by have := Own.made_ (f := fB) (e := 5) (w := w2) (0 : UInt8) N (maxLen_small (by omega)) (Nat.le_refl _); rw [show secPre (m + 1) 0 = List.replicate N 0 by unfold secPre; simp [HN.out]]; exact this, (Below.refl _ _).alloc (Nat.le_refl _) _⟩
  case round =>
    obtain ⟨k, hk, rfl, hown, hbw⟩ := hrel
    have HOWN := Lib.hid hown; clear hown
    have HBW := Lib.hid hbw; clear hbw
    by_cases hlt : k < N
    · obtain ⟨g, hg, _, _, hcell, hfz⟩ := HOWN.out.slot (k := k) (by rw [secPre_len (by rw [← HN.out]; exact hk), ← HN.out]; exact hlt)
      injection hg with hg; injection hg with hg
      subst hg
      go_wp2_with fail
      go_roundw
      case rel =>
        have h1 := HOWN.out.set_ (k := k) (by rw [secPre_len (by rw [← HN.out]; exact hk), ← HN.out]; exact hlt) (secByte k)
        rw [secPre_step (by rw [← HN.out]; exact hlt)] at h1
        have h2 : fB (secByte k) = .int .u8 (1 + (k : Int) / 32) := by unfold fB; rw [secByte_nat (by omega)]; congr 1
        rw [h2] at h1
        exact ⟨k + 1, by omega, by go_num, h1, HBW.out.setCell (Nat.le_refl _) _⟩
      case measure => simp [intOf]; omega
    · have hkN : k = N := by omega
      have HO : Hid (Own fB w2.heap.size 5 wr (.slice (some ⟨w2.heap.size, 0, none⟩) N N) (secBytes (m + 1))) := by
        have h1 := HOWN.out; rw [hkN, HN.out, secPre_all] at h1; rw [HN.out]; exact h1
      have hlen : (secBytes (m + 1)).length = N := by rw [secBytes_len, HN.out]
      clear hkN HOWN
      have hgl := (HO.out.slot (k := 0) (by rw [hlen]; have := HN.out; omega))
      have hdw : DX (fun g => g = w2.heap.size) w.heap.size p s0 wr := hd2.protect HBW.out (fun g hg => by
        obtain ⟨g', he, _, hlt', _⟩ := hgl
        injection he with he; injection he with he
        subst hg; exact ⟨Nat.le_refl _, by rw [he]; exact hlt'⟩)
      clear hgl
      have HB3 : Hid (Below w.heap.size w wr) := HB2.out.trans (HBW.out.mono HB2.out.size)
      have HSL : Hid (SlB fB 5 (fun g => g = w2.heap.size) wr (some ⟨w2.heap.size, 0, none⟩) (secBytes (m + 1))) := HO.out.slB
      clear HO HB2 hd2 HBW
      have HLEN := Lib.hid hlen; clear hlen
      go_wp2_with fail
      (with_reducible refine (X_Create hdw (⟨#[97]⟩ : ByteArray) sz97 (ki := 0) a1 rfl).mono ?_); rintro e w4 ⟨rfl, hd4, hb4, hk4⟩
      have HSL4 := Lib.hid (HSL.out.kept hk4 (fun _ h => h))
      have HB4 : Hid (Below w.heap.size w w4) := HB3.out.trans hb4
      clear hdw HSL hb4 hk4 HB3
      have hw := L_Write hd4.drop (⟨#[97]⟩ : ByteArray) sz97 0 (by decide) (c := N) HSL4.out hd4.notG (s' := sec1 (m + 1)) (k := 0) (ki := 0) (by rw [sn97]; exact sec_write (by omega)) rfl
      rw [HLEN.out] at hw
      have HW := Lib.hid hw; clear hw hd4
      go_wp2_with fail
      (with_reducible refine HW.out.mono ?_); rintro e w5 ⟨rfl, hd5, hb5⟩
      have HB5 : Hid (Below w.heap.size w w5) := HB4.out.trans hb5
      clear HB4 hb5 HW HSL4
      go_wp2_with fail
      (with_reducible refine (L_Loose hd5 (k := 1 + (m : Int)) (by rw [sec_looseN]; omega)).mono ?_); rintro e w6 ⟨rfl, hd6, hb6⟩
      have HB6 : Hid (Below w.heap.size w w6) := HB5.out.trans (hb6.mono HB5.out.size)
      clear HB5 hb6 hd5
      go_wp2_with fail
      (with_reducible refine (L_Crash hd6 (hsb.under HB6.out) (.inr (fun _ h => h)) (sec_crash _ _)).mono ?_); rintro e w7 ⟨rfl, hd7, hb7⟩
      have HB7 : Hid (Below w.heap.size w w7) := HB6.out.trans hb7
      clear HB6 hb7 hd6
      go_wp2_with fail
      (with_reducible refine (L_Read hd7 _ sz97 (bs := secKept keep (lastOf keep (m + 1))) (k := 0) (ki := 0) (by rw [sn97]; exact sec_read _ _) rfl).mono ?_); rintro e w8 ⟨A8, c8, rfl, hs8, hc8, hc9, hd8, hb8⟩
      have HB8 : Hid (Below w.heap.size w w8) := HB7.out.trans (hb8.mono HB7.out.size)
      clear HB7 hb8 hd7
      have HS8 := Lib.hid hs8.sl; clear hs8
      obtain ⟨L, hL⟩ : ∃ L, L = (secKept keep (lastOf keep (m + 1))).length := ⟨_, rfl⟩
      rw [← hL]
      have hLL : L = 32 * lastOf keep (m + 1) := by rw [hL, secKept_len]
      have hl1 := lastOf_le keep (m + 1)
      have hL512 : L ≤ 512 := by omega
      have HL := Lib.hid hL; clear hL
      have HLL := Lib.hid hLL; clear hLL hc8
      have hkl := hl
      go_wp2_with fail
      go_loopw [10, 11] (fun lv iv wr => ∃ i : Nat, i ≤ m + 1 ∧ iv = .int .i64 i ∧ lv = .int .i64 (lastOf keep i) ∧ w8 = wr) (fun _ iv _ => m + 1 - (intOf iv).toNat)
      case atStart => exact ⟨0, Nat.zero_le _, rfl, rfl, rfl⟩
      case round =>
        obtain ⟨i, hi, rfl, rfl, rfl⟩ := hrel
        have HSB := Lib.hid (hsb.under HB8.out)
        by_cases hlt : i < m + 1
        · have hlt' : (i : Int) < 1 + (m : Int) := by omega
          by_cases hik : i < keep.length
          · obtain ⟨b, o, rfl, _, hck⟩ := HSB.out.sl.at hik
            have hc0 := hck i hik
            unfold fBool at hc0
            clear hck
            have hg : keep.getD i false = keep[i] := by rw [List.getD_eq_getElem?_getD, List.getElem?_eq_getElem hik]; rfl
            have HG := Lib.hid hg; clear hg
            cases hv : keep[i]
            · rw [hv] at hc0 HG; clear hv
              go_wp2_with fail
              go_roundw
              case rel => exact ⟨i + 1, by omega, by go_num, by rw [lastOf_succ, HG.out]; rfl, by trivial⟩
              case measure => simp [intOf]; omega
            · rw [hv] at hc0 HG; clear hv
              go_wp2_with fail
              go_roundw
              case rel => exact ⟨i + 1, by omega, by go_num, by rw [lastOf_succ, HG.out]; rfl, by trivial⟩
              case measure => simp [intOf]; omega
          · have hg : keep.getD i false = false := by rw [List.getD_eq_getElem?_getD, List.getElem?_eq_none (by omega)]; rfl
            have HG := Lib.hid hg; clear hg
            go_wp2_with fail
            go_roundw
            case rel => exact ⟨i + 1, by omega, by go_num, by rw [lastOf_succ, HG.out]; rfl, by trivial⟩
            case measure => simp [intOf]; omega
        · have him : i = m + 1 := by omega
          have hlt' : ¬ (i : Int) < 1 + (m : Int) := by omega
          have hl2 : lastOf keep i ≤ 16 := by rw [him]; omega
          have HIM := Lib.hid him; clear him
          have t1 : ((L : Int) != 32 * ((lastOf keep i : Nat) : Int)) = false := by rw [bne_eq_false_iff_eq, HIM.out, HLL.out]; omega
          have HLK : Hid (L ≤ 32 * keep.length) := by have h1 := lastOf_keep keep (m + 1); have := HLL.out; show L ≤ _; omega
          go_wp2_with fail
          go_loopw [92] (fun iv wr => ∃ k : Nat, k ≤ L ∧ iv = .int .i64 k ∧ w8 = wr) (fun iv _ => L - (intOf iv).toNat)
          case atStart => exact ⟨0, Nat.zero_le _, rfl, rfl⟩
          case round =>
            obtain ⟨k, hk, rfl, rfl⟩ := hrel
            by_cases hkl2 : k < L
            · obtain ⟨b8, o8, rfl, _, hc8⟩ := HS8.out.at (k := k) (by rw [← HL.out]; exact hkl2)
              have hcg := hc8 k (by rw [← HL.out]; exact hkl2)
              clear hc8
              have hgk : (secKept keep (lastOf keep (m + 1)))[k]'(by rw [← HL.out]; exact hkl2) = keptByte keep k := by unfold secKept; simp
              rw [hgk] at hcg
              clear hgk
              obtain ⟨q, hq⟩ : ∃ q, q = k / 32 := ⟨_, rfl⟩
              have hqi : (k : Int) / 32 = (q : Int) := by omega
              have hqk : q < keep.length := by have := HLK.out; omega
              have hq16 : q ≤ 16 := by omega
              obtain ⟨b, o, rfl, _, hck⟩ := HSB.out.sl.at hqk
              have hc0 := hck q hqk
              unfold fBool at hc0
              clear hck
              have hg : keep.getD q false = keep[q] := by rw [List.getD_eq_getElem?_getD, List.getElem?_eq_getElem hqk]; rfl
              cases hv : keep[q]
              · rw [hv] at hc0 hg; clear hv
                rw [keptByte_no (by rw [← hq]; exact hg)] at hcg
                have hcg' : w8.cell? ⟨b8, o8 + k, none⟩ = some (.int .u8 0) := hcg
                clear hcg hg hq
                go_wp2_with fail
                go_roundw
                case rel => exact ⟨k + 1, by omega, by go_num, by trivial⟩
                case measure => simp [intOf]; omega
              · rw [hv] at hc0 hg; clear hv
                rw [keptByte_yes (by rw [← hq]; exact hg)] at hcg
                have hcg' : w8.cell? ⟨b8, o8 + k, none⟩ = some (.int .u8 (1 + (q : Int))) := by
                  rw [hcg]; unfold fB; rw [secByte_nat (by omega), ← hq]; congr 2
                clear hcg hg hq
                go_wp2_with fail
                go_roundw
                case rel => exact ⟨k + 1, by omega, by go_num, by trivial⟩
                case measure => simp [intOf]; omega
            · go_wp2_with fail
              (with_reducible refine (L_Loose hd8 (k := 0) (by rw [sec_loose2]; decide)).mono ?_); rintro e w9 ⟨rfl, hd9, hb9⟩
              go_wp2_with fail
              go_ret
              exact ⟨rfl, HB8.out.trans (hb9.mono HB8.out.size)⟩
end Go.Proofs.Ytepkjnhijocojaa
