/- Layer 3: the reader's numbers. -/
import Derived.Test.YtfpomllhkbbipaaGreatPk
import Derived.Test.YtfpomllhkbbipaaGreatPkX
namespace Go.Proofs.YtfpomllhkbbipaaGreat
open Go.RowKit Go.Maps Mem Pk

def NumPost (F : Nat → Prop) (r : Nat) (bs : List UInt8) (w : World) (e : Ending) (w' : World) : Prop :=
  (∀ n k, getNum bs = some (n, k) → RdOk F r (bs.drop k) (.int .i64 n) w e w') ∧ (getNum bs = none → RdNo r 30 w e w')
def NumRel (F : Nat → Prop) (r : Nat) (bs : List UInt8) (w : World) (uv sv : Value) (wr : World) : Prop :=
  ∃ i u : Nat, i ≤ 9 ∧ i ≤ bs.length ∧ uv = .int .u64 u ∧ sv = .int .i64 (7 * (i : Int)) ∧ u < 128 ^ i ∧ getNum bs = gnGo i u (bs.drop i) ∧ Rd F wr r (bs.drop i) ∧ Frm (fun g => g = r) w wr
theorem NumPost.no {F : Nat → Prop} {r : Nat} {bs : List UInt8} {w w' : World} (h : getNum bs = none) (hf : Frm (fun g => g = r) w w') : NumPost F r bs w (.panicked [{ v := wrongV 30, recovered := false }]) w' :=
  ⟨(fun n k hs => by rw [h] at hs; cases hs), fun _ => ⟨rfl, hf⟩⟩
theorem NumPost.yes {F : Nat → Prop} {r : Nat} {bs : List UInt8} {n : Int} {k : Nat} {w w' : World} {e : Ending} (h : getNum bs = some (n, k)) (he : e = .returned (.int .i64 n)) (hr : Rd F w' r (bs.drop k)) (hf : Frm (fun g => g = r) w w') : NumPost F r bs w e w' :=
  ⟨(fun n' k' hs => by rw [h] at hs; injection hs with hs; injection hs with h1 h2; subst h1; subst h2; exact ⟨he, hr, hf⟩), (fun hn => by rw [h] at hn; cases hn)⟩
theorem num_pow {u n i : Nat} (h : u < 128 ^ i) : u + n % 128 * 128 ^ i < 128 ^ (i + 1) := by
  have e1 : n % 128 * 128 ^ i ≤ 127 * 128 ^ i := Nat.mul_le_mul_right _ (by omega)
  rw [pow_step]; omega
theorem num_fits {u n i : Nat} (h : u < 128 ^ i) (hi : i ≤ 9) (hb : ¬ ((i = 9 ∧ 1 < n) ∨ (0 < i ∧ n = 0))) : u + n % 128 * 128 ^ i < 18446744073709551616 := by
  rcases Nat.lt_or_ge i 9 with h9 | h9
  · have h1 := num_pow (n := n) h
    have e2 : 128 ^ (i + 1) ≤ 128 ^ 9 := Nat.pow_le_pow_right (by omega) (by omega)
    have e3 : (128 : Nat) ^ 9 = 9223372036854775808 := by decide
    omega
  · have : i = 9 := by omega
    subst this
    have e3 : (128 : Nat) ^ 9 = 9223372036854775808 := by decide
    rw [e3] at h ⊢
    have : n ≤ 1 := by omega
    omega
set_option maxRecDepth 100000 in
set_option maxHeartbeats 4000000 in
theorem Num_any {F : Nat → Prop} {w : World} {r : Nat} {bs : List UInt8} (h : Rd F w r bs) :
    Calls Tryz.prog 94 #[.pointer (some ⟨r, 0, none⟩)] w (NumPost F r bs w) := by
  have H := Lib.hid h; clear h
  go_enter Tryz.func94, Tryz.ntmps94
  go_wp2_with fail
  go_loopw [3, 4] (fun uv sv wr => NumRel F r bs w uv sv wr) (fun _ sv _ => 70 - (intOf sv).toNat)
  case atStart => exact ⟨0, 0, Nat.zero_le _, Nat.zero_le _, rfl, rfl, by decide, rfl, H.out, Frm.refl _ _⟩
  case round =>
    obtain ⟨i, u, hi, hil, rfl, rfl, hu, hgn, hrd, hfr⟩ := hrel
    have HU := Lib.hid hu; clear hu
    have HGN := Lib.hid hgn; clear hgn
    have HRD := Lib.hid hrd; clear hrd
    have HFR := Lib.hid hfr; clear hfr
    by_cases hlt : i < bs.length
    · obtain ⟨b, hb⟩ : ∃ b, b = bs[i] := ⟨_, rfl⟩
      have hdr : bs.drop i = b :: bs.drop (i + 1) := by rw [hb]; exact List.drop_eq_getElem_cons hlt
      have htk := take_ok HRD.out 1 (by rw [hdr]; simp) 1 rfl
      rw [hdr] at htk
      rw [hdr] at HGN HRD
      have HTK := Lib.hid htk; clear htk hdr hb
      go_wp2_with fail
      (with_reducible refine HTK.out.mono ?_); rintro e w2 ⟨A2, c2, rfl, hs2, hrd2, hf2⟩
      obtain ⟨b2, o2, rfl, _, hcA⟩ := hs2.sl.at (k := 0) (by simp)
      have hcB := hcA 0 (by simp)
      obtain ⟨n, hn⟩ : ∃ n, n = b.toNat := ⟨_, rfl⟩
      have hc2 : w2.cell? ⟨b2, o2, none⟩ = some (.int .u8 (n : Int)) := by rw [hn]; exact hcB
      have hn256 : n < 256 := by rw [hn]; exact b.toNat_lt
      have HN := Lib.hid hn; clear hn
      have HRD2 : Hid (Rd F w2 r (bs.drop (i + 1))) := hrd2
      have HF2 : Hid (Frm (fun g => g = r) w w2) := HFR.out.trans hf2
      clear hcA hcB hs2 hrd2 hf2 HRD HFR HTK
      by_cases h9 : i = 9
      · have t2 : (7 * (i : Int) == 63) = true := by rw [beq_iff_eq]; omega
        have t3 : (0 : Int) < 7 * (i : Int) := by omega
        by_cases h1 : 1 < n
        · go_wp2_with fail
          (with_reducible refine (rdFail_any _ _ 30 (by decide)).mono ?_); rintro e w3 ⟨rfl, rfl⟩
          go_wp2_with fail
          exact ⟨rfl, NumPost.no (by rw [HGN.out]; exact gnGo_bad (.inl ⟨h9, by rw [← HN.out]; exact h1⟩)) HF2.out⟩
        · by_cases hz : n = 0
          · have hz1 : ((n : Int) == 0) = true := by rw [beq_iff_eq]; omega
            go_wp2_with fail
            (with_reducible refine (rdFail_any _ _ 30 (by decide)).mono ?_); rintro e w3 ⟨rfl, rfl⟩
            go_wp2_with fail
            exact ⟨rfl, NumPost.no (by rw [HGN.out]; exact gnGo_bad (.inr ⟨by omega, by rw [← HN.out]; exact hz⟩)) HF2.out⟩
          · have hz2 : ((n : Int) == 0) = false := by rw [beq_eq_false_iff_ne]; omega
            have hnb : ¬ ((i = 9 ∧ 1 < b.toNat) ∨ (0 < i ∧ b.toNat = 0)) := by rw [← HN.out]; omega
            have hv : u + n % 128 * 128 ^ i < 18446744073709551616 := num_fits HU.out hi (by rw [HN.out]; exact hnb)
            have hor := num_or HU.out hn256 hv
            rw [show (2 : Int) ^ (7 * i) = 9223372036854775808 by rw [h9]; decide] at hor
            have HOR := Lib.hid hor; clear hor
            have HNB := Lib.hid hnb; clear hnb
            have HV := Lib.hid hv; clear hv
            have h128 : n < 128 := by omega
            go_wp2_with fail
            go_ret
            refine NumPost.yes (HGN.out.trans (gnGo_end HNB.out (by rw [← HN.out]; exact h128))) ?_ HRD2.out HF2.out
            rw [← HN.out]
            exact ret_i64 (by rw [HOR.out]; exact unzig_bits _ HV.out)
      · have t2 : (7 * (i : Int) == 63) = false := by rw [beq_eq_false_iff_ne]; omega
        by_cases h0 : i = 0
        · have t3 : 7 * (i : Int) ≤ 0 := by omega
          have hnb : ¬ ((i = 9 ∧ 1 < b.toNat) ∨ (0 < i ∧ b.toNat = 0)) := by rw [← HN.out]; omega
          have hv : u + n % 128 * 128 ^ i < 18446744073709551616 := num_fits HU.out hi (by rw [HN.out]; exact hnb)
          have hor := num_or HU.out hn256 hv
          rw [show (2 : Int) ^ (7 * i) = 1 by rw [h0]; decide, Int.mul_one] at hor
          have HOR := Lib.hid hor; clear hor
          have HNB := Lib.hid hnb; clear hnb
          have HV := Lib.hid hv; clear hv
          by_cases h128 : n < 128
          · go_wp2_with fail
            go_ret
            refine NumPost.yes (HGN.out.trans (gnGo_end HNB.out (by rw [← HN.out]; exact h128))) ?_ HRD2.out HF2.out
            rw [← HN.out]
            exact ret_i64 (by rw [HOR.out]; exact unzig_bits _ HV.out)
          · go_wp2_with fail
            go_roundw
            case rel => exact ⟨i + 1, u + n % 128 * 128 ^ i, by have := HNB.out; omega, hlt, by rw [HOR.out], by go_num, num_pow HU.out, by rw [HGN.out, gnGo_on HNB.out (by rw [← HN.out]; exact h128), HN.out], HRD2.out, HF2.out⟩
            case measure => simp [intOf]; omega
        · have t3 : (0 : Int) < 7 * (i : Int) := by omega
          by_cases hz : n = 0
          · have hz1 : ((n : Int) == 0) = true := by rw [beq_iff_eq]; omega
            go_wp2_with fail
            (with_reducible refine (rdFail_any _ _ 30 (by decide)).mono ?_); rintro e w3 ⟨rfl, rfl⟩
            go_wp2_with fail
            exact ⟨rfl, NumPost.no (by rw [HGN.out]; exact gnGo_bad (.inr ⟨by omega, by rw [← HN.out]; exact hz⟩)) HF2.out⟩
          · have hz2 : ((n : Int) == 0) = false := by rw [beq_eq_false_iff_ne]; omega
            have hnb : ¬ ((i = 9 ∧ 1 < b.toNat) ∨ (0 < i ∧ b.toNat = 0)) := by rw [← HN.out]; omega
            have hv : u + n % 128 * 128 ^ i < 18446744073709551616 := num_fits HU.out hi (by rw [HN.out]; exact hnb)
            have HOR := Lib.hid (num_or HU.out hn256 hv)
            have HNB := Lib.hid hnb; clear hnb
            have HV := Lib.hid hv; clear hv
            by_cases h128 : n < 128
            · go_wp2_with fail
              go_ret
              refine NumPost.yes (HGN.out.trans (gnGo_end HNB.out (by rw [← HN.out]; exact h128))) ?_ HRD2.out HF2.out
              rw [← HN.out]
              exact ret_i64 (by rw [HOR.out]; exact unzig_bits _ HV.out)
            · go_wp2_with fail
              go_roundw
              case rel => exact ⟨i + 1, u + n % 128 * 128 ^ i, by have := HNB.out; omega, hlt, by rw [HOR.out], by go_num, num_pow HU.out, by rw [HGN.out, gnGo_on HNB.out (by rw [← HN.out]; exact h128), HN.out], HRD2.out, HF2.out⟩
              case measure => simp [intOf]; omega
    · have hdr : bs.drop i = [] := List.drop_of_length_le (by omega)
      have htk := take_no HRD.out 1 (by rw [hdr]; simp)
      have HTK := Lib.hid htk; clear htk
      have HDR := Lib.hid hdr; clear hdr
      go_wp2_with fail
      (with_reducible refine HTK.out.mono ?_); rintro e w2 ⟨rfl, hf2⟩
      go_wp2_with fail
      exact ⟨rfl, NumPost.no (by rw [HGN.out, HDR.out]; exact gnGo_nil _ _) (HFR.out.trans hf2)⟩
end Go.Proofs.YtfpomllhkbbipaaGreat
namespace Go.Proofs.YtfpomllhkbbipaaGreat
open Go.RowKit Go.Maps Mem Pk

theorem Num_yes {F : Nat → Prop} {w : World} {r : Nat} {bs : List UInt8} (h : Rd F w r bs) {n : Int} {k : Nat} (hg : getNum bs = some (n, k)) :
    Calls Tryz.prog 94 #[.pointer (some ⟨r, 0, none⟩)] w (RdOk F r (bs.drop k) (.int .i64 n) w) := (Num_any h).mono fun _ _ hp => hp.1 n k hg
theorem Num_none {F : Nat → Prop} {w : World} {r : Nat} {bs : List UInt8} (h : Rd F w r bs) (hg : getNum bs = none) :
    Calls Tryz.prog 94 #[.pointer (some ⟨r, 0, none⟩)] w (RdNo r 30 w) := (Num_any h).mono fun _ _ hp => hp.2 hg
def getCount (most : Int) (bs : List UInt8) : Option (Int × Nat) := (getNum bs).filter fun x => decide (0 ≤ x.1 ∧ x.1 ≤ most)
theorem getCount_some {most : Int} {bs : List UInt8} {n : Int} {k : Nat} (h : getCount most bs = some (n, k)) : getNum bs = some (n, k) ∧ 0 ≤ n ∧ n ≤ most := by
  unfold getCount at h
  rw [Option.filter_eq_some_iff] at h
  exact ⟨h.1, by simpa using h.2⟩
theorem getCount_none {most : Int} {bs : List UInt8} (h : getCount most bs = none) : getNum bs = none ∨ ∃ n k, getNum bs = some (n, k) ∧ (n < 0 ∨ most < n) := by
  unfold getCount at h
  cases hg : getNum bs with
  | none => exact .inl rfl
  | some x =>
    obtain ⟨n, k⟩ := x
    rw [hg] at h
    refine .inr ⟨n, k, rfl, ?_⟩
    rw [Option.filter_eq_none_iff] at h
    have h2 := h (n, k) rfl
    simp at h2
    omega
theorem Count_yes {F : Nat → Prop} {w : World} {r : Nat} {bs : List UInt8} (h : Rd F w r bs) {most n : Int} {k : Nat} (hg : getCount most bs = some (n, k)) :
    Calls Tryz.prog 114 #[.pointer (some ⟨r, 0, none⟩), .int .i64 most] w (RdOk F r (bs.drop k) (.int .i64 n) w) := by
  obtain ⟨h1, h2, h3⟩ := getCount_some hg
  have HN := Lib.hid (Num_yes h h1)
  clear hg h1 h
  go_enter Tryz.func114, Tryz.ntmps114
  go_wp2_with fail
  (with_reducible refine HN.out.mono ?_); rintro e w2 ⟨rfl, hr2, hf2⟩
  have HR2 := Lib.hid hr2; clear hr2
  have HF2 := Lib.hid hf2; clear hf2
  go_wp2_with fail
  go_ret
  exact ⟨rfl, HR2.out, HF2.out⟩
theorem Count_none {F : Nat → Prop} {w : World} {r : Nat} {bs : List UInt8} (h : Rd F w r bs) {most : Int} (hg : getCount most bs = none) :
    Calls Tryz.prog 114 #[.pointer (some ⟨r, 0, none⟩), .int .i64 most] w (RdNo r 30 w) := by
  rcases getCount_none hg with h1 | ⟨n, k, h1, h2⟩
  · have HN := Lib.hid (Num_none h h1)
    clear hg h1 h
    go_enter Tryz.func114, Tryz.ntmps114
    go_wp2_with fail
    (with_reducible refine HN.out.mono ?_); rintro e w2 ⟨rfl, hf2⟩
    go_wp2_with fail
    exact ⟨rfl, rfl, hf2⟩
  · have HN := Lib.hid (Num_yes h h1)
    clear hg h1 h
    by_cases h3 : n < 0
    · go_enter Tryz.func114, Tryz.ntmps114
      go_wp2_with fail
      (with_reducible refine HN.out.mono ?_); rintro e w2 ⟨rfl, hr2, hf2⟩
      have HF2 := Lib.hid hf2; clear hf2 hr2
      go_wp2_with fail
      (with_reducible refine (rdFail_any _ _ 30 (by decide)).mono ?_); rintro e w3 ⟨rfl, rfl⟩
      go_wp2_with fail
      exact ⟨rfl, rfl, HF2.out⟩
    · have h4 : most < n := by omega
      clear h2
      go_enter Tryz.func114, Tryz.ntmps114
      go_wp2_with fail
      (with_reducible refine HN.out.mono ?_); rintro e w2 ⟨rfl, hr2, hf2⟩
      have HF2 := Lib.hid hf2; clear hf2 hr2
      go_wp2_with fail
      (with_reducible refine (rdFail_any _ _ 30 (by decide)).mono ?_); rintro e w3 ⟨rfl, rfl⟩
      go_wp2_with fail
      exact ⟨rfl, rfl, HF2.out⟩
end Go.Proofs.YtfpomllhkbbipaaGreat
