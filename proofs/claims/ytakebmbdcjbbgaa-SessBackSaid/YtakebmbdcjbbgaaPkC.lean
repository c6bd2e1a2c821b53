/- Layer 3: the reader's counts; a number put behind bytes. -/
import Derived.Test.YtakebmbdcjbbgaaPkN
namespace Go.Proofs.Ytakebmbdcjbbgaa
open Go.RowKit Go.Maps Mem Pk

theorem Num_yes {F : Nat → Prop} {w : World} {r : Nat} {bs : List UInt8} (h : Rd F w r bs) {n : Int} {k : Nat} (hg : getNum bs = some (n, k)) :
    Calls Try.prog 47 #[.pointer (some ⟨r, 0, none⟩)] w (RdOk F r (bs.drop k) (.int .i64 n) w) := (Num_any h).mono fun _ _ hp => hp.1 n k hg
theorem Num_none {F : Nat → Prop} {w : World} {r : Nat} {bs : List UInt8} (h : Rd F w r bs) (hg : getNum bs = none) :
    Calls Try.prog 47 #[.pointer (some ⟨r, 0, none⟩)] w (RdNo r 30 w) := (Num_any h).mono fun _ _ hp => hp.2 hg
def getCount (most : Int) (bs : List UInt8) : Option (Int × Nat) := (getNum bs).filter fun x => decide (0 ≤ x.1 ∧ x.1 ≤ most)
theorem getCount_some {most : Int} {bs : List UInt8} {n : Int} {k : Nat} (h : getCount most bs = some (n, k)) : getNum bs = some (n, k) ∧ 0 ≤ n ∧ n ≤ most := by
  unfold getCount at h
  rw [Option.filter_eq_some_iff] at h
  exact ⟨h.1, by simpa using h.2⟩
theorem getCount_none {most : Int} {bs : List UInt8} (h : getCount most bs = none) : getNum bs = none ∨ ∃ n k, getNum bs = some (n, k) ∧ (n < 0 ∨ most < n) := by
  unfold getCount at h
  cases hg : getNum bs with
  | none => exact .inl rfl
  | some x =>
    obtain ⟨n, k⟩ := x
    rw [hg] at h
    refine .inr ⟨n, k, rfl, ?_⟩
    rw [Option.filter_eq_none_iff] at h
    have h2 := h (n, k) rfl
    simp at h2
    omega
theorem Count_yes {F : Nat → Prop} {w : World} {r : Nat} {bs : List UInt8} (h : Rd F w r bs) {most n : Int} {k : Nat} (hg : getCount most bs = some (n, k)) :
    Calls Try.prog 46 #[.pointer (some ⟨r, 0, none⟩), .int .i64 most] w (RdOk F r (bs.drop k) (.int .i64 n) w) := by
  obtain ⟨h1, h2, h3⟩ := getCount_some hg
  have HN := Lib.hid (Num_yes h h1)
  clear hg h1 h
  go_enter Try.func46, Try.ntmps46
  go_wp2_with fail
  (with_reducible refine HN.out.mono ?_); rintro e w2 ⟨rfl, hr2, hf2⟩
  have HR2 := Lib.hid hr2; clear hr2
  have HF2 := Lib.hid hf2; clear hf2
  go_wp2_with fail
  go_ret
  exact ⟨rfl, HR2.out, HF2.out⟩
theorem Count_none {F : Nat → Prop} {w : World} {r : Nat} {bs : List UInt8} (h : Rd F w r bs) {most : Int} (hg : getCount most bs = none) :
    Calls Try.prog 46 #[.pointer (some ⟨r, 0, none⟩), .int .i64 most] w (RdNo r 30 w) := by
  rcases getCount_none hg with h1 | ⟨n, k, h1, h2⟩
  · have HN := Lib.hid (Num_none h h1)
    clear hg h1 h
    go_enter Try.func46, Try.ntmps46
    go_wp2_with fail
    (with_reducible refine HN.out.mono ?_); rintro e w2 ⟨rfl, hf2⟩
    go_wp2_with fail
    exact ⟨rfl, rfl, hf2⟩
  · have HN := Lib.hid (Num_yes h h1)
    clear hg h1 h
    by_cases h3 : n < 0
    · go_enter Try.func46, Try.ntmps46
      go_wp2_with fail
      (with_reducible refine HN.out.mono ?_); rintro e w2 ⟨rfl, hr2, hf2⟩
      have HF2 := Lib.hid hf2; clear hf2 hr2
      go_wp2_with fail
      (with_reducible refine (Fail_any _ _ 30 (by decide)).mono ?_); rintro e w3 ⟨rfl, rfl⟩
      go_wp2_with fail
      exact ⟨rfl, rfl, HF2.out⟩
    · have h4 : most < n := by omega
      clear h2
      go_enter Try.func46, Try.ntmps46
      go_wp2_with fail
      (with_reducible refine HN.out.mono ?_); rintro e w2 ⟨rfl, hr2, hf2⟩
      have HF2 := Lib.hid hf2; clear hf2 hr2
      go_wp2_with fail
      (with_reducible refine (Fail_any _ _ 30 (by decide)).mono ?_); rintro e w3 ⟨rfl, rfl⟩
      go_wp2_with fail
      exact ⟨rfl, rfl, HF2.out⟩
end Go.Proofs.Ytakebmbdcjbbgaa
