/- Layer 3: words and frames: the program's. -/
import Derived.Test.YtfnmofoecehcfaaSum
import Derived.Test.YtfnmofoecehcfaaPkA
namespace Go.Proofs.Ytfnmofoecehcfaa
open Go Go.RowKit Go.Maps Go.Lib Mem Pk

theorem Mem.Own.lit {α : Type} {f : α → Value} {base : Nat} {e : TypeId} {w : World} (xs : List α) (hm : xs.length ≤ maxLen) (hb : base ≤ w.heap.size) :
    Own f base e (w.alloc (.cells (xs.map f).toArray e)) (.slice (some ⟨w.heap.size, 0, none⟩) xs.length xs.length) xs := by
  refine ⟨by simp, .inr ⟨w.heap.size, xs.length, (xs.map f).toArray, rfl, hb, heap_alloc_new w _, Nat.le_refl _, hm, by simp, ?_⟩⟩
  rw [Nat.mul_one]
  exact List.take_of_length_le (by simp)
theorem word_row (u : Nat) : (wordB u).map fB = [.int .u8 ((u % 256 : Nat) : Int), .int .u8 ((u / 256 % 256 : Nat) : Int), .int .u8 ((u / 65536 % 256 : Nat) : Int), .int .u8 ((u / 16777216 % 256 : Nat) : Int)] := by
  have h : ∀ n : Nat, n < 256 → fB (UInt8.ofNat n) = .int .u8 (n : Int) := fun n hn => by unfold fB; rw [byte_of hn]
  unfold wordB
  simp only [List.map_cons, List.map_nil]
  rw [h _ (by omega), h _ (by omega), h _ (by omega), h _ (by omega)]
theorem word_own {w : World} (u : Nat) : Own fB w.heap.size 5 (w.alloc (.cells #[.int .u8 ((u % 256 : Nat) : Int), .int .u8 ((u / 256 % 256 : Nat) : Int), .int .u8 ((u / 65536 % 256 : Nat) : Int), .int .u8 ((u / 16777216 % 256 : Nat) : Int)] 5)) (.slice (some ⟨w.heap.size, 0, none⟩) 4 4) (wordB u) := by
  have h := Mem.Own.lit (f := fB) (base := w.heap.size) (e := 5) (w := w) (wordB u) (by rw [wordB_len]; decide) (Nat.le_refl _)
  rw [word_row, wordB_len] at h
  exact h
set_option maxRecDepth 100000 in
theorem word_any {w : World} (u : Nat) (hu : u < 2 ^ 32) : Calls Try.prog 37 #[.int .u32 (u : Int)] w (AppPost w.heap.size (wordB u) w) := by
  have hu' : u < 4294967296 := hu
  have HO := word_own (w := w) u
  obtain ⟨x0, h0⟩ : ∃ x, x = u % 256 := ⟨_, rfl⟩
  obtain ⟨x1, h1⟩ : ∃ x, x = u / 256 % 256 := ⟨_, rfl⟩
  obtain ⟨x2, h2⟩ : ∃ x, x = u / 65536 % 256 := ⟨_, rfl⟩
  obtain ⟨x3, h3⟩ : ∃ x, x = u / 16777216 % 256 := ⟨_, rfl⟩
  have a0 : (u : Int) % 256 = (x0 : Int) := by omega
  have a1 : (u : Int) / 256 % 256 = (x1 : Int) := by omega
  have a2 : (u : Int) / 65536 % 256 = (x2 : Int) := by omega
  have a3 : (u : Int) / 16777216 % 256 = (x3 : Int) := by omega
  have b0 : (x0 : Int) % 256 = (x0 : Int) := by omega
  have b1 : (x1 : Int) % 256 = (x1 : Int) := by omega
  have b2 : (x2 : Int) % 256 = (x2 : Int) := by omega
  have b3 : (x3 : Int) % 256 = (x3 : Int) := by omega
  rw [← h0, ← h1, ← h2, ← h3] at HO
  have HO := Lib.hid HO
  clear h0 h1 h2 h3 hu'
  clear hu
  go_enter Try.func37, Try.ntmps37
  go_wp2_with fail
  go_ret
  exact ⟨_, rfl, HO.out, (Below.refl _ _).alloc (Nat.le_refl _) _⟩
set_option maxRecDepth 100000 in
theorem Rword_any {w : World} (u : Nat) (hu : u < 2 ^ 32) : Calls Try.prog 47 #[.int .u32 (u : Int)] w (AppPost w.heap.size (wordB u) w) := by
  have hu' : u < 4294967296 := hu
  have HO := word_own (w := w) u
  obtain ⟨x0, h0⟩ : ∃ x, x = u % 256 := ⟨_, rfl⟩
  obtain ⟨x1, h1⟩ : ∃ x, x = u / 256 % 256 := ⟨_, rfl⟩
  obtain ⟨x2, h2⟩ : ∃ x, x = u / 65536 % 256 := ⟨_, rfl⟩
  obtain ⟨x3, h3⟩ : ∃ x, x = u / 16777216 % 256 := ⟨_, rfl⟩
  have a0 : (u : Int) % 256 = (x0 : Int) := by omega
  have a1 : (u : Int) / 256 % 256 = (x1 : Int) := by omega
  have a2 : (u : Int) / 65536 % 256 = (x2 : Int) := by omega
  have a3 : (u : Int) / 16777216 % 256 = (x3 : Int) := by omega
  have b0 : (x0 : Int) % 256 = (x0 : Int) := by omega
  have b1 : (x1 : Int) % 256 = (x1 : Int) := by omega
  have b2 : (x2 : Int) % 256 = (x2 : Int) := by omega
  have b3 : (x3 : Int) % 256 = (x3 : Int) := by omega
  rw [← h0, ← h1, ← h2, ← h3] at HO
  have HO := Lib.hid HO
  clear h0 h1 h2 h3 hu'
  clear hu
  go_enter Try.func47, Try.ntmps47
  go_wp2_with fail
  go_ret
  exact ⟨_, rfl, HO.out, (Below.refl _ _).alloc (Nat.le_refl _) _⟩
end Go.Proofs.Ytfnmofoecehcfaa
