/- slices.Sort of the call's own row of numbers. -/
import Derived.Test.YtakebmbdcjbbgaaLibC
import Derived.Test.YtakebmbdcjbbgaaOwn2
import Derived.Sort.OwnSortedInts
namespace Go.Proofs.Ytakebmbdcjbbgaa
open Go.RowKit Go.Maps Go.Sort Go.Shelf Mem

def fI : Int → Value := Value.int .i64
def srt (xs : List Int) : List Int := xs.mergeSort fun x y => decide (x ≤ y)
theorem srt_len (xs : List Int) : (srt xs).length = xs.length := by unfold srt; exact List.length_mergeSort ..
theorem srt_perm (xs : List Int) : (srt xs).Perm xs := by unfold srt; exact List.mergeSort_perm ..
theorem srt_sorted (xs : List Int) : (srt xs).Pairwise (· ≤ ·) := by
  have h := List.pairwise_mergeSort (le := fun x y : Int => decide (x ≤ y)) (fun a b c h1 h2 => by simp at *; omega) (fun a b => by simp; omega) xs
  unfold srt
  exact h.imp (fun h => by simpa using h)
theorem grownBy_refl (w : World) (k : Option Nat) : w.grownBy w k := ⟨rfl, rfl, rfl, Nat.le_refl _, fun _ _ _ => rfl⟩
/-- what a sort leaves -/
def SrtPost (base : Nat) (e : TypeId) (v : Value) (xs : List Int) (w : World) (x : Ending) (w' : World) : Prop :=
  x = .returned (.tuple #[]) ∧ Own fI base e w' v (srt xs) ∧ w.grownBy w' v.ownBlock
theorem sort_own {P : Program} {F : FuncId} {base : Nat} {e : TypeId} {w : World} {v : Value} {xs : List Int} (h : Own fI base e w v xs)
    (h0 : Calls P F #[.slice none 0 0] w fun e w' => e = .returned (.tuple #[]) ∧ w' = w)
    (h1 : ∀ blk cap, Holds (Value.int .i64) w blk 0 xs.toArray → blk < w.heap.size → Calls P F #[.slice (some ⟨blk, 0, none⟩) xs.length cap] w fun e w' =>
      e = .returned (.tuple #[]) ∧ ∃ n os, w' = grow (putRow (Value.int .i64) (Sort.ahead w n) blk 0 (xs.mergeSort fun x y => decide (x ≤ y)).toArray) os) :
    Calls P F #[v] w (SrtPost base e v xs w) := by
  have h9 := h
  rcases h.2 with ⟨rfl, hn⟩ | ⟨g, cap, cur, rfl, hb, hh, h2, h3, h4, h5⟩
  · have : xs = [] := List.eq_nil_of_length_eq_zero hn
    subst this
    refine h0.mono ?_
    rintro x w' ⟨rfl, rfl⟩
    exact ⟨rfl, by unfold srt; simpa using h9, grownBy_refl _ _⟩
  · have hlt : g < w.heap.size := by
      rcases Nat.lt_or_ge g w.heap.size with h | h
      · exact h
      · rw [Array.getElem?_eq_none h] at hh; cases hh
    refine (h1 g cap (holds_of_blockI hh (by have h6 := h5; rw [Nat.mul_one] at h6; exact h6)) hlt).mono ?_
    rintro x w' ⟨rfl, n, os, rfl⟩
    refine ⟨rfl, ?_, grownBy_sortedI _⟩
    have := ownsRow_sortedI (n := n) (os := os) (ts := srt xs) (srt_len xs) hb hh h2 h3 h4
    unfold Own
    rw [srt_len]
    exact this
theorem Sort64_any {base : Nat} {e : TypeId} {w : World} {v : Value} {xs : List Int} (h : Own fI base e w v xs) (hn : xs.length < 4611686018427387904) :
    Calls Try.prog 55 #[v] w (SrtPost base e v xs w) :=
  sort_own h (AnyM.slices_Sort_int_none Try.sort64 none 0 w) fun blk cap hH hblk => AnyM.slices_Sort_int Try.sort64 blk 0 cap xs w hH hblk hn
end Go.Proofs.Ytakebmbdcjbbgaa
