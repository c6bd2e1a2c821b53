/- What both the bytes' and the disk's texts need: bytes as elements, slices cut. -/
import Derived.Test.YtfpomllhkbbipaaGreatByt
namespace Go.Proofs.YtfpomllhkbbipaaGreat
open Go Go.RowKit Go.Maps Go.Lib Mem

theorem u8T : SliceT Tryz.prog 49 5 (.int .u8 0) 1 := sliceT_mk Tryz.underlying49 rfl (by kernel_rfl)
theorem fB_one (u : UInt8) : (fB u).oneCell' = true := rfl
def partA (A : Option Addr) (c k : Nat) : Option Addr := if c = k then A else A.map (·.add k)
theorem cut_lh {P : Program} {t e : TypeId} (hu : P.underlying t = some (.slice e)) (hs : ∀ w, (sizeOf e).run P w = .ok 1 w) (A : Option Addr) (len cap l h : Nat) (li hi : Int)
    (hl : li = l) (hh : hi = h) (h1 : l ≤ h) (h2 : h ≤ cap) (w : World) : (Instr.slice t (.slice A len cap) (some (.int .i64 li)) (some (.int .i64 hi)) none).run P w = .ok (.slice (partA A cap l) (h - l) (cap - l)) w := by
  subst hl; subst hh
  have he : P.elem t = e := by simp [Program.elem, hu]
  have hu' : P.underlying t = some (.slice (P.elem t)) := by rw [he]; exact hu
  rw [run_slice_lh w t A len cap hu' .i64 .i64 l h (by omega) (by omega) (by omega), he, hs]
  show Result.ok (sliced A (l : Int).toNat (h : Int).toNat cap 1) w = _
  simp [sliced, partA]
theorem cut_l {P : Program} {t e : TypeId} (hu : P.underlying t = some (.slice e)) (hs : ∀ w, (sizeOf e).run P w = .ok 1 w) (A : Option Addr) (len cap l : Nat) (li : Int)
    (hl : li = l) (h1 : l ≤ len) (w : World) : (Instr.slice t (.slice A len cap) (some (.int .i64 li)) none none).run P w = .ok (.slice (partA A cap l) (len - l) (cap - l)) w := by
  subst hl
  have he : P.elem t = e := by simp [Program.elem, hu]
  have hu' : P.underlying t = some (.slice (P.elem t)) := by rw [he]; exact hu
  rw [run_slice_l w t A len cap hu' .i64 l (by omega) (by omega), he, hs]
  show Result.ok (sliced A (l : Int).toNat len cap 1) w = _
  simp [sliced, partA]
theorem Mem.Sl.part {α : Type} {f : α → Value} {w : World} {A : Option Addr} {xs : List α} (h : Sl f w A xs) {c k m : Nat} (hm : k + m ≤ xs.length) (hc : xs.length ≤ c) :
    Sl f w (partA A c k) ((xs.drop k).take m) := by
  have hl : ((xs.drop k).take m).length = m := by simp; omega
  refine ⟨by rw [hl]; exact Nat.le_trans (by omega) h.1, fun hn => ?_⟩
  rw [hl] at hn
  obtain ⟨b, o, rfl, hcell⟩ := h.2 (by omega)
  refine ⟨b, o + k, ?_, fun j hj => ?_⟩
  · unfold partA
    rw [if_neg (by omega)]
    simp only [Option.map_some, Addr.add]
    by_cases h0 : k = 0
    · subst h0; rfl
    · rw [if_neg h0]
  · rw [Nat.add_assoc, hcell (k + j) (by rw [hl] at hj; omega)]
    simp
end Go.Proofs.YtfpomllhkbbipaaGreat
