/- Slices cut: s[a:b], s[a:]. -/
import Derived.Test.YtfpomllhkbbipaaGreatCutB
import Derived.Test.YtfpomllhkbbipaaGreatPk
namespace Go.Proofs.YtfpomllhkbbipaaGreat
open Go Go.RowKit Go.Maps Go.Lib Mem

theorem Mem.SlB.cutL {α : Type} {f : α → Value} {e : TypeId} {F : Nat → Prop} {w : World} {A : Option Addr} {xs : List α} (h : SlB f e F w A xs) {c : Nat} (k : Nat) (hk : k ≤ xs.length) (hc : xs.length ≤ c) : SlB f e F w (partA A c k) (xs.drop k) := by
  unfold partA
  by_cases h0 : c = k
  · rw [if_pos h0, List.drop_of_length_le (by omega)]; exact SlB.nil
  · rw [if_neg h0]; exact h.dropM k
theorem SlF.cutL {F : Nat → Prop} {w : World} {A : Option Addr} {xs : List UInt8} (h : SlF F w A xs) {c : Nat} (k : Nat) (hk : k ≤ xs.length) (hc : xs.length ≤ c) : SlF F w (partA A c k) (xs.drop k) := by
  obtain ⟨e, h⟩ := h; exact ⟨e, h.cutL k hk hc⟩
theorem sizeU8 (w : World) : (sizeOf 5).run Tryz.prog w = .ok 1 w := by kernel_rfl
theorem sizeI64 (w : World) : (sizeOf 3).run Tryz.prog w = .ok 1 w := by kernel_rfl
theorem cutB (A : Option Addr) (len cap l : Nat) (h1 : l ≤ len) (w : World) : (Instr.slice 49 (.slice A len cap) (some (.int .i64 (l : Int))) none none).run Tryz.prog w = .ok (.slice (partA A cap l) (len - l) (cap - l)) w :=
  cut_l Tryz.underlying49 sizeU8 A len cap l l rfl h1 w
theorem cutI (A : Option Addr) (len cap l : Nat) (h1 : l ≤ len) (w : World) : (Instr.slice 77 (.slice A len cap) (some (.int .i64 (l : Int))) none none).run Tryz.prog w = .ok (.slice (partA A cap l) (len - l) (cap - l)) w :=
  cut_l Tryz.underlying77 sizeI64 A len cap l l rfl h1 w
theorem cutI2 (A : Option Addr) (len cap l h : Nat) (h1 : l ≤ h) (h2 : h ≤ cap) (w : World) : (Instr.slice 77 (.slice A len cap) (some (.int .i64 (l : Int))) (some (.int .i64 (h : Int))) none).run Tryz.prog w = .ok (.slice (partA A cap l) (h - l) (cap - l)) w :=
  cut_lh Tryz.underlying77 sizeI64 A len cap l h l h rfl rfl h1 h2 w
end Go.Proofs.YtfpomllhkbbipaaGreat
