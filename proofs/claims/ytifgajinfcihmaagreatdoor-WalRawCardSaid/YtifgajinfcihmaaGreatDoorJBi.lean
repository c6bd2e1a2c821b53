/- Arguments opened: slices of bytes, bools, ints, strings. -/
import Derived.Test.YtifgajinfcihmaaGreatDoorProg
import Derived.ChangeArms
import Derived.Deep.Slices
import Derived.Deep.Fields
import Derived.ChangeSame
import Derived.Test.YtifgajinfcihmaaGreatDoorJAa
namespace Go.Proofs.YtifgajinfcihmaaGreatDoor
open Go.RowKit Mem
section
variable {H : Type} {enc : TypeId × Value → H} {P : Program} {w : World} {base : Nat} {spare : Nat → Bool} {held : Bool} {t : TypeId} {n : Nat} {v : Value} {y : DataW H × List MemPlace}
theorem op_byte (ht : P.underlying t = some (.int .u8)) (h : DataW.trod enc P w base spare held n t [v] = some y) : ∃ z : UInt8, v = .int .u8 (z.toNat : Int) ∧ True := by
 obtain ⟨x, e, _, wf⟩ := DataW.trod_int ht h
 simp only [List.cons.injEq, and_true] at e
 have e1 : IntKind.u8.min = 0 := rfl
 have e2 : IntKind.u8.max = 255 := rfl
 simp [Lit.wf, e1, e2] at wf
 refine ⟨UInt8.ofNat x.toNat, ?_, trivial⟩
 rw [e, UInt8.toNat_ofNat']
 congr 1; omega
theorem op_bool (ht : P.underlying t = some .bool) (h : DataW.trod enc P w base spare held n t [v] = some y) : ∃ z : Bool, v = .bool z ∧ True := by
 obtain ⟨x, e, _⟩ := DataW.trod_bool ht h
 simp only [List.cons.injEq, and_true] at e
 exact ⟨x, e, trivial⟩
theorem op_int (ht : P.underlying t = some (.int .i64)) (h : DataW.trod enc P w base spare held n t [v] = some y) : ∃ z : Int, v = .int .i64 z ∧ (Lit.int .i64 z).wf = true := by
 obtain ⟨x, e, _, wf⟩ := DataW.trod_int ht h
 simp only [List.cons.injEq, and_true] at e
 exact ⟨x, e, wf⟩
theorem op_slice {α : Type} (f : α → Value) (Q : α → Prop) {e : TypeId} (ht : P.underlying t = some (.slice e)) (hc : P.cellsOf e = 1) (h : DataW.trod enc P w 0 (fun _ => true) true n t [v] = some y)
 (hx : ∀ (v : Value) (n : Nat) (y : DataW H × List MemPlace), DataW.trod enc P w 0 (fun _ => true) true n e [v] = some y → ∃ z, v = f z ∧ Q z) :
 ∃ (A : Option Addr) (c : Nat) (xs : List α), v = .slice A xs.length c ∧ xs.length ≤ c ∧ c ≤ maxLen ∧ Sl f w A xs ∧ (∀ x ∈ xs, Q x) := by
 have hv : ∃ A len cap, v = .slice A len cap ∧ cap ≤ maxLen := by
  rcases DataW.trod_slice ht h with ⟨e, _⟩ | ⟨a, len, cap, _, _, _, _, e, _, _, _, hm, _⟩
  ·simp only [List.cons.injEq, and_true] at e
   exact ⟨none, 0, 0, e, Nat.zero_le _⟩
  ·simp only [List.cons.injEq, and_true] at e
   exact ⟨_, _, _, e, hm⟩
 obtain ⟨A, len, cap, rfl, hm⟩ := hv
 obtain ⟨xs, rfl, hcap, hs, hq, _⟩ := open_sl f Q ht hc ⟨n, h⟩ hx
 exact ⟨A, cap, xs, rfl, hcap, hm, hs, hq⟩
end
end Go.Proofs.YtifgajinfcihmaaGreatDoor
