/- Rows of structs: stores of many cells, copies; over any program. -/
import Derived.Laws.IdiomCopy
import Derived.Maps.AppendAt
import Derived.Lib.AppendZerosOnto
import Derived.Test.YtifgajinfcihmaaGreatDoorJAg
import Derived.Test.YtifgajinfcihmaaGreatDoorJAd
namespace Go.Proofs.YtifgajinfcihmaaGreatDoor.Mem
open Go Go.RowKit Go.Lib
def spl (cur : List Value) (o : Nat) (vs : List Value) : List Value := cur.take o ++ vs ++ cur.drop (o + vs.length)
theorem spl_len {cur : List Value} {o : Nat} {vs : List Value} (h : o + vs.length ≤ cur.length) : (spl cur o vs).length = cur.length := by
 unfold spl; rw [List.length_append, List.length_append, List.length_take, List.length_drop]; omega
theorem spl_cons {cur : List Value} {o : Nat} {v : Value} {vs : List Value} (h : o < cur.length) : spl (cur.set o v) (o + 1) vs = spl cur o (v :: vs) := by
 unfold spl
 have e1 : (cur.set o v).take (o + 1) = cur.take o ++ [v] := by
  rw [List.take_succ_eq_append_getElem (by rw [List.length_set]; exact h), List.take_set_of_le (Nat.le_refl _)]
  simp
 have e2 : (cur.set o v).drop (o + 1 + vs.length) = cur.drop (o + (v :: vs).length) := by
  rw [List.drop_set_of_lt (by omega), List.length_cons]
  congr 1; omega
 rw [e1, e2]
 simp
theorem Blk.setCells_ : ∀ (vs : List Value) {w : World} {g o : Nat} {t : TypeId} {cur : Array Value}, Blk w g t cur → o + vs.length ≤ cur.size → Blk (w.setCells g o vs) g t (spl cur.toList o vs).toArray
 | [], w, g, o, t, cur, h, _ => by
   have e : (spl cur.toList o []).toArray = cur := by unfold spl; simp
   rw [e]; exact h
 | v :: vs, w, g, o, t, cur, h, hl => by
   rw [List.length_cons] at hl
   have h1 := h.set_ o v
   have h2 := Blk.setCells_ vs (o := o + 1) h1 (by rw [Array.size_setIfInBounds]; omega)
   rw [Array.toList_setIfInBounds, spl_cons (by rw [Array.length_toList]; omega)] at h2
   exact h2
theorem grown_setCells {w0 : World} {g : Nat} : ∀ (us : List Value) (w : World) (j : Nat), w0.grownBy w (some g) → w0.grownBy (w.setCells g j us) (some g) := fun us w j h => grownBy_setCells us w j h
end Go.Proofs.YtifgajinfcihmaaGreatDoor.Mem
