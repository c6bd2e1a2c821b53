/- Rows of structs: stores of many cells, copies; over any program. -/
import Derived.Test.YtakebmbdcjbbgaaRow
import Derived.Test.YtakebmbdcjbbgaaAp2
import Derived.Laws.IdiomCopy
import Derived.Maps.AppendAt
import Derived.Lib.AppendZerosOnto
namespace Go.Proofs.Ytakebmbdcjbbgaa.Mem
open Go Go.RowKit Go.Lib

def spl (cur : List Value) (o : Nat) (vs : List Value) : List Value := cur.take o ++ vs ++ cur.drop (o + vs.length)
theorem spl_len {cur : List Value} {o : Nat} {vs : List Value} (h : o + vs.length ≤ cur.length) : (spl cur o vs).length = cur.length := by
  unfold spl; rw [List.length_append, List.length_append, List.length_take, List.length_drop]; omega
theorem spl_cons {cur : List Value} {o : Nat} {v : Value} {vs : List Value} (h : o < cur.length) : spl (cur.set o v) (o + 1) vs = spl cur o (v :: vs) := by
  unfold spl
  have e1 : (cur.set o v).take (o + 1) = cur.take o ++ [v] := by
    rw [List.take_succ_eq_append_getElem (by rw [List.length_set]; exact h), List.take_set_of_le (Nat.le_refl _)]
    simp
  have e2 : (cur.set o v).drop (o + 1 + vs.length) = cur.drop (o + (v :: vs).length) := by
    rw [List.drop_set_of_lt (by omega), List.length_cons]
    congr 1; omega
  rw [e1, e2]
  simp
theorem Blk.setCells_ : ∀ (vs : List Value) {w : World} {g o : Nat} {t : TypeId} {cur : Array Value}, Blk w g t cur → o + vs.length ≤ cur.size → Blk (w.setCells g o vs) g t (spl cur.toList o vs).toArray
  | [], w, g, o, t, cur, h, _ => by
    have e : (spl cur.toList o []).toArray = cur := by unfold spl; simp
    rw [e]; exact h
  | v :: vs, w, g, o, t, cur, h, hl => by
    rw [List.length_cons] at hl
    have h1 := h.set_ o v
    have h2 := Blk.setCells_ vs (o := o + 1) h1 (by rw [Array.size_setIfInBounds]; omega)
    rw [Array.toList_setIfInBounds, spl_cons (by rw [Array.length_toList]; omega)] at h2
    exact h2
theorem grown_setCells {w0 : World} {g : Nat} : ∀ (us : List Value) (w : World) (j : Nat), w0.grownBy w (some g) → w0.grownBy (w.setCells g j us) (some g) := fun us w j h => grownBy_setCells us w j h
/-- all is read before anything is written: elements of k cells -/
theorem run_copy_cellsK {P : Program} (w : World) (dT sT ty elem : TypeId) (b o dLen dCap : Nat) (a : Addr) (sLen sCap k : Nat) (cs : List Value) (m : Nat) (hm : Nat.min sLen dLen = m)
    (hu : P.underlying dT = some (.slice elem)) (hs : (P.info? elem).map (·.size) = some k) (hn : cs.length = m * k)
    (hsrc : ∀ j v, cs[j]? = some v → w.cell? (a.add j) = some v) (hc : ∀ j, j < cs.length → (w.cell? ⟨b, o + j, none⟩).isSome = true) (hf : ∀ j, j < cs.length → w.frozen? ⟨b, o + j, none⟩ = false) (h1 : ∀ v ∈ cs, v.oneCell' = true) :
    (Builtin.copy_ #[dT, sT] ty #[.slice (some ⟨b, o, none⟩) dLen dCap, .slice (some a) sLen sCap]).run P w = .ok (goInt m) (w.setCells b o cs) := by
  have hl := run_loadCells_list (P := P) w a cs hsrc
  have hst := run_storeCells_cells (P := P) b o cs 0 w (by simpa using hc) (by simpa using hf) h1
  cases hq : P.info? elem with
  | none => simp [hq] at hs
  | some i =>
    have hi : i.size = k := by simpa [hq] using hs
    simp [Builtin.copy_, run_underlying hu, Builtin.lenOf, Builtin.firstCells, sizeOf, typeInfo, hq, hi, hm, ← hn, hl, hst]
/-- a row of structs, its whole block -/
theorem OwnK.block {α : Type} {k : Nat} {f : α → List Value} {base : Nat} {e : TypeId} {w : World} {g n c : Nat} {xs : List α} (h : OwnK k f base e w (.slice (some ⟨g, 0, none⟩) n c) xs) :
    n = xs.length ∧ base ≤ g ∧ n ≤ c ∧ c ≤ maxLen ∧ ∃ cur, Blk w g e cur ∧ cur.size = c * k ∧ cur.toList.take (n * k) = xs.flatMap f := by
  rcases h.2 with ⟨h1, -⟩ | ⟨g', cap, cur, hv, hb, hh, hnc, hcap, hsz, htake⟩
  · cases h1
  · injection hv with a b c'
    injection a with a; injection a with a
    subst a; subst b; subst c'
    exact ⟨rfl, hb, hnc, hcap, cur, hh, hsz, htake⟩
theorem OwnK.mkB {α : Type} {k : Nat} {f : α → List Value} {base : Nat} {e : TypeId} {w : World} {g c : Nat} {xs : List α} (hf : ∀ x, (f x).length = k) (hb : base ≤ g) (hc : xs.length ≤ c) (hm : c ≤ maxLen) {cur : Array Value} (hh : Blk w g e cur) (hsz : cur.size = c * k) (ht : cur.toList.take (xs.length * k) = xs.flatMap f) :
    OwnK k f base e w (.slice (some ⟨g, 0, none⟩) xs.length c) xs := ⟨by rw [flatMap_len hf], .inr ⟨g, c, cur, rfl, hb, hh, hc, hm, hsz, ht⟩⟩
end Go.Proofs.Ytakebmbdcjbbgaa.Mem
