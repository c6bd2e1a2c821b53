/- Arguments opened: slices of bytes, bools, ints, strings. -/
import Derived.Test.YtfpomllhkbbipaaGreatDoorProg
import Derived.Test.YtfpomllhkbbipaaGreatDoorHeap
import Derived.ChangeArms
import Derived.Deep.Slices
import Derived.Deep.Fields
import Derived.ChangeSame
namespace Go.Proofs.YtfpomllhkbbipaaGreatDoor
open Go.RowKit Mem

section
variable {H : Type} {enc : TypeId × Value → H} {P : Program} {w : World} {base : Nat} {spare : Nat → Bool} {held : Bool} {t : TypeId} {n : Nat} {v : Value} {y : DataW H × List MemPlace}
theorem op_byte (ht : P.underlying t = some (.int .u8)) (h : DataW.trod enc P w base spare held n t [v] = some y) : ∃ z : UInt8, v = .int .u8 (z.toNat : Int) ∧ True := by
  obtain ⟨x, e, _, wf⟩ := DataW.trod_int ht h
  simp only [List.cons.injEq, and_true] at e
  have e1 : IntKind.u8.min = 0 := rfl
  have e2 : IntKind.u8.max = 255 := rfl
  simp [Lit.wf, e1, e2] at wf
  refine ⟨UInt8.ofNat x.toNat, ?_, trivial⟩
  rw [e, UInt8.toNat_ofNat']
  congr 1; omega
theorem op_bool (ht : P.underlying t = some .bool) (h : DataW.trod enc P w base spare held n t [v] = some y) : ∃ z : Bool, v = .bool z ∧ True := by
  obtain ⟨x, e, _⟩ := DataW.trod_bool ht h
  simp only [List.cons.injEq, and_true] at e
  exact ⟨x, e, trivial⟩
theorem op_int (ht : P.underlying t = some (.int .i64)) (h : DataW.trod enc P w base spare held n t [v] = some y) : ∃ z : Int, v = .int .i64 z ∧ (Lit.int .i64 z).wf = true := by
  obtain ⟨x, e, _, wf⟩ := DataW.trod_int ht h
  simp only [List.cons.injEq, and_true] at e
  exact ⟨x, e, wf⟩
theorem op_string (ht : P.underlying t = some .string) (h : DataW.trod enc P w base spare held n t [v] = some y) : ∃ z : ByteArray, v = .string z ∧ z.size ≤ maxLen := by
  obtain ⟨x, e, _, hx⟩ := DataW.trod_string ht h
  simp only [List.cons.injEq, and_true] at e
  exact ⟨x, e, hx⟩
/-- a field that is a slice -/
theorem op_slice {α : Type} (f : α → Value) (Q : α → Prop) {e : TypeId} (ht : P.underlying t = some (.slice e)) (hc : P.cellsOf e = 1) (h : DataW.trod enc P w 0 (fun _ => true) true n t [v] = some y)
    (hx : ∀ (v : Value) (n : Nat) (y : DataW H × List MemPlace), DataW.trod enc P w 0 (fun _ => true) true n e [v] = some y → ∃ z, v = f z ∧ Q z) :
    ∃ (A : Option Addr) (c : Nat) (xs : List α), v = .slice A xs.length c ∧ xs.length ≤ c ∧ c ≤ maxLen ∧ Sl f w A xs ∧ (∀ x ∈ xs, Q x) := by
  have hv : ∃ A len cap, v = .slice A len cap ∧ cap ≤ maxLen := by
    rcases DataW.trod_slice ht h with ⟨e, _⟩ | ⟨a, len, cap, _, _, _, _, e, _, _, _, hm, _⟩
    · simp only [List.cons.injEq, and_true] at e
      exact ⟨none, 0, 0, e, Nat.zero_le _⟩
    · simp only [List.cons.injEq, and_true] at e
      exact ⟨_, _, _, e, hm⟩
  obtain ⟨A, len, cap, rfl, hm⟩ := hv
  obtain ⟨xs, rfl, hcap, hs, hq, _⟩ := open_sl f Q ht hc ⟨n, h⟩ hx
  exact ⟨A, cap, xs, rfl, hcap, hm, hs, hq⟩
end

section
open Go.ChangeShapes Go.WideShapes Go.Deep
variable {H : Type} {enc : TypeId × Value → H} {P : Program} {w : World} {base : Nat} {spare : Nat → Bool} {held : Bool}
theorem open_slice_fields {t e : TypeId} {fs : Array Field} {fuel : Nat} {cs : List Value} {x : DataW H × List MemPlace} (ht : P.underlying t = some (.slice e)) (he : P.underlying e = some (.struct fs))
    (hone : oneCellFields P fs = true) (hC : P.cellsOf e = fs.size) (h : DataW.trod enc P w base spare held fuel t cs = some x) :
    (cs = [.slice none 0 0] ∧ x = (.nil, [])) ∨
    ∃ (a : Addr) (len cap m : Nat) (D : Nat → DataW H) (Pl : Nat → List MemPlace), cs = [.slice (some a) len cap] ∧ base ≤ a.block ∧ len ≤ cap ∧ cap ≤ maxLen ∧ m = (if spare a.block then cap else len) ∧
      x = (.slice ((List.range len).map D) ((List.range (m - len)).map fun j => D (len + j)), MemPlace.row a (m * fs.size) ++ (List.range m).flatMap Pl) ∧
      ∀ i, i < m → ∃ (ys : List (DataW H × List MemPlace)) (n : Nat), D i = .agg (ys.map (·.1)) ∧ Pl i = ys.flatMap (·.2) ∧ ys.length = fs.size ∧
        ∀ (j : Nat) (f : Field), fs[j]? = some f → ∃ (v : Value) (y : DataW H × List MemPlace), w.cell? (a.add (i * fs.size + j)) = some v ∧ ys[j]? = some y ∧ DataW.trod enc P w base spare held n f.type [v] = some y := by
  rcases open_slice ht h with h0 | ⟨a, len, cap, m, n, D, Pl, hcs, hb, hl, hm, hmm, hx, hi⟩
  · exact .inl h0
  · refine .inr ⟨a, len, cap, m, D, Pl, hcs, hb, hl, hm, hmm, by rw [hC] at hx; exact hx, fun i him => ?_⟩
    obtain ⟨cs', hc, ht'⟩ := hi i him
    rw [hC] at hc
    obtain ⟨ys, n', hn', hy, hlen, hyl, hf⟩ := DataW.trod_struct he ht'
    obtain ⟨_, hcl, hat⟩ := World.cells?_some hc
    simp only [Prod.mk.injEq] at hy
    refine ⟨ys, n', hy.1, hy.2, hyl, fun j f hj => ?_⟩
    obtain ⟨ho, hk⟩ := hone_of hone j f hj
    have hjl : j < fs.size := (Array.getElem?_eq_some_iff.1 hj).1
    have hcell := hat j hjl
    have hv : cs'[j]? = some (cs'[j]'(by omega)) := List.getElem?_eq_getElem (by omega)
    have h1 := hf j f hj
    rw [ho, hk] at h1
    have hone' : (cs'.drop j).take 1 = [cs'[j]'(by omega)] := by
      rw [List.drop_eq_getElem_cons (by omega)]
      rfl
    rw [hone'] at h1
    have hys : ys[j]? = some (ys[j]'(by omega)) := List.getElem?_eq_getElem (by omega)
    refine ⟨_, _, ?_, hys, h1.trans hys⟩
    rw [← Go.Deep.add_add, hcell, hv]

/-- a slice of structs whose every element reads as 'f' of something good -/
theorem open_structs {α : Type} (f : α → Nat → Value) (Q : α → Prop) {t e : TypeId} {fs : Array Field} {fuel : Nat} {v : Value} {x : DataW H × List MemPlace} (ht : P.underlying t = some (.slice e)) (he : P.underlying e = some (.struct fs))
    (hone : oneCellFields P fs = true) (hC : P.cellsOf e = fs.size) (hpos : 0 < fs.size) (h : DataW.trod enc P w 0 (fun _ => true) true fuel t [v] = some x)
    (hx : ∀ (c : Nat → Value) (n : Nat), (∀ (j : Nat) (fl : Field), fs[j]? = some fl → ∃ y, DataW.trod enc P w 0 (fun _ => true) true n fl.type [c j] = some y) → ∃ z, (∀ j, j < fs.size → c j = f z j) ∧ Q z) :
    ∃ (A : Option Addr) (cap : Nat) (xs : List α), v = .slice A xs.length cap ∧ xs.length ≤ cap ∧ cap ≤ maxLen ∧ (0 < xs.length → ∃ b o, A = some ⟨b, o, none⟩ ∧ b < w.heap.size ∧ ∀ j (h : j < xs.length) i, i < fs.size → w.cell? ⟨b, o + j * fs.size + i, none⟩ = some (f xs[j] i)) ∧ (∀ x ∈ xs, Q x) := by
  rcases open_slice_fields ht he hone hC h with ⟨e, _⟩ | ⟨a, len, cap, m, D, Pl, hcs, _, hl, hm, hmm, _, hi⟩
  · simp only [List.cons.injEq, and_true] at e
    exact ⟨none, 0, [], e, Nat.le_refl _, Nat.zero_le _, fun h => absurd h (by simp), by simp⟩
  · simp only [List.cons.injEq, and_true] at hcs
    rw [if_pos rfl] at hmm
    subst hmm
    have key : ∀ m, m ≤ len → ∃ xs : List α, xs.length = m ∧ (∀ j (h : j < xs.length) i, i < fs.size → w.cell? (a.add (j * fs.size + i)) = some (f xs[j] i)) ∧ ∀ x ∈ xs, Q x := by
      intro m
      induction m with
      | zero => intro _; exact ⟨[], rfl, fun j h => by simp at h, by simp⟩
      | succ m ih =>
        intro hm'
        obtain ⟨xs, h1, h2, h3⟩ := ih (by omega)
        obtain ⟨ys, n, _, _, _, hf⟩ := hi m (by omega)
        obtain ⟨z, hz, hq⟩ := hx (fun j => (w.cell? (a.add (m * fs.size + j))).getD undef) n (fun j fl hfl => by
          obtain ⟨v', y, hc, _, htr⟩ := hf j fl hfl
          simp only [hc, Option.getD_some]
          exact ⟨y, htr⟩)
        refine ⟨xs ++ [z], by simp [h1], fun j hj i hi' => ?_, fun x hx => ?_⟩
        · by_cases e : j < xs.length
          · rw [h2 j e i hi', List.getElem_append_left e]
          · have : j = m := by simp at hj; omega
            subst this
            obtain ⟨fl, hfl⟩ : ∃ fl, fs[i]? = some fl := ⟨fs[i], Array.getElem?_eq_getElem hi'⟩
            obtain ⟨v', y, hc, _, htr⟩ := hf i fl hfl
            have h5 := hz i hi'
            simp only [hc, Option.getD_some] at h5
            rw [hc, h5, List.getElem_append_right (by omega)]
            simp
        · rcases List.mem_append.1 hx with hx | hx
          · exact h3 x hx
          · simp only [List.mem_singleton] at hx; subst hx; exact hq
    obtain ⟨xs, h1, h2, h3⟩ := key len (Nat.le_refl _)
    refine ⟨some a, _, xs, by rw [hcs, h1], by omega, hm, fun h0 => ?_, h3⟩
    have h00 := h2 0 h0 0 (by omega)
    have hspot : a.spot = none := by
      cases hs : a.spot with
      | none => rfl
      | some s => exfalso; simp only [World.cell?, Addr.add, hs, Nat.zero_mul, Nat.zero_add, if_true, Option.isSome_some] at h00; split at h00 <;> simp at h00
    obtain ⟨ab, ao, sp⟩ := a
    simp only at hspot
    subst hspot
    refine ⟨ab, ao, rfl, ?_, fun j hj i hi' => ?_⟩
    · have := lt_of_cell h00
      simp [Addr.add] at this; exact this
    · rw [← h2 j hj i hi']
      congr 1
      unfold Addr.add; split
      · rename_i h0'; simp; omega
      · simp; omega
end
end Go.Proofs.YtfpomllhkbbipaaGreatDoor
