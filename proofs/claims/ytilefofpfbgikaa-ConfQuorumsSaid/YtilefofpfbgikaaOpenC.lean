/- A configuration as an argument. -/
import Derived.Test.YtilefofpfbgikaaOpen
import Derived.Test.YtilefofpfbgikaaSrt
import Derived.Lib.SmallJoins
namespace Go.Proofs.Ytilefofpfbgikaa
open Go.RowKit Go.Maps Go.Joins Go.ChangeShapes Go.WideShapes Go.Deep Mem

theorem sized_agg {H : Type} {P : Program} {ts : List TypeId} {ds : List (DataW H)} (h : (DataW.weightsEach P ts ds).all (· ≤ reachBytes) = true) {j : Nat} {t : TypeId} {fs : Array Field} {parts : List (DataW H)} (ht : ts[j]? = some t) (hd : ds[j]? = some (.agg parts))
    (hu : P.underlying t = some (.struct fs)) : (DataW.weightsEach P (fs.toList.map (·.type)) parts).all (· ≤ reachBytes) = true := by
  rw [List.all_eq_true] at h ⊢
  intro x hx
  exact h _ (DataW.weights_mem_each ht hd x (by simp [DataW.weights, hu]; simpa using hx))
/-- a list of ints that came in -/
structure IntsIn (w : World) (A : Option Addr) (c : Nat) (xs : List Int) : Prop where
  le : xs.length ≤ c
  cap : c ≤ maxLen
  sl : Sl fI w A xs
  wf : ∀ x ∈ xs, (Lit.int .i64 x).wf = true
  room : Room 8 xs.length
theorem open_ints_field {H : Type} {enc : TypeId × Value → H} {P : Program} {w : World} {t e : TypeId} {n : Nat} {v : Value} {y : DataW H × List MemPlace} (ht : P.underlying t = some (.slice e)) (hc : P.cellsOf e = 1) (he : P.underlying e = some (.int .i64)) (hb : P.bytesOf e = 8)
    (h : DataW.trod enc P w 0 (fun _ => true) true n t [v] = some y) {ts : List TypeId} {ds : List (DataW H)} (hsz : (DataW.weightsEach P ts ds).all (· ≤ reachBytes) = true) {j : Nat} (htj : ts[j]? = some t) (hdj : ds[j]? = some y.1) :
    ∃ A c xs, v = .slice A xs.length c ∧ IntsIn w A c xs := by
  have hv : ∃ A len cap, v = .slice A len cap ∧ cap ≤ maxLen := by
    rcases DataW.trod_slice ht h with ⟨e, _⟩ | ⟨a, len, cap, _, _, _, _, e, _, _, _, hm, _⟩
    · simp only [List.cons.injEq, and_true] at e
      exact ⟨none, 0, 0, e, Nat.zero_le _⟩
    · simp only [List.cons.injEq, and_true] at e
      exact ⟨_, _, _, e, hm⟩
  obtain ⟨A, len, cap, rfl, hm⟩ := hv
  obtain ⟨xs, rfl, hcap, hs, hq, hd⟩ := open_sl fI (fun z => (Lit.int .i64 z).wf = true) ht hc (d := y.1) (ps := y.2) ⟨n, h⟩ (fun v n y h => op_int he h)
  exact ⟨A, cap, xs, rfl, hcap, hm, hs, hq, room_of hsz htj hdj ht hb (match hd with | .inl h => .inl (congrArg List.length h) | .inr h => .inr h)⟩
set_option maxRecDepth 100000 in
theorem open_conf {H : Type} {enc : TypeId × Value → H} {w : World} {b0 : Nat} {v : Value} {d : DataW H} {p : List MemPlace} (hv : Value.okWide Try.prog w .any b0 24 v) (h : DataW.Trod enc Try.prog w 0 (fun _ => true) true 24 v d p)
    {ts : List TypeId} {ds : List (DataW H)} (hsz : (DataW.weightsEach Try.prog ts ds).all (· ≤ reachBytes) = true) {j : Nat} (htj : ts[j]? = some 24) (hdj : ds[j]? = some d) :
    ∃ A c vs B e ls, v = .agg #[.slice A vs.length c, .slice B ls.length e] ∧ IntsIn w A c vs ∧ IntsIn w B e ls := by
  obtain ⟨v0, v1, y0, y1, n, rfl, rfl, rfl, h0, h1⟩ := open_agg2 Try.underlying24 (by kernel_rfl) (by kernel_rfl) hv h
  have hs2 := sized_agg hsz htj hdj Try.underlying24
  obtain ⟨A, c, vs, rfl, hA⟩ := open_ints_field Try.underlying22 (by kernel_rfl) Try.underlying3 (by kernel_rfl) h0 hs2 (j := 0) rfl rfl
  obtain ⟨B, e, ls, rfl, hB⟩ := open_ints_field Try.underlying22 (by kernel_rfl) Try.underlying3 (by kernel_rfl) h1 hs2 (j := 1) rfl rfl
  exact ⟨A, c, vs, B, e, ls, rfl, hA, hB⟩
end Go.Proofs.Ytilefofpfbgikaa
