/- Layer 13: the laws' arguments: Puts. -/
import Derived.Test.YtakebmbdcjbbgaaOpenR
import Derived.Deep.Strs
namespace Go.Proofs.Ytakebmbdcjbbgaa
open Go.RowKit Go.ChangeShapes Go.WideShapes Go.Deep Mem

/-- a Put of a session, a number, a verdict -/
structure OpS where
  id : Int
  seq : Int
  code : Int
  num : Int
def opN (o : OpS) : List Value := [.int .i64 o.id, .int .i64 o.seq, .int .i64 o.code, .int .i64 o.num]
structure OpOk (o : OpS) : Prop where
  id : (Lit.int .i64 o.id).wf = true
  seq : (Lit.int .i64 o.seq).wf = true
  code : (Lit.int .i64 o.code).wf = true
  num : (Lit.int .i64 o.num).wf = true
structure OpsIn (w : World) (A : Option Addr) (c : Nat) (xs : List OpS) : Prop where
  le : xs.length ≤ c
  cap : c ≤ maxLen
  sl : SlC 4 opN w A xs
  ok : ∀ x ∈ xs, OpOk x
  room : Room 32 xs.length
set_option maxRecDepth 100000 in
theorem open_op {H : Type} {enc : TypeId × Value → H} {w : World} {n : Nat} {cs : List Value} {y : DataW H × List MemPlace} (h : DataW.trod enc Try.prog w 0 (fun _ => true) true n 27 cs = some y) (hl : cs.length = 4) : ∃ z, cs = opN z ∧ OpOk z := by
  obtain ⟨y0, y1, y2, m, -, -, h0, h1, h2⟩ := trod_struct3 Try.underlying27 h
  have k2 : Try.prog.cellsOf 2 = 1 := by kernel_rfl
  have kV : Try.prog.cellsOf 25 = 2 := by kernel_rfl
  have kE : Try.prog.cellsOf 23 = 1 := by kernel_rfl
  match cs, hl with
  | [a, b, c, d], _ =>
    simp [k2, kV] at h0 h1 h2
    obtain ⟨u0, u1, m', -, -, g0, g1⟩ := trod_struct2 Try.underlying25 h2
    simp [kE, k2] at g0 g1
    obtain ⟨z0, rfl, w0⟩ := op_int Try.underlying2 h0
    obtain ⟨z1, rfl, w1⟩ := op_int Try.underlying2 h1
    obtain ⟨z2, rfl, w2⟩ := op_int Try.underlying23 g0
    obtain ⟨z3, rfl, w3⟩ := op_int Try.underlying2 g1
    exact ⟨⟨z0, z1, z2, z3⟩, rfl, ⟨w0, w1, w2, w3⟩⟩
set_option maxRecDepth 100000 in
theorem open_ops {H : Type} {enc : TypeId × Value → H} {w : World} {A : Option Addr} {len cap : Nat} {d : DataW H} {ps : List MemPlace} (h : DataW.Trod enc Try.prog w 0 (fun _ => true) true 22 (.slice A len cap) d ps)
    {ts : List TypeId} {ds : List (DataW H)} (hsz : (DataW.weightsEach Try.prog ts ds).all (· ≤ reachBytes) = true) {j : Nat} (htj : ts[j]? = some 22) (hdj : ds[j]? = some d) :
    ∃ xs, len = xs.length ∧ OpsIn w A cap xs := by
  obtain ⟨xs, e, h1, h2, h3, h4, h5⟩ := open_rows opN OpOk Try.underlying22 (k := 4) (by kernel_rfl) (by decide) h (fun cs n y h hl => open_op h hl)
  refine ⟨xs, e, by omega, h2, h3, h4, ?_⟩
  rcases h5 with ⟨rfl, rfl⟩ | ⟨a, -, D, E, rfl, hD⟩
  · unfold Room; simp
  · exact room_of hsz htj hdj Try.underlying22 (by kernel_rfl) (.inr ⟨D, E, rfl, hD⟩)
set_option maxRecDepth 100000 in
theorem open_op1 {H : Type} {enc : TypeId × Value → H} {w : World} {b0 : Nat} {v : Value} {d : DataW H} {ps : List MemPlace} (hv : Value.okWide Try.prog w .any b0 27 v) (h : DataW.Trod enc Try.prog w 0 (fun _ => true) true 27 v d ps) :
    ∃ z, v = .agg (opN z).toArray ∧ OpOk z := by
  obtain ⟨cs, rfl, hsc⟩ := okWide_struct Try.underlying27 hv
  obtain ⟨fuel, hf⟩ := h
  have h4 : cs.toList.length = 4 := by
    have k4 : Try.prog.cellsOf 27 = 4 := by kernel_rfl
    rw [Array.length_toList, hsc, k4]
  obtain ⟨z, hz, hok⟩ := open_op (cs := cs.toList) hf h4
  exact ⟨z, by rw [← hz], hok⟩
end Go.Proofs.Ytakebmbdcjbbgaa
