/- Layer 5: a script as an argument. -/
import Derived.Test.YtepkjnhijocojaaDskT
namespace Go.Proofs.Ytepkjnhijocojaa
open Go.RowKit Go.Maps Mem Dsk

theorem open_script {H : Type} {enc : TypeId × Value → H} {w : World} {v : Value} {d : DataW H} {ps : List MemPlace} (h : DataW.Trod enc Try.prog w 0 (fun _ => true) true 43 v d ps) (hv : ∃ A len cap, v = .slice A len cap) :
    ∃ (A : Option Addr) (cap : Nat) (ops : List OpR), v = .slice A ops.length cap ∧ Script w.heap.size w A ops := by
  obtain ⟨A, len, cap, rfl⟩ := hv
  obtain ⟨fuel, hf⟩ := h
  have hf : DataW.trod enc Try.prog w 0 (fun _ => true) true fuel 43 [.slice A len cap] = some (d, ps) := hf
  obtain ⟨A', cap', ops, e, hle, hcm, hc, hq⟩ := open_structs (fuel := fuel) (v := .slice A len cap) OpR.cell (OpOK w.heap.size w) Try.underlying43 Try.underlying45 (by kernel_rfl) (by kernel_rfl) (by decide) hf (fun c n hfl => by
    obtain ⟨y0, t0⟩ := hfl 0 _ rfl
    obtain ⟨y1, t1⟩ := hfl 1 _ rfl
    obtain ⟨y2, t2⟩ := hfl 2 _ rfl
    obtain ⟨y3, t3⟩ := hfl 3 _ rfl
    obtain ⟨y4, t4⟩ := hfl 4 _ rfl
    obtain ⟨y5, t5⟩ := hfl 5 _ rfl
    obtain ⟨k, e0, w0⟩ := op_int Try.underlying3 t0
    obtain ⟨a, e1, w1⟩ := op_string Try.underlying9 t1
    obtain ⟨z, e2, w2⟩ := op_string Try.underlying9 t2
    obtain ⟨m, e3, w3⟩ := op_int Try.underlying3 t3
    obtain ⟨A4, c4, bs, e4, h41, h42, hs4, _⟩ := op_slice fB (fun _ => True) Try.underlying26 (by kernel_rfl) t4 (fun v n y h => op_byte Try.underlying5 h)
    obtain ⟨A5, c5, ks, e5, h51, h52, hs5, _⟩ := op_slice fBool (fun _ => True) Try.underlying22 (by kernel_rfl) t5 (fun v n y h => op_bool Try.underlying4 h)
    refine ⟨⟨k, a, z, m, A4, c4, bs, A5, c5, ks⟩, fun j hj => ?_, ⟨w0, w3, w1, w2, hs4.old, hs5.old, h41, h42⟩⟩
    match j, hj with
    | 0, _ => exact e0
    | 1, _ => exact e1
    | 2, _ => exact e2
    | 3, _ => exact e3
    | 4, _ => exact e4
    | 5, _ => exact e5)
  injection e with e1 e2 e3
  subst e1; subst e2; subst e3
  refine ⟨_, _, ops, rfl, ?_, hc, hq⟩
  omega
end Go.Proofs.Ytepkjnhijocojaa
