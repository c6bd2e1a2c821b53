/- Layer 3: the document's Join and Num. -/
import Derived.Test.YtfpomllhkbbipaaPkA
import Derived.Test.YtfpomllhkbbipaaAp2
namespace Go.Proofs.Ytfpomllhkbbipaa
open Go.RowKit Go.Maps Mem Pk

theorem fB_oneJ (u : UInt8) : (fB u).oneCell' = true := rfl
def JnRel (base base' : Nat) (xs ys : List UInt8) (vb : Value) (w : World) (av iv : Value) (wr : World) : Prop :=
  ∃ k : Nat, k ≤ ys.length ∧ iv = .int .i64 k ∧ Own fB base 5 wr av (xs ++ ys.take k) ∧ Own fB base' 5 wr vb ys ∧ Apart av vb ∧ Below base w wr
end Go.Proofs.Ytfpomllhkbbipaa
namespace Go.Proofs.Ytfpomllhkbbipaa
open Go.RowKit Go.Maps Mem Pk

def NmRelJ (zs : List UInt8) (w : World) (uv ov : Value) (wr : World) : Prop :=
  ∃ (f u : Nat) (ys : List UInt8), f ≤ 9 ∧ uv = .int .u64 u ∧ u < 18446744073709551616 ∧ u < 128 ^ (f + 1) ∧ ys ++ numF f u = zs ∧ ys.length + f ≤ 9 ∧ Own fB w.heap.size 5 wr ov ys ∧ Below w.heap.size w wr
theorem wrap_nat64 {u : Nat} (h : u < 18446744073709551616) : IntKind.u64.wrap (u : Int) = (u : Int) := by rw [IntKind.wrap_u64]; omega
end Go.Proofs.Ytfpomllhkbbipaa
namespace Go.Proofs.Ytfpomllhkbbipaa
open Go.RowKit Go.Maps Mem Pk

def JsRel (base : Nat) (xs ys : List UInt8) (w : World) (av iv : Value) (wr : World) : Prop :=
  ∃ k : Nat, k ≤ ys.length ∧ iv = .int .i64 k ∧ Own fB base 5 wr av (xs ++ ys.take k) ∧ Below base w wr
end Go.Proofs.Ytfpomllhkbbipaa
