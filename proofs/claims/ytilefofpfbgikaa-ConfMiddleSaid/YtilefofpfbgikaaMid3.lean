/- Layer 15: the law ConfMiddle, at its arguments. -/
import Derived.Test.YtilefofpfbgikaaMid2
import Derived.Test.YtilefofpfbgikaaOpenC
namespace Go.Proofs.Ytilefofpfbgikaa
open Go.RowKit Go.Maps Mem Mid
theorem confMiddle_walk {w : World} (A : Option Addr) (cA : Nat) (vs : List Int) (hA : IntsIn w A cA vs) (B : Option Addr) (cB : Nat) (ls : List Int) (_ : IntsIn w B cB ls)
    (Bn : Option Addr) (cn : Nat) (ns : List Int) (_ : ns.length ≤ cn) (_ : cn ≤ maxLen) (hsn : Sl fI w Bn ns) (_ : ∀ x ∈ ns, (Lit.int .i64 x).wf = true) (_ : Room 8 ns.length) :
    Calls Try.prog 3 #[.agg #[.slice A vs.length cA, .slice B ls.length cB], .slice Bn ns.length cn] w fun e w' => e = .returned (.bool true) ∧ Below w.heap.size w w' :=
  confMiddle_go A cA vs hA.sl hA.room _ Bn cn ns hsn
end Go.Proofs.Ytilefofpfbgikaa
