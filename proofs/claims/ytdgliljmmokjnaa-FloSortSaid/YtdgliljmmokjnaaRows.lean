/-
  No cell of these rows narrows 'for every input' (looked for: loops, veiled, ifaces, maps, wideKeys, modest, calm, conditions, laid).
  DERIVED. THE GIVEN ROWS OF THIS SEAT. 10 by the template 'for every input the law returns true; each argument reads behind the call as it read before'; 0 by the template 'total and deterministic' (their statements: YtdgliljmmokjnaaTotals.lean).
  GIVEN WITH THE SEED: the statements are not yours to turn. If you find one false, say at which input.
  Laid BY PROGRAM, IN A SANDBOX (cutbox-rows.mjs): the forced cells as the released guide's own fill.sh prints them over the translation 65a9f4151bb70ba8… (all of the seat's roots in one cut). By AI agents, Wed Nov 11 2026. No macro, syntax, notation, axiom, sorry.
-/
import Derived.Test.YtdgliljmmokjnaaChecked
import GoSem.Claim
import GoSem.ClaimJoined
import GoSem.ClaimMapViews
import Derived.JoinedTies
import Derived.KernelRfl
namespace Go.Proofs.Ytdgliljmmokjnaa
/- THE CELL 'sum', in the pinned program and in every row, IS THE sha256 OF THE DUMP (.gsa) THAT YtdgliljmmokjnaaProg.lean LOADS. Nothing in Lean hashes anything: it is a label: what it is worth is what the hold of that sum in a sandbox is worth. -/
noncomputable def Try.pinned : Pinned := { name := "ytdgliljmmokjnaa", sum := "65a9f4151bb70ba882b4e599af1f1349ce0f131c14b82b6369db330d2b670342", checked := Try.checked }
namespace Rows
def none {H : Type} : Left H := { results := [], args := [] }

/-- 'quilletlaw01.FloCanon': WHATEVER THE INPUT: true; the input reads as it did. -/
def floCanonSpec : ChangeSpec := { name := "floCanon", fn := fun _ => fun
  | [d] => { results := [.lit (.bool true)], args := [d] }
  | _ => none }
def floCanonRow : OpenClaim := { program := "ytdgliljmmokjnaa", sum := "65a9f4151bb70ba882b4e599af1f1349ce0f131c14b82b6369db330d2b670342", func := "quillet/quilletlaw01.FloCanon", spec := "floCanon", inPlace := ["math.Float64bits", "math.Float64frombits"], apart := false }
def FloCanonSaid : Prop := floCanonRow.holds Try.pinned (OpenSpec.ofChange floCanonSpec)

/-- ITS FALSE NEIGHBOUR: 'it returns false'. Refute it at one input. -/
def floCanonWrong : ChangeSpec := { name := "floCanon", fn := fun _ => fun
  | [d] => { results := [.lit (.bool false)], args := [d] }
  | _ => none }
def FloCanonWrongFalsely : Prop := floCanonRow.holds Try.pinned (OpenSpec.ofChange floCanonWrong)

/-- 'quilletlaw01.FloCode': WHATEVER THE INPUT: true; the input reads as it did. -/
def floCodeSpec : ChangeSpec := { name := "floCode", fn := fun _ => fun
  | [d] => { results := [.lit (.bool true)], args := [d] }
  | _ => none }
def floCodeRow : OpenClaim := { program := "ytdgliljmmokjnaa", sum := "65a9f4151bb70ba882b4e599af1f1349ce0f131c14b82b6369db330d2b670342", func := "quillet/quilletlaw01.FloCode", spec := "floCode", inPlace := ["math.Float64frombits", "math.Float64bits"], apart := false }
def FloCodeSaid : Prop := floCodeRow.holds Try.pinned (OpenSpec.ofChange floCodeSpec)

/-- ITS FALSE NEIGHBOUR: 'it returns false'. Refute it at one input. -/
def floCodeWrong : ChangeSpec := { name := "floCode", fn := fun _ => fun
  | [d] => { results := [.lit (.bool false)], args := [d] }
  | _ => none }
def FloCodeWrongFalsely : Prop := floCodeRow.holds Try.pinned (OpenSpec.ofChange floCodeWrong)

/-- 'quilletlaw01.FloFrom': WHATEVER THE INPUT: true; the input reads as it did. -/
def floFromSpec : ChangeSpec := { name := "floFrom", fn := fun _ => fun
  | [d] => { results := [.lit (.bool true)], args := [d] }
  | _ => none }
def floFromRow : OpenClaim := { program := "ytdgliljmmokjnaa", sum := "65a9f4151bb70ba882b4e599af1f1349ce0f131c14b82b6369db330d2b670342", func := "quillet/quilletlaw01.FloFrom", spec := "floFrom", inPlace := ["math.Float64frombits", "math.Float64bits"], apart := false }
def FloFromSaid : Prop := floFromRow.holds Try.pinned (OpenSpec.ofChange floFromSpec)

/-- ITS FALSE NEIGHBOUR: 'it returns false'. Refute it at one input. -/
def floFromWrong : ChangeSpec := { name := "floFrom", fn := fun _ => fun
  | [d] => { results := [.lit (.bool false)], args := [d] }
  | _ => none }
def FloFromWrongFalsely : Prop := floFromRow.holds Try.pinned (OpenSpec.ofChange floFromWrong)

/-- 'quilletlaw01.FloCmp': WHATEVER THE INPUT: true; the input reads as it did. -/
def floCmpSpec : ChangeSpec := { name := "floCmp", fn := fun _ => fun
  | [d1, d2] => { results := [.lit (.bool true)], args := [d1, d2] }
  | _ => none }
def floCmpRow : OpenClaim := { program := "ytdgliljmmokjnaa", sum := "65a9f4151bb70ba882b4e599af1f1349ce0f131c14b82b6369db330d2b670342", func := "quillet/quilletlaw01.FloCmp", spec := "floCmp", inPlace := ["math.Float64frombits", "math.Float64bits"], apart := false }
def FloCmpSaid : Prop := floCmpRow.holds Try.pinned (OpenSpec.ofChange floCmpSpec)

/-- ITS FALSE NEIGHBOUR: 'it returns false'. Refute it at one input. -/
def floCmpWrong : ChangeSpec := { name := "floCmp", fn := fun _ => fun
  | [d1, d2] => { results := [.lit (.bool false)], args := [d1, d2] }
  | _ => none }
def FloCmpWrongFalsely : Prop := floCmpRow.holds Try.pinned (OpenSpec.ofChange floCmpWrong)

/-- 'quilletlaw01.FloOrder': WHATEVER THE INPUT: true; the input reads as it did. -/
def floOrderSpec : ChangeSpec := { name := "floOrder", fn := fun _ => fun
  | [d1, d2, d3] => { results := [.lit (.bool true)], args := [d1, d2, d3] }
  | _ => none }
def floOrderRow : OpenClaim := { program := "ytdgliljmmokjnaa", sum := "65a9f4151bb70ba882b4e599af1f1349ce0f131c14b82b6369db330d2b670342", func := "quillet/quilletlaw01.FloOrder", spec := "floOrder", inPlace := ["math.Float64frombits", "math.Float64bits"], apart := false }
def FloOrderSaid : Prop := floOrderRow.holds Try.pinned (OpenSpec.ofChange floOrderSpec)

/-- ITS FALSE NEIGHBOUR: 'it returns false'. Refute it at one input. -/
def floOrderWrong : ChangeSpec := { name := "floOrder", fn := fun _ => fun
  | [d1, d2, d3] => { results := [.lit (.bool false)], args := [d1, d2, d3] }
  | _ => none }
def FloOrderWrongFalsely : Prop := floOrderRow.holds Try.pinned (OpenSpec.ofChange floOrderWrong)

/-- 'quilletlaw01.FloNext': WHATEVER THE INPUT: true; the input reads as it did. -/
def floNextSpec : ChangeSpec := { name := "floNext", fn := fun _ => fun
  | [d] => { results := [.lit (.bool true)], args := [d] }
  | _ => none }
def floNextRow : OpenClaim := { program := "ytdgliljmmokjnaa", sum := "65a9f4151bb70ba882b4e599af1f1349ce0f131c14b82b6369db330d2b670342", func := "quillet/quilletlaw01.FloNext", spec := "floNext", inPlace := ["math.Float64frombits", "math.Float64bits"], apart := false }
def FloNextSaid : Prop := floNextRow.holds Try.pinned (OpenSpec.ofChange floNextSpec)

/-- ITS FALSE NEIGHBOUR: 'it returns false'. Refute it at one input. -/
def floNextWrong : ChangeSpec := { name := "floNext", fn := fun _ => fun
  | [d] => { results := [.lit (.bool false)], args := [d] }
  | _ => none }
def FloNextWrongFalsely : Prop := floNextRow.holds Try.pinned (OpenSpec.ofChange floNextWrong)

/-- 'quilletlaw01.FloEnds': WHATEVER THE INPUT: true; the input reads as it did. -/
def floEndsSpec : ChangeSpec := { name := "floEnds", fn := fun _ => fun
  | [d] => { results := [.lit (.bool true)], args := [d] }
  | _ => none }
def floEndsRow : OpenClaim := { program := "ytdgliljmmokjnaa", sum := "65a9f4151bb70ba882b4e599af1f1349ce0f131c14b82b6369db330d2b670342", func := "quillet/quilletlaw01.FloEnds", spec := "floEnds", inPlace := ["math.Float64frombits", "math.Float64bits"], unfollowed := true, recurses := true, apart := false }
def FloEndsSaid : Prop := floEndsRow.holds Try.pinned (OpenSpec.ofChange floEndsSpec)

/-- ITS FALSE NEIGHBOUR: 'it returns false'. Refute it at one input. -/
def floEndsWrong : ChangeSpec := { name := "floEnds", fn := fun _ => fun
  | [d] => { results := [.lit (.bool false)], args := [d] }
  | _ => none }
def FloEndsWrongFalsely : Prop := floEndsRow.holds Try.pinned (OpenSpec.ofChange floEndsWrong)

/-- 'quilletlaw01.FloRange': WHATEVER THE INPUT: true; the input reads as it did. -/
def floRangeSpec : ChangeSpec := { name := "floRange", fn := fun _ => fun
  | [d1, d2] => { results := [.lit (.bool true)], args := [d1, d2] }
  | _ => none }
def floRangeRow : OpenClaim := { program := "ytdgliljmmokjnaa", sum := "65a9f4151bb70ba882b4e599af1f1349ce0f131c14b82b6369db330d2b670342", func := "quillet/quilletlaw01.FloRange", spec := "floRange", inPlace := ["math.Float64frombits", "math.Float64bits"], unfollowed := true, recurses := true, apart := false }
def FloRangeSaid : Prop := floRangeRow.holds Try.pinned (OpenSpec.ofChange floRangeSpec)

/-- ITS FALSE NEIGHBOUR: 'it returns false'. Refute it at one input. -/
def floRangeWrong : ChangeSpec := { name := "floRange", fn := fun _ => fun
  | [d1, d2] => { results := [.lit (.bool false)], args := [d1, d2] }
  | _ => none }
def FloRangeWrongFalsely : Prop := floRangeRow.holds Try.pinned (OpenSpec.ofChange floRangeWrong)

/-- 'quilletlaw01.FloSteps': WHATEVER THE INPUT: true; the input reads as it did. -/
def floStepsSpec : ChangeSpec := { name := "floSteps", fn := fun _ => fun
  | [d1, d2] => { results := [.lit (.bool true)], args := [d1, d2] }
  | _ => none }
def floStepsRow : OpenClaim := { program := "ytdgliljmmokjnaa", sum := "65a9f4151bb70ba882b4e599af1f1349ce0f131c14b82b6369db330d2b670342", func := "quillet/quilletlaw01.FloSteps", spec := "floSteps", inPlace := ["math.Float64frombits", "math.Float64bits"], apart := false }
def FloStepsSaid : Prop := floStepsRow.holds Try.pinned (OpenSpec.ofChange floStepsSpec)

/-- ITS FALSE NEIGHBOUR: 'it returns false'. Refute it at one input. -/
def floStepsWrong : ChangeSpec := { name := "floSteps", fn := fun _ => fun
  | [d1, d2] => { results := [.lit (.bool false)], args := [d1, d2] }
  | _ => none }
def FloStepsWrongFalsely : Prop := floStepsRow.holds Try.pinned (OpenSpec.ofChange floStepsWrong)

/-- 'quilletlaw01.FloSort': WHATEVER THE INPUT: true; the input reads as it did. -/
def floSortSpec : ChangeSpec := { name := "floSort", fn := fun _ => fun
  | [d] => { results := [.lit (.bool true)], args := [d] }
  | _ => none }
def floSortRow : OpenClaim := { program := "ytdgliljmmokjnaa", sum := "65a9f4151bb70ba882b4e599af1f1349ce0f131c14b82b6369db330d2b670342", func := "quillet/quilletlaw01.FloSort", spec := "floSort", inPlace := ["math.Float64frombits", "math.Float64bits"], unfollowed := true, recurses := true, apart := false }
def FloSortSaid : Prop := floSortRow.holds Try.pinned (OpenSpec.ofChange floSortSpec)

/-- ITS FALSE NEIGHBOUR: 'it returns false'. Refute it at one input. -/
def floSortWrong : ChangeSpec := { name := "floSort", fn := fun _ => fun
  | [d] => { results := [.lit (.bool false)], args := [d] }
  | _ => none }
def FloSortWrongFalsely : Prop := floSortRow.holds Try.pinned (OpenSpec.ofChange floSortWrong)

/- THE SECOND FORM. 'bulk': how many values and letters a reading holds, each counted each time it is reached (what is shared counts as often as it is met; a slice's spare places count too). A statement '..UptoSaid' is the law's where the arguments, and the package variables that the reading takes, are together of bulk at most 1048576: NARROWER than '..Said'. Prove '..Said' where nothing that the law and all that it calls make is longer than what came in: it says more and counts as full. Else prove '..UptoSaid'. A law counts once. -/
mutual
def uptoBulk {H : Type} : DataW H → Nat
  | .lit (.string bytes) => bytes.length + 1
  | .lit _ => 1
  | .nil => 1
  | .ptr d => uptoBulk d + 1
  | .slice elems spare => uptoBulkAll elems + uptoBulkAll spare + 1
  | .agg parts => uptoBulkAll parts + 1
  | .iface _ d => uptoBulk d + 1
  | .map entries => uptoBulkEntries entries + 1
  | .held _ => 1
def uptoBulkAll {H : Type} : List (DataW H) → Nat
  | [] => 0
  | d :: r => uptoBulk d + uptoBulkAll r
def uptoBulkEntries {H : Type} : List (Lit × DataW H) → Nat
  | [] => 0
  | x :: r => uptoBulkEntry x + uptoBulkEntries r
def uptoBulkEntry {H : Type} : Lit × DataW H → Nat
  | (.string bytes, d) => bytes.length + uptoBulk d + 1
  | (_, d) => uptoBulk d + 1
 end
def uptoSmall : (H : Type) → List (DataW H) → Bool := fun _ ds => decide (uptoBulkAll ds ≤ 1048576)
def OpenSpec.upto (s : _root_.Go.ChangeSpec) : _root_.Go.OpenSpec := { _root_.Go.OpenSpec.ofChange s with cond := some uptoSmall }

/-- 'quilletlaw01.FloCanon', WHERE WHAT IT READS IS OF BULK AT MOST 1048576: true; the input reads as it did. -/
def floCanonUptoRow : OpenClaim := { program := "ytdgliljmmokjnaa", sum := "65a9f4151bb70ba882b4e599af1f1349ce0f131c14b82b6369db330d2b670342", func := "quillet/quilletlaw01.FloCanon", spec := "floCanon", inPlace := ["math.Float64bits", "math.Float64frombits"], apart := false, narrowed := true }
def FloCanonUptoSaid : Prop := floCanonUptoRow.holds Try.pinned (OpenSpec.upto floCanonSpec)

/-- 'quilletlaw01.FloCode', WHERE WHAT IT READS IS OF BULK AT MOST 1048576: true; the input reads as it did. -/
def floCodeUptoRow : OpenClaim := { program := "ytdgliljmmokjnaa", sum := "65a9f4151bb70ba882b4e599af1f1349ce0f131c14b82b6369db330d2b670342", func := "quillet/quilletlaw01.FloCode", spec := "floCode", inPlace := ["math.Float64frombits", "math.Float64bits"], apart := false, narrowed := true }
def FloCodeUptoSaid : Prop := floCodeUptoRow.holds Try.pinned (OpenSpec.upto floCodeSpec)

/-- 'quilletlaw01.FloFrom', WHERE WHAT IT READS IS OF BULK AT MOST 1048576: true; the input reads as it did. -/
def floFromUptoRow : OpenClaim := { program := "ytdgliljmmokjnaa", sum := "65a9f4151bb70ba882b4e599af1f1349ce0f131c14b82b6369db330d2b670342", func := "quillet/quilletlaw01.FloFrom", spec := "floFrom", inPlace := ["math.Float64frombits", "math.Float64bits"], apart := false, narrowed := true }
def FloFromUptoSaid : Prop := floFromUptoRow.holds Try.pinned (OpenSpec.upto floFromSpec)

/-- 'quilletlaw01.FloCmp', WHERE WHAT IT READS IS OF BULK AT MOST 1048576: true; the input reads as it did. -/
def floCmpUptoRow : OpenClaim := { program := "ytdgliljmmokjnaa", sum := "65a9f4151bb70ba882b4e599af1f1349ce0f131c14b82b6369db330d2b670342", func := "quillet/quilletlaw01.FloCmp", spec := "floCmp", inPlace := ["math.Float64frombits", "math.Float64bits"], apart := false, narrowed := true }
def FloCmpUptoSaid : Prop := floCmpUptoRow.holds Try.pinned (OpenSpec.upto floCmpSpec)

/-- 'quilletlaw01.FloOrder', WHERE WHAT IT READS IS OF BULK AT MOST 1048576: true; the input reads as it did. -/
def floOrderUptoRow : OpenClaim := { program := "ytdgliljmmokjnaa", sum := "65a9f4151bb70ba882b4e599af1f1349ce0f131c14b82b6369db330d2b670342", func := "quillet/quilletlaw01.FloOrder", spec := "floOrder", inPlace := ["math.Float64frombits", "math.Float64bits"], apart := false, narrowed := true }
def FloOrderUptoSaid : Prop := floOrderUptoRow.holds Try.pinned (OpenSpec.upto floOrderSpec)

/-- 'quilletlaw01.FloNext', WHERE WHAT IT READS IS OF BULK AT MOST 1048576: true; the input reads as it did. -/
def floNextUptoRow : OpenClaim := { program := "ytdgliljmmokjnaa", sum := "65a9f4151bb70ba882b4e599af1f1349ce0f131c14b82b6369db330d2b670342", func := "quillet/quilletlaw01.FloNext", spec := "floNext", inPlace := ["math.Float64frombits", "math.Float64bits"], apart := false, narrowed := true }
def FloNextUptoSaid : Prop := floNextUptoRow.holds Try.pinned (OpenSpec.upto floNextSpec)

/-- 'quilletlaw01.FloEnds', WHERE WHAT IT READS IS OF BULK AT MOST 1048576: true; the input reads as it did. -/
def floEndsUptoRow : OpenClaim := { program := "ytdgliljmmokjnaa", sum := "65a9f4151bb70ba882b4e599af1f1349ce0f131c14b82b6369db330d2b670342", func := "quillet/quilletlaw01.FloEnds", spec := "floEnds", inPlace := ["math.Float64frombits", "math.Float64bits"], unfollowed := true, recurses := true, apart := false, narrowed := true }
def FloEndsUptoSaid : Prop := floEndsUptoRow.holds Try.pinned (OpenSpec.upto floEndsSpec)

/-- 'quilletlaw01.FloRange', WHERE WHAT IT READS IS OF BULK AT MOST 1048576: true; the input reads as it did. -/
def floRangeUptoRow : OpenClaim := { program := "ytdgliljmmokjnaa", sum := "65a9f4151bb70ba882b4e599af1f1349ce0f131c14b82b6369db330d2b670342", func := "quillet/quilletlaw01.FloRange", spec := "floRange", inPlace := ["math.Float64frombits", "math.Float64bits"], unfollowed := true, recurses := true, apart := false, narrowed := true }
def FloRangeUptoSaid : Prop := floRangeUptoRow.holds Try.pinned (OpenSpec.upto floRangeSpec)

/-- 'quilletlaw01.FloSteps', WHERE WHAT IT READS IS OF BULK AT MOST 1048576: true; the input reads as it did. -/
def floStepsUptoRow : OpenClaim := { program := "ytdgliljmmokjnaa", sum := "65a9f4151bb70ba882b4e599af1f1349ce0f131c14b82b6369db330d2b670342", func := "quillet/quilletlaw01.FloSteps", spec := "floSteps", inPlace := ["math.Float64frombits", "math.Float64bits"], apart := false, narrowed := true }
def FloStepsUptoSaid : Prop := floStepsUptoRow.holds Try.pinned (OpenSpec.upto floStepsSpec)

/-- 'quilletlaw01.FloSort', WHERE WHAT IT READS IS OF BULK AT MOST 1048576: true; the input reads as it did. -/
def floSortUptoRow : OpenClaim := { program := "ytdgliljmmokjnaa", sum := "65a9f4151bb70ba882b4e599af1f1349ce0f131c14b82b6369db330d2b670342", func := "quillet/quilletlaw01.FloSort", spec := "floSort", inPlace := ["math.Float64frombits", "math.Float64bits"], unfollowed := true, recurses := true, apart := false, narrowed := true }
def FloSortUptoSaid : Prop := floSortUptoRow.holds Try.pinned (OpenSpec.upto floSortSpec)

end Rows
end Go.Proofs.Ytdgliljmmokjnaa
