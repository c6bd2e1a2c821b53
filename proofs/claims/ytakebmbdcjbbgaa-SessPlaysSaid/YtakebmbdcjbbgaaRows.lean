/-
  No cell of these rows narrows 'for every input' (looked for: loops, veiled, ifaces, maps, wideKeys, modest, calm, conditions, laid).
  DERIVED. THE GIVEN ROWS OF THIS SEAT. 6 by the template 'for every input the law returns true; each argument reads behind the call as it read before'; 0 by the template 'total and deterministic' (their statements: YtakebmbdcjbbgaaTotals.lean).
  GIVEN WITH THE SEED: the statements are not yours to turn. If you find one false, say at which input.
  Laid BY PROGRAM, IN A SANDBOX (cutbox-rows.mjs): the forced cells as the released guide's own fill.sh prints them over the translation 035a7311b606d770… (all of the seat's roots in one cut). By AI agents, Wed Nov 11 2026. No macro, syntax, notation, axiom, sorry.
-/
import Derived.Test.YtakebmbdcjbbgaaChecked
import GoSem.Claim
import GoSem.ClaimJoined
import GoSem.ClaimMapViews
import Derived.JoinedTies
import Derived.KernelRfl
namespace Go.Proofs.Ytakebmbdcjbbgaa
/- THE CELL 'sum', in the pinned program and in every row, IS THE sha256 OF THE DUMP (.gsa) THAT YtakebmbdcjbbgaaProg.lean LOADS. Nothing in Lean hashes anything: it is a label: what it is worth is what the hold of that sum in a sandbox is worth. -/
noncomputable def Try.pinned : Pinned := { name := "ytakebmbdcjbbgaa", sum := "035a7311b606d7703833c5815ea12f5237faee9023451948e57b5420443afb97", checked := Try.checked }
namespace Rows
def none {H : Type} : Left H := { results := [], args := [] }

/-- 'quilletlaw13.SessOnce': WHATEVER THE INPUT: true; the input reads as it did. -/
def sessOnceSpec : ChangeSpec := { name := "sessOnce", fn := fun _ => fun
  | [d1, d2] => { results := [.lit (.bool true)], args := [d1, d2] }
  | _ => none }
def sessOnceRow : OpenClaim := { program := "ytakebmbdcjbbgaa", sum := "035a7311b606d7703833c5815ea12f5237faee9023451948e57b5420443afb97", func := "quillet/quilletlaw13.SessOnce", spec := "sessOnce", inPlace := ["slices.overlaps[quillet/sess.Item]"], unfollowed := true, recurses := true, apart := false }
def SessOnceSaid : Prop := sessOnceRow.holds Try.pinned (OpenSpec.ofChange sessOnceSpec)

/-- ITS FALSE NEIGHBOUR: 'it returns false'. Refute it at one input. -/
def sessOnceWrong : ChangeSpec := { name := "sessOnce", fn := fun _ => fun
  | [d1, d2] => { results := [.lit (.bool false)], args := [d1, d2] }
  | _ => none }
def SessOnceWrongFalsely : Prop := sessOnceRow.holds Try.pinned (OpenSpec.ofChange sessOnceWrong)

/-- 'quilletlaw13.SessWindow': WHATEVER THE INPUT: true; the input reads as it did. -/
def sessWindowSpec : ChangeSpec := { name := "sessWindow", fn := fun _ => fun
  | [d1, d2, d3] => { results := [.lit (.bool true)], args := [d1, d2, d3] }
  | _ => none }
def sessWindowRow : OpenClaim := { program := "ytakebmbdcjbbgaa", sum := "035a7311b606d7703833c5815ea12f5237faee9023451948e57b5420443afb97", func := "quillet/quilletlaw13.SessWindow", spec := "sessWindow", inPlace := ["slices.overlaps[quillet/sess.Item]"], unfollowed := true, recurses := true, apart := false }
def SessWindowSaid : Prop := sessWindowRow.holds Try.pinned (OpenSpec.ofChange sessWindowSpec)

/-- ITS FALSE NEIGHBOUR: 'it returns false'. Refute it at one input. -/
def sessWindowWrong : ChangeSpec := { name := "sessWindow", fn := fun _ => fun
  | [d1, d2, d3] => { results := [.lit (.bool false)], args := [d1, d2, d3] }
  | _ => none }
def SessWindowWrongFalsely : Prop := sessWindowRow.holds Try.pinned (OpenSpec.ofChange sessWindowWrong)

/-- 'quilletlaw13.SessFull': WHATEVER THE INPUT: true; the input reads as it did. -/
def sessFullSpec : ChangeSpec := { name := "sessFull", fn := fun _ => fun
  | [d] => { results := [.lit (.bool true)], args := [d] }
  | _ => none }
def sessFullRow : OpenClaim := { program := "ytakebmbdcjbbgaa", sum := "035a7311b606d7703833c5815ea12f5237faee9023451948e57b5420443afb97", func := "quillet/quilletlaw13.SessFull", spec := "sessFull", inPlace := ["slices.overlaps[quillet/sess.Item]"], unfollowed := true, recurses := true, apart := false }
def SessFullSaid : Prop := sessFullRow.holds Try.pinned (OpenSpec.ofChange sessFullSpec)

/-- ITS FALSE NEIGHBOUR: 'it returns false'. Refute it at one input. -/
def sessFullWrong : ChangeSpec := { name := "sessFull", fn := fun _ => fun
  | [d] => { results := [.lit (.bool false)], args := [d] }
  | _ => none }
def SessFullWrongFalsely : Prop := sessFullRow.holds Try.pinned (OpenSpec.ofChange sessFullWrong)

/-- 'quilletlaw13.SessPlays': WHATEVER THE INPUT: true; the input reads as it did. -/
def sessPlaysSpec : ChangeSpec := { name := "sessPlays", fn := fun _ => fun
  | [d1, d2, d3] => { results := [.lit (.bool true)], args := [d1, d2, d3] }
  | _ => none }
def sessPlaysRow : OpenClaim := { program := "ytakebmbdcjbbgaa", sum := "035a7311b606d7703833c5815ea12f5237faee9023451948e57b5420443afb97", func := "quillet/quilletlaw13.SessPlays", spec := "sessPlays", inPlace := ["slices.overlaps[quillet/sess.Item]", "math.Float64frombits", "math.Float64bits"], unfollowed := true, recurses := true, apart := false }
def SessPlaysSaid : Prop := sessPlaysRow.holds Try.pinned (OpenSpec.ofChange sessPlaysSpec)

/-- ITS FALSE NEIGHBOUR: 'it returns false'. Refute it at one input. -/
def sessPlaysWrong : ChangeSpec := { name := "sessPlays", fn := fun _ => fun
  | [d1, d2, d3] => { results := [.lit (.bool false)], args := [d1, d2, d3] }
  | _ => none }
def SessPlaysWrongFalsely : Prop := sessPlaysRow.holds Try.pinned (OpenSpec.ofChange sessPlaysWrong)

/-- 'quilletlaw13.SessLoads': WHATEVER THE INPUT: true; the input reads as it did. -/
def sessLoadsSpec : ChangeSpec := { name := "sessLoads", fn := fun _ => fun
  | [d] => { results := [.lit (.bool true)], args := [d] }
  | _ => none }
def sessLoadsRow : OpenClaim := { program := "ytakebmbdcjbbgaa", sum := "035a7311b606d7703833c5815ea12f5237faee9023451948e57b5420443afb97", func := "quillet/quilletlaw13.SessLoads", spec := "sessLoads", inPlace := ["slices.overlaps[quillet/sess.Item]", "math.Float64frombits", "math.Float64bits"], unfollowed := true, recurses := true, apart := false }
def SessLoadsSaid : Prop := sessLoadsRow.holds Try.pinned (OpenSpec.ofChange sessLoadsSpec)

/-- ITS FALSE NEIGHBOUR: 'it returns false'. Refute it at one input. -/
def sessLoadsWrong : ChangeSpec := { name := "sessLoads", fn := fun _ => fun
  | [d] => { results := [.lit (.bool false)], args := [d] }
  | _ => none }
def SessLoadsWrongFalsely : Prop := sessLoadsRow.holds Try.pinned (OpenSpec.ofChange sessLoadsWrong)

/-- 'quilletlaw13.SessBack': WHATEVER THE INPUT: true; the input reads as it did. -/
def sessBackSpec : ChangeSpec := { name := "sessBack", fn := fun _ => fun
  | [d1, d2] => { results := [.lit (.bool true)], args := [d1, d2] }
  | _ => none }
def sessBackRow : OpenClaim := { program := "ytakebmbdcjbbgaa", sum := "035a7311b606d7703833c5815ea12f5237faee9023451948e57b5420443afb97", func := "quillet/quilletlaw13.SessBack", spec := "sessBack", inPlace := ["slices.overlaps[quillet/sess.Item]", "math.Float64frombits", "math.Float64bits"], unfollowed := true, recurses := true, apart := false }
def SessBackSaid : Prop := sessBackRow.holds Try.pinned (OpenSpec.ofChange sessBackSpec)

/-- ITS FALSE NEIGHBOUR: 'it returns false'. Refute it at one input. -/
def sessBackWrong : ChangeSpec := { name := "sessBack", fn := fun _ => fun
  | [d1, d2] => { results := [.lit (.bool false)], args := [d1, d2] }
  | _ => none }
def SessBackWrongFalsely : Prop := sessBackRow.holds Try.pinned (OpenSpec.ofChange sessBackWrong)

/- THE SECOND FORM. 'bulk': how many values and letters a reading holds, each counted each time it is reached (what is shared counts as often as it is met; a slice's spare places count too). A statement '..UptoSaid' is the law's where the arguments, and the package variables that the reading takes, are together of bulk at most 1048576: NARROWER than '..Said'. Prove '..Said' where nothing that the law and all that it calls make is longer than what came in: it says more and counts as full. Else prove '..UptoSaid'. A law counts once. -/
mutual
def uptoBulk {H : Type} : DataW H → Nat
  | .lit (.string bytes) => bytes.length + 1
  | .lit _ => 1
  | .nil => 1
  | .ptr d => uptoBulk d + 1
  | .slice elems spare => uptoBulkAll elems + uptoBulkAll spare + 1
  | .agg parts => uptoBulkAll parts + 1
  | .iface _ d => uptoBulk d + 1
  | .map entries => uptoBulkEntries entries + 1
  | .held _ => 1
def uptoBulkAll {H : Type} : List (DataW H) → Nat
  | [] => 0
  | d :: r => uptoBulk d + uptoBulkAll r
def uptoBulkEntries {H : Type} : List (Lit × DataW H) → Nat
  | [] => 0
  | x :: r => uptoBulkEntry x + uptoBulkEntries r
def uptoBulkEntry {H : Type} : Lit × DataW H → Nat
  | (.string bytes, d) => bytes.length + uptoBulk d + 1
  | (_, d) => uptoBulk d + 1
 end
def uptoSmall : (H : Type) → List (DataW H) → Bool := fun _ ds => decide (uptoBulkAll ds ≤ 1048576)
def OpenSpec.upto (s : _root_.Go.ChangeSpec) : _root_.Go.OpenSpec := { _root_.Go.OpenSpec.ofChange s with cond := some uptoSmall }

/-- 'quilletlaw13.SessOnce', WHERE WHAT IT READS IS OF BULK AT MOST 1048576: true; the input reads as it did. -/
def sessOnceUptoRow : OpenClaim := { program := "ytakebmbdcjbbgaa", sum := "035a7311b606d7703833c5815ea12f5237faee9023451948e57b5420443afb97", func := "quillet/quilletlaw13.SessOnce", spec := "sessOnce", inPlace := ["slices.overlaps[quillet/sess.Item]"], unfollowed := true, recurses := true, apart := false, narrowed := true }
def SessOnceUptoSaid : Prop := sessOnceUptoRow.holds Try.pinned (OpenSpec.upto sessOnceSpec)

/-- 'quilletlaw13.SessWindow', WHERE WHAT IT READS IS OF BULK AT MOST 1048576: true; the input reads as it did. -/
def sessWindowUptoRow : OpenClaim := { program := "ytakebmbdcjbbgaa", sum := "035a7311b606d7703833c5815ea12f5237faee9023451948e57b5420443afb97", func := "quillet/quilletlaw13.SessWindow", spec := "sessWindow", inPlace := ["slices.overlaps[quillet/sess.Item]"], unfollowed := true, recurses := true, apart := false, narrowed := true }
def SessWindowUptoSaid : Prop := sessWindowUptoRow.holds Try.pinned (OpenSpec.upto sessWindowSpec)

/-- 'quilletlaw13.SessFull', WHERE WHAT IT READS IS OF BULK AT MOST 1048576: true; the input reads as it did. -/
def sessFullUptoRow : OpenClaim := { program := "ytakebmbdcjbbgaa", sum := "035a7311b606d7703833c5815ea12f5237faee9023451948e57b5420443afb97", func := "quillet/quilletlaw13.SessFull", spec := "sessFull", inPlace := ["slices.overlaps[quillet/sess.Item]"], unfollowed := true, recurses := true, apart := false, narrowed := true }
def SessFullUptoSaid : Prop := sessFullUptoRow.holds Try.pinned (OpenSpec.upto sessFullSpec)

/-- 'quilletlaw13.SessPlays', WHERE WHAT IT READS IS OF BULK AT MOST 1048576: true; the input reads as it did. -/
def sessPlaysUptoRow : OpenClaim := { program := "ytakebmbdcjbbgaa", sum := "035a7311b606d7703833c5815ea12f5237faee9023451948e57b5420443afb97", func := "quillet/quilletlaw13.SessPlays", spec := "sessPlays", inPlace := ["slices.overlaps[quillet/sess.Item]", "math.Float64frombits", "math.Float64bits"], unfollowed := true, recurses := true, apart := false, narrowed := true }
def SessPlaysUptoSaid : Prop := sessPlaysUptoRow.holds Try.pinned (OpenSpec.upto sessPlaysSpec)

/-- 'quilletlaw13.SessLoads', WHERE WHAT IT READS IS OF BULK AT MOST 1048576: true; the input reads as it did. -/
def sessLoadsUptoRow : OpenClaim := { program := "ytakebmbdcjbbgaa", sum := "035a7311b606d7703833c5815ea12f5237faee9023451948e57b5420443afb97", func := "quillet/quilletlaw13.SessLoads", spec := "sessLoads", inPlace := ["slices.overlaps[quillet/sess.Item]", "math.Float64frombits", "math.Float64bits"], unfollowed := true, recurses := true, apart := false, narrowed := true }
def SessLoadsUptoSaid : Prop := sessLoadsUptoRow.holds Try.pinned (OpenSpec.upto sessLoadsSpec)

/-- 'quilletlaw13.SessBack', WHERE WHAT IT READS IS OF BULK AT MOST 1048576: true; the input reads as it did. -/
def sessBackUptoRow : OpenClaim := { program := "ytakebmbdcjbbgaa", sum := "035a7311b606d7703833c5815ea12f5237faee9023451948e57b5420443afb97", func := "quillet/quilletlaw13.SessBack", spec := "sessBack", inPlace := ["slices.overlaps[quillet/sess.Item]", "math.Float64frombits", "math.Float64bits"], unfollowed := true, recurses := true, apart := false, narrowed := true }
def SessBackUptoSaid : Prop := sessBackUptoRow.holds Try.pinned (OpenSpec.upto sessBackSpec)

end Rows
end Go.Proofs.Ytakebmbdcjbbgaa
