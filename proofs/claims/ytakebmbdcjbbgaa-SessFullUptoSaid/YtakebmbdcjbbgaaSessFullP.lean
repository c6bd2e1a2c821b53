/- SessFull: for every input the law's call returns true, and its arguments read as they did. The condition: what it reads is of bulk at most 1048576. -/
import Derived.Test.YtakebmbdcjbbgaaRows
import Derived.Test.YtakebmbdcjbbgaaSsY
import Derived.Test.YtakebmbdcjbbgaaOpen
import Derived.ProofKit
import Derived.OpenShut
import Derived.ShutString
import Derived.ChangeOld
import Derived.JoinedCond
import Derived.Deep.CondSized
import Derived.Test.YtakebmbdcjbbgaaBlk
namespace Go.Proofs.Ytakebmbdcjbbgaa.SessFullP
open Go.ChangeShapes Go.WideShapes Go.ChangeAt Go.RowKit Mem
open Go.ChangeMaps (open_string shut_string)

theorem own : ownKnob Try.prog.godebug = none := by kernel_rfl
theorem laidOut : laidOutB Try.prog = true := by kernel_rfl
set_option maxRecDepth 100000 in
theorem lifted (os : Os) (started : os.Started) (H : Type) (enc : TypeId × Value → H) (F : Stop.Interp) :
    ReturnsInHanded {} Try.checked os 5 .any ((Rows.OpenSpec.upto Rows.sessFullSpec).pre6 enc Try.prog Try.f5 Rows.sessFullUptoRow.domain false) (((Rows.OpenSpec.upto Rows.sessFullSpec).at F).post enc Try.prog Try.f5 false true false false) := by
  refine returnsInHanded_of_cond_sized (C := Try.checked) (s := Rows.OpenSpec.upto Rows.sessFullSpec) (k := Rows.uptoSmall) rfl own started (by kernel_rfl) Try.func5
    (OpenSpec.witness (enc := enc) (C := Try.checked) (s := Rows.OpenSpec.upto Rows.sessFullSpec) (k := Rows.uptoSmall) rfl false ⟨#[], #[.slice none 0 0], []⟩ 8 (by kernel_rfl) (by kernel_rfl) (by kernel_rfl) (x := ([.nil], [], [])) (by kernel_rfl) rfl (by kernel_rfl)) ?_
  intro W base args ds gs before hval0 hW hcnd hk hsz0 _
  have hval : ∀ (j : Nat) t v, Try.f5.params[j]? = some t → args[j]? = some v → Value.okWide Try.prog W .any base t v := hval0
  have hW' := hW
  obtain ⟨p, q, hA0, hV, rfl, hfz, hnd⟩ := hW
  have hA : DataW.TrodAll enc Try.prog W 0 (fun _ => true) true Try.f5.params.toList args.toList ds p := hA0
  have hsz : (DataW.weightsEach Try.prog (Try.f5.params.toList ++ (Rows.OpenSpec.upto Rows.sessFullSpec).bare.plain.varTypes Try.prog) (ds ++ gs)).all (· ≤ reachBytes) = true := hsz0
  rw [Try.params5] at hA hval hsz
  obtain ⟨v0, vs0, d0, ds0, p0, q0, hargs, rfl, rfl, h0, r0⟩ := trodAll_cons hA
  obtain ⟨rfl, rfl, rfl⟩ := trodAll_nil r0
  obtain rfl : args = #[v0] := by cases args; simp_all
  obtain ⟨rfl, rfl⟩ := trodVars_none hV
  have k0 := h0
  have lt0 : ∀ x ∈ p0, x.block < W.heap.size := by obtain ⟨m, hm⟩ := k0; exact DataW.trod_lt m _ _ _ hm
  obtain ⟨A0, len0, cap0, rfl⟩ := okWide_slice Try.underlying32 (hval 0 32 v0 rfl rfl)
  have hm0 : cap0 ≤ maxLen := by obtain ⟨m, hm⟩ := k0; rcases DataW.trod_slice Try.underlying32 hm with ⟨e, _⟩ | ⟨a, len, cap, _, _, _, _, e, _, _, _, hm, _⟩ <;> (simp [Value.cells] at e; obtain ⟨_, _, rfl⟩ := e) <;> (first | exact hm | exact Nat.zero_le _)
  obtain ⟨xs0, rfl, hcap0, hs0, hx0, hd0⟩ := open_sl (Value.int .i64) (fun z => (Lit.int .i64 z).wf = true) Try.underlying32 (by kernel_rfl) k0 (fun v n y h => op_int Try.underlying2 h)
  have hR0 : Room 8 xs0.length := room_of hsz (j := 0) rfl rfl Try.underlying32 (by kernel_rfl) (match hd0 with | .inl h => .inl (congrArg List.length h) | .inr h => .inr h)
  clear hA0 hval0
  have hbk0 : xs0.length ≤ 1048576 := bulk_slice hk (j := 0) rfl (match hd0 with | .inl h => .inl (congrArg List.length h) | .inr h => .inr h)
  refine (sessFull_walk A0 cap0 xs0 hcap0 hm0 hs0 hx0 hR0 hbk0).mono fun e W' ⟨he, bel⟩ => ?_
  subst he
  exact ⟨_, rfl, _, _, _, [], _, [], hW', trodAll_mk1 (shut_bool Try.underlying4 _), (trodAll_cons_mk (Below.trod laidOut (by kernel_rfl) (of_decide_eq_true (by kernel_rfl)) k0 bel lt0) trodAll_mk0), rfl, bel.frame _, fun h => by cases h⟩

theorem holds : Rows.SessFullUptoSaid :=
  OpenClaim.holds_of_cond 5 Try.f5 rfl rfl rfl rfl rfl rfl rfl ⟨rfl, rfl, rfl, rfl, rfl⟩ rfl rfl rfl rfl rfl (by kernel_rfl) Try.func5 (by kernel_rfl)
    (of_decide_eq_true (by kernel_rfl)) (by unfold Func.isWrapper; rw [if_neg (of_decide_eq_false (by kernel_rfl))]; exact ⟨rfl, rfl⟩)
    (fun os started H enc _ F => lifted os started H enc F)

end Go.Proofs.Ytakebmbdcjbbgaa.SessFullP

