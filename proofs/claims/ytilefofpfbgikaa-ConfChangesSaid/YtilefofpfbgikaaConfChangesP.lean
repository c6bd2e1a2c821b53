/- ConfChanges: for every input the law's call returns true, and its arguments read as they did. No condition. -/
import Derived.Test.YtilefofpfbgikaaRows
import Derived.Test.YtilefofpfbgikaaCc
import Derived.Test.YtilefofpfbgikaaOpenC
import Derived.ProofKit
import Derived.OpenShut
import Derived.ShutString
import Derived.ChangeOld
namespace Go.Proofs.Ytilefofpfbgikaa.ConfChangesP
open Go.ChangeShapes Go.WideShapes Go.ChangeAt Go.RowKit Mem
open Go.ChangeMaps (open_string shut_string)

theorem own : ownKnob Try.prog.godebug = none := by kernel_rfl
theorem laidOut : laidOutB Try.prog = true := by kernel_rfl
set_option maxRecDepth 100000 in
theorem lifted (os : Os) (started : os.Started) (H : Type) (enc : TypeId × Value → H) :
    ReturnsInHanded {} Try.checked os 8 .any (Rows.confChangesSpec.pre6 enc Try.prog Try.f8 Rows.confChangesRow.domain false) (Rows.confChangesSpec.post enc Try.prog Try.f8 false true false false) := by
  refine returnsInHanded_of_change_sized (C := Try.checked) own started (by kernel_rfl) Try.func8
    (ChangeSpec.witness6 (enc := enc) (C := Try.checked) false ⟨#[], #[.agg #[.slice none 0 0, .slice none 0 0], .slice none 0 0, .slice none 0 0], []⟩ 8 (by kernel_rfl) (by kernel_rfl) (by kernel_rfl) (by kernel_rfl)) ?_
  intro W base args ds gs before hval0 hW hcnd hsz0 _
  have hval : ∀ (j : Nat) t v, Try.f8.params[j]? = some t → args[j]? = some v → Value.okWide Try.prog W .any base t v := hval0
  have hW' := hW
  obtain ⟨p, q, hA0, hV, rfl, hfz, hnd⟩ := hW
  have hA : DataW.TrodAll enc Try.prog W 0 (fun _ => true) true Try.f8.params.toList args.toList ds p := hA0
  have hsz : (DataW.weightsEach Try.prog (Try.f8.params.toList ++ Rows.confChangesSpec.plain.varTypes Try.prog) (ds ++ gs)).all (· ≤ reachBytes) = true := hsz0
  rw [Try.params8] at hA hval hsz
  obtain ⟨v0, vs0, d0, ds0, p0, q0, hargs, rfl, rfl, h0, r0⟩ := trodAll_cons hA
  obtain ⟨v1, vs1, d1, ds1, p1, q1, rfl, rfl, rfl, h1, r1⟩ := trodAll_cons r0
  obtain ⟨v2, vs2, d2, ds2, p2, q2, rfl, rfl, rfl, h2, r2⟩ := trodAll_cons r1
  obtain ⟨rfl, rfl, rfl⟩ := trodAll_nil r2
  obtain rfl : args = #[v0, v1, v2] := by cases args; simp_all
  obtain ⟨rfl, rfl⟩ := trodVars_none hV
  have k0 := h0
  have lt0 : ∀ x ∈ p0, x.block < W.heap.size := by obtain ⟨m, hm⟩ := k0; exact DataW.trod_lt m _ _ _ hm
  obtain ⟨A0, c0, xs0, B0, e0, ls0, rfl, hA0, hB0⟩ := open_conf (hval 0 24 v0 rfl rfl) k0 hsz (j := 0) rfl rfl
  have k1 := h1
  have lt1 : ∀ x ∈ p1, x.block < W.heap.size := by obtain ⟨m, hm⟩ := k1; exact DataW.trod_lt m _ _ _ hm
  obtain ⟨A1, len1, cap1, rfl⟩ := okWide_slice Try.underlying22 (hval 1 22 v1 rfl rfl)
  have hm1 : cap1 ≤ maxLen := by obtain ⟨m, hm⟩ := k1; rcases DataW.trod_slice Try.underlying22 hm with ⟨e, _⟩ | ⟨a, len, cap, _, _, _, _, e, _, _, _, hm, _⟩ <;> (simp [Value.cells] at e; obtain ⟨_, _, rfl⟩ := e) <;> (first | exact hm | exact Nat.zero_le _)
  obtain ⟨xs1, rfl, hcap1, hs1, hx1, hd1⟩ := open_sl (Value.int .i64) (fun z => (Lit.int .i64 z).wf = true) Try.underlying22 (by kernel_rfl) k1 (fun v n y h => op_int Try.underlying3 h)
  have hR1 : Room 8 xs1.length := room_of hsz (j := 1) rfl rfl Try.underlying22 (by kernel_rfl) (match hd1 with | .inl h => .inl (congrArg List.length h) | .inr h => .inr h)
  have k2 := h2
  have lt2 : ∀ x ∈ p2, x.block < W.heap.size := by obtain ⟨m, hm⟩ := k2; exact DataW.trod_lt m _ _ _ hm
  obtain ⟨A2, len2, cap2, rfl⟩ := okWide_slice Try.underlying22 (hval 2 22 v2 rfl rfl)
  have hm2 : cap2 ≤ maxLen := by obtain ⟨m, hm⟩ := k2; rcases DataW.trod_slice Try.underlying22 hm with ⟨e, _⟩ | ⟨a, len, cap, _, _, _, _, e, _, _, _, hm, _⟩ <;> (simp [Value.cells] at e; obtain ⟨_, _, rfl⟩ := e) <;> (first | exact hm | exact Nat.zero_le _)
  obtain ⟨xs2, rfl, hcap2, hs2, hx2, hd2⟩ := open_sl (Value.int .i64) (fun z => (Lit.int .i64 z).wf = true) Try.underlying22 (by kernel_rfl) k2 (fun v n y h => op_int Try.underlying3 h)
  have hR2 : Room 8 xs2.length := room_of hsz (j := 2) rfl rfl Try.underlying22 (by kernel_rfl) (match hd2 with | .inl h => .inl (congrArg List.length h) | .inr h => .inr h)
  clear hA0 hval0
  refine (confChanges_walk A0 c0 xs0 hA0 B0 e0 ls0 hB0 A1 cap1 xs1 hcap1 hm1 hs1 hx1 hR1 A2 cap2 xs2 hcap2 hm2 hs2 hx2 hR2).mono fun e W' ⟨he, bel⟩ => ?_
  subst he
  exact ⟨_, rfl, _, _, _, [], _, [], hW', trodAll_mk1 (shut_bool Try.underlying4 _), (trodAll_cons_mk (Below.trod laidOut (by kernel_rfl) (of_decide_eq_true (by kernel_rfl)) k0 bel lt0) (trodAll_cons_mk (Below.trod laidOut (by kernel_rfl) (of_decide_eq_true (by kernel_rfl)) k1 bel lt1) (trodAll_cons_mk (Below.trod laidOut (by kernel_rfl) (of_decide_eq_true (by kernel_rfl)) k2 bel lt2) trodAll_mk0))), rfl, bel.frame _, fun h => by cases h⟩

theorem holds : Rows.ConfChangesSaid :=
  OpenClaim.holds_of_wide 8 Try.f8 rfl rfl rfl rfl rfl rfl rfl ⟨rfl, rfl, rfl, rfl, rfl⟩ rfl rfl rfl rfl rfl (by kernel_rfl) Try.func8 (by kernel_rfl)
    (of_decide_eq_true (by kernel_rfl)) (by unfold Func.isWrapper; rw [if_neg (of_decide_eq_false (by kernel_rfl))]; exact ⟨rfl, rfl⟩)
    (fun os started H enc _ => lifted os started H enc)

end Go.Proofs.Ytilefofpfbgikaa.ConfChangesP
