/- WalKeeps: for every input the law's call returns true, and its arguments read as they did. No condition. -/
import Derived.Test.YtifgajinfcihmaaGreatDoorRows
import Derived.Test.YtifgajinfcihmaaGreatDoorCards
import Derived.Test.YtifgajinfcihmaaGreatDoorTie
import Derived.SevenTiedAt
import Derived.Stop.Joined
import Derived.LaidMore
import Derived.ProofKit
import Derived.OpenShut
import Derived.ShutString
import Derived.ChangeOld
import Derived.Test.YtifgajinfcihmaaGreatDoorJBo
import Derived.Test.YtifgajinfcihmaaGreatDoorJBi
import Derived.Test.YtifgajinfcihmaaGreatDoorJBl
namespace Go.Proofs.YtifgajinfcihmaaGreatDoor.WalKeepsP
open Go.ChangeShapes Go.WideShapes Go.ChangeAt Go.RowKit Mem
open Go.ChangeMaps (open_string shut_string)
theorem own : ownKnob Tryz.prog.godebug = none := by kernel_rfl
theorem laidOut : laidOutB Tryz.prog = true := by kernel_rfl
set_option maxRecDepth 100000 in
theorem lifted (os : Os) (started : os.Started) (H : Type) (enc : TypeId × Value → H) :
 ReturnsInHanded {} Tryz.checked os 7 .any (fun w args => (Rows.walKeepsSpec.pre enc Tryz.prog Tryz.f7 [] false w args ∧ laidMetH Tryz.prog Rows.walGapsRow.laid w) ∧ sizedMet enc Tryz.prog Tryz.f7 (OpenSpec.ofChange Rows.walKeepsSpec) false w args) (Rows.walKeepsSpec.post enc Tryz.prog Tryz.f7 false true false false) := by
 refine returnsInHanded_of_change_and (C := Tryz.checked) (X := fun w _ => laidMetH Tryz.prog Rows.walGapsRow.laid w) (fun _ _ _ hh h => h.of_heap hh) own started (by kernel_rfl) Tryz.func7
  (ChangeSpec.witness_shaped (enc := enc) (C := Tryz.checked) (os := os) (X := fun w _ => laidMetH Tryz.prog Rows.walGapsRow.laid w) false (World.doorLaid Tryz.prog 62 os) #[.slice none 0 0, .slice none 0 0] 8 rfl (World.shaped_of_RefB (by kernel_rfl) (by kernel_rfl)) (by kernel_rfl) (by kernel_rfl) (by kernel_rfl) (door_met os _)) ?_
 intro W base args ds gs before hval0 hW hcnd hsz0 hL _
 have HL := of_laid hL
 have hval : ∀ (j : Nat) t v, Tryz.f7.params[j]? = some t → args[j]? = some v → Value.okWide Tryz.prog W .any base t v := hval0
 have hW' := hW
 obtain ⟨p, q, hA0, hV, rfl, hfz, hnd⟩ := hW
 have hA : DataW.TrodAll enc Tryz.prog W 0 (fun _ => true) true Tryz.f7.params.toList args.toList ds p := hA0
 have hsz : (DataW.weightsEach Tryz.prog (Tryz.f7.params.toList ++ Rows.walKeepsSpec.plain.varTypes Tryz.prog) (ds ++ gs)).all (· ≤ reachBytes) = true := hsz0
 rw [Tryz.params7] at hA hval hsz
 obtain ⟨v0, vs0, d0, ds0, p0, q0, hargs, rfl, rfl, h0, r0⟩ := trodAll_cons hA
 obtain ⟨v1, vs1, d1, ds1, p1, q1, rfl, rfl, rfl, h1, r1⟩ := trodAll_cons r0
 obtain ⟨rfl, rfl, rfl⟩ := trodAll_nil r1
 obtain rfl : args = #[v0, v1] := by cases args; simp_all
 obtain ⟨rfl, rfl⟩ := trodVars_none hV
 have k0 := h0
 have lt0 : ∀ x ∈ p0, x.block < W.heap.size := by obtain ⟨m, hm⟩ := k0; exact DataW.trod_lt m _ _ _ hm
 obtain ⟨A0, len0, cap0, rfl⟩ := okWide_slice Tryz.underlying63 (hval 0 63 v0 rfl rfl)
 obtain ⟨xs0, rfl, hx0⟩ := open_wops k0 hsz (j := 0) rfl rfl
 have k1 := h1
 have lt1 : ∀ x ∈ p1, x.block < W.heap.size := by obtain ⟨m, hm⟩ := k1; exact DataW.trod_lt m _ _ _ hm
 obtain ⟨A1, len1, cap1, rfl⟩ := okWide_slice Tryz.underlying24 (hval 1 24 v1 rfl rfl)
 have hm1 : cap1 ≤ maxLen := by obtain ⟨m, hm⟩ := k1; rcases DataW.trod_slice Tryz.underlying24 hm with ⟨e, _⟩ | ⟨a, len, cap, _, _, _, _, e, _, _, _, hm, _⟩ <;> (simp [Value.cells] at e; obtain ⟨_, _, rfl⟩ := e) <;> (first | exact hm | exact Nat.zero_le _)
 obtain ⟨xs1, rfl, hcap1, hs1, hx1, hd1⟩ := open_sl (Value.bool) (fun _ => True) Tryz.underlying24 (by kernel_rfl) k1 (fun v n y h => op_bool Tryz.underlying4 h)
 have hR1 : Room 1 xs1.length := room_of hsz (j := 1) rfl rfl Tryz.underlying24 (by kernel_rfl) (match hd1 with | .inl h => .inl (congrArg List.length h) | .inr h => .inr h)
 clear hA0 hval0
 refine (walKeeps_walk HL A0 cap0 xs0 hx0 A1 cap1 xs1 hcap1 hm1 hs1 hx1 hR1).mono fun e W' ⟨he, bel⟩ => ?_
 subst he
 exact ⟨_, rfl, _, _, _, [], _, [], hW', trodAll_mk1 (shut_bool Tryz.underlying4 _), (trodAll_cons_mk (Below.trod laidOut (by kernel_rfl) (of_decide_eq_true (by kernel_rfl)) k0 bel lt0) (trodAll_cons_mk (Below.trod laidOut (by kernel_rfl) (of_decide_eq_true (by kernel_rfl)) k1 bel lt1) trodAll_mk0)), rfl, bel.frame _, fun h => by cases h⟩
theorem row_holds : Rows.WalKeepsSaid :=
 OpenClaim.holds_of_wide 7 Tryz.f7 rfl rfl rfl rfl rfl rfl rfl ⟨rfl, rfl, rfl, rfl, rfl⟩ rfl rfl rfl rfl rfl (by kernel_rfl) Tryz.func7 (by kernel_rfl)
  (of_decide_eq_true (by kernel_rfl)) (by unfold Func.isWrapper; rw [if_neg (of_decide_eq_false (by kernel_rfl))]; exact ⟨rfl, rfl⟩)
  (fun os started H enc _ => lifted os started H enc)
theorem wants : (Tryz.f7.params.toList.all fun u => !Tryz.prog.wantsStandIn u) = true := by kernel_rfl
theorem holds : Rows.WalKeepsCardSaid :=
 Claim7.holds_tied_plain_at .later [] [.data, .data, .data, .sentinel, .sentinel] true (true, "01a0e7f98a369a5fe52ea47ddd57beb03e3bdc53059ef298e479e154f8e62bf7") true
  row_holds (fun _ h => by cases h) (by kernel_rfl) (fun _ h => by cases h) walKeeps_row_tie rfl ⟨rfl, rfl⟩ (by kernel_rfl) rfl
  (fun f fn hf hfn => by
   obtain rfl : f = 7 := Option.some.inj ((show Tryz.prog.funcNamed "quillet/quilletlaw06.WalKeeps" = some 7 by kernel_rfl).symm.trans hf) |>.symm
   obtain rfl : fn = Tryz.f7 := (Option.some.inj (Tryz.func7.symm.trans hfn)).symm
   exact ⟨by kernel_rfl, fun j t ht => by
    have hm : t ∈ Tryz.f7.params.toList := Array.mem_toList_iff.2 (Array.mem_of_getElem? ht)
    exact (show Tryz.prog.wantsStandIn t = false by simpa using List.all_eq_true.1 wants t hm)⟩)
  (by kernel_rfl)
end Go.Proofs.YtifgajinfcihmaaGreatDoor.WalKeepsP
