/- HardRaw: for every input the law's call returns true, and its arguments read as they did. No condition. -/
import Derived.Test.YtfpomllhkbbipaaRows
import Derived.Test.YtfpomllhkbbipaaHdX
import Derived.Test.YtfpomllhkbbipaaOpen
import Derived.ProofKit
import Derived.OpenShut
import Derived.ShutString
import Derived.ChangeOld
namespace Go.Proofs.Ytfpomllhkbbipaa.HardRawP
open Go.ChangeShapes Go.WideShapes Go.ChangeAt Go.RowKit Mem
open Go.ChangeMaps (open_string shut_string)

theorem own : ownKnob Try.prog.godebug = none := by kernel_rfl
theorem laidOut : laidOutB Try.prog = true := by kernel_rfl
set_option maxRecDepth 100000 in
theorem lifted (os : Os) (started : os.Started) (H : Type) (enc : TypeId × Value → H) :
    ReturnsInHanded {} Try.checked os 4 .any (Rows.hardRawSpec.pre6 enc Try.prog Try.f4 Rows.hardRawRow.domain false) (Rows.hardRawSpec.post enc Try.prog Try.f4 false true false false) := by
  refine returnsInHanded_of_change_sized (C := Try.checked) own started (by kernel_rfl) Try.func4
    (ChangeSpec.witness6 (enc := enc) (C := Try.checked) false ⟨#[], #[.slice none 0 0, .slice none 0 0, .slice none 0 0], []⟩ 8 (by kernel_rfl) (by kernel_rfl) (by kernel_rfl) (by kernel_rfl)) ?_
  intro W base args ds gs before hval0 hW hcnd hsz0 _
  have hval : ∀ (j : Nat) t v, Try.f4.params[j]? = some t → args[j]? = some v → Value.okWide Try.prog W .any base t v := hval0
  have hW' := hW
  obtain ⟨p, q, hA0, hV, rfl, hfz, hnd⟩ := hW
  have hA : DataW.TrodAll enc Try.prog W 0 (fun _ => true) true Try.f4.params.toList args.toList ds p := hA0
  have hsz : (DataW.weightsEach Try.prog (Try.f4.params.toList ++ Rows.hardRawSpec.plain.varTypes Try.prog) (ds ++ gs)).all (· ≤ reachBytes) = true := hsz0
  rw [Try.params4] at hA hval hsz
  obtain ⟨v0, vs0, d0, ds0, p0, q0, hargs, rfl, rfl, h0, r0⟩ := trodAll_cons hA
  obtain ⟨v1, vs1, d1, ds1, p1, q1, rfl, rfl, rfl, h1, r1⟩ := trodAll_cons r0
  obtain ⟨v2, vs2, d2, ds2, p2, q2, rfl, rfl, rfl, h2, r2⟩ := trodAll_cons r1
  obtain ⟨rfl, rfl, rfl⟩ := trodAll_nil r2
  obtain rfl : args = #[v0, v1, v2] := by cases args; simp_all
  obtain ⟨rfl, rfl⟩ := trodVars_none hV
  have k0 := h0
  have lt0 : ∀ x ∈ p0, x.block < W.heap.size := by obtain ⟨m, hm⟩ := k0; exact DataW.trod_lt m _ _ _ hm
  obtain ⟨A0, len0, cap0, rfl⟩ := okWide_slice Try.underlying38 (hval 0 38 v0 rfl rfl)
  have hm0 : cap0 ≤ maxLen := by obtain ⟨m, hm⟩ := k0; rcases DataW.trod_slice Try.underlying38 hm with ⟨e, _⟩ | ⟨a, len, cap, _, _, _, _, e, _, _, _, hm, _⟩ <;> (simp [Value.cells] at e; obtain ⟨_, _, rfl⟩ := e) <;> (first | exact hm | exact Nat.zero_le _)
  obtain ⟨xs0, rfl, hcap0, hs0, hx0, hd0⟩ := open_sl (fun z : UInt8 => Value.int .u8 (z.toNat : Int)) (fun _ => True) Try.underlying38 (by kernel_rfl) k0 (fun v n y h => op_byte Try.underlying5 h)
  have hR0 : Room 1 xs0.length := room_of hsz (j := 0) rfl rfl Try.underlying38 (by kernel_rfl) (match hd0 with | .inl h => .inl (congrArg List.length h) | .inr h => .inr h)
  have k1 := h1
  have lt1 : ∀ x ∈ p1, x.block < W.heap.size := by obtain ⟨m, hm⟩ := k1; exact DataW.trod_lt m _ _ _ hm
  obtain ⟨A1, len1, cap1, rfl⟩ := okWide_slice Try.underlying38 (hval 1 38 v1 rfl rfl)
  have hm1 : cap1 ≤ maxLen := by obtain ⟨m, hm⟩ := k1; rcases DataW.trod_slice Try.underlying38 hm with ⟨e, _⟩ | ⟨a, len, cap, _, _, _, _, e, _, _, _, hm, _⟩ <;> (simp [Value.cells] at e; obtain ⟨_, _, rfl⟩ := e) <;> (first | exact hm | exact Nat.zero_le _)
  obtain ⟨xs1, rfl, hcap1, hs1, hx1, hd1⟩ := open_sl (fun z : UInt8 => Value.int .u8 (z.toNat : Int)) (fun _ => True) Try.underlying38 (by kernel_rfl) k1 (fun v n y h => op_byte Try.underlying5 h)
  have hR1 : Room 1 xs1.length := room_of hsz (j := 1) rfl rfl Try.underlying38 (by kernel_rfl) (match hd1 with | .inl h => .inl (congrArg List.length h) | .inr h => .inr h)
  have k2 := h2
  have lt2 : ∀ x ∈ p2, x.block < W.heap.size := by obtain ⟨m, hm⟩ := k2; exact DataW.trod_lt m _ _ _ hm
  obtain ⟨A2, len2, cap2, rfl⟩ := okWide_slice Try.underlying22 (hval 2 22 v2 rfl rfl)
  have hm2 : cap2 ≤ maxLen := by obtain ⟨m, hm⟩ := k2; rcases DataW.trod_slice Try.underlying22 hm with ⟨e, _⟩ | ⟨a, len, cap, _, _, _, _, e, _, _, _, hm, _⟩ <;> (simp [Value.cells] at e; obtain ⟨_, _, rfl⟩ := e) <;> (first | exact hm | exact Nat.zero_le _)
  obtain ⟨xs2, rfl, hcap2, hs2, hx2, hd2⟩ := open_sl (Value.bool) (fun _ => True) Try.underlying22 (by kernel_rfl) k2 (fun v n y h => op_bool Try.underlying4 h)
  have hR2 : Room 1 xs2.length := room_of hsz (j := 2) rfl rfl Try.underlying22 (by kernel_rfl) (match hd2 with | .inl h => .inl (congrArg List.length h) | .inr h => .inr h)
  clear hA0 hval0
  refine (hardRaw2_walk A0 cap0 xs0 hcap0 hm0 hs0 hx0 hR0 A1 cap1 xs1 hcap1 hm1 hs1 hx1 hR1 A2 cap2 xs2 hcap2 hm2 hs2 hx2 hR2).mono fun e W' ⟨he, bel⟩ => ?_
  subst he
  exact ⟨_, rfl, _, _, _, [], _, [], hW', trodAll_mk1 (shut_bool Try.underlying4 _), (trodAll_cons_mk (Below.trod laidOut (by kernel_rfl) (of_decide_eq_true (by kernel_rfl)) k0 bel lt0) (trodAll_cons_mk (Below.trod laidOut (by kernel_rfl) (of_decide_eq_true (by kernel_rfl)) k1 bel lt1) (trodAll_cons_mk (Below.trod laidOut (by kernel_rfl) (of_decide_eq_true (by kernel_rfl)) k2 bel lt2) trodAll_mk0))), rfl, bel.frame _, fun h => by cases h⟩

theorem holds : Rows.HardRawSaid :=
  OpenClaim.holds_of_wide 4 Try.f4 rfl rfl rfl rfl rfl rfl rfl ⟨rfl, rfl, rfl, rfl, rfl⟩ rfl rfl rfl rfl rfl (by kernel_rfl) Try.func4 (by kernel_rfl)
    (of_decide_eq_true (by kernel_rfl)) (by unfold Func.isWrapper; rw [if_neg (of_decide_eq_false (by kernel_rfl))]; exact ⟨rfl, rfl⟩)
    (fun os started H enc _ => lifted os started H enc)

end Go.Proofs.Ytfpomllhkbbipaa.HardRawP
