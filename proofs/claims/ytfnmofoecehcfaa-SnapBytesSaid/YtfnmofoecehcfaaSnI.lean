/- Layer 8: the document's ints. -/
import Derived.Test.YtfnmofoecehcfaaRj
import Derived.Test.YtfnmofoecehcfaaPkP
import Derived.Test.YtfnmofoecehcfaaSnR
namespace Go.Proofs.Ytfnmofoecehcfaa
open Go Go.RowKit Go.Maps Go.Lib Mem Pk Cf

theorem apart_new {α β : Type} {f : α → Value} {g : β → Value} {base : Nat} {e e' : TypeId} {w w' : World} {va vb : Value} {xs : List α} {ys : List β} (h : Own f base e w va xs) (h' : Own g w.heap.size e' w' vb ys) : Apart va vb := by
  intro k h1 h2
  have := (h.lt k h1).2
  have := (h'.lt k h2).1
  omega
/-- a number behind bytes -/
theorem joinNum {base : Nat} {w w2 : World} {va vb : Value} {xs : List UInt8} {n : Int} (h : Own fB base 5 w va xs) (hb : base ≤ w.heap.size) (hl : xs.length ≤ 10000000) (h2 : Own fB w.heap.size 5 w2 vb (numB n)) (hbw : Below w.heap.size w w2) :
    Calls Try.prog 24 #[va, vb] w2 (AppPost base (xs ++ numB n) w2) :=
  Join_any (h.below hbw) h2 (apart_new h h2) (Nat.le_trans hb hbw.size) (by have := numB_len n; omega)
theorem numsB_consS (n : Int) (ns : List Int) : numsB (n :: ns) = numB n ++ numsB ns := by unfold numsB; rw [List.flatMap_cons]
def IsRel (ns : List Int) (w0 : World) (ov iv : Value) (wr : World) : Prop :=
  ∃ k : Nat, k ≤ ns.length ∧ iv = .int .i64 k ∧ Own fB w0.heap.size 5 wr ov (numB ns.length ++ numsB (ns.take k)) ∧ Below w0.heap.size w0 wr
set_option maxRecDepth 100000 in
set_option maxHeartbeats 2000000 in
theorem RInts_any {w : World} {B : Option Addr} {d : Nat} {ns : List Int} (hs : Sl fI w B ns) (hl2 : ns.length ≤ 1000) (hn : ∀ n ∈ ns, 0 ≤ n ∧ n ≤ 9223372036854775807) :
    Calls Try.prog 26 #[.slice B ns.length d] w (AppPost w.heap.size (numsB ((ns.length : Int) :: ns)) w) := by
  rw [numsB_consS]
  have HS := Lib.hid hs; clear hs
  have HN := Lib.hid hn; clear hn
  have HNM := Lib.hid (RNum_pos (w := w) (ns.length : Int) (by omega) (by omega))
  go_enter Try.func26, Try.ntmps26
  go_wp2_with fail
  (with_reducible refine HNM.out.mono ?_); rintro e w2 ⟨vb, rfl, ho2, hb2⟩
  have HO2 := Lib.hid ho2
  have HB2 := Lib.hid hb2; clear hb2 ho2
  go_wp2_with fail
  go_loopw [3, 4] (fun ov iv wr => IsRel ns w ov iv wr) (fun _ iv _ => ns.length - (intOf iv).toNat)
  case atStart => exact ⟨0, Nat.zero_le _, rfl, by rw [List.take_zero]; unfold numsB; rw [List.flatMap_nil, List.append_nil]; exact HO2.out, HB2.out⟩
  case round =>
    obtain ⟨k, hk, rfl, hown, hbw⟩ := hrel
    have HOWN := Lib.hid hown; clear hown
    have HBW := Lib.hid hbw; clear hbw
    by_cases hlt : k < ns.length
    · obtain ⟨b, o, rfl, _, hc⟩ := (HS.out.below HBW.out).at hlt
      have c1 := hc k hlt
      obtain ⟨y, hy⟩ : ∃ y, y = ns[k] := ⟨_, rfl⟩
      rw [← hy] at c1; unfold fI at c1
      have hyn := HN.out ns[k] (List.getElem_mem hlt)
      rw [← hy] at hyn
      have HTK : Hid (ns.take (k + 1) = ns.take k ++ [y]) := by show _ = _; rw [hy]; exact List.take_succ_eq_append_getElem hlt
      have HNK := Lib.hid (RNum_pos (w := wr) y hyn.1 hyn.2)
      clear hy hc
      have HXL : Hid ((numB ns.length ++ numsB (ns.take k)).length ≤ 10000000) := by
        show _ ≤ _
        rw [List.length_append]
        have h3 := numsB_len (ns.take k)
        rw [List.length_take] at h3
        have h4 := (numB_len ns.length).2
        omega
      have hk0 : (0 : Int) ≤ (k : Int) := by omega
      have hk1 : (k : Int) < (ns.length : Int) := by omega
      go_wp2_with fail
      (with_reducible refine HNK.out.mono ?_); rintro e w4 ⟨vb4, rfl, ho4, hb4⟩
      have HJ4 := Lib.hid (joinNum HOWN.out HBW.out.size HXL.out ho4 hb4)
      have HB4 := Lib.hid hb4; clear hb4 ho4
      go_wp2_with fail
      (with_reducible refine HJ4.out.mono ?_); rintro e w5 ⟨va5, rfl, ho5, hb5⟩
      go_wp2_with fail
      go_roundw
      case rel => exact ⟨k + 1, by omega, by go_num, by rw [HTK.out, numsB_snoc, ← List.append_assoc]; exact ho5, HBW.out.trans ((HB4.out.mono HBW.out.size).trans hb5)⟩
      case measure => simp [intOf]; omega
    · have hk9 : k = ns.length := by omega
      subst hk9
      rw [List.take_length] at HOWN
      go_wp2_with fail
      go_ret
      exact ⟨_, rfl, HOWN.out, HBW.out⟩
end Go.Proofs.Ytfnmofoecehcfaa
