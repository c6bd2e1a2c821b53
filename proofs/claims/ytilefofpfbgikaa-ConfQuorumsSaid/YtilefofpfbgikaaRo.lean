/- Layer 15: the document's Others. -/
import Derived.Test.YtilefofpfbgikaaNxL
namespace Go.Proofs.Ytilefofpfbgikaa
open Go.RowKit Go.Maps Go.Lib Mem Cf

theorem Own.lower {α : Type} {f : α → Value} {base base' : Nat} {e : TypeId} {w : World} {v : Value} {xs : List α} (h : Own f base e w v xs) (hb : base' ≤ base) : Own f base' e w v xs := by
  obtain ⟨h1, h2⟩ := h
  refine ⟨h1, ?_⟩
  rcases h2 with h2 | ⟨g, cap, cur, a, b, c⟩
  · exact .inl h2
  · exact .inr ⟨g, cap, cur, a, Nat.le_trans hb b, c⟩
def other1 (vs ls : List Int) (n m : Int) : Bool := !decide (m = n) && (hasB vs m || hasB ls m)
/-- of the numbers 1 to 7 the others, up to k of them looked at -/
def others (vs ls : List Int) (n : Int) (k : Nat) : List Int := ((List.range k).map fun i : Nat => ((i : Int) + 1)).filter (other1 vs ls n)
theorem others_yes {vs ls : List Int} {n : Int} {k : Nat} (h : other1 vs ls n ((k : Int) + 1) = true) : others vs ls n (k + 1) = others vs ls n k ++ [(k : Int) + 1] := by
  unfold others; rw [List.range_succ, List.map_append, List.filter_append]; simp [h]
theorem others_no {vs ls : List Int} {n : Int} {k : Nat} (h : other1 vs ls n ((k : Int) + 1) = false) : others vs ls n (k + 1) = others vs ls n k := by
  unfold others; rw [List.range_succ, List.map_append, List.filter_append]; simp [h]
theorem others_len (vs ls : List Int) (n : Int) (k : Nat) : (others vs ls n k).length ≤ k := by
  unfold others; exact Nat.le_trans (List.length_filter_le ..) (by simp)
def OtRel (vs ls : List Int) (n : Int) (w1 : World) (ov mv : Value) (wr : World) : Prop :=
  ∃ k : Nat, k ≤ 7 ∧ mv = .int .i64 ((k : Int) + 1) ∧ Own fI w1.heap.size 3 wr ov (others vs ls n k) ∧ Below w1.heap.size w1 wr
set_option maxRecDepth 100000 in
set_option maxHeartbeats 8000000 in
theorem ROthers_any {w : World} {A B : Option Addr} {c d : Nat} {vs ls : List Int} (h : CI w A vs B ls) (n : Int) :
    Calls Try.prog 34 #[.agg #[.slice A vs.length c, .slice B ls.length d], .int .i64 n] w (OwnPost w.heap.size (others vs ls n 7) w) := by
  have H := Lib.hid h; clear h
  go_enter Try.func34, Try.ntmps34
  go_upto_region 1 with fail
  obtain ⟨w1, hw1⟩ : ∃ x, x = w.alloc (.cells #[.slice A vs.length c, .slice B ls.length d] 24) := ⟨_, rfl⟩
  rw [← hw1]
  have hb1 : Below w.heap.size w w1 := by rw [hw1]; exact (Below.refl _ _).alloc (Nat.le_refl _) _
  have hx1 : Blk w1 w.heap.size 24 #[.slice A vs.length c, .slice B ls.length d] := by rw [hw1]; exact Blk.new_ w _ _
  have H1 := Lib.hid (H.out.below hb1)
  have HB1 := Lib.hid hb1
  have HX1 := Lib.hid hx1
  clear hw1 hb1 hx1 H
  go_wp2_with fail
  go_loopw [5, 6] (fun ov mv wr => OtRel vs ls n w1 ov mv wr) (fun _ mv _ => 8 - (intOf mv).toNat)
  case atStart => exact ⟨0, Nat.zero_le _, rfl, Own.mk_ (Nat.le_refl _), (Below.refl _ _).alloc (Nat.le_refl _) _⟩
  case round =>
    obtain ⟨k, hk, rfl, hown, hbw⟩ := hrel
    have HOWN := Lib.hid hown; clear hown
    have HBW := Lib.hid hbw; clear hbw
    by_cases hlt : k < 7
    · have b0 : wr.cell? ⟨w.heap.size, 0, none⟩ = some (.slice A vs.length c) := (HX1.out.below HBW.out HX1.out.lt).cell 0
      have b1 : wr.cell? ⟨w.heap.size, 1, none⟩ = some (.slice B ls.length d) := (HX1.out.below HBW.out HX1.out.lt).cell 1
      by_cases hmn : (k : Int) + 1 = n
      · have ht : other1 vs ls n ((k : Int) + 1) = false := by unfold other1; rw [decide_eq_true hmn]; rfl
        have HT := Lib.hid ht; clear ht
        have te : ((k : Int) + 1 == n) = true := by rw [beq_iff_eq]; exact hmn
        have tn : ((k : Int) + 1 != n) = false := by simp [hmn]
        clear hmn
        go_wp2_with fail
        go_roundw
        case rel => exact ⟨k + 1, by omega, by go_num, by rw [others_no HT.out]; exact HOWN.out, HBW.out⟩
        case measure => simp [intOf]; omega
      · have te : ((k : Int) + 1 == n) = false := by rw [beq_eq_false_iff_ne]; exact hmn
        have tn : ((k : Int) + 1 != n) = true := by rw [bne_iff_ne]; exact hmn
        obtain ⟨y, hy⟩ : ∃ y, y = (hasB vs ((k : Int) + 1) || hasB ls ((k : Int) + 1)) := ⟨_, rfl⟩
        have ht : other1 vs ls n ((k : Int) + 1) = y := by unfold other1; rw [decide_eq_false hmn, hy]; rfl
        have HT := Lib.hid ht; clear ht hmn
        have hrm := RMember_any (c := c) (d := d) (H1.out.below HBW.out) ((k : Int) + 1)
        rw [← hy] at hrm
        have HRM := Lib.hid hrm; clear hrm hy
        go_wp2_with fail
        (with_reducible refine HRM.out.mono ?_); rintro e w2 ⟨rfl, hb2⟩
        have HO2 := Lib.hid (HOWN.out.below hb2)
        have HB2 := Lib.hid (HBW.out.trans (hb2.mono HBW.out.size))
        clear hb2 b0 b1 HOWN HBW HRM
        cases y with
        | false =>
          go_wp2_with fail
          go_roundw
          case rel => exact ⟨k + 1, by omega, by go_num, by rw [others_no HT.out]; exact HO2.out, HB2.out⟩
          case measure => simp [intOf]; omega
        | true =>
          have hu := others_len vs ls n k
          have h63 : (others vs ls n k).length + 1 ≤ maxLen := by unfold maxLen; omega
          have hby : ((others vs ls n k).length + 1) * 8 ≤ 140737488355328 := by omega
          have H63 := Lib.hid h63; clear h63
          have HBY := Lib.hid hby; clear hby hu
          go_wp2_with (at_builtin; refine wpList_append1 (f := fI) rfl (.tmp 20) (.tmp 22) 22 rfl intTI ((k : Int) + 1) (fI_oneI _) rfl HO2.out rfl rfl H63.out HBY.out HB2.out.size ?_; intro v7 w7 ho7 hb7)
          go_roundw
          case rel => exact ⟨k + 1, by omega, by go_num, by rw [others_yes HT.out]; exact ho7, HB2.out.trans hb7⟩
          case measure => simp [intOf]; omega
    · have hk7 : k = 7 := by omega
      subst hk7
      obtain ⟨A1, c1, rfl⟩ := HOWN.out.form
      go_wp2_with fail
      go_ret
      exact ⟨A1, c1, rfl, Own.lower HOWN.out HB1.out.size, HB1.out.trans (HBW.out.mono HB1.out.size)⟩
end Go.Proofs.Ytilefofpfbgikaa
