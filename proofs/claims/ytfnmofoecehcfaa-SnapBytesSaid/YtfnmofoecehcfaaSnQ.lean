/- Layer 8: the law SnapBytes walked. -/
import Derived.Test.YtfnmofoecehcfaaSnP
namespace Go.Proofs.Ytfnmofoecehcfaa
open Go Go.RowKit Go.Maps Go.Lib Mem Pk Cf

set_option maxRecDepth 100000 in
set_option maxHeartbeats 4000000 in
theorem snapBytes_walk {w : World} (x t : Int) (A B D : Option Addr) (a b d : Nat) (vs ls : List Int) (ds : List UInt8) (hin : SnIn w A vs B ls D ds) (hdc : ds.length ≤ d) :
    Calls Try.prog 3 #[.agg #[.int .i64 x, .int .i64 t, .slice A vs.length a, .slice B ls.length b, .slice D ds.length d]] w (OfW (.bool true) w) := by
  have HIN := Lib.hid hin; clear hin
  have HDC := Lib.hid hdc; clear hdc
  obtain ⟨w0, hw0⟩ : ∃ z, z = w.alloc (.cells #[.int .i64 x, .int .i64 t, .slice A vs.length a, .slice B ls.length b, .slice D ds.length d] 27) := ⟨_, rfl⟩
  have hb0 : Below w.heap.size w w0 := by rw [hw0]; exact (Below.refl _ _).alloc (Nat.le_refl _) _
  have hx0 : Blk w0 w.heap.size 27 #[.int .i64 x, .int .i64 t, .slice A vs.length a, .slice B ls.length b, .slice D ds.length d] := by rw [hw0]; exact Blk.new_ w _ _
  have HCD := Lib.hid (coding_any (w := w0))
  have HIN0 := Lib.hid (HIN.out.below hb0)
  have HB0 := Lib.hid hb0; clear hb0
  have HX0 := Lib.hid hx0; clear hx0
  have HW0 := Lib.hid hw0; clear hw0
  go_enter Try.func3, Try.ntmps3
  go_upto_region 1 with fail
  rw [← HW0.out]
  clear HW0
  go_wp2_with fail
  (with_reducible refine HCD.out.mono ?_); rintro e w1 ⟨rfl, hb1⟩
  have HB1 : Hid (Below w.heap.size w w1) := Lib.hid (HB0.out.trans (hb1.mono HB0.out.size))
  have HX1 := Lib.hid (HX0.out.below hb1 HX0.out.lt)
  have HI1 := Lib.hid (HIN0.out.below hb1)
  obtain ⟨d0, d1, d2, d3, d4⟩ := held5 HX1.out (Below.refl _ _)
  clear hb1 HCD
  obtain ⟨p, hp⟩ : ∃ p, p = snapB x t vs ls ds := ⟨_, rfl⟩
  cases p with
  | false =>
    have HBY := Lib.hid (SBytes_no (a := a) (b := b) (d := d) HI1.out hp.symm)
    have HP := Lib.hid hp; clear hp
    go_wp2_with fail
    (with_reducible refine HBY.out.mono ?_); rintro e w2 ⟨O, co, rfl, ho2, hb2⟩
    simp only [List.length_nil] at ho2 ⊢
    have HB2 : Hid (Below w.heap.size w w2) := Lib.hid (HB1.out.trans (hb2.mono HB1.out.size))
    have HX2 := Lib.hid (HX1.out.below hb2 HX1.out.lt)
    have HI2 := Lib.hid (HI1.out.below hb2)
    clear hb2 ho2 d0 d1 d2 d3 d4
    obtain ⟨d0, d1, d2, d3, d4⟩ := held5 HX2.out (Below.refl _ _)
    have HOF := Lib.hid (of_w (x := x) (t := t) (A := A) (B := B) (D := D) (n := vs.length) (a := a) (m := ls.length) (b := b) (l := ds.length) (d := d) (Below.refl w2.heap.size w2))
    go_wp2_with fail
    (with_reducible refine HOF.out.mono ?_); rintro e w3 ⟨rfl, hb3⟩
    have hrr := RSnRight_any (w := w3) (x := x) (t := t) (a := a) (b := b) (d := d) (HI2.out.below hb3)
    rw [← HP.out] at hrr
    have HRR := Lib.hid hrr
    have HB3 : Hid (Below w.heap.size w w3) := Lib.hid (HB2.out.trans (hb3.mono HB2.out.size))
    clear hrr hb3 d0 d1 d2 d3 d4
    go_wp2_with fail
    (with_reducible refine HRR.out.mono ?_); rintro e w4 ⟨rfl, hb4⟩
    have HB4 : Hid (Below w.heap.size w w4) := Lib.hid (HB3.out.trans (hb4.mono HB3.out.size))
    clear hb4
    go_wp2_with fail
    go_ret
    exact ⟨rfl, HB4.out⟩
  | true =>
    obtain ⟨out, hout⟩ : ∃ z, z = snB x t vs ls ds := ⟨_, rfl⟩
    have hby := SBytes_yes (a := a) (b := b) (d := d) HI1.out HDC.out hp.symm
    rw [← hout] at hby
    have HBY := Lib.hid hby; clear hby
    have hsn : isSn out ⟨x, t, vs, ls, ds⟩ := ⟨hp.symm, hout⟩
    have HSN := Lib.hid hsn; clear hsn
    have HOUT := Lib.hid hout; clear hout
    have HP := Lib.hid hp; clear hp
    go_wp2_with fail
    (with_reducible refine HBY.out.mono ?_); rintro e w2 ⟨O, co, rfl, ho2, hb2⟩
    simp only at ho2 ⊢
    have HB2 : Hid (Below w.heap.size w w2) := Lib.hid (HB1.out.trans (hb2.mono HB1.out.size))
    have HX2 := Lib.hid (HX1.out.below hb2 HX1.out.lt)
    have HI2 := Lib.hid (HI1.out.below hb2)
    have HO2 := Lib.hid ho2
    clear hb2 ho2 d0 d1 d2 d3 d4
    obtain ⟨d0, d1, d2, d3, d4⟩ := held5 HX2.out (Below.refl _ _)
    have HOF := Lib.hid (of_w (x := x) (t := t) (A := A) (B := B) (D := D) (n := vs.length) (a := a) (m := ls.length) (b := b) (l := ds.length) (d := d) (Below.refl w2.heap.size w2))
    go_wp2_with fail
    (with_reducible refine HOF.out.mono ?_); rintro e w3 ⟨rfl, hb3⟩
    have hrr := RSnRight_any (w := w3) (x := x) (t := t) (a := a) (b := b) (d := d) (HI2.out.below hb3)
    rw [← HP.out] at hrr
    have HRR := Lib.hid hrr
    have HB3 : Hid (Below w2.heap.size w2 w3) := Lib.hid hb3
    clear hrr hb3 d0 d1 d2 d3 d4
    go_wp2_with fail
    (with_reducible refine HRR.out.mono ?_); rintro e w4 ⟨rfl, hb4⟩
    have HB4 : Hid (Below w2.heap.size w2 w4) := Lib.hid (HB3.out.trans (hb4.mono HB3.out.size))
    have HSR := Lib.hid (SRead_any (HO2.out.sl.2.below HB4.out) HO2.out.cap.1 HO2.out.cap.2)
    clear hb4 HOF
    go_wp2_with fail
    (with_reducible refine HSR.out.mono ?_); rintro e w5 ⟨hb5, -, hyes⟩
    obtain ⟨s, hse⟩ : ∃ s : SnT, s = ⟨x, t, vs, ls, ds⟩ := ⟨_, rfl⟩
    obtain ⟨X, Y, Z, a', b', d', rfl, hv, hl, hd⟩ := hyes s (by rw [hse]; exact readS_iff.2 HSN.out)
    have HSE := Lib.hid hse; clear hse
    obtain ⟨w6, hw6⟩ : ∃ z, z = w5.alloc (.cells #[.int .i64 s.x, .int .i64 s.t, .slice X s.vs.length a', .slice Y s.ls.length b', .slice Z s.ds.length d'] 27) := ⟨_, rfl⟩
    have hb6 : Below w5.heap.size w5 w6 := by rw [hw6]; exact (Below.refl _ _).alloc (Nat.le_refl _) _
    have hb46 : Below w4.heap.size w4 w6 := hb5.trans (hb6.mono hb5.size)
    have hb26 : Below w2.heap.size w2 w6 := HB4.out.trans (hb46.mono HB4.out.size)
    have HB6 : Hid (Below w.heap.size w w6) := Lib.hid (HB2.out.trans (hb26.mono HB2.out.size))
    have HX6 := Lib.hid (HX2.out.below hb26 HX2.out.lt)
    have HY6 : Hid (Blk w6 w5.heap.size 27 #[.int .i64 s.x, .int .i64 s.t, .slice X s.vs.length a', .slice Y s.ls.length b', .slice Z s.ds.length d']) := Lib.hid (by rw [hw6]; exact Blk.new_ w5 _ _)
    have HI6 := Lib.hid (HI2.out.below hb26)
    have HJ6 : Hid (SnIn w6 X s.vs Y s.ls Z s.ds) := Lib.hid ⟨hv.sl.2.below hb6, hl.sl.2.below hb6, hd.sl.2.below hb6⟩
    have HO6 : Hid (Sl fB w6 O out) := Lib.hid (HO2.out.sl.2.below hb26)
    have HW6 := Lib.hid hw6
    clear hw6 hb5 hb6 hb46 hb26 hyes hv hl hd HSR HRR
    go_upto_region 7 with fail
    rw [← HW6.out]
    clear HW6
    have HOA : Hid (∀ W, Below w6.heap.size w6 W → Calls Try.prog 8 #[.agg #[.int .i64 x, .int .i64 t, .slice A vs.length a, .slice B ls.length b, .slice D ds.length d]] W (OfW (.agg #[.int .i64 x, .int .i64 t, .slice A vs.length a, .slice B ls.length b, .slice D ds.length d]) w6)) := Lib.hid fun W hb => of_w hb
    have HOB : Hid (∀ W, Below w6.heap.size w6 W → Calls Try.prog 8 #[.agg #[.int .i64 s.x, .int .i64 s.t, .slice X s.vs.length a', .slice Y s.ls.length b', .slice Z s.ds.length d']] W (OfW (.agg #[.int .i64 s.x, .int .i64 s.t, .slice X s.vs.length a', .slice Y s.ls.length b', .slice Z s.ds.length d']) w6)) := Lib.hid fun W hb => of_w hb
    have HSM : Hid (∀ W, Below w6.heap.size w6 W → Calls Try.prog 12 #[.agg #[.int .i64 x, .int .i64 t, .slice A vs.length a, .slice B ls.length b, .slice D ds.length d], .agg #[.int .i64 s.x, .int .i64 s.t, .slice X s.vs.length a', .slice Y s.ls.length b', .slice Z s.ds.length d']] W (OfW (.bool true) w6)) := Lib.hid fun W hb => by
      have h9 := same_w (s := ⟨x, t, vs, ls, ds⟩) (s' := s) (a := a) (b := b) (d := d) (a' := a') (b' := b') (d' := d') hb HI6.out HJ6.out
      have e9 : sameB ⟨x, t, vs, ls, ds⟩ s = true := by rw [← HSE.out]; exact sameB_self s
      rw [e9] at h9; exact h9
    have HBT : Hid (∀ W, Below w6.heap.size w6 W → Calls Try.prog 11 #[.agg #[.int .i64 x, .int .i64 t, .slice A vs.length a, .slice B ls.length b, .slice D ds.length d]] W (BtW out w6)) := Lib.hid fun W hb => by
      obtain ⟨h1, h2, h3, h4⟩ := snap_parts HP.out.symm
      obtain ⟨hv, hl'⟩ := rconf_rise h3
      rw [HOUT.out]
      refine (RSnBytes_any (a := a) (b := b) (d := d) (HI6.out.below hb) HDC.out ⟨by omega, by omega⟩ ⟨by omega, by omega⟩ (rise_small hv) (rise_small hl') (fun n hn => by have := rise_mem hv hn; omega) (fun n hn => by have := rise_mem hl' hn; omega) h4).mono fun e w' hh => ?_
      obtain ⟨v, he, ho, hb2⟩ := hh
      obtain ⟨AB, cB, rfl⟩ := ho.form
      exact ⟨AB, cB, he, ho.sl.2, hb.trans (hb2.mono hb.size)⟩
    have HSB : Hid (∀ W AB cB, Below w6.heap.size w6 W → Sl fB W AB out → Calls Try.prog 10 #[.slice O out.length co, .slice AB out.length cB] W (OfW (.bool true) w6)) := Lib.hid fun W AB cB hb hs => by
      refine (SameBytes_any O AB co cB out out W (HO6.out.below hb) hs).mono fun e w' hh => ?_
      obtain ⟨he, m, rfl⟩ := hh
      exact ⟨by rw [he]; simp, below_drewN hb m⟩
    have hdr := below_drew0 w6
    go_cut [2] (fun v wx => v = .bool true ∧ Below w6.heap.size w6 wx)
    case first =>
      go_region_held3 (fun W => (W.cell? ⟨w.heap.size, 0, none⟩ = some (.int .i64 x) ∧ W.cell? ⟨w.heap.size, 1, none⟩ = some (.int .i64 t) ∧ W.cell? ⟨w.heap.size, 2, none⟩ = some (.slice A vs.length a) ∧ W.cell? ⟨w.heap.size, 3, none⟩ = some (.slice B ls.length b) ∧ W.cell? ⟨w.heap.size, 4, none⟩ = some (.slice D ds.length d)) ∧ (W.cell? ⟨w5.heap.size, 0, none⟩ = some (.int .i64 s.x) ∧ W.cell? ⟨w5.heap.size, 1, none⟩ = some (.int .i64 s.t) ∧ W.cell? ⟨w5.heap.size, 2, none⟩ = some (.slice X s.vs.length a') ∧ W.cell? ⟨w5.heap.size, 3, none⟩ = some (.slice Y s.ls.length b') ∧ W.cell? ⟨w5.heap.size, 4, none⟩ = some (.slice Z s.ds.length d')))
        (first | exact ⟨held5 HX6.out (by assumption), held5 HY6.out (by assumption)⟩)
        (first | (go_at_call 8; (with_reducible refine (HOA.out _ ?_).mono ?_); (assumption); rintro e wA ⟨rfl, hBA⟩)
               | (go_at_call 8; (with_reducible refine (HOB.out _ ?_).mono ?_); (assumption); rintro e wB ⟨rfl, hBB⟩)
               | (go_at_call 11; (with_reducible refine (HBT.out _ ?_).mono ?_); (assumption); rintro e wT ⟨AB, cB, rfl, hslB, hBT⟩)
               | (go_at_call 10; (with_reducible refine (HSB.out _ _ _ ?_ ?_).mono ?_); (assumption); (assumption); rintro e wS ⟨rfl, hBS⟩)
               | (go_at_call 12; (with_reducible refine (HSM.out _ ?_).mono ?_); (assumption); rintro e wU ⟨rfl, hBU⟩))
      all_goals (go_wp2_with fail; go_meet; exact ⟨rfl, by assumption⟩)
    case rest =>
      obtain ⟨hv9, hb9⟩ := hcut
      subst hv9
      go_wp2_with fail
      go_ret
      exact ⟨rfl, HB6.out.trans (hb9.mono HB6.out.size)⟩
end Go.Proofs.Ytfnmofoecehcfaa
