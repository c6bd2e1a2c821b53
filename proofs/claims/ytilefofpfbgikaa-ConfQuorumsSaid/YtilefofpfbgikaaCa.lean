/- Layer 15: the statements' example. -/
import Derived.Test.YtilefofpfbgikaaMid2
import Derived.Test.YtilefofpfbgikaaLdY
import Derived.Test.YtilefofpfbgikaaNx
import Derived.Test.YtilefofpfbgikaaCb
import Derived.Test.YtilefofpfbgikaaRs
import Derived.Test.YtilefofpfbgikaaOtX
import Derived.Test.YtilefofpfbgikaaCf4
import Derived.Deep.RegionHeld3
namespace Go.Proofs.Ytilefofpfbgikaa
open Go Go.RowKit Go.Maps Go.Lib Mem Pk Cf

theorem rg_of {w3 W w' : World} {b : Bool} {e : Ending} (hb : Below w3.heap.size w3 W) (h : BoolB b W e w') : RgPost b w3 e w' := ⟨h.1, hb.trans (h.2.mono hb.size)⟩
theorem belowA {w1 W : World} (h : Below w1.heap.size w1 W) (o : Obj) : Below w1.heap.size w1 (W.alloc o) := h.alloc h.size o
theorem below_step {w1 W w' : World} (h : Below w1.heap.size w1 W) (h2 : Below W.heap.size W w') : Below w1.heap.size w1 w' := h.trans (h2.mono h.size)
def exB : List UInt8 := numsB (confN [1, 2, 3] [4])
theorem ex_load : loadC exB = some ([1, 2, 3], [4]) := loadC_some.2 ⟨by decide, rfl⟩
def ThPost (w3 W : World) (e : Ending) (w' : World) : Prop :=
  ∃ A B, e = .returned (.agg #[.slice A 3 3, .slice B 1 1]) ∧ CI w' A [1, 2, 3] B [4] ∧ Below w3.heap.size w3 w' ∧ Below W.heap.size W w'
theorem th_any {w3 W : World} (hb : Below w3.heap.size w3 W) : Calls Try.prog 17 #[] W (ThPost w3 W) :=
  (three_any W).mono fun e w' hh => by
    obtain ⟨A, B, he, h1, h2, h3⟩ := hh
    exact ⟨A, B, he, ⟨h1, h2⟩, below_step hb h3, h3⟩
def OtP (w3 W : World) (e : Ending) (w' : World) : Prop := ∃ A c, e = .returned (.slice A 3 c) ∧ Sl fI w' A [1, 3, 4] ∧ Below w3.heap.size w3 w' ∧ Below W.heap.size W w'
section
variable {w3 W W' : World} {A B An Ac Bc : Option Addr} {c d cn cc dc : Nat}
theorem lit_in (xs : List Int) (h : xs.length ≤ 9) : Sl fI (W.alloc (.cells (xs.map fI).toArray 3)) (some ⟨W.heap.size, 0, none⟩) xs := Sl.lit xs (by unfold maxLen; omega)
theorem CI.upA (h : CI W A [1, 2, 3] B [4]) (o : Obj) : CI (W.alloc o) A [1, 2, 3] B [4] := h.below ((Below.refl _ _).alloc (Nat.le_refl _) o)
theorem q13A (hb : Below w3.heap.size w3 W) (hci : CI W A [1, 2, 3] B [4]) : Calls Try.prog 38 #[.agg #[.slice A 3 c, .slice B 1 d], .slice (some ⟨W.heap.size, 0, none⟩) 2 2] (W.alloc (.cells #[.int .i64 1, .int .i64 3] 3)) (RgPost true w3) :=
  (Quorum_any (c := c) (d := d) (hci.upA _) _ 2 [1, 3] (lit_in (W := W) [1, 3] (by decide)) (by decide)).mono fun _ _ h => rg_of (belowA hb _) h
theorem q2A (hb : Below w3.heap.size w3 W) (hci : CI W A [1, 2, 3] B [4]) : Calls Try.prog 38 #[.agg #[.slice A 3 c, .slice B 1 d], .slice (some ⟨W.heap.size, 0, none⟩) 1 1] (W.alloc (.cells #[.int .i64 2] 3)) (RgPost false w3) :=
  (Quorum_any (c := c) (d := d) (hci.upA _) _ 1 [2] (lit_in (W := W) [2] (by decide)) (by decide)).mono fun _ _ h => rg_of (belowA hb _) h
theorem lit_drew (xs : List Int) (h : xs.length ≤ 9) : Sl fI (World.drew (W.alloc (.cells (xs.map fI).toArray 3))) (some ⟨W.heap.size, 0, none⟩) xs := (lit_in xs h).below (below_drew0 _)
theorem lit13 : Sl fI (World.drew (W.alloc (.cells #[.int .i64 1, .int .i64 3] 3))) (some ⟨W.heap.size, 0, none⟩) [1, 3] := lit_drew [1, 3] (by decide)
theorem q13B {g : Nat} (hB : ∃ W : World, Below W.heap.size W W' ∧ Sl fI W (some ⟨g, 0, none⟩) [1, 3]) (hb : Below w3.heap.size w3 W') (hci : CI W' A [1, 2, 3] B [4]) : Calls Try.prog 38 #[.agg #[.slice A 3 c, .slice B 1 d], .slice (some ⟨g, 0, none⟩) 2 2] W' (RgPost true w3) := by
  obtain ⟨W, hB, hl⟩ := hB
  exact (Quorum_any (c := c) (d := d) hci _ 2 [1, 3] (hl.below hB) (by decide)).mono fun _ _ h => rg_of hb h
theorem q2B (hB : Below (W.alloc (.cells #[.int .i64 2] 3)).heap.size (W.alloc (.cells #[.int .i64 2] 3)) W') (hb : Below w3.heap.size w3 W') (hci : CI W' A [1, 2, 3] B [4]) : Calls Try.prog 38 #[.agg #[.slice A 3 c, .slice B 1 d], .slice (some ⟨W.heap.size, 0, none⟩) 1 1] W' (RgPost false w3) :=
  (Quorum_any (c := c) (d := d) hci _ 1 [2] ((lit_in (W := W) [2] (by decide)).below hB) (by decide)).mono fun _ _ h => rg_of hb h
theorem rg_q {b : Bool} {e : Ending} {w' : World} (hb : Below w3.heap.size w3 W) (h : Quiet (.bool b) W e w') : RgPost b w3 e w' := ⟨(Quiet.below h).1, below_step hb (Quiet.below h).2⟩
theorem sNA (hs : Sl fI w3 An [1, 2, 3, 4]) (hb : Below w3.heap.size w3 W) : Calls Try.prog 32 #[.slice An 4 cn, .slice (some ⟨W.heap.size, 0, none⟩) 4 4] (W.alloc (.cells #[.int .i64 1, .int .i64 2, .int .i64 3, .int .i64 4] 3)) (RgPost true w3) :=
  (SameInts_any An _ cn 4 [1, 2, 3, 4] [1, 2, 3, 4] _ (hs.below (belowA hb _)) (lit_in (W := W) [1, 2, 3, 4] (by decide))).mono fun _ _ h => rg_q (belowA hb _) h
theorem sOA (hs : Sl fI W A [1, 3, 4]) (hb : Below w3.heap.size w3 W) : Calls Try.prog 32 #[.slice A 3 c, .slice (some ⟨W.heap.size, 0, none⟩) 3 3] (W.alloc (.cells #[.int .i64 1, .int .i64 3, .int .i64 4] 3)) (RgPost true w3) :=
  (SameInts_any A _ c 3 [1, 3, 4] [1, 3, 4] _ (hs.below (belowA (Below.refl _ _) _)) (lit_in (W := W) [1, 3, 4] (by decide))).mono fun _ _ h => rg_q (belowA hb _) h
theorem sOB (hs : Sl fI W' A [1, 3, 4]) (hB : Below (W.alloc (.cells #[.int .i64 1, .int .i64 3, .int .i64 4] 3)).heap.size (W.alloc (.cells #[.int .i64 1, .int .i64 3, .int .i64 4] 3)) W') (hb : Below w3.heap.size w3 W') : Calls Try.prog 32 #[.slice A 3 c, .slice (some ⟨W.heap.size, 0, none⟩) 3 3] W' (RgPost true w3) :=
  (SameInts_any A _ c 3 [1, 3, 4] [1, 3, 4] _ hs ((lit_in (W := W) [1, 3, 4] (by decide)).below hB)).mono fun _ _ h => rg_q hb h
theorem rSm (hc : CI w3 Ac [1, 2, 3] Bc [4]) (hb : Below w3.heap.size w3 W) (hci : CI W A [1, 2, 3] B [4]) : Calls Try.prog 31 #[.agg #[.slice Ac 3 cc, .slice Bc 1 dc], .agg #[.slice A 3 c, .slice B 1 d]] W (RgPost true w3) :=
  (RSame_any (c := cc) (d := dc) (c' := c) (d' := d) (hc.below hb) hci).mono fun _ _ h => rg_of hb h
theorem rRg (hc : CI w3 Ac [1, 2, 3] Bc [4]) (hb : Below w3.heap.size w3 W) : Calls Try.prog 23 #[.agg #[.slice Ac 3 cc, .slice Bc 1 dc]] W (RgPost true w3) :=
  (Right_any (c := cc) (d := dc) (hc.below hb)).mono fun _ _ h => rg_of hb h
theorem rVt (hc : CI w3 Ac [1, 2, 3] Bc [4]) (hb : Below w3.heap.size w3 W) : Calls Try.prog 24 #[.agg #[.slice Ac 3 cc, .slice Bc 1 dc], .int .i64 1] W (RgPost true w3) :=
  (Voter_any (c := cc) (d := dc) (hc.below hb) 1).mono fun _ _ h => rg_of hb h
theorem rMb (hc : CI w3 Ac [1, 2, 3] Bc [4]) (hb : Below w3.heap.size w3 W) : Calls Try.prog 26 #[.agg #[.slice Ac 3 cc, .slice Bc 1 dc], .int .i64 4] W (RgPost true w3) :=
  (Member_any (c := cc) (d := dc) (hc.below hb) 4).mono fun _ _ h => rg_of hb h
theorem rOt (hc : CI w3 Ac [1, 2, 3] Bc [4]) (hb : Below w3.heap.size w3 W) : Calls Try.prog 33 #[.agg #[.slice Ac 3 cc, .slice Bc 1 dc], .int .i64 2] W (OtP w3 W) :=
  (Others_any (c := cc) (d := dc) (hc.below hb) 2 (by decide)).mono fun e w' h => by
    rw [show others [1, 2, 3] [4] 2 7 = [1, 3, 4] by decide] at h
    obtain ⟨A, c, he, ho, hb2⟩ := h
    exact ⟨A, c, he, ho.sl.2, below_step hb hb2, hb2⟩
theorem held7 {g g' : Nat} {x y x' y' : Value} (h : Blk w3 g 24 #[x, y]) (h' : Blk w3 g' 24 #[x', y']) (hb : Below w3.heap.size w3 W) : W.cell? ⟨g, 0, none⟩ = some x ∧ W.cell? ⟨g', 0, none⟩ = some x' ∧ W.cell? ⟨g', 1, none⟩ = some y' :=
  ⟨(h.below hb h.lt).cell 0, (h'.below hb h'.lt).cell 0, (h'.below hb h'.lt).cell 1⟩
end
set_option maxRecDepth 100000 in
set_option maxHeartbeats 8000000 in
theorem alive_any (w : World) : Calls Try.prog 20 #[] w (BoolB true w) := by
  obtain ⟨xs, hxs⟩ : ∃ xs, xs = exB := ⟨_, rfl⟩
  have HXS := Lib.hid hxs; clear hxs
  go_enter Try.func20, Try.ntmps20
  go_wp2_with fail
  (with_reducible refine (three_any _).mono ?_); rintro e w1 ⟨A1, B1, rfl, hs1, hl1, hb1⟩
  have hN : Calls Try.prog 36 #[.agg #[.slice A1 3 3, .slice B1 1 1], .int .i64 2, .int .i64 4] w1 (NextPost ([1, 2, 3, 4], [], 0) w1) := by
    have h := Next_any (c := 3) (d := 1) (CI.mk hs1 hl1) 2 4
    rw [show nextR [1, 2, 3] [4] 2 4 = ([1, 2, 3, 4], [], 0) by decide] at h
    exact h
  have HN := Lib.hid hN; clear hN hs1 hl1
  have HB1 := Lib.hid hb1; clear hb1
  go_wp2_with fail
  (with_reducible refine HN.out.mono ?_); rintro e w2 ⟨An, cn, Bn, dn, rfl, hon, hol, hb2⟩
  have HSN : Hid (Sl fI w2 An [1, 2, 3, 4]) := hon.sl.2
  have HB2 : Hid (Below w.heap.size w w2) := HB1.out.trans (hb2.mono HB1.out.size)
  clear hon hol hb2 HN HB1
  go_wp2_with fail
  obtain ⟨wa, hwa⟩ : ∃ x, x = w2.alloc (.cells #[.slice An 4 cn, .slice Bn 0 dn] 24) := ⟨_, rfl⟩
  rw [← hwa]
  have hba : Below w2.heap.size w2 wa := by rw [hwa]; exact (Below.refl _ _).alloc (Nat.le_refl _) _
  have hxa : Blk wa w2.heap.size 24 #[.slice An 4 cn, .slice Bn 0 dn] := by rw [hwa]; exact Blk.new_ w2 _ _
  have HSNa : Hid (Sl fI wa An [1, 2, 3, 4]) := HSN.out.below hba
  have HBa : Hid (Below w.heap.size w wa) := HB2.out.trans (hba.mono HB2.out.size)
  have HXa := Lib.hid hxa
  clear hwa hba hxa HSN HB2
  (with_reducible refine (three_any _).mono ?_); rintro e w4 ⟨A3, B3, rfl, hs3, hl3, hb3⟩
  have hBy : Calls Try.prog 22 #[.agg #[.slice A3 3 3, .slice B3 1 1]] w4 (CbPost (xs, 0) w4) := by
    rw [HXS.out]; exact Bytes_yes (c := 3) (d := 1) (CI.mk hs3 hl3) (by decide)
  have HBY := Lib.hid hBy; clear hBy hs3 hl3
  have HSN4 : Hid (Sl fI w4 An [1, 2, 3, 4]) := HSNa.out.below hb3
  have HB4 : Hid (Below w.heap.size w w4) := HBa.out.trans (hb3.mono HBa.out.size)
  have HX4 : Hid (Blk w4 w2.heap.size 24 #[.slice An 4 cn, .slice Bn 0 dn]) := HXa.out.below hb3 HXa.out.lt
  clear hb3 HXa HBa HSNa
  go_wp2_with fail
  (with_reducible refine HBY.out.mono ?_); rintro e w5 ⟨Ab, cb, rfl, hob, hb5⟩
  have hLd : Calls Try.prog 28 #[.slice Ab xs.length cb] w5 (LoadPost (some ([1, 2, 3], [4])) w5) := by
    have h := Load_any (SlF.of (SlB.of_own hob).2) hob.cap.1 hob.cap.2
    rw [show loadC xs = some ([1, 2, 3], [4]) by rw [HXS.out]; exact ex_load] at h
    exact h
  have HLD := Lib.hid hLd; clear hLd hob
  have HSN5 : Hid (Sl fI w5 An [1, 2, 3, 4]) := HSN4.out.below hb5
  have HB5 : Hid (Below w.heap.size w w5) := HB4.out.trans (hb5.mono HB4.out.size)
  have HX5 : Hid (Blk w5 w2.heap.size 24 #[.slice An 4 cn, .slice Bn 0 dn]) := HX4.out.below hb5 HX4.out.lt
  clear hb5 HX4 HB4 HSN4 HBY
  go_wp2_with fail
  (with_reducible refine HLD.out.mono ?_); rintro e w6 ⟨-, hb6, hld⟩
  obtain ⟨Ac, Bc, cc, dc, rfl, hoc, hol⟩ := hld _ _ rfl
  have HSN6 : Hid (Sl fI w6 An [1, 2, 3, 4]) := HSN5.out.below hb6
  have HB6 : Hid (Below w.heap.size w w6) := HB5.out.trans (hb6.mono HB5.out.size)
  have HX6 : Hid (Blk w6 w2.heap.size 24 #[.slice An 4 cn, .slice Bn 0 dn]) := HX5.out.below hb6 HX5.out.lt
  have HC6 : Hid (CI w6 Ac [1, 2, 3] Bc [4]) := Lib.hid ⟨hoc.sl.2, hol.sl.2⟩
  clear hb6 hld hoc hol HX5 HB5 HSN5 HLD
  go_upto_region 4 with fail
  obtain ⟨w3, hw3⟩ : ∃ x, x = w6.alloc (.cells #[.slice Ac 3 cc, .slice Bc 1 dc] 24) := ⟨_, rfl⟩
  rw [← hw3]
  have hb7 : Below w6.heap.size w6 w3 := by rw [hw3]; exact (Below.refl _ _).alloc (Nat.le_refl _) _
  have hx7 : Blk w3 w6.heap.size 24 #[.slice Ac 3 cc, .slice Bc 1 dc] := by rw [hw3]; exact Blk.new_ w6 _ _
  have HSN : Hid (Sl fI w3 An [1, 2, 3, 4]) := HSN6.out.below hb7
  have HB : Hid (Below w.heap.size w w3) := HB6.out.trans (hb7.mono HB6.out.size)
  have HXN : Hid (Blk w3 w2.heap.size 24 #[.slice An 4 cn, .slice Bn 0 dn]) := HX6.out.below hb7 HX6.out.lt
  have HXC := Lib.hid hx7
  have HC : Hid (CI w3 Ac [1, 2, 3] Bc [4]) := HC6.out.below hb7
  clear hw3 hb7 hx7 HSN6 HB6 HX6 HC6
  have hdr := below_drew0 w3
  have HWF : Hid (∀ W, Below w3.heap.size w3 W → Below w.heap.size w W) := Lib.hid fun W hb => HB.out.trans (hb.mono HB.out.size)
  go_region_held3 (fun W => W.cell? ⟨w2.heap.size, 0, none⟩ = some (.slice An 4 cn) ∧ W.cell? ⟨w6.heap.size, 0, none⟩ = some (.slice Ac 3 cc) ∧ W.cell? ⟨w6.heap.size, 1, none⟩ = some (.slice Bc 1 dc))
    (first | exact held7 HXN.out HXC.out (by assumption) | exact held7 HXN.out HXC.out (below_drewN (by assumption) _) | exact held7 HXN.out HXC.out (belowA (by assumption) _) | exact held7 HXN.out HXC.out (belowA (belowA (by assumption) _) _))
    (first | (go_at_call 17; (with_reducible refine (th_any (w3 := w3) ?_).mono ?_); (first | assumption | exact belowA (by assumption) _); rintro e wT ⟨AT, BT, rfl, hciT, hbT, hBT⟩)
           | (go_at_call 38; (with_reducible refine (q13A (w3 := w3) ?_ ?_).mono ?_); (assumption); (assumption); rintro e wQ ⟨rfl, hbQ⟩)
           | (go_at_call 38; (with_reducible refine (q13B (w3 := w3) ?_ ?_ ?_).mono ?_); (refine ⟨?_, ?_, ?_⟩; rotate_left; assumption; exact lit13); (assumption); (assumption); rintro e wQ ⟨rfl, hbQ⟩)
           | (go_at_call 38; (with_reducible refine (q2A (w3 := w3) ?_ ?_).mono ?_); (assumption); (assumption); rintro e wQ ⟨rfl, hbQ⟩)
           | (go_at_call 38; (with_reducible refine (q2B (w3 := w3) ?_ ?_ ?_).mono ?_); (assumption); (assumption); (assumption); rintro e wQ ⟨rfl, hbQ⟩)
           | (go_at_call 32; (with_reducible refine (sNA HSN.out ?_).mono ?_); (assumption); rintro e wI ⟨rfl, hbI⟩)
           | (go_at_call 32; (with_reducible refine (sOA (w3 := w3) ?_ ?_).mono ?_); (assumption); (assumption); rintro e wI ⟨rfl, hbI⟩)
           | (go_at_call 32; (with_reducible refine (sOB (w3 := w3) ?_ ?_ ?_).mono ?_); (assumption); (assumption); (assumption); rintro e wI ⟨rfl, hbI⟩)
           | (go_at_call 31; (with_reducible refine (rSm HC.out ?_ ?_).mono ?_); (assumption); (assumption); rintro e wI ⟨rfl, hbI⟩)
           | (go_at_call 23; (with_reducible refine (rRg HC.out ?_).mono ?_); (assumption); rintro e wI ⟨rfl, hbI⟩)
           | (go_at_call 24; (with_reducible refine (rVt HC.out ?_).mono ?_); (assumption); rintro e wI ⟨rfl, hbI⟩)
           | (go_at_call 26; (with_reducible refine (rMb HC.out ?_).mono ?_); (assumption); rintro e wI ⟨rfl, hbI⟩)
           | (go_at_call 33; (with_reducible refine (rOt HC.out ?_).mono ?_); (first | assumption | exact belowA (by assumption) _); rintro e wO ⟨AO, cO, rfl, hslO, hbO, hBO⟩))
  all_goals (go_wp2_with fail; go_ret; exact ⟨ret_bool rfl, HWF.out _ (by assumption)⟩)
end Go.Proofs.Ytilefofpfbgikaa
