/- Layer 8: SnapWhole: the walk. -/
import Derived.Test.YtfpomllhkbbipaaGreatDoorStA
namespace Go.Proofs.YtfpomllhkbbipaaGreatDoor
open Go Go.RowKit Go.Shelf Go.Sort Go.Maps Go.Lib Mem Pk Cf Dsk Go.Proofs.YtfpomllhkbbipaaGreatDoor.Nm Sto

namespace Sto
theorem whole_one {x : SnT} : (putS s0 none x = (s0, none, 1)) ∨ (rightS x = true ∧ ∃ s4, putS s0 none x = (s4, some x, 0) ∧ s4.down = false ∧ s4.files = old (some x)) := by
  rcases putS_any (s := s0) (l := none) (x := x) rfl rfl (fun _ h => by cases h) with ⟨_, h⟩ | ⟨_, ⟨y, hy, _⟩, _⟩ | ⟨hr, _, ⟨h1, h2, h3, _⟩ | ⟨_, _, h, _⟩⟩
  · exact .inl h
  · cases hy
  · exact .inr ⟨hr, (putS s0 none x).1, Prod.ext rfl h1, h2, h3⟩
  · exact absurd rfl h
/-- behind the second Put, a loss of power and Open -/
theorem whole_two {s s6 : S} {x y : SnT} {l6 : Option SnT} {k : Nat} (hd : s.down = false) (hs : s.files = old (some y)) (hy : rightS y = true) (keep : List Bool) (hp : putS s (some y) x = (s6, l6, k)) (hso : Sorted s6.files) :
    ∃ s7 z, openS (crash s6 keep) = (s7, some z, 0) ∧ (k = 0 ∧ z = x ∨ (k = 1 ∨ k = 110 ∨ k = 50) ∧ z = y ∨ k = 50 ∧ z = x) := by
  have hl : ∀ z, some y = some z → rightS z = true := fun z e => by injection e with e; exact e ▸ hy
  have same : ∀ (l : Option SnT) (f : S), f.files = old l → (∀ z, l = some z → rightS z = true) → openS (crash f keep) = (⟨old l, false, 0⟩, l, 0) := fun l f hf hl => by
    obtain ⟨fs, d, u⟩ := f
    simp only at hf
    subst hf
    rw [crash_old]
    exact open_old l hl
  rcases putS_any (x := x) hd hs hl with ⟨_, h⟩ | ⟨_, _, h⟩ | ⟨hr, _, ⟨h1, h2, h3, _⟩ | ⟨h1, h2, _, h3, h4⟩⟩
  · rw [hp] at h
    injection h with e1 e2; injection e2 with e2 e3
    exact ⟨_, y, by rw [e1]; exact same _ _ hs hl, .inr (.inl ⟨.inl e3, rfl⟩)⟩
  · rw [hp] at h
    injection h with e1 e2; injection e2 with e2 e3
    exact ⟨_, y, by rw [e1]; exact same _ _ hs hl, .inr (.inl ⟨.inr (.inl e3), rfl⟩)⟩
  · rw [hp] at h1 h2 h3
    injection h1 with e2 e3
    exact ⟨_, x, same _ _ h3 (fun z e => by injection e with e; exact e ▸ hr), .inl ⟨e3, rfl⟩⟩
  · rw [hp] at h1 h2 h3 h4
    injection h1 with e2 e3
    have hh := fam_open (crash_sorted hso 0 (keep := keep)) (fam_crash h3 keep 0)
    obtain ⟨z, hz, hzr, ho⟩ := hh.1 (crash_has (h4 y rfl) keep 0)
    refine ⟨_, z, ho, ?_⟩
    have : z = x ∨ z = y := by simpa using hz
    rcases this with h | h
    · exact .inr (.inr ⟨e3, h⟩)
    · exact .inr (.inl ⟨.inr (.inr e3), h⟩)
end Sto
theorem StAt.sorted {G : Nat → Prop} {B p sb : Nat} {s : S} {l : Option SnT} {w : World} (h : StAt G B p sb s l w) : Sorted s.files := by
  obtain ⟨R, A, C, D, a, c, d, h⟩ := h
  obtain ⟨mb, rs, hr⟩ := h.dx.at_
  exact hr.sorted
theorem StAt.isRight {G : Nat → Prop} {B p sb : Nat} {s : S} {l : Option SnT} {w : World} (h : StAt G B p sb s l w) : ∀ y, l = some y → rightS y = true := by
  obtain ⟨R, A, C, D, a, c, d, h⟩ := h
  exact h.right
theorem snIn_args {w : World} {x : SnT} {A C D : Option Addr} (h : SnIn w A x.vs C x.ls D x.ds) : ArgAt (fun g => g < w.heap.size) w x A C D :=
  ⟨SlB.any h.v (fun _ h => h), SlB.any h.l (fun _ h => h), SlB.any h.d (fun _ h => h)⟩
set_option maxRecDepth 100000 in
set_option maxHeartbeats 8000000 in
theorem snapWhole_walk {w : World} (hla : LaidS w) (y1 : SnT) (A1 C1 D1 : Option Addr) (a1 c1 d1 : Nat) (hin1 : SnIn w A1 y1.vs C1 y1.ls D1 y1.ds) (hd1 : y1.ds.length ≤ d1)
    (y2 : SnT) (A2 C2 D2 : Option Addr) (a2 c2 d2 : Nat) (hin2 : SnIn w A2 y2.vs C2 y2.ls D2 y2.ds) (hd2 : y2.ds.length ≤ d2) (fail : Int) (K : Option Addr) (ck : Nat) (keep : List Bool) (hkeep : Sl fBool w K keep) :
    Calls Tryz.prog 4 #[.agg #[.int .i64 y1.x, .int .i64 y1.t, .slice A1 y1.vs.length a1, .slice C1 y1.ls.length c1, .slice D1 y1.ds.length d1], .agg #[.int .i64 y2.x, .int .i64 y2.t, .slice A2 y2.vs.length a2, .slice C2 y2.ls.length c2, .slice D2 y2.ds.length d2], .int .i64 fail, .slice K keep.length ck] w
      fun e w' => e = .returned (.bool true) ∧ Below w.heap.size w w' := by
  obtain ⟨te, hke⟩ := SlB.any hkeep (G := fun g => g < w.heap.size) (fun _ h => h)
  obtain ⟨w0, hw0⟩ : ∃ z, z = (w.alloc (.cells #[.int .i64 y1.x, .int .i64 y1.t, .slice A1 y1.vs.length a1, .slice C1 y1.ls.length c1, .slice D1 y1.ds.length d1] 43)).alloc (.cells #[.int .i64 y2.x, .int .i64 y2.t, .slice A2 y2.vs.length a2, .slice C2 y2.ls.length c2, .slice D2 y2.ds.length d2] 43) := ⟨_, rfl⟩
  have hb0 : Below w.heap.size w w0 := by rw [hw0]; exact ((Below.refl _ _).alloc (Nat.le_refl _) _).alloc (by rw [World.size_alloc]; omega) _
  have hz0 : w0.heap.size = w.heap.size + 2 := by rw [hw0, World.size_alloc, World.size_alloc]
  have hx1 : Blk w0 w.heap.size 43 #[.int .i64 y1.x, .int .i64 y1.t, .slice A1 y1.vs.length a1, .slice C1 y1.ls.length c1, .slice D1 y1.ds.length d1] := by rw [hw0]; exact (Blk.new_ w _ _).alloc _
  have hx2 : Blk w0 (w.heap.size + 1) 43 #[.int .i64 y2.x, .int .i64 y2.t, .slice A2 y2.vs.length a2, .slice C2 y2.ls.length c2, .slice D2 y2.ds.length d2] := by
    have h9 : w.heap.size + 1 = (w.alloc (.cells #[.int .i64 y1.x, .int .i64 y1.t, .slice A1 y1.vs.length a1, .slice C1 y1.ls.length c1, .slice D1 y1.ds.length d1] 43)).heap.size := by rw [World.size_alloc]
    rw [hw0, h9]; exact Blk.new_ _ _ _
  have HLA := Lib.hid (LaidB.of ((LaidB.of hla).on hb0).here)
  have HX1 := Lib.hid hx1
  have HX2 := Lib.hid hx2
  have HI1 := Lib.hid (hin1.below hb0)
  have HI2 := Lib.hid (hin2.below hb0)
  have HAR1 := Lib.hid (snIn_args (x := y1) (hin1.below hb0))
  have HAR2 := Lib.hid (snIn_args (x := y2) (hin2.below hb0))
  have HKE := Lib.hid ((hke.keep (w' := w0) fun g _ _ hg _ => hb0.block g hg).mono (G := fun g => g < w0.heap.size) (fun g _ h => by omega))
  have HC1 := Lib.hid hd1
  have HC2 := Lib.hid hd2
  have HB0 := Lib.hid hb0
  have HW0 := Lib.hid hw0
  have HZ0 := Lib.hid hz0
  clear hla hke hkeep hin1 hin2 hd1 hd2 hb0 hx1 hx2 hw0 hz0
  go_enter Tryz.func4, Tryz.ntmps4
  go_upto_region 1 with fail
  rw [← HW0.out]
  clear HW0
  go_wp2_with fail
  (with_reducible refine (L_New w0 w0.heap.size (Nat.le_refl _)).mono ?_); rintro e w1 ⟨p, rfl, hd1, -, hb1⟩
  have HD1 := Lib.hid hd1
  have HB1 := Lib.hid hb1
  have HAL := Lib.hid (alive8_any (w := w1) (LaidB.of (HLA.out.on hb1).here))
  clear hd1 hb1
  go_wp2_with fail
  (with_reducible refine HAL.out.mono ?_); rintro e w2 ⟨rfl, hb2⟩
  have HD2 := Lib.hid (HD1.out.below hb2)
  have HB2 : Hid (Below w0.heap.size w0 w2) := Lib.hid (HB1.out.trans (hb2.mono HB1.out.size))
  clear hb2 HB1 HD1 HAL
  go_wp2_with fail
  (with_reducible refine (L_sOpen HD2.out (HLA.out.on HB2.out) o0).mono ?_); rintro e w3 ⟨sb, rfl, ha3, hb3⟩
  have HA3 := Lib.hid ha3
  have HB3 : Hid (Below w0.heap.size w0 w3) := Lib.hid (HB2.out.trans hb3)
  clear ha3 hb3 HB2 HD2
  obtain ⟨d0, d1', d2', d3, d4⟩ := held5 HX1.out HB3.out
  have HAR1' := Lib.hid (HAR1.out.below HB3.out)
  rcases whole_one (x := y1) with hp | ⟨hr1, s4, hp, hd4, hf4⟩
  · have HPUT := Lib.hid (L_sPut (F := fun g => g < w0.heap.size) (a := a1) (c := c1) (d := d1) (ki := 1) HA3.out (HLA.out.on HB3.out) HAR1'.out (fun g h => h) HC1.out hp rfl)
    clear hp
    go_wp2_with fail
    (with_reducible refine HPUT.out.mono ?_); rintro e w4 ⟨rfl, ha4, hb4⟩
    have HA4 := Lib.hid ha4
    have HB4 : Hid (Below w0.heap.size w0 w4) := Lib.hid (HB3.out.trans hb4)
    clear ha4 hb4 HPUT
    go_wp2_with fail
    (with_reducible refine (sLast_any HA4.out).mono ?_); rintro e w5 ⟨v, rfl, ⟨A9, C9, D9, a9, c9, d9, rfl, -, -, -⟩, hb5⟩
    have HB5 : Hid (Below w0.heap.size w0 w5) := Lib.hid (HB4.out.trans (hb5.mono HA4.out.le))
    clear hb5
    obtain ⟨z, hz⟩ : ∃ z, z = (none : Option SnT).getD zS := ⟨_, rfl⟩
    rw [← hz]
    have HBF : Hid (Below w.heap.size w (w5.alloc (.cells #[.int .i64 z.x, .int .i64 z.t, .slice A9 z.vs.length a9, .slice C9 z.ls.length c9, .slice D9 z.ds.length d9] 43))) := Lib.hid ((HB0.out.trans (HB5.out.mono HB0.out.size)).trans ((Below.refl w5.heap.size w5).alloc (Nat.le_refl _) _ |>.mono (Nat.le_trans HB0.out.size HB5.out.size)))
    clear hz
    go_wp2_with fail
    go_ret
    exact ⟨rfl, HBF.out⟩
  · have HPUT := Lib.hid (L_sPut (F := fun g => g < w0.heap.size) (a := a1) (c := c1) (d := d1) (ki := 0) HA3.out (HLA.out.on HB3.out) HAR1'.out (fun g h => h) HC1.out hp rfl)
    have HD4 := Lib.hid hd4
    have HF4 := Lib.hid hf4
    have HR1 := Lib.hid hr1
    clear hp hd4 hf4 hr1
    go_wp2_with fail
    (with_reducible refine HPUT.out.mono ?_); rintro e w4 ⟨rfl, ha4, hb4⟩
    have HA4 := Lib.hid ha4
    have HB4 : Hid (Below w0.heap.size w0 w4) := Lib.hid (HB3.out.trans hb4)
    obtain ⟨m, hm, hand⟩ := and_small fail 255 (by decide)
    have hand : bits .and .i64 fail 255 = (m : Int) := hand
    have HFA := Lib.hid (L_sFail ha4 (m : Int) (wf_small (by omega) (by omega)))
    clear ha4 hb4 HPUT hm d0 d1' d2' d3 d4
    go_wp2_with fail
    (with_reducible refine HFA.out.mono ?_); rintro e w5 ⟨rfl, ha5, hb5⟩
    have HA5 := Lib.hid ha5
    have HB5 : Hid (Below w0.heap.size w0 w5) := Lib.hid (HB4.out.trans hb5)
    clear ha5 hb5 HFA hand HA3 HB3 HAR1' HA4 HB4
    obtain ⟨s5, hs5⟩ : ∃ z, z = ({ s4 with fuse := ((m : Int)).toNat } : S) := ⟨_, rfl⟩
    rw [← hs5] at HA5
    have HD5 : Hid (s5.down = false) := Lib.hid (by rw [hs5]; exact HD4.out)
    have HF5 : Hid (s5.files = old (some y1)) := Lib.hid (by rw [hs5]; exact HF4.out)
    clear hs5 HD4 HF4
    obtain ⟨d0, d1', d2', d3, d4⟩ := held5 HX2.out HB5.out
    obtain ⟨s6, l6, k, hp⟩ : ∃ s6 l6 k, putS s5 (some y1) y2 = (s6, l6, k) := ⟨_, _, _, rfl⟩
    obtain ⟨ki, hki⟩ : ∃ ki : Int, (k : Int) = ki := ⟨_, rfl⟩
    have HPUT := Lib.hid (L_sPut (F := fun g => g < w0.heap.size) (a := a2) (c := c2) (d := d2) HA5.out (HLA.out.on HB5.out) (HAR2.out.below HB5.out) (fun g h => h) HC2.out hp hki)
    have HP := Lib.hid hp
    have HKI := Lib.hid hki
    clear hp hki
    go_wp2_with fail
    (with_reducible refine HPUT.out.mono ?_); rintro e w6 ⟨rfl, ha6, hb6⟩
    have HA6 := Lib.hid ha6
    have HB6 : Hid (Below w0.heap.size w0 w6) := Lib.hid (HB5.out.trans hb6)
    have HCR := Lib.hid (L_Crash ha6.dd (c := ck) (HKE.out.keep (w' := w6) fun g _ _ hg _ => HB6.out.block g hg) (.inr fun g h => h) rfl)
    obtain ⟨s7, z, ho, hfin⟩ := whole_two HD5.out HF5.out HR1.out keep HP.out ha6.sorted
    have HO := Lib.hid ho
    have HFIN : Hid (ki = 0 ∧ z = y2 ∨ (ki = 1 ∨ ki = 110 ∨ ki = 50) ∧ z = y1 ∨ ki = 50 ∧ z = y2) := Lib.hid (by
      have := HKI.out
      rcases hfin with ⟨h1, h2⟩ | ⟨h1, h2⟩ | ⟨h1, h2⟩
      · exact .inl ⟨by omega, h2⟩
      · exact .inr (.inl ⟨by omega, h2⟩)
      · exact .inr (.inr ⟨by omega, h2⟩))
    clear ha6 hb6 HPUT HA5 HB5 d0 d1' d2' d3 d4 ho hfin HP HKI HD5 HF5 HR1
    go_wp2_with fail
    (with_reducible refine HCR.out.mono ?_); rintro e w7 ⟨rfl, hd7, hb7⟩
    have HD7 := Lib.hid hd7
    have HB7 : Hid (Below w0.heap.size w0 w7) := Lib.hid (HB6.out.trans hb7)
    clear hd7 hb7 HB6 HCR HA6
    go_wp2_with fail
    (with_reducible refine (L_sOpen HD7.out (HLA.out.on HB7.out) HO.out).mono ?_); rintro e w8 ⟨sb8, rfl, ha8, hb8⟩
    have HA8 := Lib.hid ha8
    have HB8 : Hid (Below w0.heap.size w0 w8) := Lib.hid (HB7.out.trans hb8)
    clear ha8 hb8 HB7 HD7 HO
    go_wp2_with fail
    (with_reducible refine (sLast_any HA8.out).mono ?_); rintro e w9 ⟨v, rfl, ⟨A9, C9, D9, a9, c9, d9, rfl, o1, o2, o3⟩, hb9⟩
    have HB9 : Hid (Below w0.heap.size w0 w9) := Lib.hid (HB8.out.trans (hb9.mono HA8.out.le))
    have HS9 : Hid (SnIn w9 A9 z.vs C9 z.ls D9 z.ds) := Lib.hid ⟨(SlB.of_own o1).2.sl, (SlB.of_own o2).2.sl, (SlB.of_own o3).2.sl⟩
    clear hb9 o1 o2 o3 HB8 HA8
    simp only [Option.getD_some, Option.isSome_some]
    obtain ⟨wt, hwt⟩ : ∃ z', z' = w9.alloc (.cells #[.int .i64 z.x, .int .i64 z.t, .slice A9 z.vs.length a9, .slice C9 z.ls.length c9, .slice D9 z.ds.length d9] 43) := ⟨_, rfl⟩
    have hbt : Below w9.heap.size w9 wt := by rw [hwt]; exact (Below.refl _ _).alloc (Nat.le_refl _) _
    have HXT : Hid (Blk wt w9.heap.size 43 #[.int .i64 z.x, .int .i64 z.t, .slice A9 z.vs.length a9, .slice C9 z.ls.length c9, .slice D9 z.ds.length d9]) := Lib.hid (by rw [hwt]; exact Blk.new_ w9 _ _)
    have HBT : Hid (Below w0.heap.size w0 wt) := Lib.hid (HB9.out.trans (hbt.mono HB9.out.size))
    have HST := Lib.hid (HS9.out.below hbt)
    have HI1T := Lib.hid (HI1.out.below HBT.out)
    have HI2T := Lib.hid (HI2.out.below HBT.out)
    have HXT1 := Lib.hid (HX1.out.below HBT.out HX1.out.lt)
    have HXT2 := Lib.hid (HX2.out.below HBT.out HX2.out.lt)
    have HWT := Lib.hid hwt
    clear hwt hbt HB9 HS9
    go_upto_region 19 with fail
    rw [← HWT.out]
    clear HWT
    refine AnyZ.start (S := (fun W => (W.cell? ⟨w9.heap.size, 0, none⟩ = some (.int .i64 z.x) ∧ W.cell? ⟨w9.heap.size, 1, none⟩ = some (.int .i64 z.t) ∧ W.cell? ⟨w9.heap.size, 2, none⟩ = some (.slice A9 z.vs.length a9) ∧ W.cell? ⟨w9.heap.size, 3, none⟩ = some (.slice C9 z.ls.length c9) ∧ W.cell? ⟨w9.heap.size, 4, none⟩ = some (.slice D9 z.ds.length d9)) ∧ (W.cell? ⟨w.heap.size, 0, none⟩ = some (.int .i64 y1.x) ∧ W.cell? ⟨w.heap.size, 1, none⟩ = some (.int .i64 y1.t) ∧ W.cell? ⟨w.heap.size, 2, none⟩ = some (.slice A1 y1.vs.length a1) ∧ W.cell? ⟨w.heap.size, 3, none⟩ = some (.slice C1 y1.ls.length c1) ∧ W.cell? ⟨w.heap.size, 4, none⟩ = some (.slice D1 y1.ds.length d1)) ∧ (W.cell? ⟨w.heap.size + 1, 0, none⟩ = some (.int .i64 y2.x) ∧ W.cell? ⟨w.heap.size + 1, 1, none⟩ = some (.int .i64 y2.t) ∧ W.cell? ⟨w.heap.size + 1, 2, none⟩ = some (.slice A2 y2.vs.length a2) ∧ W.cell? ⟨w.heap.size + 1, 3, none⟩ = some (.slice C2 y2.ls.length c2) ∧ W.cell? ⟨w.heap.size + 1, 4, none⟩ = some (.slice D2 y2.ds.length d2)))) (z := 1012) (by kernel_rfl) ?_ (fun hHeld => ?_)
    · exact ⟨held5 HXT.out (below_drew0 _), held5 HXT1.out (below_drew0 _), held5 HXT2.out (below_drew0 _)⟩
    refine AnyZ.take (i := 0) (v := ?_) rfl (by kernel_rfl) (by kernel_rfl) (by kernel_rfl) (by kernel_rfl) (fun _ _ _ h => h) (Or.inl ⟨by kernel_rfl, ?_⟩) (by assumption) ?_
    rotate_left
    · intro w hSw; (try dsimp only at hSw); go_simp; try with_reducible rfl
    try simp only [Act.put, List.getElem_toArray, List.getElem_cons_succ, List.getElem_cons_zero, List.setIfInBounds_toArray, List.set_cons_zero, List.set_cons_succ]
    refine AnyZ.take (i := 2) (v := ?_) rfl (by kernel_rfl) (by kernel_rfl) (by kernel_rfl) (by kernel_rfl) (fun _ _ _ h => h) (Or.inl ⟨by kernel_rfl, ?_⟩) (by assumption) ?_
    rotate_left
    · intro w hSw; (try dsimp only at hSw); go_simp; try with_reducible rfl
    try simp only [Act.put, List.getElem_toArray, List.getElem_cons_succ, List.getElem_cons_zero, List.setIfInBounds_toArray, List.set_cons_zero, List.set_cons_succ]
    refine AnyZ.take (i := 5) (v := ?_) rfl (by kernel_rfl) (by kernel_rfl) (by kernel_rfl) (by kernel_rfl) (fun _ _ _ h => h) (Or.inl ⟨by kernel_rfl, ?_⟩) (by assumption) ?_
    rotate_left
    · intro w hSw; (try dsimp only at hSw); go_simp; try with_reducible rfl
    try simp only [Act.put, List.getElem_toArray, List.getElem_cons_succ, List.getElem_cons_zero, List.setIfInBounds_toArray, List.set_cons_zero, List.set_cons_succ]
    refine AnyZ.take (i := 7) (v := ?_) rfl (by kernel_rfl) (by kernel_rfl) (by kernel_rfl) (by kernel_rfl) (fun _ _ _ h => h) (Or.inl ⟨by kernel_rfl, ?_⟩) (by assumption) ?_
    rotate_left
    · intro w hSw; (try dsimp only at hSw); go_simp; try with_reducible rfl
    try simp only [Act.put, List.getElem_toArray, List.getElem_cons_succ, List.getElem_cons_zero, List.setIfInBounds_toArray, List.set_cons_zero, List.set_cons_succ]
    refine AnyZ.ready (rs := [1]) (by kernel_rfl) (by simp) ?_
    refine AllZ.cons rfl (fun K hK => ?_) AllZ.nil
    go_simp
    (with_reducible refine (of_w (wl := wt) (below_drew0 _)).mono ?_); rintro e wa ⟨rfl, hba⟩
    have HBa := Lib.hid hba
    clear hba
    refine hK.out _ _ ?_ (fun hHeld => ?_)
    · exact ⟨held5 HXT.out HBa.out, held5 HXT1.out HBa.out, held5 HXT2.out HBa.out⟩
    clear hK K
    try simp only [Act.put, List.getElem_toArray, List.getElem_cons_succ, List.getElem_cons_zero, List.setIfInBounds_toArray, List.set_cons_zero, List.set_cons_succ]
    refine AnyZ.ready (rs := [3]) (by kernel_rfl) (by simp) ?_
    refine AllZ.cons rfl (fun K hK => ?_) AllZ.nil
    go_simp
    (with_reducible refine (of_w (wl := wt) HBa.out).mono ?_); rintro e wb ⟨rfl, hbb⟩
    have HBb := Lib.hid hbb
    clear hbb HBa
    refine hK.out _ _ ?_ (fun hHeld => ?_)
    · exact ⟨held5 HXT.out HBb.out, held5 HXT1.out HBb.out, held5 HXT2.out HBb.out⟩
    clear hK K
    try simp only [Act.put, List.getElem_toArray, List.getElem_cons_succ, List.getElem_cons_zero, List.setIfInBounds_toArray, List.set_cons_zero, List.set_cons_succ]
    refine AnyZ.ready (rs := [4]) (by kernel_rfl) (by simp) ?_
    refine AllZ.cons rfl (fun K hK => ?_) AllZ.nil
    go_simp
    (with_reducible refine (same_w (wl := wt) (s := z) (s' := y1) HBb.out HST.out HI1T.out).mono ?_); rintro e wc ⟨rfl, hbc⟩
    have HBc := Lib.hid hbc
    clear hbc HBb
    refine hK.out _ _ ?_ (fun hHeld => ?_)
    · exact ⟨held5 HXT.out HBc.out, held5 HXT1.out HBc.out, held5 HXT2.out HBc.out⟩
    clear hK K
    try simp only [Act.put, List.getElem_toArray, List.getElem_cons_succ, List.getElem_cons_zero, List.setIfInBounds_toArray, List.set_cons_zero, List.set_cons_succ]
    refine AnyZ.ready (rs := [6]) (by kernel_rfl) (by simp) ?_
    refine AllZ.cons rfl (fun K hK => ?_) AllZ.nil
    go_simp
    (with_reducible refine (of_w (wl := wt) HBc.out).mono ?_); rintro e wd ⟨rfl, hbd⟩
    have HBd := Lib.hid hbd
    clear hbd HBc
    refine hK.out _ _ ?_ (fun hHeld => ?_)
    · exact ⟨held5 HXT.out HBd.out, held5 HXT1.out HBd.out, held5 HXT2.out HBd.out⟩
    clear hK K
    try simp only [Act.put, List.getElem_toArray, List.getElem_cons_succ, List.getElem_cons_zero, List.setIfInBounds_toArray, List.set_cons_zero, List.set_cons_succ]
    refine AnyZ.ready (rs := [8]) (by kernel_rfl) (by simp) ?_
    refine AllZ.cons rfl (fun K hK => ?_) AllZ.nil
    go_simp
    (with_reducible refine (of_w (wl := wt) HBd.out).mono ?_); rintro e we ⟨rfl, hbe⟩
    have HBe := Lib.hid hbe
    clear hbe HBd
    refine hK.out _ _ ?_ (fun hHeld => ?_)
    · exact ⟨held5 HXT.out HBe.out, held5 HXT1.out HBe.out, held5 HXT2.out HBe.out⟩
    clear hK K
    try simp only [Act.put, List.getElem_toArray, List.getElem_cons_succ, List.getElem_cons_zero, List.setIfInBounds_toArray, List.set_cons_zero, List.set_cons_succ]
    refine AnyZ.ready (rs := [9]) (by kernel_rfl) (by simp) ?_
    refine AllZ.cons rfl (fun K hK => ?_) AllZ.nil
    go_simp
    (with_reducible refine (same_w (wl := wt) (s := z) (s' := y2) HBe.out HST.out HI2T.out).mono ?_); rintro e wf ⟨rfl, hbf⟩
    have HBf := Lib.hid hbf
    clear hbf HBe
    refine hK.out _ _ ?_ (fun hHeld => ?_)
    · exact ⟨held5 HXT.out HBf.out, held5 HXT1.out HBf.out, held5 HXT2.out HBf.out⟩
    clear hK K
    try simp only [Act.put, List.getElem_toArray, List.getElem_cons_succ, List.getElem_cons_zero, List.setIfInBounds_toArray, List.set_cons_zero, List.set_cons_succ]
    refine AnyZ.take (i := 10) (v := ?_) rfl (by kernel_rfl) (by kernel_rfl) (by kernel_rfl) (by kernel_rfl) (fun _ _ _ h => h) (Or.inl ⟨by kernel_rfl, ?_⟩) (by assumption) ?_
    rotate_left
    · intro w hSw; (try dsimp only at hSw); go_simp; try with_reducible rfl
    try simp only [Act.put, List.getElem_toArray, List.getElem_cons_succ, List.getElem_cons_zero, List.setIfInBounds_toArray, List.set_cons_zero, List.set_cons_succ]
    refine AnyZ.take (i := 11) (v := ?_) rfl (by kernel_rfl) (by kernel_rfl) (by kernel_rfl) (by kernel_rfl) (fun _ _ _ h => h) (Or.inl ⟨by kernel_rfl, ?_⟩) (by assumption) ?_
    rotate_left
    · intro w hSw; (try dsimp only at hSw); go_simp; try with_reducible rfl
    try simp only [Act.put, List.getElem_toArray, List.getElem_cons_succ, List.getElem_cons_zero, List.setIfInBounds_toArray, List.set_cons_zero, List.set_cons_succ]
    refine AnyZ.done (by kernel_rfl) ?_ _
    clear hHeld
    obtain ⟨elder, he⟩ : ∃ z', z' = sameB z y1 := ⟨_, rfl⟩
    obtain ⟨newer, hn⟩ : ∃ z', z' = sameB z y2 := ⟨_, rfl⟩
    have HBF : Hid (Below w.heap.size w wf) := Lib.hid (HB0.out.trans ((HBT.out.trans (HBf.out.mono HBT.out.size)).mono HB0.out.size))
    have hfin : (ki = 0 ∧ newer = true) ∨ (ki = 1 ∧ elder = true) ∨ (ki = 110 ∧ elder = true) ∨ (ki = 50 ∧ elder = true) ∨ (ki = 50 ∧ newer = true) := by
      rcases HFIN.out with ⟨h1, h2⟩ | ⟨h1, h2⟩ | ⟨h1, h2⟩
      · exact .inl ⟨h1, by rw [hn, h2]; exact sameB_self _⟩
      · have : elder = true := by rw [he, h2]; exact sameB_self _
        rcases h1 with h1 | h1 | h1
        · exact .inr (.inl ⟨h1, this⟩)
        · exact .inr (.inr (.inl ⟨h1, this⟩))
        · exact .inr (.inr (.inr (.inl ⟨h1, this⟩)))
      · exact .inr (.inr (.inr (.inr ⟨h1, by rw [hn, h2]; exact sameB_self _⟩)))
    rw [← he, ← hn]
    clear he hn HFIN HST HI1T HI2T HXT HXT1 HXT2 HBf HBT HX1 HX2 HI1 HI2 HAR1 HAR2
    rcases hfin with ⟨rfl, rfl⟩ | ⟨rfl, rfl⟩ | ⟨rfl, rfl⟩ | ⟨rfl, rfl⟩ | ⟨rfl, rfl⟩
    · cases elder <;>
      · go_wp2_with fail
        go_ret
        exact ⟨rfl, HBF.out⟩
    · cases newer <;>
      · go_wp2_with fail
        go_ret
        exact ⟨rfl, HBF.out⟩
    · cases newer <;>
      · go_wp2_with fail
        go_ret
        exact ⟨rfl, HBF.out⟩
    · cases newer <;>
      · go_wp2_with fail
        go_ret
        exact ⟨rfl, HBF.out⟩
    · cases elder <;>
      · go_wp2_with fail
        go_ret
        exact ⟨rfl, HBF.out⟩
end Go.Proofs.YtfpomllhkbbipaaGreatDoor
