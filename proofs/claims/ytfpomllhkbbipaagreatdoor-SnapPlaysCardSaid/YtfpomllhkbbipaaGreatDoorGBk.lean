/- Layer 8: the store's contracts as the laws use them; the document's example. -/
import Derived.KernelRfl
import Derived.Test.YtfpomllhkbbipaaGreatDoorGBg
import Derived.Test.YtfpomllhkbbipaaGreatDoorGBj
import Derived.Test.YtfpomllhkbbipaaGreatDoorGAy
namespace Go.Proofs.YtfpomllhkbbipaaGreatDoor
open Go Go.RowKit Go.Shelf Go.Sort Go.Maps Go.Lib Mem Pk Cf Dsk Go.Proofs.YtfpomllhkbbipaaGreatDoor.Nm Sto
abbrev SA (B p sb : Nat) (s : S) (l : Option SnT) (w : World) : Prop := StAt (fun _ => False) B p sb s l w
section
variable {B p sb : Nat} {s s' : S} {l l' : Option SnT} {w : World}
theorem D.toS (h : D B p s w) : DX (fun _ => False) B p s w := h.protect (Below.refl _ _) (fun _ h => h.elim)
theorem L_sOpen (h : D B p s w) (hl : LaidB B w) (ho : openS s = (s', l, 0)) : Calls Tryz.prog 9 #[.pointer (some ⟨p, 0, none⟩)] w fun e w' => ∃ sb, e = .returned (.tuple #[.pointer (some ⟨sb, 0, none⟩), .int .i64 0]) ∧ SA B p sb s' l w' ∧ Below B w w' :=
 (sOpen_any h.toS hl).mono fun e w' ⟨h1, _, _, h3⟩ => by
  rw [ho] at h3
  obtain ⟨sb, he, ha⟩ := h3 rfl
  exact ⟨sb, he, ha, h1⟩
theorem L_sPut (h : SA B p sb s l w) (hl : LaidB B w) {F : Nat → Prop} {x : SnT} {A C D : Option Addr} {a c d : Nat} (hr : ArgAt F w x A C D) (hF : ∀ g, F g → g < B) (hd : x.ds.length ≤ d) {k : Nat} {ki : Int} (hs : putS s l x = (s', l', k)) (hk : (k : Int) = ki) :
 Calls Tryz.prog 11 #[.pointer (some ⟨sb, 0, none⟩), .agg #[.int .i64 x.x, .int .i64 x.t, .slice A x.vs.length a, .slice C x.ls.length c, .slice D x.ds.length d]] w fun e w' => e = .returned (.int .i64 ki) ∧ SA B p sb s' l' w' ∧ Below B w w' :=
 (sPut_any h hl hr (fun g hg => .inr (hF g hg)) hd).mono fun e w' ⟨h1, h2, h3, _⟩ => by
  rw [hs] at h1 h2
  subst hk
  exact ⟨h1, h2, h3⟩
theorem L_sPut0 (h : SA B p sb s l w) (hl : LaidB B w) (x t : Int) {k : Nat} {ki : Int} (hs : putS s l ⟨x, t, [], [], []⟩ = (s', l', k)) (hk : (k : Int) = ki) :
 Calls Tryz.prog 11 #[.pointer (some ⟨sb, 0, none⟩), .agg #[.int .i64 x, .int .i64 t, .slice none 0 0, .slice none 0 0, .slice none 0 0]] w fun e w' => e = .returned (.int .i64 ki) ∧ SA B p sb s' l' w' ∧ Below B w w' :=
 L_sPut (F := fun _ => False) (x := ⟨x, t, [], [], []⟩) (A := none) (C := none) (D := none) (a := 0) (c := 0) (d := 0) h hl ⟨⟨0, SlB.nil⟩, ⟨0, SlB.nil⟩, ⟨0, SlB.nil⟩⟩ (fun _ h => h.elim) (Nat.le_refl _) hs hk
theorem L_sFail (h : SA B p sb s l w) (n : Int) (hn : (Lit.int .i64 n).wf = true) : Calls Tryz.prog 14 #[.pointer (some ⟨p, 0, none⟩), .int .i64 n] w fun e w' => e = .returned (.tuple #[]) ∧ SA B p sb { s with fuse := n.toNat } l w' ∧ Below B w w' := by
 obtain ⟨R, A, C, D, a, c, d, h⟩ := h
 refine (Fail_any h.dx.at_ n hn).mono fun _ _ ⟨he, hd, hf⟩ => ?_
 have h2 := frmX h.dx.le h.dx.old hf
 exact ⟨he, ⟨R, A, C, D, a, c, d, ⟨hd, Nat.le_trans h.dx.le hf.size, fun g hg => Nat.lt_of_lt_of_le (h.dx.old g hg) hf.size⟩, blk_kept h.blk (h2.2 sb (.inr rfl)), h.rows.same (fun g _ hg => h2.2 g (.inl (.inr hg))), h.big, h.notG, h.right⟩, h2.1⟩
end
theorem StAt.protect {G G2 : Nat → Prop} {B p sb : Nat} {s : S} {l : Option SnT} {w w' : World} (h : StAt G B p sb s l w) (hb : Below w.heap.size w w') (hG : ∀ g, G2 g → w.heap.size ≤ g ∧ g < w'.heap.size) : StAt (fun g => G g ∨ G2 g) B p sb s l w' := by
 obtain ⟨R, A, C, D, a, c, d, h⟩ := h
 refine ⟨R, A, C, D, a, c, d, (h.dx.protect hb hG).weaken (fun g hg => ?_), h.blk.below hb h.blk.lt, h.rows.below hb, h.big, fun hh => hh.elim h.notG (fun h9 => by have := (hG _ h9).1; have := h.blk.lt; omega), h.right⟩
 rcases hg with ((hg | hg) | hg) | hg
 ·exact .inl (.inl (.inl hg))
 ·exact .inr hg
 ·exact .inl (.inl (.inr hg))
 ·exact .inl (.inr hg)
theorem StAt.weaken {F G : Nat → Prop} {B p sb : Nat} {s : S} {l : Option SnT} {w : World} (h : StAt G B p sb s l w) (hF : ∀ g, F g → G g) : StAt F B p sb s l w := by
 obtain ⟨R, A, C, D, a, c, d, h⟩ := h
 exact ⟨R, A, C, D, a, c, d, h.dx.weaken (fun g hg => hg.imp (fun h9 => h9.imp (hF g) id) id), h.blk, h.rows, h.big, fun hh => h.notG (hF _ hh), h.right⟩
def x3 : SnT := ⟨3, 0, [], [], []⟩
def aA : S := (putS s0 none x3).1
def aF : S := { aA with fuse := 4 }
def aB : S := (putS aF (some x3) ⟨5, 0, [], [], []⟩).1
def aC : S := (openS (crash aB [])).1
theorem o0 : openS s0 = (s0, none, 0) := rfl
theorem sv1 : putS s0 none ⟨3, 0, [], [], []⟩ = (aA, some x3, 0) := by kernel_rfl
theorem sv2 : putS aF (some x3) ⟨5, 0, [], [], []⟩ = (aB, some x3, 50) := by kernel_rfl
theorem op3 : openS (crash aB []) = (aC, some x3, 0) := by kernel_rfl
theorem nm3 : (snames aC).length = 1 := by kernel_rfl
set_option maxRecDepth 100000 in
set_option maxHeartbeats 2000000 in
theorem alive8_any {w : World} (hla : LaidB w.heap.size w) : Calls Tryz.prog 8 #[] w fun e w' => e = .returned (.bool true) ∧ Below w.heap.size w w' := by
 have HLA := Lib.hid hla
 clear hla
 go_enter Tryz.func8, Tryz.ntmps8
 go_wp2_with fail
 (with_reducible refine (L_New w w.heap.size (Nat.le_refl _)).mono ?_); rintro e w1 ⟨p, rfl, hd1, -, hb1⟩
 have HD1 := Lib.hid hd1
 have HB1 := Lib.hid hb1
 clear hd1 hb1
 go_wp2_with fail
 (with_reducible refine (coding_any (w := w1)).mono ?_); rintro e w2 ⟨rfl, hb2⟩
 have HD2 := Lib.hid (HD1.out.below hb2)
 have HB2 : Hid (Below w.heap.size w w2) := Lib.hid (HB1.out.trans (hb2.mono HB1.out.size))
 clear hb2 HB1 HD1
 go_wp2_with fail
 (with_reducible refine (L_sOpen HD2.out (HLA.out.on HB2.out) o0).mono ?_); rintro e w3 ⟨sb, rfl, ha3, hb3⟩
 have HA3 := Lib.hid ha3
 have HB3 : Hid (Below w.heap.size w w3) := Lib.hid (HB2.out.trans hb3)
 clear ha3 hb3 HB2 HD2
 go_wp2_with fail
 (with_reducible refine (L_sPut0 HA3.out (HLA.out.on HB3.out) 3 0 sv1 (ki := 0) rfl).mono ?_); rintro e w4 ⟨rfl, ha4, hb4⟩
 have HA4 := Lib.hid ha4
 have HB4 : Hid (Below w.heap.size w w4) := Lib.hid (HB3.out.trans hb4)
 clear ha4 hb4 HB3 HA3
 go_wp2_with fail
 (with_reducible refine (L_sFail HA4.out 4 (by decide)).mono ?_); rintro e w5 ⟨rfl, ha5, hb5⟩
 have HA5 := Lib.hid (show SA w.heap.size p sb aF (some x3) w5 from ha5)
 have HB5 : Hid (Below w.heap.size w w5) := Lib.hid (HB4.out.trans hb5)
 clear ha5 hb5 HB4 HA4
 go_wp2_with fail
 (with_reducible refine (L_sPut0 HA5.out (HLA.out.on HB5.out) 5 0 sv2 (ki := 50) rfl).mono ?_); rintro e w6 ⟨rfl, ha6, hb6⟩
 have HD6 := Lib.hid ha6.dd
 have HB6 : Hid (Below w.heap.size w w6) := Lib.hid (HB5.out.trans hb6)
 have HCR := Lib.hid (L_Crash HD6.out (c := 0) (SlB.nil (f := fBool) (e := 4) (F := fun _ => False) (A := none)) (.inl (by decide)) rfl)
 clear ha6 hb6 HB5 HA5
 change Hid (Calls _ _ #[.pointer (some ⟨p, 0, none⟩), .slice none 0 0] _ _) at HCR
 go_wp2_with fail
 (with_reducible refine HCR.out.mono ?_); rintro e w7 ⟨rfl, hd7, hb7⟩
 have HD7 := Lib.hid hd7
 have HB7 : Hid (Below w.heap.size w w7) := Lib.hid (HB6.out.trans hb7)
 clear hd7 hb7 HB6 HD6 HCR
 go_wp2_with fail
 (with_reducible refine (L_sOpen HD7.out (HLA.out.on HB7.out) op3).mono ?_); rintro e w8 ⟨sb8, rfl, ha8, hb8⟩
 have HA8 := Lib.hid ha8
 have HB8 : Hid (Below w.heap.size w w8) := Lib.hid (HB7.out.trans hb8)
 clear ha8 hb8 HB7 HD7
 go_wp2_with fail
 (with_reducible refine (sLast_any HA8.out).mono ?_); rintro e w9 ⟨v, rfl, ⟨A9, C9, D9, a9, c9, d9, rfl, -, -, -⟩, hb9⟩
 have HD9 := Lib.hid (HA8.out.dd.below hb9)
 have HB9 : Hid (Below w.heap.size w w9) := Lib.hid (HB8.out.trans (hb9.mono HB8.out.size))
 clear hb9
 have hxx : x3.x = 3 := rfl
 have hnl := nm3
 obtain ⟨w10, hw10⟩ : ∃ z, z = w9.alloc (.cells #[.int .i64 3, .int .i64 x3.t, .slice A9 x3.vs.length a9, .slice C9 x3.ls.length c9, .slice D9 x3.ds.length d9] 43) := ⟨_, rfl⟩
 have hb10 : Below w9.heap.size w9 w10 := by rw [hw10]; exact (Below.refl _ _).alloc (Nat.le_refl _) _
 have HB10 : Hid (Below w.heap.size w w10) := Lib.hid (HB9.out.trans (hb10.mono HB9.out.size))
 have HNM := Lib.hid (L_Names (HD9.out.below hb10))
 have HW10 := Lib.hid hw10
 clear hw10 hb10
 go_wp2_with fail
 rw [← HW10.out]
 (with_reducible refine HNM.out.mono ?_); rintro e w11 ⟨A11, c11, rfl, -, -, hb11⟩
 have HB11 : Hid (Below w.heap.size w w11) := Lib.hid (HB10.out.trans (hb11.mono HB10.out.size))
 clear hb11
 go_wp2_with fail
 go_ret
 exact ⟨rfl, HB11.out⟩
end Go.Proofs.YtfpomllhkbbipaaGreatDoor
