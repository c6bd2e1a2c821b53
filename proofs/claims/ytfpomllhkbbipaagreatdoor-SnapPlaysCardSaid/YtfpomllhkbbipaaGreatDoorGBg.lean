/- Layer 8: a snapshot as new memory; Last. -/
import Derived.Lib.SliceRun
import Derived.Test.YtfpomllhkbbipaaGreatDoorGBe
import Derived.Test.YtfpomllhkbbipaaGreatDoorGAo
import Derived.Test.YtfpomllhkbbipaaGreatDoorGAt
import Derived.Test.YtfpomllhkbbipaaGreatDoorGAv
import Derived.Test.YtfpomllhkbbipaaGreatDoorGBf
namespace Go.Proofs.YtfpomllhkbbipaaGreatDoor
open Go Go.RowKit Go.Shelf Go.Sort Go.Maps Go.Lib Mem Pk Cf Dsk Go.Proofs.YtfpomllhkbbipaaGreatDoor.Nm Sto
theorem intTS : SliceT Tryz.prog 33 3 (.int .i64 0) 8 := sliceT_mk Tryz.underlying33 rfl (by kernel_rfl)
theorem fI_oneS (u : Int) : (fI u).oneCell' = true := rfl
def ClIPost (xs : List Int) (w : World) (e : Ending) (w' : World) : Prop := ∃ A c, e = .returned (.slice A xs.length c) ∧ Mem.Own fI w.heap.size 3 w' (.slice A xs.length c) xs ∧ Below w.heap.size w w'
theorem CloneS_any (A : Option Addr) (c : Nat) (xs : List Int) (hl : xs.length ≤ 1000000000) (w : World) (hs : Sl fI w A xs) :
 Calls Tryz.prog 72 #[.slice A xs.length c] w (ClIPost xs w) := by
 have hnil := fun (w : World) (a : Option Addr) (n c : Nat) => Lib.run_eql_slice_nil (P := Tryz.prog) w 33 3 a n c 0 0 Tryz.underlying33
 have hl1 : xs.length ≤ maxLen := by unfold maxLen; omega
 have hl2 : xs.length * 8 ≤ 140737488355328 := by omega
 have HL1 := Lib.hid hl1; clear hl1
 have HL2 := Lib.hid hl2; clear hl2
 cases A with
 | none =>
   obtain rfl : xs = [] := by
    cases xs with
    | nil => rfl
    | cons x r => obtain ⟨b, o, e, _⟩ := hs.2 (by simp); cases e
   go_enter Tryz.func72, Tryz.ntmps72
   go_wp2_with fail
   go_ret
   exact ⟨none, 0, rfl, Own.nil, Below.refl _ _⟩
 | some ad =>
   go_enter Tryz.func72, Tryz.ntmps72
   go_wp2_with (at_builtin; refine wpList_appendN (f := fI) rfl (.tmp 5) (.tmp 6) 33 rfl intTS rfl (Own.mk_ (Nat.le_refl _)) rfl (hs.below ((Below.refl _ _).alloc (Nat.le_refl _) _)) fI_oneS (by rw [List.length_nil, Nat.zero_add]; exact HL1.out) (by rw [List.length_nil, Nat.zero_add]; exact HL2.out) (by simp) ?_; intro v1 w1 hown1 hb1; obtain ⟨A', c', rfl⟩ := hown1.form)
   go_ret
   rw [List.nil_append] at hown1
   exact ⟨A', c', rfl, hown1, ((Below.refl _ _).alloc (Nat.le_refl _) _).trans hb1⟩
def SnNew (x : SnT) (base : Nat) (v : Value) (w' : World) : Prop :=
 ∃ A C D a c d, v = .agg #[.int .i64 x.x, .int .i64 x.t, .slice A x.vs.length a, .slice C x.ls.length c, .slice D x.ds.length d] ∧
   Mem.Own fI base 3 w' (.slice A x.vs.length a) x.vs ∧ Mem.Own fI base 3 w' (.slice C x.ls.length c) x.ls ∧ Mem.Own fB base 5 w' (.slice D x.ds.length d) x.ds
def small9 (x : SnT) : Prop := x.vs.length ≤ 1000000000 ∧ x.ls.length ≤ 1000000000 ∧ x.ds.length ≤ 140737488355328
set_option maxRecDepth 100000 in
set_option maxHeartbeats 4000000 in
theorem sClone_any {w : World} {x : SnT} {A C D : Option Addr} {a c d : Nat} (h : SnIn w A x.vs C x.ls D x.ds) (hsm : small9 x) :
 Calls Tryz.prog 39 #[.agg #[.int .i64 x.x, .int .i64 x.t, .slice A x.vs.length a, .slice C x.ls.length c, .slice D x.ds.length d]] w fun e w' => ∃ v, e = .returned v ∧ SnNew x w.heap.size v w' ∧ Below w.heap.size w w' := by
 obtain ⟨w1, hw1⟩ : ∃ z, z = (w.alloc (.cells #[.int .i64 x.x, .int .i64 x.t, .slice A x.vs.length a, .slice C x.ls.length c, .slice D x.ds.length d] 43)).alloc (.cells #[.int .i64 0, .int .i64 0, .slice none 0 0, .slice none 0 0, .slice none 0 0] 43) := ⟨_, rfl⟩
 have hz1 : w1.heap.size = w.heap.size + 2 := by rw [hw1]; simp
 have hb1 : Below w.heap.size w w1 := by rw [hw1]; exact ((Below.refl _ _).alloc (Nat.le_refl _) _).alloc (by simp) _
 have hX1 : Blk w1 w.heap.size 43 #[.int .i64 x.x, .int .i64 x.t, .slice A x.vs.length a, .slice C x.ls.length c, .slice D x.ds.length d] := by rw [hw1]; exact (Blk.new_ w _ _).alloc _
 have hR1 : Blk w1 (w.heap.size + 1) 43 #[.int .i64 0, .int .i64 0, .slice none 0 0, .slice none 0 0, .slice none 0 0] := by
  have h1 := Blk.new_ (w.alloc (.cells #[.int .i64 x.x, .int .i64 x.t, .slice A x.vs.length a, .slice C x.ls.length c, .slice D x.ds.length d] 43)) 43 #[.int .i64 0, .int .i64 0, .slice none 0 0, .slice none 0 0, .slice none 0 0]
  rw [World.size_alloc] at h1; rw [hw1]; exact h1
 have H1 := Lib.hid (h.below hb1)
 have H0 := Lib.hid h
 have HCD := Lib.hid (CloneB_any D d x.ds hsm.2.2 w1 H1.out.d)
 have HX1 := Lib.hid hX1
 have HR1 := Lib.hid hR1
 have HB1 := Lib.hid hb1
 have HW1 := Lib.hid hw1
 have HZ1 := Lib.hid hz1
 have HSM := Lib.hid hsm
 obtain ⟨d0, d1, d2, d3, d4⟩ := held5 hX1 (Below.refl _ _)
 clear h hb1 hX1 hR1 hw1 hz1 hsm
 go_enter Tryz.func39, Tryz.ntmps39
 go_upto_region 1 with fail
 rw [← HW1.out]
 go_wp2_with fail
 (with_reducible refine HCD.out.mono ?_); rintro e w2 ⟨A2, c2, rfl, ho2, hb2⟩
 have HO2 := Lib.hid ho2
 have HB2 := Lib.hid hb2
 have HX2 := Lib.hid (HX1.out.below hb2 HX1.out.lt)
 have HR2 := Lib.hid (HR1.out.below hb2 HR1.out.lt)
 clear ho2 hb2 d0 d1 d2 d3 d4 HCD
 obtain ⟨d0, d1, d2, d3, d4⟩ := held5 HX2.out (Below.refl _ _)
 have q4 := HX2.out.free 4
 go_upto_region 2 with fail
 obtain ⟨w3, hw3⟩ : ∃ z, z = w2.setCell ⟨w.heap.size, 4, none⟩ (.slice A2 x.ds.length c2) := ⟨_, rfl⟩
 rw [← hw3]
 have hf3 : Frm (fun g => g = w.heap.size) w2 w3 := by rw [hw3]; exact (Frm.refl (fun g => g = w.heap.size) w2).setCell (p := ⟨w.heap.size, 4, none⟩) (fun _ => rfl) _
 have hX3 : Blk w3 w.heap.size 43 #[.int .i64 x.x, .int .i64 x.t, .slice A x.vs.length a, .slice C x.ls.length c, .slice A2 x.ds.length c2] := by rw [hw3]; exact HX2.out.set_ 4 _
 have HR3 := Lib.hid (HR2.out.frm hf3 (by omega))
 have hO3 := own_frmT HO2.out HX2.out (by decide) hf3
 have hb3 : Below w.heap.size w w3 := (HB1.out.trans (HB2.out.mono HB1.out.size)).trans (hf3.to_below (fun k _ h1 h2 => by omega) (by have := HB2.out.size; have := HZ1.out; omega))
 have H3 := H0.out.below hb3
 have HCV : Hid (∀ W, Below w3.heap.size w3 W → Calls Tryz.prog 72 #[.slice A x.vs.length a] W (ClIPost x.vs W)) := Lib.hid fun W hW => CloneS_any A a x.vs HSM.out.1 W (H3.v.below hW)
 have HCL : Hid (∀ W, Below w3.heap.size w3 W → Calls Tryz.prog 72 #[.slice C x.ls.length c] W (ClIPost x.ls W)) := Lib.hid fun W hW => CloneS_any C c x.ls HSM.out.2.1 W (H3.l.below hW)
 have HX3 := Lib.hid hX3
 have HO3 := Lib.hid hO3
 have HB3 := Lib.hid hb3
 clear hw3 hf3 hX3 hO3 hb3 H3 d0 d1 d2 d3 d4 q4 HX2 HR2 HO2 HX1 HR1
 have hD3 : Below w3.heap.size w3 w3.drew := (Below.refl _ _).drew
 refine AnyZ.start (S := (fun W => W.cell? ⟨w.heap.size, 2, none⟩ = some (.slice A x.vs.length a) ∧ W.cell? ⟨w.heap.size, 3, none⟩ = some (.slice C x.ls.length c))) (z := 10) (by kernel_rfl) ?_ (fun hHeld => ?_)
 ·exact ⟨HX3.out.cell 2, HX3.out.cell 3⟩
 refine AnyZ.take (i := 0) (v := ?_) rfl (by kernel_rfl) (by kernel_rfl) (by kernel_rfl) (by kernel_rfl) (fun _ _ _ h => h) (Or.inl ⟨by kernel_rfl, ?_⟩) (by assumption) ?_
 rotate_left
 ·intro w hSw; (try dsimp only at hSw); go_simp; try with_reducible rfl
 try simp only [Act.put, List.getElem_toArray, List.getElem_cons_succ, List.getElem_cons_zero, List.setIfInBounds_toArray, List.set_cons_zero, List.set_cons_succ]
 refine AnyZ.take (i := 1) (v := ?_) rfl (by kernel_rfl) (by kernel_rfl) (by kernel_rfl) (by kernel_rfl) (fun _ _ _ h => h) (Or.inl ⟨by kernel_rfl, ?_⟩) (by assumption) ?_
 rotate_left
 ·intro w hSw; (try dsimp only at hSw); go_simp; try with_reducible rfl
 try simp only [Act.put, List.getElem_toArray, List.getElem_cons_succ, List.getElem_cons_zero, List.setIfInBounds_toArray, List.set_cons_zero, List.set_cons_succ]
 refine AnyZ.take (i := 2) (v := ?_) rfl (by kernel_rfl) (by kernel_rfl) (by kernel_rfl) (by kernel_rfl) (fun _ _ _ h => h) (Or.inl ⟨by kernel_rfl, ?_⟩) (by assumption) ?_
 rotate_left
 ·intro w hSw; (try dsimp only at hSw); go_simp; try with_reducible rfl
 try simp only [Act.put, List.getElem_toArray, List.getElem_cons_succ, List.getElem_cons_zero, List.setIfInBounds_toArray, List.set_cons_zero, List.set_cons_succ]
 refine AnyZ.take (i := 4) (v := ?_) rfl (by kernel_rfl) (by kernel_rfl) (by kernel_rfl) (by kernel_rfl) (fun _ _ _ h => h) (Or.inl ⟨by kernel_rfl, ?_⟩) (by assumption) ?_
 rotate_left
 ·intro w hSw; (try dsimp only at hSw); go_simp; try with_reducible rfl
 try simp only [Act.put, List.getElem_toArray, List.getElem_cons_succ, List.getElem_cons_zero, List.setIfInBounds_toArray, List.set_cons_zero, List.set_cons_succ]
 refine AnyZ.take (i := 5) (v := ?_) rfl (by kernel_rfl) (by kernel_rfl) (by kernel_rfl) (by kernel_rfl) (fun _ _ _ h => h) (Or.inl ⟨by kernel_rfl, ?_⟩) (by assumption) ?_
 rotate_left
 ·intro w hSw; (try dsimp only at hSw); go_simp; try with_reducible rfl
 try simp only [Act.put, List.getElem_toArray, List.getElem_cons_succ, List.getElem_cons_zero, List.setIfInBounds_toArray, List.set_cons_zero, List.set_cons_succ]
 refine AnyZ.take (i := 6) (v := ?_) rfl (by kernel_rfl) (by kernel_rfl) (by kernel_rfl) (by kernel_rfl) (fun _ _ _ h => h) (Or.inl ⟨by kernel_rfl, ?_⟩) (by assumption) ?_
 rotate_left
 ·intro w hSw; (try dsimp only at hSw); go_simp; try with_reducible rfl
 try simp only [Act.put, List.getElem_toArray, List.getElem_cons_succ, List.getElem_cons_zero, List.setIfInBounds_toArray, List.set_cons_zero, List.set_cons_succ]
 refine AnyZ.ready (rs := [3]) (by kernel_rfl) (by simp) ?_
 refine AllZ.cons rfl (fun K hK => ?_) AllZ.nil
 go_simp
 (with_reducible refine (HCV.out _ hD3).mono ?_); rintro e w4 ⟨A4, c4, rfl, ho4, hb4⟩
 have hD4 : Below w3.heap.size w3 w4 := hD3.trans (hb4.mono hD3.size)
 have HO4 := Lib.hid (show Mem.Own fI w3.heap.size 3 w4 (.slice A4 x.vs.length c4) x.vs from ho4)
 clear ho4 hb4
 refine hK.out _ _ ?_ (fun hHeld => ?_)
 ·exact ⟨(HX3.out.below hD4 HX3.out.lt).cell 2, (HX3.out.below hD4 HX3.out.lt).cell 3⟩
 clear hK K
 try simp only [Act.put, List.getElem_toArray, List.getElem_cons_succ, List.getElem_cons_zero, List.setIfInBounds_toArray, List.set_cons_zero, List.set_cons_succ]
 refine AnyZ.ready (rs := [7]) (by kernel_rfl) (by simp) ?_
 refine AllZ.cons rfl (fun K hK => ?_) AllZ.nil
 go_simp
 (with_reducible refine (HCL.out _ hD4).mono ?_); rintro e w5 ⟨A5, c5, rfl, ho5, hb5⟩
 have hD5 : Below w3.heap.size w3 w5 := hD4.trans (hb5.mono hD4.size)
 have HO5 := Lib.hid (Own.lowerI ho5 hD4.size)
 have HO45 := Lib.hid (HO4.out.below hb5)
 have HX5 := Lib.hid (HX3.out.below hD5 HX3.out.lt)
 have HR5 := Lib.hid (HR3.out.below hD5 HR3.out.lt)
 have HO35 := Lib.hid (HO3.out.below hD5)
 have y2 := HX5.out.free 2
 have y3 := HX5.out.free 3
 have z2 := HX5.out.cell 2
 have z3 := HX5.out.cell 3
 clear ho5 hb5
 refine hK.out _ _ ?_ (fun hHeld => ?_)
 ·exact ⟨HX5.out.cell 2, HX5.out.cell 3⟩
 clear hK K
 try simp only [Act.put, List.getElem_toArray, List.getElem_cons_succ, List.getElem_cons_zero, List.setIfInBounds_toArray, List.set_cons_zero, List.set_cons_succ]
 refine AnyZ.take (i := 8) (v := ?_) rfl (by kernel_rfl) (by kernel_rfl) (by kernel_rfl) (by kernel_rfl) (fun _ _ _ h => h) (Or.inl ⟨by kernel_rfl, ?_⟩) (by assumption) ?_
 rotate_left
 ·intro w hSw; (try dsimp only at hSw); go_simp; try with_reducible rfl
 try simp only [Act.put, List.getElem_toArray, List.getElem_cons_succ, List.getElem_cons_zero, List.setIfInBounds_toArray, List.set_cons_zero, List.set_cons_succ]
 refine AnyZ.take (i := 9) (v := ?_) rfl (by kernel_rfl) (by kernel_rfl) (by kernel_rfl) (by kernel_rfl) (fun _ _ _ h => h) (Or.inl ⟨by kernel_rfl, ?_⟩) (by assumption) ?_
 rotate_left
 ·intro w hSw; (try dsimp only at hSw); go_simp; try with_reducible rfl
 try simp only [Act.put, List.getElem_toArray, List.getElem_cons_succ, List.getElem_cons_zero, List.setIfInBounds_toArray, List.set_cons_zero, List.set_cons_succ]
 refine AnyZ.ready (rs := [10]) (by kernel_rfl) (by simp) ?_
 refine AllZ.last rfl (by kernel_rfl) (fun K hK => ?_) AllZ.nil
 go_simp
 refine hK.out _ _ ?_
 clear hK K
 try simp only [Act.put, List.getElem_toArray, List.getElem_cons_succ, List.getElem_cons_zero, List.setIfInBounds_toArray, List.set_cons_zero, List.set_cons_succ]
 refine AnyZ.done (by kernel_rfl) ?_ _
 clear hHeld y2 y3 z2 z3
 obtain ⟨w6, hw6⟩ : ∃ z, z = (w5.setCell ⟨w.heap.size, 2, none⟩ (.slice A4 x.vs.length c4)).setCell ⟨w.heap.size, 3, none⟩ (.slice A5 x.ls.length c5) := ⟨_, rfl⟩
 have hf6 : Frm (fun g => g = w.heap.size) w5 w6 := by rw [hw6]; exact ((Frm.refl (fun g => g = w.heap.size) w5).setCell (p := ⟨w.heap.size, 2, none⟩) (fun _ => rfl) _).setCell (p := ⟨w.heap.size, 3, none⟩) (fun _ => rfl) _
 have hX6 : Blk w6 w.heap.size 43 #[.int .i64 x.x, .int .i64 x.t, .slice A4 x.vs.length c4, .slice A5 x.ls.length c5, .slice A2 x.ds.length c2] := by rw [hw6]; exact (HX5.out.set_ 2 _).set_ 3 _
 have hR6 := HR5.out.frm hf6 (by omega)
 have HP4 := Lib.hid (own_frmT HO45.out HX5.out (by decide) hf6)
 have HP5 := Lib.hid (own_frmT HO5.out HX5.out (by decide) hf6)
 have HP3 := Lib.hid (own_frmT HO35.out HX5.out (by decide) hf6)
 have HB6 : Hid (Below w.heap.size w w6) := Lib.hid ((HB3.out.trans (hD5.mono HB3.out.size)).trans (hf6.to_below (fun k _ h1 h2 => by omega) (Nat.le_trans HB3.out.size hD5.size)))
 have HR6 := Lib.hid hR6
 rw [← hw6]
 obtain ⟨d0, d1, d2, d3, d4⟩ := held5 hX6 (Below.refl _ _)
 obtain ⟨e0, e1, e2, e3, e4⟩ := held5 hR6 (Below.refl _ _)
 have q0 := hR6.free 0
 have q1 := hR6.free 1
 have q2 := hR6.free 2
 have q3 := hR6.free 3
 have q4 := hR6.free 4
 clear hw6 hf6 hX6 hR6 hD3 hD4 hD5
 go_wp2_with fail
 obtain ⟨W9, hW9⟩ : ∃ z, z = put5 w6 (w.heap.size + 1) (.int .i64 x.x) (.int .i64 x.t) (.slice A4 x.vs.length c4) (.slice A5 x.ls.length c5) (.slice A2 x.ds.length c2) := ⟨_, rfl⟩
 have hx9 : Blk W9 (w.heap.size + 1) 43 #[.int .i64 x.x, .int .i64 x.t, .slice A4 x.vs.length c4, .slice A5 x.ls.length c5, .slice A2 x.ds.length c2] := by rw [hW9]; exact put5_blk HR6.out
 have hf9 : Frm (fun g => g = w.heap.size + 1) w6 W9 := by rw [hW9]; exact put5_frm _ _ _ _ _ _ _
 unfold put5 at hW9
 rw [← hW9]
 obtain ⟨r0, r1, r2, r3, r4⟩ := held5 hx9 (Below.refl _ _)
 refine bodyPost_ret (v := .agg #[.int .i64 x.x, .int .i64 x.t, .slice A4 x.vs.length c4, .slice A5 x.ls.length c5, .slice A2 x.ds.length c2]) (by simp [results, Tryz.results39, go_sem, r0, r1, r2, r3, r4]) rfl ?_
 have hz := HB3.out.size
 have hz1 := HB1.out.size
 have hz2 : w.heap.size ≤ w1.heap.size := hz1
 exact ⟨_, rfl, ⟨A4, A5, A2, c4, c5, c2, rfl, Own.lowerI (own_frmT HP4.out HR6.out (by decide) hf9) hz, Own.lowerI (own_frmT HP5.out HR6.out (by decide) hf9) hz, Own.lowerS (own_frmT HP3.out HR6.out (by decide) hf9) hz1⟩, HB6.out.trans (hf9.to_below (fun k _ h1 h2 => by omega) HB6.out.size)⟩
structure RowsAt (F : Nat → Prop) (w : World) (x : SnT) (A C D : Option Addr) : Prop where
 v : SlB fI 3 F w A x.vs
 l : SlB fI 3 F w C x.ls
 d : SlB fB 5 F w D x.ds
structure ArgAt (F : Nat → Prop) (w : World) (x : SnT) (A C D : Option Addr) : Prop where
 v : ∃ e, SlB fI e F w A x.vs
 l : ∃ e, SlB fI e F w C x.ls
 d : ∃ e, SlB fB e F w D x.ds
theorem ArgAt.inn {F : Nat → Prop} {w : World} {x : SnT} {A C D : Option Addr} (h : ArgAt F w x A C D) : SnIn w A x.vs C x.ls D x.ds := ⟨h.v.elim fun _ h => h.sl, h.l.elim fun _ h => h.sl, h.d.elim fun _ h => h.sl⟩
theorem ArgAt.same {F : Nat → Prop} {w w' : World} {x : SnT} {A C D : Option Addr} (h : ArgAt F w x A C D) (hk : ∀ g, g < w.heap.size → F g → w'.heap[g]? = w.heap[g]?) : ArgAt F w' x A C D :=
 ⟨h.v.imp fun _ h => h.keep (fun g _ _ hg hh => hk g (Array.getElem?_eq_some_iff.1 hh).1 hg), h.l.imp fun _ h => h.keep (fun g _ _ hg hh => hk g (Array.getElem?_eq_some_iff.1 hh).1 hg), h.d.imp fun _ h => h.keep (fun g _ _ hg hh => hk g (Array.getElem?_eq_some_iff.1 hh).1 hg)⟩
theorem ArgAt.below {F : Nat → Prop} {w w' : World} {x : SnT} {A C D : Option Addr} (h : ArgAt F w x A C D) (hb : Below w.heap.size w w') : ArgAt F w' x A C D := h.same (fun g hl _ => hb.block g hl)
theorem RowsAt.inn {F : Nat → Prop} {w : World} {x : SnT} {A C D : Option Addr} (h : RowsAt F w x A C D) : SnIn w A x.vs C x.ls D x.ds := ⟨h.v.sl, h.l.sl, h.d.sl⟩
end Go.Proofs.YtfpomllhkbbipaaGreatDoor
namespace Go.Proofs.YtfpomllhkbbipaaGreatDoor
open Go Go.RowKit Go.Shelf Go.Maps Go.Lib Mem Pk Cf Dsk Go.Proofs.YtfpomllhkbbipaaGreatDoor.Nm Sto
attribute [local go_sem] Oper.semAt_some
namespace Sto
def stp (b : List UInt8) (st : (S × Nat) × Nat) (x : Nat) : (S × Nat) × Nat :=
 if st.1.2 = 0 then (write st.1.1 nmT (st.2 : Int) (partS b x), st.2 + (partS b x).length) else st
def stL (s : S) (b : List UInt8) (pre : List Nat) : (S × Nat) × Nat := pre.foldl (stp b) ((s, 0), 0)
theorem stL_snoc (s : S) (b : List UInt8) (pre : List Nat) (x : Nat) : stL s b (pre ++ [x]) = stp b (stL s b pre) x := by unfold stL; rw [List.foldl_append]; rfl
theorem stL_at (s : S) (b : List UInt8) : ∀ (pre : List Nat) (st : (S × Nat) × Nat), (pre.foldl (stp b) st).2 ≤ st.2 + pre.length * 256
 | [], st => by simp
 | x :: r, st => by
   have h := stL_at s b r (stp b st x)
   have h1 : (stp b st x).2 ≤ st.2 + 256 := by
    unfold stp
    split
    ·show st.2 + _ ≤ _; rw [partS_len]; omega
    ·omega
   rw [List.foldl_cons, List.length_cons]
   omega
theorem stp_stuck (b : List UInt8) : ∀ (r : List Nat) (st : (S × Nat) × Nat), st.1.2 ≠ 0 → r.foldl (stp b) st = st
 | [], _, _ => rfl
 | x :: r, st, h => by
   have h1 : stp b st x = st := by unfold stp; rw [if_neg h]
   rw [List.foldl_cons, h1]
   exact stp_stuck b r st h
theorem stL_all (b : List UInt8) : ∀ (n k : Nat) (s : S), k + n = partsN b.length → ((List.range' k n).foldl (stp b) ((s, 0), k * 256)).1 = wrAll s b k n
 | 0, _, _, _ => rfl
 | n + 1, k, s, h => by
   rw [List.range'_succ, List.foldl_cons]
   have h1 : stp b ((s, 0), k * 256) k = (write s nmT ((k * 256 : Nat) : Int) (partS b k), k * 256 + (partS b k).length) := by unfold stp; rw [if_pos rfl]
   rw [h1]
   unfold wrAll
   by_cases h0 : (write s nmT ((k * 256 : Nat) : Int) (partS b k)).2 = 0
   ·rw [if_pos h0]
    cases n with
    | zero => unfold wrAll; exact Prod.ext rfl h0
    | succ n =>
      have h2 : k * 256 + (partS b k).length = (k + 1) * 256 := by rw [partS_len]; unfold partsN at h; omega
      rw [h2]
      have h3 := stL_all b (n + 1) (k + 1) (write s nmT ((k * 256 : Nat) : Int) (partS b k)).1 (by omega)
      rw [← h3, ← h0]
   ·rw [if_neg h0, stp_stuck b _ _ h0]
theorem stL_done (s : S) (b : List UInt8) : (stL s b (List.range (partsN b.length))).1 = wrAll s b 0 (partsN b.length) := by
 have h := stL_all b (partsN b.length) 0 s (by omega)
 rw [← List.range_eq_range'] at h
 exact h
theorem stL_stop (s : S) (b : List UInt8) {k : Nat} (hk : k < partsN b.length) (h : (stL s b (List.range k ++ [k])).1.2 ≠ 0) : (stL s b (List.range k ++ [k])).1 = wrAll s b 0 (partsN b.length) := by
 rw [← stL_done]
 have e : List.range (partsN b.length) = (List.range k ++ [k]) ++ (List.range (partsN b.length - (k + 1))).map (fun i => k + 1 + i) := by
  have h1 : partsN b.length = (k + 1) + (partsN b.length - (k + 1)) := by omega
  rw [h1, List.range_add, List.range_succ]
  simp
 rw [e]
 unfold stL at h ⊢
 rw [List.foldl_append (l := List.range k ++ [k]), stp_stuck b _ _ h]
end Sto
theorem slb_part {α : Type} {f : α → Value} {e : TypeId} {F : Nat → Prop} {w : World} {bb o : Nat} {xs : List α} (h : SlB f e F w (some ⟨bb, o, none⟩) xs) (k m : Nat) : SlB f e F w (some ⟨bb, o + k, none⟩) ((xs.drop k).take m) := by
 refine ⟨Nat.le_trans (by rw [List.length_take, List.length_drop]; omega) h.1, fun h0 => ?_⟩
 have hl : ((xs.drop k).take m).length = min m (xs.length - k) := by rw [List.length_take, List.length_drop]
 obtain ⟨b', o', cur, fr, e1, hF, hb, hc⟩ := h.2 (by omega)
 injection e1 with e1
 injection e1 with e2 e3
 subst e2; subst e3
 refine ⟨_, _, cur, fr, rfl, hF, hb, fun j hj => ?_⟩
 have := hc (k + j) (by omega)
 rw [Nat.add_assoc, this]
 simp [List.getElem_take, List.getElem_drop]
theorem wf_nat {n : Nat} (h : n ≤ 1000000) : (Lit.int .i64 (n : Int)).wf = true := by
 have e1 : IntKind.i64.min = -9223372036854775808 := rfl
 have e2 : IntKind.i64.max = 9223372036854775807 := rfl
 simp [Lit.wf, e1, e2]
 omega
theorem frm_put {w : World} {D : Nat} {o : Obj} : Frm (fun g => g = D) w (w.putObj D o) := by
 obtain ⟨a, b, c, d, e⟩ := grownBy_putObj' w D o
 exact ⟨a, b, c, d, fun g hl hn => e g hl (fun h => hn (by injection h))⟩
theorem DXM.turn {G : Nat → Prop} {B p mb Bl : Nat} {s : S} {w w' : World} {row : Option Nat} (h : DXM G B p mb s w) (hm : mb < Bl) (hg : w.grownBy w' row) (hr : ∀ r, row = some r → Bl ≤ r ∧ ∃ o : Obj, w.heap[r]? = some o ∧ o.isCells = false) : DXM G B p mb s w' :=
 ((h.nc hm).frm (F := fun g => row = some g) ⟨hg.os, hg.tape, hg.output, hg.size, fun k hk hn => hg.block k hk (fun e => hn e.symm)⟩ (fun g hg' => .inr (hr g hg'))).weaken (fun _ hg' => .inl hg')
structure WrI (G2 : Nat → Prop) (B p mb ab : Nat) (w3 : World) (st : (S × Nat) × Nat) (W : World) : Prop where
 ok : st.1.2 = 0
 dx : DXM G2 B p mb st.1.1 W
 at_ : Blk W ab 3 #[.int .i64 (st.2 : Int)]
 below : Below B w3 W
 kept : Kept (fun g => G2 g ∧ g ≠ ab) w3 W
structure WrX (G2 : Nat → Prop) (B p mb ab rb : Nat) (w3 : World) (st : (S × Nat) × Nat) (W : World) : Prop where
 bad : st.1.2 ≠ 0
 dx : DXM G2 B p mb st.1.1 W
 res : Blk W rb 27 #[.int .i64 (st.1.2 : Int)]
 below : Below B w3 W
 kept : Kept (fun g => G2 g ∧ g ≠ ab ∧ g ≠ rb) w3 W
theorem kept_turn {F : Nat → Prop} {Bl : Nat} {w W W' : World} {row : Option Nat} (h : Kept F w W) (hF : ∀ g, F g → g < Bl ∧ g < W.heap.size) (hg : W.grownBy W' row) (hr : ∀ r, row = some r → Bl ≤ r) : Kept F w W' := fun g hg' => (hg.block g (hF g hg').2 (fun e => by have := hr g e.symm; have := (hF g hg').1; omega)).trans (h g hg')
theorem sz_nmT8 : (⟨#[115, 110, 97, 112, 46, 116, 109, 112]⟩ : ByteArray).size ≤ maxLen := by unfold maxLen; decide
theorem fileS_c {s s1 : S} {n : Name} {b : List UInt8} {k : Nat} (h : create s nmT = (s1, k)) (hk : k ≠ 0) : fileS s n b = (s1, k) := by
 unfold fileS; rw [h]; exact if_pos hk
theorem fileS_w {s s1 s2 : S} {n : Name} {b : List UInt8} {k : Nat} (h : create s nmT = (s1, 0)) (h2 : wrAll s1 b 0 (partsN b.length) = (s2, k)) (hk : k ≠ 0) : fileS s n b = (s2, k) := by
 unfold fileS; rw [h, if_neg (by simp)]; simp only; rw [h2]; exact if_pos hk
theorem fileS_s {s s1 s2 s3 : S} {n : Name} {b : List UInt8} {k : Nat} (h : create s nmT = (s1, 0)) (h2 : wrAll s1 b 0 (partsN b.length) = (s2, 0)) (h3 : sync s2 nmT = (s3, k)) (hk : k ≠ 0) : fileS s n b = (s3, k) := by
 unfold fileS; rw [h, if_neg (by simp)]; simp only; rw [h2, if_neg (by simp)]; simp only; rw [h3]; exact if_pos hk
theorem fileS_r {s s1 s2 s3 : S} {n : Name} {b : List UInt8} (h : create s nmT = (s1, 0)) (h2 : wrAll s1 b 0 (partsN b.length) = (s2, 0)) (h3 : sync s2 nmT = (s3, 0)) : fileS s n b = rename s3 nmT n := by
 unfold fileS; rw [h, if_neg (by simp)]; simp only; rw [h2, if_neg (by simp)]; simp only; rw [h3, if_neg (by simp)]
theorem post_end {G G2 : Nat → Prop} {B p k rb D' Bl : Nat} {s' : S} {w W0 Wf W9 : World} (hd : DX (fun g => G2 g ∨ nc Bl W0 g) B p s' Wf) (hGG : ∀ g, G g → G2 g) (hf9 : Frm (fun g => g = rb) Wf W9) (hrb : G2 rb) (hD : nc Bl W0 D') (hbr : B ≤ rb) (hbD : B ≤ D') (hnr : ¬ G rb) (hnD : ¬ G D')
 (hb : Below B w Wf) (hk : Kept G w Wf) : PostX G B p s' (k : Int) w (.returned (.int .i64 (k : Int))) (W9.putObj D' (.deferred none)) := by
 have hf : Frm (fun g => g = rb ∨ g = D') Wf (W9.putObj D' (.deferred none)) := (hf9.mono (fun _ _ e => .inl e)).trans (frm_put.mono (fun _ _ e => .inr e))
 have hlt : ∀ g, G g → g < Wf.heap.size := fun g hg => hd.old g (.inl (hGG g hg))
 refine ⟨rfl, (dx_in hd hf (fun g e => ?_)).weaken (fun g hg => .inl (hGG g hg)), hb.trans (hf.to_below (fun k' _ h1 h2 => ?_) hd.le), fun g hg => (hf.block g (hlt g hg) (fun e => ?_)).trans (hk g hg)⟩
 ·rcases e with rfl | rfl
  ·exact .inl hrb
  ·exact .inr hD
 ·rcases h2 with rfl | rfl <;> omega
 ·rcases e with rfl | rfl
  ·exact hnr hg
  ·exact hnD hg
set_option maxRecDepth 100000 in
set_option maxHeartbeats 4000000 in
theorem sWrite_any {G F : Nat → Prop} {B p sb : Nat} {s : S} {w : World} (hx : DX G B p s w) (hG : G sb) {v1 v2 v3 v4 v5 v6 : Value} (hsb : Blk w sb 80 #[.pointer (some ⟨p, 0, none⟩), v1, v2, v3, v4, v5, v6]) (n : ByteArray) (hn : n.size ≤ maxLen)
 {A : Option Addr} {c : Nat} {b : List UInt8} (hs : SlB fB 5 F w A b) (hF : ∀ g, F g → G g) (hbl : b.length ≤ 100000) (hbc : b.length ≤ c) :
 Calls Tryz.prog 37 #[.pointer (some ⟨sb, 0, none⟩), .string n, .slice A b.length c] w (PostX G B p (fileS s (sname n) b).1 ((fileS s (sname n) b).2 : Int) w) := by
 obtain ⟨w1, hw1⟩ : ∃ z, z = (w.alloc (.cells #[.pointer (some ⟨sb, 0, none⟩)] 26)).alloc (.cells #[.int .i64 0] 27) := ⟨_, rfl⟩
 have hz1 : w1.heap.size = w.heap.size + 2 := by rw [hw1]; simp
 have hb1 : Below w.heap.size w w1 := by rw [hw1]; exact ((Below.refl _ _).alloc (Nat.le_refl _) _).alloc (by simp) _
 have hS1 : Blk w1 w.heap.size 26 #[.pointer (some ⟨sb, 0, none⟩)] := by rw [hw1]; exact (Blk.new_ w _ _).alloc _
 have hR1 : Blk w1 (w.heap.size + 1) 27 #[.int .i64 0] := by
  have h1 := Blk.new_ (w.alloc (.cells #[.pointer (some ⟨sb, 0, none⟩)] 26)) 27 #[.int .i64 0]
  rw [World.size_alloc] at h1; rw [hw1]; exact h1
 have hB1 := hsb.below hb1 hsb.lt
 have hx1 := hx.protect hb1 (G2 := fun g => w.heap.size ≤ g ∧ g < w1.heap.size) (fun g hg => hg)
 obtain ⟨⟨s1, k1⟩, hc1⟩ : ∃ z, z = create s nmT := ⟨_, rfl⟩
 have HCR := Lib.hid (X_Create hx1 ⟨#[115, 110, 97, 112, 46, 116, 109, 112]⟩ sz_nmT8 (show Dsk.create s (sname ⟨#[115, 110, 97, 112, 46, 116, 109, 112]⟩) = (s1, k1) from hc1.symm) rfl)
 have x0 : w1.cell? ⟨w.heap.size, 0, none⟩ = some (.pointer (some ⟨sb, 0, none⟩)) := hS1.cell 0
 have y0 : w1.cell? ⟨sb, 0, none⟩ = some (.pointer (some ⟨p, 0, none⟩)) := hB1.cell 0
 have HC1 := Lib.hid hc1
 have HX := Lib.hid hx
 have HG := Lib.hid hG
 have HS1 := Lib.hid hS1
 have HR1 := Lib.hid hR1
 have HB1 := Lib.hid hB1
 have HW1 := Lib.hid hw1
 have HZ1 := Lib.hid hz1
 have HBB := Lib.hid hb1
 have HSL := Lib.hid (hs.below hb1)
 have HF := Lib.hid hF
 have hsblt : sb < w.heap.size := hsb.lt
 have HSB := Lib.hid hsblt
 clear hx hG hsb hs hF hw1 hz1 hb1 hS1 hR1 hB1 hx1 hc1 hsblt
 refine (callsIn_wide (n := 9)).1 (callsIn_of_wp_marks Tryz.func37 rfl trivial (wpIn_wide.2 ?_) rfl)
 simp only [Tryz.ntmps37, List.size_toArray, List.length_cons, List.length_nil, Nat.reduceAdd, Nat.reduceSub, Array.replicate_succ, Array.replicate_zero, List.push_toArray, List.append_toArray, List.nil_append, List.cons_append]
 obtain ⟨QQ, hQQ⟩ : ∃ q, q = bodyPostM Fence.wide 9 Tryz.prog Tryz.f37 (PostX G B p (fileS s (sname n) b).1 ((fileS s (sname n) b).2 : Int) w) := ⟨_, rfl⟩
 rw [← hQQ]
 have HQQ := Lib.hid hQQ; clear hQQ
 go_upto_region 1 with fail
 rw [← HW1.out]
 go_wp2_with fail
 (with_reducible refine HCR.out.mono ?_); rintro e wc ⟨rfl, hdc, hbc', hkc⟩
 have HDC := Lib.hid hdc
 have HBC := Lib.hid hbc'
 have HKC := Lib.hid hkc
 have HSC := Lib.hid (blk_kept HS1.out (hkc _ (.inr ⟨Nat.le_refl _, by have := HZ1.out; omega⟩)))
 have HRC := Lib.hid (blk_kept HR1.out (hkc _ (.inr ⟨Nat.le_succ _, by have := HZ1.out; omega⟩)))
 have HBLK := Lib.hid (blk_kept HB1.out (hkc _ (.inl HG.out)))
 have HSLC := Lib.hid (HSL.out.kept hkc (fun g hg => .inl (HF.out g hg)))
 clear hdc hbc' hkc x0 y0 HCR
 by_cases hk1 : k1 = 0
 ·subst hk1
  obtain ⟨w3, hw3⟩ : ∃ z, z = ((wc.alloc (.cells #[.int .i64 0] 3)).alloc (.cells #[.slice A b.length c] 36)).alloc (.cells #[.int .i64 256] 3) := ⟨_, rfl⟩
  have hz3 : w3.heap.size = wc.heap.size + 3 := by rw [hw3]; simp
  have hb3 : Below wc.heap.size wc w3 := by rw [hw3]; exact (((Below.refl _ _).alloc (Nat.le_refl _) _).alloc (by simp) _).alloc (by simp; omega) _
  have hA3 : Blk w3 wc.heap.size 3 #[.int .i64 ((0 : Nat) : Int)] := by rw [hw3]; exact ((Blk.new_ wc _ _).alloc _).alloc _
  have hC3 : Blk w3 (wc.heap.size + 1) 36 #[.slice A b.length c] := by
   have h1 := (Blk.new_ (wc.alloc (.cells #[.int .i64 0] 3)) 36 #[.slice A b.length c]).alloc (.cells #[.int .i64 256] 3)
   rw [World.size_alloc] at h1; rw [hw3]; exact h1
  have hN3 : Blk w3 (wc.heap.size + 1 + 1) 3 #[.int .i64 256] := by
   have h1 := Blk.new_ ((wc.alloc (.cells #[.int .i64 0] 3)).alloc (.cells #[.slice A b.length c] 36)) 3 #[.int .i64 256]
   rw [World.size_alloc, World.size_alloc] at h1; rw [hw3]; exact h1
  have hS3 := HSC.out.below hb3 HSC.out.lt
  have hR3 := HRC.out.below hb3 HRC.out.lt
  have hB3 := HBLK.out.below hb3 HBLK.out.lt
  obtain ⟨G2, hG2e⟩ : ∃ z : Nat → Prop, z = fun g => (G g ∨ (w.heap.size ≤ g ∧ g < w1.heap.size)) ∨ (wc.heap.size ≤ g ∧ g < w3.heap.size) := ⟨_, rfl⟩
  have hG2 : ∀ g, ((G g ∨ (w.heap.size ≤ g ∧ g < w1.heap.size)) ∨ (wc.heap.size ≤ g ∧ g < w3.heap.size)) → G2 g := fun g h => by rw [hG2e]; exact h
  have hx3 : DX G2 B p s1 w3 := by rw [hG2e]; exact HDC.out.protect hb3 (fun g hg => hg)
  obtain ⟨mb, hm3, hmb⟩ := hx3.m
  have hsl3 : SlB fB 5 G2 w3 A b := (HSLC.out.below hb3).mono (fun g _ hg => hG2 g (.inl (.inl (HF.out g hg))))
  have hbz := HBB.out.size
  have hcz := HBC.out.size
  have hz1 := HZ1.out
  have hrg : G2 (w.heap.size + 1) := hG2 _ (.inl (.inr ⟨Nat.le_succ _, by omega⟩))
  have hag : G2 wc.heap.size := hG2 _ (.inr ⟨Nat.le_refl _, by omega⟩)
  have hsg : G2 w.heap.size := hG2 _ (.inl (.inr ⟨Nat.le_refl _, by omega⟩))
  have hbg : G2 sb := hG2 _ (.inl (.inl HG.out))
  have hcg : G2 (wc.heap.size + 1) := hG2 _ (.inr ⟨Nat.le_succ _, by omega⟩)
  have hng : G2 (wc.heap.size + 1 + 1) := hG2 _ (.inr ⟨by omega, by omega⟩)
  have hgg : ∀ g, G g → G2 g := fun g hg => hG2 g (.inl (.inl hg))
  have hB : B ≤ w.heap.size := HX.out.le
  obtain ⟨bA, oA, hA⟩ : ∃ b' o', b.length = 0 ∨ A = some ⟨b', o', none⟩ := by
   by_cases h0 : 0 < b.length
   ·obtain ⟨b', o', cur, fr, e1, _⟩ := hsl3.2 h0
    exact ⟨b', o', .inr e1⟩
   ·exact ⟨0, 0, .inl (by omega)⟩
  have hstops := chunk_stops6 Fence.wide 8 trivial rfl (by decide) (wc.heap.size + 1) (wc.heap.size + 1 + 1) bA oA b.length c A hA hbc (by omega) w3 (by omega) (by omega) (hC3.cell 0) (hN3.cell 0)
  have HST := Lib.hid hstops
  have HM3 := Lib.hid hm3
  have HMB := Lib.hid hmb
  have HSL3 := Lib.hid hsl3
  have HA3 := Lib.hid hA3
  have HS3 := Lib.hid hS3
  have HR3 := Lib.hid hR3
  have HB3 := Lib.hid hB3
  have HZ3 := Lib.hid hz3
  have HB13 : Hid (Below wc.heap.size wc w3) := Lib.hid hb3
  have HW3 := Lib.hid hw3
  have HGS : Hid (G2 (w.heap.size + 1) ∧ G2 wc.heap.size ∧ G2 w.heap.size ∧ G2 sb ∧ G2 (wc.heap.size + 1) ∧ G2 (wc.heap.size + 1 + 1)) := Lib.hid ⟨hrg, hag, hsg, hbg, hcg, hng⟩
  have HGG := Lib.hid hgg
  have HAA := Lib.hid hA
  have HCZ : Hid (w.heap.size + 2 ≤ wc.heap.size) := Lib.hid (by omega)
  have HB03 : Hid (Below B w w3) := Lib.hid (((HBB.out.mono hB).trans HBC.out).trans (hb3.mono (by omega)))
  have HK03 : Hid (Kept G w w3) := Lib.hid (kept_trans (kept_trans (kept_below HX.out.old HBB.out) (fun g hg => HKC.out g (.inl hg))) (kept_below (fun g hg => HDC.out.old g (.inl hg)) hb3))
  have HGL : Hid (∀ g, G g → g < w.heap.size) := Lib.hid HX.out.old
  clear hz3 hb3 hA3 hC3 hN3 hS3 hR3 hB3 hG2e hG2 hx3 hm3 hmb hsl3 hbz hcz hz1 hrg hag hsg hbg hcg hng hgg hA hstops hw3
  go_wp2_with fail
  (with_reducible refine (Chunk_any6 (A := A) (len := b.length) (cap := c)).mono ?_); rintro e w9 ⟨rfl, rfl⟩
  rw [show (wc.alloc (.cells #[.int .i64 0] 3)).heap.size = wc.heap.size + 1 from World.size_alloc _ _, ← HW3.out]
  go_wp2_with fail
  refine (wpIn_wide (n := 9)).1 ?_
  refine' wpIn_rangeFunc_ownG (a₁ := _) rfl (by decide) (gf := 109) (lb := #[.pointer (some ⟨wc.heap.size + 1, 0, none⟩), .pointer (some ⟨wc.heap.size + 1 + 1, 0, none⟩)]) rfl trivial (enters_of Tryz.func109 (by kernel_rfl) rfl)
   HST.out KpC.trans (KpC.put (by have := HZ3.out; omega) (by have := HZ3.out; omega)) (Below.refl _ _) (fun _ => rfl)
   (fun pre W => WrI G2 B p mb wc.heap.size w3 (stL s1 b pre) W)
   (fun c' pre W => c' = .ret ∧ WrX G2 B p mb wc.heap.size (w.heap.size + 1) w3 (stL s1 b pre) W) ?hI ?hIx ?h0 ?assign ?body ?done ?stop
  case hI =>
   rintro pre' W W' row ⟨h1, h2, h3, h4, h5⟩ hg hr
   exact ⟨h1, h2.turn HMB.out hg hr, blk_turn h3 hg (fun r e => (hr r e).2), h4.grown hg (Nat.le_trans HM3.out.le h4.size) (fun k e => Nat.le_trans HM3.out.le (hr k e).1), kept_turn h5 (fun g hg' => ⟨HM3.out.old g hg'.1, h2.old g hg'.1⟩) hg (fun r e => (hr r e).1)⟩
  case hIx =>
   rintro c' pre' W W' row ⟨h0, h1, h2, h3, h4, h5⟩ hg hr
   exact ⟨h0, h1, h2.turn HMB.out hg hr, blk_turn h3 hg (fun r e => (hr r e).2), h4.grown hg (Nat.le_trans HM3.out.le h4.size) (fun k e => Nat.le_trans HM3.out.le (hr k e).1), kept_turn h5 (fun g hg' => ⟨HM3.out.old g hg'.1, h2.old g hg'.1⟩) hg (fun r e => (hr r e).1)⟩
  case h0 => exact ⟨rfl, HM3.out, HA3.out, (Below.refl _ _), fun _ _ => rfl⟩
  case assign =>
   intro l x' W K hK
   unfold pcE6
   gi_wp2
   exact hK
  case done =>
   rintro D' ys W hD rfl ⟨hok, hdm, hat, hbw, hkp⟩ hK
   obtain ⟨⟨⟨s2, ck⟩, ak⟩, hst⟩ : ∃ z, z = stL s1 b (List.range (pieces6 b.length)) := ⟨_, rfl⟩
   rw [← hst] at hok hdm hat
   obtain rfl : ck = 0 := hok
   have hwa : wrAll s1 b 0 (partsN b.length) = (s2, 0) := by rw [← stL_done]; show (stL s1 b (List.range (pieces6 b.length))).1 = _; rw [← hst]
   have hdn := (hdm.nc HMB.out).x
   obtain ⟨⟨s3, k3⟩, hsy⟩ : ∃ z, z = sync s2 nmT := ⟨_, rfl⟩
   have HSY := Lib.hid (X_Sync hdn ⟨#[115, 110, 97, 112, 46, 116, 109, 112]⟩ sz_nmT8 (show Dsk.sync s2 (sname ⟨#[115, 110, 97, 112, 46, 116, 109, 112]⟩) = (s3, k3) from hsy.symm) rfl)
   have hSW := blk_kept HS3.out (hkp _ ⟨HGS.out.2.2.1, by have := HCZ.out; omega⟩)
   have hBW := blk_kept HB3.out (hkp _ ⟨HGS.out.2.2.2.1, by have := HCZ.out; have := HSB.out; omega⟩)
   have hRW := blk_kept HR3.out (hkp _ ⟨HGS.out.1, by have := HCZ.out; omega⟩)
   have x0 : W.cell? ⟨w.heap.size, 0, none⟩ = some (.pointer (some ⟨sb, 0, none⟩)) := hSW.cell 0
   have y0 : W.cell? ⟨sb, 0, none⟩ = some (.pointer (some ⟨p, 0, none⟩)) := hBW.cell 0
   have HSW := Lib.hid hSW
   have HBW := Lib.hid hBW
   have HRW := Lib.hid hRW
   have HBL : Hid (Below B w W) := Lib.hid (HB03.out.trans hbw)
   have HKP : Hid (Kept G w W) := Lib.hid (kept_trans HK03.out (fun g hg => hkp g ⟨HGG.out g hg, by have := HGL.out g hg; have := HCZ.out; omega⟩))
   have HND : Hid (nc w3.heap.size W D') := Lib.hid ⟨hD, _, hK, rfl⟩
   have HK := Lib.hid hK
   have HDG : Hid (¬ G D' ∧ ¬ G (w.heap.size + 1) ∧ B ≤ D' ∧ B ≤ w.heap.size + 1) := Lib.hid ⟨fun h => by have := HGL.out _ h; have := HCZ.out; have := HB13.out.size; omega, fun h => by have := HGL.out _ h; omega, Nat.le_trans HM3.out.le hD, Nat.le_trans HX.out.le (Nat.le_succ _)⟩
   have HWA := Lib.hid hwa
   have HSYE := Lib.hid hsy
   clear hst hdm hat hbw hkp hdn hsy hSW hBW hRW hwa hK hD
   go_wp2_with fail
   (with_reducible refine HSY.out.mono ?_); rintro e W1 ⟨rfl, hd1, hb1, hk1⟩
   have HD1 := Lib.hid hd1
   have HB1' : Hid (Below B w W1) := Lib.hid (HBL.out.trans hb1)
   have HK1' : Hid (Kept G w W1) := Lib.hid (kept_trans HKP.out (fun g hg => hk1 g (.inl (HGG.out g hg))))
   have HK1 := Lib.hid hk1
   have hSW := blk_kept HSW.out (hk1 _ (.inl HGS.out.2.2.1))
   have hBW := blk_kept HBW.out (hk1 _ (.inl HGS.out.2.2.2.1))
   have hRW := blk_kept HRW.out (hk1 _ (.inl HGS.out.1))
   have HRW1 := Lib.hid hRW
   clear hd1 hb1 hk1 x0 y0 HSY
   by_cases hk3 : k3 = 0
   ·subst hk3
    have t0 : ((((0 : Nat) : Int)) != 0) = false := rfl
    obtain ⟨⟨s4, k4⟩, hrn⟩ : ∃ z, z = rename s3 nmT (sname n) := ⟨_, rfl⟩
    have HRN := Lib.hid (X_Rename HD1.out ⟨#[115, 110, 97, 112, 46, 116, 109, 112]⟩ n sz_nmT8 hn (show Dsk.rename s3 (sname ⟨#[115, 110, 97, 112, 46, 116, 109, 112]⟩) (sname n) = (s4, k4) from hrn.symm) rfl)
    have HFI : Hid (fileS s (sname n) b = (s4, k4)) := Lib.hid (by rw [fileS_r HC1.out.symm HWA.out HSYE.out.symm, ← hrn])
    have x0 : W1.cell? ⟨w.heap.size, 0, none⟩ = some (.pointer (some ⟨sb, 0, none⟩)) := hSW.cell 0
    have y0 : W1.cell? ⟨sb, 0, none⟩ = some (.pointer (some ⟨p, 0, none⟩)) := hBW.cell 0
    clear hSW hBW hRW hrn
    go_wp2_with fail
    (with_reducible refine HRN.out.mono ?_); rintro e W2 ⟨rfl, hd2, hb2, hk2⟩
    have hRW := blk_kept HRW1.out (hk2 _ (.inl HGS.out.1))
    have q5 := hRW.free 0
    have d5 := hRW.cell 0
    clear x0 y0 HRN
    go_wp2_with fail
    obtain ⟨W9, hW9⟩ : ∃ z, z = W2.setCell ⟨w.heap.size + 1, 0, none⟩ (.int .i64 (k4 : Int)) := ⟨_, rfl⟩
    have hf9 : Frm (fun g => g = w.heap.size + 1) W2 W9 := by rw [hW9]; exact (Frm.refl (fun g => g = w.heap.size + 1) W2).setCell (p := ⟨w.heap.size + 1, 0, none⟩) (fun _ => rfl) _
    have hR9 : Blk W9 (w.heap.size + 1) 27 #[.int .i64 (k4 : Int)] := by rw [hW9]; exact hRW.set_ 0 _
    rw [← hW9]
    have hK2 : W2.heap[D']? = some (.deferred (some [])) := (hk2 _ (.inr HND.out)).trans ((HK1.out _ (.inr HND.out)).trans HK.out)
    have hK9 : W9.heap[D']? = some (.deferred (some [])) := (hf9.block D' (Array.getElem?_eq_some_iff.1 hK2).1 (fun e => by have := HND.out.1; have := HB13.out.size; have := HCZ.out; omega)).trans hK2
    have r0 := (blk_turn hR9 (grownBy_putObj' W9 D' (.deferred none)) (fun r e => by cases e; exact ⟨_, hK9, rfl⟩)).cell 0
    rw [HQQ.out]
    refine ⟨by simp, .inl ⟨_, _, rfl, run_takeDeferred hK9, ?_⟩⟩
    refine ⟨.int .i64 (k4 : Int), by simp [results, Tryz.results37, go_sem, r0], ?_⟩
    rw [HFI.out]
    exact post_end hd2 HGG.out hf9 HGS.out.1 HND.out HDG.out.2.2.2 HDG.out.2.2.1 HDG.out.2.1 HDG.out.1 (HB1'.out.trans hb2) (kept_trans HK1'.out (fun g hg => hk2 g (.inl (HGG.out g hg))))
   ·have t0 : ((k3 : Int) != 0) = true := by rw [bne_iff_ne]; omega
    have HFI : Hid (fileS s (sname n) b = (s3, k3)) := Lib.hid (fileS_s HC1.out.symm HWA.out HSYE.out.symm hk3)
    have q5 := hRW.free 0
    have d5 := hRW.cell 0
    clear hSW hBW hRW
    go_wp2_with fail
    obtain ⟨W9, hW9⟩ : ∃ z, z = W1.setCell ⟨w.heap.size + 1, 0, none⟩ (.int .i64 (k3 : Int)) := ⟨_, rfl⟩
    have hf9 : Frm (fun g => g = w.heap.size + 1) W1 W9 := by rw [hW9]; exact (Frm.refl (fun g => g = w.heap.size + 1) W1).setCell (p := ⟨w.heap.size + 1, 0, none⟩) (fun _ => rfl) _
    have hR9 : Blk W9 (w.heap.size + 1) 27 #[.int .i64 (k3 : Int)] := by rw [hW9]; exact HRW1.out.set_ 0 _
    rw [← hW9]
    have hK2 : W1.heap[D']? = some (.deferred (some [])) := (HK1.out _ (.inr HND.out)).trans HK.out
    have hK9 : W9.heap[D']? = some (.deferred (some [])) := (hf9.block D' (Array.getElem?_eq_some_iff.1 hK2).1 (fun e => by have := HND.out.1; have := HB13.out.size; have := HCZ.out; omega)).trans hK2
    have r0 := (blk_turn hR9 (grownBy_putObj' W9 D' (.deferred none)) (fun r e => by cases e; exact ⟨_, hK9, rfl⟩)).cell 0
    rw [HQQ.out]
    refine ⟨by simp, .inl ⟨_, _, rfl, run_takeDeferred hK9, ?_⟩⟩
    refine ⟨.int .i64 (k3 : Int), by simp [results, Tryz.results37, go_sem, r0], ?_⟩
    rw [HFI.out]
    exact post_end HD1.out HGG.out hf9 HGS.out.1 HND.out HDG.out.2.2.2 HDG.out.2.2.1 HDG.out.2.1 HDG.out.1 HB1'.out HK1'.out
  case stop =>
   rintro D' c' pre' W hD ⟨k, hk, rfl⟩ ⟨rfl, hbad, hdm, hres, hbw, hkp⟩ hK
   have hwa := stL_stop s1 b (k := k) hk hbad
   obtain ⟨⟨⟨s2, ck⟩, ak⟩, hst⟩ : ∃ z, z = stL s1 b (List.range k ++ [k]) := ⟨_, rfl⟩
   rw [← hst] at hbad hdm hres hwa
   have HFI : Hid (fileS s (sname n) b = (s2, ck)) := Lib.hid (fileS_w HC1.out.symm hwa.symm hbad)
   have hdn := (hdm.nc HMB.out).x
   have hkk : Kept G w W := kept_trans HK03.out (fun g hg => hkp g ⟨HGG.out g hg, by have := HGL.out g hg; have := HCZ.out; omega, by have := HGL.out g hg; omega⟩)
   gi_wp2_with fail
   have r0 := (blk_turn hres (grownBy_putObj' W D' (.deferred none)) (fun r e => by cases e; exact ⟨_, hK, rfl⟩)).cell 0
   rw [HQQ.out]
   refine ⟨by simp, .inl ⟨_, _, rfl, run_takeDeferred hK, ?_⟩⟩
   refine ⟨.int .i64 (ck : Int), by simp [results, Tryz.results37, go_sem, r0], ?_⟩
   rw [HFI.out]
   exact post_end hdn HGG.out (Frm.refl _ _) HGS.out.1 ⟨hD, _, hK, rfl⟩ (Nat.le_trans HX.out.le (Nat.le_succ _)) (Nat.le_trans HM3.out.le hD) (fun h => by have := HGL.out _ h; omega) (fun h => by have := HGL.out _ h; have := HCZ.out; have := HB13.out.size; omega) (HB03.out.trans hbw) hkk
  case body =>
   rintro l pre' x' W ⟨hok, hdm, hat, hbw, hkp⟩ hlen
   obtain ⟨⟨⟨sk, ck⟩, ak⟩, hst⟩ : ∃ z, z = stL s1 b pre' := ⟨_, rfl⟩
   have hak : ak ≤ 1000000 := by
    have h1 := stL_at s1 b pre' ((s1, 0), 0)
    have h2 : (stL s1 b pre').2 = ak := by rw [← hst]
    have h3 : pre'.length < pieces6 b.length := hlen
    unfold pieces6 at h3
    unfold stL at h2
    rw [h2] at h1
    simp only at h1
    omega
   rw [← hst] at hok hdm hat
   obtain rfl : ck = 0 := hok
   obtain ⟨pc, hpc⟩ : ∃ z, z = partS b x' := ⟨_, rfl⟩
   have hpl : min 256 (b.length - 256 * x') = pc.length := by rw [hpc, partS_len]; omega
   have hp6 : pc.length ≤ 256 := by omega
   have hps : SlB fB 5 G2 W (some ⟨bA, oA + 256 * x', none⟩) pc := by
    rcases HAA.out with h0 | h0
    ·have : pc = [] := List.eq_nil_of_length_eq_zero (by omega)
     rw [this]; exact SlB.nil
    ·have h1 := HSL3.out
     rw [h0] at h1
     have h2 := (slb_part h1 (256 * x') 256)
     rw [show (b.drop (256 * x')).take 256 = pc by rw [hpc]; unfold partS; rw [Nat.mul_comm]] at h2
     have hal : G2 bA → bA ≠ wc.heap.size ∨ pc.length = 0 := fun _ => by
      by_cases h9 : bA = wc.heap.size
      ·right
       by_cases h8 : 0 < b.length
       ·obtain ⟨b', o', cur, fr, e1, _, hb', _⟩ := h1.2 h8
        injection e1 with e1; injection e1 with e2 e3
        subst e2
        have h7 := HA3.out
        unfold Blk at h7
        rw [h9] at hb'
        rw [hb'] at h7
        injection h7 with h7
        injection h7 with _ h7
        exact absurd h7 (by decide)
       ·omega
      ·exact .inl h9
     refine ⟨h2.1, fun h3 => ?_⟩
     obtain ⟨b', o', cur, fr, e1, hg', hb', hc'⟩ := h2.2 h3
     injection e1 with e1; injection e1 with e2 e3
     subst e2; subst e3
     exact ⟨_, _, cur, fr, rfl, hg', (hkp bA ⟨hg', (hal hg').resolve_right (by omega)⟩).trans hb', hc'⟩
   obtain ⟨⟨sn, kn⟩, hwr⟩ : ∃ z, z = Dsk.write sk nmT (ak : Int) pc := ⟨_, rfl⟩
   have HNX : Hid (stL s1 b (pre' ++ [x']) = ((sn, kn), ak + pc.length)) := Lib.hid (by rw [stL_snoc, ← hst]; unfold stp; rw [if_pos rfl, ← hpc]; simp only; rw [← hwr])
   have hdn := hdm.nc HMB.out
   have HWR : Hid (Calls Tryz.prog 24 #[.pointer (some ⟨p, 0, none⟩), .string ⟨#[115, 110, 97, 112, 46, 116, 109, 112]⟩, .int .i64 (ak : Int), .slice (some ⟨bA, oA + 256 * x', none⟩) pc.length pc.length] W.drew fun e w' => e = .returned (.int .i64 (kn : Int)) ∧ DXM (fun g => G2 g ∨ nc w3.heap.size W g) B p mb sn w' ∧ Below B W.drew w' ∧ Kept (fun g => G2 g ∨ nc w3.heap.size W g) W.drew w') :=
    Lib.hid (X_WriteM (hdn.below (Below.refl _ _).drew) ⟨#[115, 110, 97, 112, 46, 116, 109, 112]⟩ sz_nmT8 (ak : Int) (wf_nat hak) (c := pc.length) (hps.drewN 1) hdm.x.notG (show Dsk.write sk (sname ⟨#[115, 110, 97, 112, 46, 116, 109, 112]⟩) (ak : Int) pc = (sn, kn) from hwr.symm) rfl)
   have hSW := blk_kept HS3.out (hkp _ ⟨HGS.out.2.2.1, by have := HCZ.out; omega⟩)
   have hBW := blk_kept HB3.out (hkp _ ⟨HGS.out.2.2.2.1, by have := HCZ.out; have := HSB.out; omega⟩)
   have hRW := blk_kept HR3.out (hkp _ ⟨HGS.out.1, by have := HCZ.out; omega⟩)
   have x0 : W.cell? ⟨w.heap.size, 0, none⟩ = some (.pointer (some ⟨sb, 0, none⟩)) := hSW.cell 0
   have y0 : W.cell? ⟨sb, 0, none⟩ = some (.pointer (some ⟨p, 0, none⟩)) := hBW.cell 0
   have a0 : W.cell? ⟨wc.heap.size, 0, none⟩ = some (.int .i64 (ak : Int)) := hat.cell 0
   have HSW := Lib.hid hSW
   have HBW := Lib.hid hBW
   have HRW := Lib.hid hRW
   have HAT := Lib.hid hat
   have HBL := Lib.hid hbw
   have HKP := Lib.hid hkp
   have HP6 := Lib.hid hp6
   have HAK := Lib.hid hak
   rw [hpl]
   clear hst hpc hpl hp6 hps hwr hdn hSW hBW hRW hat hbw hkp hdm hak hlen
   gi_wp2_with fail
   refine AnyZ.startIn (S := (fun W' => W'.cell? ⟨w.heap.size, 0, none⟩ = some (.pointer (some ⟨sb, 0, none⟩)) ∧ W'.cell? ⟨sb, 0, none⟩ = some (.pointer (some ⟨p, 0, none⟩)) ∧ W'.cell? ⟨wc.heap.size, 0, none⟩ = some (.int .i64 (ak : Int)))) (z := 1008) (by kernel_rfl) (by kernel_rfl) (fun ⟨_, _, h⟩ => h) ?_ (fun hHeld => ?_)
   ·exact ⟨x0, y0, a0⟩
   refine AnyZ.take (i := 0) (v := ?_) rfl (by kernel_rfl) (by kernel_rfl) (by kernel_rfl) (by kernel_rfl) (fun _ _ _ h => h) (Or.inl ⟨by kernel_rfl, ?_⟩) (by assumption) ?_
   rotate_left
   ·intro w hSw; (try dsimp only at hSw); go_simp; try with_reducible rfl
   try simp only [Act.put, List.getElem_toArray, List.getElem_cons_succ, List.getElem_cons_zero, List.setIfInBounds_toArray, List.set_cons_zero, List.set_cons_succ]
   refine AnyZ.take (i := 1) (v := ?_) rfl (by kernel_rfl) (by kernel_rfl) (by kernel_rfl) (by kernel_rfl) (fun _ _ _ h => h) (Or.inl ⟨by kernel_rfl, ?_⟩) (by assumption) ?_
   rotate_left
   ·intro w hSw; (try dsimp only at hSw); go_simp; try with_reducible rfl
   try simp only [Act.put, List.getElem_toArray, List.getElem_cons_succ, List.getElem_cons_zero, List.setIfInBounds_toArray, List.set_cons_zero, List.set_cons_succ]
   refine AnyZ.take (i := 2) (v := ?_) rfl (by kernel_rfl) (by kernel_rfl) (by kernel_rfl) (by kernel_rfl) (fun _ _ _ h => h) (Or.inl ⟨by kernel_rfl, ?_⟩) (by assumption) ?_
   rotate_left
   ·intro w hSw; (try dsimp only at hSw); go_simp; try with_reducible rfl
   try simp only [Act.put, List.getElem_toArray, List.getElem_cons_succ, List.getElem_cons_zero, List.setIfInBounds_toArray, List.set_cons_zero, List.set_cons_succ]
   refine AnyZ.take (i := 3) (v := ?_) rfl (by kernel_rfl) (by kernel_rfl) (by kernel_rfl) (by kernel_rfl) (fun _ _ _ h => h) (Or.inl ⟨by kernel_rfl, ?_⟩) (by assumption) ?_
   rotate_left
   ·intro w hSw; (try dsimp only at hSw); go_simp; try with_reducible rfl
   try simp only [Act.put, List.getElem_toArray, List.getElem_cons_succ, List.getElem_cons_zero, List.setIfInBounds_toArray, List.set_cons_zero, List.set_cons_succ]
   refine AnyZ.take (i := 4) (v := ?_) rfl (by kernel_rfl) (by kernel_rfl) (by kernel_rfl) (by kernel_rfl) (fun _ _ _ h => h) (Or.inl ⟨by kernel_rfl, ?_⟩) (by assumption) ?_
   rotate_left
   ·intro w hSw; (try dsimp only at hSw); go_simp; try with_reducible rfl
   try simp only [Act.put, List.getElem_toArray, List.getElem_cons_succ, List.getElem_cons_zero, List.setIfInBounds_toArray, List.set_cons_zero, List.set_cons_succ]
   refine AnyZ.take (i := 5) (v := ?_) rfl (by kernel_rfl) (by kernel_rfl) (by kernel_rfl) (by kernel_rfl) (fun _ _ _ h => h) (Or.inl ⟨by kernel_rfl, ?_⟩) (by assumption) ?_
   rotate_left
   ·intro w hSw; (try dsimp only at hSw); go_simp; try with_reducible rfl
   try simp only [Act.put, List.getElem_toArray, List.getElem_cons_succ, List.getElem_cons_zero, List.setIfInBounds_toArray, List.set_cons_zero, List.set_cons_succ]
   refine AnyZ.ready (rs := [6]) (by kernel_rfl) (by simp) ?_
   refine AllZ.cons rfl (fun K hK => ?_) AllZ.nil
   go_simp
   (with_reducible refine HWR.out.mono ?_); rintro e W1 ⟨rfl, hd1, hb1, hk1⟩
   have HD1 := Lib.hid hd1
   have HK1 := Lib.hid hk1
   have HB1' : Hid (Below B w3 W1) := Lib.hid (HBL.out.trans (((Below.refl B W).drew).trans hb1))
   have HKF : Hid (KeepsFrom w3.heap.size W W1) := Lib.hid (keeps_nc (F := fun g => G2 g ∨ nc w3.heap.size W g) hb1.size (w := W) hk1 (fun g hg => .inr hg))
   have HS1' := Lib.hid (blk_kept HSW.out (hk1 _ (.inl HGS.out.2.2.1)))
   have HBB1 := Lib.hid (blk_kept HBW.out (hk1 _ (.inl HGS.out.2.2.2.1)))
   have HRW1 := Lib.hid (blk_kept HRW.out (hk1 _ (.inl HGS.out.1)))
   have HAT1 := Lib.hid (blk_kept HAT.out (hk1 _ (.inl HGS.out.2.1)))
   have HKP1 : Hid (Kept (fun g => G2 g ∧ g ≠ wc.heap.size) w3 W1) := Lib.hid (fun g hg => (hk1 g (.inl hg.1)).trans (HKP.out g hg))
   have HKC1 : Hid (KpC (wc.heap.size + 1) (wc.heap.size + 1 + 1) W W1) := Lib.hid ⟨hk1 _ (.inl HGS.out.2.2.2.2.1), hk1 _ (.inl HGS.out.2.2.2.2.2)⟩
   clear hd1 hb1 hk1
   refine hK.out _ _ ?_ (fun hHeld => ?_)
   ·exact ⟨HS1'.out.cell 0, HBB1.out.cell 0, HAT1.out.cell 0⟩
   clear hK K
   try simp only [Act.put, List.getElem_toArray, List.getElem_cons_succ, List.getElem_cons_zero, List.setIfInBounds_toArray, List.set_cons_zero, List.set_cons_succ]
   refine AnyZ.take (i := 7) (v := ?_) rfl (by kernel_rfl) (by kernel_rfl) (by kernel_rfl) (by kernel_rfl) (fun _ _ _ h => h) (Or.inl ⟨by kernel_rfl, ?_⟩) (by assumption) ?_
   rotate_left
   ·intro w hSw; (try dsimp only at hSw); go_simp; try with_reducible rfl
   try simp only [Act.put, List.getElem_toArray, List.getElem_cons_succ, List.getElem_cons_zero, List.setIfInBounds_toArray, List.set_cons_zero, List.set_cons_succ]
   refine AnyZ.done (by kernel_rfl) ?_ _
   clear hHeld x0 y0 a0
   by_cases hkn : kn = 0
   ·subst hkn
    have t0 : ((((0 : Nat) : Int)) != 0) = false := rfl
    have e1 : IntKind.i64.wrap ((ak : Int) + (pc.length : Int)) = ((ak + pc.length : Nat) : Int) := by rw [IntKind.wrap_i64]; have := HAK.out; have := HP6.out; omega
    have a1 := HAT1.out.cell 0
    have a2 := HAT1.out.free 0
    gi_wp2_with fail
    have hf2 : Frm (fun g => g = wc.heap.size) W1 (W1.setCell ⟨wc.heap.size, 0, none⟩ (.int .i64 ((ak : Int) + (pc.length : Int)))) := (Frm.refl (fun g => g = wc.heap.size) W1).setCell (p := ⟨wc.heap.size, 0, none⟩) (fun _ => rfl) _
    refine ⟨HKF.out.trans ((KeepsOthers.setCell _ _ _).from _), HKC1.out.trans ⟨hf2.block _ (by have := HB1'.out.size; have := HZ3.out; omega) (by omega), hf2.block _ (by have := HB1'.out.size; have := HZ3.out; omega) (by omega)⟩, ?_⟩
    show WrI G2 B p mb wc.heap.size w3 (stL s1 b (pre' ++ [x'])) _
    rw [HNX.out]
    refine ⟨rfl, (HD1.out.frm hf2 (fun g e => .inl (by subst e; exact HGS.out.2.1))).weaken (fun g hg => .inl hg), HAT1.out.set_ 0 _, HB1'.out.trans (hf2.to_below (fun k' _ h1 h2 => by have := HX.out.le; have := HCZ.out; omega) HD1.out.le), fun g hg => (hf2.block g (Nat.lt_of_lt_of_le (HM3.out.old g hg.1) HB1'.out.size) hg.2).trans (HKP1.out g hg)⟩
   ·have t0 : ((kn : Int) != 0) = true := by rw [bne_iff_ne]; omega
    have r1 := HRW1.out.cell 0
    have r2 := HRW1.out.free 0
    gi_wp2_with fail
    have hf2 : Frm (fun g => g = w.heap.size + 1) W1 (W1.setCell ⟨w.heap.size + 1, 0, none⟩ (.int .i64 (kn : Int))) := (Frm.refl (fun g => g = w.heap.size + 1) W1).setCell (p := ⟨w.heap.size + 1, 0, none⟩) (fun _ => rfl) _
    refine ⟨HKF.out.trans ((KeepsOthers.setCell _ _ _).from _), rfl, ?_⟩
    show WrX G2 B p mb wc.heap.size (w.heap.size + 1) w3 (stL s1 b (pre' ++ [x'])) _
    rw [HNX.out]
    refine ⟨hkn, (HD1.out.frm hf2 (fun g e => .inl (by subst e; exact HGS.out.1))).weaken (fun g hg => .inl hg), HRW1.out.set_ 0 _, HB1'.out.trans (hf2.to_below (fun k' _ h1 h2 => by have := HX.out.le; omega) HD1.out.le), fun g hg => (hf2.block g (Nat.lt_of_lt_of_le (HM3.out.old g hg.1) HB1'.out.size) hg.2.2).trans (HKP1.out g ⟨hg.1, hg.2.1⟩)⟩
 ·have t0 : ((k1 : Int) != 0) = true := by rw [bne_iff_ne]; omega
  have HFI : Hid (fileS s (sname n) b = (s1, k1)) := Lib.hid (fileS_c HC1.out.symm hk1)
  have q5 := HRC.out.free 0
  have d5 := HRC.out.cell 0
  go_wp2_with fail
  have hf9 : Frm (fun g => g = w.heap.size + 1) wc (wc.setCell ⟨w.heap.size + 1, 0, none⟩ (.int .i64 (k1 : Int))) := (Frm.refl (fun g => g = w.heap.size + 1) wc).setCell (p := ⟨w.heap.size + 1, 0, none⟩) (fun _ => rfl) _
  have r0 := (HRC.out.set_ 0 (.int .i64 (k1 : Int))).cell 0
  rw [HQQ.out]
  refine ⟨.int .i64 (k1 : Int), by simp [results, Tryz.results37, go_sem, r0], ?_⟩
  rw [HFI.out]
  have hz := HZ1.out
  refine ⟨rfl, (dx_in HDC.out hf9 (fun g e => .inr (by subst e; exact ⟨Nat.le_succ _, by omega⟩))).weaken (fun g hg => .inl hg), ((HBB.out.mono HX.out.le).trans HBC.out).trans (hf9.to_below (fun k' _ h1 h2 => by have := HX.out.le; omega) HDC.out.le), fun g hg => (hf9.block g (HDC.out.old g (.inl hg)) (fun e => by have := HX.out.old g hg; omega)).trans ((HKC.out g (.inl hg)).trans (HBB.out.block g (HX.out.old g hg)))⟩
end Go.Proofs.YtfpomllhkbbipaaGreatDoor
namespace Go.Proofs.YtfpomllhkbbipaaGreatDoor
open Go Go.RowKit Go.Shelf Go.Sort Go.Maps Go.Lib Mem Pk Cf Dsk Go.Proofs.YtfpomllhkbbipaaGreatDoor.Nm Sto
theorem own_cap {α : Type} {f : α → Value} {base : Nat} {e : TypeId} {w : World} {A : Option Addr} {n c : Nat} {xs : List α} (h : Mem.Own f base e w (.slice A n c) xs) : n ≤ c := by
 rcases h.2 with ⟨h1, _⟩ | ⟨g, cap, cur, hv, _, _, hnc, _⟩
 ·injection h1 with _ h2 h3; omega
 ·injection hv with _ h2 h3; omega
theorem RowsAt.mono {F G : Nat → Prop} {w : World} {x : SnT} {A C D : Option Addr} (h : RowsAt F w x A C D) (hF : ∀ g, g < w.heap.size → F g → G g) : RowsAt G w x A C D := ⟨h.v.mono hF, h.l.mono hF, h.d.mono hF⟩
theorem RowsAt.same {F : Nat → Prop} {w w' : World} {x : SnT} {A C D : Option Addr} (h : RowsAt F w x A C D) (hk : ∀ g, g < w.heap.size → F g → w'.heap[g]? = w.heap[g]?) : RowsAt F w' x A C D :=
 ⟨h.v.keep (fun g _ _ hg hh => hk g (Array.getElem?_eq_some_iff.1 hh).1 hg), h.l.keep (fun g _ _ hg hh => hk g (Array.getElem?_eq_some_iff.1 hh).1 hg), h.d.keep (fun g _ _ hg hh => hk g (Array.getElem?_eq_some_iff.1 hh).1 hg)⟩
theorem RowsAt.below {F : Nat → Prop} {w w' : World} {x : SnT} {A C D : Option Addr} (h : RowsAt F w x A C D) (hb : Below w.heap.size w w') : RowsAt F w' x A C D := h.same (fun g hl _ => hb.block g hl)
structure St0 (G R : Nat → Prop) (B p sb : Nat) (s : S) (l : Option SnT) (A C D : Option Addr) (a c d : Nat) (w : World) : Prop where
 dx : DX (fun g => (G g ∨ R g) ∨ g = sb) B p s w
 blk : Blk w sb 80 #[.pointer (some ⟨p, 0, none⟩), .int .i64 (l.getD zS).x, .int .i64 (l.getD zS).t, .slice A (l.getD zS).vs.length a, .slice C (l.getD zS).ls.length c, .slice D (l.getD zS).ds.length d, .bool l.isSome]
 rows : RowsAt R w (l.getD zS) A C D
 big : B ≤ sb
 notG : ¬ G sb
 right : ∀ y, l = some y → rightS y = true
def StAt (G : Nat → Prop) (B p sb : Nat) (s : S) (l : Option SnT) (w : World) : Prop := ∃ R A C D a c d, St0 G R B p sb s l A C D a c d w
section
variable {G R : Nat → Prop} {B p sb : Nat} {s : S} {l : Option SnT} {A C D : Option Addr} {a c d : Nat} {w w' : World}
theorem St0.below (h : St0 G R B p sb s l A C D a c d w) (hb : Below w.heap.size w w') : St0 G R B p sb s l A C D a c d w' :=
 ⟨h.dx.below hb, h.blk.below hb h.blk.lt, h.rows.below hb, h.big, h.notG, h.right⟩
theorem StAt.below (h : StAt G B p sb s l w) (hb : Below w.heap.size w w') : StAt G B p sb s l w' := by
 obtain ⟨R, A, C, D, a, c, d, h⟩ := h; exact ⟨R, A, C, D, a, c, d, h.below hb⟩
theorem StAt.le (h : StAt G B p sb s l w) : B ≤ w.heap.size := by obtain ⟨R, A, C, D, a, c, d, h⟩ := h; exact h.dx.le
theorem StAt.old (h : StAt G B p sb s l w) : ∀ g, G g → g < w.heap.size := by obtain ⟨R, A, C, D, a, c, d, h⟩ := h; exact fun g hg => h.dx.old g (.inl (.inl hg))
theorem small9_of {x : SnT} (h : rightS x = true) : small9 x := by
 obtain ⟨-, -, hc, hd⟩ := snap_parts h
 obtain ⟨hv, hl⟩ := rconf_rise hc
 have h1 := rise_small hv
 have h2 := rise_small hl
 exact ⟨by omega, by omega, by omega⟩
theorem small9_get (h : ∀ y, l = some y → rightS y = true) : small9 (l.getD zS) := by
 cases l with
 | none => exact ⟨by simp [zS], by simp [zS], by simp [zS]⟩
 | some y => exact small9_of (h y rfl)
end
theorem StAt.dd {G : Nat → Prop} {B p sb : Nat} {s : S} {l : Option SnT} {w : World} (h : StAt G B p sb s l w) : D B p s w := by obtain ⟨R, A1, C1, D1, a1, c1, d1, h⟩ := h; exact h.dx.drop
def LastP (l : Option SnT) (w : World) (e : Ending) (w' : World) : Prop := ∃ v, e = .returned (.tuple #[v, .bool l.isSome]) ∧ SnNew (l.getD zS) w.heap.size v w' ∧ Below w.heap.size w w'
set_option maxRecDepth 100000 in
set_option maxHeartbeats 4000000 in
theorem sLast_any {G : Nat → Prop} {B p sb : Nat} {s : S} {l : Option SnT} {w : World} (h : StAt G B p sb s l w) :
 Calls Tryz.prog 17 #[.pointer (some ⟨sb, 0, none⟩)] w (LastP l w) := by
 obtain ⟨R, A, C, D, a, c, d, h⟩ := h
 have hsm := small9_get h.right
 obtain ⟨x, hx⟩ : ∃ z, z = l.getD zS := ⟨_, rfl⟩
 obtain ⟨q, hq⟩ : ∃ z, z = l.isSome := ⟨_, rfl⟩
 have hbk := h.blk
 have hro := h.rows
 unfold LastP
 rw [← hx] at hsm hbk hro ⊢
 rw [← hq] at hbk ⊢
 obtain ⟨w1, hw1⟩ : ∃ z, z = w.alloc (.cells #[.int .i64 0, .int .i64 0, .slice none 0 0, .slice none 0 0, .slice none 0 0] 43) := ⟨_, rfl⟩
 have hb1 : Below w.heap.size w w1 := by rw [hw1]; exact (Below.refl _ _).alloc (Nat.le_refl _) _
 have hz1 : w1.heap.size = w.heap.size + 1 := by rw [hw1, World.size_alloc]
 have hR1 : Blk w1 w.heap.size 43 #[.int .i64 0, .int .i64 0, .slice none 0 0, .slice none 0 0, .slice none 0 0] := by rw [hw1]; exact Blk.new_ w _ _
 have HS1 := Lib.hid (hbk.below hb1 hbk.lt)
 have HNE : Hid (sb ≠ w.heap.size) := Lib.hid (by have := hbk.lt; omega)
 have HCL := Lib.hid (sClone_any (a := a) (c := c) (d := d) ((hro.below hb1).below (Below.refl _ _).drew).inn hsm)
 have HR1 := Lib.hid hR1
 have HB1 := Lib.hid hb1
 have HW1 := Lib.hid hw1
 have HZ1 := Lib.hid hz1
 clear h hsm hx hq hbk hro hb1 hz1 hR1 hw1
 go_enter Tryz.func17, Tryz.ntmps17
 go_upto_region 1 with fail
 rw [← HW1.out]
 refine AnyZ.start (S := (fun W => W.cell? ⟨sb, 1, none⟩ = some (.int .i64 x.x) ∧ W.cell? ⟨sb, 2, none⟩ = some (.int .i64 x.t) ∧ W.cell? ⟨sb, 3, none⟩ = some (.slice A x.vs.length a) ∧ W.cell? ⟨sb, 4, none⟩ = some (.slice C x.ls.length c) ∧ W.cell? ⟨sb, 5, none⟩ = some (.slice D x.ds.length d) ∧ W.cell? ⟨sb, 6, none⟩ = some (.bool q))) (z := 1011) (by kernel_rfl) ?_ (fun hHeld => ?_)
 ·exact ⟨HS1.out.cell 1, HS1.out.cell 2, HS1.out.cell 3, HS1.out.cell 4, HS1.out.cell 5, HS1.out.cell 6⟩
 refine AnyZ.take (i := 0) (v := ?_) rfl (by kernel_rfl) (by kernel_rfl) (by kernel_rfl) (by kernel_rfl) (fun _ _ _ h => h) (Or.inl ⟨by kernel_rfl, ?_⟩) (by assumption) ?_
 rotate_left
 ·intro w hSw; (try dsimp only at hSw); go_simp; try with_reducible rfl
 try simp only [Act.put, List.getElem_toArray, List.getElem_cons_succ, List.getElem_cons_zero, List.setIfInBounds_toArray, List.set_cons_zero, List.set_cons_succ]
 refine AnyZ.take (i := 1) (v := ?_) rfl (by kernel_rfl) (by kernel_rfl) (by kernel_rfl) (by kernel_rfl) (fun _ _ _ h => h) (Or.inl ⟨by kernel_rfl, ?_⟩) (by assumption) ?_
 rotate_left
 ·intro w hSw; (try dsimp only at hSw); go_simp; try with_reducible rfl
 try simp only [Act.put, List.getElem_toArray, List.getElem_cons_succ, List.getElem_cons_zero, List.setIfInBounds_toArray, List.set_cons_zero, List.set_cons_succ]
 refine AnyZ.take (i := 2) (v := ?_) rfl (by kernel_rfl) (by kernel_rfl) (by kernel_rfl) (by kernel_rfl) (fun _ _ _ h => h) (Or.inl ⟨by kernel_rfl, ?_⟩) (by assumption) ?_
 rotate_left
 ·intro w hSw; (try dsimp only at hSw); go_simp; try with_reducible rfl
 try simp only [Act.put, List.getElem_toArray, List.getElem_cons_succ, List.getElem_cons_zero, List.setIfInBounds_toArray, List.set_cons_zero, List.set_cons_succ]
 refine AnyZ.take (i := 3) (v := ?_) rfl (by kernel_rfl) (by kernel_rfl) (by kernel_rfl) (by kernel_rfl) (fun _ _ _ h => h) (Or.inl ⟨by kernel_rfl, ?_⟩) (by assumption) ?_
 rotate_left
 ·intro w hSw; (try dsimp only at hSw); go_simp; try with_reducible rfl
 try simp only [Act.put, List.getElem_toArray, List.getElem_cons_succ, List.getElem_cons_zero, List.setIfInBounds_toArray, List.set_cons_zero, List.set_cons_succ]
 refine AnyZ.take (i := 5) (v := ?_) rfl (by kernel_rfl) (by kernel_rfl) (by kernel_rfl) (by kernel_rfl) (fun _ _ _ h => h) (Or.inl ⟨by kernel_rfl, ?_⟩) (by assumption) ?_
 rotate_left
 ·intro w hSw; (try dsimp only at hSw); go_simp; try with_reducible rfl
 try simp only [Act.put, List.getElem_toArray, List.getElem_cons_succ, List.getElem_cons_zero, List.setIfInBounds_toArray, List.set_cons_zero, List.set_cons_succ]
 refine AnyZ.take (i := 6) (v := ?_) rfl (by kernel_rfl) (by kernel_rfl) (by kernel_rfl) (by kernel_rfl) (fun _ _ _ h => h) (Or.inl ⟨by kernel_rfl, ?_⟩) (by assumption) ?_
 rotate_left
 ·intro w hSw; (try dsimp only at hSw); go_simp; try with_reducible rfl
 try simp only [Act.put, List.getElem_toArray, List.getElem_cons_succ, List.getElem_cons_zero, List.setIfInBounds_toArray, List.set_cons_zero, List.set_cons_succ]
 refine AnyZ.take (i := 7) (v := ?_) rfl (by kernel_rfl) (by kernel_rfl) (by kernel_rfl) (by kernel_rfl) (fun _ _ _ h => h) (Or.inl ⟨by kernel_rfl, ?_⟩) (by assumption) ?_
 rotate_left
 ·intro w hSw; (try dsimp only at hSw); go_simp; try with_reducible rfl
 try simp only [Act.put, List.getElem_toArray, List.getElem_cons_succ, List.getElem_cons_zero, List.setIfInBounds_toArray, List.set_cons_zero, List.set_cons_succ]
 refine AnyZ.take (i := 8) (v := ?_) rfl (by kernel_rfl) (by kernel_rfl) (by kernel_rfl) (by kernel_rfl) (fun _ _ _ h => h) (Or.inl ⟨by kernel_rfl, ?_⟩) (by assumption) ?_
 rotate_left
 ·intro w hSw; (try dsimp only at hSw); go_simp; try with_reducible rfl
 try simp only [Act.put, List.getElem_toArray, List.getElem_cons_succ, List.getElem_cons_zero, List.setIfInBounds_toArray, List.set_cons_zero, List.set_cons_succ]
 refine AnyZ.ready (rs := [4]) (by kernel_rfl) (by simp) ?_
 refine AllZ.cons rfl (fun K hK => ?_) AllZ.nil
 go_simp
 (with_reducible refine HCL.out.mono ?_); rintro e w2 ⟨v, rfl, ⟨A2, C2, D2, a2, c2, d2, rfl, o1, o2, o3⟩, hb2⟩
 have HO1 := Lib.hid o1
 have HO2 := Lib.hid o2
 have HO3 := Lib.hid o3
 have hb12 : Below w1.heap.size w1 w2 := ((Below.refl _ _).drew).trans hb2
 have HB2 : Hid (Below w.heap.size w w2) := Lib.hid (HB1.out.trans (hb12.mono HB1.out.size))
 have HR2 := Lib.hid (HR1.out.below hb12 HR1.out.lt)
 have HS2 := Lib.hid (HS1.out.below hb12 HS1.out.lt)
 obtain ⟨e0, e1, e2, e3, e4⟩ := held5 HR2.out (Below.refl _ _)
 have q0 := HR2.out.free 0
 have q1 := HR2.out.free 1
 have q2 := HR2.out.free 2
 have q3 := HR2.out.free 3
 have q4 := HR2.out.free 4
 clear o1 o2 o3 hb2 hb12
 refine hK.out _ _ ?_ (fun hHeld => ?_)
 ·exact ⟨HS2.out.cell 1, HS2.out.cell 2, HS2.out.cell 3, HS2.out.cell 4, HS2.out.cell 5, HS2.out.cell 6⟩
 clear hK K
 try simp only [Act.put, List.getElem_toArray, List.getElem_cons_succ, List.getElem_cons_zero, List.setIfInBounds_toArray, List.set_cons_zero, List.set_cons_succ]
 refine AnyZ.ready (rs := [9]) (by kernel_rfl) (by simp) ?_
 refine AllZ.cons rfl (fun K hK => ?_) AllZ.nil
 go_simp
 refine hK.out _ _ ?_ (fun hHeld => ?_)
 ·exact ⟨(HS2.out.frm (put5_frm w2 w.heap.size (.int .i64 x.x) (.int .i64 x.t) (.slice A2 x.vs.length a2) (.slice C2 x.ls.length c2) (.slice D2 x.ds.length d2)) HNE.out).cell 1, (HS2.out.frm (put5_frm w2 w.heap.size (.int .i64 x.x) (.int .i64 x.t) (.slice A2 x.vs.length a2) (.slice C2 x.ls.length c2) (.slice D2 x.ds.length d2)) HNE.out).cell 2, (HS2.out.frm (put5_frm w2 w.heap.size (.int .i64 x.x) (.int .i64 x.t) (.slice A2 x.vs.length a2) (.slice C2 x.ls.length c2) (.slice D2 x.ds.length d2)) HNE.out).cell 3, (HS2.out.frm (put5_frm w2 w.heap.size (.int .i64 x.x) (.int .i64 x.t) (.slice A2 x.vs.length a2) (.slice C2 x.ls.length c2) (.slice D2 x.ds.length d2)) HNE.out).cell 4, (HS2.out.frm (put5_frm w2 w.heap.size (.int .i64 x.x) (.int .i64 x.t) (.slice A2 x.vs.length a2) (.slice C2 x.ls.length c2) (.slice D2 x.ds.length d2)) HNE.out).cell 5, (HS2.out.frm (put5_frm w2 w.heap.size (.int .i64 x.x) (.int .i64 x.t) (.slice A2 x.vs.length a2) (.slice C2 x.ls.length c2) (.slice D2 x.ds.length d2)) HNE.out).cell 6⟩
 clear hK K
 try simp only [Act.put, List.getElem_toArray, List.getElem_cons_succ, List.getElem_cons_zero, List.setIfInBounds_toArray, List.set_cons_zero, List.set_cons_succ]
 refine AnyZ.take (i := 10) (v := ?_) rfl (by kernel_rfl) (by kernel_rfl) (by kernel_rfl) (by kernel_rfl) (fun _ _ _ h => h) (Or.inl ⟨by kernel_rfl, ?_⟩) (by assumption) ?_
 rotate_left
 ·intro w hSw; (try dsimp only at hSw); go_simp; try with_reducible rfl
 try simp only [Act.put, List.getElem_toArray, List.getElem_cons_succ, List.getElem_cons_zero, List.setIfInBounds_toArray, List.set_cons_zero, List.set_cons_succ]
 refine AnyZ.done (by kernel_rfl) ?_ _
 clear hHeld q0 q1 q2 q3 q4 e0 e1 e2 e3 e4
 go_wp2_with fail
 obtain ⟨W9, hW9⟩ : ∃ z, z = put5 w2 w.heap.size (.int .i64 x.x) (.int .i64 x.t) (.slice A2 x.vs.length a2) (.slice C2 x.ls.length c2) (.slice D2 x.ds.length d2) := ⟨_, rfl⟩
 have hx9 : Blk W9 w.heap.size 43 #[.int .i64 x.x, .int .i64 x.t, .slice A2 x.vs.length a2, .slice C2 x.ls.length c2, .slice D2 x.ds.length d2] := by rw [hW9]; exact put5_blk HR2.out
 have hf9 : Frm (fun g => g = w.heap.size) w2 W9 := by rw [hW9]; exact put5_frm _ _ _ _ _ _ _
 unfold put5 at hW9
 rw [← hW9]
 obtain ⟨r0, r1, r2, r3, r4⟩ := held5 hx9 (Below.refl _ _)
 refine bodyPost_ret (v := .tuple #[.agg #[.int .i64 x.x, .int .i64 x.t, .slice A2 x.vs.length a2, .slice C2 x.ls.length c2, .slice D2 x.ds.length d2], .bool q]) (by simp [results, Tryz.results17, go_sem, r0, r1, r2, r3, r4]) rfl ?_
 have hz : w.heap.size ≤ w1.drew.heap.size := HB1.out.size
 exact ⟨_, rfl, ⟨A2, C2, D2, a2, c2, d2, rfl, Own.lowerI (own_frmT HO1.out HR2.out (by decide) hf9) hz, Own.lowerI (own_frmT HO2.out HR2.out (by decide) hf9) hz, Own.lowerS (own_frmT HO3.out HR2.out (by decide) hf9) hz⟩, HB2.out.trans (hf9.to_below (fun k _ h1 h2 => by omega) HB2.out.size)⟩
def PutP (G : Nat → Prop) (B p sb : Nat) (r : S × Option SnT × Nat) (w : World) (e : Ending) (w' : World) : Prop :=
 e = .returned (.int .i64 (r.2.2 : Int)) ∧ StAt G B p sb r.1 r.2.1 w' ∧ Below B w w' ∧ Kept G w w'
theorem putS_no {s : S} {l : Option SnT} {x : SnT} (h : rightS x = false) : putS s l x = (s, l, 1) := by unfold putS; rw [if_pos h]
theorem putS_old {s : S} {y x : SnT} (h : rightS x = true) (hle : x.x ≤ y.x) : putS s (some y) x = (s, some y, 110) := by
 unfold putS; rw [if_neg (by rw [h]; decide)]; simp only; rw [if_pos hle]
theorem putS_bad {s s' : S} {l : Option SnT} {x : SnT} {k : Nat} (h : rightS x = true) (hl : ∀ y, l = some y → ¬ x.x ≤ y.x) (hf : fileS s (nmS x.x) (snOf x) = (s', k)) (hk : k ≠ 0) : putS s l x = (s', l, k) := by
 unfold putS; rw [if_neg (by rw [h]; decide)]
 cases l with
 | none => simp only; rw [hf]; exact if_pos hk
 | some y => simp only; rw [if_neg (hl y rfl), hf]; exact if_pos hk
theorem putS_new {s s' : S} {x : SnT} (h : rightS x = true) (hf : fileS s (nmS x.x) (snOf x) = (s', 0)) : putS s none x = (s', some x, 0) := by
 unfold putS; rw [if_neg (by rw [h]; decide)]; simp only; rw [hf]; exact if_neg (by simp)
theorem putS_rm {s s' s2 : S} {y x : SnT} {k : Nat} (h : rightS x = true) (hl : ¬ x.x ≤ y.x) (hf : fileS s (nmS x.x) (snOf x) = (s', 0)) (hr : remove s' (nmS y.x) = (s2, k)) (hk : k ≠ 0) : putS s (some y) x = (s2, some y, k) := by
 unfold putS; rw [if_neg (by rw [h]; decide)]; simp only; rw [if_neg hl, hf, if_neg (by simp)]; simp only; rw [hr]; exact if_pos hk
theorem putS_ok {s s' s2 : S} {y x : SnT} (h : rightS x = true) (hl : ¬ x.x ≤ y.x) (hf : fileS s (nmS x.x) (snOf x) = (s', 0)) (hr : remove s' (nmS y.x) = (s2, 0)) : putS s (some y) x = (s2, some x, 0) := by
 unfold putS; rw [if_neg (by rw [h]; decide)]; simp only; rw [if_neg hl, hf, if_neg (by simp)]; simp only; rw [hr]; exact if_neg (by simp)
theorem nmBA_sz (i : Int) : (nmBA i).size ≤ maxLen := by
 have : (nmBA i).size = 16 := by rw [← sname_len, sname_nmBA, nmOf_len]
 rw [this]; unfold maxLen; decide
end Go.Proofs.YtfpomllhkbbipaaGreatDoor
namespace Go.Proofs.YtfpomllhkbbipaaGreatDoor
open Go Go.RowKit Go.Shelf Go.Sort Go.Maps Go.Lib Mem Pk Cf Dsk Go.Proofs.YtfpomllhkbbipaaGreatDoor.Nm Sto
structure PtM (G R : Nat → Prop) (B p sb xb : Nat) (s : S) (l : Option SnT) (x : SnT) (A C D A' C' D' : Option Addr) (a c d a' c' d' : Nat) (w W : World) : Prop where
 dx : DX (fun g => ((G g ∨ R g) ∨ g = sb) ∨ g = xb) B p s W
 blk : Blk W sb 80 #[.pointer (some ⟨p, 0, none⟩), .int .i64 (l.getD zS).x, .int .i64 (l.getD zS).t, .slice A (l.getD zS).vs.length a, .slice C (l.getD zS).ls.length c, .slice D (l.getD zS).ds.length d, .bool l.isSome]
 rows : RowsAt R W (l.getD zS) A C D
 box : Blk W xb 43 #[.int .i64 x.x, .int .i64 x.t, .slice A' x.vs.length a', .slice C' x.ls.length c', .slice D' x.ds.length d']
 below : Below B w W
 kept : Kept G w W
structure PtC (G F : Nat → Prop) (B sb xb : Nat) (l : Option SnT) (x : SnT) (A' C' D' : Option Addr) (w : World) : Prop where
 big : B ≤ sb
 notG : ¬ G sb
 right : ∀ y, l = some y → rightS y = true
 rx : rightS x = true
 arows : ArgAt F w x A' C' D'
 far : ∀ g, F g → G g ∨ g < B
 xbig : w.heap.size ≤ xb
 le : B ≤ w.heap.size
 laid : LaidB B w
 old : ∀ g, G g → g < w.heap.size
section
variable {G R F : Nat → Prop} {B p sb xb : Nat} {s s' : S} {l : Option SnT} {x : SnT} {A C D A' C' D' : Option Addr} {a c d a' c' d' : Nat} {w W W' : World}
theorem PtM.next (h : PtM G R B p sb xb s l x A C D A' C' D' a c d a' c' d' w W) (hd : DX (fun g => ((G g ∨ R g) ∨ g = sb) ∨ g = xb) B p s' W') (hb : Below B W W') (hk : Kept (fun g => ((G g ∨ R g) ∨ g = sb) ∨ g = xb) W W') : PtM G R B p sb xb s' l x A C D A' C' D' a c d a' c' d' w W' :=
 ⟨hd, blk_kept h.blk (hk _ (.inl (.inr rfl))), h.rows.same (fun g _ hg => hk g (.inl (.inl (.inr hg)))), blk_kept h.box (hk _ (.inr rfl)), h.below.trans hb, kept_trans h.kept (fun g hg => hk g (.inl (.inl (.inl hg))))⟩
theorem PtM.low (h : PtM G R B p sb xb s l x A C D A' C' D' a c d a' c' d' w W) (hb : Below W.heap.size W W') : PtM G R B p sb xb s l x A C D A' C' D' a c d a' c' d' w W' :=
 h.next (h.dx.below hb) (hb.mono h.dx.le) (kept_below h.dx.old hb)
theorem PtM.stop (h : PtM G R B p sb xb s l x A C D A' C' D' a c d a' c' d' w W) (hc : PtC G F B sb xb l x A' C' D' w) : StAt G B p sb s l W :=
 ⟨R, A, C, D, a, c, d, h.dx.weaken (fun g hg => .inl hg), h.blk, h.rows, hc.big, hc.notG, hc.right⟩
theorem PtM.args (h : PtM G R B p sb xb s l x A C D A' C' D' a c d a' c' d' w W) (hc : PtC G F B sb xb l x A' C' D' w) : SnIn W A' x.vs C' x.ls D' x.ds :=
 (hc.arows.same (fun g hl hg => (hc.far g hg).elim (h.kept g) (fun h9 => h.below.block g h9))).inn
end
def oldB (l : Option SnT) (x : SnT) : Bool := match l with
 | none => false
 | some y => decide (x.x ≤ y.x)
theorem put_last {G R F : Nat → Prop} {B p sb xb : Nat} {s : S} {l : Option SnT} {x : SnT} {A C D A' C' D' : Option Addr} {a c d a' c' d' : Nat} {w W W2 W9 : World} {A2 C2 D2 : Option Addr} {a2 c2 d2 : Nat}
 (h : PtM G R B p sb xb s l x A C D A' C' D' a c d a' c' d' w W) (hc : PtC G F B sb xb l x A' C' D' w) (hb : Below W.heap.size W W2)
 (o1 : Mem.Own fI W.heap.size 3 W2 (.slice A2 x.vs.length a2) x.vs) (o2 : Mem.Own fI W.heap.size 3 W2 (.slice C2 x.ls.length c2) x.ls) (o3 : Mem.Own fB W.heap.size 5 W2 (.slice D2 x.ds.length d2) x.ds)
 (hf : Frm (fun g => g = sb) W2 W9) (hB : Blk W9 sb 80 #[.pointer (some ⟨p, 0, none⟩), .int .i64 x.x, .int .i64 x.t, .slice A2 x.vs.length a2, .slice C2 x.ls.length c2, .slice D2 x.ds.length d2, .bool true]) :
 StAt G B p sb s (some x) W9 ∧ Below B w W9 ∧ Kept G w W9 := by
 have hz := hb.size
 have hsb := h.blk.lt
 have hd2 : DX (fun g => (G g ∨ g = sb) ∨ (W.heap.size ≤ g ∧ g < W2.heap.size)) B p s W2 := (h.dx.weaken (F := fun g => G g ∨ g = sb) (fun g hg => .inl (hg.imp .inl id))).protect hb (fun g hg => hg)
 have hr2 : RowsAt (fun g => W.heap.size ≤ g ∧ g < W2.heap.size) W2 x A2 C2 D2 := (⟨(SlB.of_own o1).2, (SlB.of_own o2).2, (SlB.of_own o3).2⟩ : RowsAt (fun g => W.heap.size ≤ g) W2 x A2 C2 D2).mono (fun g hl hg => ⟨hg, hl⟩)
 have hkb : Kept G W W9 := fun g hg => (hf.block g (Nat.lt_of_lt_of_le (h.dx.old g (.inl (.inl (.inl hg)))) hz) (fun e => hc.notG (e ▸ hg))).trans (hb.block g (h.dx.old g (.inl (.inl (.inl hg)))))
 refine ⟨⟨fun g => W.heap.size ≤ g ∧ g < W2.heap.size, A2, C2, D2, a2, c2, d2, (dx_in hd2 hf (fun g e => .inl (.inr e))).weaken (fun g hg => ?_), hB, hr2.same (fun g hl hg => hf.block g hl (fun e => by omega)), hc.big, hc.notG, fun y hy => by injection hy with hy; subst hy; exact hc.rx⟩, ?_, kept_trans h.kept hkb⟩
 ·rcases hg with (hg | hg) | hg
  ·exact .inl (.inl hg)
  ·exact .inr hg
  ·exact .inl (.inr hg)
 ·exact (h.below.trans (hb.mono h.dx.le)).trans (hf.to_below (fun k _ h1 h2 => by have := hc.big; omega) (Nat.le_trans h.dx.le hz))
set_option maxRecDepth 100000 in
set_option maxHeartbeats 8000000 in
theorem sPut_any {G F : Nat → Prop} {B p sb : Nat} {s : S} {l : Option SnT} {w : World} (h : StAt G B p sb s l w) (hla : LaidB B w) {x : SnT} {A' C' D' : Option Addr} {a' c' d' : Nat} (hr : ArgAt F w x A' C' D') (hF : ∀ g, F g → G g ∨ g < B) (hd : x.ds.length ≤ d') :
 Calls Tryz.prog 11 #[.pointer (some ⟨sb, 0, none⟩), .agg #[.int .i64 x.x, .int .i64 x.t, .slice A' x.vs.length a', .slice C' x.ls.length c', .slice D' x.ds.length d']] w (PutP G B p sb (putS s l x) w) := by
 have hst := h
 obtain ⟨R, A, C, D, a, c, d, h⟩ := h
 obtain ⟨w1, hw1⟩ : ∃ z, z = w.alloc (.cells #[.int .i64 x.x, .int .i64 x.t, .slice A' x.vs.length a', .slice C' x.ls.length c', .slice D' x.ds.length d'] 43) := ⟨_, rfl⟩
 have hb1 : Below w.heap.size w w1 := by rw [hw1]; exact (Below.refl _ _).alloc (Nat.le_refl _) _
 have hz1 : w1.heap.size = w.heap.size + 1 := by rw [hw1, World.size_alloc]
 have hX1 : Blk w1 w.heap.size 43 #[.int .i64 x.x, .int .i64 x.t, .slice A' x.vs.length a', .slice C' x.ls.length c', .slice D' x.ds.length d'] := by rw [hw1]; exact Blk.new_ w _ _
 have hm1 : PtM G R B p sb w.heap.size s l x A C D A' C' D' a c d a' c' d' w w1 := by
  refine ⟨(h.dx.protect hb1 (G2 := fun g => g = w.heap.size) (fun g e => by omega)).weaken (fun g hg => ?_), h.blk.below hb1 h.blk.lt, h.rows.below hb1, hX1, hb1.mono h.dx.le, kept_below (fun g hg => h.dx.old g (.inl (.inl hg))) hb1⟩
  rcases hg with hg | hg
  ·exact .inl hg
  ·exact .inr hg
 have hin1 : SnIn w1 A' x.vs C' x.ls D' x.ds := (hr.below hb1).inn
 obtain ⟨d0, d1, d2, d3, d4⟩ := held5 hX1 (Below.refl _ _)
 have HST := Lib.hid hst
 have HW1 := Lib.hid hw1
 have HB1 := Lib.hid hb1
 have HM1 := Lib.hid hm1
 cases hrx : rightS x with
 | false =>
   have HBY := Lib.hid (SBytes_no (a := a') (b := c') (d := d') hin1 hrx)
   have HPS := Lib.hid (putS_no (s := s) (l := l) hrx)
   clear hst h hw1 hb1 hz1 hX1 hm1 hin1 hr hF hd hrx hla
   go_enter Tryz.func11, Tryz.ntmps11
   go_upto_region 1 with fail
   rw [← HW1.out]
   go_wp2_with fail
   (with_reducible refine HBY.out.mono ?_); rintro e w2 ⟨A8, c8, rfl, ho8, hb2⟩
   have HB2 : Hid (Below w.heap.size w w2) := Lib.hid (HB1.out.trans (hb2.mono HB1.out.size))
   clear ho8 hb2 d0 d1 d2 d3 d4
   go_wp2_with fail
   go_ret
   unfold PutP
   rw [HPS.out]
   exact ⟨rfl, HST.out.below HB2.out, HB2.out.mono HST.out.le, kept_below HST.out.old HB2.out⟩
 | true =>
   have HBY := Lib.hid (SBytes_yes (a := a') (b := c') (d := d') hin1 hd hrx)
   have HPC : Hid (PtC G F B sb w.heap.size l x A' C' D' w) := Lib.hid ⟨h.big, h.notG, h.right, hrx, hr, hF, Nat.le_refl _, h.dx.le, hla, fun g hg => h.dx.old g (.inl (.inl hg))⟩
   have hsl := snOf_len hrx
   have HRX := Lib.hid hrx
   have hxr := right_x hrx
   obtain ⟨by_, hby⟩ : ∃ z, z = snOf x := ⟨_, rfl⟩
   change Hid (Calls _ _ _ _ (FrPost (snOf x, 0) w1)) at HBY
   rw [← hby] at HBY hsl
   have HBE := Lib.hid hby
   clear hst h hw1 hb1 hz1 hX1 hm1 hin1 hr hF hd hrx hla hby
   go_enter Tryz.func11, Tryz.ntmps11
   go_upto_region 1 with fail
   rw [← HW1.out]
   go_wp2_with fail
   (with_reducible refine HBY.out.mono ?_); rintro e w2 ⟨A8, c8, rfl, ho8, hb2⟩
   simp only at ho8 ⊢
   have HO8 := Lib.hid ho8
   have HB2 := Lib.hid hb2
   have HM2 := Lib.hid (HM1.out.low hb2)
   have hblk2 := HM2.out.blk
   have t1 : w2.cell? ⟨sb, 1, none⟩ = some (.int .i64 (l.getD zS).x) := hblk2.cell 1
   have t6 : w2.cell? ⟨sb, 6, none⟩ = some (.bool l.isSome) := hblk2.cell 6
   clear ho8 hb2 d0 d1 d2 d3 d4 hblk2 HBY
   obtain ⟨d0, d1, d2, d3, d4⟩ := held5 HM2.out.box (Below.refl _ _)
   go_upto_region 4 with fail
   go_cut [18] (fun b9 W => (∃ n, W = w2.drewN n) ∧ b9 = .bool (oldB l x))
   case first =>
    cases l with
    | none =>
      go_quiet (fail)
      go_wp2_with fail
      go_meet
      exact ⟨⟨_, rfl⟩, rfl⟩
    | some y =>
      simp only [Option.getD_some, Option.isSome_some] at t1 t6
      go_quiet (fail)
      go_wp2_with fail
      go_meet
      exact ⟨⟨_, rfl⟩, rfl⟩
   case rest =>
    obtain ⟨⟨nq, hwc⟩, rfl⟩ := hcut
    have HM3 : Hid (PtM G R B p sb w.heap.size s l x A C D A' C' D' a c d a' c' d' w wc) := Lib.hid (by rw [hwc]; exact HM2.out.low (below_drewN (Below.refl _ _) nq))
    have HDX3 : Hid (DX (fun g => (((G g ∨ R g) ∨ g = sb) ∨ g = w.heap.size) ∨ (w1.heap.size ≤ g ∧ g < w2.heap.size)) B p s wc) := Lib.hid (by rw [hwc]; exact (HM1.out.dx.protect HB2.out (fun g hg => hg)).below (below_drewN (Below.refl _ _) nq))
    have HO3 : Hid (SlB fB 5 (fun g => w1.heap.size ≤ g ∧ g < w2.heap.size) wc A8 by_) := Lib.hid (by rw [hwc]; exact (((SlB.of_own HO8.out).2.mono (fun g hl hg => ⟨hg, hl⟩)).below (below_drewN (Below.refl _ _) nq)))
    have hcap := own_cap HO8.out
    clear hwc d0 d1 d2 d3 d4 t1 t6 HM2 HM1 HB2 HO8
    obtain ⟨d0, d1, d2, d3, d4⟩ := held5 HM3.out.box (Below.refl _ _)
    obtain ⟨q, hq⟩ : ∃ z, z = oldB l x := ⟨_, rfl⟩
    rw [← hq]
    cases q with
    | true =>
      obtain ⟨y, rfl, hle⟩ : ∃ y, l = some y ∧ x.x ≤ y.x := by
       cases l with
       | none => cases hq
       | some y => exact ⟨y, rfl, by simpa [oldB] using hq.symm⟩
      have HPS := Lib.hid (putS_old (s := s) HRX.out hle)
      clear hle hq hcap
      go_wp2_with fail
      go_ret
      unfold PutP
      rw [HPS.out]
      exact ⟨rfl, HM3.out.stop HPC.out, HM3.out.below, HM3.out.kept⟩
    | false =>
      have hnl : ∀ y, l = some y → ¬ x.x ≤ y.x := by
       intro y hy
       subst hy
       have : decide (x.x ≤ y.x) = false := hq.symm
       simpa using this
      have HNL := Lib.hid hnl
      have HNM := Lib.hid (SNamed_any (HPC.out.laid.on HM3.out.below).here (i := x.x) (by omega) (by omega))
      clear hnl hq
      go_wp2_with fail
      (with_reducible refine HNM.out.mono ?_); rintro e w4 ⟨rfl, hb4⟩
      have HM4 := Lib.hid (HM3.out.low hb4)
      obtain ⟨⟨s5, k5⟩, hfs⟩ : ∃ z, z = fileS s (nmS x.x) by_ := ⟨_, rfl⟩
      have hwr := sWrite_any (HDX3.out.below hb4) (.inl (.inl (.inr rfl))) HM4.out.blk (nmBA x.x) (nmBA_sz _) (HO3.out.below hb4) (fun g hg => .inr hg) (by omega) hcap
      rw [sname_nmBA] at hwr
      have HFS : Hid (fileS s (nmS x.x) by_ = (s5, k5)) := Lib.hid hfs.symm
      rw [show fileS s (nmOf 115 x.x.toNat) by_ = (s5, k5) from hfs.symm] at hwr
      have HWR := Lib.hid hwr
      clear hb4 hfs hwr hcap HM3 HDX3 HO3 HNM d0 d1 d2 d3 d4
      go_wp2_with fail
      (with_reducible refine HWR.out.mono ?_); rintro e w5 ⟨rfl, hd5, hb5, hk5⟩
      have HM5 := Lib.hid (HM4.out.next (hd5.weaken (fun g hg => .inl hg)) hb5 (fun g hg => hk5 g (.inl hg)))
      have t1 : w5.cell? ⟨sb, 1, none⟩ = some (.int .i64 (l.getD zS).x) := HM5.out.blk.cell 1
      have t6 : w5.cell? ⟨sb, 6, none⟩ = some (.bool l.isSome) := HM5.out.blk.cell 6
      clear hd5 hb5 hk5 HWR HM4
      by_cases hk5 : k5 = 0
      ·subst hk5
       have g0 : ((((0 : Nat) : Int)) != 0) = false := rfl
       cases l with
       | none =>
         simp only [Option.isSome_none] at t6
         have HPS := Lib.hid (putS_new (s := s) HRX.out (by rw [← HBE.out]; exact HFS.out))
         have HCL := Lib.hid (sClone_any (a := a') (c := c') (d := d') (HM5.out.args HPC.out) (small9_of HRX.out))
         obtain ⟨d0, d1, d2, d3, d4⟩ := held5 HM5.out.box (Below.refl _ _)
         go_wp2_with fail
         clear t1 t6
         (with_reducible refine HCL.out.mono ?_); rintro e w8 ⟨v, rfl, ⟨A2, C2, D2, a2, c2, d2', rfl, o1, o2, o3⟩, hb8⟩
         have HO1 := Lib.hid o1
         have HO2 := Lib.hid o2
         have HO3 := Lib.hid o3
         have HB8 := Lib.hid hb8
         have HS8 := Lib.hid (HM5.out.blk.below hb8 HM5.out.blk.lt)
         have q1 := HS8.out.free 1
         have q2 := HS8.out.free 2
         have q3 := HS8.out.free 3
         have q4 := HS8.out.free 4
         have q5 := HS8.out.free 5
         have q6 := HS8.out.free 6
         have e1 := HS8.out.cell 1
         have e2 := HS8.out.cell 2
         have e3 := HS8.out.cell 3
         have e4 := HS8.out.cell 4
         have e5 := HS8.out.cell 5
         have e6 := HS8.out.cell 6
         clear d0 d1 d2 d3 d4 o1 o2 o3 hb8 HCL
         go_wp2_with fail
         go_ret
         obtain ⟨W9, hW9⟩ : ∃ z, z = (((((w8.setCell ⟨sb, 1, none⟩ (.int .i64 x.x)).setCell ⟨sb, 2, none⟩ (.int .i64 x.t)).setCell ⟨sb, 3, none⟩ (.slice A2 x.vs.length a2)).setCell ⟨sb, 4, none⟩ (.slice C2 x.ls.length c2)).setCell ⟨sb, 5, none⟩ (.slice D2 x.ds.length d2')).setCell ⟨sb, 6, none⟩ (.bool true) := ⟨_, rfl⟩
         have hf9 : Frm (fun g => g = sb) w8 W9 := by rw [hW9]; exact ((((((Frm.refl (fun g => g = sb) w8).setCell (p := ⟨sb, 1, none⟩) (fun _ => rfl) _).setCell (p := ⟨sb, 2, none⟩) (fun _ => rfl) _).setCell (p := ⟨sb, 3, none⟩) (fun _ => rfl) _).setCell (p := ⟨sb, 4, none⟩) (fun _ => rfl) _).setCell (p := ⟨sb, 5, none⟩) (fun _ => rfl) _).setCell (p := ⟨sb, 6, none⟩) (fun _ => rfl) _
         have hB9 : Blk W9 sb 80 #[.pointer (some ⟨p, 0, none⟩), .int .i64 x.x, .int .i64 x.t, .slice A2 x.vs.length a2, .slice C2 x.ls.length c2, .slice D2 x.ds.length d2', .bool true] := by rw [hW9]; exact (((((HS8.out.set_ 1 _).set_ 2 _).set_ 3 _).set_ 4 _).set_ 5 _).set_ 6 _
         rw [← hW9]
         obtain ⟨z1, z2, z3⟩ := put_last HM5.out HPC.out HB8.out HO1.out HO2.out HO3.out hf9 hB9
         unfold PutP
         rw [HPS.out]
         exact ⟨rfl, z1, z2, z3⟩
       | some y =>
         simp only [Option.getD_some, Option.isSome_some] at t1 t6
         have hyr := right_x (HPC.out.right y rfl)
         have t0 : w5.cell? ⟨sb, 0, none⟩ = some (.pointer (some ⟨p, 0, none⟩)) := HM5.out.blk.cell 0
         have HN5 := Lib.hid (SNamed_any (w := w5.drew) (HPC.out.laid.on (HM5.out.below.trans ((Below.refl _ _).drew))).here (i := y.x) (by omega) (by omega))
         obtain ⟨⟨s6, k6⟩, hrm⟩ : ∃ z, z = remove s5 (nmS y.x) := ⟨_, rfl⟩
         have HRM := Lib.hid hrm
         clear hrm
         go_upto_region 10 with fail
         clear t6
         go_cut [8] (fun v8 W => v8 = .int .i64 (k6 : Int) ∧ PtM G R B p sb w.heap.size s6 (some y) x A C D A' C' D' a c d a' c' d' w W)
         case first =>
          refine AnyZ.start (S := (fun W => W.cell? ⟨sb, 0, none⟩ = some (.pointer (some ⟨p, 0, none⟩)) ∧ W.cell? ⟨sb, 1, none⟩ = some (.int .i64 y.x))) (z := 1012) (by kernel_rfl) ?_ (fun hHeld => ?_)
          ·exact ⟨t0, t1⟩
          refine AnyZ.take (i := 0) (v := ?_) rfl (by kernel_rfl) (by kernel_rfl) (by kernel_rfl) (by kernel_rfl) (fun _ _ _ h => h) (Or.inl ⟨by kernel_rfl, ?_⟩) (by assumption) ?_
          rotate_left
          ·intro w hSw; (try dsimp only at hSw); go_simp; try with_reducible rfl
          try simp only [Act.put, List.getElem_toArray, List.getElem_cons_succ, List.getElem_cons_zero, List.setIfInBounds_toArray, List.set_cons_zero, List.set_cons_succ]
          refine AnyZ.take (i := 1) (v := ?_) rfl (by kernel_rfl) (by kernel_rfl) (by kernel_rfl) (by kernel_rfl) (fun _ _ _ h => h) (Or.inl ⟨by kernel_rfl, ?_⟩) (by assumption) ?_
          rotate_left
          ·intro w hSw; (try dsimp only at hSw); go_simp; try with_reducible rfl
          try simp only [Act.put, List.getElem_toArray, List.getElem_cons_succ, List.getElem_cons_zero, List.setIfInBounds_toArray, List.set_cons_zero, List.set_cons_succ]
          refine AnyZ.take (i := 2) (v := ?_) rfl (by kernel_rfl) (by kernel_rfl) (by kernel_rfl) (by kernel_rfl) (fun _ _ _ h => h) (Or.inl ⟨by kernel_rfl, ?_⟩) (by assumption) ?_
          rotate_left
          ·intro w hSw; (try dsimp only at hSw); go_simp; try with_reducible rfl
          try simp only [Act.put, List.getElem_toArray, List.getElem_cons_succ, List.getElem_cons_zero, List.setIfInBounds_toArray, List.set_cons_zero, List.set_cons_succ]
          refine AnyZ.take (i := 3) (v := ?_) rfl (by kernel_rfl) (by kernel_rfl) (by kernel_rfl) (by kernel_rfl) (fun _ _ _ h => h) (Or.inl ⟨by kernel_rfl, ?_⟩) (by assumption) ?_
          rotate_left
          ·intro w hSw; (try dsimp only at hSw); go_simp; try with_reducible rfl
          try simp only [Act.put, List.getElem_toArray, List.getElem_cons_succ, List.getElem_cons_zero, List.setIfInBounds_toArray, List.set_cons_zero, List.set_cons_succ]
          refine AnyZ.take (i := 4) (v := ?_) rfl (by kernel_rfl) (by kernel_rfl) (by kernel_rfl) (by kernel_rfl) (fun _ _ _ h => h) (Or.inl ⟨by kernel_rfl, ?_⟩) (by assumption) ?_
          rotate_left
          ·intro w hSw; (try dsimp only at hSw); go_simp; try with_reducible rfl
          try simp only [Act.put, List.getElem_toArray, List.getElem_cons_succ, List.getElem_cons_zero, List.setIfInBounds_toArray, List.set_cons_zero, List.set_cons_succ]
          refine AnyZ.take (i := 5) (v := ?_) rfl (by kernel_rfl) (by kernel_rfl) (by kernel_rfl) (by kernel_rfl) (fun _ _ _ h => h) (Or.inl ⟨by kernel_rfl, ?_⟩) (by assumption) ?_
          rotate_left
          ·intro w hSw; (try dsimp only at hSw); go_simp; try with_reducible rfl
          try simp only [Act.put, List.getElem_toArray, List.getElem_cons_succ, List.getElem_cons_zero, List.setIfInBounds_toArray, List.set_cons_zero, List.set_cons_succ]
          refine AnyZ.take (i := 6) (v := ?_) rfl (by kernel_rfl) (by kernel_rfl) (by kernel_rfl) (by kernel_rfl) (fun _ _ _ h => h) (Or.inl ⟨by kernel_rfl, ?_⟩) (by assumption) ?_
          rotate_left
          ·intro w hSw; (try dsimp only at hSw); go_simp; try with_reducible rfl
          try simp only [Act.put, List.getElem_toArray, List.getElem_cons_succ, List.getElem_cons_zero, List.setIfInBounds_toArray, List.set_cons_zero, List.set_cons_succ]
          refine AnyZ.take (i := 7) (v := ?_) rfl (by kernel_rfl) (by kernel_rfl) (by kernel_rfl) (by kernel_rfl) (fun _ _ _ h => h) (Or.inl ⟨by kernel_rfl, ?_⟩) (by assumption) ?_
          rotate_left
          ·intro w hSw; (try dsimp only at hSw); go_simp; try with_reducible rfl
          try simp only [Act.put, List.getElem_toArray, List.getElem_cons_succ, List.getElem_cons_zero, List.setIfInBounds_toArray, List.set_cons_zero, List.set_cons_succ]
          refine AnyZ.take (i := 8) (v := ?_) rfl (by kernel_rfl) (by kernel_rfl) (by kernel_rfl) (by kernel_rfl) (fun _ _ _ h => h) (Or.inl ⟨by kernel_rfl, ?_⟩) (by assumption) ?_
          rotate_left
          ·intro w hSw; (try dsimp only at hSw); go_simp; try with_reducible rfl
          try simp only [Act.put, List.getElem_toArray, List.getElem_cons_succ, List.getElem_cons_zero, List.setIfInBounds_toArray, List.set_cons_zero, List.set_cons_succ]
          refine AnyZ.ready (rs := [9]) (by kernel_rfl) (by simp) ?_
          refine AllZ.cons rfl (fun K hK => ?_) AllZ.nil
          go_simp
          (with_reducible refine HN5.out.mono ?_); rintro e w6 ⟨rfl, hb6⟩
          have HM6 := Lib.hid (HM5.out.low (((Below.refl _ _).drew).trans hb6))
          have HRMC := Lib.hid (X_Remove HM6.out.dx (nmBA y.x) (nmBA_sz _) (show Dsk.remove s5 (sname (nmBA y.x)) = (s6, k6) from (by rw [sname_nmBA]; exact HRM.out.symm)) rfl)
          clear hb6
          refine hK.out _ _ ?_ (fun hHeld => ?_)
          ·exact ⟨HM6.out.blk.cell 0, HM6.out.blk.cell 1⟩
          clear hK K
          try simp only [Act.put, List.getElem_toArray, List.getElem_cons_succ, List.getElem_cons_zero, List.setIfInBounds_toArray, List.set_cons_zero, List.set_cons_succ]
          refine AnyZ.ready (rs := [10]) (by kernel_rfl) (by simp) ?_
          refine AllZ.cons rfl (fun K hK => ?_) AllZ.nil
          go_simp
          (with_reducible refine HRMC.out.mono ?_); rintro e w7 ⟨rfl, hd7, hb7, hk7⟩
          have HM7 := Lib.hid (HM6.out.next hd7 hb7 hk7)
          clear hd7 hb7 hk7
          refine hK.out _ _ ?_ (fun hHeld => ?_)
          ·exact ⟨HM7.out.blk.cell 0, HM7.out.blk.cell 1⟩
          clear hK K
          try simp only [Act.put, List.getElem_toArray, List.getElem_cons_succ, List.getElem_cons_zero, List.setIfInBounds_toArray, List.set_cons_zero, List.set_cons_succ]
          refine AnyZ.take (i := 11) (v := ?_) rfl (by kernel_rfl) (by kernel_rfl) (by kernel_rfl) (by kernel_rfl) (fun _ _ _ h => h) (Or.inl ⟨by kernel_rfl, ?_⟩) (by assumption) ?_
          rotate_left
          ·intro w hSw; (try dsimp only at hSw); go_simp; try with_reducible rfl
          try simp only [Act.put, List.getElem_toArray, List.getElem_cons_succ, List.getElem_cons_zero, List.setIfInBounds_toArray, List.set_cons_zero, List.set_cons_succ]
          refine AnyZ.done (by kernel_rfl) ?_ _
          go_wp2_with fail
          go_meet
          exact ⟨rfl, HM7.out⟩
         case rest =>
          obtain ⟨rfl, hm7⟩ := hcut
          have HM7 := Lib.hid hm7
          clear hm7 t0 HN5
          by_cases hk6 : k6 = 0
          ·subst hk6
           have g1 : ((((0 : Nat) : Int)) != 0) = false := rfl
           have HPS := Lib.hid (putS_ok (s := s) HRX.out (by have := HNL.out y rfl; omega) (by rw [← HBE.out]; exact HFS.out) HRM.out.symm)
           have t6 : True := trivial
           have HCL := Lib.hid (sClone_any (a := a') (c := c') (d := d') (HM7.out.args HPC.out) (small9_of HRX.out))
           obtain ⟨d0, d1, d2, d3, d4⟩ := held5 HM7.out.box (Below.refl _ _)
           go_wp2_with fail
           clear t1 t6
           (with_reducible refine HCL.out.mono ?_); rintro e w8 ⟨v, rfl, ⟨A2, C2, D2, a2, c2, d2', rfl, o1, o2, o3⟩, hb8⟩
           have HO1 := Lib.hid o1
           have HO2 := Lib.hid o2
           have HO3 := Lib.hid o3
           have HB8 := Lib.hid hb8
           have HS8 := Lib.hid (HM7.out.blk.below hb8 HM7.out.blk.lt)
           have q1 := HS8.out.free 1
           have q2 := HS8.out.free 2
           have q3 := HS8.out.free 3
           have q4 := HS8.out.free 4
           have q5 := HS8.out.free 5
           have q6 := HS8.out.free 6
           have e1 := HS8.out.cell 1
           have e2 := HS8.out.cell 2
           have e3 := HS8.out.cell 3
           have e4 := HS8.out.cell 4
           have e5 := HS8.out.cell 5
           have e6 := HS8.out.cell 6
           clear d0 d1 d2 d3 d4 o1 o2 o3 hb8 HCL
           go_wp2_with fail
           go_ret
           obtain ⟨W9, hW9⟩ : ∃ z, z = (((((w8.setCell ⟨sb, 1, none⟩ (.int .i64 x.x)).setCell ⟨sb, 2, none⟩ (.int .i64 x.t)).setCell ⟨sb, 3, none⟩ (.slice A2 x.vs.length a2)).setCell ⟨sb, 4, none⟩ (.slice C2 x.ls.length c2)).setCell ⟨sb, 5, none⟩ (.slice D2 x.ds.length d2')).setCell ⟨sb, 6, none⟩ (.bool true) := ⟨_, rfl⟩
           have hf9 : Frm (fun g => g = sb) w8 W9 := by rw [hW9]; exact ((((((Frm.refl (fun g => g = sb) w8).setCell (p := ⟨sb, 1, none⟩) (fun _ => rfl) _).setCell (p := ⟨sb, 2, none⟩) (fun _ => rfl) _).setCell (p := ⟨sb, 3, none⟩) (fun _ => rfl) _).setCell (p := ⟨sb, 4, none⟩) (fun _ => rfl) _).setCell (p := ⟨sb, 5, none⟩) (fun _ => rfl) _).setCell (p := ⟨sb, 6, none⟩) (fun _ => rfl) _
           have hB9 : Blk W9 sb 80 #[.pointer (some ⟨p, 0, none⟩), .int .i64 x.x, .int .i64 x.t, .slice A2 x.vs.length a2, .slice C2 x.ls.length c2, .slice D2 x.ds.length d2', .bool true] := by rw [hW9]; exact (((((HS8.out.set_ 1 _).set_ 2 _).set_ 3 _).set_ 4 _).set_ 5 _).set_ 6 _
           rw [← hW9]
           obtain ⟨z1, z2, z3⟩ := put_last HM7.out HPC.out HB8.out HO1.out HO2.out HO3.out hf9 hB9
           unfold PutP
           rw [HPS.out]
           exact ⟨rfl, z1, z2, z3⟩
          ·have g1 : ((k6 : Int) != 0) = true := by rw [bne_iff_ne]; omega
           have HPS := Lib.hid (putS_rm (s := s) HRX.out (by have := HNL.out y rfl; omega) (by rw [← HBE.out]; exact HFS.out) HRM.out.symm hk6)
           go_wp2_with fail
           go_ret
           unfold PutP
           rw [HPS.out]
           exact ⟨rfl, HM7.out.stop HPC.out, HM7.out.below, HM7.out.kept⟩
      ·have g0 : ((k5 : Int) != 0) = true := by rw [bne_iff_ne]; omega
       have HPS := Lib.hid (putS_bad (s := s) (l := l) HRX.out (fun y hy => by have := HNL.out y hy; omega) (by rw [← HBE.out]; exact HFS.out) hk5)
       go_wp2_with fail
       go_ret
       unfold PutP
       rw [HPS.out]
       exact ⟨rfl, HM5.out.stop HPC.out, HM5.out.below, HM5.out.kept⟩
end Go.Proofs.YtfpomllhkbbipaaGreatDoor
namespace Go.Proofs.YtfpomllhkbbipaaGreatDoor
open Go Go.RowKit Go.Shelf Go.Sort Go.Maps Go.Lib Mem Pk Cf Dsk Go.Proofs.YtfpomllhkbbipaaGreatDoor.Nm Sto
theorem strTS : SliceT Tryz.prog 55 9 (.string ⟨#[]⟩) 16 := sliceT_mk Tryz.underlying55 rfl (by kernel_rfl)
def st (w : World) (g : Nat) : Prop := ∃ cs fr, w.heap[g]? = some (.cells cs 9 fr)
theorem slb_not {α : Type} {f : α → Value} {e : TypeId} {F : Nat → Prop} {w : World} {A : Option Addr} {xs : List α} (h : SlB f e F w A xs) (hne : e ≠ 9) : SlB f e (fun g => F g ∧ ¬ st w g) w A xs := by
 refine ⟨h.1, fun h0 => ?_⟩
 obtain ⟨b, o, cur, fr, e1, hF, hb, hc⟩ := h.2 h0
 refine ⟨b, o, cur, fr, e1, ⟨hF, fun ⟨cs, fr', h2⟩ => ?_⟩, hb, hc⟩
 rw [hb] at h2
 injection h2 with h2
 injection h2 with _ h2
 exact hne h2
theorem blk_not {w : World} {g : Nat} {t : TypeId} {cs : Array Value} (h : Blk w g t cs) (hne : t ≠ 9) : ¬ st w g := fun ⟨cs', fr, h2⟩ => by
 unfold Blk at h
 rw [h] at h2
 injection h2 with h2
 injection h2 with _ h2
 exact hne h2
section
variable {G : Nat → Prop} {B p : Nat} {s : S} {w w' : World}
theorem DX.strs (h : DX G B p s w) : DX (fun g => G g ∨ st w g) B p s w := by
 obtain ⟨mb, rs, h0⟩ := h.at_
 have hm : ¬ st w mb := fun ⟨cs, fr, h2⟩ => by
  obtain ⟨es, clock, h4, _⟩ := h0.map
  rw [h4] at h2
  cases h2
 refine ⟨⟨mb, rs, { h0 with
  inP := ⟨h0.inP.1, fun hh => hh.elim h0.inP.2 (blk_not h0.blk (by decide))⟩
  inM := ⟨h0.inM.1, fun hh => hh.elim h0.inM.2 hm⟩
  recs := fun r hr => by
   obtain ⟨r1, r2, r3, r4, r5⟩ := h0.recs r hr
   exact ⟨r1, ⟨r2.1, fun hh => hh.elim r2.2 (blk_not r1 (by decide))⟩, (slb_not r3 (by decide)).mono (fun g _ hg => ⟨hg.1.1, fun hh => hh.elim hg.1.2 hg.2⟩), (slb_not r4 (by decide)).mono (fun g _ hg => ⟨hg.1.1, fun hh => hh.elim hg.1.2 hg.2⟩), r5⟩ }⟩, h.le, fun g hg => hg.elim (h.old g) (fun ⟨_, _, h2⟩ => (Array.getElem?_eq_some_iff.1 h2).1)⟩
theorem DX.names (h : DX G B p s w) : (snames s).length ≤ 256 ∧ ∀ n ∈ snames s, n.length ≤ 16 := by
 obtain ⟨mb, rs, h0⟩ := h.at_
 refine ⟨by unfold snames; rw [List.length_map]; exact h0.count, fun n hn => ?_⟩
 unfold snames at hn
 rw [← h0.files] at hn
 obtain ⟨f, hf, rfl⟩ := List.mem_map.1 hn
 obtain ⟨r, hr, rfl⟩ := List.mem_map.1 hf
 have h1 := (h0.recs r hr).2.2.2.2.2.2.2.2.2.2
 unfold named at h1
 simp only [Bool.and_eq_true, decide_eq_true_eq] at h1
 exact h1.2
theorem DX.grown_str {base : Nat} {v : Value} {xs : List Name} {row : Option Nat} (h : DX G B p s w) (hg : w.grownBy w' v.ownBlock) (ho : Mem.Own encStr base 9 w v xs) : DX G B p s w' := by
 refine (dx_in h.strs (F := fun g => v.ownBlock = some g) ⟨hg.os, hg.tape, hg.output, hg.size, fun k hk hn => hg.block k hk (fun e => hn e.symm)⟩ (fun g e => .inr ?_)).weaken (fun g hg' => .inl hg')
 rcases ho.2 with ⟨rfl, -⟩ | ⟨g', cap, cur, rfl, -, hh, -⟩
 ·cases e
 ·have e2 : g' = g := Option.some.inj e
  subst e2
  exact ⟨_, _, hh⟩
theorem slb_apart {α β : Type} {f : α → Value} {f' : β → Value} {e e' : TypeId} {F : Nat → Prop} {base : Nat} {A : Option Addr} {v : Value} {xs : List α} {ys : List β} (h : SlB f e F w A xs) (ho : Mem.Own f' base e' w v ys) (hne : e ≠ e') (hg : w.grownBy w' v.ownBlock) : SlB f e F w' A xs := by
 refine ⟨h.1, fun h0 => ?_⟩
 obtain ⟨b, o, cur, fr, e1, hF, hb, hc⟩ := h.2 h0
 refine ⟨b, o, cur, fr, e1, hF, (hg.block b (Array.getElem?_eq_some_iff.1 hb).1 (fun e2 => ?_)).trans hb, hc⟩
 rcases ho.2 with ⟨rfl, -⟩ | ⟨g', cap, cur', rfl, -, hh, -⟩
 ·cases e2
 ·have e3 : b = g' := Option.some.inj e2
  subst e3
  rw [hb] at hh
  injection hh with hh
  injection hh with _ hh
  exact hne hh
end
namespace Sto
def isNm (n : Name) : Bool := (idxS n).isSome
theorem namesS_eq (s : S) : namesS s = (snames s).filter isNm := rfl
theorem findS_right {s : S} : ∀ {ns : List Name} {x : SnT}, findS s ns = some x → rightS x = true
 | [], _, h => by cases h
 | n :: r, x, h => by
   rw [findS_cons] at h
   cases hc : cand s n with
   | none => rw [hc] at h; exact findS_right h
   | some y =>
     rw [hc] at h
     obtain rfl := Option.some.inj h
     unfold cand at hc
     cases hr : readS (read s n).1 with
     | none => rw [hr] at hc; cases hc
     | some z =>
       rw [hr] at hc
       simp only at hc
       split at hc
       ·obtain rfl := Option.some.inj hc
        exact (readS_iff.1 hr).1
       ·cases hc
theorem openS_down {s : S} (h : s.down = true) : openS s = (s, none, 50) := by unfold openS; rw [if_pos h]
theorem openS_is {s : S} {f : Option SnT} {s' : S} {k : Nat} (h : s.down = false) (hf : findS s (namesS s).reverse = f) (hr : rmAll s (goneS s f) = (s', k)) : openS s = (s', f, k) := by
 unfold openS; rw [if_neg (by rw [h]; exact Bool.false_ne_true)]; simp only; rw [hf, hr]
end Sto
theorem other_idx {f : Option SnT} {x : Name} {i : Nat} (hi : idxS x = some i) : other f x = (!f.isSome || ((i : Int) != (f.getD zS).x)) := by
 cases f with
 | none => rfl
 | some y =>
   unfold other
   simp only [Option.isSome_some, Option.getD_some, Bool.not_true, Bool.false_or]
   rw [hi]
   simp only [Option.map_some]
   by_cases h9 : (i : Int) = y.x
   ·have h8 : ((i : Int) != y.x) = false := by simpa using h9
    have h7 : decide (some (Int.ofNat i) = some y.x) = true := decide_eq_true (by rw [← h9]; rfl)
    rw [h8, h7]; rfl
   ·have h8 : ((i : Int) != y.x) = true := by simpa using h9
    have h7 : decide (some (Int.ofNat i) = some y.x) = false := decide_eq_false (fun h => h9 (Option.some.inj h))
    rw [h8, h7]; rfl
def N1Rel (xs : List Name) (w1 : World) (ov iv : Value) (W : World) : Prop :=
 ∃ k : Nat, k ≤ xs.length ∧ iv = .int .i64 k ∧ Mem.Own encStr w1.heap.size 9 W ov ((xs.take k).filter isNm) ∧ Below w1.heap.size w1 W
def SOpenP (G : Nat → Prop) (B p : Nat) (s : S) (w : World) (e : Ending) (w' : World) : Prop :=
 Below B w w' ∧ Kept G w w' ∧
 ((openS s).2.2 ≠ 0 → e = .returned (.tuple #[.pointer none, .int .i64 ((openS s).2.2 : Int)]) ∧ DX G B p (openS s).1 w') ∧
 ((openS s).2.2 = 0 → ∃ sb, e = .returned (.tuple #[.pointer (some ⟨sb, 0, none⟩), .int .i64 0]) ∧ StAt G B p sb (openS s).1 (openS s).2.1 w')
theorem idx_any {B : Nat} {w : World} (hl : LaidB B w) (hB : B ≤ w.heap.size) (n : Name) (hn : n.length ≤ 16) :
 Calls Tryz.prog 28 #[.string ⟨n.toArray⟩] w fun e w' => (∃ v : Int, e = .returned (.tuple #[.int .i64 v, .bool (isNm n)]) ∧ ∀ i, idxS n = some i → v = (i : Int)) ∧ Below w.heap.size w w' := by
 have hsn : sname ⟨n.toArray⟩ = n := by unfold sname; simp
 have hsz : (⟨n.toArray⟩ : ByteArray).size = n.length := by simp [ByteArray.size]
 have h := SIndex_any hl hB ⟨n.toArray⟩ (by omega)
 unfold SIxP at h
 rw [hsn] at h
 exact h
theorem fnd_uni {f : Option SnT} {w w' : World} {e : Ending} (h : FndP f w e w') : ∃ A C D a c d, e = .returned (.tuple #[.agg #[.int .i64 (f.getD zS).x, .int .i64 (f.getD zS).t, .slice A (f.getD zS).vs.length a, .slice C (f.getD zS).ls.length c, .slice D (f.getD zS).ds.length d], .bool f.isSome]) ∧
 RowsAt (fun g => w.heap.size ≤ g ∧ g < w'.heap.size) w' (f.getD zS) A C D ∧ Below w.heap.size w w' := by
 obtain ⟨h1, h2, h3⟩ := h
 cases f with
 | none => exact ⟨none, none, none, 0, 0, 0, h2 rfl, ⟨SlB.nil, SlB.nil, SlB.nil⟩, h1⟩
 | some x =>
   obtain ⟨A, C, D, a, c, d, he, o1, o2, o3⟩ := h3 x rfl
   exact ⟨A, C, D, a, c, d, he, (⟨(SlB.of_own o1).2, (SlB.of_own o2).2, (SlB.of_own o3).2⟩ : RowsAt (fun g => w.heap.size ≤ g) w' x A C D).mono (fun g hl hg => ⟨hg, hl⟩), h1⟩
theorem St0.grown {G R : Nat → Prop} {B p sb : Nat} {s : S} {l : Option SnT} {A C D : Option Addr} {a c d : Nat} {w w' : World} {base : Nat} {v : Value} {xs : List Name} (h : St0 G R B p sb s l A C D a c d w) (hg : w.grownBy w' v.ownBlock) (ho : Mem.Own encStr base 9 w v xs) : St0 G R B p sb s l A C D a c d w' :=
 ⟨h.dx.grown_str (row := none) hg ho, h.blk.apart ho (by decide) hg, ⟨slb_apart h.rows.v ho (by decide) hg, slb_apart h.rows.l ho (by decide) hg, slb_apart h.rows.d ho (by decide) hg⟩, h.big, h.notG, h.right⟩
def N2Rel (G R : Nat → Prop) (B p sb : Nat) (s : S) (f : Option SnT) (A C D : Option Addr) (a c d : Nat) (ns g0 : List Name) (wG : World) (gv iv : Value) (W : World) : Prop :=
 ∃ k : Nat, k ≤ ns.length ∧ iv = .int .i64 k ∧ Mem.Own encStr wG.heap.size 9 W gv (g0 ++ (ns.take k).filter (other f)) ∧ Below wG.heap.size wG W ∧ St0 G R B p sb s f A C D a c d W
def N3Rel (G3 : Nat → Prop) (B p : Nat) (s : S) (gs : List Name) (wR : World) (iv : Value) (W : World) : Prop :=
 ∃ k : Nat, k ≤ gs.length ∧ iv = .int .i64 k ∧ ∃ sk, Hid (rmAll s gs = rmAll sk (gs.drop k)) ∧ DX G3 B p sk W ∧ Below B wR W ∧ Kept G3 wR W
set_option maxRecDepth 100000 in
set_option maxHeartbeats 8000000 in
theorem sOpen_any {G : Nat → Prop} {B p : Nat} {s : S} {w : World} (hx : DX G B p s w) (hla : LaidB B w) :
 Calls Tryz.prog 9 #[.pointer (some ⟨p, 0, none⟩)] w (SOpenP G B p s w) := by
 have HX := Lib.hid hx
 have HLA := Lib.hid hla
 cases hdn : s.down with
 | true =>
   have HD := Lib.hid (L_Down hx.drop hdn)
   have HO := Lib.hid (openS_down hdn)
   clear hx hdn hla
   go_enter Tryz.func9, Tryz.ntmps9
   go_wp2_with fail
   (with_reducible refine HD.out.mono ?_); rintro e w' ⟨rfl, rfl⟩
   go_wp2_with fail
   go_ret2
   unfold SOpenP
   rw [HO.out]
   exact ⟨Below.refl _ _, fun _ _ => rfl, fun _ => ⟨rfl, HX.out⟩, fun h => by simp at h⟩
 | false =>
   obtain ⟨hnc, hnl⟩ := hx.names
   have HD := Lib.hid (L_Down hx.drop hdn)
   have HDN := Lib.hid hdn
   have HNM := Lib.hid (L_Names hx.drop)
   have HNL := Lib.hid hnl
   obtain ⟨xs, hxs⟩ : ∃ z, z = snames s := ⟨_, rfl⟩
   rw [← hxs] at HNM HNL hnc
   have HXS := Lib.hid hxs
   clear hx hdn hla hxs hnl
   go_enter Tryz.func9, Tryz.ntmps9
   go_wp2_with fail
   (with_reducible refine HD.out.mono ?_); rintro e w' ⟨rfl, rfl⟩
   go_wp2_with fail
   (with_reducible refine HNM.out.mono ?_); rintro e w1 ⟨A1, c1, rfl, hs1, -, hb1⟩
   have HS1 := Lib.hid hs1
   have HB1 := Lib.hid hb1
   have HX1 := Lib.hid (HX.out.below hb1)
   have HL1 := Lib.hid (HLA.out.on (hb1.mono HX.out.le))
   clear hs1 hb1 HD HNM
   go_wp2_with fail
   go_loopw [4, 23] (fun ov iv wr => N1Rel xs w1 ov iv wr) (fun _ iv _ => xs.length - (intOf iv).toNat)
   case atStart => exact ⟨0, Nat.zero_le _, rfl, Own.nil, Below.refl _ _⟩
   case round =>
    obtain ⟨k, hk, rfl, hown, hbw⟩ := hrel
    have HOWN := Lib.hid hown
    have HBW := Lib.hid hbw
    clear hown hbw
    by_cases hlt : k < xs.length
    ·obtain ⟨b, o, rfl, _, hc⟩ := (HS1.out.sl.below HBW.out).at hlt
     have ck := hc k hlt
     obtain ⟨x, hxe⟩ : ∃ x, x = xs[k] := ⟨_, rfl⟩
     rw [← hxe] at ck
     have ck : wr.cell? ⟨b, o + k, none⟩ = some (.string ⟨x.toArray⟩) := ck
     have hxm : x ∈ xs := by rw [hxe]; exact List.getElem_mem hlt
     have hx16 := HNL.out x hxm
     have HTK : Hid ((xs.take (k + 1)).filter isNm = (xs.take k).filter isNm ++ (if isNm x then [x] else [])) := Lib.hid (by
      rw [List.take_succ_eq_append_getElem hlt, List.filter_append, ← hxe]
      cases h9 : isNm x <;> simp [h9])
     have hle1 := HX1.out.le
     have hwz := HBW.out.size
     have HIX := Lib.hid (idx_any (HL1.out.on (HBW.out.mono hle1)) (Nat.le_trans hle1 hwz) x hx16)
     have HLK : Hid (((xs.take k).filter isNm).length ≤ 256) := Lib.hid (Nat.le_trans (List.length_filter_le _ _) (by rw [List.length_take]; omega))
     have HLT := Lib.hid hlt
     clear hc hxe hxm hx16 hle1 hwz
     obtain ⟨q, hq⟩ : ∃ z, z = isNm x := ⟨_, rfl⟩
     rw [← hq] at HIX HTK
     clear hq
     have hk0 : (0 : Int) ≤ (k : Int) := by omega
     have hk1 : (k : Int) < (xs.length : Int) := by omega
     go_wp2_with fail
     (with_reducible refine HIX.out.mono ?_); rintro e w3 ⟨⟨v, rfl, -⟩, hb3⟩
     have HB3 : Hid (Below w1.heap.size w1 w3) := Lib.hid (HBW.out.trans (hb3.mono HBW.out.size))
     have HO3 := Lib.hid (HOWN.out.below hb3)
     clear hb3 HIX
     cases q with
     | true =>
       have hz3 := HB3.out.size
       go_wp2_with (at_builtin; refine wpList_append1 (f := encStr) rfl (.tmp 33) (.tmp 35) 55 rfl strTS x rfl rfl HO3.out rfl rfl (by have h9 := HLK.out; unfold maxLen; exact Nat.le_trans (Nat.succ_le_succ h9) (by decide)) (by have h9 := HLK.out; omega) hz3 ?_; intro v4 w4 ho4 hb4)
       go_roundw
       case rel => exact ⟨k + 1, HLT.out, by go_num, by rw [HTK.out]; exact ho4, HB3.out.trans hb4⟩
       case measure => simp [intOf]; have := HLT.out; omega
     | false =>
       go_wp2_with fail
       go_roundw
       case rel => exact ⟨k + 1, HLT.out, by go_num, by rw [HTK.out, show (if false = true then [x] else []) = ([] : List Name) from rfl, List.append_nil]; exact HO3.out, HB3.out⟩
       case measure => simp [intOf]; have := HLT.out; omega
    ·have hke : k = xs.length := by omega
     subst hke
     rw [List.take_length] at HOWN
     obtain ⟨A4, c4, rfl⟩ := HOWN.out.form
     obtain ⟨ns, hns⟩ : ∃ z, z = xs.filter isNm := ⟨_, rfl⟩
     rw [← hns] at HOWN
     rw [← hns]
     have HNS := Lib.hid hns
     have HXR := Lib.hid (HX1.out.below HBW.out)
     have hnsl : ns.length ≤ 256 := by rw [hns]; exact Nat.le_trans (List.length_filter_le _ _) hnc
     have HNS16 : Hid (∀ n ∈ ns, n ∈ xs ∧ isNm n = true) := Lib.hid (fun n hn => by rw [hns] at hn; exact List.mem_filter.1 hn)
     have HNM2 := Lib.hid (L_Names HXR.out.drop)
     rw [← HXS.out] at HNM2
     clear hns
     go_wp2_with fail
     (with_reducible refine HNM2.out.mono ?_); rintro e wG ⟨A5, c5, rfl, hs5, -, hb5⟩
     have HBG := Lib.hid hb5
     have HCO : Hid (Calls Tryz.prog 29 #[.slice A5 xs.length c5, .string ⟨#[115, 110, 97, 112, 46, 116, 109, 112]⟩] wG fun e w' => e = .returned (.bool (decide (nmT ∈ xs))) ∧ wG = w') := Lib.hid (ContainsS_any A5 c5 xs ⟨#[115, 110, 97, 112, 46, 116, 109, 112]⟩ wG hs5)
     have HXG := Lib.hid (HXR.out.below hb5)
     have HLG := Lib.hid (HL1.out.on ((HBW.out.mono HX1.out.le).trans (hb5.mono HXR.out.le)))
     have HNG : Hid (SlB encStr 9 (fun g => g < wG.heap.size) wG A4 ns) := Lib.hid (((SlB.of_own HOWN.out).2.below hb5).mono (fun g hl _ => hl))
     have HWG : Hid (Below w.heap.size w wG) := Lib.hid (HB1.out.trans ((HBW.out.trans (hb5.mono HBW.out.size)).mono HB1.out.size))
     clear hs5 hb5 HNM2
     obtain ⟨q, hq⟩ : ∃ z, z = decide (nmT ∈ xs) := ⟨_, rfl⟩
     rw [← hq] at HCO
     obtain ⟨g0, hg0⟩ : ∃ z : List Name, z = if q then [nmT] else [] := ⟨_, rfl⟩
     have HG0 : Hid (g0 = if nmT ∈ xs then [nmT] else []) := Lib.hid (by rw [hg0, hq]; simp)
     have hg0l : g0.length ≤ 1 := by rw [hg0]; split <;> simp
     clear hq
     go_wp2_with fail
     (with_reducible refine HCO.out.mono ?_); rintro e w' ⟨rfl, rfl⟩
     go_upto_if 40 with fail
     go_cut [9] (fun gv W => Mem.Own encStr wG.heap.size 9 W gv g0 ∧ Below wG.heap.size wG W)
     case first =>
      cases q with
      | true =>
        have hb0 : Below wG.heap.size wG wG := Below.refl _ _
        go_wp2_with (at_builtin; refine wpList_append1 (f := encStr) (base := wG.heap.size) (xs := []) rfl (.tmp 41) (.tmp 42) 55 rfl strTS nmT rfl rfl Own.nil rfl rfl (by unfold maxLen; decide) (by decide) (Nat.le_refl _) ?_; intro v4 w4 ho4 hb4)
        go_meet
        exact ⟨by rw [hg0]; exact ho4, hb4⟩
      | false =>
        go_wp2_with fail
        go_meet
        exact ⟨by rw [hg0]; exact Own.nil, Below.refl _ _⟩
     case rest =>
      obtain ⟨hog, hbg⟩ := hcut
      have HOG := Lib.hid hog
      have HBGW := Lib.hid hbg
      clear hog hbg hg0 HCO
      go_upto_region 15 with fail
      obtain ⟨w6, hw6⟩ : ∃ z, z = wc.alloc (.cells #[.pointer (some ⟨p, 0, none⟩), .int .i64 0, .int .i64 0, .slice none 0 0, .slice none 0 0, .slice none 0 0, .bool false] 80) := ⟨_, rfl⟩
      rw [← hw6]
      have hb6 : Below wc.heap.size wc w6 := by rw [hw6]; exact (Below.refl _ _).alloc (Nat.le_refl _) _
      have hS6 : Blk w6 wc.heap.size 80 #[.pointer (some ⟨p, 0, none⟩), .int .i64 0, .int .i64 0, .slice none 0 0, .slice none 0 0, .slice none 0 0, .bool false] := by rw [hw6]; exact Blk.new_ wc _ _
      have hz6 : w6.heap.size = wc.heap.size + 1 := by rw [hw6, World.size_alloc]
      have hG6 : Below wG.heap.size wG w6 := HBGW.out.trans (hb6.mono HBGW.out.size)
      have hx6 := HXG.out.below hG6
      have HX6S : Hid (DX (fun g => G g ∨ g = wc.heap.size) B p s w6) := Lib.hid ((HXG.out.below HBGW.out).protect hb6 (fun g e => by omega))
      have hn6 : SlB encStr 9 (fun g => g < wG.heap.size) w6 A4 ns := HNG.out.keep (fun g _ _ hg _ => hG6.block g hg)
      have hl6 : LaidB B w6 := HLG.out.on (hG6.mono HXG.out.le)
      have HFD := Lib.hid (sFind_any (c := c4) hl6 hx6 hn6 (by omega) (fun n hn => Nat.le_trans (HNL.out n (HNS16.out n hn).1) (by decide)) (fun n hn => by
       have h9 := (HNS16.out n hn).2
       unfold isNm at h9
       exact Option.isSome_iff_exists.1 h9))
      obtain ⟨f, hf⟩ : ∃ z, z = findS s ns.reverse := ⟨_, rfl⟩
      rw [← hf] at HFD
      have HF : Hid (findS s (namesS s).reverse = f) := Lib.hid (by rw [namesS_eq, ← HXS.out, ← HNS.out, ← hf])
      have HS6 := Lib.hid hS6
      have HB6 := Lib.hid hb6
      have HZ6 := Lib.hid hz6
      have HG6 := Lib.hid hG6
      have HX6 := Lib.hid hx6
      have HO6 := Lib.hid (HOG.out.below hb6)
      clear hw6 hb6 hS6 hz6 hG6 hx6 hn6 hl6 hf HOG
      obtain ⟨sb, hsb⟩ : ∃ z, z = wc.heap.size := ⟨_, rfl⟩
      rw [← hsb] at HS6 HZ6 HX6S ⊢
      have HSB := Lib.hid hsb
      clear hsb
      go_wp2_with fail
      (with_reducible refine HFD.out.mono ?_); rintro e w7 hfd
      obtain ⟨A, C, D, a, c, d, rfl, hro, hb7⟩ := fnd_uni hfd
      have HR7 := Lib.hid hro
      have HB7 := Lib.hid hb7
      have HS7 := Lib.hid (HS6.out.below hb7 HS6.out.lt)
      have q1 := HS7.out.free 1
      have q2 := HS7.out.free 2
      have q3 := HS7.out.free 3
      have q4 := HS7.out.free 4
      have q5 := HS7.out.free 5
      have q6 := HS7.out.free 6
      have e1 := HS7.out.cell 1
      have e2 := HS7.out.cell 2
      have e3 := HS7.out.cell 3
      have e4 := HS7.out.cell 4
      have e5 := HS7.out.cell 5
      have e6 := HS7.out.cell 6
      clear hro hb7 hfd HFD
      go_wp2_with fail
      obtain ⟨W9, hW9⟩ : ∃ z, z = (((((w7.setCell ⟨sb, 1, none⟩ (.int .i64 (f.getD zS).x)).setCell ⟨sb, 2, none⟩ (.int .i64 (f.getD zS).t)).setCell ⟨sb, 3, none⟩ (.slice A (f.getD zS).vs.length a)).setCell ⟨sb, 4, none⟩ (.slice C (f.getD zS).ls.length c)).setCell ⟨sb, 5, none⟩ (.slice D (f.getD zS).ds.length d)).setCell ⟨sb, 6, none⟩ (.bool f.isSome) := ⟨_, rfl⟩
      have hf9 : Frm (fun g => g = sb) w7 W9 := by rw [hW9]; exact ((((((Frm.refl (fun g => g = sb) w7).setCell (p := ⟨sb, 1, none⟩) (fun _ => rfl) _).setCell (p := ⟨sb, 2, none⟩) (fun _ => rfl) _).setCell (p := ⟨sb, 3, none⟩) (fun _ => rfl) _).setCell (p := ⟨sb, 4, none⟩) (fun _ => rfl) _).setCell (p := ⟨sb, 5, none⟩) (fun _ => rfl) _).setCell (p := ⟨sb, 6, none⟩) (fun _ => rfl) _
      have hB9 : Blk W9 sb 80 #[.pointer (some ⟨p, 0, none⟩), .int .i64 (f.getD zS).x, .int .i64 (f.getD zS).t, .slice A (f.getD zS).vs.length a, .slice C (f.getD zS).ls.length c, .slice D (f.getD zS).ds.length d, .bool f.isSome] := by rw [hW9]; exact (((((HS7.out.set_ 1 _).set_ 2 _).set_ 3 _).set_ 4 _).set_ 5 _).set_ 6 _
      have HW9 := Lib.hid hW9
      rw [← hW9]
      have hsw := HSB.out
      have hz6 := HZ6.out
      have hgz := HBGW.out.size
      have hR9 : RowsAt (fun g => w6.heap.size ≤ g ∧ g < w7.heap.size) W9 (f.getD zS) A C D := HR7.out.same (fun g hl hg => hf9.block g hl (fun e => by omega))
      have hst : St0 G (fun g => w6.heap.size ≤ g ∧ g < w7.heap.size) B p sb s f A C D a c d W9 := by
       refine ⟨(dx_in (HX6S.out.protect HB7.out (G2 := fun g => w6.heap.size ≤ g ∧ g < w7.heap.size) (fun g hg => hg)) hf9 (fun g e => .inl (.inr e))).weaken (fun g hg => ?_), hB9, hR9, ?_, ?_, ?_⟩
       ·rcases hg with (hg | hg) | hg
        ·exact .inl (.inl hg)
        ·exact .inr hg
        ·exact .inl (.inr hg)
       ·have := HXG.out.le; omega
       ·intro hg
        have h9 := HXG.out.old _ hg
        omega
       ·intro y hy
        rw [hy] at HF
        exact findS_right HF.out
      have hog9 := own_frmT (HO6.out.below HB7.out) HS7.out (by decide) hf9
      have hb9 : Below wG.heap.size wG W9 := (HG6.out.trans (HB7.out.mono HG6.out.size)).trans (hf9.to_below (fun k _ h1 h2 => by omega) (by have := HB7.out.size; omega))
      obtain ⟨R, hRe⟩ : ∃ z : Nat → Prop, z = fun g => w6.heap.size ≤ g ∧ g < w7.heap.size := ⟨_, rfl⟩
      rw [← hRe] at hst
      have HST := Lib.hid hst
      have HOG := Lib.hid hog9
      have HB9 := Lib.hid hb9
      clear hsw hz6 hgz hR9 hst hog9 hb9 hRe hB9 hf9 hW9 HW9 q1 q2 q3 q4 q5 q6 e1 e2 e3 e4 e5 e6 HO6 HS6 HX6 HX6S HR7 HS7
      go_loopw [9, 61] (fun gv iv wr => N2Rel G R B p sb s f A C D a c d ns g0 wG gv iv wr) (fun _ iv _ => ns.length - (intOf iv).toNat)
      case atStart => exact ⟨0, Nat.zero_le _, rfl, by rw [List.take_zero, List.filter_nil, List.append_nil]; exact HOG.out, HB9.out, HST.out⟩
      case round =>
       obtain ⟨k, hk, rfl, hown, hbw, hst⟩ := hrel
       have HOWM := Lib.hid hown
       have HBV := Lib.hid hbw
       have HSR := Lib.hid hst
       clear hown hbw hst
       by_cases hlt : k < ns.length
       ·obtain ⟨b, o, rfl, _, hc⟩ := (HNG.out.keep (fun g _ _ hg _ => HBV.out.block g hg) : SlB encStr 9 (fun g => g < wG.heap.size) wr A4 ns).sl.at hlt
        have ck := hc k hlt
        obtain ⟨x, hxe⟩ : ∃ x, x = ns[k] := ⟨_, rfl⟩
        rw [← hxe] at ck
        have ck : wr.cell? ⟨b, o + k, none⟩ = some (.string ⟨x.toArray⟩) := ck
        have hxm : x ∈ ns := by rw [hxe]; exact List.getElem_mem hlt
        obtain ⟨hx1, hx2⟩ := HNS16.out x hxm
        have hx16 := HNL.out x hx1
        obtain ⟨i, hi⟩ : ∃ i, idxS x = some i := Option.isSome_iff_exists.1 hx2
        have HI := Lib.hid hi
        have HTK : Hid (g0 ++ (ns.take (k + 1)).filter (other f) = (g0 ++ (ns.take k).filter (other f)) ++ (if other f x then [x] else [])) := Lib.hid (by
         rw [List.take_succ_eq_append_getElem hlt, List.filter_append, ← hxe, List.append_assoc]
         cases h9 : other f x <;> simp [h9])
        have HIX := Lib.hid (idx_any (HLG.out.on (HBV.out.mono HXG.out.le)) (Nat.le_trans HXG.out.le HBV.out.size) x hx16)
        have HLK : Hid ((g0 ++ (ns.take k).filter (other f)).length ≤ 257) := Lib.hid (by
         have h9 := List.length_filter_le (other f) (ns.take k)
         rw [List.length_take] at h9
         rw [List.length_append]; omega)
        have HLT := Lib.hid hlt
        clear hc hxe hxm hx1 hx16 hi hx2
        have hk0 : (0 : Int) ≤ (k : Int) := by omega
        have hk1 : (k : Int) < (ns.length : Int) := by omega
        go_wp2_with fail
        (with_reducible refine HIX.out.mono ?_); rintro e w3 ⟨⟨v, rfl, hv⟩, hb3⟩
        have hvi : v = (i : Int) := hv i HI.out
        subst hvi
        have HB3 : Hid (Below wG.heap.size wG w3) := Lib.hid (HBV.out.trans (hb3.mono HBV.out.size))
        have HO3 := Lib.hid (HOWM.out.below hb3)
        have HS3 := Lib.hid (HSR.out.below hb3)
        have e1 : w3.cell? ⟨sb, 1, none⟩ = some (.int .i64 (f.getD zS).x) := HS3.out.blk.cell 1
        have e6 : w3.cell? ⟨sb, 6, none⟩ = some (.bool f.isSome) := HS3.out.blk.cell 6
        clear hb3 HIX hv
        have hz3 := HB3.out.size
        have hoth : other f x = (!f.isSome || ((i : Int) != (f.getD zS).x)) := other_idx HI.out
        have HOTH := Lib.hid hoth
        clear hoth
        obtain ⟨q2, hq2⟩ : ∃ z, z = other f x := ⟨_, rfl⟩
        rw [← hq2] at HTK
        have HQ2 := Lib.hid hq2
        clear hq2
        rcases Bool.eq_false_or_eq_true f.isSome with hb | hb
        ·rw [hb] at e6
         have h9 : q2 = ((i : Int) != (f.getD zS).x) := by have h9 := HOTH.out; rw [← HQ2.out, hb] at h9; exact h9
         clear hb
         cases q2 with
         | true =>
           have t1 : ((i : Int) != (f.getD zS).x) = true := h9.symm
           clear h9
           go_wp2_with (at_builtin; refine wpList_append1t (f := encStr) rfl (.tmp 84) (.tmp 86) 55 rfl strTS x rfl rfl HO3.out rfl rfl (by have h9 := HLK.out; unfold maxLen; exact Nat.le_trans (Nat.succ_le_succ h9) (by decide)) (by have h9 := HLK.out; omega) hz3 ?_; intro v4 w4 ho4 hg4; have hz4 : Below wG.heap.size wG w4 := ((HB3.out.alloc hz3 _).grown hg4 (by rw [World.size_alloc]; omega) (fun k' e' => (HO3.out.lt k' e').1)); have hs4 := (HS3.out.below ((Below.refl _ _).alloc (Nat.le_refl _) (.cells #[encStr x] 9))).grown hg4 (HO3.out.alloc _))
           go_roundw
           case rel => exact ⟨k + 1, HLT.out, by go_num, by rw [HTK.out]; exact ho4, hz4, hs4⟩
           case measure => simp [intOf]; have := HLT.out; omega
         | false =>
           have t1 : ((i : Int) != (f.getD zS).x) = false := h9.symm
           clear h9
           go_wp2_with fail
           go_roundw
           case rel => exact ⟨k + 1, HLT.out, by go_num, by rw [HTK.out, show (if false = true then [x] else []) = ([] : List Name) from rfl, List.append_nil]; exact HO3.out, HB3.out, HS3.out⟩
           case measure => simp [intOf]; have := HLT.out; omega
        ·rw [hb] at e6
         have h9 : q2 = true := by have h9 := HOTH.out; rw [← HQ2.out, hb] at h9; exact h9
         subst h9
         clear hb
         go_wp2_with (at_builtin; refine wpList_append1t (f := encStr) rfl (.tmp 84) (.tmp 86) 55 rfl strTS x rfl rfl HO3.out rfl rfl (by have h9 := HLK.out; unfold maxLen; exact Nat.le_trans (Nat.succ_le_succ h9) (by decide)) (by have h9 := HLK.out; omega) hz3 ?_; intro v4 w4 ho4 hg4; have hz4 : Below wG.heap.size wG w4 := ((HB3.out.alloc hz3 _).grown hg4 (by rw [World.size_alloc]; omega) (fun k' e' => (HO3.out.lt k' e').1)); have hs4 := (HS3.out.below ((Below.refl _ _).alloc (Nat.le_refl _) (.cells #[encStr x] 9))).grown hg4 (HO3.out.alloc _))
         go_roundw
         case rel => exact ⟨k + 1, HLT.out, by go_num, by rw [HTK.out]; exact ho4, hz4, hs4⟩
         case measure => simp [intOf]; have := HLT.out; omega
       ·have hke : k = ns.length := by omega
        subst hke
        rw [List.take_length] at HOWM
        obtain ⟨AG, cG, rfl⟩ := HOWM.out.form
        have HGE : Hid (goneS s f = g0 ++ ns.filter (other f)) := Lib.hid (by unfold goneS; rw [namesS_eq, ← HXS.out, ← HNS.out, ← HG0.out])
        obtain ⟨gs, hgs⟩ : ∃ z, z = g0 ++ ns.filter (other f) := ⟨_, rfl⟩
        rw [← hgs] at HOWM HGE ⊢
        have hg16 : ∀ n ∈ gs, n.length ≤ 16 := by
         intro n hn
         rw [hgs] at hn
         rcases List.mem_append.1 hn with hn | hn
         ·have h9 := HG0.out
          rw [h9] at hn
          split at hn
          ·simp at hn; subst hn; decide
          ·cases hn
         ·exact HNL.out n (HNS16.out n (List.mem_filter.1 hn).1).1
        have HG16 := Lib.hid hg16
        have hgl : SlB encStr 9 (fun g => st wr g) wr AG gs := by
         have h9 := (SlB.of_own HOWM.out).2
         refine ⟨h9.1, fun h0 => ?_⟩
         obtain ⟨b', o', cur, fr, e1', _, hb', hc'⟩ := h9.2 h0
         exact ⟨b', o', cur, fr, e1', ⟨_, _, hb'⟩, hb', hc'⟩
        have HGL := Lib.hid hgl
        have hgn : gs.length ≤ 257 := by
         have h9 := List.length_filter_le (other f) ns
         rw [hgs, List.length_append]; omega
        have HBR : Hid (Below B w wr) := Lib.hid ((HWG.out.mono HX.out.le).trans (HBV.out.mono HXG.out.le))
        have HKR : Hid (Kept G w wr) := Lib.hid (kept_trans (kept_below HX.out.old HWG.out) (kept_below HXG.out.old HBV.out))
        obtain ⟨wR, hwR⟩ : ∃ z, z = wr := ⟨_, rfl⟩
        rw [← hwR] at HGL HBR HKR HSR ⊢
        have HXT := Lib.hid HSR.out.dx.strs
        clear hgs hg16 hgl hwR
        go_wp2_with fail
        go_loopw [91] (fun iv wr => N3Rel (fun g => ((G g ∨ R g) ∨ g = sb) ∨ st wR g) B p s gs wR iv wr) (fun iv _ => gs.length - (intOf iv).toNat)
        case atStart => exact ⟨0, Nat.zero_le _, rfl, s, Lib.hid rfl, HXT.out, (Below.refl _ _), fun _ _ => rfl⟩
        case round =>
         obtain ⟨j, hj, rfl, sk, HRA, hdk, hbk, hkk⟩ := hrel
         have HDK := Lib.hid hdk
         have HBK := Lib.hid hbk
         have HKK := Lib.hid hkk
         clear hdk hbk hkk
         by_cases hjt : j < gs.length
         ·have hgr := HGL.out.kept HKK.out (fun g hg => .inr hg)
          obtain ⟨x, hxe⟩ : ∃ x, x = gs[j] := ⟨_, rfl⟩
          obtain ⟨b, o, hAG, _, hc⟩ := hgr.sl.at hjt
          have ck := hc j hjt
          rw [← hxe] at ck
          have ck : wr.cell? ⟨b, o + j, none⟩ = some (.string ⟨x.toArray⟩) := ck
          have hxm : x ∈ gs := by rw [hxe]; exact List.getElem_mem hjt
          have hx16 := HG16.out x hxm
          have hsn : sname ⟨x.toArray⟩ = x := by unfold sname; simp
          obtain ⟨⟨s', kc⟩, hrm⟩ : ∃ z, z = remove sk x := ⟨_, rfl⟩
          have hxz : (⟨x.toArray⟩ : ByteArray).size ≤ maxLen := by
           have h9 : (⟨x.toArray⟩ : ByteArray).size = x.length := by simp [ByteArray.size]
           rw [h9]; unfold maxLen; omega
          have HRM := Lib.hid (X_Remove HDK.out ⟨x.toArray⟩ hxz (show Dsk.remove sk (sname ⟨x.toArray⟩) = (s', kc) from (by rw [hsn]; exact hrm.symm)) rfl)
          have HDR : Hid (rmAll sk (gs.drop j) = if kc = 0 then rmAll s' (gs.drop (j + 1)) else (s', kc)) := Lib.hid (by
           rw [List.drop_eq_getElem_cons hjt, ← hxe]
           show (if (remove sk x).2 = 0 then rmAll (remove sk x).1 (gs.drop (j + 1)) else remove sk x) = _
           rw [← hrm])
          have HJT := Lib.hid hjt
          have hj0 : (0 : Int) ≤ (j : Int) := by omega
          have hj1 : (j : Int) < (gs.length : Int) := by omega
          rw [hAG]
          clear hgr hc hxe hxm hx16 hsn hrm hjt hxz
          go_wp2_with fail
          (with_reducible refine HRM.out.mono ?_); rintro e w8 ⟨rfl, hd8, hb8, hk8⟩
          have HD8 := Lib.hid hd8
          have HB8 : Hid (Below B wR w8) := Lib.hid (HBK.out.trans hb8)
          have HK8 := Lib.hid (kept_trans HKK.out hk8)
          clear hd8 hb8 hk8 HRM
          by_cases hkc : kc = 0
          ·subst hkc
           have g1 : ((((0 : Nat) : Int)) != 0) = false := rfl
           go_wp2_with fail
           go_roundw
           case rel => exact ⟨j + 1, HJT.out, by go_num, s', Lib.hid (by rw [HRA.out, HDR.out]; simp), HD8.out, HB8.out, HK8.out⟩
           case measure => simp [intOf]; have := HJT.out; omega
          ·have g1 : ((kc : Int) != 0) = true := by rw [bne_iff_ne]; omega
           have HO := Lib.hid (openS_is HDN.out HF.out (by rw [HGE.out, HRA.out, HDR.out, if_neg hkc]))
           have HKC := Lib.hid hkc
           clear hkc
           go_wp2_with fail
           go_ret2
           unfold SOpenP
           rw [HO.out]
           exact ⟨HBR.out.trans HB8.out, kept_trans HKR.out (fun g hg => HK8.out g (.inl (.inl (.inl hg)))), fun _ => ⟨rfl, HD8.out.weaken (fun g hg => .inl (.inl (.inl hg)))⟩, fun h => absurd h HKC.out⟩
         ·have hje : j = gs.length := by omega
          subst hje
          have HO := Lib.hid (openS_is (k := 0) HDN.out HF.out (by rw [HGE.out, HRA.out, List.drop_length]; rfl))
          go_wp2_with fail
          go_ret2
          unfold SOpenP
          rw [HO.out]
          refine ⟨HBR.out.trans HBK.out, kept_trans HKR.out (fun g hg => HKK.out g (.inl (.inl (.inl hg)))), fun h => absurd rfl h, fun _ => ⟨sb, rfl, R, A, C, D, a, c, d, ?_⟩⟩
          exact ⟨HDK.out.weaken (fun g hg => .inl hg), blk_kept HSR.out.blk (HKK.out _ (.inl (.inr rfl))), HSR.out.rows.same (fun g _ hg => HKK.out g (.inl (.inl (.inr hg)))), HSR.out.big, HSR.out.notG, HSR.out.right⟩
end Go.Proofs.YtfpomllhkbbipaaGreatDoor
