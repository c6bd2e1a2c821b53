/- Layer 6: the document's example. -/
import Derived.Lib.SlBytesConst
import Derived.Test.YtifgajinfcihmaaGreatDoorJBf
namespace Go.Proofs.YtifgajinfcihmaaGreatDoor
open Go Go.RowKit Go.Maps Go.Lib Mem Pk Dsk Wl Go.Proofs.YtifgajinfcihmaaGreatDoor.Nm
abbrev WK (G : Nat → Prop) (B p wb : Nat) (xs : List SegK) (w : World) : Prop := WlAt G B p wb (diskK xs) (segsK xs) w
theorem D.toW {B p : Nat} {s : S} {w : World} (h : D B p s w) : DX (fun _ => False) B p s w := h.protect (Below.refl _ _) (fun _ h => h.elim)
set_option maxRecDepth 100000 in
set_option maxHeartbeats 4000000 in
theorem alive6_any {w : World} (hla : LaidB w.heap.size w) : Calls Tryz.prog 11 #[] w fun e w' => e = .returned (.bool true) ∧ Below w.heap.size w w' := by
 have HLA := Lib.hid hla
 clear hla
 go_enter Tryz.func11, Tryz.ntmps11
 go_wp2_with fail
 (with_reducible refine (L_New w w.heap.size (Nat.le_refl _)).mono ?_); rintro e w1 ⟨p, rfl, hd1, -, hb1⟩
 have HD1 : Hid (D w.heap.size p (diskK []) w1) := Lib.hid hd1
 have HB1 := Lib.hid hb1
 clear hd1 hb1
 go_wp2_with fail
 (with_reducible refine (X_wOpen (G := fun _ => False) HD1.out.toW (HLA.out.on HB1.out) xo0).mono ?_); rintro e w2 ⟨wb, rfl, ha2, hb2, -⟩
 have HA2 : Hid (WK (fun _ => False) w.heap.size p wb [] w2) := Lib.hid ha2
 have HB2 : Hid (Below w.heap.size w w2) := Lib.hid (HB1.out.trans hb2)
 clear ha2 hb2 HB1 HD1
 have kc : (convert 28 28 (.slice (some ⟨w2.heap.size, 0, none⟩) 1 1)).run Tryz.prog (w2.alloc (.cells #[.int .u8 120] 5)) = .ok (.slice (some ⟨w2.heap.size, 0, none⟩) 1 1) (w2.alloc (.cells #[.int .u8 120] 5 (1, 2))) :=
  Lib.run_convert_bytes_const (P := Tryz.prog) w2 28 5 #[.int .u8 120] 1 1 Tryz.underlying28 Tryz.underlying5
 obtain ⟨wa, hwa⟩ : ∃ z, z = (w2.alloc (.cells #[.int .u8 120] 5 (1, 2))).alloc (.cells #[.int .i64 1, .int .i64 3, .int .i64 0, .slice (some ⟨w2.heap.size, 0, none⟩) 1 1] 40) := ⟨_, rfl⟩
 have hba : Below w2.heap.size w2 wa := by rw [hwa]; exact ((Below.refl _ _).alloc (Nat.le_refl _) _).alloc (by simp) _
 have hxa : Blk wa (w2.heap.size + 1) 40 #[.int .i64 1, .int .i64 3, .int .i64 0, .slice (some ⟨w2.heap.size, 0, none⟩) 1 1] := by
  rw [hwa]
  have h9 := Blk.new_ (w2.alloc (.cells #[.int .u8 120] 5 (1, 2))) 40 #[.int .i64 1, .int .i64 3, .int .i64 0, .slice (some ⟨w2.heap.size, 0, none⟩) 1 1]
  rw [World.size_alloc] at h9
  exact h9
 have hda : SlB fB 5 (fun q => q = w2.heap.size) wa (some ⟨w2.heap.size, 0, none⟩) [120] := by
  have h9 : SlB fB 5 (fun q => q = w2.heap.size) (w2.alloc (.cells #[.int .u8 120] 5 (1, 2))) (some ⟨w2.heap.size, 0, none⟩) [120] :=
   ⟨by unfold maxLen; decide, fun _ => ⟨w2.heap.size, 0, _, _, rfl, rfl, heap_alloc_new w2 _, fun j hj => by
    obtain rfl : j = 0 := by simp at hj; omega
    rfl⟩⟩
  rw [hwa]
  exact h9.below ((Below.refl _ _).alloc (Nat.le_refl _) _)
 have hsz : wa.heap.size = w2.heap.size + 2 := by rw [hwa, World.size_alloc, World.size_alloc]
 have HAP := Lib.hid (X_wAppend1 (w0 := w2) (w := wa) (e := ex1) (c := 1) (ki := 0) HA2.out hba (HLA.out.on (HB2.out.trans (hba.mono HB2.out.size))) (Nat.le_succ _) hxa ⟨_, hda⟩ (fun q e => .inr (by subst e; omega)) ⟨Nat.le_refl _, by unfold maxLen; decide⟩ ⟨by decide, by decide⟩ (fun e he => by cases he) xa1 rfl)
 have HWA := Lib.hid hwa
 have HBA : Hid (Below w.heap.size w wa) := Lib.hid (HB2.out.trans (hba.mono HB2.out.size))
 clear hwa hba hxa hda hsz
 change Hid (Calls _ _ #[.pointer (some ⟨wb, 0, none⟩), .slice (some ⟨w2.heap.size + 1, 0, none⟩) 1 1] _ _) at HAP
 go_wp2_with fail
 rw [← HWA.out]
 (with_reducible refine HAP.out.mono ?_); rintro e w3 ⟨rfl, ha3, hb3, -⟩
 have HA3 : Hid (WK (fun _ => False) w.heap.size p wb xk1 w3) := Lib.hid ha3
 have HB3 : Hid (Below w.heap.size w w3) := Lib.hid (HBA.out.trans hb3)
 clear ha3 hb3 HB2 HA2 HBA HAP HWA kc
 go_wp2_with fail
 (with_reducible refine (X_wSync HA3.out xa2 (ki := 0) rfl).mono ?_); rintro e w4 ⟨rfl, ha4, hb4, -⟩
 have HA4 : Hid (WK (fun _ => False) w.heap.size p wb xk2 w4) := Lib.hid ha4
 have HB4 : Hid (Below w.heap.size w w4) := Lib.hid (HB3.out.trans hb4)
 clear ha4 hb4 HB3 HA3
 obtain ⟨wc, hwc⟩ : ∃ z, z = w4.alloc (.cells #[.int .i64 2, .int .i64 0, .int .i64 0, .slice none 0 0] 40) := ⟨_, rfl⟩
 have hbc : Below w4.heap.size w4 wc := by rw [hwc]; exact (Below.refl _ _).alloc (Nat.le_refl _) _
 have hxc : Blk wc w4.heap.size 40 #[.int .i64 2, .int .i64 0, .int .i64 0, .slice none 0 0] := by rw [hwc]; exact Blk.new_ w4 _ _
 have HAP := Lib.hid (X_wAppend1 (F := fun _ => False) (w0 := w4) (w := wc) (e := ex2) (A := none) (c := 0) (ki := 0) HA4.out hbc (HLA.out.on (HB4.out.trans (hbc.mono HB4.out.size))) (Nat.le_refl _) hxc ⟨5, SlB.nil⟩ (fun q e => e.elim) ⟨Nat.le_refl _, Nat.zero_le _⟩ ⟨by decide, by decide⟩ xr2 xa3 rfl)
 have HWC := Lib.hid hwc
 have HBC : Hid (Below w.heap.size w wc) := Lib.hid (HB4.out.trans (hbc.mono HB4.out.size))
 clear hwc hbc hxc
 change Hid (Calls _ _ #[.pointer (some ⟨wb, 0, none⟩), .slice (some ⟨w4.heap.size, 0, none⟩) 1 1] _ _) at HAP
 go_wp2_with fail
 rw [← HWC.out]
 (with_reducible refine HAP.out.mono ?_); rintro e w5 ⟨rfl, ha5, hb5, -⟩
 have HD5 := Lib.hid (WlE.dd ha5)
 have HB5 : Hid (Below w.heap.size w w5) := Lib.hid (HBC.out.trans hb5)
 clear ha5 hb5 HB4 HA4 HBC HAP HWC
 have HCR := Lib.hid (L_Crash HD5.out (c := 0) (SlB.nil (f := fBool) (e := 4) (F := fun _ => False) (A := none)) (.inl (by decide)) rfl)
 change Hid (Calls _ _ #[.pointer (some ⟨p, 0, none⟩), .slice none 0 0] _ _) at HCR
 go_wp2_with fail
 (with_reducible refine HCR.out.mono ?_); rintro e w6 ⟨rfl, hd6, hb6⟩
 have HD6 := Lib.hid hd6
 have HB6 : Hid (Below w.heap.size w w6) := Lib.hid (HB5.out.trans hb6)
 clear hd6 hb6 HB5 HD5 HCR
 go_wp2_with fail
 (with_reducible refine (X_wOpen (G := fun _ => False) HD6.out.toW (HLA.out.on HB6.out) xa4).mono ?_); rintro e w7 ⟨wb7, rfl, ha7, hb7, -⟩
 have HA7 : Hid (WK (fun _ => False) w.heap.size p wb7 xk2 w7) := Lib.hid ha7
 have HB7 : Hid (Below w.heap.size w w7) := Lib.hid (HB6.out.trans hb7)
 clear ha7 hb7 HB6 HD6
 have HLA7 := Lib.hid (wLast_any HA7.out)
 rw [show lastE (allE (segsK xk2)) = 1 from rfl] at HLA7
 go_wp2_with fail
 (with_reducible refine HLA7.out.mono ?_); rintro e w8 ⟨rfl, m8, hw8⟩
 have hb8 : Below w7.heap.size w7 w8 := by rw [hw8]; exact below_drewN (Below.refl _ _) m8
 have HA8 : Hid (WK (fun _ => False) w.heap.size p wb7 xk2 w8) := Lib.hid (HA7.out.below hb8)
 have HB8 : Hid (Below w.heap.size w w8) := Lib.hid (HB7.out.trans (hb8.mono HB7.out.size))
 clear hw8 hb8 HB7 HA7 HLA7
 have HEN := Lib.hid (wEntries_any HA8.out (by decide) xr2)
 go_wp2_with fail
 (with_reducible refine HEN.out.mono ?_); rintro e w9 ⟨A9, c9, xs9, rfl, -, -, -, hb9⟩
 have HA9 : Hid (WK (fun _ => False) w.heap.size p wb7 xk2 w9) := Lib.hid (HA8.out.below hb9)
 have HB9 : Hid (Below w.heap.size w w9) := Lib.hid (HB8.out.trans (hb9.mono HB8.out.size))
 clear hb9 HB8 HA8 HEN
 have hl9 : (allE (segsK xk2)).length = 1 := rfl
 have HEN := Lib.hid (wEntries_any HA9.out (by decide) xr2)
 go_wp2_with fail
 (with_reducible refine HEN.out.mono ?_); rintro e w10 ⟨A10, c10, xs10, rfl, hr10, he10, -, hb10⟩
 have HA10 : Hid (WK (fun _ => False) w.heap.size p wb7 xk2 w10) := Lib.hid (HA9.out.below hb10)
 have HB10 : Hid (Below w.heap.size w w10) := Lib.hid (HB9.out.trans (hb10.mono HB9.out.size))
 have hx10 : xs10.length = 1 := by have h9 := congrArg List.length he10; rw [List.length_map] at h9; rw [h9]; rfl
 obtain ⟨b, o, hA, -, -, -, hc⟩ := hr10.at (j := 0) (by omega)
 have hx0 : xs10[0].e = ex1 := by
  have h9 : (xs10.map EnM.e)[0]'(by rw [List.length_map]; omega) = ex1 := by simp only [he10]; rfl
  rw [List.getElem_map] at h9; exact h9
 have c1 : w10.cell? ⟨b, o + 1, none⟩ = some (.int .i64 3) := by
  have h9 := hc 1 (by decide)
  rw [Nat.zero_mul, Nat.add_zero] at h9
  rw [h9]
  show some (Value.int .i64 xs10[0].e.tm) = _
  rw [hx0]; rfl
 subst hA
 clear hb10 hr10 he10 hx10 hc hx0 HB9 HA9 HEN
 have HCU := Lib.hid (X_wCut HA10.out ⟨1, xch⟩ (by decide) 1 xa5 (ki := 0) rfl)
 go_wp2_with fail
 (with_reducible refine HCU.out.mono ?_); rintro e w11 ⟨rfl, ha11, hb11, -⟩
 have HA11 : Hid (WK (fun _ => False) w.heap.size p wb7 [] w11) := Lib.hid ha11
 have HB11 : Hid (Below w.heap.size w w11) := Lib.hid (HB10.out.trans hb11)
 clear ha11 hb11 HB10 HA10 HCU c1
 have HFI := Lib.hid (wFirst_any HA11.out)
 rw [show firstE (allE (segsK [])) = 0 from rfl] at HFI
 go_wp2_with fail
 (with_reducible refine HFI.out.mono ?_); rintro e w12 ⟨rfl, m12, hw12⟩
 have hb12 : Below w11.heap.size w11 w12 := by rw [hw12]; exact below_drewN (Below.refl _ _) m12
 have HA12 : Hid (WK (fun _ => False) w.heap.size p wb7 [] w12) := Lib.hid (HA11.out.below hb12)
 have HB12 : Hid (Below w.heap.size w w12) := Lib.hid (HB11.out.trans (hb12.mono HB11.out.size))
 clear hw12 hb12 HB11 HA11 HFI
 obtain ⟨wd, hwd⟩ : ∃ z, z = w12.alloc (.cells #[.int .i64 7, .int .i64 0, .int .i64 0, .slice none 0 0] 40) := ⟨_, rfl⟩
 have hbd : Below w12.heap.size w12 wd := by rw [hwd]; exact (Below.refl _ _).alloc (Nat.le_refl _) _
 have hxd : Blk wd w12.heap.size 40 #[.int .i64 7, .int .i64 0, .int .i64 0, .slice none 0 0] := by rw [hwd]; exact Blk.new_ w12 _ _
 have HAP := Lib.hid (X_wAppend1 (F := fun _ => False) (w0 := w12) (w := wd) (e := ex7) (A := none) (c := 0) (ki := 0) HA12.out hbd (HLA.out.on (HB12.out.trans (hbd.mono HB12.out.size))) (Nat.le_refl _) hxd ⟨5, SlB.nil⟩ (fun q e => e.elim) ⟨Nat.le_refl _, Nat.zero_le _⟩ ⟨by decide, by decide⟩ (fun e he => by cases he) xa6 rfl)
 have HWD := Lib.hid hwd
 have HBD : Hid (Below w.heap.size w wd) := Lib.hid (HB12.out.trans (hbd.mono HB12.out.size))
 clear hwd hbd hxd
 change Hid (Calls _ _ #[.pointer (some ⟨wb7, 0, none⟩), .slice (some ⟨w12.heap.size, 0, none⟩) 1 1] _ _) at HAP
 go_wp2_with fail
 rw [← HWD.out]
 (with_reducible refine HAP.out.mono ?_); rintro e w13 ⟨rfl, ha13, hb13, -⟩
 have HA13 : Hid (WK (fun _ => False) w.heap.size p wb7 xk7 w13) := Lib.hid ha13
 have HB13 : Hid (Below w.heap.size w w13) := Lib.hid (HBD.out.trans hb13)
 clear ha13 hb13 HB12 HA12 HBD HAP HWD
 have HFI := Lib.hid (wFirst_any HA13.out)
 rw [show firstE (allE (segsK xk7)) = 7 from rfl] at HFI
 go_wp2_with fail
 (with_reducible refine HFI.out.mono ?_); rintro e w14 ⟨rfl, m14, hw14⟩
 have HB14 : Hid (Below w.heap.size w w14) := Lib.hid (by rw [hw14]; exact below_drewN HB13.out m14)
 clear hw14 HFI HB13
 go_wp2_with fail
 go_ret
 exact ⟨rfl, HB14.out⟩
end Go.Proofs.YtifgajinfcihmaaGreatDoor
namespace Go.Proofs.YtifgajinfcihmaaGreatDoor
open Go Go.RowKit Go.Maps Go.Lib Mem Pk Dsk Wl Go.Proofs.YtifgajinfcihmaaGreatDoor.Nm
section
variable {G : Nat → Prop} {B p wb : Nat} {d d' : S} {ss ss2 : List Sg} {es : List En} {w w' : World}
theorem WlE.elder (h : WlE G B p wb d ss es w) : WlE (fun g => g < B ∨ G g) B p wb d ss es w := by
 obtain ⟨R, SA, sc, sm, EA, ec, em, h, e1, e2⟩ := h
 have hx : DX (fun g => ((g < B ∨ G g) ∨ R g) ∨ g = wb) B p d w := by
  obtain ⟨mb, rs, h0⟩ := h.dx.at_
  refine ⟨⟨mb, rs, h0.mono (fun g _ hg => ⟨hg.1, fun h9 => ?_⟩)⟩, h.dx.le, fun g hg => ?_⟩
  ·have h2 := hg.2
   have h1 := hg.1
   rcases h9 with ((h9 | h9) | h9) | h9
   ·omega
   ·exact h2 (.inl (.inl h9))
   ·exact h2 (.inl (.inr h9))
   ·exact h2 (.inr h9)
  ·rcases hg with ((hg | hg) | hg) | hg
   ·have := h.dx.le; omega
   ·exact h.oldG g hg
   ·exact h.old g hg
   ·subst hg; exact h.blk.lt
 refine ⟨R, SA, sc, sm, EA, ec, em, ⟨hx, h.blk, h.segs, h.ents, h.sok, h.eok, h.apart, h.big, ?_, fun g hg => ⟨(h.own g hg).1, ?_, (h.own g hg).2.2⟩⟩, e1, e2⟩
 ·rintro (h9 | h9)
  ·have := h.big; omega
  ·exact h.notG h9
 ·rintro (h9 | h9)
  ·have := (h.own g hg).1; omega
  ·exact (h.own g hg).2.1 h9
end
section
variable {B p wb : Nat} {xs ys : List SegK} {A : Option Addr} {c : Nat} {ws : List EnM} {w wr W : World}
theorem SlB.ex_under {bs : List UInt8} (h : ∃ te, SlB fB te (fun g => g < B) w A bs) (hb : Below B w wr) : ∃ te, SlB fB te (fun g => g < B) wr A bs := by
 obtain ⟨te, h⟩ := h
 exact ⟨te, h.keep (fun g _ _ hF _ => hb.block g hF)⟩
end
end Go.Proofs.YtifgajinfcihmaaGreatDoor
