/- Layer 6: the walk of write. -/
import Derived.Test.YtifgajinfcihmaaGreatDoorJBc
namespace Go.Proofs.YtifgajinfcihmaaGreatDoor
open Go Go.RowKit Go.Maps Go.Lib Mem Pk Dsk Wl Go.Proofs.YtifgajinfcihmaaGreatDoor.Nm
section
variable {G R : Nat → Prop} {B p wb : Nat} {d : S} {SA EA : Option Addr} {sc ec : Nat} {pre : List SgM} {x : SgM} {em : List EnM} {w : World}
structure SegAt (wb p b o sc n : Nat) (EA : Option Addr) (m ec : Nat) (j : Nat) (nm : ByteArray) (xA : Option Addr) (l xc sz : Nat) (wt : Bool) (w : World) : Prop where
 e0 : w.cell? ⟨b, o + j * 4, none⟩ = some (.string nm)
 e1 : w.cell? ⟨b, o + j * 4 + 1, none⟩ = some (.slice xA l xc)
 e2 : w.cell? ⟨b, o + j * 4 + 2, none⟩ = some (.int .i64 (sz : Int))
 e3 : w.cell? ⟨b, o + j * 4 + 3, none⟩ = some (.bool wt)
 fz : ∀ i, w.frozen? ⟨b, i, none⟩ = false
 v0 : w.cell? ⟨wb, 0, none⟩ = some (.pointer (some ⟨p, 0, none⟩))
 v1 : w.cell? ⟨wb, 1, none⟩ = some (.slice (some ⟨b, o, none⟩) n sc)
 v2 : w.cell? ⟨wb, 2, none⟩ = some (.slice EA m ec)
 vf : ∀ i, w.frozen? ⟨wb, i, none⟩ = false
theorem segAt_of {n m : Nat} (hs : Rw 4 smC 97 R w SA sc (pre ++ [x])) (hb : Blk w wb 92 #[.pointer (some ⟨p, 0, none⟩), .slice SA n sc, .slice EA m ec]) (hn : n = pre.length + 1) : ∃ b o, SA = some ⟨b, o, none⟩ ∧
 SegAt wb p b o sc (pre.length + 1) EA m ec pre.length (nmWA x.s.ix) x.A (ats x.s.es).length x.c (sgB x.s).length x.s.wet w := by
 obtain ⟨b, o, hSA, hRb, -, hfz, hcl⟩ := hs.at (j := pre.length) (by simp)
 rw [show (pre ++ [x])[pre.length]'(by simp) = x by simp] at hcl
 have hv1 : w.cell? ⟨wb, 1, none⟩ = some (.slice SA n sc) := hb.cell 1
 rw [hn, hSA] at hv1
 exact ⟨b, o, hSA, hcl 0 (by decide), by rw [ats_len]; exact hcl 1 (by decide), hcl 2 (by decide), hcl 3 (by decide), hfz, hb.cell 0, hv1, hb.cell 2, hb.free⟩
theorem Wl0.segAt (h : Wl0 G R B p wb d SA sc (pre ++ [x]) EA ec em w) : ∃ b o, SA = some ⟨b, o, none⟩ ∧
 SegAt wb p b o sc (pre.length + 1) EA em.length ec pre.length (nmWA x.s.ix) x.A (ats x.s.es).length x.c (sgB x.s).length x.s.wet w := by
 exact segAt_of h.segs h.blk (by simp)
theorem Wl0.more (h : Wl0 G R B p wb d SA sc pre EA ec em w) {w8 : World} {A8 : Option Addr} {c8 : Nat} {i : Int}
 (hr8 : Rw 4 smC 97 (fun g => (R g ∧ atA SA g) ∨ w.heap.size < g) w8 A8 c8 (pre ++ [⟨⟨i, [], false⟩, none, 0⟩])) (hf8 : Frm (fun g => R g ∧ atA SA g) w w8) :
 Wl0 G (fun g => R g ∨ (w.heap.size ≤ g ∧ g < (w8.setCell ⟨wb, 1, none⟩ (.slice A8 (pre.length + 1) c8)).heap.size)) B p wb d A8 c8 (pre ++ [⟨⟨i, [], false⟩, none, 0⟩]) EA ec em (w8.setCell ⟨wb, 1, none⟩ (.slice A8 (pre.length + 1) c8)) ∧
 Frm (fun g => R g ∨ g = wb) w (w8.setCell ⟨wb, 1, none⟩ (.slice A8 (pre.length + 1) c8)) := by
 have hwb8 := h.blk.frmA h.segs (by decide) hf8
 have hfr : Frm (fun g => R g ∨ g = wb) w (w8.setCell ⟨wb, 1, none⟩ (.slice A8 (pre.length + 1) c8)) := (hf8.mono (fun g _ hg => .inl hg.1)).setCell (p := ⟨wb, 1, none⟩) (fun _ => .inr rfl) _
 refine ⟨Wl0.mk_ h hfr ?_ ?_ ?_ ?_ ?_ ?_, hfr⟩
 ·rw [show (pre ++ [(⟨⟨i, [], false⟩, none, 0⟩ : SgM)]).length = pre.length + 1 by simp]
  exact hwb8.set_ 1 _
 ·exact (hr8.far hwb8 (.inl (by decide)) 1 _).mono (fun g _ hg => hg.elim (fun h1 => .inl h1.1) (fun h1 => .inr (Nat.le_of_lt h1)))
 ·exact ((h.ents.frmA h.segs (by decide) hf8).far hwb8 (.inl (by decide)) 1 _).mono (fun g _ hg => .inl hg)
 ·intro z hz
  rcases List.mem_append.1 hz with hz | hz
  ·exact Mem.Rw.mono (Mem.Rw.far (Mem.Rw.frmA (h.sok z hz) h.segs (by decide) hf8) hwb8 (.inl (by decide)) 1 _) (fun g _ hg => .inl hg)
  ·rw [List.mem_singleton.1 hz]
   exact Rw.nil
 ·exact fun y hy => (((h.eok y hy).frmA h.segs (by decide) hf8).far hwb8 (by decide) 1 _).mono (fun g _ hg => .inl hg)
 ·rw [List.pairwise_append]
  refine ⟨h.apart, by simp, fun z hz y hy g hgz hgy => ?_⟩
  rw [List.mem_singleton.1 hy] at hgy
  obtain ⟨o, q, hq⟩ := hgy
  cases hq
theorem Wl0.boxed {w' : World} {gb : Nat} (h : Wl0 G R B p wb d SA sc pre EA ec em w) (hb : Below w.heap.size w w') (h1 : w.heap.size ≤ gb) (h2 : gb < w'.heap.size) :
 Wl0 G (fun g => R g ∨ g = gb) B p wb d SA sc pre EA ec em w' ∧ ¬ atA EA gb := by
 refine ⟨⟨(h.dx.protect hb (G2 := fun g => g = gb) (fun g hg => by subst hg; exact ⟨h1, h2⟩)).weaken (fun g hg => ?_), h.blk.below hb h.blk.lt, (h.segs.below hb).mono (fun g _ hg => .inl hg), (h.ents.below hb).mono (fun g _ hg => .inl hg), fun y hy => Mem.Rw.mono (Mem.Rw.below (h.sok y hy) hb) (fun g _ hg => .inl hg), fun y hy => ((h.eok y hy).below hb).mono (fun g _ hg => .inl hg), h.apart, h.big, h.notG, fun g hg => ?_⟩, fun e => ?_⟩
 ·rcases hg with (hg | hg | hg) | hg
  ·exact .inl (.inl (.inl hg))
  ·exact .inl (.inl (.inr hg))
  ·exact .inr hg
  ·exact .inl (.inr hg)
 ·rcases hg with hg | hg
  ·exact h.own g hg
  ·subst hg
   refine ⟨Nat.le_trans h.dx.le h1, fun h9 => by have := h.oldG _ h9; omega, fun h9 => by have := h.blk.lt; omega⟩
 ·have := h.old _ (h.ents.inF e); omega
end
def entV (e : En) (A : Option Addr) (c : Nat) : Array Value := #[.int .i64 e.ix, .int .i64 e.tm, .int .i64 e.kd, .slice A e.ds.length c]
structure RdyW (te : TypeId) (G F R : Nat → Prop) (B p wb : Nat) (d : S) (SA : Option Addr) (sc : Nat) (pre : List SgM) (x : SgM) (EA : Option Addr) (ec : Nat) (em : List EnM) (gb : Nat) (e : En) (A : Option Addr) (c : Nat) (w W : World) : Prop where
 at_ : Wl0 G R B p wb d SA sc (pre ++ [x]) EA ec em W
 box : Blk W gb 40 (entV e A c)
 inR : R gb
 nE : ¬ atA EA gb
 ds : SlB fB te F W A e.ds
 bel : Below B w W
 kep : Kept G w W
 ems : em.map EnM.e = allE (pre.map SgM.s) ++ x.s.es
 lns : pre.length ≤ 1000000 ∧ em.length ≤ 1000000 ∧ (sgB x.s).length < 256 ∧ x.s.es.length ≤ 8
theorem RdyW.drew_ {te : TypeId} {G F R : Nat → Prop} {B p wb : Nat} {d : S} {SA EA : Option Addr} {sc ec : Nat} {pre : List SgM} {x : SgM} {em : List EnM} {gb : Nat} {e : En} {A : Option Addr} {c : Nat} {w W : World} (h : RdyW te G F R B p wb d SA sc pre x EA ec em gb e A c w W) : RdyW te G F R B p wb d SA sc pre x EA ec em gb e A c w W.drew :=
 have hb : Below W.heap.size W W.drew := below_drewN (Below.refl _ _) 1
 ⟨h.at_.below hb, h.box, h.inR, h.nE, h.ds.drewN 1, h.bel.trans (hb.mono h.at_.dx.le), fun g hg => (hb.block g (h.at_.oldG g hg)).trans (h.kep g hg), h.ems, h.lns⟩
set_option maxRecDepth 100000 in
set_option maxHeartbeats 4000000 in
theorem wwrite_any {G F : Nat → Prop} {B p wb : Nat} {d : S} {ss : List Sg} {w : World} (h : WlAt G B p wb d ss w) (hla : LaidB B w) {e : En} {A : Option Addr} {c : Nat} {te : TypeId} (hs : SlB fB te F w A e.ds) (hF : ∀ g, F g → G g) (he : rightE e = true) (hn : ss.length ≤ 1000000 ∧ (allE ss).length ≤ 1000000) :
 Calls Tryz.prog 58 #[.pointer (some ⟨wb, 0, none⟩), .agg #[.int .i64 e.ix, .int .i64 e.tm, .int .i64 e.kd, .slice A e.ds.length c]] w (LdP G B p wb (write1 d ss e) w) := by
 obtain ⟨res, hres⟩ : ∃ z, z = write1 d ss e := ⟨_, rfl⟩
 rw [← hres]
 have HRES := Lib.hid hres
 have HLA := Lib.hid hla
 have HE := Lib.hid he
 have HF := Lib.hid hF
 have HN := Lib.hid hn
 obtain ⟨R, SA, sc, sm, EA, ec, em, h0, hsm, hem⟩ := h
 obtain ⟨gb, hgb⟩ : ∃ z, z = w.heap.size := ⟨_, rfl⟩
 obtain ⟨w1, hw1⟩ : ∃ z, z = w.alloc (.cells #[.int .i64 e.ix, .int .i64 e.tm, .int .i64 e.kd, .slice A e.ds.length c] 40) := ⟨_, rfl⟩
 have hb1 : Below w.heap.size w w1 := by rw [hw1]; exact (Below.refl _ _).alloc (Nat.le_refl _) _
 have hB1 : Blk w1 gb 40 (entV e A c) := by rw [hw1, hgb]; exact Blk.new_ w _ _
 have hbx := h0.boxed (gb := gb) hb1 (by omega) hB1.lt
 have HW1 := Lib.hid hw1
 have HB1 := Lib.hid hB1
 have H1 := Lib.hid hbx.1
 have HNE := Lib.hid hbx.2
 have HDS := Lib.hid (hs.below hb1)
 have HKB : Hid (Below B w w1 ∧ Kept G w w1) := Lib.hid ⟨hb1.mono h0.dx.le, fun g hg => hb1.block g (h0.oldG g hg)⟩
 have HSM := Lib.hid hsm
 have HEM := Lib.hid hem
 have HGB := Lib.hid hgb
 clear h0 hsm hem hw1 hb1 hB1 hbx hs hF he hn hla hres hgb
 by_cases hdu : dueW ss = true
 ·have HDU := Lib.hid hdu
  by_cases hsm0 : sm = []
  ·have hl0 : sm.length = 0 := by rw [hsm0]; rfl
   have v1 : w1.cell? ⟨wb, 1, none⟩ = some (.slice SA sm.length sc) := H1.out.blk.cell 1
   have tz : ((sm.length : Int) == 0) = true := by rw [hl0]; rfl
   clear hsm0 hdu hl0
   go_enter Tryz.func58, Tryz.ntmps58
   go_upto_region 1 with fail
   rw [← HW1.out, ← HGB.out]
   refine AnyZ.start (S := (fun V => V.cell? ⟨wb, 1, none⟩ = some (.slice SA sm.length sc))) (z := 1022) (by kernel_rfl) ?_ (fun hHeld => ?_)
   ·exact v1
   refine AnyZ.take (i := 0) (v := ?_) rfl (by kernel_rfl) (by kernel_rfl) (by kernel_rfl) (by kernel_rfl) (fun _ _ _ h => h) (Or.inl ⟨by kernel_rfl, ?_⟩) (by assumption) ?_
   rotate_left
   ·intro w hSw; (try dsimp only at hSw); go_simp; try with_reducible rfl
   try simp only [Act.put, List.getElem_toArray, List.setIfInBounds_toArray]
   refine AnyZ.take (i := 1) (v := ?_) rfl (by kernel_rfl) (by kernel_rfl) (by kernel_rfl) (by kernel_rfl) (fun _ _ _ h => h) (Or.inl ⟨by kernel_rfl, ?_⟩) (by assumption) ?_
   rotate_left
   ·intro w hSw; (try dsimp only at hSw); go_simp; try with_reducible rfl
   try simp only [Act.put, List.getElem_toArray, List.getElem_cons_succ, List.getElem_cons_zero, List.setIfInBounds_toArray, List.set_cons_zero, List.set_cons_succ]
   refine AnyZ.take (i := 2) (v := ?_) rfl (by kernel_rfl) (by kernel_rfl) (by kernel_rfl) (by kernel_rfl) (fun _ _ _ h => h) (Or.inl ⟨by kernel_rfl, ?_⟩) (by assumption) ?_
   rotate_left
   ·intro w hSw; (try dsimp only at hSw); go_simp; try with_reducible rfl
   try simp only [Act.put, List.getElem_toArray, List.getElem_cons_succ, List.getElem_cons_zero, List.setIfInBounds_toArray, List.set_cons_zero, List.set_cons_succ]
   refine AnyZ.take (i := 3) (v := ?_) rfl (by kernel_rfl) (by kernel_rfl) (by kernel_rfl) (by kernel_rfl) (fun _ _ _ h => h) (Or.inl ⟨by kernel_rfl, ?_⟩) (by assumption) ?_
   rotate_left
   ·intro w hSw; (try dsimp only at hSw); go_simp; try with_reducible rfl
   try simp only [Act.put, List.getElem_toArray, List.getElem_cons_succ, List.getElem_cons_zero, List.setIfInBounds_toArray, List.set_cons_zero, List.set_cons_succ]
   refine AnyZ.take (i := 4) (v := ?_) rfl (by kernel_rfl) (by kernel_rfl) (by kernel_rfl) (by kernel_rfl) (fun _ _ _ h => h) (Or.inl ⟨by kernel_rfl, ?_⟩) (by assumption) ?_
   rotate_left
   ·intro w hSw; (try dsimp only at hSw); go_simp; try with_reducible rfl
   try simp only [Act.put, List.getElem_toArray, List.getElem_cons_succ, List.getElem_cons_zero, List.setIfInBounds_toArray, List.set_cons_zero, List.set_cons_succ]
   refine AnyZ.take (i := 5) (v := ?_) rfl (by kernel_rfl) (by kernel_rfl) (by kernel_rfl) (by kernel_rfl) (fun _ _ _ h => h) (Or.inl ⟨by kernel_rfl, ?_⟩) (by assumption) ?_
   rotate_left
   ·intro w hSw; (try dsimp only at hSw); go_simp; try with_reducible rfl
   try simp only [Act.put, List.getElem_toArray, List.getElem_cons_succ, List.getElem_cons_zero, List.setIfInBounds_toArray, List.set_cons_zero, List.set_cons_succ]
   refine AnyZ.take (i := 6) (v := ?_) rfl (by kernel_rfl) (by kernel_rfl) (by kernel_rfl) (by kernel_rfl) (fun _ _ _ h => h) (Or.inl ⟨by kernel_rfl, ?_⟩) (by assumption) ?_
   rotate_left
   ·intro w hSw; (try dsimp only at hSw); go_simp; try with_reducible rfl
   try simp only [Act.put, List.getElem_toArray, List.getElem_cons_succ, List.getElem_cons_zero, List.setIfInBounds_toArray, List.set_cons_zero, List.set_cons_succ]
   refine AnyZ.takeAny (i := 7) (v := undef) rfl (by kernel_rfl) (by kernel_rfl) (by kernel_rfl) (by kernel_rfl) (fun _ _ _ h => h) (Or.inr ⟨by kernel_rfl, rfl⟩) (by assumption) ?_
   try simp only [Act.put, List.getElem_toArray, List.getElem_cons_succ, List.getElem_cons_zero, List.setIfInBounds_toArray, List.set_cons_zero, List.set_cons_succ]
   refine AnyZ.takeAny (i := 8) (v := undef) rfl (by kernel_rfl) (by kernel_rfl) (by kernel_rfl) (by kernel_rfl) (fun _ _ _ h => h) (Or.inr ⟨by kernel_rfl, rfl⟩) (by assumption) ?_
   try simp only [Act.put, List.getElem_toArray, List.getElem_cons_succ, List.getElem_cons_zero, List.setIfInBounds_toArray, List.set_cons_zero, List.set_cons_succ]
   refine AnyZ.takeAny (i := 9) (v := undef) rfl (by kernel_rfl) (by kernel_rfl) (by kernel_rfl) (by kernel_rfl) (fun _ _ _ h => h) (Or.inr ⟨by kernel_rfl, rfl⟩) (by assumption) ?_
   try simp only [Act.put, List.getElem_toArray, List.getElem_cons_succ, List.getElem_cons_zero, List.setIfInBounds_toArray, List.set_cons_zero, List.set_cons_succ]
   refine AnyZ.takeAny (i := 10) (v := undef) rfl (by kernel_rfl) (by kernel_rfl) (by kernel_rfl) (by kernel_rfl) (fun _ _ _ h => h) (Or.inr ⟨by kernel_rfl, rfl⟩) (by assumption) ?_
   try simp only [Act.put, List.getElem_toArray, List.getElem_cons_succ, List.getElem_cons_zero, List.setIfInBounds_toArray, List.set_cons_zero, List.set_cons_succ]
   refine AnyZ.takeAny (i := 11) (v := undef) rfl (by kernel_rfl) (by kernel_rfl) (by kernel_rfl) (by kernel_rfl) (fun _ _ _ h => h) (Or.inr ⟨by kernel_rfl, rfl⟩) (by assumption) ?_
   try simp only [Act.put, List.getElem_toArray, List.getElem_cons_succ, List.getElem_cons_zero, List.setIfInBounds_toArray, List.set_cons_zero, List.set_cons_succ]
   refine AnyZ.takeAny (i := 12) (v := undef) rfl (by kernel_rfl) (by kernel_rfl) (by kernel_rfl) (by kernel_rfl) (fun _ _ _ h => h) (Or.inr ⟨by kernel_rfl, rfl⟩) (by assumption) ?_
   try simp only [Act.put, List.getElem_toArray, List.getElem_cons_succ, List.getElem_cons_zero, List.setIfInBounds_toArray, List.set_cons_zero, List.set_cons_succ]
   refine AnyZ.takeAny (i := 13) (v := undef) rfl (by kernel_rfl) (by kernel_rfl) (by kernel_rfl) (by kernel_rfl) (fun _ _ _ h => h) (Or.inr ⟨by kernel_rfl, rfl⟩) (by assumption) ?_
   try simp only [Act.put, List.getElem_toArray, List.getElem_cons_succ, List.getElem_cons_zero, List.setIfInBounds_toArray, List.set_cons_zero, List.set_cons_succ]
   refine AnyZ.takeAny (i := 14) (v := undef) rfl (by kernel_rfl) (by kernel_rfl) (by kernel_rfl) (by kernel_rfl) (fun _ _ _ h => h) (Or.inr ⟨by kernel_rfl, rfl⟩) (by assumption) ?_
   try simp only [Act.put, List.getElem_toArray, List.getElem_cons_succ, List.getElem_cons_zero, List.setIfInBounds_toArray, List.set_cons_zero, List.set_cons_succ]
   refine AnyZ.takeAny (i := 15) (v := undef) rfl (by kernel_rfl) (by kernel_rfl) (by kernel_rfl) (by kernel_rfl) (fun _ _ _ h => h) (Or.inr ⟨by kernel_rfl, rfl⟩) (by assumption) ?_
   try simp only [Act.put, List.getElem_toArray, List.getElem_cons_succ, List.getElem_cons_zero, List.setIfInBounds_toArray, List.set_cons_zero, List.set_cons_succ]
   refine AnyZ.takeAny (i := 16) (v := undef) rfl (by kernel_rfl) (by kernel_rfl) (by kernel_rfl) (by kernel_rfl) (fun _ _ _ h => h) (Or.inr ⟨by kernel_rfl, rfl⟩) (by assumption) ?_
   try simp only [Act.put, List.getElem_toArray, List.getElem_cons_succ, List.getElem_cons_zero, List.setIfInBounds_toArray, List.set_cons_zero, List.set_cons_succ]
   refine AnyZ.takeAny (i := 17) (v := undef) rfl (by kernel_rfl) (by kernel_rfl) (by kernel_rfl) (by kernel_rfl) (fun _ _ _ h => h) (Or.inr ⟨by kernel_rfl, rfl⟩) (by assumption) ?_
   try simp only [Act.put, List.getElem_toArray, List.getElem_cons_succ, List.getElem_cons_zero, List.setIfInBounds_toArray, List.set_cons_zero, List.set_cons_succ]
   refine AnyZ.takeAny (i := 18) (v := undef) rfl (by kernel_rfl) (by kernel_rfl) (by kernel_rfl) (by kernel_rfl) (fun _ _ _ h => h) (Or.inr ⟨by kernel_rfl, rfl⟩) (by assumption) ?_
   try simp only [Act.put, List.getElem_toArray, List.getElem_cons_succ, List.getElem_cons_zero, List.setIfInBounds_toArray, List.set_cons_zero, List.set_cons_succ]
   refine AnyZ.takeAny (i := 19) (v := undef) rfl (by kernel_rfl) (by kernel_rfl) (by kernel_rfl) (by kernel_rfl) (fun _ _ _ h => h) (Or.inr ⟨by kernel_rfl, rfl⟩) (by assumption) ?_
   try simp only [Act.put, List.getElem_toArray, List.getElem_cons_succ, List.getElem_cons_zero, List.setIfInBounds_toArray, List.set_cons_zero, List.set_cons_succ]
   refine AnyZ.takeAny (i := 20) (v := undef) rfl (by kernel_rfl) (by kernel_rfl) (by kernel_rfl) (by kernel_rfl) (fun _ _ _ h => h) (Or.inr ⟨by kernel_rfl, rfl⟩) (by assumption) ?_
   try simp only [Act.put, List.getElem_toArray, List.getElem_cons_succ, List.getElem_cons_zero, List.setIfInBounds_toArray, List.set_cons_zero, List.set_cons_succ]
   refine AnyZ.take (i := 21) (v := ?_) rfl (by kernel_rfl) (by kernel_rfl) (by kernel_rfl) (by kernel_rfl) (fun _ _ _ h => h) (Or.inl ⟨by kernel_rfl, ?_⟩) (by assumption) ?_
   rotate_left
   ·intro w hSw; (try dsimp only at hSw); go_simp; try with_reducible rfl
   try simp only [Act.put, List.getElem_toArray, List.getElem_cons_succ, List.getElem_cons_zero, List.setIfInBounds_toArray, List.set_cons_zero, List.set_cons_succ]
   refine AnyZ.done (by kernel_rfl) ?_ _
   skip
   clear hHeld v1 tz
   obtain ⟨W0, hW0⟩ : ∃ z, z = w1.drew := ⟨_, rfl⟩
   rw [← hW0]
   have hbd : Below w1.heap.size w1 W0 := by rw [hW0]; exact below_drewN (Below.refl _ _) 1
   obtain ⟨R2, hR2⟩ : ∃ z : Nat → Prop, z = fun g => R g ∨ g = gb := ⟨_, rfl⟩
   have H0 : Hid (Wl0 G R2 B p wb d SA sc sm EA ec em W0) := Lib.hid (by rw [hR2]; exact H1.out.below hbd)
   have HIN : Hid (R2 gb) := Lib.hid (by rw [hR2]; exact .inr rfl)
   have HBX0 := Lib.hid (HB1.out.below hbd HB1.out.lt)
   have HDS0 := Lib.hid (HDS.out.below hbd)
   have HKB0 : Hid (Below B w W0 ∧ Kept G w W0) := Lib.hid ⟨HKB.out.1.trans (hbd.mono H1.out.dx.le), fun g hg => (hbd.block g (H1.out.oldG g hg)).trans (HKB.out.2 g hg)⟩
   have hri := rightE_iff.1 HE.out
   have HNMD := Lib.hid (WNamed_any (HLA.out.on HKB0.out.1).here (i := e.ix) (by omega) (by omega))
   have c0 : W0.cell? ⟨gb, 0, none⟩ = some (.int .i64 e.ix) := HBX0.out.cell 0
   obtain ⟨nm0, hnm0⟩ : ∃ z, z = nmWA e.ix := ⟨_, rfl⟩
   rw [← hnm0] at HNMD
   have HNM0 := Lib.hid hnm0
   clear hW0 hbd hR2 HDS HKB H1 HB1 hri hnm0
   go_wp2_with fail
   (with_reducible refine HNMD.out.mono ?_); rintro e' w2 ⟨rfl, hb2⟩
   have H2 := Lib.hid (H0.out.below hb2)
   have HBX2 := Lib.hid (HBX0.out.below hb2 HBX0.out.lt)
   have HDS2 := Lib.hid (HDS0.out.below hb2)
   have HKB2 : Hid (Below B w w2 ∧ Kept G w w2) := Lib.hid ⟨HKB0.out.1.trans (hb2.mono H0.out.dx.le), fun g hg => (hb2.block g (H0.out.oldG g hg)).trans (HKB0.out.2 g hg)⟩
   obtain ⟨⟨dc, kc⟩, hcr⟩ : ∃ z, z = Dsk.create d (nmW e.ix) := ⟨_, rfl⟩
   have HCRE := Lib.hid hcr
   have HCR := Lib.hid (X_Create (s' := dc) (k := kc) (ki := (kc : Int)) H2.out.dx nm0 (by rw [HNM0.out]; unfold nmWA; simp [ByteArray.size, nmOf_len]; unfold maxLen; decide) (by rw [HNM0.out, sname_nmWA]; exact hcr.symm) rfl)
   have vp : w2.cell? ⟨wb, 0, none⟩ = some (.pointer (some ⟨p, 0, none⟩)) := H2.out.blk.cell 0
   clear hb2 hcr c0 HNMD H0 HBX0 HDS0 HKB0
   go_wp2_with fail
   (with_reducible refine HCR.out.mono ?_); rintro e' w3 ⟨rfl, hd3, hb3, hk3⟩
   have H3 := Lib.hid (H2.out.kept hd3 hk3)
   have HBX3 : Hid (Blk w3 gb 40 (entV e A c)) := Lib.hid ((hk3 gb (.inl (.inr HIN.out))).trans HBX2.out)
   have HDS3 := Lib.hid (HDS2.out.kept hk3 (fun g hg => .inl (.inl (HF.out g hg))))
   have HKB3 : Hid (Below B w w3 ∧ Kept G w w3) := Lib.hid ⟨HKB2.out.1.trans hb3, fun g hg => (hk3 g (.inl (.inl hg))).trans (HKB2.out.2 g hg)⟩
   clear hd3 hb3 hk3 vp HCR H2 HBX2 HDS2 HKB2
   by_cases hkc : kc = 0
   ·subst hkc
    have tkc : ((((0 : Nat) : Int)) != 0) = false := rfl
    have v1 : w3.cell? ⟨wb, 1, none⟩ = some (.slice SA sm.length sc) := H3.out.blk.cell 1
    have hsml : sm.length ≤ 1000000 := by have h9 := HN.out.1; rw [← HSM.out, List.length_map] at h9; exact h9
    go_upto_region 7 with (at_builtin; refine wpList_appendR1 (f := smC) rfl (.tmp 48) (.tmp 51) 90 rfl sgT smC_len ⟨⟨e.ix, [], false⟩, none, 0⟩ (smC_one _) (by rw [HNM0.out]; rfl) rfl H3.out.segs rfl rfl (by unfold maxLen; omega) (by omega) ?_; intro SA8 sc2 w8 hr8 hf8; have HWB8 := Lib.hid (H3.out.blk.frmA H3.out.segs (by decide) hf8); have v8 : w8.cell? ⟨wb, 1, none⟩ = some (.slice SA sm.length sc) := HWB8.out.cell 1; have vf8 := HWB8.out.free 1)
    obtain ⟨W, hW⟩ : ∃ z, z = w8.setCell ⟨wb, 1, none⟩ (.slice SA8 (sm.length + 1) sc2) := ⟨_, rfl⟩
    rw [← hW]
    have hmore := H3.out.more hr8 hf8
    rw [← hW] at hmore
    have hwf := wl_frm H3.out hmore.2
    have hbxW : Blk W gb 40 (entV e A c) := by
     rw [hW]; exact (HBX3.out.frmA H3.out.segs (by decide) hf8).far (p := ⟨wb, 1, none⟩) (fun e9 => (H3.out.own gb HIN.out).2.2 e9) _
    have hdsW := HDS3.out.frm hmore.2 (fun g hg h1 => h1.elim (fun h2 => (H3.out.own g h2).2.1 (HF.out g hg)) (fun h2 => H3.out.notG (h2 ▸ HF.out g hg)))
    obtain ⟨R3, hR3⟩ : ∃ z : Nat → Prop, z = fun g => R2 g ∨ (w3.heap.size ≤ g ∧ g < W.heap.size) := ⟨_, rfl⟩
    obtain ⟨x, hx⟩ : ∃ z : SgM, z = ⟨⟨e.ix, [], false⟩, none, 0⟩ := ⟨_, rfl⟩
    obtain ⟨pre, hpre⟩ : ∃ z, z = sm := ⟨_, rfl⟩
    have hat := hmore.1
    rw [← hR3, ← hx, ← hpre] at hat
    have HRD : Hid (RdyW te G F R3 B p wb dc SA8 sc2 pre x EA ec em gb e A c w W) := Lib.hid ⟨hat, hbxW, by rw [hR3]; exact .inl HIN.out, HNE.out, hdsW, HKB3.out.1.trans hwf.1, fun g hg => (hwf.2 g hg).trans (HKB3.out.2 g hg), by rw [HEM.out, hpre, HSM.out, hx, List.append_nil], by
     rw [hpre, hx]
     refine ⟨hsml, ?_, ?_, Nat.zero_le 8⟩
     ·have h9 := HN.out.2; rw [← HEM.out, List.length_map] at h9; exact h9
     ·show (recsB []).length < 256
      simp [recsB]⟩
    have HRES2 : Hid (res = wrLast dc (pre.map SgM.s) x.s e) := Lib.hid (by
     rw [HRES.out]; unfold write1
     rw [if_pos HDU.out, hpre, HSM.out, hx]
     simp only [← HCRE.out]
     exact if_pos trivial)
    obtain ⟨d2, hd2⟩ : ∃ z, z = dc := ⟨_, rfl⟩
    rw [← hd2] at HRD HRES2
    clear hd2 hpre hx hR3 hat hdsW hbxW hwf hmore hW hr8 hf8 v1 v8 vf8 hsml tkc HWB8 H3 HBX3 HDS3 HKB3
    obtain ⟨b, o, hSA, hsg⟩ := HRD.out.at_.segAt
    subst hSA
    have HSG := Lib.hid hsg
    obtain ⟨nm, hnm⟩ : ∃ z, z = nmWA x.s.ix := ⟨_, rfl⟩
    obtain ⟨sz, hsz⟩ : ∃ z, z = (sgB x.s).length := ⟨_, rfl⟩
    obtain ⟨pn, hpn⟩ : ∃ z, z = pre.length := ⟨_, rfl⟩
    obtain ⟨wt, hwt⟩ : ∃ z, z = x.s.wet := ⟨_, rfl⟩
    obtain ⟨xc, hxc⟩ : ∃ z, z = x.c := ⟨_, rfl⟩
    obtain ⟨xA, hxA⟩ : ∃ z, z = x.A := ⟨_, rfl⟩
    obtain ⟨as_, has⟩ : ∃ z, z = ats x.s.es := ⟨_, rfl⟩
    rw [← hnm, ← hsz, ← hpn, ← hwt, ← hxc, ← hxA, ← has] at HSG
    obtain ⟨n, hn⟩ : ∃ n, n = pn + 1 := ⟨_, rfl⟩
    rw [← hn] at HSG
    have HEQ : Hid (nm = nmWA x.s.ix ∧ sz = (sgB x.s).length ∧ pn = pre.length ∧ wt = x.s.wet ∧ xc = x.c ∧ xA = x.A ∧ as_ = ats x.s.es ∧ n = pn + 1) := Lib.hid ⟨hnm, hsz, hpn, hwt, hxc, hxA, has, hn⟩
    have hpl : pn ≤ 1000000 := by rw [hpn]; exact HRD.out.lns.1
    have hszl : sz < 256 := by rw [hsz]; exact HRD.out.lns.2.2.1
    clear hsg hnm hsz hpn hwt hxc hxA has
    have v1 := HSG.out.v1
    have hw : IntKind.i64.wrap ((n : Int) - 1) = (pn : Int) := by rw [IntKind.wrap_i64]; omega
    have hw2 : IntKind.i64.wrap (pn : Int) = (pn : Int) := by rw [IntKind.wrap_i64]; omega
    have hjn : (pn : Int) < (n : Int) := by omega
    have hj0 : (0 : Int) ≤ (pn : Int) := by omega
    clear hn
    go_upto_region 7 with fail
    refine AnyZ.start (S := (fun V => V.cell? ⟨wb, 1, none⟩ = some (.slice (some ⟨b, o, none⟩) n sc2))) (z := 1012) (by kernel_rfl) ?_ (fun hHeld => ?_)
    ·exact v1
    refine AnyZ.take (i := 0) (v := ?_) rfl (by kernel_rfl) (by kernel_rfl) (by kernel_rfl) (by kernel_rfl) (fun _ _ _ h => h) (Or.inl ⟨by kernel_rfl, ?_⟩) (by assumption) ?_
    rotate_left
    ·intro w hSw; (try dsimp only at hSw); go_simp; try with_reducible rfl
    try simp only [Act.put, List.getElem_toArray, List.getElem_cons_zero, List.setIfInBounds_toArray, List.set_cons_zero, List.set_cons_succ]
    refine AnyZ.take (i := 1) (v := ?_) rfl (by kernel_rfl) (by kernel_rfl) (by kernel_rfl) (by kernel_rfl) (fun _ _ _ h => h) (Or.inl ⟨by kernel_rfl, ?_⟩) (by assumption) ?_
    rotate_left
    ·intro w hSw; (try dsimp only at hSw); go_simp; try with_reducible rfl
    try simp only [Act.put, List.getElem_toArray, List.getElem_cons_succ, List.getElem_cons_zero, List.setIfInBounds_toArray, List.set_cons_zero, List.set_cons_succ]
    refine AnyZ.take (i := 2) (v := ?_) rfl (by kernel_rfl) (by kernel_rfl) (by kernel_rfl) (by kernel_rfl) (fun _ _ _ h => h) (Or.inl ⟨by kernel_rfl, ?_⟩) (by assumption) ?_
    rotate_left
    ·intro w hSw; (try dsimp only at hSw); go_simp; try with_reducible rfl
    try simp only [Act.put, List.getElem_toArray, List.getElem_cons_succ, List.getElem_cons_zero, List.setIfInBounds_toArray, List.set_cons_zero, List.set_cons_succ]
    refine AnyZ.take (i := 3) (v := ?_) rfl (by kernel_rfl) (by kernel_rfl) (by kernel_rfl) (by kernel_rfl) (fun _ _ _ h => h) (Or.inl ⟨by kernel_rfl, ?_⟩) (by assumption) ?_
    rotate_left
    ·intro w hSw; (try dsimp only at hSw); go_simp; try with_reducible rfl
    try simp only [Act.put, List.getElem_toArray, List.getElem_cons_succ, List.getElem_cons_zero, List.setIfInBounds_toArray, List.set_cons_zero, List.set_cons_succ]
    refine AnyZ.take (i := 4) (v := ?_) rfl (by kernel_rfl) (by kernel_rfl) (by kernel_rfl) (by kernel_rfl) (fun _ _ _ h => h) (Or.inl ⟨by kernel_rfl, ?_⟩) (by assumption) ?_
    rotate_left
    ·intro w hSw; (try dsimp only at hSw); go_simp; try with_reducible rfl
    try simp only [Act.put, List.getElem_toArray, List.getElem_cons_succ, List.getElem_cons_zero, List.setIfInBounds_toArray, List.set_cons_zero, List.set_cons_succ]
    refine AnyZ.take (i := 5) (v := ?_) rfl (by kernel_rfl) (by kernel_rfl) (by kernel_rfl) (by kernel_rfl) (fun _ _ _ h => h) (Or.inl ⟨by kernel_rfl, ?_⟩) (by assumption) ?_
    rotate_left
    ·intro w hSw; (try dsimp only at hSw); go_simp; try with_reducible rfl
    try simp only [Act.put, List.getElem_toArray, List.getElem_cons_succ, List.getElem_cons_zero, List.setIfInBounds_toArray, List.set_cons_zero, List.set_cons_succ]
    refine AnyZ.take (i := 6) (v := ?_) rfl (by kernel_rfl) (by kernel_rfl) (by kernel_rfl) (by kernel_rfl) (fun _ _ _ h => h) (Or.inl ⟨by kernel_rfl, ?_⟩) (by assumption) ?_
    rotate_left
    ·intro w hSw; (try dsimp only at hSw); go_simp; try with_reducible rfl
    try simp only [Act.put, List.getElem_toArray, List.getElem_cons_succ, List.getElem_cons_zero, List.setIfInBounds_toArray, List.set_cons_zero, List.set_cons_succ]
    refine AnyZ.take (i := 7) (v := ?_) rfl (by kernel_rfl) (by kernel_rfl) (by kernel_rfl) (by kernel_rfl) (fun _ _ _ h => h) (Or.inl ⟨by kernel_rfl, ?_⟩) (by assumption) ?_
    rotate_left
    ·intro w hSw; (try dsimp only at hSw); go_simp; try with_reducible rfl
    try simp only [Act.put, List.getElem_toArray, List.getElem_cons_succ, List.getElem_cons_zero, List.setIfInBounds_toArray, List.set_cons_zero, List.set_cons_succ]
    refine AnyZ.take (i := 8) (v := ?_) rfl (by kernel_rfl) (by kernel_rfl) (by kernel_rfl) (by kernel_rfl) (fun _ _ _ h => h) (Or.inl ⟨by kernel_rfl, ?_⟩) (by assumption) ?_
    rotate_left
    ·intro w hSw; (try dsimp only at hSw); go_simp; try with_reducible rfl
    try simp only [Act.put, List.getElem_toArray, List.getElem_cons_succ, List.getElem_cons_zero, List.setIfInBounds_toArray, List.set_cons_zero, List.set_cons_succ]
    refine AnyZ.take (i := 9) (v := ?_) rfl (by kernel_rfl) (by kernel_rfl) (by kernel_rfl) (by kernel_rfl) (fun _ _ _ h => h) (Or.inl ⟨by kernel_rfl, ?_⟩) (by assumption) ?_
    rotate_left
    ·intro w hSw; (try dsimp only at hSw); go_simp; try with_reducible rfl
    try simp only [Act.put, List.getElem_toArray, List.getElem_cons_succ, List.getElem_cons_zero, List.setIfInBounds_toArray, List.set_cons_zero, List.set_cons_succ]
    refine AnyZ.take (i := 10) (v := ?_) rfl (by kernel_rfl) (by kernel_rfl) (by kernel_rfl) (by kernel_rfl) (fun _ _ _ h => h) (Or.inl ⟨by kernel_rfl, ?_⟩) (by assumption) ?_
    rotate_left
    ·intro w hSw; (try dsimp only at hSw); go_simp; try with_reducible rfl
    try simp only [Act.put, List.getElem_toArray, List.getElem_cons_succ, List.getElem_cons_zero, List.setIfInBounds_toArray, List.set_cons_zero, List.set_cons_succ]
    refine AnyZ.take (i := 11) (v := ?_) rfl (by kernel_rfl) (by kernel_rfl) (by kernel_rfl) (by kernel_rfl) (fun _ _ _ h => h) (Or.inl ⟨by kernel_rfl, ?_⟩) (by assumption) ?_
    rotate_left
    ·intro w hSw; (try dsimp only at hSw); go_simp; try with_reducible rfl
    try simp only [Act.put, List.getElem_toArray, List.getElem_cons_succ, List.getElem_cons_zero, List.setIfInBounds_toArray, List.set_cons_zero, List.set_cons_succ]
    refine AnyZ.done (by kernel_rfl) ?_ _
    skip
    clear v1
    have c0 : W.cell? ⟨gb, 0, none⟩ = some (.int .i64 e.ix) := HRD.out.box.cell 0
    have c1 : W.cell? ⟨gb, 1, none⟩ = some (.int .i64 e.tm) := HRD.out.box.cell 1
    have c2 : W.cell? ⟨gb, 2, none⟩ = some (.int .i64 e.kd) := HRD.out.box.cell 2
    have c3 : W.cell? ⟨gb, 3, none⟩ = some (.slice A e.ds.length c) := HRD.out.box.cell 3
    have HREC : Hid (Calls Tryz.prog 82 #[.agg #[.int .i64 e.ix, .int .i64 e.tm, .int .i64 e.kd, .slice A e.ds.length c]] W.drew (RecP (recB e) W.drew)) := Lib.hid (record_any (c := c) HE.out (HRD.out.ds.drewN 1))
    go_wp2_with fail
    (with_reducible refine HREC.out.mono ?_); rintro e' w6 ⟨A6, c6, rfl, ho6, hb6⟩
    have hbd : Below W.heap.size W w6.drew := below_drewN ((below_drewN (Below.refl _ _) 1 : Below W.heap.size W (W.drewN 1)).trans hb6) 1
    have H6 := Lib.hid (HRD.out.at_.below hbd)
    have HBX6 := Lib.hid (HRD.out.box.below hbd HRD.out.box.lt)
    have HDS6 := Lib.hid (HRD.out.ds.below hbd)
    have HKB6 : Hid (Below B w w6.drew ∧ Kept G w w6.drew) := Lib.hid ⟨HRD.out.bel.trans (hbd.mono HRD.out.at_.dx.le), fun g hg => (hbd.block g (HRD.out.at_.oldG g hg)).trans (HRD.out.kep g hg)⟩
    have HO6 := Lib.hid ho6
    obtain ⟨rc, hrc⟩ : ∃ z, z = recB e := ⟨_, rfl⟩
    obtain ⟨⟨dw, kw⟩, hwr⟩ : ∃ z, z = Dsk.write d2 (sgN x.s) (sz : Int) rc := ⟨_, rfl⟩
    rw [← hrc] at HO6 ⊢
    have HRC := Lib.hid hrc
    have HWRE := Lib.hid hwr
    have HWR := Lib.hid (X_Write (c := c6) (s' := dw) (k := kw) (ki := (kw : Int)) H6.out.dx nm (by rw [HEQ.out.1]; unfold nmWA; simp [ByteArray.size, nmOf_len]; unfold maxLen; decide) (sz : Int) (wfN (by omega)) ((SlB.of_own HO6.out).2.drewN 1) (fun h9 => by have h8 := HRD.out.at_.dx.lt; have h7 : W.heap.size ≤ p := h9; omega) (by rw [HEQ.out.1, sname_nmWA]; exact hwr.symm) rfl)
    have HCAP : Hid (rc.length ≤ 2200) := Lib.hid (by rw [hrc]; exact recB_le HE.out)
    obtain ⟨b2, o2, hS2, hsg6⟩ := H6.out.segAt
    injection hS2 with hS2; injection hS2 with hS2 hS3; subst hS2; subst hS3
    rw [← HEQ.out.1, ← HEQ.out.2.1, ← HEQ.out.2.2.1, ← HEQ.out.2.2.2.1, ← HEQ.out.2.2.2.2.1, ← HEQ.out.2.2.2.2.2.1, ← HEQ.out.2.2.2.2.2.2.1, ← HEQ.out.2.2.2.2.2.2.2] at hsg6
    have HSG6 := Lib.hid hsg6
    have z0 := hsg6.e0
    have z2 := hsg6.e2
    have zp := hsg6.v0
    clear hbd ho6 hb6 hrc hwr hsg6 c0 c1 c2 c3 HREC hw hw2 hjn hj0
    go_upto_region 9 with fail
    refine AnyZ.start (S := (fun V => V.cell? ⟨wb, 0, none⟩ = some (.pointer (some ⟨p, 0, none⟩)) ∧ V.cell? ⟨b, o + pn * 4, none⟩ = some (.string nm) ∧ V.cell? ⟨b, o + pn * 4 + 2, none⟩ = some (.int .i64 (sz : Int)))) (z := 1015) (by kernel_rfl) ?_ (fun hHeld => ?_)
    ·exact ⟨zp, z0, z2⟩
    refine AnyZ.take (i := 0) (v := ?_) rfl (by kernel_rfl) (by kernel_rfl) (by kernel_rfl) (by kernel_rfl) (fun _ _ _ h => h) (Or.inl ⟨by kernel_rfl, ?_⟩) (by assumption) ?_
    rotate_left
    ·intro w hSw; (try dsimp only at hSw); go_simp; try with_reducible rfl
    try simp only [Act.put, List.getElem_toArray, List.getElem_cons_zero, List.setIfInBounds_toArray, List.set_cons_zero, List.set_cons_succ]
    refine AnyZ.take (i := 1) (v := ?_) rfl (by kernel_rfl) (by kernel_rfl) (by kernel_rfl) (by kernel_rfl) (fun _ _ _ h => h) (Or.inl ⟨by kernel_rfl, ?_⟩) (by assumption) ?_
    rotate_left
    ·intro w hSw; (try dsimp only at hSw); go_simp; try with_reducible rfl
    try simp only [Act.put, List.getElem_toArray, List.getElem_cons_succ, List.getElem_cons_zero, List.setIfInBounds_toArray, List.set_cons_zero, List.set_cons_succ]
    refine AnyZ.take (i := 2) (v := ?_) rfl (by kernel_rfl) (by kernel_rfl) (by kernel_rfl) (by kernel_rfl) (fun _ _ _ h => h) (Or.inl ⟨by kernel_rfl, ?_⟩) (by assumption) ?_
    rotate_left
    ·intro w hSw; (try dsimp only at hSw); go_simp; try with_reducible rfl
    try simp only [Act.put, List.getElem_toArray, List.getElem_cons_succ, List.getElem_cons_zero, List.setIfInBounds_toArray, List.set_cons_zero, List.set_cons_succ]
    refine AnyZ.take (i := 3) (v := ?_) rfl (by kernel_rfl) (by kernel_rfl) (by kernel_rfl) (by kernel_rfl) (fun _ _ _ h => h) (Or.inl ⟨by kernel_rfl, ?_⟩) (by assumption) ?_
    rotate_left
    ·intro w hSw; (try dsimp only at hSw); go_simp; try with_reducible rfl
    try simp only [Act.put, List.getElem_toArray, List.getElem_cons_succ, List.getElem_cons_zero, List.setIfInBounds_toArray, List.set_cons_zero, List.set_cons_succ]
    refine AnyZ.take (i := 4) (v := ?_) rfl (by kernel_rfl) (by kernel_rfl) (by kernel_rfl) (by kernel_rfl) (fun _ _ _ h => h) (Or.inl ⟨by kernel_rfl, ?_⟩) (by assumption) ?_
    rotate_left
    ·intro w hSw; (try dsimp only at hSw); go_simp; try with_reducible rfl
    try simp only [Act.put, List.getElem_toArray, List.getElem_cons_succ, List.getElem_cons_zero, List.setIfInBounds_toArray, List.set_cons_zero, List.set_cons_succ]
    refine AnyZ.take (i := 5) (v := ?_) rfl (by kernel_rfl) (by kernel_rfl) (by kernel_rfl) (by kernel_rfl) (fun _ _ _ h => h) (Or.inl ⟨by kernel_rfl, ?_⟩) (by assumption) ?_
    rotate_left
    ·intro w hSw; (try dsimp only at hSw); go_simp; try with_reducible rfl
    try simp only [Act.put, List.getElem_toArray, List.getElem_cons_succ, List.getElem_cons_zero, List.setIfInBounds_toArray, List.set_cons_zero, List.set_cons_succ]
    refine AnyZ.take (i := 6) (v := ?_) rfl (by kernel_rfl) (by kernel_rfl) (by kernel_rfl) (by kernel_rfl) (fun _ _ _ h => h) (Or.inl ⟨by kernel_rfl, ?_⟩) (by assumption) ?_
    rotate_left
    ·intro w hSw; (try dsimp only at hSw); go_simp; try with_reducible rfl
    try simp only [Act.put, List.getElem_toArray, List.getElem_cons_succ, List.getElem_cons_zero, List.setIfInBounds_toArray, List.set_cons_zero, List.set_cons_succ]
    refine AnyZ.take (i := 7) (v := ?_) rfl (by kernel_rfl) (by kernel_rfl) (by kernel_rfl) (by kernel_rfl) (fun _ _ _ h => h) (Or.inl ⟨by kernel_rfl, ?_⟩) (by assumption) ?_
    rotate_left
    ·intro w hSw; (try dsimp only at hSw); go_simp; try with_reducible rfl
    try simp only [Act.put, List.getElem_toArray, List.getElem_cons_succ, List.getElem_cons_zero, List.setIfInBounds_toArray, List.set_cons_zero, List.set_cons_succ]
    refine AnyZ.take (i := 8) (v := ?_) rfl (by kernel_rfl) (by kernel_rfl) (by kernel_rfl) (by kernel_rfl) (fun _ _ _ h => h) (Or.inl ⟨by kernel_rfl, ?_⟩) (by assumption) ?_
    rotate_left
    ·intro w hSw; (try dsimp only at hSw); go_simp; try with_reducible rfl
    try simp only [Act.put, List.getElem_toArray, List.getElem_cons_succ, List.getElem_cons_zero, List.setIfInBounds_toArray, List.set_cons_zero, List.set_cons_succ]
    refine AnyZ.take (i := 9) (v := ?_) rfl (by kernel_rfl) (by kernel_rfl) (by kernel_rfl) (by kernel_rfl) (fun _ _ _ h => h) (Or.inl ⟨by kernel_rfl, ?_⟩) (by assumption) ?_
    rotate_left
    ·intro w hSw; (try dsimp only at hSw); go_simp; try with_reducible rfl
    try simp only [Act.put, List.getElem_toArray, List.getElem_cons_succ, List.getElem_cons_zero, List.setIfInBounds_toArray, List.set_cons_zero, List.set_cons_succ]
    refine AnyZ.take (i := 10) (v := ?_) rfl (by kernel_rfl) (by kernel_rfl) (by kernel_rfl) (by kernel_rfl) (fun _ _ _ h => h) (Or.inl ⟨by kernel_rfl, ?_⟩) (by assumption) ?_
    rotate_left
    ·intro w hSw; (try dsimp only at hSw); go_simp; try with_reducible rfl
    try simp only [Act.put, List.getElem_toArray, List.getElem_cons_succ, List.getElem_cons_zero, List.setIfInBounds_toArray, List.set_cons_zero, List.set_cons_succ]
    refine AnyZ.take (i := 11) (v := ?_) rfl (by kernel_rfl) (by kernel_rfl) (by kernel_rfl) (by kernel_rfl) (fun _ _ _ h => h) (Or.inl ⟨by kernel_rfl, ?_⟩) (by assumption) ?_
    rotate_left
    ·intro w hSw; (try dsimp only at hSw); go_simp; try with_reducible rfl
    try simp only [Act.put, List.getElem_toArray, List.getElem_cons_succ, List.getElem_cons_zero, List.setIfInBounds_toArray, List.set_cons_zero, List.set_cons_succ]
    refine AnyZ.take (i := 12) (v := ?_) rfl (by kernel_rfl) (by kernel_rfl) (by kernel_rfl) (by kernel_rfl) (fun _ _ _ h => h) (Or.inl ⟨by kernel_rfl, ?_⟩) (by assumption) ?_
    rotate_left
    ·intro w hSw; (try dsimp only at hSw); go_simp; try with_reducible rfl
    try simp only [Act.put, List.getElem_toArray, List.getElem_cons_succ, List.getElem_cons_zero, List.setIfInBounds_toArray, List.set_cons_zero, List.set_cons_succ]
    refine AnyZ.ready (rs := [13]) (by kernel_rfl) (by simp) ?_
    refine AllZ.cons rfl (fun K hK => ?_) AllZ.nil
    go_simp
    (with_reducible refine (HWR.out).mono ?_); rintro e' w7 ⟨rfl, hd7, hb7, hk7⟩
    have H7 := Lib.hid (H6.out.kept hd7 hk7)
    have HKP := Lib.hid hk7
    have HB7 := Lib.hid hb7
    obtain ⟨b3, o3, hS3, hsg7⟩ := H7.out.segAt
    injection hS3 with hS3; injection hS3 with hS3 hS4; subst hS3; subst hS4
    rw [← HEQ.out.1, ← HEQ.out.2.1, ← HEQ.out.2.2.1, ← HEQ.out.2.2.2.1, ← HEQ.out.2.2.2.2.1, ← HEQ.out.2.2.2.2.2.1, ← HEQ.out.2.2.2.2.2.2.1, ← HEQ.out.2.2.2.2.2.2.2] at hsg7
    have HSG7 := Lib.hid hsg7
    clear hd7 hk7 hb7 z0 z2 zp hsg7
    refine hK.out _ _ ?_ (fun hHeld => ?_)
    ·exact ⟨HSG7.out.v0, HSG7.out.e0, HSG7.out.e2⟩
    clear hK K
    try simp only [Act.put, List.getElem_toArray, List.getElem_cons_succ, List.getElem_cons_zero, List.setIfInBounds_toArray, List.set_cons_zero, List.set_cons_succ]
    refine AnyZ.take (i := 14) (v := ?_) rfl (by kernel_rfl) (by kernel_rfl) (by kernel_rfl) (by kernel_rfl) (fun _ _ _ h => h) (Or.inl ⟨by kernel_rfl, ?_⟩) (by assumption) ?_
    rotate_left
    ·intro w hSw; (try dsimp only at hSw); go_simp; try with_reducible rfl
    try simp only [Act.put, List.getElem_toArray, List.getElem_cons_succ, List.getElem_cons_zero, List.setIfInBounds_toArray, List.set_cons_zero, List.set_cons_succ]
    refine AnyZ.done (by kernel_rfl) ?_ _
    skip
    have HBX7 : Hid (Blk w7 gb 40 (entV e A c)) := Lib.hid ((HKP.out gb (.inl (.inr HRD.out.inR))).trans HBX6.out)
    have HDS7 := Lib.hid (HDS6.out.kept HKP.out (fun g hg => .inl (.inl (HF.out g hg))))
    have HKB7 : Hid (Below B w w7 ∧ Kept G w w7) := Lib.hid ⟨HKB6.out.1.trans HB7.out, fun g hg => (HKP.out g (.inl (.inl hg))).trans (HKB6.out.2 g hg)⟩
    clear HBX6 HDS6 HKB6 HKP HB7 HSG HSG6 hHeld
    by_cases hk0 : kw = 0
    ·subst hk0
     have tk : ((((0 : Nat) : Int)) != 0) = false := rfl
     have HRS : Hid (res = (dw, pre.map SgM.s ++ [⟨x.s.ix, x.s.es ++ [e], true⟩], 0)) := Lib.hid (by
      rw [HRES2.out]; unfold wrLast
      simp only [← HEQ.out.2.1, ← HRC.out, ← HWRE.out]
      exact if_pos trivial)
     have hrow : Rw 1 iC 3 R3 w7 xA xc as_ := by
      rw [HEQ.out.2.2.2.2.2.1, HEQ.out.2.2.2.2.1, HEQ.out.2.2.2.2.2.2.1]; exact H7.out.sok x (by simp)
     have HROW := Lib.hid hrow
     have y1 := HSG7.out.e1
     have y2 := HSG7.out.e2
     have hal : as_.length ≤ 8 := by rw [HEQ.out.2.2.2.2.2.2.1, ats_len]; exact HRD.out.lns.2.2.2
     obtain ⟨cur, hcur⟩ := H7.out.segs.typ (g := b) ⟨o, none, rfl⟩
     have HCU := Lib.hid hcur
     have HAL := Lib.hid hal
     clear hrow hcur
     go_upto_region 12 with fail
     refine AnyZ.start (S := (fun V => V.cell? ⟨b, o + pn * 4 + 1, none⟩ = some (.slice xA as_.length xc) ∧ V.cell? ⟨b, o + pn * 4 + 2, none⟩ = some (.int .i64 (sz : Int)))) (z := 13) (by kernel_rfl) ?_ (fun hHeld => ?_)
     ·exact ⟨y1, y2⟩
     refine AnyZ.take (i := 0) (v := ?_) rfl (by kernel_rfl) (by kernel_rfl) (by kernel_rfl) (by kernel_rfl) (fun _ _ _ h => h) (Or.inl ⟨by kernel_rfl, ?_⟩) (by assumption) ?_
     rotate_left
     ·intro w hSw; (try dsimp only at hSw); go_simp; try with_reducible rfl
     try simp only [Act.put, List.getElem_toArray, List.getElem_cons_zero, List.setIfInBounds_toArray, List.set_cons_zero, List.set_cons_succ]
     refine AnyZ.take (i := 1) (v := ?_) rfl (by kernel_rfl) (by kernel_rfl) (by kernel_rfl) (by kernel_rfl) (fun _ _ _ h => h) (Or.inl ⟨by kernel_rfl, ?_⟩) (by assumption) ?_
     rotate_left
     ·intro w hSw; (try dsimp only at hSw); go_simp; try with_reducible rfl
     try simp only [Act.put, List.getElem_toArray, List.getElem_cons_succ, List.getElem_cons_zero, List.setIfInBounds_toArray, List.set_cons_zero, List.set_cons_succ]
     refine AnyZ.take (i := 2) (v := ?_) rfl (by kernel_rfl) (by kernel_rfl) (by kernel_rfl) (by kernel_rfl) (fun _ _ _ h => h) (Or.inl ⟨by kernel_rfl, ?_⟩) (by assumption) ?_
     rotate_left
     ·intro w hSw; (try dsimp only at hSw); go_simp; try with_reducible rfl
     try simp only [Act.put, List.getElem_toArray, List.getElem_cons_succ, List.getElem_cons_zero, List.setIfInBounds_toArray, List.set_cons_zero, List.set_cons_succ]
     refine AnyZ.take (i := 3) (v := ?_) rfl (by kernel_rfl) (by kernel_rfl) (by kernel_rfl) (by kernel_rfl) (fun _ _ _ h => h) (Or.inl ⟨by kernel_rfl, ?_⟩) (by assumption) ?_
     rotate_left
     ·intro w hSw; (try dsimp only at hSw); go_simp; try with_reducible rfl
     try simp only [Act.put, List.getElem_toArray, List.getElem_cons_succ, List.getElem_cons_zero, List.setIfInBounds_toArray, List.set_cons_zero, List.set_cons_succ]
     refine AnyZ.take (i := 4) (v := ?_) rfl (by kernel_rfl) (by kernel_rfl) (by kernel_rfl) (by kernel_rfl) (fun _ _ _ h => h) (Or.inl ⟨by kernel_rfl, ?_⟩) (by assumption) ?_
     rotate_left
     ·intro w hSw; (try dsimp only at hSw); go_simp; try with_reducible rfl
     try simp only [Act.put, List.getElem_toArray, List.getElem_cons_succ, List.getElem_cons_zero, List.setIfInBounds_toArray, List.set_cons_zero, List.set_cons_succ]
     refine AnyZ.take (i := 5) (v := ?_) rfl (by kernel_rfl) (by kernel_rfl) (by kernel_rfl) (by kernel_rfl) (fun _ _ _ h => h) (Or.inl ⟨by kernel_rfl, ?_⟩) (by assumption) ?_
     rotate_left
     ·intro w hSw; (try dsimp only at hSw); go_simp; try with_reducible rfl
     try simp only [Act.put, List.getElem_toArray, List.getElem_cons_succ, List.getElem_cons_zero, List.setIfInBounds_toArray, List.set_cons_zero, List.set_cons_succ]
     refine AnyZ.take (i := 6) (v := ?_) rfl (by kernel_rfl) (by kernel_rfl) (by kernel_rfl) (by kernel_rfl) (fun _ _ _ h => h) (Or.inl ⟨by kernel_rfl, ?_⟩) (by assumption) ?_
     rotate_left
     ·intro w hSw; (try dsimp only at hSw); go_simp; try with_reducible rfl
     try simp only [Act.put, List.getElem_toArray, List.getElem_cons_succ, List.getElem_cons_zero, List.setIfInBounds_toArray, List.set_cons_zero, List.set_cons_succ]
     refine AnyZ.take (i := 7) (v := ?_) rfl (by kernel_rfl) (by kernel_rfl) (by kernel_rfl) (by kernel_rfl) (fun _ _ _ h => h) (Or.inl ⟨by kernel_rfl, ?_⟩) (by assumption) ?_
     rotate_left
     ·intro w hSw; (try dsimp only at hSw); go_simp; try with_reducible rfl
     try simp only [Act.put, List.getElem_toArray, List.getElem_cons_succ, List.getElem_cons_zero, List.setIfInBounds_toArray, List.set_cons_zero, List.set_cons_succ]
     refine AnyZ.take (i := 8) (v := ?_) rfl (by kernel_rfl) (by kernel_rfl) (by kernel_rfl) (by kernel_rfl) (fun _ _ _ h => h) (Or.inl ⟨by kernel_rfl, ?_⟩) (by assumption) ?_
     rotate_left
     ·intro w hSw; (try dsimp only at hSw); go_simp; try with_reducible rfl
     try simp only [Act.put, List.getElem_toArray, List.getElem_cons_succ, List.getElem_cons_zero, List.setIfInBounds_toArray, List.set_cons_zero, List.set_cons_succ]
     refine AnyZ.ready (rs := [9]) (by kernel_rfl) (by simp) ?_
     refine AllZ.cons rfl (fun K hK => ?_) AllZ.nil
     go_simp
     refine hK.out _ _ ?_ (fun hHeld => ?_)
     ·exact ⟨((HCU.out.drew.alloc _).cell _).trans ((HCU.out.cell _).symm.trans y1), ((HCU.out.drew.alloc _).cell _).trans ((HCU.out.cell _).symm.trans y2)⟩
     clear hK K
     try simp only [Act.put, List.getElem_toArray, List.getElem_cons_succ, List.getElem_cons_zero, List.setIfInBounds_toArray, List.set_cons_zero, List.set_cons_succ]
     refine AnyZ.ready (rs := [10]) (by kernel_rfl) (by simp) ?_
     refine AllZ.cons rfl (fun K hK => ?_) AllZ.nil
     refine step_appendR1 (f := iC) (w0 := w7.drew) (F := R3) rfl _ _ _ rfl intTK iC_len (sz : Int) (iC_one _) rfl rfl (HROW.out.drewN 1) rfl rfl (by unfold maxLen; omega) (by omega) ?_
     intro A8 c8 w8 hr8 hf8
     have HR8 := Lib.hid hr8
     have HF8 : Hid (Frm (fun g => R3 g ∧ atA xA g) w7 w8) := Lib.hid (((Frm.refl _ w7).drew).trans hf8)
     have hcur8 := HCU.out.frmA HROW.out (by decide) HF8.out
     have HC8 := Lib.hid hcur8
     have x1 : w8.cell? ⟨b, o + pn * 4 + 1, none⟩ = some (.slice xA as_.length xc) := (hcur8.cell _).trans ((HCU.out.cell _).symm.trans y1)
     have x2 : w8.cell? ⟨b, o + pn * 4 + 2, none⟩ = some (.int .i64 (sz : Int)) := (hcur8.cell _).trans ((HCU.out.cell _).symm.trans y2)
     have xf1 := hcur8.free (o + pn * 4 + 1)
     clear hr8 hf8 hcur8
     refine hK.out _ _ ?_ (fun hHeld => ?_)
     ·exact ⟨x1, x2⟩
     clear hK K
     try simp only [Act.put, List.getElem_toArray, List.getElem_cons_succ, List.getElem_cons_zero, List.setIfInBounds_toArray, List.set_cons_zero, List.set_cons_succ]
     refine AnyZ.takeAny (i := 11) (v := ?_) rfl (by kernel_rfl) (by kernel_rfl) (by kernel_rfl) (by kernel_rfl) (fun _ _ _ h => h) (Or.inl ⟨by kernel_rfl, ?_⟩) (by assumption) ?_
     rotate_left
     ·intro w hSw; (try dsimp only at hSw); go_simp; try with_reducible rfl
     try simp only [Act.put, List.getElem_toArray, List.getElem_cons_succ, List.getElem_cons_zero, List.setIfInBounds_toArray, List.set_cons_zero, List.set_cons_succ]
     refine AnyZ.take (i := 12) (v := ?_) rfl (by kernel_rfl) (by kernel_rfl) (by kernel_rfl) (by kernel_rfl) (fun _ _ _ h => h) (Or.inl ⟨by kernel_rfl, ?_⟩) (by assumption) ?_
     rotate_left
     ·intro w hSw; (try dsimp only at hSw); go_simp; try with_reducible rfl
     try simp only [Act.put, List.getElem_toArray, List.getElem_cons_succ, List.getElem_cons_zero, List.setIfInBounds_toArray, List.set_cons_zero, List.set_cons_succ]
     refine AnyZ.ready (rs := [13]) (by kernel_rfl) (by simp) ?_
     refine AllZ.last rfl (by kernel_rfl) (fun K hK => ?_) AllZ.nil
     go_simp
     refine hK.out _ _ ?_
     clear hK K
     try simp only [Act.put, List.getElem_toArray, List.getElem_cons_succ, List.getElem_cons_zero, List.setIfInBounds_toArray, List.set_cons_zero, List.set_cons_succ]
     refine AnyZ.done (by kernel_rfl) ?_ _
     skip
     go_upto_region 13 with fail
     obtain ⟨w8a, hw8a⟩ : ∃ z, z = w8.setCell ⟨b, o + pn * 4 + 1, none⟩ (.slice A8 (as_.length + 1) c8) := ⟨_, rfl⟩
     rw [← hw8a]
     have hc8a := HC8.out.set_ (o + pn * 4 + 1) (.slice A8 (as_.length + 1) c8)
     rw [← hw8a] at hc8a
     have x2a : w8a.cell? ⟨b, o + pn * 4 + 2, none⟩ = some (.int .i64 (sz : Int)) := (hc8a.cell _).trans ((Array.getElem?_setIfInBounds_ne (by omega)).trans ((HC8.out.cell _).symm.trans x2))
     have xf2 := hc8a.free (o + pn * 4 + 2)
     have HC8A := Lib.hid hc8a
     have hrl : (rc.length : Int) ≤ 2200 := by have := HCAP.out; omega
     have y3 := HSG7.out.e3
     have x3a : w8a.cell? ⟨b, o + pn * 4 + 3, none⟩ = some (.bool wt) := (hc8a.cell _).trans ((Array.getElem?_setIfInBounds_ne (by omega)).trans ((HC8.out.cell _).symm.trans (((HC8.out.cell _).trans ((HCU.out.cell _).symm)).trans y3)))
     have HW8A := Lib.hid hw8a
     clear hw8a hc8a x1 x2 xf1 y1 y2 y3 hHeld
     go_upto_region 14 with fail
     obtain ⟨w8b, hw8b⟩ : ∃ z, z = w8a.setCell ⟨b, o + pn * 4 + 2, none⟩ (.int .i64 ((sz : Int) + (rc.length : Int))) := ⟨_, rfl⟩
     rw [← hw8b]
     have hc8b := HC8A.out.set_ (o + pn * 4 + 2) (.int .i64 ((sz : Int) + (rc.length : Int)))
     rw [← hw8b] at hc8b
     have x3b : w8b.cell? ⟨b, o + pn * 4 + 3, none⟩ = some (.bool wt) := (hc8b.cell _).trans ((Array.getElem?_setIfInBounds_ne (by omega)).trans ((HC8A.out.cell _).symm.trans x3a))
     have xf3 := hc8b.free (o + pn * 4 + 3)
     have HW8B := Lib.hid hw8b
     clear hw8b hc8b x2a xf2 x3a
     go_upto_region 15 with fail
     obtain ⟨w9, hw9⟩ : ∃ z, z = w8b.setCell ⟨b, o + pn * 4 + 3, none⟩ (.bool true) := ⟨_, rfl⟩
     rw [← hw9]
     have h9 : Wr9 R3 p wb (some ⟨b, o, none⟩) sc2 pre x EA ec em e gb (entV e A c) A8 c8 w7 w9 := by
      rw [hw9, HW8B.out, HW8A.out, HEQ.out.2.2.1]
      refine H7.out.wr9 rfl HBX7.out ?_ ?_ ?_ ?_
      ·have h8 := HR8.out
       rw [HEQ.out.2.2.2.2.2.1, HEQ.out.2.2.2.2.2.2.1, HEQ.out.2.1] at h8; exact h8
      ·have h8 := HF8.out
       rw [HEQ.out.2.2.2.2.2.1] at h8; exact h8
      ·rw [HEQ.out.2.2.2.2.2.2.1, ats_len]
      ·rw [HEQ.out.2.1, HRC.out]
     have H9 := Lib.hid h9
     have HDS9 := Lib.hid (HDS7.out.frm h9.frm (fun g hg h1 => h1.elim (fun h2 => (H7.out.own g h2).2.1 (HF.out g hg)) (fun h2 => H7.out.notG (h2 ▸ HF.out g hg))))
     have HCL := Lib.hid (CloneB_any A c e.ds (by have := rightE_iff.1 HE.out; omega) w9 HDS9.out.sl)
     have c3 : w9.cell? ⟨gb, 3, none⟩ = some (.slice A e.ds.length c) := h9.box.cell 3
     clear hw9 x3b xf3 h9
     go_wp2_with fail
     (with_reducible refine HCL.out.mono ?_); rintro e' w10 ⟨A10, c10, rfl, ho10, hb10⟩
     have HO10 := Lib.hid ho10
     have HB10 := Lib.hid hb10
     have bx10 := H9.out.box.below hb10 H9.out.box.lt
     have HBX10 := Lib.hid bx10
     have k3 : w10.cell? ⟨gb, 3, none⟩ = some (.slice A e.ds.length c) := bx10.cell 3
     have kf3 := bx10.free 3
     clear ho10 hb10 bx10 c3 HCL
     go_upto_region 16 with fail
     obtain ⟨w11, hw11⟩ : ∃ z, z = w10.setCell ⟨gb, 3, none⟩ (.slice A10 e.ds.length c10) := ⟨_, rfl⟩
     rw [← hw11]
     have HW11 := Lib.hid hw11
     have HBX11 : Hid (Blk w11 gb 40 #[.int .i64 e.ix, .int .i64 e.tm, .int .i64 e.kd, .slice A10 e.ds.length c10]) := Lib.hid (by rw [hw11]; exact HBX10.out.set_ 3 _)
     have HWB11 : Hid (Blk w11 wb 92 #[.pointer (some ⟨p, 0, none⟩), .slice (some ⟨b, o, none⟩) (pre ++ [x]).length sc2, .slice EA em.length ec]) := Lib.hid (by
      rw [hw11]; exact (H9.out.wbk.below HB10.out H9.out.wbk.lt).far (p := ⟨gb, 3, none⟩) (fun e9 => (H7.out.own gb HRD.out.inR).2.2 e9.symm) _)
     have HEN11 : Hid (Rw 4 emC 40 R3 w11 EA ec em) := Lib.hid (by
      rw [hw11]; exact ((H9.out.ents.self.below HB10.out).far HBX10.out (.inr (fun e9 => HRD.out.nE e9.2)) 3 _).mono (fun g _ hg => hg.1))
     have g0 : w11.cell? ⟨gb, 0, none⟩ = some (.int .i64 e.ix) := HBX11.out.cell 0
     have g1 : w11.cell? ⟨gb, 1, none⟩ = some (.int .i64 e.tm) := HBX11.out.cell 1
     have g2 : w11.cell? ⟨gb, 2, none⟩ = some (.int .i64 e.kd) := HBX11.out.cell 2
     have g3 : w11.cell? ⟨gb, 3, none⟩ = some (.slice A10 e.ds.length c10) := HBX11.out.cell 3
     have v2 : w11.cell? ⟨wb, 2, none⟩ = some (.slice EA em.length ec) := HWB11.out.cell 2
     clear hw11 k3 kf3
     refine AnyZ.start (S := (fun V => V.cell? ⟨wb, 2, none⟩ = some (.slice EA em.length ec) ∧ V.cell? ⟨gb, 0, none⟩ = some (.int .i64 e.ix) ∧ V.cell? ⟨gb, 1, none⟩ = some (.int .i64 e.tm) ∧ V.cell? ⟨gb, 2, none⟩ = some (.int .i64 e.kd) ∧ V.cell? ⟨gb, 3, none⟩ = some (.slice A10 e.ds.length c10))) (z := 10) (by kernel_rfl) ?_ (fun hHeld => ?_)
     ·exact ⟨v2, g0, g1, g2, g3⟩
     refine AnyZ.take (i := 0) (v := ?_) rfl (by kernel_rfl) (by kernel_rfl) (by kernel_rfl) (by kernel_rfl) (fun _ _ _ h => h) (Or.inl ⟨by kernel_rfl, ?_⟩) (by assumption) ?_
     rotate_left
     ·intro w hSw; (try dsimp only at hSw); go_simp; try with_reducible rfl
     try simp only [Act.put, List.getElem_toArray, List.getElem_cons_zero, List.setIfInBounds_toArray, List.set_cons_zero, List.set_cons_succ]
     refine AnyZ.take (i := 1) (v := ?_) rfl (by kernel_rfl) (by kernel_rfl) (by kernel_rfl) (by kernel_rfl) (fun _ _ _ h => h) (Or.inl ⟨by kernel_rfl, ?_⟩) (by assumption) ?_
     rotate_left
     ·intro w hSw; (try dsimp only at hSw); go_simp; try with_reducible rfl
     try simp only [Act.put, List.getElem_toArray, List.getElem_cons_succ, List.getElem_cons_zero, List.setIfInBounds_toArray, List.set_cons_zero, List.set_cons_succ]
     refine AnyZ.take (i := 2) (v := ?_) rfl (by kernel_rfl) (by kernel_rfl) (by kernel_rfl) (by kernel_rfl) (fun _ _ _ h => h) (Or.inl ⟨by kernel_rfl, ?_⟩) (by assumption) ?_
     rotate_left
     ·intro w hSw; (try dsimp only at hSw); go_simp; try with_reducible rfl
     try simp only [Act.put, List.getElem_toArray, List.getElem_cons_succ, List.getElem_cons_zero, List.setIfInBounds_toArray, List.set_cons_zero, List.set_cons_succ]
     refine AnyZ.take (i := 3) (v := ?_) rfl (by kernel_rfl) (by kernel_rfl) (by kernel_rfl) (by kernel_rfl) (fun _ _ _ h => h) (Or.inl ⟨by kernel_rfl, ?_⟩) (by assumption) ?_
     rotate_left
     ·intro w hSw; (try dsimp only at hSw); go_simp; try with_reducible rfl
     try simp only [Act.put, List.getElem_toArray, List.getElem_cons_succ, List.getElem_cons_zero, List.setIfInBounds_toArray, List.set_cons_zero, List.set_cons_succ]
     refine AnyZ.take (i := 4) (v := ?_) rfl (by kernel_rfl) (by kernel_rfl) (by kernel_rfl) (by kernel_rfl) (fun _ _ _ h => h) (Or.inl ⟨by kernel_rfl, ?_⟩) (by assumption) ?_
     rotate_left
     ·intro w hSw; (try dsimp only at hSw); go_simp; try with_reducible rfl
     try simp only [Act.put, List.getElem_toArray, List.getElem_cons_succ, List.getElem_cons_zero, List.setIfInBounds_toArray, List.set_cons_zero, List.set_cons_succ]
     refine AnyZ.take (i := 5) (v := ?_) rfl (by kernel_rfl) (by kernel_rfl) (by kernel_rfl) (by kernel_rfl) (fun _ _ _ h => h) (Or.inl ⟨by kernel_rfl, ?_⟩) (by assumption) ?_
     rotate_left
     ·intro w hSw; (try dsimp only at hSw); go_simp; try with_reducible rfl
     try simp only [Act.put, List.getElem_toArray, List.getElem_cons_succ, List.getElem_cons_zero, List.setIfInBounds_toArray, List.set_cons_zero, List.set_cons_succ]
     refine AnyZ.ready (rs := [6]) (by kernel_rfl) (by simp) ?_
     refine AllZ.cons rfl (fun K hK => ?_) AllZ.nil
     go_simp
     refine hK.out _ _ ?_ (fun hHeld => ?_)
     ·exact ⟨(HWB11.out.drew.alloc _).cell 2, (HBX11.out.drew.alloc _).cell 0, (HBX11.out.drew.alloc _).cell 1, (HBX11.out.drew.alloc _).cell 2, (HBX11.out.drew.alloc _).cell 3⟩
     clear hK K
     try simp only [Act.put, List.getElem_toArray, List.getElem_cons_succ, List.getElem_cons_zero, List.setIfInBounds_toArray, List.set_cons_zero, List.set_cons_succ]
     refine AnyZ.ready (rs := [7]) (by kernel_rfl) (by simp) ?_
     refine AllZ.cons rfl (fun K hK => ?_) AllZ.nil
     refine step_appendR1 (f := emC) (w0 := w11.drew) (F := R3) rfl _ _ _ rfl entT emC_len ⟨e, A10, c10⟩ (emC_one _) rfl rfl (HEN11.out.drewN 1) rfl rfl (by have := HRD.out.lns.2.1; unfold maxLen; omega) (by have := HRD.out.lns.2.1; omega) ?_
     intro A12 c12 w12 hr12 hf12
     have HR12 := Lib.hid hr12
     have HF12 : Hid (Frm (fun g => R3 g ∧ atA EA g) w11 w12) := Lib.hid (((Frm.refl _ w11).drew).trans hf12)
     have HWB12 := Lib.hid (HWB11.out.frmA HEN11.out (by decide) HF12.out)
     have HBX12 := Lib.hid (HBX11.out.frm HF12.out (fun e9 => HRD.out.nE e9.2))
     have v12 : w12.cell? ⟨wb, 2, none⟩ = some (.slice EA em.length ec) := HWB12.out.cell 2
     have vf12 := HWB12.out.free 2
     clear hr12 hf12 v2 g0 g1 g2 g3
     refine hK.out _ _ ?_ (fun hHeld => ?_)
     ·exact ⟨HWB12.out.cell 2, HBX12.out.cell 0, HBX12.out.cell 1, HBX12.out.cell 2, HBX12.out.cell 3⟩
     clear hK K
     try simp only [Act.put, List.getElem_toArray, List.getElem_cons_succ, List.getElem_cons_zero, List.setIfInBounds_toArray, List.set_cons_zero, List.set_cons_succ]
     refine AnyZ.takeAny (i := 8) (v := ?_) rfl (by kernel_rfl) (by kernel_rfl) (by kernel_rfl) (by kernel_rfl) (fun _ _ _ h => h) (Or.inl ⟨by kernel_rfl, ?_⟩) (by assumption) ?_
     rotate_left
     ·intro w hSw; (try dsimp only at hSw); go_simp; try with_reducible rfl
     try simp only [Act.put, List.getElem_toArray, List.getElem_cons_succ, List.getElem_cons_zero, List.setIfInBounds_toArray, List.set_cons_zero, List.set_cons_succ]
     refine AnyZ.take (i := 9) (v := ?_) rfl (by kernel_rfl) (by kernel_rfl) (by kernel_rfl) (by kernel_rfl) (fun _ _ _ h => h) (Or.inl ⟨by kernel_rfl, ?_⟩) (by assumption) ?_
     rotate_left
     ·intro w hSw; (try dsimp only at hSw); go_simp; try with_reducible rfl
     try simp only [Act.put, List.getElem_toArray, List.getElem_cons_succ, List.getElem_cons_zero, List.setIfInBounds_toArray, List.set_cons_zero, List.set_cons_succ]
     refine AnyZ.ready (rs := [10]) (by kernel_rfl) (by simp) ?_
     refine AllZ.last rfl (by kernel_rfl) (fun K hK => ?_) AllZ.nil
     go_simp
     refine hK.out _ _ ?_
     clear hK K
     try simp only [Act.put, List.getElem_toArray, List.getElem_cons_succ, List.getElem_cons_zero, List.setIfInBounds_toArray, List.set_cons_zero, List.set_cons_succ]
     refine AnyZ.done (by kernel_rfl) ?_ _
     skip
     go_wp2_with fail
     go_ret
     have hr := HR12.out
     have hf := HF12.out
     rw [HW11.out] at hf
     have hr' : Rw 4 emC 40 (fun g => (R3 g ∧ atA EA g) ∨ (w10.setCell ⟨gb, 3, none⟩ (.slice A10 e.ds.length c10)).heap.size < g) w12 A12 c12 (em ++ [⟨e, A10, c10⟩]) := by
      rw [← HW11.out]; exact hr
     have hfin := H7.out.wr13 H9.out HRD.out.inR HRD.out.nE HO10.out HB10.out hr' hf
     have hwf := wl_frm H7.out hfin.2
     rw [HRS.out]
     refine ⟨rfl, ⟨_, _, _, _, _, _, _, hfin.1, ?_, ?_⟩, HKB7.out.1.trans hwf.1, fun g hg => (hwf.2 g hg).trans (HKB7.out.2 g hg)⟩
     ·rw [List.map_append]; rfl
     ·rw [List.map_append, HRD.out.ems, allE_snoc, List.append_assoc]; rfl
    ·have tk : ((kw : Int) != 0) = true := by rw [bne_iff_ne]; omega
     have HRS : Hid (res = (dw, pre.map SgM.s ++ [x.s], kw)) := Lib.hid (by
      rw [HRES2.out]; unfold wrLast
      simp only [← HEQ.out.2.1, ← HRC.out, ← HWRE.out]
      exact if_neg hk0)
     clear hk0
     go_wp2_with fail
     go_ret
     rw [HRS.out]
     exact ⟨rfl, ⟨_, _, _, _, _, _, _, H7.out, by rw [List.map_append]; rfl, by rw [HRD.out.ems, allE_snoc]⟩, HKB7.out.1, HKB7.out.2⟩
   ·have tkc : ((kc : Int) != 0) = true := by rw [bne_iff_ne]; omega
    have HRS : Hid (res = (dc, ss, kc)) := Lib.hid (by
     rw [HRES.out]; unfold write1
     rw [if_pos HDU.out]
     simp only [← HCRE.out]
     exact if_neg hkc)
    clear hkc
    go_wp2_with fail
    go_ret
    rw [HRS.out]
    exact ⟨rfl, ⟨_, _, _, _, _, _, _, H3.out, HSM.out, HEM.out⟩, HKB3.out.1, HKB3.out.2⟩
  ·obtain ⟨x0, hx0⟩ : ∃ x, sm = sm.dropLast ++ [x] := ⟨sm.getLast hsm0, (List.dropLast_concat_getLast hsm0).symm⟩
   obtain ⟨pre0, hpre0⟩ : ∃ z, z = sm.dropLast := ⟨_, rfl⟩
   rw [← hpre0] at hx0
   have hss : ss = pre0.map SgM.s ++ [x0.s] := by rw [← HSM.out, hx0, List.map_append]; rfl
   have hsz0 : 256 ≤ (sgB x0.s).length := by
    have h9 := hdu
    unfold dueW at h9
    rw [hss, List.getLast?_concat] at h9
    simpa using h9
   have hat0 := H1.out
   rw [hx0] at hat0
   have hlen : sm.length ≤ 1000000 := by have h9 := HN.out.1; rw [← HSM.out, List.length_map] at h9; exact h9
   have hnl : sm.length = pre0.length + 1 := by rw [hx0]; simp
   obtain ⟨b0, o0, hSA0, hsg⟩ := hat0.segAt
   have v1 : w1.cell? ⟨wb, 1, none⟩ = some (.slice SA sm.length sc) := H1.out.blk.cell 1
   rw [hSA0] at v1
   have y2 := hsg.e2
   obtain ⟨sz0, hsz2⟩ : ∃ z, z = (sgB x0.s).length := ⟨_, rfl⟩
   obtain ⟨pn0, hpn⟩ : ∃ z, z = pre0.length := ⟨_, rfl⟩
   obtain ⟨n0, hn0⟩ : ∃ z, z = sm.length := ⟨_, rfl⟩
   rw [← hsz2, ← hpn] at y2
   rw [← hn0] at v1
   have hw : IntKind.i64.wrap ((n0 : Int) - 1) = (pn0 : Int) := by rw [IntKind.wrap_i64]; omega
   have hw2 : IntKind.i64.wrap (pn0 : Int) = (pn0 : Int) := by rw [IntKind.wrap_i64]; omega
   have hjn : (pn0 : Int) < (n0 : Int) := by omega
   have hj0 : (0 : Int) ≤ (pn0 : Int) := by omega
   have tz : ((n0 : Int) == 0) = false := by rw [beq_eq_false_iff_ne]; omega
   have tg : decide ((sz0 : Int) ≥ 256) = true := by rw [decide_eq_true_eq]; omega
   clear hdu hx0 hpre0 hss hsz0 hlen hnl hat0 hsg hn0 hsz2 hpn hSA0 hsm0
   go_enter Tryz.func58, Tryz.ntmps58
   go_upto_region 1 with fail
   rw [← HW1.out, ← HGB.out]
   refine AnyZ.start (S := (fun V => V.cell? ⟨wb, 1, none⟩ = some (.slice (some ⟨b0, o0, none⟩) n0 sc) ∧ V.cell? ⟨b0, o0 + pn0 * 4 + 2, none⟩ = some (.int .i64 (sz0 : Int)))) (z := 1022) (by kernel_rfl) ?_ (fun hHeld => ?_)
   ·exact ⟨v1, y2⟩
   refine AnyZ.take (i := 0) (v := ?_) rfl (by kernel_rfl) (by kernel_rfl) (by kernel_rfl) (by kernel_rfl) (fun _ _ _ h => h) (Or.inl ⟨by kernel_rfl, ?_⟩) (by assumption) ?_
   rotate_left
   ·intro w hSw; (try dsimp only at hSw); go_simp; try with_reducible rfl
   try simp only [Act.put, List.getElem_toArray, List.getElem_cons_zero, List.setIfInBounds_toArray, List.set_cons_zero, List.set_cons_succ]
   refine AnyZ.take (i := 1) (v := ?_) rfl (by kernel_rfl) (by kernel_rfl) (by kernel_rfl) (by kernel_rfl) (fun _ _ _ h => h) (Or.inl ⟨by kernel_rfl, ?_⟩) (by assumption) ?_
   rotate_left
   ·intro w hSw; (try dsimp only at hSw); go_simp; try with_reducible rfl
   try simp only [Act.put, List.getElem_toArray, List.getElem_cons_succ, List.getElem_cons_zero, List.setIfInBounds_toArray, List.set_cons_zero, List.set_cons_succ]
   refine AnyZ.take (i := 2) (v := ?_) rfl (by kernel_rfl) (by kernel_rfl) (by kernel_rfl) (by kernel_rfl) (fun _ _ _ h => h) (Or.inl ⟨by kernel_rfl, ?_⟩) (by assumption) ?_
   rotate_left
   ·intro w hSw; (try dsimp only at hSw); go_simp; try with_reducible rfl
   try simp only [Act.put, List.getElem_toArray, List.getElem_cons_succ, List.getElem_cons_zero, List.setIfInBounds_toArray, List.set_cons_zero, List.set_cons_succ]
   refine AnyZ.take (i := 3) (v := ?_) rfl (by kernel_rfl) (by kernel_rfl) (by kernel_rfl) (by kernel_rfl) (fun _ _ _ h => h) (Or.inl ⟨by kernel_rfl, ?_⟩) (by assumption) ?_
   rotate_left
   ·intro w hSw; (try dsimp only at hSw); go_simp; try with_reducible rfl
   try simp only [Act.put, List.getElem_toArray, List.getElem_cons_succ, List.getElem_cons_zero, List.setIfInBounds_toArray, List.set_cons_zero, List.set_cons_succ]
   refine AnyZ.take (i := 4) (v := ?_) rfl (by kernel_rfl) (by kernel_rfl) (by kernel_rfl) (by kernel_rfl) (fun _ _ _ h => h) (Or.inl ⟨by kernel_rfl, ?_⟩) (by assumption) ?_
   rotate_left
   ·intro w hSw; (try dsimp only at hSw); go_simp; try with_reducible rfl
   try simp only [Act.put, List.getElem_toArray, List.getElem_cons_succ, List.getElem_cons_zero, List.setIfInBounds_toArray, List.set_cons_zero, List.set_cons_succ]
   refine AnyZ.take (i := 5) (v := ?_) rfl (by kernel_rfl) (by kernel_rfl) (by kernel_rfl) (by kernel_rfl) (fun _ _ _ h => h) (Or.inl ⟨by kernel_rfl, ?_⟩) (by assumption) ?_
   rotate_left
   ·intro w hSw; (try dsimp only at hSw); go_simp; try with_reducible rfl
   try simp only [Act.put, List.getElem_toArray, List.getElem_cons_succ, List.getElem_cons_zero, List.setIfInBounds_toArray, List.set_cons_zero, List.set_cons_succ]
   refine AnyZ.take (i := 6) (v := ?_) rfl (by kernel_rfl) (by kernel_rfl) (by kernel_rfl) (by kernel_rfl) (fun _ _ _ h => h) (Or.inl ⟨by kernel_rfl, ?_⟩) (by assumption) ?_
   rotate_left
   ·intro w hSw; (try dsimp only at hSw); go_simp; try with_reducible rfl
   try simp only [Act.put, List.getElem_toArray, List.getElem_cons_succ, List.getElem_cons_zero, List.setIfInBounds_toArray, List.set_cons_zero, List.set_cons_succ]
   refine AnyZ.take (i := 7) (v := ?_) rfl (by kernel_rfl) (by kernel_rfl) (by kernel_rfl) (by kernel_rfl) (fun _ _ _ h => h) (Or.inl ⟨by kernel_rfl, ?_⟩) (by assumption) ?_
   rotate_left
   ·intro w hSw; (try dsimp only at hSw); go_simp; try with_reducible rfl
   try simp only [Act.put, List.getElem_toArray, List.getElem_cons_succ, List.getElem_cons_zero, List.setIfInBounds_toArray, List.set_cons_zero, List.set_cons_succ]
   refine AnyZ.take (i := 8) (v := ?_) rfl (by kernel_rfl) (by kernel_rfl) (by kernel_rfl) (by kernel_rfl) (fun _ _ _ h => h) (Or.inl ⟨by kernel_rfl, ?_⟩) (by assumption) ?_
   rotate_left
   ·intro w hSw; (try dsimp only at hSw); go_simp; try with_reducible rfl
   try simp only [Act.put, List.getElem_toArray, List.getElem_cons_succ, List.getElem_cons_zero, List.setIfInBounds_toArray, List.set_cons_zero, List.set_cons_succ]
   refine AnyZ.take (i := 9) (v := ?_) rfl (by kernel_rfl) (by kernel_rfl) (by kernel_rfl) (by kernel_rfl) (fun _ _ _ h => h) (Or.inl ⟨by kernel_rfl, ?_⟩) (by assumption) ?_
   rotate_left
   ·intro w hSw; (try dsimp only at hSw); go_simp; try with_reducible rfl
   try simp only [Act.put, List.getElem_toArray, List.getElem_cons_succ, List.getElem_cons_zero, List.setIfInBounds_toArray, List.set_cons_zero, List.set_cons_succ]
   refine AnyZ.take (i := 10) (v := ?_) rfl (by kernel_rfl) (by kernel_rfl) (by kernel_rfl) (by kernel_rfl) (fun _ _ _ h => h) (Or.inl ⟨by kernel_rfl, ?_⟩) (by assumption) ?_
   rotate_left
   ·intro w hSw; (try dsimp only at hSw); go_simp; try with_reducible rfl
   try simp only [Act.put, List.getElem_toArray, List.getElem_cons_succ, List.getElem_cons_zero, List.setIfInBounds_toArray, List.set_cons_zero, List.set_cons_succ]
   refine AnyZ.take (i := 11) (v := ?_) rfl (by kernel_rfl) (by kernel_rfl) (by kernel_rfl) (by kernel_rfl) (fun _ _ _ h => h) (Or.inl ⟨by kernel_rfl, ?_⟩) (by assumption) ?_
   rotate_left
   ·intro w hSw; (try dsimp only at hSw); go_simp; try with_reducible rfl
   try simp only [Act.put, List.getElem_toArray, List.getElem_cons_succ, List.getElem_cons_zero, List.setIfInBounds_toArray, List.set_cons_zero, List.set_cons_succ]
   refine AnyZ.take (i := 12) (v := ?_) rfl (by kernel_rfl) (by kernel_rfl) (by kernel_rfl) (by kernel_rfl) (fun _ _ _ h => h) (Or.inl ⟨by kernel_rfl, ?_⟩) (by assumption) ?_
   rotate_left
   ·intro w hSw; (try dsimp only at hSw); go_simp; try with_reducible rfl
   try simp only [Act.put, List.getElem_toArray, List.getElem_cons_succ, List.getElem_cons_zero, List.setIfInBounds_toArray, List.set_cons_zero, List.set_cons_succ]
   refine AnyZ.take (i := 13) (v := ?_) rfl (by kernel_rfl) (by kernel_rfl) (by kernel_rfl) (by kernel_rfl) (fun _ _ _ h => h) (Or.inl ⟨by kernel_rfl, ?_⟩) (by assumption) ?_
   rotate_left
   ·intro w hSw; (try dsimp only at hSw); go_simp; try with_reducible rfl
   try simp only [Act.put, List.getElem_toArray, List.getElem_cons_succ, List.getElem_cons_zero, List.setIfInBounds_toArray, List.set_cons_zero, List.set_cons_succ]
   refine AnyZ.take (i := 14) (v := ?_) rfl (by kernel_rfl) (by kernel_rfl) (by kernel_rfl) (by kernel_rfl) (fun _ _ _ h => h) (Or.inl ⟨by kernel_rfl, ?_⟩) (by assumption) ?_
   rotate_left
   ·intro w hSw; (try dsimp only at hSw); go_simp; try with_reducible rfl
   try simp only [Act.put, List.getElem_toArray, List.getElem_cons_succ, List.getElem_cons_zero, List.setIfInBounds_toArray, List.set_cons_zero, List.set_cons_succ]
   refine AnyZ.take (i := 15) (v := ?_) rfl (by kernel_rfl) (by kernel_rfl) (by kernel_rfl) (by kernel_rfl) (fun _ _ _ h => h) (Or.inl ⟨by kernel_rfl, ?_⟩) (by assumption) ?_
   rotate_left
   ·intro w hSw; (try dsimp only at hSw); go_simp; try with_reducible rfl
   try simp only [Act.put, List.getElem_toArray, List.getElem_cons_succ, List.getElem_cons_zero, List.setIfInBounds_toArray, List.set_cons_zero, List.set_cons_succ]
   refine AnyZ.take (i := 16) (v := ?_) rfl (by kernel_rfl) (by kernel_rfl) (by kernel_rfl) (by kernel_rfl) (fun _ _ _ h => h) (Or.inl ⟨by kernel_rfl, ?_⟩) (by assumption) ?_
   rotate_left
   ·intro w hSw; (try dsimp only at hSw); go_simp; try with_reducible rfl
   try simp only [Act.put, List.getElem_toArray, List.getElem_cons_succ, List.getElem_cons_zero, List.setIfInBounds_toArray, List.set_cons_zero, List.set_cons_succ]
   refine AnyZ.take (i := 17) (v := ?_) rfl (by kernel_rfl) (by kernel_rfl) (by kernel_rfl) (by kernel_rfl) (fun _ _ _ h => h) (Or.inl ⟨by kernel_rfl, ?_⟩) (by assumption) ?_
   rotate_left
   ·intro w hSw; (try dsimp only at hSw); go_simp; try with_reducible rfl
   try simp only [Act.put, List.getElem_toArray, List.getElem_cons_succ, List.getElem_cons_zero, List.setIfInBounds_toArray, List.set_cons_zero, List.set_cons_succ]
   refine AnyZ.take (i := 18) (v := ?_) rfl (by kernel_rfl) (by kernel_rfl) (by kernel_rfl) (by kernel_rfl) (fun _ _ _ h => h) (Or.inl ⟨by kernel_rfl, ?_⟩) (by assumption) ?_
   rotate_left
   ·intro w hSw; (try dsimp only at hSw); go_simp; try with_reducible rfl
   try simp only [Act.put, List.getElem_toArray, List.getElem_cons_succ, List.getElem_cons_zero, List.setIfInBounds_toArray, List.set_cons_zero, List.set_cons_succ]
   refine AnyZ.take (i := 19) (v := ?_) rfl (by kernel_rfl) (by kernel_rfl) (by kernel_rfl) (by kernel_rfl) (fun _ _ _ h => h) (Or.inl ⟨by kernel_rfl, ?_⟩) (by assumption) ?_
   rotate_left
   ·intro w hSw; (try dsimp only at hSw); go_simp; try with_reducible rfl
   try simp only [Act.put, List.getElem_toArray, List.getElem_cons_succ, List.getElem_cons_zero, List.setIfInBounds_toArray, List.set_cons_zero, List.set_cons_succ]
   refine AnyZ.take (i := 20) (v := ?_) rfl (by kernel_rfl) (by kernel_rfl) (by kernel_rfl) (by kernel_rfl) (fun _ _ _ h => h) (Or.inl ⟨by kernel_rfl, ?_⟩) (by assumption) ?_
   rotate_left
   ·intro w hSw; (try dsimp only at hSw); go_simp; try with_reducible rfl
   try simp only [Act.put, List.getElem_toArray, List.getElem_cons_succ, List.getElem_cons_zero, List.setIfInBounds_toArray, List.set_cons_zero, List.set_cons_succ]
   refine AnyZ.take (i := 21) (v := ?_) rfl (by kernel_rfl) (by kernel_rfl) (by kernel_rfl) (by kernel_rfl) (fun _ _ _ h => h) (Or.inl ⟨by kernel_rfl, ?_⟩) (by assumption) ?_
   rotate_left
   ·intro w hSw; (try dsimp only at hSw); go_simp; try with_reducible rfl
   try simp only [Act.put, List.getElem_toArray, List.getElem_cons_succ, List.getElem_cons_zero, List.setIfInBounds_toArray, List.set_cons_zero, List.set_cons_succ]
   refine AnyZ.done (by kernel_rfl) ?_ _
   skip
   clear hHeld v1 y2 hw hw2 hjn hj0 tz tg
   obtain ⟨W0, hW0⟩ : ∃ z, z = w1.drew := ⟨_, rfl⟩
   rw [← hW0]
   have hbd : Below w1.heap.size w1 W0 := by rw [hW0]; exact below_drewN (Below.refl _ _) 1
   obtain ⟨R2, hR2⟩ : ∃ z : Nat → Prop, z = fun g => R g ∨ g = gb := ⟨_, rfl⟩
   have H0 : Hid (Wl0 G R2 B p wb d SA sc sm EA ec em W0) := Lib.hid (by rw [hR2]; exact H1.out.below hbd)
   have HIN : Hid (R2 gb) := Lib.hid (by rw [hR2]; exact .inr rfl)
   have HBX0 := Lib.hid (HB1.out.below hbd HB1.out.lt)
   have HDS0 := Lib.hid (HDS.out.below hbd)
   have HKB0 : Hid (Below B w W0 ∧ Kept G w W0) := Lib.hid ⟨HKB.out.1.trans (hbd.mono H1.out.dx.le), fun g hg => (hbd.block g (H1.out.oldG g hg)).trans (HKB.out.2 g hg)⟩
   have hri := rightE_iff.1 HE.out
   have HNMD := Lib.hid (WNamed_any (HLA.out.on HKB0.out.1).here (i := e.ix) (by omega) (by omega))
   have c0 : W0.cell? ⟨gb, 0, none⟩ = some (.int .i64 e.ix) := HBX0.out.cell 0
   obtain ⟨nm0, hnm0⟩ : ∃ z, z = nmWA e.ix := ⟨_, rfl⟩
   rw [← hnm0] at HNMD
   have HNM0 := Lib.hid hnm0
   clear hW0 hbd hR2 HDS HKB H1 HB1 hri hnm0
   go_wp2_with fail
   (with_reducible refine HNMD.out.mono ?_); rintro e' w2 ⟨rfl, hb2⟩
   have H2 := Lib.hid (H0.out.below hb2)
   have HBX2 := Lib.hid (HBX0.out.below hb2 HBX0.out.lt)
   have HDS2 := Lib.hid (HDS0.out.below hb2)
   have HKB2 : Hid (Below B w w2 ∧ Kept G w w2) := Lib.hid ⟨HKB0.out.1.trans (hb2.mono H0.out.dx.le), fun g hg => (hb2.block g (H0.out.oldG g hg)).trans (HKB0.out.2 g hg)⟩
   obtain ⟨⟨dc, kc⟩, hcr⟩ : ∃ z, z = Dsk.create d (nmW e.ix) := ⟨_, rfl⟩
   have HCRE := Lib.hid hcr
   have HCR := Lib.hid (X_Create (s' := dc) (k := kc) (ki := (kc : Int)) H2.out.dx nm0 (by rw [HNM0.out]; unfold nmWA; simp [ByteArray.size, nmOf_len]; unfold maxLen; decide) (by rw [HNM0.out, sname_nmWA]; exact hcr.symm) rfl)
   have vp : w2.cell? ⟨wb, 0, none⟩ = some (.pointer (some ⟨p, 0, none⟩)) := H2.out.blk.cell 0
   clear hb2 hcr c0 HNMD H0 HBX0 HDS0 HKB0
   go_wp2_with fail
   (with_reducible refine HCR.out.mono ?_); rintro e' w3 ⟨rfl, hd3, hb3, hk3⟩
   have H3 := Lib.hid (H2.out.kept hd3 hk3)
   have HBX3 : Hid (Blk w3 gb 40 (entV e A c)) := Lib.hid ((hk3 gb (.inl (.inr HIN.out))).trans HBX2.out)
   have HDS3 := Lib.hid (HDS2.out.kept hk3 (fun g hg => .inl (.inl (HF.out g hg))))
   have HKB3 : Hid (Below B w w3 ∧ Kept G w w3) := Lib.hid ⟨HKB2.out.1.trans hb3, fun g hg => (hk3 g (.inl (.inl hg))).trans (HKB2.out.2 g hg)⟩
   clear hd3 hb3 hk3 vp HCR H2 HBX2 HDS2 HKB2
   by_cases hkc : kc = 0
   ·subst hkc
    have tkc : ((((0 : Nat) : Int)) != 0) = false := rfl
    have v1 : w3.cell? ⟨wb, 1, none⟩ = some (.slice SA sm.length sc) := H3.out.blk.cell 1
    have hsml : sm.length ≤ 1000000 := by have h9 := HN.out.1; rw [← HSM.out, List.length_map] at h9; exact h9
    go_upto_region 7 with (at_builtin; refine wpList_appendR1 (f := smC) rfl (.tmp 48) (.tmp 51) 90 rfl sgT smC_len ⟨⟨e.ix, [], false⟩, none, 0⟩ (smC_one _) (by rw [HNM0.out]; rfl) rfl H3.out.segs rfl rfl (by unfold maxLen; omega) (by omega) ?_; intro SA8 sc2 w8 hr8 hf8; have HWB8 := Lib.hid (H3.out.blk.frmA H3.out.segs (by decide) hf8); have v8 : w8.cell? ⟨wb, 1, none⟩ = some (.slice SA sm.length sc) := HWB8.out.cell 1; have vf8 := HWB8.out.free 1)
    obtain ⟨W, hW⟩ : ∃ z, z = w8.setCell ⟨wb, 1, none⟩ (.slice SA8 (sm.length + 1) sc2) := ⟨_, rfl⟩
    rw [← hW]
    have hmore := H3.out.more hr8 hf8
    rw [← hW] at hmore
    have hwf := wl_frm H3.out hmore.2
    have hbxW : Blk W gb 40 (entV e A c) := by
     rw [hW]; exact (HBX3.out.frmA H3.out.segs (by decide) hf8).far (p := ⟨wb, 1, none⟩) (fun e9 => (H3.out.own gb HIN.out).2.2 e9) _
    have hdsW := HDS3.out.frm hmore.2 (fun g hg h1 => h1.elim (fun h2 => (H3.out.own g h2).2.1 (HF.out g hg)) (fun h2 => H3.out.notG (h2 ▸ HF.out g hg)))
    obtain ⟨R3, hR3⟩ : ∃ z : Nat → Prop, z = fun g => R2 g ∨ (w3.heap.size ≤ g ∧ g < W.heap.size) := ⟨_, rfl⟩
    obtain ⟨x, hx⟩ : ∃ z : SgM, z = ⟨⟨e.ix, [], false⟩, none, 0⟩ := ⟨_, rfl⟩
    obtain ⟨pre, hpre⟩ : ∃ z, z = sm := ⟨_, rfl⟩
    have hat := hmore.1
    rw [← hR3, ← hx, ← hpre] at hat
    have HRD : Hid (RdyW te G F R3 B p wb dc SA8 sc2 pre x EA ec em gb e A c w W) := Lib.hid ⟨hat, hbxW, by rw [hR3]; exact .inl HIN.out, HNE.out, hdsW, HKB3.out.1.trans hwf.1, fun g hg => (hwf.2 g hg).trans (HKB3.out.2 g hg), by rw [HEM.out, hpre, HSM.out, hx, List.append_nil], by
     rw [hpre, hx]
     refine ⟨hsml, ?_, ?_, Nat.zero_le 8⟩
     ·have h9 := HN.out.2; rw [← HEM.out, List.length_map] at h9; exact h9
     ·show (recsB []).length < 256
      simp [recsB]⟩
    have HRES2 : Hid (res = wrLast dc (pre.map SgM.s) x.s e) := Lib.hid (by
     rw [HRES.out]; unfold write1
     rw [if_pos HDU.out, hpre, HSM.out, hx]
     simp only [← HCRE.out]
     exact if_pos trivial)
    obtain ⟨d2, hd2⟩ : ∃ z, z = dc := ⟨_, rfl⟩
    rw [← hd2] at HRD HRES2
    clear hd2 hpre hx hR3 hat hdsW hbxW hwf hmore hW hr8 hf8 v1 v8 vf8 hsml tkc HWB8 H3 HBX3 HDS3 HKB3
    obtain ⟨b, o, hSA, hsg⟩ := HRD.out.at_.segAt
    subst hSA
    have HSG := Lib.hid hsg
    obtain ⟨nm, hnm⟩ : ∃ z, z = nmWA x.s.ix := ⟨_, rfl⟩
    obtain ⟨sz, hsz⟩ : ∃ z, z = (sgB x.s).length := ⟨_, rfl⟩
    obtain ⟨pn, hpn⟩ : ∃ z, z = pre.length := ⟨_, rfl⟩
    obtain ⟨wt, hwt⟩ : ∃ z, z = x.s.wet := ⟨_, rfl⟩
    obtain ⟨xc, hxc⟩ : ∃ z, z = x.c := ⟨_, rfl⟩
    obtain ⟨xA, hxA⟩ : ∃ z, z = x.A := ⟨_, rfl⟩
    obtain ⟨as_, has⟩ : ∃ z, z = ats x.s.es := ⟨_, rfl⟩
    rw [← hnm, ← hsz, ← hpn, ← hwt, ← hxc, ← hxA, ← has] at HSG
    obtain ⟨n, hn⟩ : ∃ n, n = pn + 1 := ⟨_, rfl⟩
    rw [← hn] at HSG
    have HEQ : Hid (nm = nmWA x.s.ix ∧ sz = (sgB x.s).length ∧ pn = pre.length ∧ wt = x.s.wet ∧ xc = x.c ∧ xA = x.A ∧ as_ = ats x.s.es ∧ n = pn + 1) := Lib.hid ⟨hnm, hsz, hpn, hwt, hxc, hxA, has, hn⟩
    have hpl : pn ≤ 1000000 := by rw [hpn]; exact HRD.out.lns.1
    have hszl : sz < 256 := by rw [hsz]; exact HRD.out.lns.2.2.1
    clear hsg hnm hsz hpn hwt hxc hxA has
    have v1 := HSG.out.v1
    have hw : IntKind.i64.wrap ((n : Int) - 1) = (pn : Int) := by rw [IntKind.wrap_i64]; omega
    have hw2 : IntKind.i64.wrap (pn : Int) = (pn : Int) := by rw [IntKind.wrap_i64]; omega
    have hjn : (pn : Int) < (n : Int) := by omega
    have hj0 : (0 : Int) ≤ (pn : Int) := by omega
    clear hn
    go_upto_region 7 with fail
    refine AnyZ.start (S := (fun V => V.cell? ⟨wb, 1, none⟩ = some (.slice (some ⟨b, o, none⟩) n sc2))) (z := 1012) (by kernel_rfl) ?_ (fun hHeld => ?_)
    ·exact v1
    refine AnyZ.take (i := 0) (v := ?_) rfl (by kernel_rfl) (by kernel_rfl) (by kernel_rfl) (by kernel_rfl) (fun _ _ _ h => h) (Or.inl ⟨by kernel_rfl, ?_⟩) (by assumption) ?_
    rotate_left
    ·intro w hSw; (try dsimp only at hSw); go_simp; try with_reducible rfl
    try simp only [Act.put, List.getElem_toArray, List.getElem_cons_zero, List.setIfInBounds_toArray, List.set_cons_zero, List.set_cons_succ]
    refine AnyZ.take (i := 1) (v := ?_) rfl (by kernel_rfl) (by kernel_rfl) (by kernel_rfl) (by kernel_rfl) (fun _ _ _ h => h) (Or.inl ⟨by kernel_rfl, ?_⟩) (by assumption) ?_
    rotate_left
    ·intro w hSw; (try dsimp only at hSw); go_simp; try with_reducible rfl
    try simp only [Act.put, List.getElem_toArray, List.getElem_cons_succ, List.getElem_cons_zero, List.setIfInBounds_toArray, List.set_cons_zero, List.set_cons_succ]
    refine AnyZ.take (i := 2) (v := ?_) rfl (by kernel_rfl) (by kernel_rfl) (by kernel_rfl) (by kernel_rfl) (fun _ _ _ h => h) (Or.inl ⟨by kernel_rfl, ?_⟩) (by assumption) ?_
    rotate_left
    ·intro w hSw; (try dsimp only at hSw); go_simp; try with_reducible rfl
    try simp only [Act.put, List.getElem_toArray, List.getElem_cons_succ, List.getElem_cons_zero, List.setIfInBounds_toArray, List.set_cons_zero, List.set_cons_succ]
    refine AnyZ.take (i := 3) (v := ?_) rfl (by kernel_rfl) (by kernel_rfl) (by kernel_rfl) (by kernel_rfl) (fun _ _ _ h => h) (Or.inl ⟨by kernel_rfl, ?_⟩) (by assumption) ?_
    rotate_left
    ·intro w hSw; (try dsimp only at hSw); go_simp; try with_reducible rfl
    try simp only [Act.put, List.getElem_toArray, List.getElem_cons_succ, List.getElem_cons_zero, List.setIfInBounds_toArray, List.set_cons_zero, List.set_cons_succ]
    refine AnyZ.take (i := 4) (v := ?_) rfl (by kernel_rfl) (by kernel_rfl) (by kernel_rfl) (by kernel_rfl) (fun _ _ _ h => h) (Or.inl ⟨by kernel_rfl, ?_⟩) (by assumption) ?_
    rotate_left
    ·intro w hSw; (try dsimp only at hSw); go_simp; try with_reducible rfl
    try simp only [Act.put, List.getElem_toArray, List.getElem_cons_succ, List.getElem_cons_zero, List.setIfInBounds_toArray, List.set_cons_zero, List.set_cons_succ]
    refine AnyZ.take (i := 5) (v := ?_) rfl (by kernel_rfl) (by kernel_rfl) (by kernel_rfl) (by kernel_rfl) (fun _ _ _ h => h) (Or.inl ⟨by kernel_rfl, ?_⟩) (by assumption) ?_
    rotate_left
    ·intro w hSw; (try dsimp only at hSw); go_simp; try with_reducible rfl
    try simp only [Act.put, List.getElem_toArray, List.getElem_cons_succ, List.getElem_cons_zero, List.setIfInBounds_toArray, List.set_cons_zero, List.set_cons_succ]
    refine AnyZ.take (i := 6) (v := ?_) rfl (by kernel_rfl) (by kernel_rfl) (by kernel_rfl) (by kernel_rfl) (fun _ _ _ h => h) (Or.inl ⟨by kernel_rfl, ?_⟩) (by assumption) ?_
    rotate_left
    ·intro w hSw; (try dsimp only at hSw); go_simp; try with_reducible rfl
    try simp only [Act.put, List.getElem_toArray, List.getElem_cons_succ, List.getElem_cons_zero, List.setIfInBounds_toArray, List.set_cons_zero, List.set_cons_succ]
    refine AnyZ.take (i := 7) (v := ?_) rfl (by kernel_rfl) (by kernel_rfl) (by kernel_rfl) (by kernel_rfl) (fun _ _ _ h => h) (Or.inl ⟨by kernel_rfl, ?_⟩) (by assumption) ?_
    rotate_left
    ·intro w hSw; (try dsimp only at hSw); go_simp; try with_reducible rfl
    try simp only [Act.put, List.getElem_toArray, List.getElem_cons_succ, List.getElem_cons_zero, List.setIfInBounds_toArray, List.set_cons_zero, List.set_cons_succ]
    refine AnyZ.take (i := 8) (v := ?_) rfl (by kernel_rfl) (by kernel_rfl) (by kernel_rfl) (by kernel_rfl) (fun _ _ _ h => h) (Or.inl ⟨by kernel_rfl, ?_⟩) (by assumption) ?_
    rotate_left
    ·intro w hSw; (try dsimp only at hSw); go_simp; try with_reducible rfl
    try simp only [Act.put, List.getElem_toArray, List.getElem_cons_succ, List.getElem_cons_zero, List.setIfInBounds_toArray, List.set_cons_zero, List.set_cons_succ]
    refine AnyZ.take (i := 9) (v := ?_) rfl (by kernel_rfl) (by kernel_rfl) (by kernel_rfl) (by kernel_rfl) (fun _ _ _ h => h) (Or.inl ⟨by kernel_rfl, ?_⟩) (by assumption) ?_
    rotate_left
    ·intro w hSw; (try dsimp only at hSw); go_simp; try with_reducible rfl
    try simp only [Act.put, List.getElem_toArray, List.getElem_cons_succ, List.getElem_cons_zero, List.setIfInBounds_toArray, List.set_cons_zero, List.set_cons_succ]
    refine AnyZ.take (i := 10) (v := ?_) rfl (by kernel_rfl) (by kernel_rfl) (by kernel_rfl) (by kernel_rfl) (fun _ _ _ h => h) (Or.inl ⟨by kernel_rfl, ?_⟩) (by assumption) ?_
    rotate_left
    ·intro w hSw; (try dsimp only at hSw); go_simp; try with_reducible rfl
    try simp only [Act.put, List.getElem_toArray, List.getElem_cons_succ, List.getElem_cons_zero, List.setIfInBounds_toArray, List.set_cons_zero, List.set_cons_succ]
    refine AnyZ.take (i := 11) (v := ?_) rfl (by kernel_rfl) (by kernel_rfl) (by kernel_rfl) (by kernel_rfl) (fun _ _ _ h => h) (Or.inl ⟨by kernel_rfl, ?_⟩) (by assumption) ?_
    rotate_left
    ·intro w hSw; (try dsimp only at hSw); go_simp; try with_reducible rfl
    try simp only [Act.put, List.getElem_toArray, List.getElem_cons_succ, List.getElem_cons_zero, List.setIfInBounds_toArray, List.set_cons_zero, List.set_cons_succ]
    refine AnyZ.done (by kernel_rfl) ?_ _
    skip
    clear v1
    have c0 : W.cell? ⟨gb, 0, none⟩ = some (.int .i64 e.ix) := HRD.out.box.cell 0
    have c1 : W.cell? ⟨gb, 1, none⟩ = some (.int .i64 e.tm) := HRD.out.box.cell 1
    have c2 : W.cell? ⟨gb, 2, none⟩ = some (.int .i64 e.kd) := HRD.out.box.cell 2
    have c3 : W.cell? ⟨gb, 3, none⟩ = some (.slice A e.ds.length c) := HRD.out.box.cell 3
    have HREC : Hid (Calls Tryz.prog 82 #[.agg #[.int .i64 e.ix, .int .i64 e.tm, .int .i64 e.kd, .slice A e.ds.length c]] W.drew (RecP (recB e) W.drew)) := Lib.hid (record_any (c := c) HE.out (HRD.out.ds.drewN 1))
    go_wp2_with fail
    (with_reducible refine HREC.out.mono ?_); rintro e' w6 ⟨A6, c6, rfl, ho6, hb6⟩
    have hbd : Below W.heap.size W w6.drew := below_drewN ((below_drewN (Below.refl _ _) 1 : Below W.heap.size W (W.drewN 1)).trans hb6) 1
    have H6 := Lib.hid (HRD.out.at_.below hbd)
    have HBX6 := Lib.hid (HRD.out.box.below hbd HRD.out.box.lt)
    have HDS6 := Lib.hid (HRD.out.ds.below hbd)
    have HKB6 : Hid (Below B w w6.drew ∧ Kept G w w6.drew) := Lib.hid ⟨HRD.out.bel.trans (hbd.mono HRD.out.at_.dx.le), fun g hg => (hbd.block g (HRD.out.at_.oldG g hg)).trans (HRD.out.kep g hg)⟩
    have HO6 := Lib.hid ho6
    obtain ⟨rc, hrc⟩ : ∃ z, z = recB e := ⟨_, rfl⟩
    obtain ⟨⟨dw, kw⟩, hwr⟩ : ∃ z, z = Dsk.write d2 (sgN x.s) (sz : Int) rc := ⟨_, rfl⟩
    rw [← hrc] at HO6 ⊢
    have HRC := Lib.hid hrc
    have HWRE := Lib.hid hwr
    have HWR := Lib.hid (X_Write (c := c6) (s' := dw) (k := kw) (ki := (kw : Int)) H6.out.dx nm (by rw [HEQ.out.1]; unfold nmWA; simp [ByteArray.size, nmOf_len]; unfold maxLen; decide) (sz : Int) (wfN (by omega)) ((SlB.of_own HO6.out).2.drewN 1) (fun h9 => by have h8 := HRD.out.at_.dx.lt; have h7 : W.heap.size ≤ p := h9; omega) (by rw [HEQ.out.1, sname_nmWA]; exact hwr.symm) rfl)
    have HCAP : Hid (rc.length ≤ 2200) := Lib.hid (by rw [hrc]; exact recB_le HE.out)
    obtain ⟨b2, o2, hS2, hsg6⟩ := H6.out.segAt
    injection hS2 with hS2; injection hS2 with hS2 hS3; subst hS2; subst hS3
    rw [← HEQ.out.1, ← HEQ.out.2.1, ← HEQ.out.2.2.1, ← HEQ.out.2.2.2.1, ← HEQ.out.2.2.2.2.1, ← HEQ.out.2.2.2.2.2.1, ← HEQ.out.2.2.2.2.2.2.1, ← HEQ.out.2.2.2.2.2.2.2] at hsg6
    have HSG6 := Lib.hid hsg6
    have z0 := hsg6.e0
    have z2 := hsg6.e2
    have zp := hsg6.v0
    clear hbd ho6 hb6 hrc hwr hsg6 c0 c1 c2 c3 HREC hw hw2 hjn hj0
    go_upto_region 9 with fail
    refine AnyZ.start (S := (fun V => V.cell? ⟨wb, 0, none⟩ = some (.pointer (some ⟨p, 0, none⟩)) ∧ V.cell? ⟨b, o + pn * 4, none⟩ = some (.string nm) ∧ V.cell? ⟨b, o + pn * 4 + 2, none⟩ = some (.int .i64 (sz : Int)))) (z := 1015) (by kernel_rfl) ?_ (fun hHeld => ?_)
    ·exact ⟨zp, z0, z2⟩
    refine AnyZ.take (i := 0) (v := ?_) rfl (by kernel_rfl) (by kernel_rfl) (by kernel_rfl) (by kernel_rfl) (fun _ _ _ h => h) (Or.inl ⟨by kernel_rfl, ?_⟩) (by assumption) ?_
    rotate_left
    ·intro w hSw; (try dsimp only at hSw); go_simp; try with_reducible rfl
    try simp only [Act.put, List.getElem_toArray, List.getElem_cons_zero, List.setIfInBounds_toArray, List.set_cons_zero, List.set_cons_succ]
    refine AnyZ.take (i := 1) (v := ?_) rfl (by kernel_rfl) (by kernel_rfl) (by kernel_rfl) (by kernel_rfl) (fun _ _ _ h => h) (Or.inl ⟨by kernel_rfl, ?_⟩) (by assumption) ?_
    rotate_left
    ·intro w hSw; (try dsimp only at hSw); go_simp; try with_reducible rfl
    try simp only [Act.put, List.getElem_toArray, List.getElem_cons_succ, List.getElem_cons_zero, List.setIfInBounds_toArray, List.set_cons_zero, List.set_cons_succ]
    refine AnyZ.take (i := 2) (v := ?_) rfl (by kernel_rfl) (by kernel_rfl) (by kernel_rfl) (by kernel_rfl) (fun _ _ _ h => h) (Or.inl ⟨by kernel_rfl, ?_⟩) (by assumption) ?_
    rotate_left
    ·intro w hSw; (try dsimp only at hSw); go_simp; try with_reducible rfl
    try simp only [Act.put, List.getElem_toArray, List.getElem_cons_succ, List.getElem_cons_zero, List.setIfInBounds_toArray, List.set_cons_zero, List.set_cons_succ]
    refine AnyZ.take (i := 3) (v := ?_) rfl (by kernel_rfl) (by kernel_rfl) (by kernel_rfl) (by kernel_rfl) (fun _ _ _ h => h) (Or.inl ⟨by kernel_rfl, ?_⟩) (by assumption) ?_
    rotate_left
    ·intro w hSw; (try dsimp only at hSw); go_simp; try with_reducible rfl
    try simp only [Act.put, List.getElem_toArray, List.getElem_cons_succ, List.getElem_cons_zero, List.setIfInBounds_toArray, List.set_cons_zero, List.set_cons_succ]
    refine AnyZ.take (i := 4) (v := ?_) rfl (by kernel_rfl) (by kernel_rfl) (by kernel_rfl) (by kernel_rfl) (fun _ _ _ h => h) (Or.inl ⟨by kernel_rfl, ?_⟩) (by assumption) ?_
    rotate_left
    ·intro w hSw; (try dsimp only at hSw); go_simp; try with_reducible rfl
    try simp only [Act.put, List.getElem_toArray, List.getElem_cons_succ, List.getElem_cons_zero, List.setIfInBounds_toArray, List.set_cons_zero, List.set_cons_succ]
    refine AnyZ.take (i := 5) (v := ?_) rfl (by kernel_rfl) (by kernel_rfl) (by kernel_rfl) (by kernel_rfl) (fun _ _ _ h => h) (Or.inl ⟨by kernel_rfl, ?_⟩) (by assumption) ?_
    rotate_left
    ·intro w hSw; (try dsimp only at hSw); go_simp; try with_reducible rfl
    try simp only [Act.put, List.getElem_toArray, List.getElem_cons_succ, List.getElem_cons_zero, List.setIfInBounds_toArray, List.set_cons_zero, List.set_cons_succ]
    refine AnyZ.take (i := 6) (v := ?_) rfl (by kernel_rfl) (by kernel_rfl) (by kernel_rfl) (by kernel_rfl) (fun _ _ _ h => h) (Or.inl ⟨by kernel_rfl, ?_⟩) (by assumption) ?_
    rotate_left
    ·intro w hSw; (try dsimp only at hSw); go_simp; try with_reducible rfl
    try simp only [Act.put, List.getElem_toArray, List.getElem_cons_succ, List.getElem_cons_zero, List.setIfInBounds_toArray, List.set_cons_zero, List.set_cons_succ]
    refine AnyZ.take (i := 7) (v := ?_) rfl (by kernel_rfl) (by kernel_rfl) (by kernel_rfl) (by kernel_rfl) (fun _ _ _ h => h) (Or.inl ⟨by kernel_rfl, ?_⟩) (by assumption) ?_
    rotate_left
    ·intro w hSw; (try dsimp only at hSw); go_simp; try with_reducible rfl
    try simp only [Act.put, List.getElem_toArray, List.getElem_cons_succ, List.getElem_cons_zero, List.setIfInBounds_toArray, List.set_cons_zero, List.set_cons_succ]
    refine AnyZ.take (i := 8) (v := ?_) rfl (by kernel_rfl) (by kernel_rfl) (by kernel_rfl) (by kernel_rfl) (fun _ _ _ h => h) (Or.inl ⟨by kernel_rfl, ?_⟩) (by assumption) ?_
    rotate_left
    ·intro w hSw; (try dsimp only at hSw); go_simp; try with_reducible rfl
    try simp only [Act.put, List.getElem_toArray, List.getElem_cons_succ, List.getElem_cons_zero, List.setIfInBounds_toArray, List.set_cons_zero, List.set_cons_succ]
    refine AnyZ.take (i := 9) (v := ?_) rfl (by kernel_rfl) (by kernel_rfl) (by kernel_rfl) (by kernel_rfl) (fun _ _ _ h => h) (Or.inl ⟨by kernel_rfl, ?_⟩) (by assumption) ?_
    rotate_left
    ·intro w hSw; (try dsimp only at hSw); go_simp; try with_reducible rfl
    try simp only [Act.put, List.getElem_toArray, List.getElem_cons_succ, List.getElem_cons_zero, List.setIfInBounds_toArray, List.set_cons_zero, List.set_cons_succ]
    refine AnyZ.take (i := 10) (v := ?_) rfl (by kernel_rfl) (by kernel_rfl) (by kernel_rfl) (by kernel_rfl) (fun _ _ _ h => h) (Or.inl ⟨by kernel_rfl, ?_⟩) (by assumption) ?_
    rotate_left
    ·intro w hSw; (try dsimp only at hSw); go_simp; try with_reducible rfl
    try simp only [Act.put, List.getElem_toArray, List.getElem_cons_succ, List.getElem_cons_zero, List.setIfInBounds_toArray, List.set_cons_zero, List.set_cons_succ]
    refine AnyZ.take (i := 11) (v := ?_) rfl (by kernel_rfl) (by kernel_rfl) (by kernel_rfl) (by kernel_rfl) (fun _ _ _ h => h) (Or.inl ⟨by kernel_rfl, ?_⟩) (by assumption) ?_
    rotate_left
    ·intro w hSw; (try dsimp only at hSw); go_simp; try with_reducible rfl
    try simp only [Act.put, List.getElem_toArray, List.getElem_cons_succ, List.getElem_cons_zero, List.setIfInBounds_toArray, List.set_cons_zero, List.set_cons_succ]
    refine AnyZ.take (i := 12) (v := ?_) rfl (by kernel_rfl) (by kernel_rfl) (by kernel_rfl) (by kernel_rfl) (fun _ _ _ h => h) (Or.inl ⟨by kernel_rfl, ?_⟩) (by assumption) ?_
    rotate_left
    ·intro w hSw; (try dsimp only at hSw); go_simp; try with_reducible rfl
    try simp only [Act.put, List.getElem_toArray, List.getElem_cons_succ, List.getElem_cons_zero, List.setIfInBounds_toArray, List.set_cons_zero, List.set_cons_succ]
    refine AnyZ.ready (rs := [13]) (by kernel_rfl) (by simp) ?_
    refine AllZ.cons rfl (fun K hK => ?_) AllZ.nil
    go_simp
    (with_reducible refine (HWR.out).mono ?_); rintro e' w7 ⟨rfl, hd7, hb7, hk7⟩
    have H7 := Lib.hid (H6.out.kept hd7 hk7)
    have HKP := Lib.hid hk7
    have HB7 := Lib.hid hb7
    obtain ⟨b3, o3, hS3, hsg7⟩ := H7.out.segAt
    injection hS3 with hS3; injection hS3 with hS3 hS4; subst hS3; subst hS4
    rw [← HEQ.out.1, ← HEQ.out.2.1, ← HEQ.out.2.2.1, ← HEQ.out.2.2.2.1, ← HEQ.out.2.2.2.2.1, ← HEQ.out.2.2.2.2.2.1, ← HEQ.out.2.2.2.2.2.2.1, ← HEQ.out.2.2.2.2.2.2.2] at hsg7
    have HSG7 := Lib.hid hsg7
    clear hd7 hk7 hb7 z0 z2 zp hsg7
    refine hK.out _ _ ?_ (fun hHeld => ?_)
    ·exact ⟨HSG7.out.v0, HSG7.out.e0, HSG7.out.e2⟩
    clear hK K
    try simp only [Act.put, List.getElem_toArray, List.getElem_cons_succ, List.getElem_cons_zero, List.setIfInBounds_toArray, List.set_cons_zero, List.set_cons_succ]
    refine AnyZ.take (i := 14) (v := ?_) rfl (by kernel_rfl) (by kernel_rfl) (by kernel_rfl) (by kernel_rfl) (fun _ _ _ h => h) (Or.inl ⟨by kernel_rfl, ?_⟩) (by assumption) ?_
    rotate_left
    ·intro w hSw; (try dsimp only at hSw); go_simp; try with_reducible rfl
    try simp only [Act.put, List.getElem_toArray, List.getElem_cons_succ, List.getElem_cons_zero, List.setIfInBounds_toArray, List.set_cons_zero, List.set_cons_succ]
    refine AnyZ.done (by kernel_rfl) ?_ _
    skip
    have HBX7 : Hid (Blk w7 gb 40 (entV e A c)) := Lib.hid ((HKP.out gb (.inl (.inr HRD.out.inR))).trans HBX6.out)
    have HDS7 := Lib.hid (HDS6.out.kept HKP.out (fun g hg => .inl (.inl (HF.out g hg))))
    have HKB7 : Hid (Below B w w7 ∧ Kept G w w7) := Lib.hid ⟨HKB6.out.1.trans HB7.out, fun g hg => (HKP.out g (.inl (.inl hg))).trans (HKB6.out.2 g hg)⟩
    clear HBX6 HDS6 HKB6 HKP HB7 HSG HSG6 hHeld
    by_cases hk0 : kw = 0
    ·subst hk0
     have tk : ((((0 : Nat) : Int)) != 0) = false := rfl
     have HRS : Hid (res = (dw, pre.map SgM.s ++ [⟨x.s.ix, x.s.es ++ [e], true⟩], 0)) := Lib.hid (by
      rw [HRES2.out]; unfold wrLast
      simp only [← HEQ.out.2.1, ← HRC.out, ← HWRE.out]
      exact if_pos trivial)
     have hrow : Rw 1 iC 3 R3 w7 xA xc as_ := by
      rw [HEQ.out.2.2.2.2.2.1, HEQ.out.2.2.2.2.1, HEQ.out.2.2.2.2.2.2.1]; exact H7.out.sok x (by simp)
     have HROW := Lib.hid hrow
     have y1 := HSG7.out.e1
     have y2 := HSG7.out.e2
     have hal : as_.length ≤ 8 := by rw [HEQ.out.2.2.2.2.2.2.1, ats_len]; exact HRD.out.lns.2.2.2
     obtain ⟨cur, hcur⟩ := H7.out.segs.typ (g := b) ⟨o, none, rfl⟩
     have HCU := Lib.hid hcur
     have HAL := Lib.hid hal
     clear hrow hcur
     go_upto_region 12 with fail
     refine AnyZ.start (S := (fun V => V.cell? ⟨b, o + pn * 4 + 1, none⟩ = some (.slice xA as_.length xc) ∧ V.cell? ⟨b, o + pn * 4 + 2, none⟩ = some (.int .i64 (sz : Int)))) (z := 13) (by kernel_rfl) ?_ (fun hHeld => ?_)
     ·exact ⟨y1, y2⟩
     refine AnyZ.take (i := 0) (v := ?_) rfl (by kernel_rfl) (by kernel_rfl) (by kernel_rfl) (by kernel_rfl) (fun _ _ _ h => h) (Or.inl ⟨by kernel_rfl, ?_⟩) (by assumption) ?_
     rotate_left
     ·intro w hSw; (try dsimp only at hSw); go_simp; try with_reducible rfl
     try simp only [Act.put, List.getElem_toArray, List.getElem_cons_zero, List.setIfInBounds_toArray, List.set_cons_zero, List.set_cons_succ]
     refine AnyZ.take (i := 1) (v := ?_) rfl (by kernel_rfl) (by kernel_rfl) (by kernel_rfl) (by kernel_rfl) (fun _ _ _ h => h) (Or.inl ⟨by kernel_rfl, ?_⟩) (by assumption) ?_
     rotate_left
     ·intro w hSw; (try dsimp only at hSw); go_simp; try with_reducible rfl
     try simp only [Act.put, List.getElem_toArray, List.getElem_cons_succ, List.getElem_cons_zero, List.setIfInBounds_toArray, List.set_cons_zero, List.set_cons_succ]
     refine AnyZ.take (i := 2) (v := ?_) rfl (by kernel_rfl) (by kernel_rfl) (by kernel_rfl) (by kernel_rfl) (fun _ _ _ h => h) (Or.inl ⟨by kernel_rfl, ?_⟩) (by assumption) ?_
     rotate_left
     ·intro w hSw; (try dsimp only at hSw); go_simp; try with_reducible rfl
     try simp only [Act.put, List.getElem_toArray, List.getElem_cons_succ, List.getElem_cons_zero, List.setIfInBounds_toArray, List.set_cons_zero, List.set_cons_succ]
     refine AnyZ.take (i := 3) (v := ?_) rfl (by kernel_rfl) (by kernel_rfl) (by kernel_rfl) (by kernel_rfl) (fun _ _ _ h => h) (Or.inl ⟨by kernel_rfl, ?_⟩) (by assumption) ?_
     rotate_left
     ·intro w hSw; (try dsimp only at hSw); go_simp; try with_reducible rfl
     try simp only [Act.put, List.getElem_toArray, List.getElem_cons_succ, List.getElem_cons_zero, List.setIfInBounds_toArray, List.set_cons_zero, List.set_cons_succ]
     refine AnyZ.take (i := 4) (v := ?_) rfl (by kernel_rfl) (by kernel_rfl) (by kernel_rfl) (by kernel_rfl) (fun _ _ _ h => h) (Or.inl ⟨by kernel_rfl, ?_⟩) (by assumption) ?_
     rotate_left
     ·intro w hSw; (try dsimp only at hSw); go_simp; try with_reducible rfl
     try simp only [Act.put, List.getElem_toArray, List.getElem_cons_succ, List.getElem_cons_zero, List.setIfInBounds_toArray, List.set_cons_zero, List.set_cons_succ]
     refine AnyZ.take (i := 5) (v := ?_) rfl (by kernel_rfl) (by kernel_rfl) (by kernel_rfl) (by kernel_rfl) (fun _ _ _ h => h) (Or.inl ⟨by kernel_rfl, ?_⟩) (by assumption) ?_
     rotate_left
     ·intro w hSw; (try dsimp only at hSw); go_simp; try with_reducible rfl
     try simp only [Act.put, List.getElem_toArray, List.getElem_cons_succ, List.getElem_cons_zero, List.setIfInBounds_toArray, List.set_cons_zero, List.set_cons_succ]
     refine AnyZ.take (i := 6) (v := ?_) rfl (by kernel_rfl) (by kernel_rfl) (by kernel_rfl) (by kernel_rfl) (fun _ _ _ h => h) (Or.inl ⟨by kernel_rfl, ?_⟩) (by assumption) ?_
     rotate_left
     ·intro w hSw; (try dsimp only at hSw); go_simp; try with_reducible rfl
     try simp only [Act.put, List.getElem_toArray, List.getElem_cons_succ, List.getElem_cons_zero, List.setIfInBounds_toArray, List.set_cons_zero, List.set_cons_succ]
     refine AnyZ.take (i := 7) (v := ?_) rfl (by kernel_rfl) (by kernel_rfl) (by kernel_rfl) (by kernel_rfl) (fun _ _ _ h => h) (Or.inl ⟨by kernel_rfl, ?_⟩) (by assumption) ?_
     rotate_left
     ·intro w hSw; (try dsimp only at hSw); go_simp; try with_reducible rfl
     try simp only [Act.put, List.getElem_toArray, List.getElem_cons_succ, List.getElem_cons_zero, List.setIfInBounds_toArray, List.set_cons_zero, List.set_cons_succ]
     refine AnyZ.take (i := 8) (v := ?_) rfl (by kernel_rfl) (by kernel_rfl) (by kernel_rfl) (by kernel_rfl) (fun _ _ _ h => h) (Or.inl ⟨by kernel_rfl, ?_⟩) (by assumption) ?_
     rotate_left
     ·intro w hSw; (try dsimp only at hSw); go_simp; try with_reducible rfl
     try simp only [Act.put, List.getElem_toArray, List.getElem_cons_succ, List.getElem_cons_zero, List.setIfInBounds_toArray, List.set_cons_zero, List.set_cons_succ]
     refine AnyZ.ready (rs := [9]) (by kernel_rfl) (by simp) ?_
     refine AllZ.cons rfl (fun K hK => ?_) AllZ.nil
     go_simp
     refine hK.out _ _ ?_ (fun hHeld => ?_)
     ·exact ⟨((HCU.out.drew.alloc _).cell _).trans ((HCU.out.cell _).symm.trans y1), ((HCU.out.drew.alloc _).cell _).trans ((HCU.out.cell _).symm.trans y2)⟩
     clear hK K
     try simp only [Act.put, List.getElem_toArray, List.getElem_cons_succ, List.getElem_cons_zero, List.setIfInBounds_toArray, List.set_cons_zero, List.set_cons_succ]
     refine AnyZ.ready (rs := [10]) (by kernel_rfl) (by simp) ?_
     refine AllZ.cons rfl (fun K hK => ?_) AllZ.nil
     refine step_appendR1 (f := iC) (w0 := w7.drew) (F := R3) rfl _ _ _ rfl intTK iC_len (sz : Int) (iC_one _) rfl rfl (HROW.out.drewN 1) rfl rfl (by unfold maxLen; omega) (by omega) ?_
     intro A8 c8 w8 hr8 hf8
     have HR8 := Lib.hid hr8
     have HF8 : Hid (Frm (fun g => R3 g ∧ atA xA g) w7 w8) := Lib.hid (((Frm.refl _ w7).drew).trans hf8)
     have hcur8 := HCU.out.frmA HROW.out (by decide) HF8.out
     have HC8 := Lib.hid hcur8
     have x1 : w8.cell? ⟨b, o + pn * 4 + 1, none⟩ = some (.slice xA as_.length xc) := (hcur8.cell _).trans ((HCU.out.cell _).symm.trans y1)
     have x2 : w8.cell? ⟨b, o + pn * 4 + 2, none⟩ = some (.int .i64 (sz : Int)) := (hcur8.cell _).trans ((HCU.out.cell _).symm.trans y2)
     have xf1 := hcur8.free (o + pn * 4 + 1)
     clear hr8 hf8 hcur8
     refine hK.out _ _ ?_ (fun hHeld => ?_)
     ·exact ⟨x1, x2⟩
     clear hK K
     try simp only [Act.put, List.getElem_toArray, List.getElem_cons_succ, List.getElem_cons_zero, List.setIfInBounds_toArray, List.set_cons_zero, List.set_cons_succ]
     refine AnyZ.takeAny (i := 11) (v := ?_) rfl (by kernel_rfl) (by kernel_rfl) (by kernel_rfl) (by kernel_rfl) (fun _ _ _ h => h) (Or.inl ⟨by kernel_rfl, ?_⟩) (by assumption) ?_
     rotate_left
     ·intro w hSw; (try dsimp only at hSw); go_simp; try with_reducible rfl
     try simp only [Act.put, List.getElem_toArray, List.getElem_cons_succ, List.getElem_cons_zero, List.setIfInBounds_toArray, List.set_cons_zero, List.set_cons_succ]
     refine AnyZ.take (i := 12) (v := ?_) rfl (by kernel_rfl) (by kernel_rfl) (by kernel_rfl) (by kernel_rfl) (fun _ _ _ h => h) (Or.inl ⟨by kernel_rfl, ?_⟩) (by assumption) ?_
     rotate_left
     ·intro w hSw; (try dsimp only at hSw); go_simp; try with_reducible rfl
     try simp only [Act.put, List.getElem_toArray, List.getElem_cons_succ, List.getElem_cons_zero, List.setIfInBounds_toArray, List.set_cons_zero, List.set_cons_succ]
     refine AnyZ.ready (rs := [13]) (by kernel_rfl) (by simp) ?_
     refine AllZ.last rfl (by kernel_rfl) (fun K hK => ?_) AllZ.nil
     go_simp
     refine hK.out _ _ ?_
     clear hK K
     try simp only [Act.put, List.getElem_toArray, List.getElem_cons_succ, List.getElem_cons_zero, List.setIfInBounds_toArray, List.set_cons_zero, List.set_cons_succ]
     refine AnyZ.done (by kernel_rfl) ?_ _
     skip
     go_upto_region 13 with fail
     obtain ⟨w8a, hw8a⟩ : ∃ z, z = w8.setCell ⟨b, o + pn * 4 + 1, none⟩ (.slice A8 (as_.length + 1) c8) := ⟨_, rfl⟩
     rw [← hw8a]
     have hc8a := HC8.out.set_ (o + pn * 4 + 1) (.slice A8 (as_.length + 1) c8)
     rw [← hw8a] at hc8a
     have x2a : w8a.cell? ⟨b, o + pn * 4 + 2, none⟩ = some (.int .i64 (sz : Int)) := (hc8a.cell _).trans ((Array.getElem?_setIfInBounds_ne (by omega)).trans ((HC8.out.cell _).symm.trans x2))
     have xf2 := hc8a.free (o + pn * 4 + 2)
     have HC8A := Lib.hid hc8a
     have hrl : (rc.length : Int) ≤ 2200 := by have := HCAP.out; omega
     have y3 := HSG7.out.e3
     have x3a : w8a.cell? ⟨b, o + pn * 4 + 3, none⟩ = some (.bool wt) := (hc8a.cell _).trans ((Array.getElem?_setIfInBounds_ne (by omega)).trans ((HC8.out.cell _).symm.trans (((HC8.out.cell _).trans ((HCU.out.cell _).symm)).trans y3)))
     have HW8A := Lib.hid hw8a
     clear hw8a hc8a x1 x2 xf1 y1 y2 y3 hHeld
     go_upto_region 14 with fail
     obtain ⟨w8b, hw8b⟩ : ∃ z, z = w8a.setCell ⟨b, o + pn * 4 + 2, none⟩ (.int .i64 ((sz : Int) + (rc.length : Int))) := ⟨_, rfl⟩
     rw [← hw8b]
     have hc8b := HC8A.out.set_ (o + pn * 4 + 2) (.int .i64 ((sz : Int) + (rc.length : Int)))
     rw [← hw8b] at hc8b
     have x3b : w8b.cell? ⟨b, o + pn * 4 + 3, none⟩ = some (.bool wt) := (hc8b.cell _).trans ((Array.getElem?_setIfInBounds_ne (by omega)).trans ((HC8A.out.cell _).symm.trans x3a))
     have xf3 := hc8b.free (o + pn * 4 + 3)
     have HW8B := Lib.hid hw8b
     clear hw8b hc8b x2a xf2 x3a
     go_upto_region 15 with fail
     obtain ⟨w9, hw9⟩ : ∃ z, z = w8b.setCell ⟨b, o + pn * 4 + 3, none⟩ (.bool true) := ⟨_, rfl⟩
     rw [← hw9]
     have h9 : Wr9 R3 p wb (some ⟨b, o, none⟩) sc2 pre x EA ec em e gb (entV e A c) A8 c8 w7 w9 := by
      rw [hw9, HW8B.out, HW8A.out, HEQ.out.2.2.1]
      refine H7.out.wr9 rfl HBX7.out ?_ ?_ ?_ ?_
      ·have h8 := HR8.out
       rw [HEQ.out.2.2.2.2.2.1, HEQ.out.2.2.2.2.2.2.1, HEQ.out.2.1] at h8; exact h8
      ·have h8 := HF8.out
       rw [HEQ.out.2.2.2.2.2.1] at h8; exact h8
      ·rw [HEQ.out.2.2.2.2.2.2.1, ats_len]
      ·rw [HEQ.out.2.1, HRC.out]
     have H9 := Lib.hid h9
     have HDS9 := Lib.hid (HDS7.out.frm h9.frm (fun g hg h1 => h1.elim (fun h2 => (H7.out.own g h2).2.1 (HF.out g hg)) (fun h2 => H7.out.notG (h2 ▸ HF.out g hg))))
     have HCL := Lib.hid (CloneB_any A c e.ds (by have := rightE_iff.1 HE.out; omega) w9 HDS9.out.sl)
     have c3 : w9.cell? ⟨gb, 3, none⟩ = some (.slice A e.ds.length c) := h9.box.cell 3
     clear hw9 x3b xf3 h9
     go_wp2_with fail
     (with_reducible refine HCL.out.mono ?_); rintro e' w10 ⟨A10, c10, rfl, ho10, hb10⟩
     have HO10 := Lib.hid ho10
     have HB10 := Lib.hid hb10
     have bx10 := H9.out.box.below hb10 H9.out.box.lt
     have HBX10 := Lib.hid bx10
     have k3 : w10.cell? ⟨gb, 3, none⟩ = some (.slice A e.ds.length c) := bx10.cell 3
     have kf3 := bx10.free 3
     clear ho10 hb10 bx10 c3 HCL
     go_upto_region 16 with fail
     obtain ⟨w11, hw11⟩ : ∃ z, z = w10.setCell ⟨gb, 3, none⟩ (.slice A10 e.ds.length c10) := ⟨_, rfl⟩
     rw [← hw11]
     have HW11 := Lib.hid hw11
     have HBX11 : Hid (Blk w11 gb 40 #[.int .i64 e.ix, .int .i64 e.tm, .int .i64 e.kd, .slice A10 e.ds.length c10]) := Lib.hid (by rw [hw11]; exact HBX10.out.set_ 3 _)
     have HWB11 : Hid (Blk w11 wb 92 #[.pointer (some ⟨p, 0, none⟩), .slice (some ⟨b, o, none⟩) (pre ++ [x]).length sc2, .slice EA em.length ec]) := Lib.hid (by
      rw [hw11]; exact (H9.out.wbk.below HB10.out H9.out.wbk.lt).far (p := ⟨gb, 3, none⟩) (fun e9 => (H7.out.own gb HRD.out.inR).2.2 e9.symm) _)
     have HEN11 : Hid (Rw 4 emC 40 R3 w11 EA ec em) := Lib.hid (by
      rw [hw11]; exact ((H9.out.ents.self.below HB10.out).far HBX10.out (.inr (fun e9 => HRD.out.nE e9.2)) 3 _).mono (fun g _ hg => hg.1))
     have g0 : w11.cell? ⟨gb, 0, none⟩ = some (.int .i64 e.ix) := HBX11.out.cell 0
     have g1 : w11.cell? ⟨gb, 1, none⟩ = some (.int .i64 e.tm) := HBX11.out.cell 1
     have g2 : w11.cell? ⟨gb, 2, none⟩ = some (.int .i64 e.kd) := HBX11.out.cell 2
     have g3 : w11.cell? ⟨gb, 3, none⟩ = some (.slice A10 e.ds.length c10) := HBX11.out.cell 3
     have v2 : w11.cell? ⟨wb, 2, none⟩ = some (.slice EA em.length ec) := HWB11.out.cell 2
     clear hw11 k3 kf3
     refine AnyZ.start (S := (fun V => V.cell? ⟨wb, 2, none⟩ = some (.slice EA em.length ec) ∧ V.cell? ⟨gb, 0, none⟩ = some (.int .i64 e.ix) ∧ V.cell? ⟨gb, 1, none⟩ = some (.int .i64 e.tm) ∧ V.cell? ⟨gb, 2, none⟩ = some (.int .i64 e.kd) ∧ V.cell? ⟨gb, 3, none⟩ = some (.slice A10 e.ds.length c10))) (z := 10) (by kernel_rfl) ?_ (fun hHeld => ?_)
     ·exact ⟨v2, g0, g1, g2, g3⟩
     refine AnyZ.take (i := 0) (v := ?_) rfl (by kernel_rfl) (by kernel_rfl) (by kernel_rfl) (by kernel_rfl) (fun _ _ _ h => h) (Or.inl ⟨by kernel_rfl, ?_⟩) (by assumption) ?_
     rotate_left
     ·intro w hSw; (try dsimp only at hSw); go_simp; try with_reducible rfl
     try simp only [Act.put, List.getElem_toArray, List.getElem_cons_zero, List.setIfInBounds_toArray, List.set_cons_zero, List.set_cons_succ]
     refine AnyZ.take (i := 1) (v := ?_) rfl (by kernel_rfl) (by kernel_rfl) (by kernel_rfl) (by kernel_rfl) (fun _ _ _ h => h) (Or.inl ⟨by kernel_rfl, ?_⟩) (by assumption) ?_
     rotate_left
     ·intro w hSw; (try dsimp only at hSw); go_simp; try with_reducible rfl
     try simp only [Act.put, List.getElem_toArray, List.getElem_cons_succ, List.getElem_cons_zero, List.setIfInBounds_toArray, List.set_cons_zero, List.set_cons_succ]
     refine AnyZ.take (i := 2) (v := ?_) rfl (by kernel_rfl) (by kernel_rfl) (by kernel_rfl) (by kernel_rfl) (fun _ _ _ h => h) (Or.inl ⟨by kernel_rfl, ?_⟩) (by assumption) ?_
     rotate_left
     ·intro w hSw; (try dsimp only at hSw); go_simp; try with_reducible rfl
     try simp only [Act.put, List.getElem_toArray, List.getElem_cons_succ, List.getElem_cons_zero, List.setIfInBounds_toArray, List.set_cons_zero, List.set_cons_succ]
     refine AnyZ.take (i := 3) (v := ?_) rfl (by kernel_rfl) (by kernel_rfl) (by kernel_rfl) (by kernel_rfl) (fun _ _ _ h => h) (Or.inl ⟨by kernel_rfl, ?_⟩) (by assumption) ?_
     rotate_left
     ·intro w hSw; (try dsimp only at hSw); go_simp; try with_reducible rfl
     try simp only [Act.put, List.getElem_toArray, List.getElem_cons_succ, List.getElem_cons_zero, List.setIfInBounds_toArray, List.set_cons_zero, List.set_cons_succ]
     refine AnyZ.take (i := 4) (v := ?_) rfl (by kernel_rfl) (by kernel_rfl) (by kernel_rfl) (by kernel_rfl) (fun _ _ _ h => h) (Or.inl ⟨by kernel_rfl, ?_⟩) (by assumption) ?_
     rotate_left
     ·intro w hSw; (try dsimp only at hSw); go_simp; try with_reducible rfl
     try simp only [Act.put, List.getElem_toArray, List.getElem_cons_succ, List.getElem_cons_zero, List.setIfInBounds_toArray, List.set_cons_zero, List.set_cons_succ]
     refine AnyZ.take (i := 5) (v := ?_) rfl (by kernel_rfl) (by kernel_rfl) (by kernel_rfl) (by kernel_rfl) (fun _ _ _ h => h) (Or.inl ⟨by kernel_rfl, ?_⟩) (by assumption) ?_
     rotate_left
     ·intro w hSw; (try dsimp only at hSw); go_simp; try with_reducible rfl
     try simp only [Act.put, List.getElem_toArray, List.getElem_cons_succ, List.getElem_cons_zero, List.setIfInBounds_toArray, List.set_cons_zero, List.set_cons_succ]
     refine AnyZ.ready (rs := [6]) (by kernel_rfl) (by simp) ?_
     refine AllZ.cons rfl (fun K hK => ?_) AllZ.nil
     go_simp
     refine hK.out _ _ ?_ (fun hHeld => ?_)
     ·exact ⟨(HWB11.out.drew.alloc _).cell 2, (HBX11.out.drew.alloc _).cell 0, (HBX11.out.drew.alloc _).cell 1, (HBX11.out.drew.alloc _).cell 2, (HBX11.out.drew.alloc _).cell 3⟩
     clear hK K
     try simp only [Act.put, List.getElem_toArray, List.getElem_cons_succ, List.getElem_cons_zero, List.setIfInBounds_toArray, List.set_cons_zero, List.set_cons_succ]
     refine AnyZ.ready (rs := [7]) (by kernel_rfl) (by simp) ?_
     refine AllZ.cons rfl (fun K hK => ?_) AllZ.nil
     refine step_appendR1 (f := emC) (w0 := w11.drew) (F := R3) rfl _ _ _ rfl entT emC_len ⟨e, A10, c10⟩ (emC_one _) rfl rfl (HEN11.out.drewN 1) rfl rfl (by have := HRD.out.lns.2.1; unfold maxLen; omega) (by have := HRD.out.lns.2.1; omega) ?_
     intro A12 c12 w12 hr12 hf12
     have HR12 := Lib.hid hr12
     have HF12 : Hid (Frm (fun g => R3 g ∧ atA EA g) w11 w12) := Lib.hid (((Frm.refl _ w11).drew).trans hf12)
     have HWB12 := Lib.hid (HWB11.out.frmA HEN11.out (by decide) HF12.out)
     have HBX12 := Lib.hid (HBX11.out.frm HF12.out (fun e9 => HRD.out.nE e9.2))
     have v12 : w12.cell? ⟨wb, 2, none⟩ = some (.slice EA em.length ec) := HWB12.out.cell 2
     have vf12 := HWB12.out.free 2
     clear hr12 hf12 v2 g0 g1 g2 g3
     refine hK.out _ _ ?_ (fun hHeld => ?_)
     ·exact ⟨HWB12.out.cell 2, HBX12.out.cell 0, HBX12.out.cell 1, HBX12.out.cell 2, HBX12.out.cell 3⟩
     clear hK K
     try simp only [Act.put, List.getElem_toArray, List.getElem_cons_succ, List.getElem_cons_zero, List.setIfInBounds_toArray, List.set_cons_zero, List.set_cons_succ]
     refine AnyZ.takeAny (i := 8) (v := ?_) rfl (by kernel_rfl) (by kernel_rfl) (by kernel_rfl) (by kernel_rfl) (fun _ _ _ h => h) (Or.inl ⟨by kernel_rfl, ?_⟩) (by assumption) ?_
     rotate_left
     ·intro w hSw; (try dsimp only at hSw); go_simp; try with_reducible rfl
     try simp only [Act.put, List.getElem_toArray, List.getElem_cons_succ, List.getElem_cons_zero, List.setIfInBounds_toArray, List.set_cons_zero, List.set_cons_succ]
     refine AnyZ.take (i := 9) (v := ?_) rfl (by kernel_rfl) (by kernel_rfl) (by kernel_rfl) (by kernel_rfl) (fun _ _ _ h => h) (Or.inl ⟨by kernel_rfl, ?_⟩) (by assumption) ?_
     rotate_left
     ·intro w hSw; (try dsimp only at hSw); go_simp; try with_reducible rfl
     try simp only [Act.put, List.getElem_toArray, List.getElem_cons_succ, List.getElem_cons_zero, List.setIfInBounds_toArray, List.set_cons_zero, List.set_cons_succ]
     refine AnyZ.ready (rs := [10]) (by kernel_rfl) (by simp) ?_
     refine AllZ.last rfl (by kernel_rfl) (fun K hK => ?_) AllZ.nil
     go_simp
     refine hK.out _ _ ?_
     clear hK K
     try simp only [Act.put, List.getElem_toArray, List.getElem_cons_succ, List.getElem_cons_zero, List.setIfInBounds_toArray, List.set_cons_zero, List.set_cons_succ]
     refine AnyZ.done (by kernel_rfl) ?_ _
     skip
     go_wp2_with fail
     go_ret
     have hr := HR12.out
     have hf := HF12.out
     rw [HW11.out] at hf
     have hr' : Rw 4 emC 40 (fun g => (R3 g ∧ atA EA g) ∨ (w10.setCell ⟨gb, 3, none⟩ (.slice A10 e.ds.length c10)).heap.size < g) w12 A12 c12 (em ++ [⟨e, A10, c10⟩]) := by
      rw [← HW11.out]; exact hr
     have hfin := H7.out.wr13 H9.out HRD.out.inR HRD.out.nE HO10.out HB10.out hr' hf
     have hwf := wl_frm H7.out hfin.2
     rw [HRS.out]
     refine ⟨rfl, ⟨_, _, _, _, _, _, _, hfin.1, ?_, ?_⟩, HKB7.out.1.trans hwf.1, fun g hg => (hwf.2 g hg).trans (HKB7.out.2 g hg)⟩
     ·rw [List.map_append]; rfl
     ·rw [List.map_append, HRD.out.ems, allE_snoc, List.append_assoc]; rfl
    ·have tk : ((kw : Int) != 0) = true := by rw [bne_iff_ne]; omega
     have HRS : Hid (res = (dw, pre.map SgM.s ++ [x.s], kw)) := Lib.hid (by
      rw [HRES2.out]; unfold wrLast
      simp only [← HEQ.out.2.1, ← HRC.out, ← HWRE.out]
      exact if_neg hk0)
     clear hk0
     go_wp2_with fail
     go_ret
     rw [HRS.out]
     exact ⟨rfl, ⟨_, _, _, _, _, _, _, H7.out, by rw [List.map_append]; rfl, by rw [HRD.out.ems, allE_snoc]⟩, HKB7.out.1, HKB7.out.2⟩
   ·have tkc : ((kc : Int) != 0) = true := by rw [bne_iff_ne]; omega
    have HRS : Hid (res = (dc, ss, kc)) := Lib.hid (by
     rw [HRES.out]; unfold write1
     rw [if_pos HDU.out]
     simp only [← HCRE.out]
     exact if_neg hkc)
    clear hkc
    go_wp2_with fail
    go_ret
    rw [HRS.out]
    exact ⟨rfl, ⟨_, _, _, _, _, _, _, H3.out, HSM.out, HEM.out⟩, HKB3.out.1, HKB3.out.2⟩
 ·obtain ⟨x, hx⟩ : ∃ x, sm = sm.dropLast ++ [x] := by
   have hne : sm ≠ [] := fun h9 => hdu (by rw [← HSM.out, h9]; rfl)
   exact ⟨sm.getLast hne, (List.dropLast_concat_getLast hne).symm⟩
  obtain ⟨pre, hpre⟩ : ∃ z, z = sm.dropLast := ⟨_, rfl⟩
  rw [← hpre] at hx
  have hss : ss = pre.map SgM.s ++ [x.s] := by rw [← HSM.out, hx, List.map_append]; rfl
  have hsz : (sgB x.s).length < 256 := by
   have h9 := hdu
   unfold dueW at h9
   rw [hss, List.getLast?_concat] at h9
   simpa using h9
  have hal : allE ss = allE (pre.map SgM.s) ++ x.s.es := by rw [hss, allE_snoc]
  have hlen : pre.length + 1 ≤ 1000000 := by have h9 := HN.out.1; rw [hss] at h9; simpa using h9
  have heml : em.length ≤ 1000000 := by have h9 := HN.out.2; rw [← HEM.out, List.length_map] at h9; exact h9
  have hes8 : x.s.es.length ≤ 8 := by have h9 := recsB_len_ge x.s.es; have h8 : (sgB x.s).length = (recsB x.s.es).length := rfl; omega
  have hat := H1.out
  rw [hx] at hat
  have HRES2 : Hid (res = wrLast d (pre.map SgM.s) x.s e) := Lib.hid (by
   rw [HRES.out]; unfold write1
   rw [if_neg hdu, hss, List.getLast?_concat, List.dropLast_concat])
  obtain ⟨R2, hR2⟩ : ∃ z : Nat → Prop, z = fun g => R g ∨ g = gb := ⟨_, rfl⟩
  rw [← hR2] at hat
  have hrd : RdyW te G F R2 B p wb d SA sc pre x EA ec em gb e A c w w1 := ⟨hat, HB1.out, by rw [hR2]; exact .inr rfl, HNE.out, HDS.out, HKB.out.1, HKB.out.2, by rw [HEM.out, hal], by omega, heml, hsz, hes8⟩
  have HRD := Lib.hid hrd
  obtain ⟨b, o, rfl, hsg⟩ := HRD.out.at_.segAt
  obtain ⟨n, hn⟩ : ∃ n, n = pre.length + 1 := ⟨_, rfl⟩
  have v1 := hsg.v1
  have y2 := hsg.e2
  rw [← hn] at v1
  obtain ⟨sz, hsz2⟩ : ∃ z, z = (sgB x.s).length := ⟨_, rfl⟩
  obtain ⟨pn, hpn⟩ : ∃ z, z = pre.length := ⟨_, rfl⟩
  rw [← hsz2, ← hpn] at y2
  have hw : IntKind.i64.wrap ((n : Int) - 1) = (pn : Int) := by rw [IntKind.wrap_i64]; omega
  have hw2 : IntKind.i64.wrap (pn : Int) = (pn : Int) := by rw [IntKind.wrap_i64]; omega
  have hjn : (pn : Int) < (n : Int) := by omega
  have hj0 : (0 : Int) ≤ (pn : Int) := by omega
  have tz : ((n : Int) == 0) = false := by rw [beq_eq_false_iff_ne]; omega
  have tg : decide ((sz : Int) ≥ 256) = false := by rw [decide_eq_false_iff_not]; omega
  have HDU := Lib.hid hdu
  clear hR2 hdu hx hpre hss hsz hal hlen heml hes8 hat hrd hsg hn hsz2 hpn
  go_enter Tryz.func58, Tryz.ntmps58
  go_upto_region 1 with fail
  rw [← HW1.out, ← HGB.out]
  refine AnyZ.start (S := (fun V => V.cell? ⟨wb, 1, none⟩ = some (.slice (some ⟨b, o, none⟩) n sc) ∧ V.cell? ⟨b, o + pn * 4 + 2, none⟩ = some (.int .i64 (sz : Int)))) (z := 1022) (by kernel_rfl) ?_ (fun hHeld => ?_)
  ·exact ⟨v1, y2⟩
  refine AnyZ.take (i := 0) (v := ?_) rfl (by kernel_rfl) (by kernel_rfl) (by kernel_rfl) (by kernel_rfl) (fun _ _ _ h => h) (Or.inl ⟨by kernel_rfl, ?_⟩) (by assumption) ?_
  rotate_left
  ·intro w hSw; (try dsimp only at hSw); go_simp; try with_reducible rfl
  try simp only [Act.put, List.getElem_toArray, List.getElem_cons_zero, List.setIfInBounds_toArray, List.set_cons_zero, List.set_cons_succ]
  refine AnyZ.take (i := 1) (v := ?_) rfl (by kernel_rfl) (by kernel_rfl) (by kernel_rfl) (by kernel_rfl) (fun _ _ _ h => h) (Or.inl ⟨by kernel_rfl, ?_⟩) (by assumption) ?_
  rotate_left
  ·intro w hSw; (try dsimp only at hSw); go_simp; try with_reducible rfl
  try simp only [Act.put, List.getElem_toArray, List.getElem_cons_succ, List.getElem_cons_zero, List.setIfInBounds_toArray, List.set_cons_zero, List.set_cons_succ]
  refine AnyZ.take (i := 2) (v := ?_) rfl (by kernel_rfl) (by kernel_rfl) (by kernel_rfl) (by kernel_rfl) (fun _ _ _ h => h) (Or.inl ⟨by kernel_rfl, ?_⟩) (by assumption) ?_
  rotate_left
  ·intro w hSw; (try dsimp only at hSw); go_simp; try with_reducible rfl
  try simp only [Act.put, List.getElem_toArray, List.getElem_cons_succ, List.getElem_cons_zero, List.setIfInBounds_toArray, List.set_cons_zero, List.set_cons_succ]
  refine AnyZ.take (i := 3) (v := ?_) rfl (by kernel_rfl) (by kernel_rfl) (by kernel_rfl) (by kernel_rfl) (fun _ _ _ h => h) (Or.inl ⟨by kernel_rfl, ?_⟩) (by assumption) ?_
  rotate_left
  ·intro w hSw; (try dsimp only at hSw); go_simp; try with_reducible rfl
  try simp only [Act.put, List.getElem_toArray, List.getElem_cons_succ, List.getElem_cons_zero, List.setIfInBounds_toArray, List.set_cons_zero, List.set_cons_succ]
  refine AnyZ.take (i := 4) (v := ?_) rfl (by kernel_rfl) (by kernel_rfl) (by kernel_rfl) (by kernel_rfl) (fun _ _ _ h => h) (Or.inl ⟨by kernel_rfl, ?_⟩) (by assumption) ?_
  rotate_left
  ·intro w hSw; (try dsimp only at hSw); go_simp; try with_reducible rfl
  try simp only [Act.put, List.getElem_toArray, List.getElem_cons_succ, List.getElem_cons_zero, List.setIfInBounds_toArray, List.set_cons_zero, List.set_cons_succ]
  refine AnyZ.take (i := 5) (v := ?_) rfl (by kernel_rfl) (by kernel_rfl) (by kernel_rfl) (by kernel_rfl) (fun _ _ _ h => h) (Or.inl ⟨by kernel_rfl, ?_⟩) (by assumption) ?_
  rotate_left
  ·intro w hSw; (try dsimp only at hSw); go_simp; try with_reducible rfl
  try simp only [Act.put, List.getElem_toArray, List.getElem_cons_succ, List.getElem_cons_zero, List.setIfInBounds_toArray, List.set_cons_zero, List.set_cons_succ]
  refine AnyZ.take (i := 6) (v := ?_) rfl (by kernel_rfl) (by kernel_rfl) (by kernel_rfl) (by kernel_rfl) (fun _ _ _ h => h) (Or.inl ⟨by kernel_rfl, ?_⟩) (by assumption) ?_
  rotate_left
  ·intro w hSw; (try dsimp only at hSw); go_simp; try with_reducible rfl
  try simp only [Act.put, List.getElem_toArray, List.getElem_cons_succ, List.getElem_cons_zero, List.setIfInBounds_toArray, List.set_cons_zero, List.set_cons_succ]
  refine AnyZ.take (i := 7) (v := ?_) rfl (by kernel_rfl) (by kernel_rfl) (by kernel_rfl) (by kernel_rfl) (fun _ _ _ h => h) (Or.inl ⟨by kernel_rfl, ?_⟩) (by assumption) ?_
  rotate_left
  ·intro w hSw; (try dsimp only at hSw); go_simp; try with_reducible rfl
  try simp only [Act.put, List.getElem_toArray, List.getElem_cons_succ, List.getElem_cons_zero, List.setIfInBounds_toArray, List.set_cons_zero, List.set_cons_succ]
  refine AnyZ.take (i := 8) (v := ?_) rfl (by kernel_rfl) (by kernel_rfl) (by kernel_rfl) (by kernel_rfl) (fun _ _ _ h => h) (Or.inl ⟨by kernel_rfl, ?_⟩) (by assumption) ?_
  rotate_left
  ·intro w hSw; (try dsimp only at hSw); go_simp; try with_reducible rfl
  try simp only [Act.put, List.getElem_toArray, List.getElem_cons_succ, List.getElem_cons_zero, List.setIfInBounds_toArray, List.set_cons_zero, List.set_cons_succ]
  refine AnyZ.take (i := 9) (v := ?_) rfl (by kernel_rfl) (by kernel_rfl) (by kernel_rfl) (by kernel_rfl) (fun _ _ _ h => h) (Or.inl ⟨by kernel_rfl, ?_⟩) (by assumption) ?_
  rotate_left
  ·intro w hSw; (try dsimp only at hSw); go_simp; try with_reducible rfl
  try simp only [Act.put, List.getElem_toArray, List.getElem_cons_succ, List.getElem_cons_zero, List.setIfInBounds_toArray, List.set_cons_zero, List.set_cons_succ]
  refine AnyZ.take (i := 10) (v := ?_) rfl (by kernel_rfl) (by kernel_rfl) (by kernel_rfl) (by kernel_rfl) (fun _ _ _ h => h) (Or.inl ⟨by kernel_rfl, ?_⟩) (by assumption) ?_
  rotate_left
  ·intro w hSw; (try dsimp only at hSw); go_simp; try with_reducible rfl
  try simp only [Act.put, List.getElem_toArray, List.getElem_cons_succ, List.getElem_cons_zero, List.setIfInBounds_toArray, List.set_cons_zero, List.set_cons_succ]
  refine AnyZ.take (i := 11) (v := ?_) rfl (by kernel_rfl) (by kernel_rfl) (by kernel_rfl) (by kernel_rfl) (fun _ _ _ h => h) (Or.inl ⟨by kernel_rfl, ?_⟩) (by assumption) ?_
  rotate_left
  ·intro w hSw; (try dsimp only at hSw); go_simp; try with_reducible rfl
  try simp only [Act.put, List.getElem_toArray, List.getElem_cons_succ, List.getElem_cons_zero, List.setIfInBounds_toArray, List.set_cons_zero, List.set_cons_succ]
  refine AnyZ.take (i := 12) (v := ?_) rfl (by kernel_rfl) (by kernel_rfl) (by kernel_rfl) (by kernel_rfl) (fun _ _ _ h => h) (Or.inl ⟨by kernel_rfl, ?_⟩) (by assumption) ?_
  rotate_left
  ·intro w hSw; (try dsimp only at hSw); go_simp; try with_reducible rfl
  try simp only [Act.put, List.getElem_toArray, List.getElem_cons_succ, List.getElem_cons_zero, List.setIfInBounds_toArray, List.set_cons_zero, List.set_cons_succ]
  refine AnyZ.take (i := 13) (v := ?_) rfl (by kernel_rfl) (by kernel_rfl) (by kernel_rfl) (by kernel_rfl) (fun _ _ _ h => h) (Or.inl ⟨by kernel_rfl, ?_⟩) (by assumption) ?_
  rotate_left
  ·intro w hSw; (try dsimp only at hSw); go_simp; try with_reducible rfl
  try simp only [Act.put, List.getElem_toArray, List.getElem_cons_succ, List.getElem_cons_zero, List.setIfInBounds_toArray, List.set_cons_zero, List.set_cons_succ]
  refine AnyZ.take (i := 14) (v := ?_) rfl (by kernel_rfl) (by kernel_rfl) (by kernel_rfl) (by kernel_rfl) (fun _ _ _ h => h) (Or.inl ⟨by kernel_rfl, ?_⟩) (by assumption) ?_
  rotate_left
  ·intro w hSw; (try dsimp only at hSw); go_simp; try with_reducible rfl
  try simp only [Act.put, List.getElem_toArray, List.getElem_cons_succ, List.getElem_cons_zero, List.setIfInBounds_toArray, List.set_cons_zero, List.set_cons_succ]
  refine AnyZ.take (i := 15) (v := ?_) rfl (by kernel_rfl) (by kernel_rfl) (by kernel_rfl) (by kernel_rfl) (fun _ _ _ h => h) (Or.inl ⟨by kernel_rfl, ?_⟩) (by assumption) ?_
  rotate_left
  ·intro w hSw; (try dsimp only at hSw); go_simp; try with_reducible rfl
  try simp only [Act.put, List.getElem_toArray, List.getElem_cons_succ, List.getElem_cons_zero, List.setIfInBounds_toArray, List.set_cons_zero, List.set_cons_succ]
  refine AnyZ.take (i := 16) (v := ?_) rfl (by kernel_rfl) (by kernel_rfl) (by kernel_rfl) (by kernel_rfl) (fun _ _ _ h => h) (Or.inl ⟨by kernel_rfl, ?_⟩) (by assumption) ?_
  rotate_left
  ·intro w hSw; (try dsimp only at hSw); go_simp; try with_reducible rfl
  try simp only [Act.put, List.getElem_toArray, List.getElem_cons_succ, List.getElem_cons_zero, List.setIfInBounds_toArray, List.set_cons_zero, List.set_cons_succ]
  refine AnyZ.take (i := 17) (v := ?_) rfl (by kernel_rfl) (by kernel_rfl) (by kernel_rfl) (by kernel_rfl) (fun _ _ _ h => h) (Or.inl ⟨by kernel_rfl, ?_⟩) (by assumption) ?_
  rotate_left
  ·intro w hSw; (try dsimp only at hSw); go_simp; try with_reducible rfl
  try simp only [Act.put, List.getElem_toArray, List.getElem_cons_succ, List.getElem_cons_zero, List.setIfInBounds_toArray, List.set_cons_zero, List.set_cons_succ]
  refine AnyZ.take (i := 18) (v := ?_) rfl (by kernel_rfl) (by kernel_rfl) (by kernel_rfl) (by kernel_rfl) (fun _ _ _ h => h) (Or.inl ⟨by kernel_rfl, ?_⟩) (by assumption) ?_
  rotate_left
  ·intro w hSw; (try dsimp only at hSw); go_simp; try with_reducible rfl
  try simp only [Act.put, List.getElem_toArray, List.getElem_cons_succ, List.getElem_cons_zero, List.setIfInBounds_toArray, List.set_cons_zero, List.set_cons_succ]
  refine AnyZ.take (i := 19) (v := ?_) rfl (by kernel_rfl) (by kernel_rfl) (by kernel_rfl) (by kernel_rfl) (fun _ _ _ h => h) (Or.inl ⟨by kernel_rfl, ?_⟩) (by assumption) ?_
  rotate_left
  ·intro w hSw; (try dsimp only at hSw); go_simp; try with_reducible rfl
  try simp only [Act.put, List.getElem_toArray, List.getElem_cons_succ, List.getElem_cons_zero, List.setIfInBounds_toArray, List.set_cons_zero, List.set_cons_succ]
  refine AnyZ.take (i := 20) (v := ?_) rfl (by kernel_rfl) (by kernel_rfl) (by kernel_rfl) (by kernel_rfl) (fun _ _ _ h => h) (Or.inl ⟨by kernel_rfl, ?_⟩) (by assumption) ?_
  rotate_left
  ·intro w hSw; (try dsimp only at hSw); go_simp; try with_reducible rfl
  try simp only [Act.put, List.getElem_toArray, List.getElem_cons_succ, List.getElem_cons_zero, List.setIfInBounds_toArray, List.set_cons_zero, List.set_cons_succ]
  refine AnyZ.take (i := 21) (v := ?_) rfl (by kernel_rfl) (by kernel_rfl) (by kernel_rfl) (by kernel_rfl) (fun _ _ _ h => h) (Or.inl ⟨by kernel_rfl, ?_⟩) (by assumption) ?_
  rotate_left
  ·intro w hSw; (try dsimp only at hSw); go_simp; try with_reducible rfl
  try simp only [Act.put, List.getElem_toArray, List.getElem_cons_succ, List.getElem_cons_zero, List.setIfInBounds_toArray, List.set_cons_zero, List.set_cons_succ]
  refine AnyZ.done (by kernel_rfl) ?_ _
  skip
  clear hHeld v1 y2 hw hw2 hjn hj0 tz tg
  obtain ⟨W, hW⟩ : ∃ z, z = w1.drew := ⟨_, rfl⟩
  rw [← hW]
  have HRD1 : Hid (RdyW te G F R2 B p wb d (some ⟨b, o, none⟩) sc pre x EA ec em gb e A c w W) := Lib.hid (by rw [hW]; exact HRD.out.drew_)
  clear HRD hW H1 HB1 HDS HKB HNE
  obtain ⟨d2, hd2⟩ : ∃ z, z = d := ⟨_, rfl⟩
  rw [← hd2] at HRD1 HRES2
  obtain ⟨sc2, hsc2⟩ : ∃ z, z = sc := ⟨_, rfl⟩
  rw [← hsc2] at HRD1
  clear hd2 hsc2
  have HRD := HRD1
  clear HRD1
  obtain ⟨b9, o9, hSA, hsg⟩ := HRD.out.at_.segAt
  injection hSA with hSA; injection hSA with hS1 hS2; subst hS1; subst hS2
  have HSG := Lib.hid hsg
  obtain ⟨nm, hnm⟩ : ∃ z, z = nmWA x.s.ix := ⟨_, rfl⟩
  obtain ⟨sz, hsz⟩ : ∃ z, z = (sgB x.s).length := ⟨_, rfl⟩
  obtain ⟨pn, hpn⟩ : ∃ z, z = pre.length := ⟨_, rfl⟩
  obtain ⟨wt, hwt⟩ : ∃ z, z = x.s.wet := ⟨_, rfl⟩
  obtain ⟨xc, hxc⟩ : ∃ z, z = x.c := ⟨_, rfl⟩
  obtain ⟨xA, hxA⟩ : ∃ z, z = x.A := ⟨_, rfl⟩
  obtain ⟨as_, has⟩ : ∃ z, z = ats x.s.es := ⟨_, rfl⟩
  rw [← hnm, ← hsz, ← hpn, ← hwt, ← hxc, ← hxA, ← has] at HSG
  obtain ⟨n, hn⟩ : ∃ n, n = pn + 1 := ⟨_, rfl⟩
  rw [← hn] at HSG
  have HEQ : Hid (nm = nmWA x.s.ix ∧ sz = (sgB x.s).length ∧ pn = pre.length ∧ wt = x.s.wet ∧ xc = x.c ∧ xA = x.A ∧ as_ = ats x.s.es ∧ n = pn + 1) := Lib.hid ⟨hnm, hsz, hpn, hwt, hxc, hxA, has, hn⟩
  have hpl : pn ≤ 1000000 := by rw [hpn]; exact HRD.out.lns.1
  have hszl : sz < 256 := by rw [hsz]; exact HRD.out.lns.2.2.1
  clear hsg hnm hsz hpn hwt hxc hxA has
  have v1 := HSG.out.v1
  have hw : IntKind.i64.wrap ((n : Int) - 1) = (pn : Int) := by rw [IntKind.wrap_i64]; omega
  have hw2 : IntKind.i64.wrap (pn : Int) = (pn : Int) := by rw [IntKind.wrap_i64]; omega
  have hjn : (pn : Int) < (n : Int) := by omega
  have hj0 : (0 : Int) ≤ (pn : Int) := by omega
  clear hn
  go_upto_region 7 with fail
  refine AnyZ.start (S := (fun V => V.cell? ⟨wb, 1, none⟩ = some (.slice (some ⟨b, o, none⟩) n sc2))) (z := 1012) (by kernel_rfl) ?_ (fun hHeld => ?_)
  ·exact v1
  refine AnyZ.take (i := 0) (v := ?_) rfl (by kernel_rfl) (by kernel_rfl) (by kernel_rfl) (by kernel_rfl) (fun _ _ _ h => h) (Or.inl ⟨by kernel_rfl, ?_⟩) (by assumption) ?_
  rotate_left
  ·intro w hSw; (try dsimp only at hSw); go_simp; try with_reducible rfl
  try simp only [Act.put, List.getElem_toArray, List.getElem_cons_zero, List.setIfInBounds_toArray, List.set_cons_zero, List.set_cons_succ]
  refine AnyZ.take (i := 1) (v := ?_) rfl (by kernel_rfl) (by kernel_rfl) (by kernel_rfl) (by kernel_rfl) (fun _ _ _ h => h) (Or.inl ⟨by kernel_rfl, ?_⟩) (by assumption) ?_
  rotate_left
  ·intro w hSw; (try dsimp only at hSw); go_simp; try with_reducible rfl
  try simp only [Act.put, List.getElem_toArray, List.getElem_cons_succ, List.getElem_cons_zero, List.setIfInBounds_toArray, List.set_cons_zero, List.set_cons_succ]
  refine AnyZ.take (i := 2) (v := ?_) rfl (by kernel_rfl) (by kernel_rfl) (by kernel_rfl) (by kernel_rfl) (fun _ _ _ h => h) (Or.inl ⟨by kernel_rfl, ?_⟩) (by assumption) ?_
  rotate_left
  ·intro w hSw; (try dsimp only at hSw); go_simp; try with_reducible rfl
  try simp only [Act.put, List.getElem_toArray, List.getElem_cons_succ, List.getElem_cons_zero, List.setIfInBounds_toArray, List.set_cons_zero, List.set_cons_succ]
  refine AnyZ.take (i := 3) (v := ?_) rfl (by kernel_rfl) (by kernel_rfl) (by kernel_rfl) (by kernel_rfl) (fun _ _ _ h => h) (Or.inl ⟨by kernel_rfl, ?_⟩) (by assumption) ?_
  rotate_left
  ·intro w hSw; (try dsimp only at hSw); go_simp; try with_reducible rfl
  try simp only [Act.put, List.getElem_toArray, List.getElem_cons_succ, List.getElem_cons_zero, List.setIfInBounds_toArray, List.set_cons_zero, List.set_cons_succ]
  refine AnyZ.take (i := 4) (v := ?_) rfl (by kernel_rfl) (by kernel_rfl) (by kernel_rfl) (by kernel_rfl) (fun _ _ _ h => h) (Or.inl ⟨by kernel_rfl, ?_⟩) (by assumption) ?_
  rotate_left
  ·intro w hSw; (try dsimp only at hSw); go_simp; try with_reducible rfl
  try simp only [Act.put, List.getElem_toArray, List.getElem_cons_succ, List.getElem_cons_zero, List.setIfInBounds_toArray, List.set_cons_zero, List.set_cons_succ]
  refine AnyZ.take (i := 5) (v := ?_) rfl (by kernel_rfl) (by kernel_rfl) (by kernel_rfl) (by kernel_rfl) (fun _ _ _ h => h) (Or.inl ⟨by kernel_rfl, ?_⟩) (by assumption) ?_
  rotate_left
  ·intro w hSw; (try dsimp only at hSw); go_simp; try with_reducible rfl
  try simp only [Act.put, List.getElem_toArray, List.getElem_cons_succ, List.getElem_cons_zero, List.setIfInBounds_toArray, List.set_cons_zero, List.set_cons_succ]
  refine AnyZ.take (i := 6) (v := ?_) rfl (by kernel_rfl) (by kernel_rfl) (by kernel_rfl) (by kernel_rfl) (fun _ _ _ h => h) (Or.inl ⟨by kernel_rfl, ?_⟩) (by assumption) ?_
  rotate_left
  ·intro w hSw; (try dsimp only at hSw); go_simp; try with_reducible rfl
  try simp only [Act.put, List.getElem_toArray, List.getElem_cons_succ, List.getElem_cons_zero, List.setIfInBounds_toArray, List.set_cons_zero, List.set_cons_succ]
  refine AnyZ.take (i := 7) (v := ?_) rfl (by kernel_rfl) (by kernel_rfl) (by kernel_rfl) (by kernel_rfl) (fun _ _ _ h => h) (Or.inl ⟨by kernel_rfl, ?_⟩) (by assumption) ?_
  rotate_left
  ·intro w hSw; (try dsimp only at hSw); go_simp; try with_reducible rfl
  try simp only [Act.put, List.getElem_toArray, List.getElem_cons_succ, List.getElem_cons_zero, List.setIfInBounds_toArray, List.set_cons_zero, List.set_cons_succ]
  refine AnyZ.take (i := 8) (v := ?_) rfl (by kernel_rfl) (by kernel_rfl) (by kernel_rfl) (by kernel_rfl) (fun _ _ _ h => h) (Or.inl ⟨by kernel_rfl, ?_⟩) (by assumption) ?_
  rotate_left
  ·intro w hSw; (try dsimp only at hSw); go_simp; try with_reducible rfl
  try simp only [Act.put, List.getElem_toArray, List.getElem_cons_succ, List.getElem_cons_zero, List.setIfInBounds_toArray, List.set_cons_zero, List.set_cons_succ]
  refine AnyZ.take (i := 9) (v := ?_) rfl (by kernel_rfl) (by kernel_rfl) (by kernel_rfl) (by kernel_rfl) (fun _ _ _ h => h) (Or.inl ⟨by kernel_rfl, ?_⟩) (by assumption) ?_
  rotate_left
  ·intro w hSw; (try dsimp only at hSw); go_simp; try with_reducible rfl
  try simp only [Act.put, List.getElem_toArray, List.getElem_cons_succ, List.getElem_cons_zero, List.setIfInBounds_toArray, List.set_cons_zero, List.set_cons_succ]
  refine AnyZ.take (i := 10) (v := ?_) rfl (by kernel_rfl) (by kernel_rfl) (by kernel_rfl) (by kernel_rfl) (fun _ _ _ h => h) (Or.inl ⟨by kernel_rfl, ?_⟩) (by assumption) ?_
  rotate_left
  ·intro w hSw; (try dsimp only at hSw); go_simp; try with_reducible rfl
  try simp only [Act.put, List.getElem_toArray, List.getElem_cons_succ, List.getElem_cons_zero, List.setIfInBounds_toArray, List.set_cons_zero, List.set_cons_succ]
  refine AnyZ.take (i := 11) (v := ?_) rfl (by kernel_rfl) (by kernel_rfl) (by kernel_rfl) (by kernel_rfl) (fun _ _ _ h => h) (Or.inl ⟨by kernel_rfl, ?_⟩) (by assumption) ?_
  rotate_left
  ·intro w hSw; (try dsimp only at hSw); go_simp; try with_reducible rfl
  try simp only [Act.put, List.getElem_toArray, List.getElem_cons_succ, List.getElem_cons_zero, List.setIfInBounds_toArray, List.set_cons_zero, List.set_cons_succ]
  refine AnyZ.done (by kernel_rfl) ?_ _
  skip
  clear v1
  have c0 : W.cell? ⟨gb, 0, none⟩ = some (.int .i64 e.ix) := HRD.out.box.cell 0
  have c1 : W.cell? ⟨gb, 1, none⟩ = some (.int .i64 e.tm) := HRD.out.box.cell 1
  have c2 : W.cell? ⟨gb, 2, none⟩ = some (.int .i64 e.kd) := HRD.out.box.cell 2
  have c3 : W.cell? ⟨gb, 3, none⟩ = some (.slice A e.ds.length c) := HRD.out.box.cell 3
  have HREC : Hid (Calls Tryz.prog 82 #[.agg #[.int .i64 e.ix, .int .i64 e.tm, .int .i64 e.kd, .slice A e.ds.length c]] W.drew (RecP (recB e) W.drew)) := Lib.hid (record_any (c := c) HE.out (HRD.out.ds.drewN 1))
  go_wp2_with fail
  (with_reducible refine HREC.out.mono ?_); rintro e' w6 ⟨A6, c6, rfl, ho6, hb6⟩
  have hbd : Below W.heap.size W w6.drew := below_drewN ((below_drewN (Below.refl _ _) 1 : Below W.heap.size W (W.drewN 1)).trans hb6) 1
  have H6 := Lib.hid (HRD.out.at_.below hbd)
  have HBX6 := Lib.hid (HRD.out.box.below hbd HRD.out.box.lt)
  have HDS6 := Lib.hid (HRD.out.ds.below hbd)
  have HKB6 : Hid (Below B w w6.drew ∧ Kept G w w6.drew) := Lib.hid ⟨HRD.out.bel.trans (hbd.mono HRD.out.at_.dx.le), fun g hg => (hbd.block g (HRD.out.at_.oldG g hg)).trans (HRD.out.kep g hg)⟩
  have HO6 := Lib.hid ho6
  obtain ⟨rc, hrc⟩ : ∃ z, z = recB e := ⟨_, rfl⟩
  obtain ⟨⟨dw, kw⟩, hwr⟩ : ∃ z, z = Dsk.write d2 (sgN x.s) (sz : Int) rc := ⟨_, rfl⟩
  rw [← hrc] at HO6 ⊢
  have HRC := Lib.hid hrc
  have HWRE := Lib.hid hwr
  have HWR := Lib.hid (X_Write (c := c6) (s' := dw) (k := kw) (ki := (kw : Int)) H6.out.dx nm (by rw [HEQ.out.1]; unfold nmWA; simp [ByteArray.size, nmOf_len]; unfold maxLen; decide) (sz : Int) (wfN (by omega)) ((SlB.of_own HO6.out).2.drewN 1) (fun h9 => by have h8 := HRD.out.at_.dx.lt; have h7 : W.heap.size ≤ p := h9; omega) (by rw [HEQ.out.1, sname_nmWA]; exact hwr.symm) rfl)
  have HCAP : Hid (rc.length ≤ 2200) := Lib.hid (by rw [hrc]; exact recB_le HE.out)
  obtain ⟨b2, o2, hS2, hsg6⟩ := H6.out.segAt
  injection hS2 with hS2; injection hS2 with hS2 hS3; subst hS2; subst hS3
  rw [← HEQ.out.1, ← HEQ.out.2.1, ← HEQ.out.2.2.1, ← HEQ.out.2.2.2.1, ← HEQ.out.2.2.2.2.1, ← HEQ.out.2.2.2.2.2.1, ← HEQ.out.2.2.2.2.2.2.1, ← HEQ.out.2.2.2.2.2.2.2] at hsg6
  have HSG6 := Lib.hid hsg6
  have z0 := hsg6.e0
  have z2 := hsg6.e2
  have zp := hsg6.v0
  clear hbd ho6 hb6 hrc hwr hsg6 c0 c1 c2 c3 HREC hw hw2 hjn hj0
  go_upto_region 9 with fail
  refine AnyZ.start (S := (fun V => V.cell? ⟨wb, 0, none⟩ = some (.pointer (some ⟨p, 0, none⟩)) ∧ V.cell? ⟨b, o + pn * 4, none⟩ = some (.string nm) ∧ V.cell? ⟨b, o + pn * 4 + 2, none⟩ = some (.int .i64 (sz : Int)))) (z := 1015) (by kernel_rfl) ?_ (fun hHeld => ?_)
  ·exact ⟨zp, z0, z2⟩
  refine AnyZ.take (i := 0) (v := ?_) rfl (by kernel_rfl) (by kernel_rfl) (by kernel_rfl) (by kernel_rfl) (fun _ _ _ h => h) (Or.inl ⟨by kernel_rfl, ?_⟩) (by assumption) ?_
  rotate_left
  ·intro w hSw; (try dsimp only at hSw); go_simp; try with_reducible rfl
  try simp only [Act.put, List.getElem_toArray, List.getElem_cons_zero, List.setIfInBounds_toArray, List.set_cons_zero, List.set_cons_succ]
  refine AnyZ.take (i := 1) (v := ?_) rfl (by kernel_rfl) (by kernel_rfl) (by kernel_rfl) (by kernel_rfl) (fun _ _ _ h => h) (Or.inl ⟨by kernel_rfl, ?_⟩) (by assumption) ?_
  rotate_left
  ·intro w hSw; (try dsimp only at hSw); go_simp; try with_reducible rfl
  try simp only [Act.put, List.getElem_toArray, List.getElem_cons_succ, List.getElem_cons_zero, List.setIfInBounds_toArray, List.set_cons_zero, List.set_cons_succ]
  refine AnyZ.take (i := 2) (v := ?_) rfl (by kernel_rfl) (by kernel_rfl) (by kernel_rfl) (by kernel_rfl) (fun _ _ _ h => h) (Or.inl ⟨by kernel_rfl, ?_⟩) (by assumption) ?_
  rotate_left
  ·intro w hSw; (try dsimp only at hSw); go_simp; try with_reducible rfl
  try simp only [Act.put, List.getElem_toArray, List.getElem_cons_succ, List.getElem_cons_zero, List.setIfInBounds_toArray, List.set_cons_zero, List.set_cons_succ]
  refine AnyZ.take (i := 3) (v := ?_) rfl (by kernel_rfl) (by kernel_rfl) (by kernel_rfl) (by kernel_rfl) (fun _ _ _ h => h) (Or.inl ⟨by kernel_rfl, ?_⟩) (by assumption) ?_
  rotate_left
  ·intro w hSw; (try dsimp only at hSw); go_simp; try with_reducible rfl
  try simp only [Act.put, List.getElem_toArray, List.getElem_cons_succ, List.getElem_cons_zero, List.setIfInBounds_toArray, List.set_cons_zero, List.set_cons_succ]
  refine AnyZ.take (i := 4) (v := ?_) rfl (by kernel_rfl) (by kernel_rfl) (by kernel_rfl) (by kernel_rfl) (fun _ _ _ h => h) (Or.inl ⟨by kernel_rfl, ?_⟩) (by assumption) ?_
  rotate_left
  ·intro w hSw; (try dsimp only at hSw); go_simp; try with_reducible rfl
  try simp only [Act.put, List.getElem_toArray, List.getElem_cons_succ, List.getElem_cons_zero, List.setIfInBounds_toArray, List.set_cons_zero, List.set_cons_succ]
  refine AnyZ.take (i := 5) (v := ?_) rfl (by kernel_rfl) (by kernel_rfl) (by kernel_rfl) (by kernel_rfl) (fun _ _ _ h => h) (Or.inl ⟨by kernel_rfl, ?_⟩) (by assumption) ?_
  rotate_left
  ·intro w hSw; (try dsimp only at hSw); go_simp; try with_reducible rfl
  try simp only [Act.put, List.getElem_toArray, List.getElem_cons_succ, List.getElem_cons_zero, List.setIfInBounds_toArray, List.set_cons_zero, List.set_cons_succ]
  refine AnyZ.take (i := 6) (v := ?_) rfl (by kernel_rfl) (by kernel_rfl) (by kernel_rfl) (by kernel_rfl) (fun _ _ _ h => h) (Or.inl ⟨by kernel_rfl, ?_⟩) (by assumption) ?_
  rotate_left
  ·intro w hSw; (try dsimp only at hSw); go_simp; try with_reducible rfl
  try simp only [Act.put, List.getElem_toArray, List.getElem_cons_succ, List.getElem_cons_zero, List.setIfInBounds_toArray, List.set_cons_zero, List.set_cons_succ]
  refine AnyZ.take (i := 7) (v := ?_) rfl (by kernel_rfl) (by kernel_rfl) (by kernel_rfl) (by kernel_rfl) (fun _ _ _ h => h) (Or.inl ⟨by kernel_rfl, ?_⟩) (by assumption) ?_
  rotate_left
  ·intro w hSw; (try dsimp only at hSw); go_simp; try with_reducible rfl
  try simp only [Act.put, List.getElem_toArray, List.getElem_cons_succ, List.getElem_cons_zero, List.setIfInBounds_toArray, List.set_cons_zero, List.set_cons_succ]
  refine AnyZ.take (i := 8) (v := ?_) rfl (by kernel_rfl) (by kernel_rfl) (by kernel_rfl) (by kernel_rfl) (fun _ _ _ h => h) (Or.inl ⟨by kernel_rfl, ?_⟩) (by assumption) ?_
  rotate_left
  ·intro w hSw; (try dsimp only at hSw); go_simp; try with_reducible rfl
  try simp only [Act.put, List.getElem_toArray, List.getElem_cons_succ, List.getElem_cons_zero, List.setIfInBounds_toArray, List.set_cons_zero, List.set_cons_succ]
  refine AnyZ.take (i := 9) (v := ?_) rfl (by kernel_rfl) (by kernel_rfl) (by kernel_rfl) (by kernel_rfl) (fun _ _ _ h => h) (Or.inl ⟨by kernel_rfl, ?_⟩) (by assumption) ?_
  rotate_left
  ·intro w hSw; (try dsimp only at hSw); go_simp; try with_reducible rfl
  try simp only [Act.put, List.getElem_toArray, List.getElem_cons_succ, List.getElem_cons_zero, List.setIfInBounds_toArray, List.set_cons_zero, List.set_cons_succ]
  refine AnyZ.take (i := 10) (v := ?_) rfl (by kernel_rfl) (by kernel_rfl) (by kernel_rfl) (by kernel_rfl) (fun _ _ _ h => h) (Or.inl ⟨by kernel_rfl, ?_⟩) (by assumption) ?_
  rotate_left
  ·intro w hSw; (try dsimp only at hSw); go_simp; try with_reducible rfl
  try simp only [Act.put, List.getElem_toArray, List.getElem_cons_succ, List.getElem_cons_zero, List.setIfInBounds_toArray, List.set_cons_zero, List.set_cons_succ]
  refine AnyZ.take (i := 11) (v := ?_) rfl (by kernel_rfl) (by kernel_rfl) (by kernel_rfl) (by kernel_rfl) (fun _ _ _ h => h) (Or.inl ⟨by kernel_rfl, ?_⟩) (by assumption) ?_
  rotate_left
  ·intro w hSw; (try dsimp only at hSw); go_simp; try with_reducible rfl
  try simp only [Act.put, List.getElem_toArray, List.getElem_cons_succ, List.getElem_cons_zero, List.setIfInBounds_toArray, List.set_cons_zero, List.set_cons_succ]
  refine AnyZ.take (i := 12) (v := ?_) rfl (by kernel_rfl) (by kernel_rfl) (by kernel_rfl) (by kernel_rfl) (fun _ _ _ h => h) (Or.inl ⟨by kernel_rfl, ?_⟩) (by assumption) ?_
  rotate_left
  ·intro w hSw; (try dsimp only at hSw); go_simp; try with_reducible rfl
  try simp only [Act.put, List.getElem_toArray, List.getElem_cons_succ, List.getElem_cons_zero, List.setIfInBounds_toArray, List.set_cons_zero, List.set_cons_succ]
  refine AnyZ.ready (rs := [13]) (by kernel_rfl) (by simp) ?_
  refine AllZ.cons rfl (fun K hK => ?_) AllZ.nil
  go_simp
  (with_reducible refine (HWR.out).mono ?_); rintro e' w7 ⟨rfl, hd7, hb7, hk7⟩
  have H7 := Lib.hid (H6.out.kept hd7 hk7)
  have HKP := Lib.hid hk7
  have HB7 := Lib.hid hb7
  obtain ⟨b3, o3, hS3, hsg7⟩ := H7.out.segAt
  injection hS3 with hS3; injection hS3 with hS3 hS4; subst hS3; subst hS4
  rw [← HEQ.out.1, ← HEQ.out.2.1, ← HEQ.out.2.2.1, ← HEQ.out.2.2.2.1, ← HEQ.out.2.2.2.2.1, ← HEQ.out.2.2.2.2.2.1, ← HEQ.out.2.2.2.2.2.2.1, ← HEQ.out.2.2.2.2.2.2.2] at hsg7
  have HSG7 := Lib.hid hsg7
  clear hd7 hk7 hb7 z0 z2 zp hsg7
  refine hK.out _ _ ?_ (fun hHeld => ?_)
  ·exact ⟨HSG7.out.v0, HSG7.out.e0, HSG7.out.e2⟩
  clear hK K
  try simp only [Act.put, List.getElem_toArray, List.getElem_cons_succ, List.getElem_cons_zero, List.setIfInBounds_toArray, List.set_cons_zero, List.set_cons_succ]
  refine AnyZ.take (i := 14) (v := ?_) rfl (by kernel_rfl) (by kernel_rfl) (by kernel_rfl) (by kernel_rfl) (fun _ _ _ h => h) (Or.inl ⟨by kernel_rfl, ?_⟩) (by assumption) ?_
  rotate_left
  ·intro w hSw; (try dsimp only at hSw); go_simp; try with_reducible rfl
  try simp only [Act.put, List.getElem_toArray, List.getElem_cons_succ, List.getElem_cons_zero, List.setIfInBounds_toArray, List.set_cons_zero, List.set_cons_succ]
  refine AnyZ.done (by kernel_rfl) ?_ _
  skip
  have HBX7 : Hid (Blk w7 gb 40 (entV e A c)) := Lib.hid ((HKP.out gb (.inl (.inr HRD.out.inR))).trans HBX6.out)
  have HDS7 := Lib.hid (HDS6.out.kept HKP.out (fun g hg => .inl (.inl (HF.out g hg))))
  have HKB7 : Hid (Below B w w7 ∧ Kept G w w7) := Lib.hid ⟨HKB6.out.1.trans HB7.out, fun g hg => (HKP.out g (.inl (.inl hg))).trans (HKB6.out.2 g hg)⟩
  clear HBX6 HDS6 HKB6 HKP HB7 HSG HSG6 hHeld
  by_cases hk0 : kw = 0
  ·subst hk0
   have tk : ((((0 : Nat) : Int)) != 0) = false := rfl
   have HRS : Hid (res = (dw, pre.map SgM.s ++ [⟨x.s.ix, x.s.es ++ [e], true⟩], 0)) := Lib.hid (by
    rw [HRES2.out]; unfold wrLast
    simp only [← HEQ.out.2.1, ← HRC.out, ← HWRE.out]
    exact if_pos trivial)
   have hrow : Rw 1 iC 3 R2 w7 xA xc as_ := by
    rw [HEQ.out.2.2.2.2.2.1, HEQ.out.2.2.2.2.1, HEQ.out.2.2.2.2.2.2.1]; exact H7.out.sok x (by simp)
   have HROW := Lib.hid hrow
   have y1 := HSG7.out.e1
   have y2 := HSG7.out.e2
   have hal : as_.length ≤ 8 := by rw [HEQ.out.2.2.2.2.2.2.1, ats_len]; exact HRD.out.lns.2.2.2
   obtain ⟨cur, hcur⟩ := H7.out.segs.typ (g := b) ⟨o, none, rfl⟩
   have HCU := Lib.hid hcur
   have HAL := Lib.hid hal
   clear hrow hcur
   go_upto_region 12 with fail
   refine AnyZ.start (S := (fun V => V.cell? ⟨b, o + pn * 4 + 1, none⟩ = some (.slice xA as_.length xc) ∧ V.cell? ⟨b, o + pn * 4 + 2, none⟩ = some (.int .i64 (sz : Int)))) (z := 13) (by kernel_rfl) ?_ (fun hHeld => ?_)
   ·exact ⟨y1, y2⟩
   refine AnyZ.take (i := 0) (v := ?_) rfl (by kernel_rfl) (by kernel_rfl) (by kernel_rfl) (by kernel_rfl) (fun _ _ _ h => h) (Or.inl ⟨by kernel_rfl, ?_⟩) (by assumption) ?_
   rotate_left
   ·intro w hSw; (try dsimp only at hSw); go_simp; try with_reducible rfl
   try simp only [Act.put, List.getElem_toArray, List.getElem_cons_zero, List.setIfInBounds_toArray, List.set_cons_zero, List.set_cons_succ]
   refine AnyZ.take (i := 1) (v := ?_) rfl (by kernel_rfl) (by kernel_rfl) (by kernel_rfl) (by kernel_rfl) (fun _ _ _ h => h) (Or.inl ⟨by kernel_rfl, ?_⟩) (by assumption) ?_
   rotate_left
   ·intro w hSw; (try dsimp only at hSw); go_simp; try with_reducible rfl
   try simp only [Act.put, List.getElem_toArray, List.getElem_cons_succ, List.getElem_cons_zero, List.setIfInBounds_toArray, List.set_cons_zero, List.set_cons_succ]
   refine AnyZ.take (i := 2) (v := ?_) rfl (by kernel_rfl) (by kernel_rfl) (by kernel_rfl) (by kernel_rfl) (fun _ _ _ h => h) (Or.inl ⟨by kernel_rfl, ?_⟩) (by assumption) ?_
   rotate_left
   ·intro w hSw; (try dsimp only at hSw); go_simp; try with_reducible rfl
   try simp only [Act.put, List.getElem_toArray, List.getElem_cons_succ, List.getElem_cons_zero, List.setIfInBounds_toArray, List.set_cons_zero, List.set_cons_succ]
   refine AnyZ.take (i := 3) (v := ?_) rfl (by kernel_rfl) (by kernel_rfl) (by kernel_rfl) (by kernel_rfl) (fun _ _ _ h => h) (Or.inl ⟨by kernel_rfl, ?_⟩) (by assumption) ?_
   rotate_left
   ·intro w hSw; (try dsimp only at hSw); go_simp; try with_reducible rfl
   try simp only [Act.put, List.getElem_toArray, List.getElem_cons_succ, List.getElem_cons_zero, List.setIfInBounds_toArray, List.set_cons_zero, List.set_cons_succ]
   refine AnyZ.take (i := 4) (v := ?_) rfl (by kernel_rfl) (by kernel_rfl) (by kernel_rfl) (by kernel_rfl) (fun _ _ _ h => h) (Or.inl ⟨by kernel_rfl, ?_⟩) (by assumption) ?_
   rotate_left
   ·intro w hSw; (try dsimp only at hSw); go_simp; try with_reducible rfl
   try simp only [Act.put, List.getElem_toArray, List.getElem_cons_succ, List.getElem_cons_zero, List.setIfInBounds_toArray, List.set_cons_zero, List.set_cons_succ]
   refine AnyZ.take (i := 5) (v := ?_) rfl (by kernel_rfl) (by kernel_rfl) (by kernel_rfl) (by kernel_rfl) (fun _ _ _ h => h) (Or.inl ⟨by kernel_rfl, ?_⟩) (by assumption) ?_
   rotate_left
   ·intro w hSw; (try dsimp only at hSw); go_simp; try with_reducible rfl
   try simp only [Act.put, List.getElem_toArray, List.getElem_cons_succ, List.getElem_cons_zero, List.setIfInBounds_toArray, List.set_cons_zero, List.set_cons_succ]
   refine AnyZ.take (i := 6) (v := ?_) rfl (by kernel_rfl) (by kernel_rfl) (by kernel_rfl) (by kernel_rfl) (fun _ _ _ h => h) (Or.inl ⟨by kernel_rfl, ?_⟩) (by assumption) ?_
   rotate_left
   ·intro w hSw; (try dsimp only at hSw); go_simp; try with_reducible rfl
   try simp only [Act.put, List.getElem_toArray, List.getElem_cons_succ, List.getElem_cons_zero, List.setIfInBounds_toArray, List.set_cons_zero, List.set_cons_succ]
   refine AnyZ.take (i := 7) (v := ?_) rfl (by kernel_rfl) (by kernel_rfl) (by kernel_rfl) (by kernel_rfl) (fun _ _ _ h => h) (Or.inl ⟨by kernel_rfl, ?_⟩) (by assumption) ?_
   rotate_left
   ·intro w hSw; (try dsimp only at hSw); go_simp; try with_reducible rfl
   try simp only [Act.put, List.getElem_toArray, List.getElem_cons_succ, List.getElem_cons_zero, List.setIfInBounds_toArray, List.set_cons_zero, List.set_cons_succ]
   refine AnyZ.take (i := 8) (v := ?_) rfl (by kernel_rfl) (by kernel_rfl) (by kernel_rfl) (by kernel_rfl) (fun _ _ _ h => h) (Or.inl ⟨by kernel_rfl, ?_⟩) (by assumption) ?_
   rotate_left
   ·intro w hSw; (try dsimp only at hSw); go_simp; try with_reducible rfl
   try simp only [Act.put, List.getElem_toArray, List.getElem_cons_succ, List.getElem_cons_zero, List.setIfInBounds_toArray, List.set_cons_zero, List.set_cons_succ]
   refine AnyZ.ready (rs := [9]) (by kernel_rfl) (by simp) ?_
   refine AllZ.cons rfl (fun K hK => ?_) AllZ.nil
   go_simp
   refine hK.out _ _ ?_ (fun hHeld => ?_)
   ·exact ⟨((HCU.out.drew.alloc _).cell _).trans ((HCU.out.cell _).symm.trans y1), ((HCU.out.drew.alloc _).cell _).trans ((HCU.out.cell _).symm.trans y2)⟩
   clear hK K
   try simp only [Act.put, List.getElem_toArray, List.getElem_cons_succ, List.getElem_cons_zero, List.setIfInBounds_toArray, List.set_cons_zero, List.set_cons_succ]
   refine AnyZ.ready (rs := [10]) (by kernel_rfl) (by simp) ?_
   refine AllZ.cons rfl (fun K hK => ?_) AllZ.nil
   refine step_appendR1 (f := iC) (w0 := w7.drew) (F := R2) rfl _ _ _ rfl intTK iC_len (sz : Int) (iC_one _) rfl rfl (HROW.out.drewN 1) rfl rfl (by unfold maxLen; omega) (by omega) ?_
   intro A8 c8 w8 hr8 hf8
   have HR8 := Lib.hid hr8
   have HF8 : Hid (Frm (fun g => R2 g ∧ atA xA g) w7 w8) := Lib.hid (((Frm.refl _ w7).drew).trans hf8)
   have hcur8 := HCU.out.frmA HROW.out (by decide) HF8.out
   have HC8 := Lib.hid hcur8
   have x1 : w8.cell? ⟨b, o + pn * 4 + 1, none⟩ = some (.slice xA as_.length xc) := (hcur8.cell _).trans ((HCU.out.cell _).symm.trans y1)
   have x2 : w8.cell? ⟨b, o + pn * 4 + 2, none⟩ = some (.int .i64 (sz : Int)) := (hcur8.cell _).trans ((HCU.out.cell _).symm.trans y2)
   have xf1 := hcur8.free (o + pn * 4 + 1)
   clear hr8 hf8 hcur8
   refine hK.out _ _ ?_ (fun hHeld => ?_)
   ·exact ⟨x1, x2⟩
   clear hK K
   try simp only [Act.put, List.getElem_toArray, List.getElem_cons_succ, List.getElem_cons_zero, List.setIfInBounds_toArray, List.set_cons_zero, List.set_cons_succ]
   refine AnyZ.takeAny (i := 11) (v := ?_) rfl (by kernel_rfl) (by kernel_rfl) (by kernel_rfl) (by kernel_rfl) (fun _ _ _ h => h) (Or.inl ⟨by kernel_rfl, ?_⟩) (by assumption) ?_
   rotate_left
   ·intro w hSw; (try dsimp only at hSw); go_simp; try with_reducible rfl
   try simp only [Act.put, List.getElem_toArray, List.getElem_cons_succ, List.getElem_cons_zero, List.setIfInBounds_toArray, List.set_cons_zero, List.set_cons_succ]
   refine AnyZ.take (i := 12) (v := ?_) rfl (by kernel_rfl) (by kernel_rfl) (by kernel_rfl) (by kernel_rfl) (fun _ _ _ h => h) (Or.inl ⟨by kernel_rfl, ?_⟩) (by assumption) ?_
   rotate_left
   ·intro w hSw; (try dsimp only at hSw); go_simp; try with_reducible rfl
   try simp only [Act.put, List.getElem_toArray, List.getElem_cons_succ, List.getElem_cons_zero, List.setIfInBounds_toArray, List.set_cons_zero, List.set_cons_succ]
   refine AnyZ.ready (rs := [13]) (by kernel_rfl) (by simp) ?_
   refine AllZ.last rfl (by kernel_rfl) (fun K hK => ?_) AllZ.nil
   go_simp
   refine hK.out _ _ ?_
   clear hK K
   try simp only [Act.put, List.getElem_toArray, List.getElem_cons_succ, List.getElem_cons_zero, List.setIfInBounds_toArray, List.set_cons_zero, List.set_cons_succ]
   refine AnyZ.done (by kernel_rfl) ?_ _
   skip
   go_upto_region 13 with fail
   obtain ⟨w8a, hw8a⟩ : ∃ z, z = w8.setCell ⟨b, o + pn * 4 + 1, none⟩ (.slice A8 (as_.length + 1) c8) := ⟨_, rfl⟩
   rw [← hw8a]
   have hc8a := HC8.out.set_ (o + pn * 4 + 1) (.slice A8 (as_.length + 1) c8)
   rw [← hw8a] at hc8a
   have x2a : w8a.cell? ⟨b, o + pn * 4 + 2, none⟩ = some (.int .i64 (sz : Int)) := (hc8a.cell _).trans ((Array.getElem?_setIfInBounds_ne (by omega)).trans ((HC8.out.cell _).symm.trans x2))
   have xf2 := hc8a.free (o + pn * 4 + 2)
   have HC8A := Lib.hid hc8a
   have hrl : (rc.length : Int) ≤ 2200 := by have := HCAP.out; omega
   have y3 := HSG7.out.e3
   have x3a : w8a.cell? ⟨b, o + pn * 4 + 3, none⟩ = some (.bool wt) := (hc8a.cell _).trans ((Array.getElem?_setIfInBounds_ne (by omega)).trans ((HC8.out.cell _).symm.trans (((HC8.out.cell _).trans ((HCU.out.cell _).symm)).trans y3)))
   have HW8A := Lib.hid hw8a
   clear hw8a hc8a x1 x2 xf1 y1 y2 y3 hHeld
   go_upto_region 14 with fail
   obtain ⟨w8b, hw8b⟩ : ∃ z, z = w8a.setCell ⟨b, o + pn * 4 + 2, none⟩ (.int .i64 ((sz : Int) + (rc.length : Int))) := ⟨_, rfl⟩
   rw [← hw8b]
   have hc8b := HC8A.out.set_ (o + pn * 4 + 2) (.int .i64 ((sz : Int) + (rc.length : Int)))
   rw [← hw8b] at hc8b
   have x3b : w8b.cell? ⟨b, o + pn * 4 + 3, none⟩ = some (.bool wt) := (hc8b.cell _).trans ((Array.getElem?_setIfInBounds_ne (by omega)).trans ((HC8A.out.cell _).symm.trans x3a))
   have xf3 := hc8b.free (o + pn * 4 + 3)
   have HW8B := Lib.hid hw8b
   clear hw8b hc8b x2a xf2 x3a
   go_upto_region 15 with fail
   obtain ⟨w9, hw9⟩ : ∃ z, z = w8b.setCell ⟨b, o + pn * 4 + 3, none⟩ (.bool true) := ⟨_, rfl⟩
   rw [← hw9]
   have h9 : Wr9 R2 p wb (some ⟨b, o, none⟩) sc2 pre x EA ec em e gb (entV e A c) A8 c8 w7 w9 := by
    rw [hw9, HW8B.out, HW8A.out, HEQ.out.2.2.1]
    refine H7.out.wr9 rfl HBX7.out ?_ ?_ ?_ ?_
    ·have h8 := HR8.out
     rw [HEQ.out.2.2.2.2.2.1, HEQ.out.2.2.2.2.2.2.1, HEQ.out.2.1] at h8; exact h8
    ·have h8 := HF8.out
     rw [HEQ.out.2.2.2.2.2.1] at h8; exact h8
    ·rw [HEQ.out.2.2.2.2.2.2.1, ats_len]
    ·rw [HEQ.out.2.1, HRC.out]
   have H9 := Lib.hid h9
   have HDS9 := Lib.hid (HDS7.out.frm h9.frm (fun g hg h1 => h1.elim (fun h2 => (H7.out.own g h2).2.1 (HF.out g hg)) (fun h2 => H7.out.notG (h2 ▸ HF.out g hg))))
   have HCL := Lib.hid (CloneB_any A c e.ds (by have := rightE_iff.1 HE.out; omega) w9 HDS9.out.sl)
   have c3 : w9.cell? ⟨gb, 3, none⟩ = some (.slice A e.ds.length c) := h9.box.cell 3
   clear hw9 x3b xf3 h9
   go_wp2_with fail
   (with_reducible refine HCL.out.mono ?_); rintro e' w10 ⟨A10, c10, rfl, ho10, hb10⟩
   have HO10 := Lib.hid ho10
   have HB10 := Lib.hid hb10
   have bx10 := H9.out.box.below hb10 H9.out.box.lt
   have HBX10 := Lib.hid bx10
   have k3 : w10.cell? ⟨gb, 3, none⟩ = some (.slice A e.ds.length c) := bx10.cell 3
   have kf3 := bx10.free 3
   clear ho10 hb10 bx10 c3 HCL
   go_upto_region 16 with fail
   obtain ⟨w11, hw11⟩ : ∃ z, z = w10.setCell ⟨gb, 3, none⟩ (.slice A10 e.ds.length c10) := ⟨_, rfl⟩
   rw [← hw11]
   have HW11 := Lib.hid hw11
   have HBX11 : Hid (Blk w11 gb 40 #[.int .i64 e.ix, .int .i64 e.tm, .int .i64 e.kd, .slice A10 e.ds.length c10]) := Lib.hid (by rw [hw11]; exact HBX10.out.set_ 3 _)
   have HWB11 : Hid (Blk w11 wb 92 #[.pointer (some ⟨p, 0, none⟩), .slice (some ⟨b, o, none⟩) (pre ++ [x]).length sc2, .slice EA em.length ec]) := Lib.hid (by
    rw [hw11]; exact (H9.out.wbk.below HB10.out H9.out.wbk.lt).far (p := ⟨gb, 3, none⟩) (fun e9 => (H7.out.own gb HRD.out.inR).2.2 e9.symm) _)
   have HEN11 : Hid (Rw 4 emC 40 R2 w11 EA ec em) := Lib.hid (by
    rw [hw11]; exact ((H9.out.ents.self.below HB10.out).far HBX10.out (.inr (fun e9 => HRD.out.nE e9.2)) 3 _).mono (fun g _ hg => hg.1))
   have g0 : w11.cell? ⟨gb, 0, none⟩ = some (.int .i64 e.ix) := HBX11.out.cell 0
   have g1 : w11.cell? ⟨gb, 1, none⟩ = some (.int .i64 e.tm) := HBX11.out.cell 1
   have g2 : w11.cell? ⟨gb, 2, none⟩ = some (.int .i64 e.kd) := HBX11.out.cell 2
   have g3 : w11.cell? ⟨gb, 3, none⟩ = some (.slice A10 e.ds.length c10) := HBX11.out.cell 3
   have v2 : w11.cell? ⟨wb, 2, none⟩ = some (.slice EA em.length ec) := HWB11.out.cell 2
   clear hw11 k3 kf3
   refine AnyZ.start (S := (fun V => V.cell? ⟨wb, 2, none⟩ = some (.slice EA em.length ec) ∧ V.cell? ⟨gb, 0, none⟩ = some (.int .i64 e.ix) ∧ V.cell? ⟨gb, 1, none⟩ = some (.int .i64 e.tm) ∧ V.cell? ⟨gb, 2, none⟩ = some (.int .i64 e.kd) ∧ V.cell? ⟨gb, 3, none⟩ = some (.slice A10 e.ds.length c10))) (z := 10) (by kernel_rfl) ?_ (fun hHeld => ?_)
   ·exact ⟨v2, g0, g1, g2, g3⟩
   refine AnyZ.take (i := 0) (v := ?_) rfl (by kernel_rfl) (by kernel_rfl) (by kernel_rfl) (by kernel_rfl) (fun _ _ _ h => h) (Or.inl ⟨by kernel_rfl, ?_⟩) (by assumption) ?_
   rotate_left
   ·intro w hSw; (try dsimp only at hSw); go_simp; try with_reducible rfl
   try simp only [Act.put, List.getElem_toArray, List.getElem_cons_zero, List.setIfInBounds_toArray, List.set_cons_zero, List.set_cons_succ]
   refine AnyZ.take (i := 1) (v := ?_) rfl (by kernel_rfl) (by kernel_rfl) (by kernel_rfl) (by kernel_rfl) (fun _ _ _ h => h) (Or.inl ⟨by kernel_rfl, ?_⟩) (by assumption) ?_
   rotate_left
   ·intro w hSw; (try dsimp only at hSw); go_simp; try with_reducible rfl
   try simp only [Act.put, List.getElem_toArray, List.getElem_cons_succ, List.getElem_cons_zero, List.setIfInBounds_toArray, List.set_cons_zero, List.set_cons_succ]
   refine AnyZ.take (i := 2) (v := ?_) rfl (by kernel_rfl) (by kernel_rfl) (by kernel_rfl) (by kernel_rfl) (fun _ _ _ h => h) (Or.inl ⟨by kernel_rfl, ?_⟩) (by assumption) ?_
   rotate_left
   ·intro w hSw; (try dsimp only at hSw); go_simp; try with_reducible rfl
   try simp only [Act.put, List.getElem_toArray, List.getElem_cons_succ, List.getElem_cons_zero, List.setIfInBounds_toArray, List.set_cons_zero, List.set_cons_succ]
   refine AnyZ.take (i := 3) (v := ?_) rfl (by kernel_rfl) (by kernel_rfl) (by kernel_rfl) (by kernel_rfl) (fun _ _ _ h => h) (Or.inl ⟨by kernel_rfl, ?_⟩) (by assumption) ?_
   rotate_left
   ·intro w hSw; (try dsimp only at hSw); go_simp; try with_reducible rfl
   try simp only [Act.put, List.getElem_toArray, List.getElem_cons_succ, List.getElem_cons_zero, List.setIfInBounds_toArray, List.set_cons_zero, List.set_cons_succ]
   refine AnyZ.take (i := 4) (v := ?_) rfl (by kernel_rfl) (by kernel_rfl) (by kernel_rfl) (by kernel_rfl) (fun _ _ _ h => h) (Or.inl ⟨by kernel_rfl, ?_⟩) (by assumption) ?_
   rotate_left
   ·intro w hSw; (try dsimp only at hSw); go_simp; try with_reducible rfl
   try simp only [Act.put, List.getElem_toArray, List.getElem_cons_succ, List.getElem_cons_zero, List.setIfInBounds_toArray, List.set_cons_zero, List.set_cons_succ]
   refine AnyZ.take (i := 5) (v := ?_) rfl (by kernel_rfl) (by kernel_rfl) (by kernel_rfl) (by kernel_rfl) (fun _ _ _ h => h) (Or.inl ⟨by kernel_rfl, ?_⟩) (by assumption) ?_
   rotate_left
   ·intro w hSw; (try dsimp only at hSw); go_simp; try with_reducible rfl
   try simp only [Act.put, List.getElem_toArray, List.getElem_cons_succ, List.getElem_cons_zero, List.setIfInBounds_toArray, List.set_cons_zero, List.set_cons_succ]
   refine AnyZ.ready (rs := [6]) (by kernel_rfl) (by simp) ?_
   refine AllZ.cons rfl (fun K hK => ?_) AllZ.nil
   go_simp
   refine hK.out _ _ ?_ (fun hHeld => ?_)
   ·exact ⟨(HWB11.out.drew.alloc _).cell 2, (HBX11.out.drew.alloc _).cell 0, (HBX11.out.drew.alloc _).cell 1, (HBX11.out.drew.alloc _).cell 2, (HBX11.out.drew.alloc _).cell 3⟩
   clear hK K
   try simp only [Act.put, List.getElem_toArray, List.getElem_cons_succ, List.getElem_cons_zero, List.setIfInBounds_toArray, List.set_cons_zero, List.set_cons_succ]
   refine AnyZ.ready (rs := [7]) (by kernel_rfl) (by simp) ?_
   refine AllZ.cons rfl (fun K hK => ?_) AllZ.nil
   refine step_appendR1 (f := emC) (w0 := w11.drew) (F := R2) rfl _ _ _ rfl entT emC_len ⟨e, A10, c10⟩ (emC_one _) rfl rfl (HEN11.out.drewN 1) rfl rfl (by have := HRD.out.lns.2.1; unfold maxLen; omega) (by have := HRD.out.lns.2.1; omega) ?_
   intro A12 c12 w12 hr12 hf12
   have HR12 := Lib.hid hr12
   have HF12 : Hid (Frm (fun g => R2 g ∧ atA EA g) w11 w12) := Lib.hid (((Frm.refl _ w11).drew).trans hf12)
   have HWB12 := Lib.hid (HWB11.out.frmA HEN11.out (by decide) HF12.out)
   have HBX12 := Lib.hid (HBX11.out.frm HF12.out (fun e9 => HRD.out.nE e9.2))
   have v12 : w12.cell? ⟨wb, 2, none⟩ = some (.slice EA em.length ec) := HWB12.out.cell 2
   have vf12 := HWB12.out.free 2
   clear hr12 hf12 v2 g0 g1 g2 g3
   refine hK.out _ _ ?_ (fun hHeld => ?_)
   ·exact ⟨HWB12.out.cell 2, HBX12.out.cell 0, HBX12.out.cell 1, HBX12.out.cell 2, HBX12.out.cell 3⟩
   clear hK K
   try simp only [Act.put, List.getElem_toArray, List.getElem_cons_succ, List.getElem_cons_zero, List.setIfInBounds_toArray, List.set_cons_zero, List.set_cons_succ]
   refine AnyZ.takeAny (i := 8) (v := ?_) rfl (by kernel_rfl) (by kernel_rfl) (by kernel_rfl) (by kernel_rfl) (fun _ _ _ h => h) (Or.inl ⟨by kernel_rfl, ?_⟩) (by assumption) ?_
   rotate_left
   ·intro w hSw; (try dsimp only at hSw); go_simp; try with_reducible rfl
   try simp only [Act.put, List.getElem_toArray, List.getElem_cons_succ, List.getElem_cons_zero, List.setIfInBounds_toArray, List.set_cons_zero, List.set_cons_succ]
   refine AnyZ.take (i := 9) (v := ?_) rfl (by kernel_rfl) (by kernel_rfl) (by kernel_rfl) (by kernel_rfl) (fun _ _ _ h => h) (Or.inl ⟨by kernel_rfl, ?_⟩) (by assumption) ?_
   rotate_left
   ·intro w hSw; (try dsimp only at hSw); go_simp; try with_reducible rfl
   try simp only [Act.put, List.getElem_toArray, List.getElem_cons_succ, List.getElem_cons_zero, List.setIfInBounds_toArray, List.set_cons_zero, List.set_cons_succ]
   refine AnyZ.ready (rs := [10]) (by kernel_rfl) (by simp) ?_
   refine AllZ.last rfl (by kernel_rfl) (fun K hK => ?_) AllZ.nil
   go_simp
   refine hK.out _ _ ?_
   clear hK K
   try simp only [Act.put, List.getElem_toArray, List.getElem_cons_succ, List.getElem_cons_zero, List.setIfInBounds_toArray, List.set_cons_zero, List.set_cons_succ]
   refine AnyZ.done (by kernel_rfl) ?_ _
   skip
   go_wp2_with fail
   go_ret
   have hr := HR12.out
   have hf := HF12.out
   rw [HW11.out] at hf
   have hr' : Rw 4 emC 40 (fun g => (R2 g ∧ atA EA g) ∨ (w10.setCell ⟨gb, 3, none⟩ (.slice A10 e.ds.length c10)).heap.size < g) w12 A12 c12 (em ++ [⟨e, A10, c10⟩]) := by
    rw [← HW11.out]; exact hr
   have hfin := H7.out.wr13 H9.out HRD.out.inR HRD.out.nE HO10.out HB10.out hr' hf
   have hwf := wl_frm H7.out hfin.2
   rw [HRS.out]
   refine ⟨rfl, ⟨_, _, _, _, _, _, _, hfin.1, ?_, ?_⟩, HKB7.out.1.trans hwf.1, fun g hg => (hwf.2 g hg).trans (HKB7.out.2 g hg)⟩
   ·rw [List.map_append]; rfl
   ·rw [List.map_append, HRD.out.ems, allE_snoc, List.append_assoc]; rfl
  ·have tk : ((kw : Int) != 0) = true := by rw [bne_iff_ne]; omega
   have HRS : Hid (res = (dw, pre.map SgM.s ++ [x.s], kw)) := Lib.hid (by
    rw [HRES2.out]; unfold wrLast
    simp only [← HEQ.out.2.1, ← HRC.out, ← HWRE.out]
    exact if_neg hk0)
   clear hk0
   go_wp2_with fail
   go_ret
   rw [HRS.out]
   exact ⟨rfl, ⟨_, _, _, _, _, _, _, H7.out, by rw [List.map_append]; rfl, by rw [HRD.out.ems, allE_snoc]⟩, HKB7.out.1, HKB7.out.2⟩
end Go.Proofs.YtifgajinfcihmaaGreatDoor
namespace Go.Proofs.YtifgajinfcihmaaGreatDoor
open Go Go.RowKit Go.Maps Go.Lib Mem Pk Dsk Wl Go.Proofs.YtifgajinfcihmaaGreatDoor.Nm
section
variable {G R : Nat → Prop} {B p wb : Nat} {d : S} {SA EA : Option Addr} {sc ec : Nat} {sm : List SgM} {em : List EnM} {w : World}
theorem Wl0.dry {b o k : Nat} (h : Wl0 G R B p wb d (some ⟨b, o, none⟩) sc sm EA ec em w) (hk : k < sm.length) {y : SgM} (hy : y = ⟨⟨sm[k].s.ix, sm[k].s.es, false⟩, sm[k].A, sm[k].c⟩) :
 Wl0 G R B p wb d (some ⟨b, o, none⟩) sc (sm.set k y) EA ec em (w.setCell ⟨b, o + k * 4 + 3, none⟩ (.bool false)) ∧ Frm (fun g => R g ∨ g = wb) w (w.setCell ⟨b, o + k * 4 + 3, none⟩ (.bool false)) := by
 have hRb : R b := h.segs.inF ⟨o, none, rfl⟩
 have hf : Frm (fun g => R g ∧ atA (some ⟨b, o, none⟩) g) w (w.setCell ⟨b, o + k * 4 + 3, none⟩ (.bool false)) := (Frm.refl _ _).setCell (p := ⟨b, o + k * 4 + 3, none⟩) (fun _ => ⟨hRb, o, none, rfl⟩) _
 refine ⟨⟨(dx_grow h.dx hf (fun g hg => .inl (.inr hg.1))).weaken (fun g hg => .inl hg), ?_, h.segs.set_ (j := k) (i := 3) smC_len hk (by decide) (.bool false) (by rw [hy]; rfl), h.ents.frmA h.segs (by decide) hf, ?_, fun z hz => (h.eok z hz).frmA h.segs (by decide) hf, ?_, h.big, h.notG, h.own⟩, hf.mono (fun g _ hg => .inl hg.1)⟩
 ·rw [List.length_set]; exact h.blk.frmA h.segs (by decide) hf
 ·intro z hz
  rcases List.mem_or_eq_of_mem_set hz with hz | hz
  ·exact Mem.Rw.frmA (h.sok z hz) h.segs (by decide) hf
  ·rw [hz, hy]
   exact Mem.Rw.frmA (h.sok sm[k] (List.getElem_mem hk)) h.segs (by decide) hf
 ·have h1 : (sm.set k y).map SgM.A = sm.map SgM.A := by
   rw [List.map_set, hy]
   have h2 : (sm.map SgM.A)[k]'(by rw [List.length_map]; exact hk) = sm[k].A := List.getElem_map ..
   rw [← h2]; exact List.set_getElem_self _
  have h2 := h.apart
  rw [← List.pairwise_map (f := SgM.A) (R := fun a b => ∀ g, atA a g → ¬ atA b g)] at h2 ⊢
  rw [h1]; exact h2
end
def SyW (G R : Nat → Prop) (B p wb : Nat) (SA : Option Addr) (sc n : Nat) (EA : Option Addr) (ec : Nat) (em : List EnM) (res : S × List Sg × Nat) (w : World) (iv : Value) (wr : World) : Prop :=
 ∃ (k : Nat) (dk : S) (sm : List SgM), k ≤ sm.length ∧ Hid (sm.length = n) ∧ iv = .int .i64 k ∧ Wl0 G R B p wb dk SA sc sm EA ec em wr ∧ Hid (res = syncW dk ((sm.take k).map SgM.s) ((sm.drop k).map SgM.s)) ∧ Hid (em.map EnM.e = allE (sm.map SgM.s)) ∧ Hid (Below B w wr ∧ Kept G w wr)
set_option maxRecDepth 100000 in
set_option maxHeartbeats 4000000 in
theorem wSync_any {G : Nat → Prop} {B p wb : Nat} {d : S} {ss : List Sg} {w : World} (h : WlAt G B p wb d ss w) :
 Calls Tryz.prog 25 #[.pointer (some ⟨wb, 0, none⟩)] w (LdP G B p wb (syncW d [] ss) w) := by
 obtain ⟨res, hres⟩ : ∃ z, z = syncW d [] ss := ⟨_, rfl⟩
 rw [← hres]
 obtain ⟨R, SA, sc, sm0, EA, ec, em, h0, hsm, hem⟩ := h
 obtain ⟨n, hn⟩ : ∃ n, n = sm0.length := ⟨_, rfl⟩
 have v1 : w.cell? ⟨wb, 1, none⟩ = some (.slice SA n sc) := by rw [hn]; exact h0.blk.cell 1
 have hnl : n ≤ 9223372036854775807 := by have h9 := h0.segs.len0; unfold maxLen at h9; omega
 have HRES : Hid (res = syncW d ((sm0.take 0).map SgM.s) ((sm0.drop 0).map SgM.s)) := Lib.hid (by rw [hres, ← hsm]; rfl)
 have HEM : Hid (em.map EnM.e = allE (sm0.map SgM.s)) := Lib.hid (by rw [hem, hsm])
 have H0 := Lib.hid h0
 have HN := Lib.hid hn
 clear h0 hsm hem hres hn
 go_enter Tryz.func25, Tryz.ntmps25
 go_wp2_with fail
 clear v1
 go_loopw [11] (fun iv wr => SyW G R B p wb SA sc n EA ec em res w iv wr) (fun iv _ => n - (RowKit.intOf iv).toNat)
 case atStart => exact ⟨0, d, sm0, Nat.zero_le _, Lib.hid HN.out.symm, rfl, H0.out, HRES, HEM, Lib.hid ⟨Below.refl _ _, fun _ _ => rfl⟩⟩
 case round =>
  obtain ⟨j, dk, sm, hj, HNN, rfl, hw0, HSY, HAL, HBJ⟩ := hrel
  have HW0 := Lib.hid hw0
  by_cases hjl : j < sm.length
  ·obtain ⟨bb, oo, rfl, hRb, -, hfz, hc4⟩ := hw0.segs.at hjl
   obtain ⟨x, hx⟩ : ∃ x, x = sm[j] := ⟨_, rfl⟩
   rw [← hx] at hc4
   have e0 : wr.cell? ⟨bb, oo + j * 4, none⟩ = some (.string (nmWA x.s.ix)) := hc4 0 (by decide)
   have e3 : wr.cell? ⟨bb, oo + j * 4 + 3, none⟩ = some (.bool x.s.wet) := hc4 3 (by decide)
   have v1 : wr.cell? ⟨wb, 1, none⟩ = some (.slice (some ⟨bb, oo, none⟩) n sc) := by rw [← HNN.out]; exact hw0.blk.cell 1
   have v0 : wr.cell? ⟨wb, 0, none⟩ = some (.pointer (some ⟨p, 0, none⟩)) := hw0.blk.cell 0
   have hdr : sm.drop j = x :: sm.drop (j + 1) := by rw [hx]; exact List.drop_eq_getElem_cons hjl
   have htk : sm.take (j + 1) = sm.take j ++ [x] := by rw [hx]; exact List.take_succ_eq_append_getElem hjl
   obtain ⟨⟨d2, k2⟩, hsy⟩ : ∃ z, z = Dsk.sync dk (sgN x.s) := ⟨_, rfl⟩
   have hbd : Below wr.heap.size wr wr.drew := below_drewN (Below.refl _ _) 1
   have HWD := Lib.hid (hw0.below hbd)
   have HBD : Hid (Below B w wr.drew ∧ Kept G w wr.drew) := Lib.hid ⟨HBJ.out.1.trans (hbd.mono hw0.dx.le), fun g hg => (hbd.block g (hw0.oldG g hg)).trans (HBJ.out.2 g hg)⟩
   have HSYN := Lib.hid (X_Sync (s' := d2) (k := k2) HWD.out.dx (nmWA x.s.ix) (by unfold nmWA; simp [ByteArray.size, nmOf_len]; unfold maxLen; decide) (by rw [sname_nmWA]; exact hsy.symm) (ki := (k2 : Int)) rfl)
   have hj0 : (0 : Int) ≤ (j : Int) := by omega
   have hj1 : (j : Int) < (n : Int) := by have := HNN.out; omega
   obtain ⟨nm, hnm⟩ : ∃ z, z = nmWA x.s.ix := ⟨_, rfl⟩
   obtain ⟨xw, hxw⟩ : ∃ z, z = x.s.wet := ⟨_, rfl⟩
   rw [← hnm] at e0 HSYN
   rw [← hxw] at e3
   have HX := Lib.hid hx
   have HDR := Lib.hid hdr
   have HTK := Lib.hid htk
   have HSE := Lib.hid hsy
   have HXW := Lib.hid hxw
   have HJL := Lib.hid hjl
   clear hbd hw0 hRb hc4 hdr htk hsy hnm hxw hx
   cases xw with
   | false =>
     go_wp2_with fail
     go_roundw
     case rel => exact ⟨j + 1, dk, sm, HJL.out, HNN, by go_num, HW0.out, Lib.hid (by
      rw [HSY.out, HDR.out, HTK.out, List.map_cons, List.map_append]
      conv => lhs; unfold syncW
      rw [if_neg (by rw [← HXW.out]; decide)]; rfl), HAL, HBJ⟩
     case measure => simp [RowKit.intOf]; have := HNN.out; omega
   | true =>
     have HR2 : Hid (res = if k2 = 0 then syncW d2 ((sm.take j).map SgM.s ++ [⟨x.s.ix, x.s.es, false⟩]) ((sm.drop (j + 1)).map SgM.s) else (d2, sm.map SgM.s, k2)) := Lib.hid (by
      have hall : (sm.take j).map SgM.s ++ x.s :: (sm.drop (j + 1)).map SgM.s = sm.map SgM.s := by
       rw [← List.map_cons, ← HDR.out, ← List.map_append, List.take_append_drop]
      rw [HSY.out, HDR.out, List.map_cons]
      conv => lhs; unfold syncW
      rw [if_pos HXW.out.symm, ← HSE.out, hall])
     go_upto_region 6 with fail
     refine AnyZ.start (S := (fun V => V.cell? ⟨wb, 0, none⟩ = some (.pointer (some ⟨p, 0, none⟩)) ∧ V.cell? ⟨bb, oo + j * 4, none⟩ = some (.string nm))) (z := 1010) (by kernel_rfl) ?_ (fun hHeld => ?_)
     ·exact ⟨v0, e0⟩
     refine AnyZ.take (i := 0) (v := ?_) rfl (by kernel_rfl) (by kernel_rfl) (by kernel_rfl) (by kernel_rfl) (fun _ _ _ h => h) (Or.inl ⟨by kernel_rfl, ?_⟩) (by assumption) ?_
     rotate_left
     ·intro w hSw; (try dsimp only at hSw); go_simp; try with_reducible rfl
     try simp only [Act.put, List.getElem_toArray, List.getElem_cons_zero, List.setIfInBounds_toArray, List.set_cons_zero, List.set_cons_succ]
     refine AnyZ.take (i := 1) (v := ?_) rfl (by kernel_rfl) (by kernel_rfl) (by kernel_rfl) (by kernel_rfl) (fun _ _ _ h => h) (Or.inl ⟨by kernel_rfl, ?_⟩) (by assumption) ?_
     rotate_left
     ·intro w hSw; (try dsimp only at hSw); go_simp; try with_reducible rfl
     try simp only [Act.put, List.getElem_toArray, List.getElem_cons_succ, List.getElem_cons_zero, List.setIfInBounds_toArray, List.set_cons_zero, List.set_cons_succ]
     refine AnyZ.take (i := 2) (v := ?_) rfl (by kernel_rfl) (by kernel_rfl) (by kernel_rfl) (by kernel_rfl) (fun _ _ _ h => h) (Or.inl ⟨by kernel_rfl, ?_⟩) (by assumption) ?_
     rotate_left
     ·intro w hSw; (try dsimp only at hSw); go_simp; try with_reducible rfl
     try simp only [Act.put, List.getElem_toArray, List.getElem_cons_succ, List.getElem_cons_zero, List.setIfInBounds_toArray, List.set_cons_zero, List.set_cons_succ]
     refine AnyZ.take (i := 3) (v := ?_) rfl (by kernel_rfl) (by kernel_rfl) (by kernel_rfl) (by kernel_rfl) (fun _ _ _ h => h) (Or.inl ⟨by kernel_rfl, ?_⟩) (by assumption) ?_
     rotate_left
     ·intro w hSw; (try dsimp only at hSw); go_simp; try with_reducible rfl
     try simp only [Act.put, List.getElem_toArray, List.getElem_cons_succ, List.getElem_cons_zero, List.setIfInBounds_toArray, List.set_cons_zero, List.set_cons_succ]
     refine AnyZ.take (i := 4) (v := ?_) rfl (by kernel_rfl) (by kernel_rfl) (by kernel_rfl) (by kernel_rfl) (fun _ _ _ h => h) (Or.inl ⟨by kernel_rfl, ?_⟩) (by assumption) ?_
     rotate_left
     ·intro w hSw; (try dsimp only at hSw); go_simp; try with_reducible rfl
     try simp only [Act.put, List.getElem_toArray, List.getElem_cons_succ, List.getElem_cons_zero, List.setIfInBounds_toArray, List.set_cons_zero, List.set_cons_succ]
     refine AnyZ.take (i := 5) (v := ?_) rfl (by kernel_rfl) (by kernel_rfl) (by kernel_rfl) (by kernel_rfl) (fun _ _ _ h => h) (Or.inl ⟨by kernel_rfl, ?_⟩) (by assumption) ?_
     rotate_left
     ·intro w hSw; (try dsimp only at hSw); go_simp; try with_reducible rfl
     try simp only [Act.put, List.getElem_toArray, List.getElem_cons_succ, List.getElem_cons_zero, List.setIfInBounds_toArray, List.set_cons_zero, List.set_cons_succ]
     refine AnyZ.take (i := 6) (v := ?_) rfl (by kernel_rfl) (by kernel_rfl) (by kernel_rfl) (by kernel_rfl) (fun _ _ _ h => h) (Or.inl ⟨by kernel_rfl, ?_⟩) (by assumption) ?_
     rotate_left
     ·intro w hSw; (try dsimp only at hSw); go_simp; try with_reducible rfl
     try simp only [Act.put, List.getElem_toArray, List.getElem_cons_succ, List.getElem_cons_zero, List.setIfInBounds_toArray, List.set_cons_zero, List.set_cons_succ]
     refine AnyZ.take (i := 7) (v := ?_) rfl (by kernel_rfl) (by kernel_rfl) (by kernel_rfl) (by kernel_rfl) (fun _ _ _ h => h) (Or.inl ⟨by kernel_rfl, ?_⟩) (by assumption) ?_
     rotate_left
     ·intro w hSw; (try dsimp only at hSw); go_simp; try with_reducible rfl
     try simp only [Act.put, List.getElem_toArray, List.getElem_cons_succ, List.getElem_cons_zero, List.setIfInBounds_toArray, List.set_cons_zero, List.set_cons_succ]
     refine AnyZ.ready (rs := [8]) (by kernel_rfl) (by simp) ?_
     refine AllZ.cons rfl (fun K hK => ?_) AllZ.nil
     go_simp
     (with_reducible refine (HSYN.out).mono ?_); rintro e' w7 ⟨rfl, hd7, hb7, hk7⟩
     have H7 := Lib.hid (HWD.out.kept hd7 hk7)
     have HB7 : Hid (Below B w w7 ∧ Kept G w w7) := Lib.hid ⟨HBD.out.1.trans hb7, fun g hg => (hk7 g (.inl (.inl hg))).trans (HBD.out.2 g hg)⟩
     have a0 : w7.cell? ⟨wb, 0, none⟩ = some (.pointer (some ⟨p, 0, none⟩)) := H7.out.blk.cell 0
     obtain ⟨b2, o2, hS2, -, -, hf2, hc2⟩ := H7.out.segs.at HJL.out
     injection hS2 with hS2; injection hS2 with hS2 hS3; subst hS2; subst hS3
     have hkk : w7.heap[bb]? = wr.heap[bb]? := hk7 bb (.inl (.inr (HW0.out.segs.inF ⟨oo, none, rfl⟩)))
     have a1 : w7.cell? ⟨bb, oo + j * 4, none⟩ = some (.string nm) := by
      have e9 : w7.cell? ⟨bb, oo + j * 4, none⟩ = wr.cell? ⟨bb, oo + j * 4, none⟩ := by simp only [World.cell?, hkk]
      rw [e9]; exact e0
     have a3 : w7.cell? ⟨bb, oo + j * 4 + 3, none⟩ = some (.bool true) := by
      have e9 : w7.cell? ⟨bb, oo + j * 4 + 3, none⟩ = wr.cell? ⟨bb, oo + j * 4 + 3, none⟩ := by simp only [World.cell?, hkk]
      rw [e9]; exact e3
     have af := hf2 (oo + j * 4 + 3)
     clear hd7 hb7 hk7 hkk hc2 e0 e3 v0 v1 hfz
     refine hK.out _ _ ?_ (fun hHeld => ?_)
     ·exact ⟨a0, a1⟩
     clear hK K
     try simp only [Act.put, List.getElem_toArray, List.getElem_cons_succ, List.getElem_cons_zero, List.setIfInBounds_toArray, List.set_cons_zero, List.set_cons_succ]
     refine AnyZ.take (i := 9) (v := ?_) rfl (by kernel_rfl) (by kernel_rfl) (by kernel_rfl) (by kernel_rfl) (fun _ _ _ h => h) (Or.inl ⟨by kernel_rfl, ?_⟩) (by assumption) ?_
     rotate_left
     ·intro w hSw; (try dsimp only at hSw); go_simp; try with_reducible rfl
     try simp only [Act.put, List.getElem_toArray, List.getElem_cons_succ, List.getElem_cons_zero, List.setIfInBounds_toArray, List.set_cons_zero, List.set_cons_succ]
     refine AnyZ.done (by kernel_rfl) ?_ _
     skip
     clear hHeld HSYN
     by_cases hk0 : k2 = 0
     ·subst hk0
      have tk : ((((0 : Nat) : Int)) != 0) = false := rfl
      go_wp2_with fail
      go_roundw
      case rel =>
       have hdry := H7.out.dry HJL.out (y := ⟨⟨x.s.ix, x.s.es, false⟩, x.A, x.c⟩) (by rw [HX.out])
       have hwf := wl_frm H7.out hdry.2
       refine ⟨j + 1, d2, sm.set j ⟨⟨x.s.ix, x.s.es, false⟩, x.A, x.c⟩, by rw [List.length_set]; exact HJL.out, Lib.hid (by rw [List.length_set]; exact HNN.out), by go_num, hdry.1, Lib.hid ?_, Lib.hid ?_, Lib.hid ⟨HB7.out.1.trans hwf.1, fun g hg => (hwf.2 g hg).trans (HB7.out.2 g hg)⟩⟩
       ·rw [HR2.out, if_pos rfl, List.take_set, List.drop_set_of_lt (by omega), HTK.out]
        congr 1
        rw [List.set_append_right _ _ (by rw [List.length_take]; omega), List.length_take, Nat.min_eq_left (by have := HJL.out; omega), Nat.sub_self, List.map_append]; rfl
       ·rw [HAL.out]
        unfold allE
        rw [List.flatMap_map, List.flatMap_map]
        have h8 : (sm.set j ⟨⟨x.s.ix, x.s.es, false⟩, x.A, x.c⟩).map (fun z => z.s.es) = sm.map (fun z => z.s.es) := by
         rw [List.map_set]
         have h2 : (sm.map (fun z : SgM => z.s.es))[j]'(by rw [List.length_map]; exact HJL.out) = x.s.es := by rw [List.getElem_map, HX.out]
         rw [← h2]; exact List.set_getElem_self _
        rw [List.flatMap_def, List.flatMap_def]
        exact congrArg List.flatten h8.symm
      case measure => simp [RowKit.intOf]; have := HNN.out; have := HJL.out; omega
     ·have tk : ((k2 : Int) != 0) = true := by rw [bne_iff_ne]; omega
      have HRS : Hid (res = (d2, sm.map SgM.s, k2)) := Lib.hid (by rw [HR2.out, if_neg hk0])
      clear hk0
      go_wp2_with fail
      go_ret
      rw [HRS.out]
      exact ⟨rfl, ⟨_, _, _, _, _, _, _, H7.out, rfl, HAL.out⟩, HB7.out.1, HB7.out.2⟩
  ·have hjn : j = n := by have := HNN.out; omega
   have HRS : Hid (res = (dk, sm.map SgM.s, 0)) := Lib.hid (by
    rw [HSY.out, List.take_of_length_le (by omega), List.drop_of_length_le (by omega)]; rfl)
   have hlt : ¬ ((j : Int) < (n : Int)) := by omega
   subst hjn
   clear hw0
   go_wp2_with fail
   go_ret
   rw [HRS.out]
   exact ⟨rfl, ⟨_, _, _, _, _, _, _, HW0.out, rfl, HAL.out⟩, HBJ.out.1, HBJ.out.2⟩
end Go.Proofs.YtifgajinfcihmaaGreatDoor
namespace Go.Proofs.YtifgajinfcihmaaGreatDoor
open Go Go.RowKit Go.Maps Go.Lib Mem Pk Dsk Wl Go.Proofs.YtifgajinfcihmaaGreatDoor.Nm
set_option maxRecDepth 100000 in
set_option maxHeartbeats 1000000 in
theorem wrong_any (e : En) (A : Option Addr) (c : Nat) (w : World) (hl : e.ds.length ≤ maxLen) : Calls Tryz.prog 56 #[.agg #[.int .i64 e.ix, .int .i64 e.tm, .int .i64 e.kd, .slice A e.ds.length c]] w (BoolB (!rightE e) w) := by
 obtain ⟨q, hq⟩ : ∃ q, q = rightE e := ⟨_, rfl⟩
 obtain ⟨w1, hw1⟩ : ∃ z, z = w.alloc (.cells #[.int .i64 e.ix, .int .i64 e.tm, .int .i64 e.kd, .slice A e.ds.length c] 40) := ⟨_, rfl⟩
 have HR : Hid (Calls Tryz.prog 57 #[.agg #[.int .i64 e.ix, .int .i64 e.tm, .int .i64 e.kd, .slice A e.ds.length c]] w1 (BoolB q w1)) := Lib.hid (by rw [hq]; exact wright_any e A c w1 hl)
 have HB : Hid (Below w.heap.size w w1) := Lib.hid (by rw [hw1]; exact (Below.refl _ _).alloc (Nat.le_refl _) _)
 rw [← hq]
 have hB1 : Blk w1 w.heap.size 40 #[.int .i64 e.ix, .int .i64 e.tm, .int .i64 e.kd, .slice A e.ds.length c] := by rw [hw1]; exact Blk.new_ w _ _
 have c0 : w1.cell? ⟨w.heap.size, 0, none⟩ = some (.int .i64 e.ix) := hB1.cell 0
 have c1 : w1.cell? ⟨w.heap.size, 1, none⟩ = some (.int .i64 e.tm) := hB1.cell 1
 have c2 : w1.cell? ⟨w.heap.size, 2, none⟩ = some (.int .i64 e.kd) := hB1.cell 2
 have c3 : w1.cell? ⟨w.heap.size, 3, none⟩ = some (.slice A e.ds.length c) := hB1.cell 3
 have HW := Lib.hid hw1
 clear hq hw1 hB1 hl
 go_enter Tryz.func56, Tryz.ntmps56
 go_upto_region 1 with fail
 rw [← HW.out]
 go_wp2_with ((with_reducible refine HR.out.mono ?_); rintro e' w2 ⟨rfl, hb2⟩)
 go_ret
 exact ⟨rfl, HB.out.trans (hb2.mono HB.out.size)⟩
def WrRel (xs : List EnM) (w : World) (iv : Value) (wr : World) : Prop := ∃ k : Nat, k ≤ xs.length ∧ iv = .int .i64 k ∧ Hid ((xs.take k).any (fun x => !rightE x.e) = false) ∧ Hid (Below w.heap.size w wr)
def IdxB (b : Bool) (w : World) (e : Ending) (w' : World) : Prop := ∃ i : Int, e = .returned (.int .i64 i) ∧ decide (0 ≤ i) = b ∧ Below w.heap.size w w'
set_option maxRecDepth 100000 in
set_option maxHeartbeats 1000000 in
theorem IndexFunc_wr {F : Nat → Prop} {A : Option Addr} {c : Nat} {xs : List EnM} {w : World} (hs : Rw 4 emC 40 F w A c xs) (hd : ∀ x ∈ xs, x.e.ds.length ≤ maxLen) :
 Calls Tryz.prog 81 #[.slice A xs.length c, .func (.func 56) #[] #[]] w (IdxB (xs.any (fun x => !rightE x.e)) w) := by
 have hl : xs.length ≤ 9223372036854775807 := by have h9 := hs.len0; unfold maxLen at h9; omega
 have HS := Lib.hid hs
 have HD := Lib.hid hd
 clear hs hd
 go_enter Tryz.func81, Tryz.ntmps81
 go_wp2_with fail
 go_loopw [8] (fun i wr => WrRel xs w i wr) (fun i _ => xs.length - (intOf i).toNat)
 case atStart => exact ⟨0, Nat.zero_le _, rfl, Lib.hid rfl, Lib.hid (Below.refl _ _)⟩
 case round =>
  obtain ⟨k, hk, rfl, HZ, HB⟩ := hrel
  by_cases hlt : k < xs.length
  ·obtain ⟨b, o, rfl, -, -, -, hc⟩ := (HS.out.below HB.out).at hlt
   obtain ⟨x, hx⟩ : ∃ x, x = xs[k] := ⟨_, rfl⟩
   rw [← hx] at hc
   have c0 : wr.cell? ⟨b, o + k * 4, none⟩ = some (.int .i64 x.e.ix) := hc 0 (by decide)
   have c1 : wr.cell? ⟨b, o + k * 4 + 1, none⟩ = some (.int .i64 x.e.tm) := hc 1 (by decide)
   have c2 : wr.cell? ⟨b, o + k * 4 + 2, none⟩ = some (.int .i64 x.e.kd) := hc 2 (by decide)
   have c3 : wr.cell? ⟨b, o + k * 4 + 3, none⟩ = some (.slice x.A x.e.ds.length x.c) := hc 3 (by decide)
   have HX := Lib.hid hx
   have HLT := Lib.hid hlt
   obtain ⟨q, hq⟩ : ∃ q, q = !rightE x.e := ⟨_, rfl⟩
   have HC : Hid (∀ W, Calls Tryz.prog 56 #[.agg #[.int .i64 x.e.ix, .int .i64 x.e.tm, .int .i64 x.e.kd, .slice x.A x.e.ds.length x.c]] W (BoolB q W)) := Lib.hid fun W => by rw [hq]; exact wrong_any x.e x.A x.c W (HD.out x (by rw [hx]; exact List.getElem_mem hlt))
   have HQ := Lib.hid hq
   have hk0 : (0 : Int) ≤ (k : Int) := by omega
   have hk1 : (k : Int) < (xs.length : Int) := by omega
   clear hc hx hq
   cases q with
   | false =>
     have HZ2 : Hid ((xs.take (k + 1)).any (fun x => !rightE x.e) = false) := Lib.hid (by
      rw [List.take_succ_eq_append_getElem HLT.out, List.any_append, HZ.out, ← HX.out]
      simp only [List.any_cons, List.any_nil, ← HQ.out, Bool.or_self])
     go_wp2_with ((with_reducible refine (HC.out _).mono ?_); rintro e' wx ⟨rfl, hbx⟩; have HBX : Hid (Below w.heap.size w wx) := Lib.hid (HB.out.trans (hbx.mono HB.out.size)); clear hbx)
     go_roundw
     case rel => exact ⟨k + 1, HLT.out, by go_num, HZ2, HBX⟩
     case measure => simp [intOf]; omega
   | true =>
     have HF : Hid (xs.any (fun x => !rightE x.e) = true) := Lib.hid (by
      rw [List.any_eq_true]
      exact ⟨x, by rw [HX.out]; exact List.getElem_mem HLT.out, HQ.out.symm⟩)
     go_wp2_with ((with_reducible refine (HC.out _).mono ?_); rintro e' wx ⟨rfl, hbx⟩; have HBX : Hid (Below w.heap.size w wx) := Lib.hid (HB.out.trans (hbx.mono HB.out.size)); clear hbx)
     go_ret
     exact ⟨(k : Int), rfl, by rw [HF.out]; exact decide_eq_true (by omega), HBX.out⟩
  ·have HF : Hid (xs.any (fun x => !rightE x.e) = false) := Lib.hid (by have h1 := HZ.out; rw [List.take_of_length_le (by omega)] at h1; exact h1)
   go_wp2_with fail
   go_ret
   exact ⟨-1, rfl, by rw [HF.out]; rfl, HB.out⟩
set_option maxRecDepth 100000 in
theorem ContainsFunc_wr {F : Nat → Prop} {A : Option Addr} {c : Nat} {xs : List EnM} {w : World} (hs : Rw 4 emC 40 F w A c xs) (hd : ∀ x ∈ xs, x.e.ds.length ≤ maxLen) :
 Calls Tryz.prog 55 #[.slice A xs.length c, .func (.func 56) #[] #[]] w (BoolB (xs.any (fun x => !rightE x.e)) w) := by
 obtain ⟨q, hq⟩ : ∃ q, q = xs.any (fun x => !rightE x.e) := ⟨_, rfl⟩
 have HI := Lib.hid (IndexFunc_wr hs hd)
 rw [← hq] at HI ⊢
 clear hs hd hq
 go_enter Tryz.func55, Tryz.ntmps55
 go_wp2_with ((with_reducible refine HI.out.mono ?_); rintro e' wx ⟨i, rfl, hi, hbx⟩; have HBX := Lib.hid hbx; clear hbx)
 go_ret
 exact ⟨rfl, HBX.out⟩
end Go.Proofs.YtifgajinfcihmaaGreatDoor
namespace Go.Proofs.YtifgajinfcihmaaGreatDoor
open Go Go.RowKit Go.Maps Go.Lib Mem Pk Dsk Wl Go.Proofs.YtifgajinfcihmaaGreatDoor.Nm
theorem wrLast_ok {d d' : S} {ss ss' : List Sg} {s : Sg} {e : En} (h : wrLast d ss s e = (d', ss', 0)) : allE ss' = allE (ss ++ [s]) ++ [e] ∧ ss'.length = ss.length + 1 := by
 unfold wrLast at h
 simp only at h
 split at h
 ·injection h with _ h; injection h with h _
  subst h
  rw [allE_snoc, allE_snoc, List.append_assoc]
  exact ⟨rfl, by simp⟩
 ·next hk =>
  injection h with _ h; injection h with _ h
  exact absurd h hk
theorem write1_ok {d d' : S} {ss ss' : List Sg} {e : En} (h : write1 d ss e = (d', ss', 0)) : allE ss' = allE ss ++ [e] ∧ ss'.length ≤ ss.length + 1 := by
 unfold write1 at h
 simp only at h
 split at h
 ·split at h
  ·obtain ⟨h1, h2⟩ := wrLast_ok h
   rw [allE_snoc, List.append_nil] at h1
   exact ⟨h1, by omega⟩
  ·next hk =>
   injection h with _ h; injection h with _ h
   exact absurd h hk
 ·next hd =>
  cases hl : ss.getLast? with
  | none => exact absurd (by unfold dueW; rw [hl]) hd
  | some s =>
    rw [hl] at h
    obtain ⟨h1, h2⟩ := wrLast_ok h
    have h3 : ss = ss.dropLast ++ [s] := by
     have hne : ss ≠ [] := fun e9 => by rw [e9] at hl; cases hl
     have h4 : ss.getLast hne = s := by rw [List.getLast?_eq_some_getLast hne] at hl; injection hl
     rw [← h4]; exact (List.dropLast_concat_getLast hne).symm
    rw [← h3] at h1
    exact ⟨h1, by rw [h2, List.length_dropLast]; omega⟩
def GpRel (xs : List EnM) (l0 : Int) (w2 : World) (lv iv : Value) (wr : World) : Prop :=
 ∃ (k : Nat) (l : Int), k ≤ xs.length ∧ iv = .int .i64 k ∧ lv = .int .i64 l ∧ 0 ≤ l ∧ l ≤ 1099511627776 ∧ Hid (gapB l0 (xs.map EnM.e) = gapB l ((xs.drop k).map EnM.e)) ∧ Hid (Below w2.heap.size w2 wr)
def WaRel (P : Nat → S → List Sg → Prop) (G : Nat → Prop) (B p wb : Nat) (d : S) (ss : List Sg) (xs : List EnM) (w : World) (iv : Value) (wr : World) : Prop :=
 ∃ (k : Nat) (dk : S) (sk : List Sg), k ≤ xs.length ∧ iv = .int .i64 k ∧ WlAt G B p wb dk sk wr ∧ Hid (writeAll d ss (xs.map EnM.e) = writeAll dk sk ((xs.drop k).map EnM.e)) ∧ Hid (P k dk sk) ∧ Hid (Below B w wr ∧ Kept G w wr)
set_option maxRecDepth 100000 in
set_option maxHeartbeats 4000000 in
theorem wAppend_inv {G F : Nat → Prop} {B p wb : Nat} {d : S} {ss : List Sg} {w : World} (h : WlAt G B p wb d ss w) (hla : LaidB B w) {A : Option Addr} {c : Nat} {xs : List EnM} (hs : Rw 4 emC 40 F w A c xs) (hF : ∀ g, F g → G g) (hd : ∀ x ∈ xs, EmD F w x)
 (hn : (∀ x ∈ xs, rightE x.e = true) → gapB (lastE (allE ss)) (xs.map EnM.e) = false → ∃ P : Nat → S → List Sg → Prop, P 0 d ss ∧
  (∀ k dk sk d2 s2, P k dk sk → ∀ hk : k < xs.length, write1 dk sk xs[k].e = (d2, s2, 0) → P (k + 1) d2 s2) ∧ ∀ k dk sk, P k dk sk → k < xs.length → sk.length + 1 ≤ 900000 ∧ (allE sk).length + 1 ≤ 900000) (hok : allR (allE ss)) :
 Calls Tryz.prog 23 #[.pointer (some ⟨wb, 0, none⟩), .slice A xs.length c] w (LdP G B p wb (appendW d ss (xs.map EnM.e)) w) := by
 obtain ⟨res, hres⟩ : ∃ z, z = appendW d ss (xs.map EnM.e) := ⟨_, rfl⟩
 rw [← hres]
 have HRES := Lib.hid hres
 have H := Lib.hid h
 have HLA := Lib.hid hla
 have HS := Lib.hid hs
 have HF := Lib.hid hF
 have HD := Lib.hid hd
 have HN := Lib.hid hn
 have HLR := Lib.hid (lastE_right hok)
 have hxl : xs.length ≤ 9223372036854775807 := Nat.le_trans hs.len0 (by unfold maxLen; decide)
 have HCF := Lib.hid (ContainsFunc_wr hs (fun x hx => Nat.le_trans (hd x hx).len (hd x hx).cap))
 obtain ⟨q, hq⟩ : ∃ q, q = xs.any (fun x => !rightE x.e) := ⟨_, rfl⟩
 rw [← hq] at HCF
 have HQ := Lib.hid hq
 clear h hla hs hF hd hn hok hres hq
 go_enter Tryz.func23, Tryz.ntmps23
 go_wp2_with fail
 (with_reducible refine HCF.out.mono ?_); rintro e' w1 ⟨rfl, hb1⟩
 have H1 := Lib.hid (H.out.below hb1)
 have HB1 : Hid (Below B w w1 ∧ Kept G w w1) := Lib.hid ⟨hb1.mono H.out.le, fun g hg => hb1.block g (H.out.oldG g hg)⟩
 clear hb1 HCF
 cases q with
 | true =>
   have HRS : Hid (res = (d, ss, 1)) := Lib.hid (by
    rw [HRES.out]; unfold appendW
    rw [if_pos (by rw [List.any_map]; exact HQ.out.symm)])
   go_wp2_with fail
   go_ret
   rw [HRS.out]
   exact ⟨rfl, H1.out, HB1.out.1, HB1.out.2⟩
 | false =>
   have HRS1 : Hid (res = if gapB (lastE (allE ss)) (xs.map EnM.e) then (d, ss, 60) else writeAll d ss (xs.map EnM.e)) := Lib.hid (by
    rw [HRES.out]; unfold appendW
    rw [if_neg (by rw [List.any_map]; exact fun e9 => by rw [show (xs.any ((fun e => !rightE e) ∘ EnM.e)) = false from HQ.out.symm] at e9; cases e9)])
   have HAR : Hid (∀ x ∈ xs, rightE x.e = true) := Lib.hid (fun x hx => by
    have h9 := List.any_eq_false.1 HQ.out.symm x hx
    simpa using h9)
   have HLAST := Lib.hid (wLast_any H1.out)
   obtain ⟨la, hla⟩ : ∃ z, z = lastE (allE ss) := ⟨_, rfl⟩
   rw [← hla] at HLAST HRS1 HLR HN
   clear hla HRES
   go_wp2_with fail
   (with_reducible refine HLAST.out.mono ?_); rintro e' w2 ⟨rfl, m, hw2⟩
   have hb2 : Below w1.heap.size w1 w2 := by rw [hw2]; exact below_drewN (Below.refl _ _) m
   have H2 := Lib.hid (H1.out.below hb2)
   have HB2 : Hid (Below B w w2 ∧ Kept G w w2) := Lib.hid ⟨HB1.out.1.trans (hb2.mono H1.out.le), fun g hg => (hb2.block g (H1.out.oldG g hg)).trans (HB1.out.2 g hg)⟩
   clear hw2 hb2 m HLAST
   go_wp2_with fail
   go_loopw [5, 17] (fun lv iv wr => GpRel xs la w2 lv iv wr) (fun _ iv _ => xs.length - (RowKit.intOf iv).toNat)
   case atStart => exact ⟨0, la, Nat.zero_le _, rfl, rfl, HLR.out.1, HLR.out.2, Lib.hid rfl, Lib.hid (Below.refl _ _)⟩
   case round =>
    obtain ⟨k, l, hk, rfl, rfl, hl0, hl1, HG, HBG⟩ := hrel
    have HBW : Hid (Below B w wr ∧ Kept G w wr) := Lib.hid ⟨HB2.out.1.trans (HBG.out.mono H2.out.le), fun g hg => (HBG.out.block g (H2.out.oldG g hg)).trans (HB2.out.2 g hg)⟩
    have HW := Lib.hid (H2.out.below HBG.out)
    by_cases hlt : k < xs.length
    ·obtain ⟨b, o, hA, -, -, -, hc⟩ := (HS.out.keep (w' := wr) (fun g cur hg hb => (HBW.out.2 g (HF.out g hg)).trans hb)).at hlt
     subst hA
     obtain ⟨x, hx⟩ : ∃ x, x = xs[k] := ⟨_, rfl⟩
     rw [← hx] at hc
     have c0 : wr.cell? ⟨b, o + k * 4, none⟩ = some (.int .i64 x.e.ix) := hc 0 (by decide)
     have c1 : wr.cell? ⟨b, o + k * 4 + 1, none⟩ = some (.int .i64 x.e.tm) := hc 1 (by decide)
     have c2 : wr.cell? ⟨b, o + k * 4 + 2, none⟩ = some (.int .i64 x.e.kd) := hc 2 (by decide)
     have c3 : wr.cell? ⟨b, o + k * 4 + 3, none⟩ = some (.slice x.A x.e.ds.length x.c) := hc 3 (by decide)
     have hdr : xs.drop k = x :: xs.drop (k + 1) := by rw [hx]; exact List.drop_eq_getElem_cons hlt
     have hri := rightE_iff.1 (HAR.out x (by rw [hx]; exact List.getElem_mem hlt))
     have HG2 : Hid (gapB la (xs.map EnM.e) = if l ≠ 0 ∧ x.e.ix ≠ l + 1 then true else gapB x.e.ix ((xs.drop (k + 1)).map EnM.e)) := Lib.hid (by
      rw [HG.out, hdr, List.map_cons, gapB])
     obtain ⟨i0, hi0⟩ : ∃ z, z = x.e.ix := ⟨_, rfl⟩
     have hi1 : 1 ≤ i0 := by rw [hi0]; exact hri.1
     have hi2 : i0 ≤ 1099511627776 := by rw [hi0]; exact hri.2.1
     rw [← hi0] at c0 HG2
     have HLT := Lib.hid hlt
     have hk0 : (0 : Int) ≤ (k : Int) := by omega
     have hk1 : (k : Int) < (xs.length : Int) := by omega
     have hbn : Below wr.heap.size wr (wr.alloc (.cells #[.int .i64 i0, .int .i64 x.e.tm, .int .i64 x.e.kd, .slice x.A x.e.ds.length x.c] 40)) := (Below.refl _ _).alloc (Nat.le_refl _) _
     have HBN : Hid (Below w2.heap.size w2 (wr.alloc (.cells #[.int .i64 i0, .int .i64 x.e.tm, .int .i64 x.e.kd, .slice x.A x.e.ds.length x.c] 40))) := Lib.hid (HBG.out.trans (hbn.mono HBG.out.size))
     have HWN := Lib.hid (HW.out.below hbn)
     have HBWN : Hid (Below B w (wr.alloc (.cells #[.int .i64 i0, .int .i64 x.e.tm, .int .i64 x.e.kd, .slice x.A x.e.ds.length x.c] 40)) ∧ Kept G w (wr.alloc (.cells #[.int .i64 i0, .int .i64 x.e.tm, .int .i64 x.e.kd, .slice x.A x.e.ds.length x.c] 40))) := Lib.hid ⟨HBW.out.1.trans (hbn.mono HW.out.le), fun g hg => (hbn.block g (HW.out.oldG g hg)).trans (HBW.out.2 g hg)⟩
     clear hc hx hdr hri hi0 hbn
     by_cases hl : l = 0
     ·have t1 : (l != 0) = false := by rw [hl]; rfl
      have HG3 : Hid (gapB la (xs.map EnM.e) = gapB i0 ((xs.drop (k + 1)).map EnM.e)) := Lib.hid (by rw [HG2.out, if_neg (fun e9 => e9.1 hl)])
      clear hl
      go_wp2_with fail
      go_roundw
      case rel => exact ⟨k + 1, i0, HLT.out, by go_num, rfl, by omega, hi2, HG3, HBN⟩
      case measure => simp [RowKit.intOf]; omega
     ·have t1 : (l != 0) = true := by rw [bne_iff_ne]; exact hl
      by_cases hgap : i0 = l + 1
      ·have t2 : (i0 != l + 1) = false := by rw [hgap]; simp
       have HG3 : Hid (gapB la (xs.map EnM.e) = gapB i0 ((xs.drop (k + 1)).map EnM.e)) := Lib.hid (by rw [HG2.out, if_neg (fun e9 => e9.2 hgap)])
       clear hl hgap
       go_wp2_with fail
       go_roundw
       case rel => exact ⟨k + 1, i0, HLT.out, by go_num, rfl, by omega, hi2, HG3, HBN⟩
       case measure => simp [RowKit.intOf]; omega
      ·have t2 : (i0 != l + 1) = true := by rw [bne_iff_ne]; exact hgap
       have HRS : Hid (res = (d, ss, 60)) := Lib.hid (by
        have hg9 : gapB la (xs.map EnM.e) = true := by rw [HG2.out, if_pos ⟨hl, hgap⟩]
        rw [HRS1.out, hg9]; rfl)
       clear hl hgap
       go_wp2_with fail
       go_ret
       rw [HRS.out]
       exact ⟨rfl, HWN.out, HBWN.out.1, HBWN.out.2⟩
    ·have HRS : Hid (res = writeAll d ss (xs.map EnM.e)) := Lib.hid (by
      rw [HRS1.out, HG.out, List.drop_of_length_le (by omega)]; rfl)
     obtain ⟨P, hp0, hps, hpb⟩ := HN.out HAR.out (by rw [HG.out, List.drop_of_length_le (by omega)]; rfl)
     have HP0 := Lib.hid hp0
     have HPS := Lib.hid hps
     have HPB := Lib.hid hpb
     clear hp0 hps hpb
     have hkn : ¬ ((k : Int) < (xs.length : Int)) := by omega
     clear hlt
     go_wp2_with fail
     clear hkn
     go_loopw [35] (fun iv wr => WaRel P G B p wb d ss xs w iv wr) (fun iv _ => xs.length - (RowKit.intOf iv).toNat)
     case atStart => exact ⟨0, d, ss, Nat.zero_le _, rfl, HW.out, Lib.hid rfl, HP0, HBW⟩
     case round =>
      obtain ⟨j, dk, sk, hj, rfl, hat, HWR, HPJ, HBJ⟩ := hrel
      have HAT := Lib.hid hat
      clear hat
      by_cases hjl : j < xs.length
      ·obtain ⟨b, o, hA, -, -, -, hc⟩ := (HS.out.keep (w' := wr) (fun g cur hg hb => (HBJ.out.2 g (HF.out g hg)).trans hb)).at hjl
       subst hA
       obtain ⟨x, hx⟩ : ∃ x, x = xs[j] := ⟨_, rfl⟩
       have hxm : x ∈ xs := by rw [hx]; exact List.getElem_mem hjl
       rw [← hx] at hc
       have c0 : wr.cell? ⟨b, o + j * 4, none⟩ = some (.int .i64 x.e.ix) := hc 0 (by decide)
       have c1 : wr.cell? ⟨b, o + j * 4 + 1, none⟩ = some (.int .i64 x.e.tm) := hc 1 (by decide)
       have c2 : wr.cell? ⟨b, o + j * 4 + 2, none⟩ = some (.int .i64 x.e.kd) := hc 2 (by decide)
       have c3 : wr.cell? ⟨b, o + j * 4 + 3, none⟩ = some (.slice x.A x.e.ds.length x.c) := hc 3 (by decide)
       have hdr : xs.drop j = x :: xs.drop (j + 1) := by rw [hx]; exact List.drop_eq_getElem_cons hjl
       obtain ⟨W9, hW9⟩ : ∃ z, z = wr.alloc (.cells #[.int .i64 x.e.ix, .int .i64 x.e.tm, .int .i64 x.e.kd, .slice x.A x.e.ds.length x.c] 40) := ⟨_, rfl⟩
       have hbn : Below wr.heap.size wr W9 := by rw [hW9]; exact (Below.refl _ _).alloc (Nat.le_refl _) _
       have hx9 : Blk W9 wr.heap.size 40 #[.int .i64 x.e.ix, .int .i64 x.e.tm, .int .i64 x.e.kd, .slice x.A x.e.ds.length x.c] := by rw [hW9]; exact Blk.new_ wr _ _
       have HAT9 := Lib.hid (HAT.out.below hbn)
       have HB9 : Hid (Below B w W9 ∧ Kept G w W9) := Lib.hid ⟨HBJ.out.1.trans (hbn.mono HAT.out.le), fun g hg => (hbn.block g (HAT.out.oldG g hg)).trans (HBJ.out.2 g hg)⟩
       obtain ⟨te9, hte9⟩ := (HD.out x hxm).sl
       have HWC := Lib.hid (wwrite_any (c := x.c) HAT9.out (HLA.out.on HB9.out.1) (hte9.kept HB9.out.2 HF.out) HF.out (HAR.out x hxm) (by have h9 := HPB.out j dk sk HPJ.out hjl; omega))
       clear hte9
       obtain ⟨⟨d2, s2, k2⟩, hwe⟩ : ∃ z, z = write1 dk sk x.e := ⟨_, rfl⟩
       rw [← hwe] at HWC
       have HST : Hid (res = if k2 = 0 then writeAll d2 s2 ((xs.drop (j + 1)).map EnM.e) else (d2, s2, k2)) := Lib.hid (by
        rw [HRS.out, HWR.out, hdr, List.map_cons, writeAll, ← hwe])
       have HWE : Hid ((d2, s2, k2) = write1 dk sk (xs[j]'hjl).e) := Lib.hid (by rw [← hx]; exact hwe)
       have a0 : W9.cell? ⟨wr.heap.size, 0, none⟩ = some (.int .i64 x.e.ix) := hx9.cell 0
       have a1 : W9.cell? ⟨wr.heap.size, 1, none⟩ = some (.int .i64 x.e.tm) := hx9.cell 1
       have a2 : W9.cell? ⟨wr.heap.size, 2, none⟩ = some (.int .i64 x.e.kd) := hx9.cell 2
       have a3 : W9.cell? ⟨wr.heap.size, 3, none⟩ = some (.slice x.A x.e.ds.length x.c) := hx9.cell 3
       have HJL := Lib.hid hjl
       have HW9 := Lib.hid hW9
       have hj0 : (0 : Int) ≤ (j : Int) := by omega
       have hj1 : (j : Int) < (xs.length : Int) := by omega
       clear hc hx hxm hdr hW9 hbn hx9 hwe
       go_upto_region 14 with fail
       rw [← HW9.out]
       go_wp2_with fail
       (with_reducible refine HWC.out.mono ?_); rintro e' w5 ⟨rfl, h5, hb5, hk5⟩
       have H5 := Lib.hid h5
       have HB5 : Hid (Below B w w5 ∧ Kept G w w5) := Lib.hid ⟨HB9.out.1.trans hb5, fun g hg => (hk5 g hg).trans (HB9.out.2 g hg)⟩
       clear h5 hb5 hk5 HWC a0 a1 a2 a3 c0 c1 c2 c3
       by_cases hk0 : k2 = 0
       ·subst hk0
        have tk : ((((0 : Nat) : Int)) != 0) = false := rfl
        have HL2 : Hid (P (j + 1) d2 s2) := Lib.hid (HPS.out j dk sk d2 s2 HPJ.out HJL.out HWE.out.symm)
        have HWR2 : Hid (writeAll d ss (xs.map EnM.e) = writeAll d2 s2 ((xs.drop (j + 1)).map EnM.e)) := Lib.hid (by rw [← HRS.out, HST.out, if_pos rfl])
        go_wp2_with fail
        go_roundw
        case rel => exact ⟨j + 1, d2, s2, HJL.out, by go_num, H5.out, HWR2, HL2, HB5⟩
        case measure => simp [RowKit.intOf]; have := HJL.out; omega
       ·have tk : ((k2 : Int) != 0) = true := by rw [bne_iff_ne]; omega
        have HRS9 : Hid (res = (d2, s2, k2)) := Lib.hid (by rw [HST.out, if_neg hk0])
        clear hk0
        go_wp2_with fail
        go_ret
        rw [HRS9.out]
        exact ⟨rfl, H5.out, HB5.out.1, HB5.out.2⟩
      ·have HRS9 : Hid (res = (dk, sk, 0)) := Lib.hid (by rw [HRS.out, HWR.out, List.drop_of_length_le (by omega)]; rfl)
       have hkn : ¬ ((j : Int) < (xs.length : Int)) := by omega
       clear hjl
       go_wp2_with fail
       go_ret
       rw [HRS9.out]
       exact ⟨rfl, HAT.out, HBJ.out.1, HBJ.out.2⟩
theorem wAppend_any {G F : Nat → Prop} {B p wb : Nat} {d : S} {ss : List Sg} {w : World} (h : WlAt G B p wb d ss w) (hla : LaidB B w) {A : Option Addr} {c : Nat} {xs : List EnM} (hs : Rw 4 emC 40 F w A c xs) (hF : ∀ g, F g → G g) (hd : ∀ x ∈ xs, EmD F w x)
 (hn : ss.length + xs.length ≤ 900000 ∧ (allE ss).length + xs.length ≤ 900000) (hok : allR (allE ss)) :
 Calls Tryz.prog 23 #[.pointer (some ⟨wb, 0, none⟩), .slice A xs.length c] w (LdP G B p wb (appendW d ss (xs.map EnM.e)) w) :=
 wAppend_inv h hla hs hF hd (fun _ _ => ⟨fun k _ sk => sk.length ≤ ss.length + k ∧ (allE sk).length ≤ (allE ss).length + k, ⟨Nat.le_refl _, Nat.le_refl _⟩, fun k dk sk d2 s2 hp hk hw => by
  have h9 := write1_ok hw
  have hp : sk.length ≤ ss.length + k ∧ (allE sk).length ≤ (allE ss).length + k := hp
  show s2.length ≤ ss.length + (k + 1) ∧ (allE s2).length ≤ (allE ss).length + (k + 1)
  rw [h9.1, List.length_append, List.length_singleton]
  omega, fun k dk sk hp hk => by
  have hp : sk.length ≤ ss.length + k ∧ (allE sk).length ≤ (allE ss).length + k := hp
  omega⟩) hok
end Go.Proofs.YtifgajinfcihmaaGreatDoor
