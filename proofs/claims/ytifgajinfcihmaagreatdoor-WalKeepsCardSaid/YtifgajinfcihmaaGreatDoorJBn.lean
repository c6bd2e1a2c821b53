/- Layer 6: the walk of the law's put. -/
import Derived.Test.YtifgajinfcihmaaGreatDoorJBe
import Derived.Test.YtifgajinfcihmaaGreatDoorJBj
namespace Go.Proofs.YtifgajinfcihmaaGreatDoor
open Go Go.RowKit Go.Maps Go.Lib Mem Pk Dsk Wl Go.Proofs.YtifgajinfcihmaaGreatDoor.Nm
def PutOf (es xs : List EnM) : Prop := ∀ x ∈ xs, ∃ y ∈ es, x.A = y.A ∧ x.c = y.c ∧ x.e.ds = y.e.ds
theorem PutOf.d {F : Nat → Prop} {w : World} {es xs : List EnM} (h : PutOf es xs) (hd : ∀ x ∈ es, EmD F w x) : ∀ x ∈ xs, EmD F w x := fun x hx => by
 obtain ⟨y, hy, e1, e2, e3⟩ := h x hx
 obtain ⟨h1, h2, h3⟩ := hd y hy
 exact ⟨by rw [e1, e3]; exact h1, by rw [e2, e3]; exact h2, by rw [e2]; exact h3⟩
def PutP (es : List EnM) (w : World) (e : Ending) (w' : World) : Prop :=
 ∃ A c xs, e = .returned (.slice A es.length c) ∧ xs.length = es.length ∧ Rw 4 emC 40 (fun g => w.heap.size ≤ g) w' A c xs ∧ PutOf es xs ∧ Below w.heap.size w w'
def PuRel (es : List EnM) (w : World) (lv ov iv : Value) (wr : World) : Prop :=
 ∃ (k : Nat) (l : Int) (xs : List EnM) (A : Option Addr) (c : Nat), k ≤ es.length ∧ iv = .int .i64 k ∧ lv = .int .i64 l ∧ ov = .slice A xs.length c ∧ Hid (xs.length = k) ∧ Rw 4 emC 40 (fun g => w.heap.size ≤ g) wr A c xs ∧ Hid (PutOf es xs) ∧ Hid (Below w.heap.size w wr)
theorem PutOf.snoc {es xs : List EnM} {x : EnM} (h : PutOf es xs) (hx : x ∈ es) (i : Int) : PutOf es (xs ++ [⟨⟨i, x.e.tm, x.e.kd, x.e.ds⟩, x.A, x.c⟩]) := fun z hz => by
 rcases List.mem_append.1 hz with hz | hz
 ·exact h z hz
 ·rw [List.mem_singleton.1 hz]; exact ⟨x, hx, rfl, rfl, rfl⟩
set_option maxRecDepth 100000 in
set_option maxHeartbeats 4000000 in
theorem put6_any {w : World} {EA : Option Addr} {ec : Nat} {es : List EnM} (hin : SlC 4 emC w EA es) (hroom : es.length * 48 ≤ 140737488351232) (l0 : Int) :
 Calls Tryz.prog 28 #[.slice EA es.length ec, .int .i64 l0] w (PutP es w) := by
 have hel : es.length ≤ 9223372036854775807 := by omega
 have HIN := Lib.hid hin
 have HRM := Lib.hid hroom
 clear hin hroom
 go_enter Tryz.func28, Tryz.ntmps28
 go_wp2_with fail
 go_loopw [1, 5, 11] (fun lv ov iv wr => PuRel es w lv ov iv wr) (fun _ _ iv _ => es.length - (RowKit.intOf iv).toNat)
 case atStart => exact ⟨0, l0, [], some ⟨w.heap.size, 0, none⟩, 0, Nat.zero_le _, rfl, rfl, rfl, Lib.hid rfl, ⟨Nat.le_refl _, Nat.zero_le _, .inr ⟨w.heap.size, 0, #[], rfl, Nat.le_refl _, Blk.new_ _ _ _, by simp, fun j hj => by simp at hj⟩⟩, Lib.hid (fun _ h => by cases h), Lib.hid ((Below.refl _ _).alloc (Nat.le_refl _) _)⟩
 case round =>
  obtain ⟨k, l, xs, A, c, hk, rfl, rfl, rfl, HXK, hrw, HPO, HBW⟩ := hrel
  have HRW := Lib.hid hrw
  clear hrw
  by_cases hlt : k < es.length
  ·obtain ⟨b, o, hEA, hbb, hc⟩ := HIN.out.at hlt
   subst hEA
   obtain ⟨x, hx⟩ : ∃ x, x = es[k] := ⟨_, rfl⟩
   have HXM : Hid (x ∈ es) := Lib.hid (by rw [hx]; exact List.getElem_mem hlt)
   rw [← hx] at hc
   have c0 : wr.cell? ⟨b, o + k * 4, none⟩ = some (.int .i64 x.e.ix) := (HBW.out.cell (p := ⟨b, o + k * 4, none⟩) hbb).trans (hc 0 (by decide))
   have c1 : wr.cell? ⟨b, o + k * 4 + 1, none⟩ = some (.int .i64 x.e.tm) := (HBW.out.cell (p := ⟨b, o + k * 4 + 1, none⟩) hbb).trans (hc 1 (by decide))
   have c2 : wr.cell? ⟨b, o + k * 4 + 2, none⟩ = some (.int .i64 x.e.kd) := (HBW.out.cell (p := ⟨b, o + k * 4 + 2, none⟩) hbb).trans (hc 2 (by decide))
   have c3 : wr.cell? ⟨b, o + k * 4 + 3, none⟩ = some (.slice x.A x.e.ds.length x.c) := (HBW.out.cell (p := ⟨b, o + k * 4 + 3, none⟩) hbb).trans (hc 3 (by decide))
   have hk0 : (0 : Int) ≤ (k : Int) := by omega
   have hk1 : (k : Int) < (es.length : Int) := by omega
   obtain ⟨ix, hix⟩ : ∃ z, z = x.e.ix := ⟨_, rfl⟩
   rw [← hix] at c0
   obtain ⟨wa, hwa⟩ : ∃ z, z = wr.alloc (.cells #[.int .i64 ix, .int .i64 x.e.tm, .int .i64 x.e.kd, .slice x.A x.e.ds.length x.c] 40) := ⟨_, rfl⟩
   have hba : Below wr.heap.size wr wa := by rw [hwa]; exact (Below.refl _ _).alloc (Nat.le_refl _) _
   have hxa : Blk wa wr.heap.size 40 #[.int .i64 ix, .int .i64 x.e.tm, .int .i64 x.e.kd, .slice x.A x.e.ds.length x.c] := by rw [hwa]; exact Blk.new_ wr _ _
   have HXA := Lib.hid hxa
   have HBA := Lib.hid hba
   have HWA := Lib.hid hwa
   have hra : Rw 4 emC 40 (fun g => w.heap.size ≤ g ∧ g < wr.heap.size) wa A c xs := (HRW.out.mono (fun g hl hg => ⟨hg, hl⟩)).below hba
   have HRA := Lib.hid hra
   have HBL : Hid (Below w.heap.size w wa) := Lib.hid (HBW.out.trans (hba.mono HBW.out.size))
   have HGE : Hid (w.heap.size ≤ wr.heap.size) := Lib.hid HBW.out.size
   have HLT := Lib.hid hlt
   clear hc hx hix hwa hba hxa hra hlt HRW HBW
   go_upto_region 5 with fail
   rw [← HWA.out]
   clear HWA c0 c1 c2 c3
   by_cases h0 : ix = 0
   ·subst h0
    have k0 : wa.cell? ⟨wr.heap.size, 0, none⟩ = some (.int .i64 0) := HXA.out.cell 0
    have kf := HXA.out.free 0
    go_upto_region 7 with fail
    obtain ⟨i2, hi2⟩ : ∃ z, z = wrap64 (l + 1) := ⟨_, rfl⟩
    rw [← hi2]
    obtain ⟨w11, hw11⟩ : ∃ z, z = wa.setCell ⟨wr.heap.size, 0, none⟩ (.int .i64 i2) := ⟨_, rfl⟩
    rw [← hw11]
    have HX11 : Hid (Blk w11 wr.heap.size 40 #[.int .i64 i2, .int .i64 x.e.tm, .int .i64 x.e.kd, .slice x.A x.e.ds.length x.c]) := Lib.hid (by rw [hw11]; exact HXA.out.set_ 0 _)
    have HR11 : Hid (Rw 4 emC 40 (fun g => w.heap.size ≤ g ∧ g < wr.heap.size) w11 A c xs) := Lib.hid (by rw [hw11]; exact HRA.out.far HXA.out (.inr (fun h9 => by omega)) 0 _)
    have HBL11 : Hid (Below w.heap.size w w11) := Lib.hid (by rw [hw11]; exact HBL.out.setCell (by simp; exact HGE.out) _)
    have g0 : w11.cell? ⟨wr.heap.size, 0, none⟩ = some (.int .i64 i2) := HX11.out.cell 0
    have g1 : w11.cell? ⟨wr.heap.size, 1, none⟩ = some (.int .i64 x.e.tm) := HX11.out.cell 1
    have g2 : w11.cell? ⟨wr.heap.size, 2, none⟩ = some (.int .i64 x.e.kd) := HX11.out.cell 2
    have g3 : w11.cell? ⟨wr.heap.size, 3, none⟩ = some (.slice x.A x.e.ds.length x.c) := HX11.out.cell 3
    clear hw11 hi2 k0 kf HRA HXA HBA HBL
    go_wp2_with (at_builtin; refine wpList_appendR1 (f := emC) rfl (.tmp 23) (.tmp 25) 37 rfl entT emC_len ⟨⟨i2, x.e.tm, x.e.kd, x.e.ds⟩, x.A, x.c⟩ (emC_one _) rfl rfl HR11.out rfl rfl (by have := HXK.out; have := HRM.out; have := HLT.out; unfold maxLen; omega) (by have := HXK.out; have := HRM.out; have := HLT.out; omega) ?_; intro A12 c12 w12 hr12 hf12; have HR12 := Lib.hid hr12; have HF12 := Lib.hid hf12; clear hr12 hf12)
    go_roundw
    case rel => exact ⟨k + 1, i2, xs ++ [⟨⟨i2, x.e.tm, x.e.kd, x.e.ds⟩, x.A, x.c⟩], A12, c12, HLT.out, by go_num, rfl, by rw [List.length_append]; rfl, Lib.hid (by rw [List.length_append, HXK.out]; rfl), HR12.out.mono (fun g _ hg => by have := HBL11.out.size; omega), Lib.hid (HPO.out.snoc HXM.out i2), Lib.hid (HBL11.out.trans (HF12.out.to_below (fun g _ h1 h2 => by omega) HBL11.out.size))⟩
    case measure => simp [RowKit.intOf]; have := HLT.out; omega
   ·have t1 : (ix == 0) = false := by rw [beq_eq_false_iff_ne]; exact h0
    have g0 : wa.cell? ⟨wr.heap.size, 0, none⟩ = some (.int .i64 ix) := HXA.out.cell 0
    have g1 : wa.cell? ⟨wr.heap.size, 1, none⟩ = some (.int .i64 x.e.tm) := HXA.out.cell 1
    have g2 : wa.cell? ⟨wr.heap.size, 2, none⟩ = some (.int .i64 x.e.kd) := HXA.out.cell 2
    have g3 : wa.cell? ⟨wr.heap.size, 3, none⟩ = some (.slice x.A x.e.ds.length x.c) := HXA.out.cell 3
    clear h0 HXA HBA
    go_wp2_with (at_builtin; refine wpList_appendR1 (f := emC) rfl (.tmp 23) (.tmp 25) 37 rfl entT emC_len ⟨⟨ix, x.e.tm, x.e.kd, x.e.ds⟩, x.A, x.c⟩ (emC_one _) rfl rfl HRA.out rfl rfl (by have := HXK.out; have := HRM.out; have := HLT.out; unfold maxLen; omega) (by have := HXK.out; have := HRM.out; have := HLT.out; omega) ?_; intro A12 c12 w12 hr12 hf12; have HR12 := Lib.hid hr12; have HF12 := Lib.hid hf12; clear hr12 hf12)
    go_roundw
    case rel => exact ⟨k + 1, ix, xs ++ [⟨⟨ix, x.e.tm, x.e.kd, x.e.ds⟩, x.A, x.c⟩], A12, c12, HLT.out, by go_num, rfl, by rw [List.length_append]; rfl, Lib.hid (by rw [List.length_append, HXK.out]; rfl), HR12.out.mono (fun g _ hg => by have := HBL.out.size; omega), Lib.hid (HPO.out.snoc HXM.out ix), Lib.hid (HBL.out.trans (HF12.out.to_below (fun g _ h1 h2 => by omega) HBL.out.size))⟩
    case measure => simp [RowKit.intOf]; have := HLT.out; omega
  ·have hlt2 : ¬ ((k : Int) < (es.length : Int)) := by omega
   have hl9 : xs.length = es.length := by rw [HXK.out]; omega
   have HL9 := Lib.hid hl9
   clear hlt hl9
   go_wp2_with fail
   go_ret
   exact ⟨A, c, xs, by rw [HL9.out]; rfl, HL9.out, HRW.out, HPO.out, HBW.out⟩
end Go.Proofs.YtifgajinfcihmaaGreatDoor
