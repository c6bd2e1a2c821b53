/- Layer 13: Look. -/
import Derived.Test.YtakebmbdcjbbgaaSsR
import Derived.Deep.DeepCutAuto
namespace Go.Proofs.Ytakebmbdcjbbgaa
open Go.RowKit Go.Maps Go.Lib Mem Ss

def LkP (t : Tb) (id seq : Int) (w : World) (e : Ending) (w' : World) : Prop :=
  e = .returned (.tuple #[.agg #[.int .i64 (lookI t id seq).1, .int .i64 (lookI t id seq).2], .int .i64 (lookC t id seq)]) ∧ Below w.heap.size w w'
theorem LkP.mk {t : Tb} {id seq : Int} {w : World} {e : Ending} {w' : World} {c n k : Int} (hc : lookC t id seq = k) (hi : lookI t id seq = (c, n)) (he : e = .returned (.tuple #[.agg #[.int .i64 c, .int .i64 n], .int .i64 k])) (hb : Below w.heap.size w w') : LkP t id seq w e w' := by
  unfold LkP
  rw [hc, hi]
  exact ⟨he, hb⟩
theorem look_bad {t : Tb} {id seq : Int} (h : (numOk id && numOk seq) = false) : lookC t id seq = 43 ∧ lookI t id seq = (0, 0) := by
  unfold lookC lookI
  rw [if_neg (by rw [h]; decide), if_neg (by rw [h]; decide)]
  exact ⟨rfl, rfl⟩
theorem look_none {t : Tb} {id seq : Int} (h : (numOk id && numOk seq) = true) (hf : findS id t = none) : lookC t id seq = (if t.length = 16 then 131 else 0) ∧ lookI t id seq = (0, 0) := by
  unfold lookC lookI
  rw [if_pos h, if_pos h, hf]
  exact ⟨rfl, rfl⟩
theorem look_some {t : Tb} {id seq : Int} {s : Sn} (h : (numOk id && numOk seq) = true) (hf : findS id t = some s) : lookC t id seq = (if seq ≤ s.high - 8 then 130 else if (itAt seq s.kept).isSome = true then 5 else 0) ∧ lookI t id seq = (if seq ≤ s.high - 8 then (0, 0) else match itAt seq s.kept with | some i => (i.code, i.num) | none => (0, 0)) := by
  unfold lookC lookI
  rw [if_pos h, if_pos h, hf]
  exact ⟨rfl, rfl⟩
def put2 (W : World) (g : Nat) (a b : Value) : World := (W.setCell ⟨g, 0, none⟩ a).setCell ⟨g, 1, none⟩ b
theorem put2_blk {W : World} {g : Nat} {t : TypeId} {a b a' b' : Value} (h : Blk W g t #[a', b']) : Blk (put2 W g a b) g t #[a, b] := (h.set_ 0 a).set_ 1 b
theorem put2_frm (W : World) (g : Nat) (a b : Value) : Frm (fun k => k = g) W (put2 W g a b) :=
  ((Frm.refl (fun k => k = g) W).setCell (p := ⟨g, 0, none⟩) (fun _ => rfl) a).setCell (p := ⟨g, 1, none⟩) (fun _ => rfl) b
set_option maxRecDepth 100000 in
set_option maxHeartbeats 2000000 in
theorem Look_any {base : Nat} {w : World} {p : Nat} {t : Tb} (h : TabAt base w p t) (id seq : Int) (hid : (Lit.int .i64 id).wf = true) :
    Calls Try.prog 13 #[.pointer (some ⟨p, 0, none⟩), .int .i64 id, .int .i64 seq] w (LkP t id seq w) := by
  obtain ⟨mb, rs, h⟩ := h
  obtain ⟨w1, hw1⟩ : ∃ z, z = w.alloc (.cells #[.int .i64 0, .int .i64 0] 25) := ⟨_, rfl⟩
  have hb1 : Below w.heap.size w w1 := by rw [hw1]; exact (Below.refl _ _).alloc (Nat.le_refl _) _
  have hx1 : Blk w1 w.heap.size 25 #[.int .i64 0, .int .i64 0] := by rw [hw1]; exact Blk.new_ w _ _
  have h1 := h.below hb1
  have hlk := h1.lookup id hid
  have hln := fun ty => h1.len ty
  have c0 : w1.cell? ⟨p, 0, none⟩ = some (.map (some mb)) := h1.blk.cell 0
  have HH := Lib.hid h1
  have HB1 := Lib.hid hb1; clear hb1
  have HX1 := Lib.hid hx1; clear hx1
  have HW1 := Lib.hid hw1; clear hw1
  obtain ⟨pi, hpi⟩ : ∃ z, z = numOk id := ⟨_, rfl⟩
  obtain ⟨ps, hps⟩ : ∃ z, z = numOk seq := ⟨_, rfl⟩
  have HNI : Hid (∀ W, Calls Try.prog 33 #[.int .i64 id] W (BoolW pi W)) := Lib.hid fun W => by rw [hpi]; exact number_any id W
  have HNS : Hid (∀ W, Calls Try.prog 33 #[.int .i64 seq] W (BoolW ps W)) := Lib.hid fun W => by rw [hps]; exact number_any seq W
  have HPI := Lib.hid hpi; clear hpi
  have HPS := Lib.hid hps; clear hps
  have q0 := HX1.out.free 0
  have q1 := HX1.out.free 1
  have e0 : w1.cell? ⟨w.heap.size, 0, none⟩ = some (.int .i64 0) := HX1.out.cell 0
  have e1 : w1.cell? ⟨w.heap.size, 1, none⟩ = some (.int .i64 0) := HX1.out.cell 1
  have hf := h1.find id
  have HF := Lib.hid hf; clear hf
  clear h h1
  cases pi with
  | false =>
    have HC := Lib.hid (look_bad (t := t) (id := id) (seq := seq) (by rw [← HPI.out]; rfl))
    go_enter Try.func13, Try.ntmps13
    go_upto_region 1 with fail
    rw [← HW1.out]
    clear HW1
    go_wp2_with fail
    (with_reducible refine (HNI.out _).mono ?_); rintro e w2 ⟨rfl, rfl⟩
    go_wp2_with fail
    obtain ⟨W9, hW9⟩ : ∃ z, z = put2 w1 w.heap.size (.int .i64 0) (.int .i64 0) := ⟨_, rfl⟩
    have hx9 : Blk W9 w.heap.size 25 #[.int .i64 0, .int .i64 0] := by rw [hW9]; exact put2_blk HX1.out
    have hf9 : Frm (fun g => g = w.heap.size) w1 W9 := by rw [hW9]; exact put2_frm _ _ _ _
    unfold put2 at hW9
    rw [← hW9]
    have r0 := hx9.cell 0
    have r1 := hx9.cell 1
    refine bodyPost_ret (v := .tuple #[.agg #[.int .i64 0, .int .i64 0], .int .i64 43]) (by simp [results, Try.results13, go_sem, r0, r1]) rfl ?_
    exact LkP.mk HC.out.1 HC.out.2 rfl (HB1.out.trans (hf9.to_below (fun k _ h1 h2 => by omega) HB1.out.size))
  | true =>
    cases ps with
    | false =>
      have HC := Lib.hid (look_bad (t := t) (id := id) (seq := seq) (by rw [← HPI.out, ← HPS.out]; rfl))
      go_enter Try.func13, Try.ntmps13
      go_upto_region 1 with fail
      rw [← HW1.out]
      clear HW1
      go_wp2_with fail
      (with_reducible refine (HNI.out _).mono ?_); rintro e w2 ⟨rfl, rfl⟩
      go_wp2_with fail
      (with_reducible refine (HNS.out _).mono ?_); rintro e w2 ⟨rfl, rfl⟩
      go_wp2_with fail
      obtain ⟨W9, hW9⟩ : ∃ z, z = put2 w1 w.heap.size (.int .i64 0) (.int .i64 0) := ⟨_, rfl⟩
      have hx9 : Blk W9 w.heap.size 25 #[.int .i64 0, .int .i64 0] := by rw [hW9]; exact put2_blk HX1.out
      have hf9 : Frm (fun g => g = w.heap.size) w1 W9 := by rw [hW9]; exact put2_frm _ _ _ _
      unfold put2 at hW9
      rw [← hW9]
      have r0 := hx9.cell 0
      have r1 := hx9.cell 1
      refine bodyPost_ret (v := .tuple #[.agg #[.int .i64 0, .int .i64 0], .int .i64 43]) (by simp [results, Try.results13, go_sem, r0, r1]) rfl ?_
      exact LkP.mk HC.out.1 HC.out.2 rfl (HB1.out.trans (hf9.to_below (fun k _ h1 h2 => by omega) HB1.out.size))
    | true =>
      have hnn : (numOk id && numOk seq) = true := by rw [← HPI.out, ← HPS.out]; rfl
      cases hr : findR id rs with
      | none =>
        have hfn : findS id t = none := by rw [HF.out, hr]; rfl
        have hC := look_none hnn hfn
        rw [hr] at hlk
        have hlk2 : (Instr.lookup 65 (.map (some mb)) (.int .i64 id) false).run Try.prog w1 = .ok (.pointer none) w1 := hlk
        clear hlk hr hfn
        by_cases h16 : t.length = 16
        · rw [if_pos h16] at hC
          have HC := Lib.hid hC; clear hC
          have t16 : ((t.length : Int) == 16) = true := by rw [beq_iff_eq]; omega
          clear h16
          go_enter Try.func13, Try.ntmps13
          go_upto_region 1 with fail
          rw [← HW1.out]
          clear HW1
          go_wp2_with fail
          (with_reducible refine (HNI.out _).mono ?_); rintro e w2 ⟨rfl, rfl⟩
          go_wp2_with fail
          (with_reducible refine (HNS.out _).mono ?_); rintro e w2 ⟨rfl, rfl⟩
          go_wp2_with fail
          obtain ⟨W9, hW9⟩ : ∃ z, z = put2 w1 w.heap.size (.int .i64 0) (.int .i64 0) := ⟨_, rfl⟩
          have hx9 : Blk W9 w.heap.size 25 #[.int .i64 0, .int .i64 0] := by rw [hW9]; exact put2_blk HX1.out
          have hf9 : Frm (fun g => g = w.heap.size) w1 W9 := by rw [hW9]; exact put2_frm _ _ _ _
          unfold put2 at hW9
          rw [← hW9]
          have r0 := hx9.cell 0
          have r1 := hx9.cell 1
          refine bodyPost_ret (v := .tuple #[.agg #[.int .i64 0, .int .i64 0], .int .i64 131]) (by simp [results, Try.results13, go_sem, r0, r1]) rfl ?_
          exact LkP.mk HC.out.1 HC.out.2 rfl (HB1.out.trans (hf9.to_below (fun k _ h1 h2 => by omega) HB1.out.size))
        · rw [if_neg h16] at hC
          have HC := Lib.hid hC; clear hC
          have t16 : ((t.length : Int) == 16) = false := by rw [beq_eq_false_iff_ne]; omega
          clear h16
          go_enter Try.func13, Try.ntmps13
          go_upto_region 1 with fail
          rw [← HW1.out]
          clear HW1
          go_wp2_with fail
          (with_reducible refine (HNI.out _).mono ?_); rintro e w2 ⟨rfl, rfl⟩
          go_wp2_with fail
          (with_reducible refine (HNS.out _).mono ?_); rintro e w2 ⟨rfl, rfl⟩
          go_wp2_with fail
          obtain ⟨W9, hW9⟩ : ∃ z, z = put2 w1 w.heap.size (.int .i64 0) (.int .i64 0) := ⟨_, rfl⟩
          have hx9 : Blk W9 w.heap.size 25 #[.int .i64 0, .int .i64 0] := by rw [hW9]; exact put2_blk HX1.out
          have hf9 : Frm (fun g => g = w.heap.size) w1 W9 := by rw [hW9]; exact put2_frm _ _ _ _
          unfold put2 at hW9
          rw [← hW9]
          have r0 := hx9.cell 0
          have r1 := hx9.cell 1
          refine bodyPost_ret (v := .tuple #[.agg #[.int .i64 0, .int .i64 0], .int .i64 0]) (by simp [results, Try.results13, go_sem, r0, r1]) rfl ?_
          exact LkP.mk HC.out.1 HC.out.2 rfl (HB1.out.trans (hf9.to_below (fun k _ h1 h2 => by omega) HB1.out.size))
      | some r =>
        have hfn : findS id t = some r.s := by rw [HF.out, hr]; rfl
        have hC := look_some hnn hfn
        rw [hr] at hlk
        have hlk2 : (Instr.lookup 65 (.map (some mb)) (.int .i64 id) false).run Try.prog w1 = .ok (.pointer (some ⟨r.sb, 0, none⟩)) w1 := hlk
        obtain ⟨hrid, hrm⟩ := findR_some hr
        have hos := HH.out.okS hrm
        obtain ⟨hrb, -, -⟩ := HH.out.recs r hrm
        have HRB := Lib.hid hrb
        have d0 : w1.cell? ⟨r.sb, 0, none⟩ = some (.int .i64 r.s.high) := hrb.cell 0
        have d1 : w1.cell? ⟨r.sb, 1, none⟩ = some (.slice r.A r.s.kept.length r.c) := hrb.cell 1
        obtain ⟨h8, hh8⟩ : ∃ z, z = r.s.high - 8 := ⟨_, rfl⟩
        have e8 : IntKind.i64.wrap (r.s.high - 8) = h8 := by have := hos.low; have := hos.top; rw [IntKind.wrap_i64]; omega
        rw [← hh8] at hC
        have hsq : 1 ≤ seq ∧ seq ≤ 1099511627776 := numOk_iff.1 HPS.out.symm
        have HFD := Lib.hid (find_any hrb (HH.out.slK hrm) hos.kept.rise (by have := hos.kept.len; omega) (fun i hi => by have := hos.kept.high i hi; have := hos.kept.pos i hi; have := hos.top; omega) (seq := seq))
        have HRISE := Lib.hid hos.kept.rise
        have HSL := Lib.hid (HH.out.slK hrm)
        have HKL : Hid (r.s.kept.length ≤ 8) := Lib.hid hos.kept.len
        clear hlk hr hfn hos hrb hsq hh8
        by_cases hle : seq ≤ h8
        · rw [if_pos hle, if_pos hle] at hC
          have HC := Lib.hid hC; clear hC
          go_enter Try.func13, Try.ntmps13
          go_upto_region 1 with fail
          rw [← HW1.out]
          clear HW1
          go_wp2_with fail
          (with_reducible refine (HNI.out _).mono ?_); rintro e w2 ⟨rfl, rfl⟩
          go_wp2_with fail
          (with_reducible refine (HNS.out _).mono ?_); rintro e w2 ⟨rfl, rfl⟩
          go_wp2_with fail
          obtain ⟨W9, hW9⟩ : ∃ z, z = put2 w1 w.heap.size (.int .i64 0) (.int .i64 0) := ⟨_, rfl⟩
          have hx9 : Blk W9 w.heap.size 25 #[.int .i64 0, .int .i64 0] := by rw [hW9]; exact put2_blk HX1.out
          have hf9 : Frm (fun g => g = w.heap.size) w1 W9 := by rw [hW9]; exact put2_frm _ _ _ _
          unfold put2 at hW9
          rw [← hW9]
          have r0 := hx9.cell 0
          have r1 := hx9.cell 1
          refine bodyPost_ret (v := .tuple #[.agg #[.int .i64 0, .int .i64 0], .int .i64 130]) (by simp [results, Try.results13, go_sem, r0, r1]) rfl ?_
          exact LkP.mk HC.out.1 HC.out.2 rfl (HB1.out.trans (hf9.to_below (fun k _ h1 h2 => by omega) HB1.out.size))
        · rw [if_neg hle, if_neg hle] at hC
          cases hit : itAt seq r.s.kept with
          | none =>
            rw [hit] at hC
            have HC : Hid (lookC t id seq = 0 ∧ lookI t id seq = (0, 0)) := Lib.hid hC
            unfold FdP at HFD
            rw [hit] at HFD
            simp only [Option.isSome_none] at HFD
            clear hC hit
            go_enter Try.func13, Try.ntmps13
            go_upto_region 1 with fail
            rw [← HW1.out]
            clear HW1
            go_wp2_with fail
            (with_reducible refine (HNI.out _).mono ?_); rintro e w2 ⟨rfl, rfl⟩
            go_wp2_with fail
            (with_reducible refine (HNS.out _).mono ?_); rintro e w2 ⟨rfl, rfl⟩
            go_wp2_with fail
            (with_reducible refine HFD.out.mono ?_); rintro e w3 ⟨rfl, hb3⟩
            have HB3 : Hid (Below w.heap.size w w3) := Lib.hid (HB1.out.trans (hb3.mono HB1.out.size))
            have HX3 := Lib.hid (HX1.out.below hb3 HX1.out.lt)
            have HRB3 := Lib.hid (HRB.out.below hb3 HRB.out.lt)
            have HSL3 := Lib.hid (HSL.out.below hb3)
            clear hb3 q0 q1 e0 e1 d0 d1 c0
            have q0 := HX3.out.free 0
            have q1 := HX3.out.free 1
            have e0 : w3.cell? ⟨w.heap.size, 0, none⟩ = some (.int .i64 0) := HX3.out.cell 0
            have e1 : w3.cell? ⟨w.heap.size, 1, none⟩ = some (.int .i64 0) := HX3.out.cell 1
            go_wp2_with fail
            obtain ⟨W9, hW9⟩ : ∃ z, z = put2 w3 w.heap.size (.int .i64 0) (.int .i64 0) := ⟨_, rfl⟩
            have hx9 : Blk W9 w.heap.size 25 #[.int .i64 0, .int .i64 0] := by rw [hW9]; exact put2_blk HX3.out
            have hf9 : Frm (fun g => g = w.heap.size) w3 W9 := by rw [hW9]; exact put2_frm _ _ _ _
            unfold put2 at hW9
            rw [← hW9]
            have r0 := hx9.cell 0
            have r1 := hx9.cell 1
            refine bodyPost_ret (v := .tuple #[.agg #[.int .i64 0, .int .i64 0], .int .i64 0]) (by simp [results, Try.results13, go_sem, r0, r1]) rfl ?_
            exact LkP.mk HC.out.1 HC.out.2 rfl (HB3.out.trans (hf9.to_below (fun k _ h1 h2 => by omega) HB3.out.size))
          | some i =>
            rw [hit] at hC
            have HC : Hid (lookC t id seq = 5 ∧ lookI t id seq = (i.code, i.num)) := Lib.hid hC
            have hisS : (itAt seq r.s.kept).isSome = true := by rw [hit]; rfl
            unfold FdP at HFD
            rw [hit] at HFD
            simp only [Option.isSome_some] at HFD
            have hlow : ∃ hl : lowI seq r.s.kept < r.s.kept.length, r.s.kept[lowI seq r.s.kept] = i := by
              by_cases hl : lowI seq r.s.kept < r.s.kept.length
              · refine ⟨hl, ?_⟩
                have h9 := (at_low HRISE.out seq).1 hl
                rw [hisS] at h9
                have h10 := of_decide_eq_true h9.symm
                have h11 := itAt_mem HRISE.out (List.getElem_mem hl)
                rw [h10, hit] at h11
                exact (Option.some.inj h11).symm
              · have := (at_low HRISE.out seq).2 hl
                rw [hisS] at this; cases this
            obtain ⟨hl, hli⟩ := hlow
            obtain ⟨lo, hlo⟩ : ∃ z, z = lowI seq r.s.kept := ⟨_, rfl⟩
            rw [← hlo] at HFD
            have hl2 : lo < r.s.kept.length := by rw [hlo]; exact hl
            have hli2 : r.s.kept[lo] = i := by rw [← hli]; exact getElem_congr_idx hlo
            have HL2 := Lib.hid hl2
            have HLI := Lib.hid hli2
            have hLO := hlo
            clear hC hit hisS hl hli hlo hLO hli2
            go_enter Try.func13, Try.ntmps13
            go_upto_region 1 with fail
            rw [← HW1.out]
            clear HW1
            go_wp2_with fail
            (with_reducible refine (HNI.out _).mono ?_); rintro e w2 ⟨rfl, rfl⟩
            go_wp2_with fail
            (with_reducible refine (HNS.out _).mono ?_); rintro e w2 ⟨rfl, rfl⟩
            go_wp2_with fail
            (with_reducible refine HFD.out.mono ?_); rintro e w3 ⟨rfl, hb3⟩
            have HB3 : Hid (Below w.heap.size w w3) := Lib.hid (HB1.out.trans (hb3.mono HB1.out.size))
            have HX3 := Lib.hid (HX1.out.below hb3 HX1.out.lt)
            have HRB3 := Lib.hid (HRB.out.below hb3 HRB.out.lt)
            have HSL3 := Lib.hid (HSL.out.below hb3)
            clear hb3 q0 q1 e0 e1 d0 d1 c0
            have q0 := HX3.out.free 0
            have q1 := HX3.out.free 1
            have e0 : w3.cell? ⟨w.heap.size, 0, none⟩ = some (.int .i64 0) := HX3.out.cell 0
            have e1 : w3.cell? ⟨w.heap.size, 1, none⟩ = some (.int .i64 0) := HX3.out.cell 1
            have d1 : w3.cell? ⟨r.sb, 1, none⟩ = some (.slice r.A r.s.kept.length r.c) := HRB3.out.cell 1
            obtain ⟨bb, oo, hAA, -, -, hc⟩ := HSL3.out.at hl2
            rw [HLI.out] at hc
            rw [hAA] at d1
            have k1 : w3.cell? ⟨bb, oo + lo * 3 + 1, none⟩ = some (.int .i64 i.code) := hc 1 (by decide)
            have k2 : w3.cell? ⟨bb, oo + lo * 3 + 2, none⟩ = some (.int .i64 i.num) := hc 2 (by decide)
            have t5 : (0 : Int) ≤ (lo : Int) := by omega
            have t6 : (lo : Int) < (r.s.kept.length : Int) := by have := HL2.out; omega
            clear hc
            go_wp2_with fail
            obtain ⟨W9, hW9⟩ : ∃ z, z = put2 w3 w.heap.size (.int .i64 i.code) (.int .i64 i.num) := ⟨_, rfl⟩
            have hx9 : Blk W9 w.heap.size 25 #[.int .i64 i.code, .int .i64 i.num] := by rw [hW9]; exact put2_blk HX3.out
            have hf9 : Frm (fun g => g = w.heap.size) w3 W9 := by rw [hW9]; exact put2_frm _ _ _ _
            unfold put2 at hW9
            rw [← hW9]
            have r0 := hx9.cell 0
            have r1 := hx9.cell 1
            refine bodyPost_ret (v := .tuple #[.agg #[.int .i64 i.code, .int .i64 i.num], .int .i64 5]) (by simp [results, Try.results13, go_sem, r0, r1]) rfl ?_
            exact LkP.mk HC.out.1 HC.out.2 rfl (HB3.out.trans (hf9.to_below (fun k _ h1 h2 => by omega) HB3.out.size))
end Go.Proofs.Ytakebmbdcjbbgaa
