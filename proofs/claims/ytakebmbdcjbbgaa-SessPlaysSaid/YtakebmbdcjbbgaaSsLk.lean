/- Layer 13's document: number, Look. -/
import Derived.Test.YtakebmbdcjbbgaaSsJ
import Derived.Test.YtakebmbdcjbbgaaSsK
import Derived.Deep.DeepCutAuto
namespace Go.Proofs.Ytakebmbdcjbbgaa
open Go Go.RowKit Go.Maps Go.Lib Mem Ss

theorem rnumber_any (n : Int) (w : World) : Calls Try.prog 35 #[.int .i64 n] w (BoolW (numOk n) w) := by
  obtain ⟨p, hp⟩ : ∃ p, p = decide (1 ≤ n) := ⟨_, rfl⟩
  obtain ⟨q, hq⟩ : ∃ q, q = decide (n ≤ 1099511627776) := ⟨_, rfl⟩
  have e : numOk n = (p && q) := by unfold numOk; rw [hp, hq]
  have t1 : decide (1 ≤ n) = p := hp.symm
  have t2 : decide (n ≤ 1099511627776) = q := hq.symm
  rw [e]
  clear hp hq e
  cases p <;> cases q <;>
  · go_enter Try.func35, Try.ntmps35
    go_wp2_with fail
    go_ret
    exact ⟨by simp, rfl⟩
/-- what the document's Look leaves: the code; of the item its verdict -/
def RLkP (t : Tb) (id seq : Int) (w : World) (e : Ending) (w' : World) : Prop :=
  ∃ a b : Int, e = .returned (.tuple #[.agg #[.int .i64 a, .int .i64 b, .int .i64 (lookI t id seq).1, .int .i64 (lookI t id seq).2], .int .i64 (lookC t id seq)]) ∧ Below w.heap.size w w'
theorem RLkP.mk {t : Tb} {id seq : Int} {w : World} {e : Ending} {w' : World} {a b c n k : Int} (hc : lookC t id seq = k) (hi : lookI t id seq = (c, n)) (he : e = .returned (.tuple #[.agg #[.int .i64 a, .int .i64 b, .int .i64 c, .int .i64 n], .int .i64 k])) (hb : Below w.heap.size w w') : RLkP t id seq w e w' := by
  unfold RLkP
  rw [hc, hi]
  exact ⟨a, b, he, hb⟩
def put4 (W : World) (g : Nat) (a b c d : Value) : World := (((W.setCell ⟨g, 0, none⟩ a).setCell ⟨g, 1, none⟩ b).setCell ⟨g, 2, none⟩ c).setCell ⟨g, 3, none⟩ d
theorem put4_blk {W : World} {g : Nat} {t : TypeId} {a b c d a' b' c' d' : Value} (h : Blk W g t #[a', b', c', d']) : Blk (put4 W g a b c d) g t #[a, b, c, d] := (((h.set_ 0 a).set_ 1 b).set_ 2 c).set_ 3 d
theorem put4_frm (W : World) (g : Nat) (a b c d : Value) : Frm (fun k => k = g) W (put4 W g a b c d) :=
  ((((Frm.refl (fun k => k = g) W).setCell (p := ⟨g, 0, none⟩) (fun _ => rfl) a).setCell (p := ⟨g, 1, none⟩) (fun _ => rfl) b).setCell (p := ⟨g, 2, none⟩) (fun _ => rfl) c).setCell (p := ⟨g, 3, none⟩) (fun _ => rfl) d
/-- the search: not among the first i -/
def LsRel (its : List RI) (id seq : Int) (iv : Value) : Prop := ∃ i : Nat, i ≤ its.length ∧ iv = .int .i64 i ∧ Hid (∀ j (hj : j < its.length), j < i → ¬ (its[j].id = id ∧ its[j].seq = seq))
theorem Ss.R.itAt {its : List RI} {t : Tb} (h : R its t) {id seq : Int} {s : Sn} (hf : findS id t = some s) :
    (∀ x ∈ its, x.id = id → x.seq = seq → itAt seq s.kept = some x.it) ∧ ((∀ x ∈ its, ¬ (x.id = id ∧ x.seq = seq)) → itAt seq s.kept = none) := by
  constructor
  · intro x hx e1 e2
    obtain ⟨s', g1, g2, g3⟩ := h.find hx
    rw [e1, hf] at g1; cases g1
    have := itAt_mem g3.kept.rise g2
    rw [← e2]; exact this
  · intro hno
    refine itAt_none.2 fun i hi e => ?_
    obtain ⟨hm, hid⟩ := findS_some hf
    exact hno _ (h.inI s hm i hi) ⟨hid, e⟩
set_option maxRecDepth 100000 in
set_option maxHeartbeats 8000000 in
theorem RLook_any {w : World} {A : Option Addr} {c : Nat} {its : List RI} {t : Tb} (hs : SlC 4 riN w A its) (hr : R its t) (id seq : Int) :
    Calls Try.prog 16 #[.agg #[.slice A its.length c], .int .i64 id, .int .i64 seq] w (RLkP t id seq w) := by
  have hl : its.length ≤ 128 := hr.few
  obtain ⟨w1, hw1⟩ : ∃ z, z = (w.alloc (.cells #[.slice A its.length c] 44)).alloc (.cells #[.int .i64 0, .int .i64 0, .int .i64 0, .int .i64 0] 46) := ⟨_, rfl⟩
  have HB1 : Hid (Below w.heap.size w w1) := Lib.hid (by rw [hw1]; exact ((Below.refl _ _).alloc (Nat.le_refl _) _).alloc (by rw [World.size_alloc]; omega) _)
  have HX1 : Hid (Blk w1 w.heap.size 44 #[.slice A its.length c]) := Lib.hid (by rw [hw1]; exact (Blk.new_ w _ _).alloc _)
  have HY1 : Hid (Blk w1 (w.heap.size + 1) 46 #[.int .i64 0, .int .i64 0, .int .i64 0, .int .i64 0]) := Lib.hid (by
    have := Blk.new_ (w.alloc (.cells #[.slice A its.length c] 44)) 46 #[.int .i64 0, .int .i64 0, .int .i64 0, .int .i64 0]
    rw [World.size_alloc] at this; rw [hw1]; exact this)
  have HZ1 : Hid (w1.heap.size = w.heap.size + 2) := Lib.hid (by rw [hw1, World.size_alloc, World.size_alloc])
  have HS := Lib.hid (hs.below HB1.out)
  have HW1 := Lib.hid hw1; clear hw1
  have HR := Lib.hid hr
  obtain ⟨pi, hpi⟩ : ∃ z, z = numOk id := ⟨_, rfl⟩
  obtain ⟨ps, hps⟩ : ∃ z, z = numOk seq := ⟨_, rfl⟩
  have HNI : Hid (∀ W, Calls Try.prog 35 #[.int .i64 id] W (BoolW pi W)) := Lib.hid fun W => by rw [hpi]; exact rnumber_any id W
  have HNS : Hid (∀ W, Calls Try.prog 35 #[.int .i64 seq] W (BoolW ps W)) := Lib.hid fun W => by rw [hps]; exact rnumber_any seq W
  have HPI := Lib.hid hpi; clear hpi
  have HPS := Lib.hid hps; clear hps
  have t0 : w1.cell? ⟨w.heap.size, 0, none⟩ = some (.slice A its.length c) := HX1.out.cell 0
  have HHI := Lib.hid (RHighest_any (c := c) HS.out id)
  rw [HR.out.high] at HHI
  unfold IntB at HHI
  clear hs hr
  cases pi with
  | false =>
    have HC := Lib.hid (look_bad (t := t) (id := id) (seq := seq) (by rw [← HPI.out]; rfl))
    have q0 := HY1.out.free 0
    have q1 := HY1.out.free 1
    have q2 := HY1.out.free 2
    have q3 := HY1.out.free 3
    have e0 : w1.cell? ⟨w.heap.size + 1, 0, none⟩ = some (.int .i64 0) := HY1.out.cell 0
    have e1 : w1.cell? ⟨w.heap.size + 1, 1, none⟩ = some (.int .i64 0) := HY1.out.cell 1
    have e2 : w1.cell? ⟨w.heap.size + 1, 2, none⟩ = some (.int .i64 0) := HY1.out.cell 2
    have e3 : w1.cell? ⟨w.heap.size + 1, 3, none⟩ = some (.int .i64 0) := HY1.out.cell 3
    go_enter Try.func16, Try.ntmps16
    go_upto_region 1 with fail
    rw [← HW1.out]
    clear HW1
    go_wp2_with fail
    (with_reducible refine (HNI.out _).mono ?_); rintro e w2 ⟨rfl, rfl⟩
    go_wp2_with fail
    obtain ⟨W9, hW9⟩ : ∃ z, z = put4 w1 (w.heap.size + 1) (.int .i64 0) (.int .i64 0) (.int .i64 0) (.int .i64 0) := ⟨_, rfl⟩
    have hx9 : Blk W9 (w.heap.size + 1) 46 #[.int .i64 0, .int .i64 0, .int .i64 0, .int .i64 0] := by rw [hW9]; exact put4_blk HY1.out
    have hf9 : Frm (fun g => g = w.heap.size + 1) w1 W9 := by rw [hW9]; exact put4_frm _ _ _ _ _ _
    unfold put4 at hW9
    rw [← hW9]
    have r0 := hx9.cell 0
    have r1 := hx9.cell 1
    have r2 := hx9.cell 2
    have r3 := hx9.cell 3
    refine bodyPost_ret (v := .tuple #[.agg #[.int .i64 0, .int .i64 0, .int .i64 0, .int .i64 0], .int .i64 43]) (by simp [results, Try.results16, go_sem, r0, r1, r2, r3]) rfl ?_
    exact RLkP.mk HC.out.1 HC.out.2 rfl (HB1.out.trans (hf9.to_below (fun k _ h1 h2 => by omega) HB1.out.size))
  | true =>
    cases ps with
    | false =>
      have HC := Lib.hid (look_bad (t := t) (id := id) (seq := seq) (by rw [← HPI.out, ← HPS.out]; rfl))
      have q0 := HY1.out.free 0
      have q1 := HY1.out.free 1
      have q2 := HY1.out.free 2
      have q3 := HY1.out.free 3
      have e0 : w1.cell? ⟨w.heap.size + 1, 0, none⟩ = some (.int .i64 0) := HY1.out.cell 0
      have e1 : w1.cell? ⟨w.heap.size + 1, 1, none⟩ = some (.int .i64 0) := HY1.out.cell 1
      have e2 : w1.cell? ⟨w.heap.size + 1, 2, none⟩ = some (.int .i64 0) := HY1.out.cell 2
      have e3 : w1.cell? ⟨w.heap.size + 1, 3, none⟩ = some (.int .i64 0) := HY1.out.cell 3
      go_enter Try.func16, Try.ntmps16
      go_upto_region 1 with fail
      rw [← HW1.out]
      clear HW1
      go_wp2_with fail
      (with_reducible refine (HNI.out _).mono ?_); rintro e w2 ⟨rfl, rfl⟩
      go_wp2_with fail
      (with_reducible refine (HNS.out _).mono ?_); rintro e w2 ⟨rfl, rfl⟩
      go_wp2_with fail
      obtain ⟨W9, hW9⟩ : ∃ z, z = put4 w1 (w.heap.size + 1) (.int .i64 0) (.int .i64 0) (.int .i64 0) (.int .i64 0) := ⟨_, rfl⟩
      have hx9 : Blk W9 (w.heap.size + 1) 46 #[.int .i64 0, .int .i64 0, .int .i64 0, .int .i64 0] := by rw [hW9]; exact put4_blk HY1.out
      have hf9 : Frm (fun g => g = w.heap.size + 1) w1 W9 := by rw [hW9]; exact put4_frm _ _ _ _ _ _
      unfold put4 at hW9
      rw [← hW9]
      have r0 := hx9.cell 0
      have r1 := hx9.cell 1
      have r2 := hx9.cell 2
      have r3 := hx9.cell 3
      refine bodyPost_ret (v := .tuple #[.agg #[.int .i64 0, .int .i64 0, .int .i64 0, .int .i64 0], .int .i64 43]) (by simp [results, Try.results16, go_sem, r0, r1, r2, r3]) rfl ?_
      exact RLkP.mk HC.out.1 HC.out.2 rfl (HB1.out.trans (hf9.to_below (fun k _ h1 h2 => by omega) HB1.out.size))
    | true =>
      have hnn : (numOk id && numOk seq) = true := by rw [← HPI.out, ← HPS.out]; rfl
      obtain ⟨h, hh⟩ : ∃ z, z = highT t id := ⟨_, rfl⟩
      rw [← hh] at HHI
      cases hf : findS id t with
      | none =>
        have hC := look_none hnn hf
        have h0 : h = 0 := by rw [hh]; unfold highT; rw [hf]
        subst h0
        clear hh
        go_enter Try.func16, Try.ntmps16
        go_upto_region 1 with fail
        rw [← HW1.out]
        clear HW1
        go_wp2_with fail
        (with_reducible refine (HNI.out _).mono ?_); rintro e w2 ⟨rfl, rfl⟩
        go_wp2_with fail
        (with_reducible refine (HNS.out _).mono ?_); rintro e w2 ⟨rfl, rfl⟩
        go_wp2_with fail
        (with_reducible refine HHI.out.mono ?_); rintro e w2 ⟨rfl, hb2⟩
        have HB2 : Hid (Below w.heap.size w w2) := Lib.hid (HB1.out.trans (hb2.mono HB1.out.size))
        have HX2 := Lib.hid (HX1.out.below hb2 HX1.out.lt)
        have HY2 := Lib.hid (HY1.out.below hb2 HY1.out.lt)
        have HS2 := Lib.hid (HS.out.below hb2)
        clear hb2 t0 HHI HX1 HY1 HB1
        have t0 : w2.cell? ⟨w.heap.size, 0, none⟩ = some (.slice A its.length c) := HX2.out.cell 0
        have HSS := Lib.hid (RSessions_any (c := c) HS2.out HR.out)
        have hfew := HR.out.ok.few
        go_wp2_with fail
        (with_reducible refine HSS.out.mono ?_); rintro e w3 ⟨A3, c3, rfl, -, hb3⟩
        have HB3 : Hid (Below w.heap.size w w3) := Lib.hid (HB2.out.trans (hb3.mono HB2.out.size))
        have HX3 := Lib.hid (HX2.out.below hb3 HX2.out.lt)
        have HY3 := Lib.hid (HY2.out.below hb3 HY2.out.lt)
        have HS3 := Lib.hid (HS2.out.below hb3)
        rw [List.length_map]
        clear hb3 t0 HSS HX2 HY2 HB2 HS2
        by_cases h16 : t.length = 16
        · rw [if_pos h16] at hC
          have t16 : decide (16 ≤ (t.length : Int)) = true := decide_eq_true (by omega)
          have HC := Lib.hid hC
          clear hC h16
          have q0 := HY3.out.free 0
          have q1 := HY3.out.free 1
          have q2 := HY3.out.free 2
          have q3 := HY3.out.free 3
          have e0 : w3.cell? ⟨w.heap.size + 1, 0, none⟩ = some (.int .i64 0) := HY3.out.cell 0
          have e1 : w3.cell? ⟨w.heap.size + 1, 1, none⟩ = some (.int .i64 0) := HY3.out.cell 1
          have e2 : w3.cell? ⟨w.heap.size + 1, 2, none⟩ = some (.int .i64 0) := HY3.out.cell 2
          have e3 : w3.cell? ⟨w.heap.size + 1, 3, none⟩ = some (.int .i64 0) := HY3.out.cell 3
          go_wp2_with fail
          obtain ⟨W9, hW9⟩ : ∃ z, z = put4 w3 (w.heap.size + 1) (.int .i64 0) (.int .i64 0) (.int .i64 0) (.int .i64 0) := ⟨_, rfl⟩
          have hx9 : Blk W9 (w.heap.size + 1) 46 #[.int .i64 0, .int .i64 0, .int .i64 0, .int .i64 0] := by rw [hW9]; exact put4_blk HY3.out
          have hf9 : Frm (fun g => g = w.heap.size + 1) w3 W9 := by rw [hW9]; exact put4_frm _ _ _ _ _ _
          unfold put4 at hW9
          rw [← hW9]
          have r0 := hx9.cell 0
          have r1 := hx9.cell 1
          have r2 := hx9.cell 2
          have r3 := hx9.cell 3
          refine bodyPost_ret (v := .tuple #[.agg #[.int .i64 0, .int .i64 0, .int .i64 0, .int .i64 0], .int .i64 131]) (by simp [results, Try.results16, go_sem, r0, r1, r2, r3]) rfl ?_
          exact RLkP.mk HC.out.1 HC.out.2 rfl (HB3.out.trans (hf9.to_below (fun k _ h1 h2 => by omega) HB3.out.size))
        · rw [if_neg h16] at hC
          have t16 : decide (16 ≤ (t.length : Int)) = false := decide_eq_false (by omega)
          have hno : ∀ j (hj : j < its.length), ¬ (its[j].id = id ∧ its[j].seq = seq) := fun j hj e => by
            obtain ⟨s, g1, -, -⟩ := HR.out.find (List.getElem_mem hj)
            rw [e.1, hf] at g1; cases g1
          have HNO := Lib.hid hno
          have HC := Lib.hid hC
          clear hC h16 hno
          have t0 : w3.cell? ⟨w.heap.size, 0, none⟩ = some (.slice A its.length c) := HX3.out.cell 0
          go_wp2_with fail
          go_loop [9] (fun iv => LsRel its id seq iv) (fun iv => its.length - (RowKit.intOf iv).toNat)
          case atStart => exact ⟨0, Nat.zero_le _, rfl, fun j _ hj => absurd hj (Nat.not_lt_zero _)⟩
          case round =>
            obtain ⟨i, hi, rfl, hnot⟩ := hrel
            by_cases hlt : i < its.length
            · obtain ⟨x, hx⟩ : ∃ z, z = its[i] := ⟨_, rfl⟩
              obtain ⟨b, o, hAA, -, hc⟩ := HS3.out.at hlt
              rw [← hx] at hc
              have c0 : w3.cell? ⟨b, o + i * 4, none⟩ = some (.int .i64 x.id) := hc 0 (by decide)
              have c1 : w3.cell? ⟨b, o + i * 4 + 1, none⟩ = some (.int .i64 x.seq) := hc 1 (by decide)
              have c2 : w3.cell? ⟨b, o + i * 4 + 2, none⟩ = some (.int .i64 x.code) := hc 2 (by decide)
              have c3 : w3.cell? ⟨b, o + i * 4 + 3, none⟩ = some (.int .i64 x.num) := hc 3 (by decide)
              rw [hAA] at t0
              have hk0 : (0 : Int) ≤ (i : Int) := by omega
              have hk1 : (i : Int) < (its.length : Int) := by omega
              have HLT := Lib.hid hlt
              have hst : ∀ (_ : ¬ (x.id = id ∧ x.seq = seq)), Hid (∀ j (hj : j < its.length), j < i + 1 → ¬ (its[j].id = id ∧ its[j].seq = seq)) := fun hn j hj hji => by
                rcases Nat.lt_or_eq_of_le (Nat.le_of_lt_succ hji) with h5 | rfl
                · exact hnot j hj h5
                · rw [← hx]; exact hn
              have HX9 := Lib.hid hx
              have HAA := Lib.hid hAA
              clear hc hx hnot hAA
              by_cases e1 : x.id = id
              · have u1 : (x.id == id) = true := by rw [beq_iff_eq]; exact e1
                by_cases e2 : x.seq = seq
                · have u2 : (x.seq == seq) = true := by rw [beq_iff_eq]; exact e2
                  exact absurd (show its[i].id = id ∧ its[i].seq = seq from ⟨(congrArg RI.id HX9.out).symm.trans e1, (congrArg RI.seq HX9.out).symm.trans e2⟩) (HNO.out i hlt)
                · have u2 : (x.seq == seq) = false := by rw [beq_eq_false_iff_ne]; exact e2
                  have HST := Lib.hid (hst (fun h => e2 h.2))
                  clear e1 e2 hst
                  go_wp2_with fail
                  go_round
                  case rel => exact ⟨i + 1, HLT.out, by go_num, HST.out⟩
                  case measure => simp [RowKit.intOf]; have := HLT.out; omega
              · have u1 : (x.id == id) = false := by rw [beq_eq_false_iff_ne]; exact e1
                have HST := Lib.hid (hst (fun h => e1 h.1))
                clear e1 hst
                go_wp2_with fail
                go_round
                case rel => exact ⟨i + 1, HLT.out, by go_num, HST.out⟩
                case measure => simp [RowKit.intOf]; have := HLT.out; omega
            · have hie : i = its.length := by omega
              subst hie
              clear hnot
              have q0 := HY3.out.free 0
              have q1 := HY3.out.free 1
              have q2 := HY3.out.free 2
              have q3 := HY3.out.free 3
              have e0 : w3.cell? ⟨w.heap.size + 1, 0, none⟩ = some (.int .i64 0) := HY3.out.cell 0
              have e1 : w3.cell? ⟨w.heap.size + 1, 1, none⟩ = some (.int .i64 0) := HY3.out.cell 1
              have e2 : w3.cell? ⟨w.heap.size + 1, 2, none⟩ = some (.int .i64 0) := HY3.out.cell 2
              have e3 : w3.cell? ⟨w.heap.size + 1, 3, none⟩ = some (.int .i64 0) := HY3.out.cell 3
              go_wp2_with fail
              obtain ⟨W9, hW9⟩ : ∃ z, z = put4 w3 (w.heap.size + 1) (.int .i64 0) (.int .i64 0) (.int .i64 0) (.int .i64 0) := ⟨_, rfl⟩
              have hx9 : Blk W9 (w.heap.size + 1) 46 #[.int .i64 0, .int .i64 0, .int .i64 0, .int .i64 0] := by rw [hW9]; exact put4_blk HY3.out
              have hf9 : Frm (fun g => g = w.heap.size + 1) w3 W9 := by rw [hW9]; exact put4_frm _ _ _ _ _ _
              unfold put4 at hW9
              rw [← hW9]
              have r0 := hx9.cell 0
              have r1 := hx9.cell 1
              have r2 := hx9.cell 2
              have r3 := hx9.cell 3
              refine bodyPost_ret (v := .tuple #[.agg #[.int .i64 0, .int .i64 0, .int .i64 0, .int .i64 0], .int .i64 0]) (by simp [results, Try.results16, go_sem, r0, r1, r2, r3]) rfl ?_
              exact RLkP.mk HC.out.1 HC.out.2 rfl (HB3.out.trans (hf9.to_below (fun k _ h1 h2 => by omega) HB3.out.size))
      | some s =>
        have hC := look_some hnn hf
        have hsn : h = s.high := by rw [hh]; unfold highT; rw [hf]
        have hos := HR.out.ok.each s (findS_some hf).1
        have hh1 : 1 ≤ h := by rw [hsn]; exact hos.low
        have hh2 : h ≤ 1099511627776 := by rw [hsn]; exact hos.top
        rw [← hsn] at hC
        obtain ⟨h8, hh8⟩ : ∃ z, z = h - 8 := ⟨_, rfl⟩
        have e8 : IntKind.i64.wrap (h - 8) = h8 := by rw [IntKind.wrap_i64]; omega
        have th : (h == 0) = false := by rw [beq_eq_false_iff_ne]; omega
        have th2 : decide (0 < h) = true := decide_eq_true (by omega)
        rw [← hh8] at hC
        have HHE := Lib.hid hh8
        have HRI := Lib.hid (HR.out.itAt (seq := seq) hf)
        clear hh hsn hos hh2 hh8
        by_cases hle : seq ≤ h8
        · rw [if_pos hle, if_pos hle] at hC
          have tle : decide (seq ≤ h8) = true := decide_eq_true hle
          have HC := Lib.hid hC
          clear hC hle hh1
          go_enter Try.func16, Try.ntmps16
          go_upto_region 1 with fail
          rw [← HW1.out]
          clear HW1
          go_wp2_with fail
          (with_reducible refine (HNI.out _).mono ?_); rintro e w2 ⟨rfl, rfl⟩
          go_wp2_with fail
          (with_reducible refine (HNS.out _).mono ?_); rintro e w2 ⟨rfl, rfl⟩
          go_wp2_with fail
          (with_reducible refine HHI.out.mono ?_); rintro e w2 ⟨rfl, hb2⟩
          have HB2 : Hid (Below w.heap.size w w2) := Lib.hid (HB1.out.trans (hb2.mono HB1.out.size))
          have HY2 := Lib.hid (HY1.out.below hb2 HY1.out.lt)
          clear hb2 t0 HHI HX1 HY1 HB1
          have q0 := HY2.out.free 0
          have q1 := HY2.out.free 1
          have q2 := HY2.out.free 2
          have q3 := HY2.out.free 3
          have e0 : w2.cell? ⟨w.heap.size + 1, 0, none⟩ = some (.int .i64 0) := HY2.out.cell 0
          have e1 : w2.cell? ⟨w.heap.size + 1, 1, none⟩ = some (.int .i64 0) := HY2.out.cell 1
          have e2 : w2.cell? ⟨w.heap.size + 1, 2, none⟩ = some (.int .i64 0) := HY2.out.cell 2
          have e3 : w2.cell? ⟨w.heap.size + 1, 3, none⟩ = some (.int .i64 0) := HY2.out.cell 3
          go_wp2_with fail
          obtain ⟨W9, hW9⟩ : ∃ z, z = put4 w2 (w.heap.size + 1) (.int .i64 0) (.int .i64 0) (.int .i64 0) (.int .i64 0) := ⟨_, rfl⟩
          have hx9 : Blk W9 (w.heap.size + 1) 46 #[.int .i64 0, .int .i64 0, .int .i64 0, .int .i64 0] := by rw [hW9]; exact put4_blk HY2.out
          have hf9 : Frm (fun g => g = w.heap.size + 1) w2 W9 := by rw [hW9]; exact put4_frm _ _ _ _ _ _
          unfold put4 at hW9
          rw [← hW9]
          have r0 := hx9.cell 0
          have r1 := hx9.cell 1
          have r2 := hx9.cell 2
          have r3 := hx9.cell 3
          refine bodyPost_ret (v := .tuple #[.agg #[.int .i64 0, .int .i64 0, .int .i64 0, .int .i64 0], .int .i64 130]) (by simp [results, Try.results16, go_sem, r0, r1, r2, r3]) rfl ?_
          exact RLkP.mk HC.out.1 HC.out.2 rfl (HB2.out.trans (hf9.to_below (fun k _ h1 h2 => by omega) HB2.out.size))
        · rw [if_neg hle, if_neg hle] at hC
          have tle : decide (seq ≤ h8) = false := decide_eq_false hle
          have HC := Lib.hid hC
          clear hC hle hh1
          go_enter Try.func16, Try.ntmps16
          go_upto_region 1 with fail
          rw [← HW1.out]
          clear HW1
          go_wp2_with fail
          (with_reducible refine (HNI.out _).mono ?_); rintro e w2 ⟨rfl, rfl⟩
          go_wp2_with fail
          (with_reducible refine (HNS.out _).mono ?_); rintro e w2 ⟨rfl, rfl⟩
          go_wp2_with fail
          (with_reducible refine HHI.out.mono ?_); rintro e w3 ⟨rfl, hb2⟩
          have HB3 : Hid (Below w.heap.size w w3) := Lib.hid (HB1.out.trans (hb2.mono HB1.out.size))
          have HX3 := Lib.hid (HX1.out.below hb2 HX1.out.lt)
          have HY3 := Lib.hid (HY1.out.below hb2 HY1.out.lt)
          have HS3 := Lib.hid (HS.out.below hb2)
          clear hb2 t0 HHI HX1 HY1 HB1
          have t0 : w3.cell? ⟨w.heap.size, 0, none⟩ = some (.slice A its.length c) := HX3.out.cell 0
          go_wp2_with fail
          go_loop [9] (fun iv => LsRel its id seq iv) (fun iv => its.length - (RowKit.intOf iv).toNat)
          case atStart => exact ⟨0, Nat.zero_le _, rfl, fun j _ hj => absurd hj (Nat.not_lt_zero _)⟩
          case round =>
            obtain ⟨i, hi, rfl, hnot⟩ := hrel
            by_cases hlt : i < its.length
            · obtain ⟨x, hx⟩ : ∃ z, z = its[i] := ⟨_, rfl⟩
              obtain ⟨b, o, hAA, -, hc⟩ := HS3.out.at hlt
              rw [← hx] at hc
              have c0 : w3.cell? ⟨b, o + i * 4, none⟩ = some (.int .i64 x.id) := hc 0 (by decide)
              have c1 : w3.cell? ⟨b, o + i * 4 + 1, none⟩ = some (.int .i64 x.seq) := hc 1 (by decide)
              have c2 : w3.cell? ⟨b, o + i * 4 + 2, none⟩ = some (.int .i64 x.code) := hc 2 (by decide)
              have c3 : w3.cell? ⟨b, o + i * 4 + 3, none⟩ = some (.int .i64 x.num) := hc 3 (by decide)
              rw [hAA] at t0
              have hk0 : (0 : Int) ≤ (i : Int) := by omega
              have hk1 : (i : Int) < (its.length : Int) := by omega
              have HLT := Lib.hid hlt
              have hst : ∀ (_ : ¬ (x.id = id ∧ x.seq = seq)), Hid (∀ j (hj : j < its.length), j < i + 1 → ¬ (its[j].id = id ∧ its[j].seq = seq)) := fun hn j hj hji => by
                rcases Nat.lt_or_eq_of_le (Nat.le_of_lt_succ hji) with h5 | rfl
                · exact hnot j hj h5
                · rw [← hx]; exact hn
              have HX9 := Lib.hid hx
              have HAA := Lib.hid hAA
              clear hc hx hnot hAA
              by_cases e1 : x.id = id
              · have u1 : (x.id == id) = true := by rw [beq_iff_eq]; exact e1
                by_cases e2 : x.seq = seq
                · have u2 : (x.seq == seq) = true := by rw [beq_iff_eq]; exact e2
                  have hit := HRI.out.1 x (by rw [HX9.out]; exact List.getElem_mem _) e1 e2
                  have HC2 : Hid (lookC t id seq = 5 ∧ lookI t id seq = (x.code, x.num)) := Lib.hid (by
                    have := HC.out
                    rw [hit] at this
                    exact this)
                  clear hit e1 e2 hst
                  have q0 := HY3.out.free 0
                  have q1 := HY3.out.free 1
                  have q2 := HY3.out.free 2
                  have q3 := HY3.out.free 3
                  have e0 : w3.cell? ⟨w.heap.size + 1, 0, none⟩ = some (.int .i64 0) := HY3.out.cell 0
                  have e1 : w3.cell? ⟨w.heap.size + 1, 1, none⟩ = some (.int .i64 0) := HY3.out.cell 1
                  have e2 : w3.cell? ⟨w.heap.size + 1, 2, none⟩ = some (.int .i64 0) := HY3.out.cell 2
                  have e3 : w3.cell? ⟨w.heap.size + 1, 3, none⟩ = some (.int .i64 0) := HY3.out.cell 3
                  go_wp2_with fail
                  obtain ⟨W9, hW9⟩ : ∃ z, z = put4 w3 (w.heap.size + 1) (.int .i64 x.id) (.int .i64 x.seq) (.int .i64 x.code) (.int .i64 x.num) := ⟨_, rfl⟩
                  have hx9 : Blk W9 (w.heap.size + 1) 46 #[.int .i64 x.id, .int .i64 x.seq, .int .i64 x.code, .int .i64 x.num] := by rw [hW9]; exact put4_blk HY3.out
                  have hf9 : Frm (fun g => g = w.heap.size + 1) w3 W9 := by rw [hW9]; exact put4_frm _ _ _ _ _ _
                  unfold put4 at hW9
                  rw [← hW9]
                  have r0 := hx9.cell 0
                  have r1 := hx9.cell 1
                  have r2 := hx9.cell 2
                  have r3 := hx9.cell 3
                  refine bodyPost_ret (v := .tuple #[.agg #[.int .i64 x.id, .int .i64 x.seq, .int .i64 x.code, .int .i64 x.num], .int .i64 5]) (by simp [results, Try.results16, go_sem, r0, r1, r2, r3]) rfl ?_
                  exact RLkP.mk HC2.out.1 HC2.out.2 rfl (HB3.out.trans (hf9.to_below (fun k _ h1 h2 => by omega) HB3.out.size))
                · have u2 : (x.seq == seq) = false := by rw [beq_eq_false_iff_ne]; exact e2
                  have HST := Lib.hid (hst (fun h => e2 h.2))
                  clear e1 e2 hst
                  go_wp2_with fail
                  go_round
                  case rel => exact ⟨i + 1, HLT.out, by go_num, HST.out⟩
                  case measure => simp [RowKit.intOf]; have := HLT.out; omega
              · have u1 : (x.id == id) = false := by rw [beq_eq_false_iff_ne]; exact e1
                have HST := Lib.hid (hst (fun h => e1 h.1))
                clear e1 hst
                go_wp2_with fail
                go_round
                case rel => exact ⟨i + 1, HLT.out, by go_num, HST.out⟩
                case measure => simp [RowKit.intOf]; have := HLT.out; omega
            · have hie : i = its.length := by omega
              subst hie
              have hit := HRI.out.2 (fun x hx => by
                obtain ⟨j, hj, rfl⟩ := List.getElem_of_mem hx
                exact hnot j hj hj)
              have HC2 : Hid (lookC t id seq = 0 ∧ lookI t id seq = (0, 0)) := Lib.hid (by
                have := HC.out
                rw [hit] at this
                exact this)
              clear hit hnot
              have q0 := HY3.out.free 0
              have q1 := HY3.out.free 1
              have q2 := HY3.out.free 2
              have q3 := HY3.out.free 3
              have e0 : w3.cell? ⟨w.heap.size + 1, 0, none⟩ = some (.int .i64 0) := HY3.out.cell 0
              have e1 : w3.cell? ⟨w.heap.size + 1, 1, none⟩ = some (.int .i64 0) := HY3.out.cell 1
              have e2 : w3.cell? ⟨w.heap.size + 1, 2, none⟩ = some (.int .i64 0) := HY3.out.cell 2
              have e3 : w3.cell? ⟨w.heap.size + 1, 3, none⟩ = some (.int .i64 0) := HY3.out.cell 3
              go_wp2_with fail
              obtain ⟨W9, hW9⟩ : ∃ z, z = put4 w3 (w.heap.size + 1) (.int .i64 0) (.int .i64 0) (.int .i64 0) (.int .i64 0) := ⟨_, rfl⟩
              have hx9 : Blk W9 (w.heap.size + 1) 46 #[.int .i64 0, .int .i64 0, .int .i64 0, .int .i64 0] := by rw [hW9]; exact put4_blk HY3.out
              have hf9 : Frm (fun g => g = w.heap.size + 1) w3 W9 := by rw [hW9]; exact put4_frm _ _ _ _ _ _
              unfold put4 at hW9
              rw [← hW9]
              have r0 := hx9.cell 0
              have r1 := hx9.cell 1
              have r2 := hx9.cell 2
              have r3 := hx9.cell 3
              refine bodyPost_ret (v := .tuple #[.agg #[.int .i64 0, .int .i64 0, .int .i64 0, .int .i64 0], .int .i64 0]) (by simp [results, Try.results16, go_sem, r0, r1, r2, r3]) rfl ?_
              exact RLkP.mk HC2.out.1 HC2.out.2 rfl (HB3.out.trans (hf9.to_below (fun k _ h1 h2 => by omega) HB3.out.size))
end Go.Proofs.Ytakebmbdcjbbgaa
