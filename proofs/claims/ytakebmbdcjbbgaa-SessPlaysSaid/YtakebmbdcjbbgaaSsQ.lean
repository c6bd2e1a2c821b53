/- Layer 13: Put where nothing changes. -/
import Derived.Test.YtakebmbdcjbbgaaSsP
import Derived.Test.YtakebmbdcjbbgaaSsK
import Derived.Test.YtakebmbdcjbbgaaSsD
import Derived.Test.YtakebmbdcjbbgaaSsI
namespace Go.Proofs.Ytakebmbdcjbbgaa
open Go Go.RowKit Go.Maps Go.Lib Mem Ss

/-- a table's blocks -/
def Foot (p mb : Nat) (rs : List Rec) (g : Nat) : Prop := g = p ∨ g = mb ∨ ∃ r ∈ rs, g = r.sb ∨ r.row.ownBlock = some g
/-- behind a Put: the table's own blocks alone are written; what it has more is new -/
def PutP (base p mb : Nat) (rs : List Rec) (r : Tb × Int) (w : World) (e : Ending) (w' : World) : Prop :=
  e = .returned (.int .i64 r.2) ∧ ∃ rs', TRep base w' p r.1 mb rs' ∧ Frm (Foot p mb rs) w w' ∧ ∀ g, Foot p mb rs' g → Foot p mb rs g ∨ w.heap.size ≤ g
theorem PutP.of {base p mb : Nat} {rs : List Rec} {t : Tb} {k : Int} {w : World} {e : Ending} {w' : World} {r : Tb × Int} (hr : r = (t, k)) (h : TRep base w p t mb rs) (he : e = .returned (.int .i64 k)) (hb : Below w.heap.size w w') : PutP base p mb rs r w e w' := by
  subst hr
  exact ⟨he, rs, h.below hb, Frm.below hb, fun g hg => .inl hg⟩
theorem TabAt.base {base p : Nat} {w : World} {t : Tb} (h : TabAt base w p t) : base ≤ w.heap.size := by
  obtain ⟨mb, rs, h⟩ := h
  have := h.inP; have := h.blk.lt; omega
set_option maxRecDepth 100000 in
set_option maxHeartbeats 2000000 in
theorem Put_no {base : Nat} {w : World} {p mb : Nat} {t : Tb} {rs : List Rec} (h : TRep base w p t mb rs) (id seq c n : Int) (hid : (Lit.int .i64 id).wf = true) (h0 : lookC t id seq ≠ 0) :
    Calls Try.prog 11 #[.pointer (some ⟨p, 0, none⟩), .int .i64 id, .int .i64 seq, .agg #[.int .i64 c, .int .i64 n]] w (PutP base p mb rs (putT t id seq c n) w) := by
  have hput : putT t id seq c n = (t, lookC t id seq) := by unfold putT; rw [if_pos h0]
  obtain ⟨w1, hw1⟩ : ∃ z, z = w.alloc (.cells #[.int .i64 c, .int .i64 n] 25) := ⟨_, rfl⟩
  have hb1 : Below w.heap.size w w1 := by rw [hw1]; exact (Below.refl _ _).alloc (Nat.le_refl _) _
  have hlk := Look_any ⟨mb, rs, h.below hb1⟩ id seq hid
  unfold LkP at hlk
  obtain ⟨lc, hlc⟩ : ∃ z, z = lookC t id seq := ⟨_, rfl⟩
  obtain ⟨la, hla⟩ : ∃ z, z = (lookI t id seq).1 := ⟨_, rfl⟩
  obtain ⟨lb, hlb⟩ : ∃ z, z = (lookI t id seq).2 := ⟨_, rfl⟩
  rw [← hla, ← hlb, ← hlc] at hlk
  rw [← hlc] at h0 hput
  have HLK := Lib.hid hlk; clear hlk
  have HPUT := Lib.hid hput; clear hput
  have H := Lib.hid h; clear h
  have HB1 := Lib.hid hb1; clear hb1
  have HW1 := Lib.hid hw1; clear hw1
  have t1 : (lc == 0) = false := by rw [beq_eq_false_iff_ne]; exact h0
  have t2 : (lc != 0) = true := by rw [bne_iff_ne]; exact h0
  clear h0 hla hlb hlc
  go_enter Try.func11, Try.ntmps11
  go_upto_region 1 with fail
  rw [← HW1.out]
  clear HW1
  go_wp2_with fail
  (with_reducible refine HLK.out.mono ?_); rintro e w2 ⟨rfl, hb2⟩
  have HB2 : Hid (Below w.heap.size w w2) := Lib.hid (HB1.out.trans (hb2.mono HB1.out.size))
  clear hb2 HLK
  go_wp2_with fail
  go_ret
  exact PutP.of HPUT.out H.out rfl (HB2.out.alloc HB2.out.size _)
set_option maxRecDepth 100000 in
set_option maxHeartbeats 2000000 in
theorem Put_bad {base : Nat} {w : World} {p mb : Nat} {t : Tb} {rs : List Rec} (h : TRep base w p t mb rs) (id seq c n : Int) (hid : (Lit.int .i64 id).wf = true) (h0 : lookC t id seq = 0) (hv : vdOk c n = false) :
    Calls Try.prog 11 #[.pointer (some ⟨p, 0, none⟩), .int .i64 id, .int .i64 seq, .agg #[.int .i64 c, .int .i64 n]] w (PutP base p mb rs (putT t id seq c n) w) := by
  have hput : putT t id seq c n = (t, 1) := by unfold putT; rw [if_neg (by omega), if_neg (by rw [hv]; decide)]
  obtain ⟨w1, hw1⟩ : ∃ z, z = w.alloc (.cells #[.int .i64 c, .int .i64 n] 25) := ⟨_, rfl⟩
  have hb1 : Below w.heap.size w w1 := by rw [hw1]; exact (Below.refl _ _).alloc (Nat.le_refl _) _
  have hx1 : Blk w1 w.heap.size 25 #[.int .i64 c, .int .i64 n] := by rw [hw1]; exact Blk.new_ w _ _
  have hlk := Look_any ⟨mb, rs, h.below hb1⟩ id seq hid
  unfold LkP at hlk
  obtain ⟨la, hla⟩ : ∃ z, z = (lookI t id seq).1 := ⟨_, rfl⟩
  obtain ⟨lb, hlb⟩ : ∃ z, z = (lookI t id seq).2 := ⟨_, rfl⟩
  rw [← hla, ← hlb, h0] at hlk
  have HLK := Lib.hid hlk; clear hlk
  have HPUT := Lib.hid hput; clear hput
  have H := Lib.hid h; clear h
  have HB1 := Lib.hid hb1; clear hb1
  have HX1 := Lib.hid hx1; clear hx1
  have HW1 := Lib.hid hw1; clear hw1
  clear h0 hla hlb
  obtain ⟨a1, ha1⟩ : ∃ z, z = decide (c < 0) := ⟨_, rfl⟩
  obtain ⟨a2, ha2⟩ : ∃ z, z = decide (999 < c) := ⟨_, rfl⟩
  obtain ⟨a3, ha3⟩ : ∃ z, z = decide (n < 0) := ⟨_, rfl⟩
  obtain ⟨a4, ha4⟩ : ∃ z, z = decide (1099511627776 < n) := ⟨_, rfl⟩
  have hor : (a1 || (a2 || (a3 || a4))) = true := by
    rw [ha1, ha2, ha3, ha4]
    have hv' : ¬ ((0 ≤ c ∧ c ≤ 999) ∧ 0 ≤ n ∧ n ≤ 1099511627776) := fun h => by rw [vdOk_iff.2 h] at hv; cases hv
    simp only [Bool.or_eq_true, decide_eq_true_eq]; omega
  clear hv
  have t1 := ha1.symm
  have t2 := ha2.symm
  have t3 := ha3.symm
  have t4 := ha4.symm
  clear ha1 ha2 ha3 ha4
  have HCELL : Hid (∀ {w2 : World}, Below w1.heap.size w1 w2 → w2.cell? ⟨w.heap.size, 0, none⟩ = some (.int .i64 c) ∧ w2.cell? ⟨w.heap.size, 1, none⟩ = some (.int .i64 n)) := Lib.hid fun hb => ⟨(HX1.out.below hb HX1.out.lt).cell 0, (HX1.out.below hb HX1.out.lt).cell 1⟩
  cases a1 <;> cases a2 <;> cases a3 <;> cases a4 <;> simp only [Bool.or_true, Bool.true_or, Bool.or_false, Bool.false_or, Bool.false_eq_true] at hor <;> clear hor <;>
  · go_enter Try.func11, Try.ntmps11
    go_upto_region 1 with fail
    rw [← HW1.out]
    clear HW1
    go_wp2_with fail
    (with_reducible refine HLK.out.mono ?_); rintro e w2 ⟨rfl, hb2⟩
    obtain ⟨c0, c1⟩ := HCELL.out hb2
    have d0 := fun o : Obj => Lib.cell?_alloc_some o c0
    have d1 := fun o : Obj => Lib.cell?_alloc_some o c1
    clear c0 c1
    have HB2 : Hid (Below w.heap.size w w2) := Lib.hid (HB1.out.trans (hb2.mono HB1.out.size))
    clear hb2 HLK
    go_wp2_with fail
    go_ret
    exact PutP.of HPUT.out H.out rfl (HB2.out.alloc HB2.out.size _)
end Go.Proofs.Ytakebmbdcjbbgaa
