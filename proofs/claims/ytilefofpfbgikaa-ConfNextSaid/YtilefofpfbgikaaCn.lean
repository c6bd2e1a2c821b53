/- Layer 15: ConfNext: the walk. -/
import Derived.Test.YtilefofpfbgikaaCa
import Derived.Test.YtilefofpfbgikaaRn
import Derived.Test.YtilefofpfbgikaaNxL
import Derived.Test.YtilefofpfbgikaaOpenC
namespace Go.Proofs.Ytilefofpfbgikaa
open Go Go.RowKit Go.Maps Go.Lib Mem Pk Cf

theorem wpList_appendX {P : Program} {α : Type} {f : α → Value} {ops : Array Oper} {rest : List Oper} {o : Oper} {a : Act} {Q : Exit → Act → World → Prop} {w : World} (hgd : o.guard = none) (s x : Operand) (t : TypeId)
    (ho : o.op = .call { callee := .builtin .append, args := #[s, x], argTypes := #[t, t] })
    {base : Nat} {e : TypeId} {z : Value} {bytes : Nat} (ht : SliceT P t e z bytes)
    {v : Value} {xs : List α} (hs : a.eval s = v) (hown : Own f base e w v xs)
    {B : Option Addr} {d : Nat} {ys : List α} (hx : a.eval x = .slice B ys.length d) (hys : Sl f w B ys) (h1 : ∀ u, (f u).oneCell' = true)
    (h63 : xs.length + ys.length ≤ maxLen) (hbytes : (xs.length + ys.length) * bytes ≤ 140737488355328) (hbase : base ≤ w.heap.size)
    (h : ∀ v' w', Own f base e w' v' (xs ++ ys) → Below base w w' → wpList P ops Q rest (a.put o.dst v') w') : wpList P ops Q (o :: rest) a w := by
  obtain ⟨v', w', hr, h2, h3⟩ := run_appendX (P := P) (t := t) (ty := o.type) ht hown (d := d) hys h1 h63 hbytes hbase
  exact wpList_append_run w hgd s x t t ho v _ hs hx v' w' hr (h v' w' h2 h3)
theorem Mem.Own.neBlk {α : Type} {f : α → Value} {base : Nat} {e t : TypeId} {w : World} {g g' n c : Nat} {xs : List α} {cs : Array Value} (h : Own f base e w (.slice (some ⟨g, 0, none⟩) n c) xs) (hb : Blk w g' t cs) (hne : t ≠ e) : g' ≠ g := by
  rintro rfl
  rcases h.2 with ⟨hv, _⟩ | ⟨g2, cap, cur, hv, _, hh, _⟩
  · cases hv
  · injection hv with a; injection a with a; injection a with a
    subst a
    unfold Blk at hb
    rw [hb] at hh
    injection hh with hh; injection hh with _ h2
    exact hne h2
/-- the loop that overwrites -/
def CnRel (A' : Option Addr) (n c' db : Nat) (x y : Value) (w5 : World) (iv : Value) (wr : World) : Prop :=
  ∃ (k : Nat) (ys : List Int), k ≤ n ∧ ys.length = n ∧ iv = .int .i64 (k : Int) ∧ Own fI w5.heap.size 3 wr (.slice A' n c') ys ∧ Blk wr db 24 #[x, y] ∧ Below w5.heap.size w5 wr
set_option maxRecDepth 100000 in
set_option maxHeartbeats 4000000 in
theorem confNext_go {w : World} (A : Option Addr) (c : Nat) (vs : List Int) (hA : IntsIn w A c vs) (B : Option Addr) (d : Nat) (ls : List Int) (hB : IntsIn w B d ls) (kind n : Int) :
    Calls Try.prog 6 #[.agg #[.slice A vs.length c, .slice B ls.length d], .int .i64 kind, .int .i64 n] w fun e w' => e = .returned (.bool true) ∧ Below w.heap.size w w' := by
  have H : Hid (CI w A vs B ls) := Lib.hid ⟨hA.sl, hB.sl⟩
  have hroom := hA.room
  unfold Room at hroom
  have H63 : Hid (([] : List Int).length + vs.length ≤ maxLen) := by show _ ≤ _; unfold maxLen; rw [List.length_nil]; omega
  have HBY : Hid ((([] : List Int).length + vs.length) * 8 ≤ 140737488355328) := by show _ ≤ _; rw [List.length_nil]; omega
  clear hA hB hroom
  obtain ⟨res, hres⟩ : ∃ r, r = nextR vs ls kind n := ⟨_, rfl⟩
  have HRES := Lib.hid hres; clear hres
  go_enter Try.func6, Try.ntmps6
  go_upto_region 1 with fail
  obtain ⟨w1, hw1⟩ : ∃ x, x = w.alloc (.cells #[.slice A vs.length c, .slice B ls.length d] 24) := ⟨_, rfl⟩
  rw [← hw1]
  have hb1 : Below w.heap.size w w1 := by rw [hw1]; exact (Below.refl _ _).alloc (Nat.le_refl _) _
  have hx1 : Blk w1 w.heap.size 24 #[.slice A vs.length c, .slice B ls.length d] := by rw [hw1]; exact Blk.new_ w _ _
  have H1 := Lib.hid (H.out.below hb1)
  have HB1 := Lib.hid hb1
  have HX1 := Lib.hid hx1
  clear hw1 hb1 hx1 H
  go_wp2_with fail
  (with_reducible refine (alive_any _).mono ?_); rintro e wa ⟨rfl, hba⟩
  have Ha := Lib.hid (H1.out.below hba)
  have HBa : Hid (Below w.heap.size w wa) := HB1.out.trans (hba.mono HB1.out.size)
  have HXa := Lib.hid (HX1.out.below hba HX1.out.lt)
  clear hba HX1 HB1 H1
  have d0 : wa.cell? ⟨w.heap.size, 0, none⟩ = some (.slice A vs.length c) := HXa.out.cell 0
  have d1 : wa.cell? ⟨w.heap.size, 1, none⟩ = some (.slice B ls.length d) := HXa.out.cell 1
  have d0a : ∀ o, (wa.alloc o).cell? ⟨w.heap.size, 0, none⟩ = some (.slice A vs.length c) := fun o => (HXa.out.alloc o).cell 0
  go_upto_region 4 with (at_builtin; refine wpList_appendX (f := fI) rfl (.tmp 15) (.tmp 17) 22 rfl intTI rfl (Own.mk_ (w := wa) (Nat.le_refl _)) rfl (Ha.out.v.below ((Below.refl _ _).alloc (Nat.le_refl _) _)) fI_oneI H63.out HBY.out (by simp) ?_; intro v1 w2 hown1 hb2)
  obtain ⟨A', c', rfl⟩ := hown1.form
  rw [List.nil_append] at hown1 ⊢
  have hb2' : Below wa.heap.size wa w2 := ((Below.refl _ _).alloc (Nat.le_refl _) _).trans hb2
  have H2 := Lib.hid (Ha.out.below hb2')
  have HO2 : Hid (Sl fI w2 A' vs) := hown1.sl.2
  have HB2 : Hid (Below w.heap.size w w2) := HBa.out.trans (hb2'.mono HBa.out.size)
  have HX2 := Lib.hid (HXa.out.below hb2' HXa.out.lt)
  clear hb2 hb2' hown1 HXa HBa Ha d0 d1 d0a
  have d0 : w2.cell? ⟨w.heap.size, 0, none⟩ = some (.slice A vs.length c) := HX2.out.cell 0
  have d1 : w2.cell? ⟨w.heap.size, 1, none⟩ = some (.slice B ls.length d) := HX2.out.cell 1
  have hnx := Next_any (c := c) (d := d) H2.out kind n
  rw [← HRES.out] at hnx
  have HNX := Lib.hid hnx; clear hnx
  go_wp2_with fail
  (with_reducible refine HNX.out.mono ?_); rintro e w3 ⟨A3, c3, B3, d3, rfl, ho3, hl3, hb3⟩
  obtain ⟨xs, ys, code⟩ := res
  simp only at ho3 hl3 ⊢
  go_upto_region 5 with fail
  obtain ⟨w4, hw4⟩ : ∃ x, x = w3.alloc (.cells #[.slice A3 xs.length c3, .slice B3 ys.length d3] 24) := ⟨_, rfl⟩
  rw [← hw4]
  have hb4 : Below w3.heap.size w3 w4 := by rw [hw4]; exact (Below.refl _ _).alloc (Nat.le_refl _) _
  have hx4 : Blk w4 w3.heap.size 24 #[.slice A3 xs.length c3, .slice B3 ys.length d3] := by rw [hw4]; exact Blk.new_ w3 _ _
  have hb24 : Below w2.heap.size w2 w4 := hb3.trans (hb4.mono hb3.size)
  have HB24 := Lib.hid hb24
  have HO4 := Lib.hid (ho3.frm (Frm.below hb4) (fun _ _ h => h))
  have HJ4 : Hid (CI w4 A3 xs B3 ys) := Lib.hid ((CI.mk ho3.sl.2 hl3.sl.2).below hb4)
  have HY4 := Lib.hid hx4
  have HX4 := Lib.hid (HX2.out.below hb24 HX2.out.lt)
  have H4 := Lib.hid (H2.out.below hb24)
  clear hw4 hb4 hx4 hb24 ho3 hl3 hb3 d0 d1 HNX
  have d0 : w4.cell? ⟨w.heap.size, 0, none⟩ = some (.slice A vs.length c) := HX4.out.cell 0
  have d1 : w4.cell? ⟨w.heap.size, 1, none⟩ = some (.slice B ls.length d) := HX4.out.cell 1
  have hrn := RNext_any (c := c) (d := d) H4.out kind n
  rw [← next_ref, ← HRES.out] at hrn
  have HRN := Lib.hid hrn; clear hrn
  go_wp2_with fail
  (with_reducible refine HRN.out.mono ?_); rintro e w5 ⟨A5, c5, B5, d5, rfl, ho5, hl5, hb5⟩
  simp only at ho5 hl5 ⊢
  go_upto_region 6 with fail
  obtain ⟨w6, hw6⟩ : ∃ x, x = w5.alloc (.cells #[.slice A5 xs.length c5, .slice B5 ys.length d5] 24) := ⟨_, rfl⟩
  rw [← hw6]
  have hb6 : Below w5.heap.size w5 w6 := by rw [hw6]; exact (Below.refl _ _).alloc (Nat.le_refl _) _
  have hx6 : Blk w6 w5.heap.size 24 #[.slice A5 xs.length c5, .slice B5 ys.length d5] := by rw [hw6]; exact Blk.new_ w5 _ _
  have hb46 : Below w4.heap.size w4 w6 := hb5.trans (hb6.mono hb5.size)
  have HJ6 := Lib.hid (HJ4.out.below hb46)
  have HK6 : Hid (CI w6 A5 xs B5 ys) := Lib.hid ((CI.mk ho5.sl.2 hl5.sl.2).below hb6)
  have HO6 := Lib.hid (HO4.out.frm (Frm.below hb46) (fun _ _ h => h))
  have HB26 : Hid (Below w2.heap.size w2 w6) := HB24.out.trans (hb46.mono HB24.out.size)
  have hy6 := HY4.out.below hb46 HY4.out.lt
  have HY6 := Lib.hid hy6
  have e0 : w6.cell? ⟨w3.heap.size, 0, none⟩ = some (.slice A3 xs.length c3) := hy6.cell 0
  have e1 : w6.cell? ⟨w3.heap.size, 1, none⟩ = some (.slice B3 ys.length d3) := hy6.cell 1
  have f0 : w6.cell? ⟨w5.heap.size, 0, none⟩ = some (.slice A5 xs.length c5) := hx6.cell 0
  have f1 : w6.cell? ⟨w5.heap.size, 1, none⟩ = some (.slice B5 ys.length d5) := hx6.cell 1
  have hsm := RSame_any (c := c3) (d := d3) (c' := c5) (d' := d5) HJ6.out HK6.out
  rw [show (decide (xs = xs) && decide (ys = ys)) = true by simp] at hsm
  have HSM := Lib.hid hsm
  have t0 : (code == code) = true := by simp
  clear hw6 hb6 hx6 hb46 ho5 hl5 hb5 hy6 hsm HRN HY4 HX4 HJ4 HO4 H4 HB24 d0 d1
  go_wp2_with fail
  (with_reducible refine HSM.out.mono ?_); rintro e w7 ⟨rfl, hb7⟩
  have HB27 : Hid (Below w2.heap.size w2 w7) := HB26.out.trans (hb7.mono HB26.out.size)
  have HO7 := Lib.hid (HO6.out.frm (Frm.below hb7) (fun _ _ h => h))
  have HY7 := Lib.hid (HY6.out.below hb7 HY6.out.lt)
  clear hb7 HO6 HY6 HB26 e0 e1 f0 f1 HSM t0
  have e0 : w7.cell? ⟨w3.heap.size, 0, none⟩ = some (.slice A3 xs.length c3) := HY7.out.cell 0
  go_wp2_with fail
  clear e0
  have hxl := HO7.out.sl.2.len
  go_loopw [45] (fun iv wr => CnRel A3 xs.length c3 w3.heap.size (.slice A3 xs.length c3) (.slice B3 ys.length d3) w2 iv wr) (fun iv _ => xs.length - (intOf iv).toNat)
  case atStart => exact ⟨0, xs, Nat.zero_le _, rfl, rfl, HO7.out, HY7.out, HB27.out⟩
  case round =>
    obtain ⟨k, zs, hk, hzl, rfl, hown, hblk, hbw⟩ := hrel
    have e0 : wr.cell? ⟨w3.heap.size, 0, none⟩ = some (.slice A3 xs.length c3) := hblk.cell 0
    have HBW := Lib.hid hbw; clear hbw
    by_cases hlt : k < xs.length
    · obtain ⟨g, hg, hg1, hg2, hc, hfz⟩ := hown.slot (k := k) (by omega)
      subst hg
      have hset := hown.set_ (k := k) (by omega) 77
      have hfr : Frm (fun j => j = g) wr (wr.setCell ⟨g, k, none⟩ (fI 77)) := (Frm.refl (fun j => j = g) wr).setCell (p := ⟨g, k, none⟩) (fun _ => rfl) _
      have HFIN : Hid (CnRel (some ⟨g, 0, none⟩) xs.length c3 w3.heap.size (.slice (some ⟨g, 0, none⟩) xs.length c3) (.slice B3 ys.length d3) w2 (.int .i64 ((k + 1 : Nat) : Int)) (wr.setCell ⟨g, k, none⟩ (.int .i64 77))) :=
        Lib.hid ⟨k + 1, zs.set k 77, by omega, by rw [List.length_set, hzl], rfl, hset, hblk.far (p := ⟨g, k, none⟩) (hown.neBlk hblk (by decide)) _, HBW.out.trans (hfr.to_below (fun j _ h1 h2 => by omega) HBW.out.size)⟩
      have t1 : (k : Int) < (xs.length : Int) := by omega
      have t2 : (0 : Int) ≤ (k : Int) := by omega
      clear hset hfr hown hblk
      go_wp2_with fail
      go_roundw
      case rel =>
        rw [show ((k : Int) + 1) = ((k + 1 : Nat) : Int) by omega]; exact HFIN.out
      case measure => simp [intOf]; omega
    · have t1 : ¬ (k : Int) < (xs.length : Int) := by omega
      have hx := HX2.out.below HBW.out HX2.out.lt
      have d0 : wr.cell? ⟨w.heap.size, 0, none⟩ = some (.slice A vs.length c) := hx.cell 0
      have hsi := SameInts_any A' A c' c vs vs wr (HO2.out.below HBW.out) (H2.out.v.below HBW.out)
      rw [show decide (vs = vs) = true by simp] at hsi
      have HSI := Lib.hid hsi
      have HBF : Hid (Below w.heap.size w wr) := HB2.out.trans (HBW.out.mono HB2.out.size)
      clear hx hsi hown hblk e0
      go_wp2_with fail
      (with_reducible refine HSI.out.mono ?_); rintro e w8 hq
      obtain ⟨rfl, hb8⟩ := Quiet.below hq
      clear hq
      go_wp2_with fail
      go_ret
      exact ⟨ret_bool rfl, HBF.out.trans (hb8.mono HBF.out.size)⟩
theorem confNext_walk {w : World} (A : Option Addr) (c : Nat) (vs : List Int) (hA : IntsIn w A c vs) (B : Option Addr) (d : Nat) (ls : List Int) (hB : IntsIn w B d ls) (kind : Int) (_ : (Lit.int .i64 kind).wf = true) (n : Int) (_ : (Lit.int .i64 n).wf = true) :
    Calls Try.prog 6 #[.agg #[.slice A vs.length c, .slice B ls.length d], .int .i64 kind, .int .i64 n] w fun e w' => e = .returned (.bool true) ∧ Below w.heap.size w w' := confNext_go A c vs hA B d ls hB kind n
end Go.Proofs.Ytilefofpfbgikaa
