/- Layer 8: the document's Bytes: the head. -/
import Derived.Test.YtfpomllhkbbipaaGreatDoorSnI
import Derived.Test.YtfpomllhkbbipaaGreatDoorRj
import Derived.Test.YtfpomllhkbbipaaGreatDoorFrm
import Derived.Deep.RegionHeld3
namespace Go.Proofs.YtfpomllhkbbipaaGreatDoor
open Go Go.RowKit Go.Maps Go.Lib Mem Pk Cf

/-- a row that lies in a block laid since W -/
def Frs (W : World) (v : Value) : Prop := ∀ g, v.ownBlock = some g → W.heap.size ≤ g
theorem frs_of {W w' : World} {v : Value} {ys : List UInt8} (h : Own fB W.heap.size 5 w' v ys) : Frs W v := fun g hg => (h.lt g hg).1
theorem Frs.le {W W' : World} {v : Value} (h : Frs W v) (hl : W'.heap.size ≤ W.heap.size) : Frs W' v := fun g hg => Nat.le_trans hl (h g hg)
theorem Frs.apart {base : Nat} {W : World} {va vb : Value} {xs : List UInt8} (h : Frs W vb) (ha : Own fB base 5 W va xs) : Apart va vb := fun g h1 h2 => by
  have := (ha.lt g h1).2
  have := h g h2
  omega
theorem Mem.Own.frmA {base : Nat} {w w' : World} {va v : Value} {xs : List UInt8} (h : Own fB base 5 w v xs) (hf : Frm (fun g => va.ownBlock = some g) w w') (ha : Apart va v) : Own fB base 5 w' v xs := by
  obtain ⟨h1, h2⟩ := h
  refine ⟨h1, ?_⟩
  rcases h2 with h2 | ⟨g, cap, cur, a, b, hh, c⟩
  · exact .inl h2
  · refine .inr ⟨g, cap, cur, a, b, ?_, c⟩
    have hlt : g < w.heap.size := (Array.getElem?_eq_some_iff.1 hh).1
    rw [hf.block g hlt (fun e => ha g e (by rw [a]; rfl))]
    exact hh
theorem AtOr.apart {base base' : Nat} {w : World} {va v vb : Value} {ys : List UInt8} (h : AtOr w va v) (hap : Apart va vb) (hb : Own fB base' 5 w vb ys) : Apart v vb := fun g h1 h2 => by
  rcases h with h | ⟨g', e, hl⟩
  · exact hap g (by rw [← h]; exact h1) h2
  · rw [h1] at e; injection e with e
    have := (hb.lt g h2).2
    omega
/-- a callee that makes a row -/
def NmP (w1 : World) (ys : List UInt8) (W : World) (e : Ending) (w' : World) : Prop :=
  ∃ v, e = .returned v ∧ Own fB w1.heap.size 5 w' v ys ∧ Frs W v ∧ Below w1.heap.size w1 w' ∧ Below W.heap.size W w'
theorem nmP_of {w1 W : World} {ys : List UInt8} (hb : Below w1.heap.size w1 W) {e : Ending} {w' : World} (h : AppPost W.heap.size ys W e w') : NmP w1 ys W e w' := by
  obtain ⟨v, he, ho, hbb⟩ := h
  refine ⟨v, he, ?_, frs_of ho, hb.trans (hbb.mono hb.size), hbb⟩
  obtain ⟨h1, h2⟩ := ho
  refine ⟨h1, ?_⟩
  rcases h2 with h2 | ⟨g, cap, cur, a, b, c⟩
  · exact .inl h2
  · exact .inr ⟨g, cap, cur, a, Nat.le_trans hb.size b, c⟩
theorem num_p {w1 W : World} {n : Int} (hb : Below w1.heap.size w1 W) (h1 : 0 ≤ n) (h2 : n ≤ 9223372036854775807) : Calls Tryz.prog 73 #[.int .i64 n] W (NmP w1 (numB n) W) := (RNum_pos n h1 h2).mono fun _ _ h => nmP_of hb h
theorem ints_p {w1 W : World} {B : Option Addr} {d : Nat} {ns : List Int} (hb : Below w1.heap.size w1 W) (hs : Sl fI w1 B ns) (hl : ns.length ≤ 1000) (hn : ∀ n ∈ ns, 0 ≤ n ∧ n ≤ 9223372036854775807) : Calls Tryz.prog 74 #[.slice B ns.length d] W (NmP w1 (numsB ((ns.length : Int) :: ns)) W) := (RInts_any (hs.below hb) hl hn).mono fun _ _ h => nmP_of hb h
/-- a join of rows -/
def JnP (w1 : World) (va : Value) (zs : List UInt8) (W : World) (e : Ending) (w' : World) : Prop :=
  ∃ v, e = .returned v ∧ Own fB w1.heap.size 5 w' v zs ∧ AtOr W va v ∧ Frm (fun g => va.ownBlock = some g) W w' ∧ Below w1.heap.size w1 w'
theorem join_p {w1 W : World} {va vb : Value} {xs ys : List UInt8} (hb : Below w1.heap.size w1 W) (h : Own fB w1.heap.size 5 W va xs) (h' : Own fB w1.heap.size 5 W vb ys) (hap : Apart va vb) (hl : xs.length + ys.length ≤ 140737488355000) :
    Calls Tryz.prog 62 #[va, vb] W (JnP w1 va (xs ++ ys) W) :=
  (Join_f h h' hap hb.size hl).mono fun e w' hh => by
    obtain ⟨v, he, ho, hat, hf⟩ := hh
    exact ⟨v, he, ho, hat, hf, hb.trans (hf.to_below (fun k _ h1 h2 => by have := (h.lt k h2).1; omega) hb.size)⟩
/-- the second made behind the first -/
theorem join_a {w1 W W' : World} {va vb : Value} {xs ys : List UInt8} (h : Own fB w1.heap.size 5 W va xs) (hb' : Below W.heap.size W W') (h' : Own fB w1.heap.size 5 W' vb ys) (hf : Frs W vb) (hb : Below w1.heap.size w1 W') (hl : xs.length + ys.length ≤ 140737488355000) :
    Calls Tryz.prog 62 #[va, vb] W' (JnP w1 va (xs ++ ys) W') := join_p hb (h.below hb') h' (hf.apart h) hl
/-- the first made behind the second -/
theorem join_b {w1 W W' : World} {va vb : Value} {xs ys : List UInt8} (h' : Own fB w1.heap.size 5 W vb ys) (hb' : Below W.heap.size W W') (h : Own fB w1.heap.size 5 W' va xs) (hf : Frs W va) (hb : Below w1.heap.size w1 W') (hl : xs.length + ys.length ≤ 140737488355000) :
    Calls Tryz.prog 62 #[va, vb] W' (JnP w1 va (xs ++ ys) W') := join_p hb h (h'.below hb') (hf.apart h').symm hl
theorem held5 {w1 W : World} {g : Nat} {t : TypeId} {a b c d e : Value} (h : Blk w1 g t #[a, b, c, d, e]) (hb : Below w1.heap.size w1 W) : W.cell? ⟨g, 0, none⟩ = some a ∧ W.cell? ⟨g, 1, none⟩ = some b ∧ W.cell? ⟨g, 2, none⟩ = some c ∧ W.cell? ⟨g, 3, none⟩ = some d ∧ W.cell? ⟨g, 4, none⟩ = some e :=
  ⟨(h.below hb h.lt).cell 0, (h.below hb h.lt).cell 1, (h.below hb h.lt).cell 2, (h.below hb h.lt).cell 3, (h.below hb h.lt).cell 4⟩
theorem below_drew0 (w : World) : Below w.heap.size w w.drew := (Below.refl _ _).drew
theorem Own.lowerS {base base' : Nat} {w : World} {v : Value} {xs : List UInt8} (h : Own fB base 5 w v xs) (hb : base' ≤ base) : Own fB base' 5 w v xs := by
  obtain ⟨h1, h2⟩ := h
  refine ⟨h1, ?_⟩
  rcases h2 with h2 | ⟨g, cap, cur, a, b, c⟩
  · exact .inl h2
  · exact .inr ⟨g, cap, cur, a, Nat.le_trans hb b, c⟩
theorem take_min_len {α : Type} (n : Nat) (xs : List α) : xs.take (min n xs.length) = xs.take n := by
  rcases Nat.le_total n xs.length with h | h
  · rw [Nat.min_eq_left h]
  · rw [Nat.min_eq_right h, List.take_length, List.take_of_length_le h]
/-- a piece; the frames of k pieces -/
def piece (ds : List UInt8) (j : Nat) : List UInt8 := (ds.drop (j * 2048)).take 2048
def piecesN (k : Nat) (ds : List UInt8) : List UInt8 := (List.range k).flatMap fun j => frameB (piece ds j)
theorem piecesN_succ (k : Nat) (ds : List UInt8) : piecesN (k + 1) ds = piecesN k ds ++ frameB (piece ds k) := by unfold piecesN; rw [List.range_succ, List.flatMap_append]; simp
theorem piece_len (ds : List UInt8) (j : Nat) : (piece ds j).length ≤ 2048 := by unfold piece; rw [List.length_take]; omega
theorem piecesN_len (k : Nat) (ds : List UInt8) : (piecesN k ds).length ≤ k * 2056 := by
  induction k with
  | zero => simp [piecesN]
  | succ k ih =>
    rw [piecesN_succ, List.length_append, frameB_len]
    have := piece_len ds k
    omega
/-- a snapshot's numbers; its bytes -/
def headN (x t : Int) (vs ls : List Int) (n : Nat) : List UInt8 := ((numB x ++ numB t) ++ numsB ((vs.length : Int) :: vs) ++ numsB ((ls.length : Int) :: ls)) ++ numB (n : Int)
def snB (x t : Int) (vs ls : List Int) (ds : List UInt8) : List UInt8 := frameB (headN x t vs ls ds.length) ++ piecesN ((ds.length + 2047) / 2048) ds
def SnRel (hf : List UInt8) (ds : List UInt8) (w1 : World) (ov iv : Value) (wr : World) : Prop :=
  ∃ k : Nat, k ≤ (ds.length + 2047) / 2048 ∧ iv = .int .i64 ((k * 2048 : Nat) : Int) ∧ Own fB w1.heap.size 5 wr ov (hf ++ piecesN k ds) ∧ Below w1.heap.size w1 wr
set_option maxRecDepth 100000 in
set_option maxHeartbeats 4000000 in
theorem RSnBytes_any {w : World} {x t : Int} {A B D : Option Addr} {a b d : Nat} {vs ls : List Int} {ds : List UInt8} (h : SnIn w A vs B ls D ds) (hdc : ds.length ≤ d) (hx : 0 ≤ x ∧ x ≤ 9223372036854775807) (ht : 0 ≤ t ∧ t ≤ 9223372036854775807)
    (hvl : vs.length ≤ 7) (hll : ls.length ≤ 7) (hv : ∀ n ∈ vs, 0 ≤ n ∧ n ≤ 9223372036854775807) (hl : ∀ n ∈ ls, 0 ≤ n ∧ n ≤ 9223372036854775807) (hds : ds.length ≤ 32768) :
    Calls Tryz.prog 40 #[.agg #[.int .i64 x, .int .i64 t, .slice A vs.length a, .slice B ls.length b, .slice D ds.length d]] w (AppPost w.heap.size (snB x t vs ls ds) w) := by
  have H := Lib.hid h; clear h
  have HX := Lib.hid hx; clear hx
  have HT := Lib.hid ht; clear ht
  have HV := Lib.hid hv; clear hv
  have HL := Lib.hid hl; clear hl
  go_enter Tryz.func40, Tryz.ntmps40
  go_upto_region 1 with fail
  obtain ⟨w1, hw1⟩ : ∃ x', x' = w.alloc (.cells #[.int .i64 x, .int .i64 t, .slice A vs.length a, .slice B ls.length b, .slice D ds.length d] 38) := ⟨_, rfl⟩
  rw [← hw1]
  have hb1 : Below w.heap.size w w1 := by rw [hw1]; exact (Below.refl _ _).alloc (Nat.le_refl _) _
  have hx1 : Blk w1 w.heap.size 38 #[.int .i64 x, .int .i64 t, .slice A vs.length a, .slice B ls.length b, .slice D ds.length d] := by rw [hw1]; exact Blk.new_ w _ _
  have H1 := Lib.hid (H.out.below hb1)
  have HB1 := Lib.hid hb1
  have HX1 := Lib.hid hx1
  clear hw1 hb1 hx1 H
  have hdr := below_drew0 w1
  have HNX : Hid (∀ W, Below w1.heap.size w1 W → Calls Tryz.prog 73 #[.int .i64 x] W (NmP w1 (numB x) W)) := Lib.hid fun W hb => num_p hb HX.out.1 HX.out.2
  have HNT : Hid (∀ W, Below w1.heap.size w1 W → Calls Tryz.prog 73 #[.int .i64 t] W (NmP w1 (numB t) W)) := Lib.hid fun W hb => num_p hb HT.out.1 HT.out.2
  have HLL : Hid ((numB x).length + (numB t).length ≤ 140737488355000) := Lib.hid (by have := (numB_len x).2; have := (numB_len t).2; omega)
  go_cut [3] (fun v wx => Own fB w1.heap.size 5 wx v (numB x ++ numB t) ∧ Below w1.heap.size w1 wx)
  case first =>
    go_region_held3 (fun W => W.cell? ⟨w.heap.size, 0, none⟩ = some (.int .i64 x) ∧ W.cell? ⟨w.heap.size, 1, none⟩ = some (.int .i64 t) ∧ W.cell? ⟨w.heap.size, 2, none⟩ = some (.slice A vs.length a) ∧ W.cell? ⟨w.heap.size, 3, none⟩ = some (.slice B ls.length b) ∧ W.cell? ⟨w.heap.size, 4, none⟩ = some (.slice D ds.length d)) (first | exact held5 HX1.out (by assumption) | exact held5 HX1.out (below_drewN (by assumption) _))
      (first | (go_at_call 73; (with_reducible refine (HNX.out _ ?_).mono ?_); (assumption); rintro e wX ⟨vX, rfl, hoX, hfX, hBX, hbX⟩)
             | (go_at_call 73; (with_reducible refine (HNT.out _ ?_).mono ?_); (assumption); rintro e wT ⟨vT, rfl, hoT, hfT, hBT, hbT⟩)
             | (go_at_call 62; (with_reducible refine (join_a (w1 := w1) hoX hbT hoT hfT hBT HLL.out).mono ?_); rintro e wJ ⟨vJ, rfl, hoJ, -, -, hBJ⟩)
             | (go_at_call 62; (with_reducible refine (join_b (w1 := w1) hoT hbX hoX hfX hBX HLL.out).mono ?_); rintro e wJ ⟨vJ, rfl, hoJ, -, -, hBJ⟩))
    all_goals (go_wp2_with fail; go_meet; exact ⟨hoJ, hBJ⟩)
  case rest =>
    obtain ⟨ho2, hb2⟩ := hcut
    clear HNX HNT HLL hdr
    obtain ⟨hd, hhd⟩ : ∃ z, z = numB x ++ numB t := ⟨_, rfl⟩
    rw [← hhd] at ho2
    have hhl : hd.length ≤ 20 := by rw [hhd, List.length_append]; have := (numB_len x).2; have := (numB_len t).2; omega
    have HHD := Lib.hid hhd; clear hhd
    obtain ⟨iv, hiv⟩ : ∃ z, z = numsB ((vs.length : Int) :: vs) := ⟨_, rfl⟩
    obtain ⟨il, hil⟩ : ∃ z, z = numsB ((ls.length : Int) :: ls) := ⟨_, rfl⟩
    have hivl : iv.length ≤ 80 := by rw [hiv]; have := numsB_len ((vs.length : Int) :: vs); rw [List.length_cons] at this; omega
    have hill : il.length ≤ 80 := by rw [hil]; have := numsB_len ((ls.length : Int) :: ls); rw [List.length_cons] at this; omega
    have HIV : Hid (∀ W, Below w1.heap.size w1 W → Calls Tryz.prog 74 #[.slice A vs.length a] W (NmP w1 iv W)) := Lib.hid fun W hb => by rw [hiv]; exact ints_p hb H1.out.v (by omega) HV.out
    have HIL : Hid (∀ W, Below w1.heap.size w1 W → Calls Tryz.prog 74 #[.slice B ls.length b] W (NmP w1 il W)) := Lib.hid fun W hb => by rw [hil]; exact ints_p hb H1.out.l (by omega) HL.out
    have HL1 : Hid (hd.length + iv.length ≤ 140737488355000) := Lib.hid (by omega)
    have HL2 : Hid ((hd ++ iv).length + il.length ≤ 140737488355000) := Lib.hid (by rw [List.length_append]; omega)
    have HLT : Hid (hd.length ≤ 20 ∧ iv.length ≤ 80 ∧ il.length ≤ 80) := Lib.hid ⟨hhl, hivl, hill⟩
    have HIVE := Lib.hid hiv; clear hiv
    have HILE := Lib.hid hil; clear hil
    have ho2d := Own.drew ho2
    have hb2d : Below w1.heap.size w1 wc.drew := hb2.drew
    clear hhl hivl hill
    go_upto_region 2 with fail
    go_cut [3] (fun v wx => Own fB w1.heap.size 5 wx v ((hd ++ iv) ++ il) ∧ Below w1.heap.size w1 wx)
    case first =>
      go_region_held3 (fun W => W.cell? ⟨w.heap.size, 0, none⟩ = some (.int .i64 x) ∧ W.cell? ⟨w.heap.size, 1, none⟩ = some (.int .i64 t) ∧ W.cell? ⟨w.heap.size, 2, none⟩ = some (.slice A vs.length a) ∧ W.cell? ⟨w.heap.size, 3, none⟩ = some (.slice B ls.length b) ∧ W.cell? ⟨w.heap.size, 4, none⟩ = some (.slice D ds.length d)) (first | exact held5 HX1.out (by assumption) | exact held5 HX1.out (below_drewN (by assumption) _))
        (first | (go_at_call 74; (with_reducible refine (HIV.out _ ?_).mono ?_); (assumption); rintro e wI ⟨vI, rfl, hoI, hfI, hBI, hbI⟩)
               | (go_at_call 74; (with_reducible refine (HIL.out _ ?_).mono ?_); (assumption); rintro e wL ⟨vL, rfl, hoL, hfL, hBL, hbL⟩)
               | (go_at_call 62; (with_reducible refine (join_p (w1 := w1) hBL ((ho2d.below hbI).below hbL) (hoI.below hbL) (hfI.apart ho2d) HL1.out).mono ?_); rintro e wJ ⟨vJ, rfl, hoJ, hatJ, hfJ, hBJ⟩; have hoL2 := hoL.frmA hfJ (hfL.apart (ho2d.below hbI)); have hapL := hatJ.apart (hfL.apart (ho2d.below hbI)) hoL)
               | (go_at_call 62; (with_reducible refine (join_a (w1 := w1) (ho2d.below hbL) hbI hoI hfI hBI HL1.out).mono ?_); rintro e wJ ⟨vJ, rfl, hoJ, hatJ, hfJ, hBJ⟩; have hoL2 := (hoL.below hbI).frmA hfJ (hfL.apart ho2d); have hapL := hatJ.apart (hfL.apart ho2d) (hoL.below hbI))
               | (go_at_call 62; (with_reducible refine (join_a (w1 := w1) ho2d hbI hoI hfI hBI HL1.out).mono ?_); rintro e wJ ⟨vJ, rfl, hoJ, hatJ, hfJ, hBJ⟩)
               | (go_at_call 62; (with_reducible refine (join_p (w1 := w1) hBJ hoJ hoL2 hapL HL2.out).mono ?_); rintro e wK ⟨vK, rfl, hoK, -, -, hBK⟩)
               | (go_at_call 62; (with_reducible refine (join_a (w1 := w1) hoJ hbL hoL hfL hBL HL2.out).mono ?_); rintro e wK ⟨vK, rfl, hoK, -, -, hBK⟩))
      all_goals (go_wp2_with fail; go_meet; exact ⟨hoK, hBK⟩)
    case rest =>
      obtain ⟨ho4, hb4⟩ := hcut
      clear ho2 ho2d hb2 hb2d HL1 HL2 HIV HIL
      have hx4 := HX1.out.below hb4 HX1.out.lt
      have e4 : wc.cell? ⟨w.heap.size, 4, none⟩ = some (.slice D ds.length d) := hx4.cell 4
      have HNL := Lib.hid (num_p (n := (ds.length : Int)) hb4 (by omega) (by omega))
      have HO4 := Lib.hid ho4
      clear hx4 ho4 hb4
      go_wp2_with fail
      (with_reducible refine HNL.out.mono ?_); rintro e w5 ⟨v5, rfl, ho5, hf5, hB5, hb5⟩
      have hll4 : (hd ++ iv ++ il).length + (numB (ds.length : Int)).length ≤ 140737488355000 := by have := HLT.out; have := (numB_len (ds.length : Int)).2; rw [List.length_append, List.length_append]; omega
      have HJ := Lib.hid (join_a (w1 := w1) HO4.out hb5 ho5 hf5 hB5 hll4)
      clear ho5 hf5 hb5 hll4 e4 HNL
      go_wp2_with fail
      (with_reducible refine HJ.out.mono ?_); rintro e w6 ⟨v6, rfl, ho6, -, -, hB6⟩
      obtain ⟨hn, hhn⟩ : ∃ z, z = hd ++ iv ++ il ++ numB (ds.length : Int) := ⟨_, rfl⟩
      rw [← hhn] at ho6
      have hnl : hn.length ≤ 4096 := by have := HLT.out; have := (numB_len (ds.length : Int)).2; rw [hhn, List.length_append, List.length_append, List.length_append]; omega
      obtain ⟨A6, c6, rfl⟩ := ho6.form
      have hfr := RFrame_any (c := c6) ho6.sl.2
      unfold frameR at hfr
      rw [if_pos hnl] at hfr
      obtain ⟨hf, hhf⟩ : ∃ z, z = frameB hn := ⟨_, rfl⟩
      rw [← hhf] at hfr
      have HFR := Lib.hid hfr
      have HHF := Lib.hid hhf
      have HHN := Lib.hid hhn
      have HFL : Hid (hf.length ≤ 5000) := Lib.hid (by rw [hhf, frameB_len]; omega)
      have HB6 := Lib.hid hB6
      clear hhn hnl hfr hhf ho6 hB6 HJ hB5
      go_wp2_with fail
      (with_reducible refine HFR.out.mono ?_); rintro e w7 ⟨A7, c7, rfl, ho7, hb7⟩
      simp only at ho7 ⊢
      have HO7 : Hid (Own fB w1.heap.size 5 w7 (.slice A7 hf.length c7) hf) := Lib.hid (Own.lowerS ho7 HB6.out.size)
      have HB7 : Hid (Below w1.heap.size w1 w7) := Lib.hid (HB6.out.trans (hb7.mono HB6.out.size))
      clear ho7 hb7 HFR HB6
      go_wp2_with fail
      go_loopw [4, 6] (fun ov iv wr => SnRel hf ds w1 ov iv wr) (fun _ iv _ => ds.length + 2048 - (intOf iv).toNat)
      case atStart => exact ⟨0, Nat.zero_le _, rfl, by rw [show piecesN 0 ds = [] from rfl, List.append_nil]; exact HO7.out, HB7.out⟩
      case round =>
        obtain ⟨k, hk, rfl, hown, hbw⟩ := hrel
        have HOWN := Lib.hid hown; clear hown
        have HBW := Lib.hid hbw; clear hbw
        have hx := HX1.out.below HBW.out HX1.out.lt
        have e4 : wr.cell? ⟨w.heap.size, 4, none⟩ = some (.slice D ds.length d) := hx.cell 4
        clear hx
        obtain ⟨i, hi⟩ : ∃ i, i = k * 2048 := ⟨_, rfl⟩
        rw [← hi]
        by_cases hlt : i < ds.length
        · have t1 : (i : Int) < (ds.length : Int) := by omega
          obtain ⟨wo, rfl⟩ : ∃ wo, wo = wr := ⟨_, rfl⟩
          obtain ⟨q, hq⟩ : ∃ q, q = piece ds k := ⟨_, rfl⟩
          obtain ⟨j, hj⟩ : ∃ j, j = i + 2048 := ⟨_, rfl⟩
          have hql : q.length = min 2048 (ds.length - i) := by rw [hq, hi]; unfold piece; rw [List.length_take, List.length_drop]
          have e1 : IntKind.i64.wrap ((i : Int) + 2048) = (j : Int) := by rw [IntKind.wrap_i64]; omega
          obtain ⟨P, hP⟩ : ∃ p, p = partA D d i := ⟨_, rfl⟩
          obtain ⟨c9, hc9⟩ : ∃ p, p = d - i := ⟨_, rfl⟩
          have kk : ∀ (h : Nat), h = i + q.length → ∀ W : World, (Instr.slice 36 (.slice D ds.length d) (some (.int .i64 (i : Int))) (some (.int .i64 (h : Int))) none).run Tryz.prog W = .ok (.slice P q.length c9) W := fun h hh W => by
            have h9 := cut_lh Tryz.underlying36 sizeU8 D ds.length d i h i h rfl rfl (by omega) (by omega) W
            rw [← hP, ← hc9, show h - i = q.length by omega] at h9; exact h9
          have HSQ : Hid (Sl fB wo P q) := Lib.hid (by
            have h9 := (H1.out.d.below HBW.out).part (c := d) (k := i) (m := q.length) (by omega) hdc
            rw [hP]
            have : (ds.drop i).take q.length = q := by rw [hq, hi]; unfold piece; rw [List.length_take, take_min_len]
            rw [this] at h9; exact h9)
          have hfr := RFrame_any (c := c9) HSQ.out
          unfold frameR at hfr
          rw [if_pos (show q.length ≤ 4096 by omega)] at hfr
          obtain ⟨fq, hfq⟩ : ∃ z, z = frameB q := ⟨_, rfl⟩
          rw [← hfq] at hfr
          have HFR := Lib.hid hfr
          have HSUC : Hid (hf ++ piecesN (k + 1) ds = (hf ++ piecesN k ds) ++ fq) := Lib.hid (by rw [piecesN_succ, hfq, hq, List.append_assoc])
          have HLJ : Hid ((hf ++ piecesN k ds).length + fq.length ≤ 140737488355000) := Lib.hid (by
            have h1 := HFL.out
            have h2 := piecesN_len k ds
            rw [List.length_append, hfq, frameB_len]; omega)
          have HI := Lib.hid hi
          have HQL := Lib.hid hql
          have HJJ := Lib.hid hj
          have HK2 : Hid (k + 1 ≤ (ds.length + 2047) / 2048) := Lib.hid (by omega)
          have e2 : IntKind.i64.wrap ((i : Int) + 2048) = (((k + 1) * 2048 : Nat) : Int) := by rw [IntKind.wrap_i64]; omega
          clear hfr hfq hq hP hc9 e2
          by_cases hend : ds.length < j
          · have t2 : (ds.length : Int) < (j : Int) := by omega
            have k1 := kk ds.length (by omega)
            clear kk hql hj hi hend
            go_wp2_with fail
            (with_reducible refine HFR.out.mono ?_); rintro e w8 ⟨A8, c8, rfl, ho8, hb8⟩
            simp only at ho8 ⊢
            have HJ8 := Lib.hid (join_a (w1 := w1) HOWN.out hb8 (Own.lowerS ho8 HBW.out.size) (frs_of ho8) (HBW.out.trans (hb8.mono HBW.out.size)) HLJ.out)
            clear ho8 hb8
            go_wp2_with fail
            (with_reducible refine HJ8.out.mono ?_); rintro e w9 ⟨v9, rfl, ho9, -, -, hB9⟩
            go_wp2_with fail
            go_roundw
            case rel => exact ⟨k + 1, HK2.out, by have := HI.out; have := HJJ.out; congr 1; omega, by rw [HSUC.out]; exact ho9, hB9⟩
            case measure => simp [intOf]; have := HJJ.out; omega
          · have t2 : ¬ (ds.length : Int) < (j : Int) := by omega
            have k1 := kk j (by omega)
            clear kk hql hj hi hend
            go_wp2_with fail
            (with_reducible refine HFR.out.mono ?_); rintro e w8 ⟨A8, c8, rfl, ho8, hb8⟩
            simp only at ho8 ⊢
            have HJ8 := Lib.hid (join_a (w1 := w1) HOWN.out hb8 (Own.lowerS ho8 HBW.out.size) (frs_of ho8) (HBW.out.trans (hb8.mono HBW.out.size)) HLJ.out)
            clear ho8 hb8
            go_wp2_with fail
            (with_reducible refine HJ8.out.mono ?_); rintro e w9 ⟨v9, rfl, ho9, -, -, hB9⟩
            go_wp2_with fail
            go_roundw
            case rel => exact ⟨k + 1, HK2.out, by have := HI.out; have := HJJ.out; congr 1; omega, by rw [HSUC.out]; exact ho9, hB9⟩
            case measure => simp [intOf]; have := HJJ.out; omega
        · have t1 : ¬ (i : Int) < (ds.length : Int) := by omega
          have hke : k = (ds.length + 2047) / 2048 := by omega
          have HFIN : Hid (hf ++ piecesN k ds = snB x t vs ls ds) := Lib.hid (by unfold snB headN; rw [HHF.out, HHN.out, HHD.out, HIVE.out, HILE.out, hke])
          clear hke hi
          go_wp2_with fail
          go_ret
          exact ⟨_, rfl, by rw [← HFIN.out]; exact Own.lowerS HOWN.out HB1.out.size, HB1.out.trans (HBW.out.mono HB1.out.size)⟩
end Go.Proofs.YtfpomllhkbbipaaGreatDoor
