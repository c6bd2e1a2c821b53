/- Layer 13: Put where the session is there. -/
import Derived.Test.YtakebmbdcjbbgaaSsQ
import Derived.Test.YtakebmbdcjbbgaaReg
namespace Go.Proofs.Ytakebmbdcjbbgaa
open Go Go.RowKit Go.Maps Go.Lib Mem Ss

theorem below_dr (w : World) : Below w.heap.size w w.drew := (Below.refl _ _).drew
/-- the captured session and the verdict -/
theorem heldP {w1 W : World} {g v : Nat} {x a b : Value} (h : Blk w1 g 69 #[x]) (hv : Blk w1 v 25 #[a, b]) (hb : Frm (fun k => k ≠ g ∧ k ≠ v) w1 W) : W.cell? ⟨g, 0, none⟩ = some x ∧ W.cell? ⟨v, 0, none⟩ = some a ∧ W.cell? ⟨v, 1, none⟩ = some b :=
  ⟨(h.frm hb (fun h => h.1 rfl)).cell 0, (hv.frm hb (fun h => h.2 rfl)).cell 0, (hv.frm hb (fun h => h.2 rfl)).cell 1⟩
/-- Insert at the session's list -/
def InsW (base : Nat) (w4 : World) (r : Rec) (ks : List It) (e : Ending) (w' : World) : Prop :=
  ∃ A c, e = .returned (.slice A ks.length c) ∧ OwnK 3 itN base 76 w' (.slice A ks.length c) ks ∧ Frm (fun g => r.row.ownBlock = some g) w4 w' ∧ ((Value.slice A ks.length c).ownBlock = r.row.ownBlock ∨ ∃ g, (Value.slice A ks.length c).ownBlock = some g ∧ w4.heap.size ≤ g)
theorem InsW.of {base : Nat} {w4 W : World} {r : Rec} {ks : List It} {e : Ending} {w' : World} (hb : Below w4.heap.size w4 W) (h : InsP base r.row ks W e w') : InsW base w4 r ks e w' := by
  obtain ⟨v, he, ho, hg, ha⟩ := h
  obtain ⟨A, c, rfl⟩ := ho.form
  refine ⟨A, c, he, ho, ?_, ?_⟩
  · exact (Frm.below hb).trans ((Frm.refl _ _).grown hg (fun k hk _ => hk))
  · rcases ha with ha | ⟨g, ha, hg⟩
    · exact .inl ha
    · exact .inr ⟨g, ha, Nat.le_trans hb.size hg⟩
/-- the worlds of a Put, joined -/
theorem Put_end {base p mb : Nat} {t : Tb} {rs0 rs : List Rec} {r : Rec} {seq c n hh : Int} {w w4 w7 w8 : World} (hfoot : ∀ g, Foot p mb rs g → Foot p mb rs0 g ∨ w.heap.size ≤ g) {v5 v8 : Value} (h4 : TRep0 base w4 p t mb rs) (hrm : r ∈ rs) (hids : (rs.map fun x => x.s.id).Nodup) (hok : OkT (updS (putK r.s ⟨seq, c, n⟩) t))
    (hf4 : Frm (Foot p mb rs0) w w4) (hf7 : Frm (fun g => g = r.sb ∨ r.row.ownBlock = some g) w4 w7) (hhh : hh = max r.s.high seq) (hsb8 : Blk w8 r.sb 71 #[.int .i64 hh, v5])
    (ho8 : OwnK 3 itN base 76 w8 v8 (winI hh (insI ⟨seq, c, n⟩ r.s.kept))) (hf8 : Frm (fun g => v5.ownBlock = some g) w7 w8) (ha8 : v8.ownBlock = v5.ownBlock) {v5' : Value} (ha5 : v5'.ownBlock = r.row.ownBlock ∨ ∃ g, v5'.ownBlock = some g ∧ w4.heap.size ≤ g) (hv5 : v5 = v5') :
    PutP base p mb rs0 (updS (putK r.s ⟨seq, c, n⟩) t, 0) w (.returned (.int .i64 0)) (w8.setCell ⟨r.sb, 1, none⟩ v8) := by
  subst hv5
  obtain ⟨A8, c8, rfl⟩ := ho8.form
  obtain ⟨w9, hw9⟩ : ∃ z, z = w8.setCell ⟨r.sb, 1, none⟩ (.slice A8 (winI hh (insI ⟨seq, c, n⟩ r.s.kept)).length c8) := ⟨_, rfl⟩
  rw [← hw9]
  have hf9 : Frm (fun k => k = r.sb) w8 w9 := by rw [hw9]; exact (Frm.refl (fun k => k = r.sb) _).setCell (p := ⟨r.sb, 1, none⟩) (fun _ => rfl) _
  have hsb9 : Blk w9 r.sb 71 #[.int .i64 hh, .slice A8 (winI hh (insI ⟨seq, c, n⟩ r.s.kept)).length c8] := by rw [hw9]; exact hsb8.set_ 1 _
  have ho9 := OwnK.frmA ho8 hf9 (fun g hg e => by
    obtain ⟨cur, hc⟩ := OwnK.blkOf ho8 hg
    exact Blk.ne_ (g := g) (cs := cur) hc hsb8 (by decide) e)
  have hF : Frm (fun g => g = r.sb ∨ r.row.ownBlock = some g) w4 w9 := by
    refine Frm.then_up hf7 ((hf8.mono fun k _ hk => ?_).trans (hf9.mono fun k _ hk => .inl (.inl hk)))
    rcases ha5 with ha | ⟨g, ha, hg⟩
    · exact .inl (.inr (ha ▸ hk))
    · rw [ha] at hk; cases hk; exact .inr hg
  obtain ⟨g1, g2, g3⟩ := h4.recs r hrm
  have hT : TRep0 base w9 p (updS (putK r.s ⟨seq, c, n⟩) t) mb (updR ⟨putK r.s ⟨seq, c, n⟩, r.sb, A8, c8⟩ rs) := by
    subst hhh
    exact TRep0.upd h4 hrm (s' := putK r.s ⟨seq, c, n⟩) rfl hF hsb9 ho9 (by rw [show (Value.slice A8 (putK r.s ⟨seq, c, n⟩).kept.length c8).ownBlock = v5.ownBlock from ha8]; exact ha5) hids
  have hsub : ∀ g, (g = r.sb ∨ r.row.ownBlock = some g) → Foot p mb rs0 g ∨ w.heap.size ≤ g := fun g hg => hfoot g (.inr (.inr ⟨r, hrm, hg⟩))
  refine ⟨rfl, _, ⟨hT, hok⟩, Frm.then_up hf4 (hF.mono fun k _ hk => hsub k hk), fun g hg => ?_⟩
  rcases hg with hg | hg | ⟨x, hx, hg⟩
  · exact hfoot g (.inl hg)
  · exact hfoot g (.inr (.inl hg))
  · unfold updR at hx
    obtain ⟨y, hy, rfl⟩ := List.mem_map.1 hx
    split at hg
    · rcases hg with hg | hg
      · exact hsub g (.inl hg)
      · have hg' : (Value.slice A8 (putK r.s ⟨seq, c, n⟩).kept.length c8).ownBlock = some g := hg
        have e8 : (Value.slice A8 (putK r.s ⟨seq, c, n⟩).kept.length c8).ownBlock = v5.ownBlock := by rw [hhh] at ha8; exact ha8
        rw [e8] at hg'
        rcases ha5 with ha | ⟨g', ha, hg2⟩
        · rw [ha] at hg'; exact hsub g (.inr hg')
        · rw [ha] at hg'; cases hg'; exact .inr (Nat.le_trans hf4.size hg2)
    · exact hfoot g (.inr (.inr ⟨y, hy, hg⟩))
set_option maxRecDepth 100000 in
set_option maxHeartbeats 4000000 in
theorem Put_old {base : Nat} {w : World} {p : Nat} {t : Tb} {mb : Nat} {rs : List Rec} (h : TRep base w p t mb rs) (id seq c n : Int) (hid : (Lit.int .i64 id).wf = true) (h0 : lookC t id seq = 0) (hv : vdOk c n = true) {r : Rec} (hr : findR id rs = some r) :
    Calls Try.prog 11 #[.pointer (some ⟨p, 0, none⟩), .int .i64 id, .int .i64 seq, .agg #[.int .i64 c, .int .i64 n]] w (PutP base p mb rs (putT t id seq c n) w) := by
  have hput : putT t id seq c n = (updS (putK r.s ⟨seq, c, n⟩) t, 0) := by
    unfold putT; rw [if_neg (by omega), if_pos hv, h.find, hr]; rfl
  have hok := putT_ok h.ok id seq c n
  rw [hput] at hok
  obtain ⟨-, l2, -, l4⟩ := lookC_zero h0
  obtain ⟨-, l6⟩ := l4 r.s (by rw [h.find, hr]; rfl)
  obtain ⟨rid, hrm⟩ := findR_some hr
  have hos := h.okS hrm
  obtain ⟨w1, hw1⟩ : ∃ z, z = w.alloc (.cells #[.int .i64 c, .int .i64 n] 25) := ⟨_, rfl⟩
  have hb1 : Below w.heap.size w w1 := by rw [hw1]; exact (Below.refl _ _).alloc (Nat.le_refl _) _
  have hx1 : Blk w1 w.heap.size 25 #[.int .i64 c, .int .i64 n] := by rw [hw1]; exact Blk.new_ w _ _
  have hlk := Look_any ⟨mb, rs, h.below hb1⟩ id seq hid
  unfold LkP at hlk
  obtain ⟨la, hla⟩ : ∃ z, z = (lookI t id seq).1 := ⟨_, rfl⟩
  obtain ⟨lb, hlb⟩ : ∃ z, z = (lookI t id seq).2 := ⟨_, rfl⟩
  rw [← hla, ← hlb, h0] at hlk
  obtain ⟨v1, v2, v3, v4⟩ : 0 ≤ c ∧ c ≤ 999 ∧ 0 ≤ n ∧ n ≤ 1099511627776 := by have := vdOk_iff.1 hv; omega
  have t1 : decide (c < 0) = false := decide_eq_false (by omega)
  have t2 : decide (999 < c) = false := decide_eq_false (by omega)
  have t3 : decide (n < 0) = false := decide_eq_false (by omega)
  have t4 : decide (1099511627776 < n) = false := decide_eq_false (by omega)
  have hsq := numOk_iff.1 l2
  have hids := nodup_ids h.ok.rise h.sess
  have hpm : p ≠ mb := fun e => not_map_blk h.map h.blk e.symm
  have HPM := Lib.hid hpm; clear hpm
  have HV := Lib.hid hv
  have HR := Lib.hid hr
  have HLK := Lib.hid hlk; clear hlk
  have HPUT := Lib.hid hput; clear hput
  have HOK := Lib.hid hok; clear hok
  have HOS := Lib.hid hos; clear hos
  have H1 := Lib.hid (h.toTRep0.below hb1)
  have HB1 := Lib.hid hb1; clear hb1
  have HX1 := Lib.hid hx1; clear hx1
  have HW1 := Lib.hid hw1; clear hw1
  have HL6 := Lib.hid l6
  have HSQ := Lib.hid hsq
  have HIDS := Lib.hid hids
  have HRID := Lib.hid rid
  have HRM := Lib.hid hrm
  clear h0 hla hlb v1 v2 v3 v4 l2 l4 l6 hsq hids rid hrm hv hr h
  go_enter Try.func11, Try.ntmps11
  go_upto_region 1 with fail
  rw [← HW1.out]
  clear HW1
  go_wp2_with fail
  (with_reducible refine HLK.out.mono ?_); rintro e w2 ⟨rfl, hb2⟩
  have HX2 := Lib.hid (HX1.out.below hb2 HX1.out.lt)
  have HB2 : Hid (Below w.heap.size w w2) := Lib.hid (HB1.out.trans (hb2.mono HB1.out.size))
  have H2 := Lib.hid (H1.out.below hb2)
  clear hb2 HLK HB1 HX1 H1
  have d0 := fun o : Obj => Lib.cell?_alloc_some o (HX2.out.cell 0)
  have d1 := fun o : Obj => Lib.cell?_alloc_some o (HX2.out.cell 1)
  have d2 := fun o : Obj => Lib.cell?_alloc_some o (H2.out.blk.cell 0)
  have d3 := fun o : Obj => (H2.out.below ((Below.refl _ _).alloc (Nat.le_refl _) o)).lookup id hid
  rw [HR.out] at d3
  unfold ptrOf at d3
  simp only at d3
  have d0' : ∀ o : Obj, (w2.alloc o).cell? ⟨w.heap.size, 0, none⟩ = some (.int .i64 c) := d0
  have d1' : ∀ o : Obj, (w2.alloc o).cell? ⟨w.heap.size, 1, none⟩ = some (.int .i64 n) := d1
  have d2' : ∀ o : Obj, (w2.alloc o).cell? ⟨p, 0, none⟩ = some (.map (some mb)) := d2
  clear d0 d1 d2
  go_upto_region 10 with fail
  obtain ⟨w3, hw3⟩ : ∃ z, z = (w2.alloc (.cells #[.int .i64 la, .int .i64 lb] 25)).alloc (.cells #[.pointer (some ⟨r.sb, 0, none⟩)] 69) := ⟨_, rfl⟩
  rw [← hw3]
  have hb3 : Below w2.heap.size w2 w3 := by rw [hw3]; exact ((Below.refl _ _).alloc (Nat.le_refl _) _).alloc (by rw [World.size_alloc]; omega) _
  have hp3 : Blk w3 (w2.heap.size + 1) 69 #[.pointer (some ⟨r.sb, 0, none⟩)] := by
    have := Blk.new_ (w2.alloc (.cells #[.int .i64 la, .int .i64 lb] 25)) 69 #[.pointer (some ⟨r.sb, 0, none⟩)]
    rw [World.size_alloc] at this; rw [hw3]; exact this
  have HX3 := Lib.hid (HX2.out.below hb3 HX2.out.lt)
  have H3 := Lib.hid (H2.out.below hb3)
  have HP3 := Lib.hid hp3; clear hp3
  have HF3 : Hid (Frm (Foot p mb rs) w w3) := Lib.hid ((Frm.below (HB2.out.trans (hb3.mono HB2.out.size))))
  have HFOOT : Hid (∀ g, Foot p mb rs g → Foot p mb rs g ∨ w.heap.size ≤ g) := Lib.hid fun g hg => .inl hg
  have HPV : Hid (w.heap.size < w2.heap.size + 1) := Lib.hid (by have := HB2.out.size; omega)
  have HMN : Hid (∀ x ∈ rs, x.sb < w2.heap.size ∧ x.sb ≠ w.heap.size ∧ ∀ k, x.row.ownBlock = some k → k < w2.heap.size ∧ k ≠ w.heap.size) := Lib.hid fun x hx => by
    obtain ⟨g1, g2, g3⟩ := H2.out.recs x hx
    refine ⟨g1.lt, g1.ne_ HX2.out (by decide), fun k hk => ?_⟩
    obtain ⟨cur, hc⟩ := OwnK.blkOf g3 hk
    exact ⟨lt_of_block hc, Blk.ne_ (g := k) (cs := cur) hc HX2.out (by decide)⟩
  have HKEP : Hid (OkK r.s.high r.s.kept) := Lib.hid HOS.out.kept
  have HTOP : Hid (0 ≤ r.s.high ∧ r.s.high ≤ 1099511627776) := Lib.hid ⟨by have := HOS.out.low; omega, HOS.out.top⟩
  clear hb3 hw3 HX2 H2 HB2 d0' d1' d2' d3 t1 t2 t3 t4
  obtain ⟨hnb, hnv, hnr⟩ := HMN.out r HRM.out
  have HNB : Hid (r.sb ≠ w2.heap.size + 1) := Lib.hid (by omega)
  have HNR : Hid (∀ k, r.row.ownBlock = some k → k ≠ w2.heap.size + 1 ∧ k ≠ w.heap.size) := Lib.hid fun k hk => ⟨(by have := (hnr k hk).1; omega), (hnr k hk).2⟩
  clear hnb hnv hnr HMN
  have hfd := find_any (H3.out.recs r HRM.out).1 (((H3.out.recs r HRM.out).2.2.slK itN_len).2) HKEP.out.rise (by have := HKEP.out.len; omega) (fun i hi => by have := HKEP.out.high i hi; have := HKEP.out.pos i hi; have := HTOP.out; have := HSQ.out; omega) (seq := seq)
  obtain ⟨lo, hlo⟩ : ∃ z, z = lowI seq r.s.kept := ⟨_, rfl⟩
  obtain ⟨is, his⟩ : ∃ z, z = (itAt seq r.s.kept).isSome := ⟨_, rfl⟩
  unfold FdP at hfd
  rw [← hlo, ← his] at hfd
  have HFD := Lib.hid hfd; clear hfd his
  have HLO := Lib.hid hlo; clear hlo
  have p3 : w3.cell? ⟨w2.heap.size + 1, 0, none⟩ = some (.pointer (some ⟨r.sb, 0, none⟩)) := HP3.out.cell 0
  go_wp2_with fail
  (with_reducible refine HFD.out.mono ?_); rintro e w4 ⟨rfl, hb4⟩
  clear p3 HFD
  have HX4 := Lib.hid (HX3.out.below hb4 HX3.out.lt)
  have H4 := Lib.hid (H3.out.below hb4)
  have HP4 := Lib.hid (HP3.out.below hb4 HP3.out.lt)
  have HF4 : Hid (Frm (Foot p mb rs) w w4) := Lib.hid (HF3.out.then_below hb4)
  clear hb4 HX3 H3 HP3 HF3
  go_upto_region 11 with fail
  have HINS : Hid (∀ W, Below w4.heap.size w4 W → ∀ xb, w4.heap.size ≤ xb → Blk W xb 76 #[.int .i64 seq, .int .i64 c, .int .i64 n] → Calls Try.prog 28 #[.slice r.A r.s.kept.length r.c, .int .i64 (lo : Int), .slice (some ⟨xb, 0, none⟩) 1 1] W (InsW base w4 r (insI ⟨seq, c, n⟩ r.s.kept))) := Lib.hid fun W hb xb hxb hx => by
    obtain ⟨g1, g2, g3⟩ := H4.out.recs r HRM.out
    have hle : lo ≤ r.s.kept.length := by rw [HLO.out]; exact low_le _ _
    have := (Insert_any (g3.below hb) (Nat.le_trans (by have := H4.out.inP; have := H4.out.blk.lt; omega) hb.size) (by have := HKEP.out.len; omega) lo hle ⟨seq, c, n⟩ xb hx (fun e => by obtain ⟨cur, hc⟩ := OwnK.blkOf g3 e; have := lt_of_block hc; omega)).mono fun e w' h => InsW.of hb h
    rw [HLO.out] at this ⊢
    exact this
  have HSB4 := Lib.hid (H4.out.recs r HRM.out).1
  have HN : Hid (∀ k, r.row.ownBlock = some k → k ≠ w2.heap.size + 1 ∧ k ≠ w.heap.size ∧ k ≠ r.sb) := Lib.hid fun k hk => by
    obtain ⟨g1, g2⟩ := HNR.out k hk
    obtain ⟨cur, hc⟩ := OwnK.blkOf (H4.out.recs r HRM.out).2.2 hk
    exact ⟨by omega, g2, Blk.ne_ (g := k) (cs := cur) hc HSB4.out (by decide)⟩
  refine AnyZ.start (S := (fun W => W.cell? ⟨w2.heap.size + 1, 0, none⟩ = some (.pointer (some ⟨r.sb, 0, none⟩)) ∧ W.cell? ⟨w.heap.size, 0, none⟩ = some (.int .i64 c) ∧ W.cell? ⟨w.heap.size, 1, none⟩ = some (.int .i64 n) ∧ W.cell? ⟨r.sb, 1, none⟩ = some (.slice r.A r.s.kept.length r.c))) (z := 13) (by kernel_rfl) ?_ (fun hHeld => ?_)
  · exact ⟨HP4.out.cell 0, HX4.out.cell 0, HX4.out.cell 1, HSB4.out.cell 1⟩
  refine AnyZ.take (i := 0) (v := ?_) rfl (by kernel_rfl) (by kernel_rfl) (by kernel_rfl) (by kernel_rfl) (fun _ _ _ h => h) (Or.inl ⟨by kernel_rfl, ?_⟩) (by assumption) ?_
  rotate_left
  · intro w hSw; (try dsimp only at hSw); go_simp; try with_reducible rfl
  try simp only [Act.put, List.getElem_toArray, List.getElem_cons_succ, List.getElem_cons_zero, List.setIfInBounds_toArray, List.set_cons_zero, List.set_cons_succ]
  refine AnyZ.take (i := 1) (v := ?_) rfl (by kernel_rfl) (by kernel_rfl) (by kernel_rfl) (by kernel_rfl) (fun _ _ _ h => h) (Or.inl ⟨by kernel_rfl, ?_⟩) (by assumption) ?_
  rotate_left
  · intro w hSw; (try dsimp only at hSw); go_simp; try with_reducible rfl
  try simp only [Act.put, List.getElem_toArray, List.getElem_cons_succ, List.getElem_cons_zero, List.setIfInBounds_toArray, List.set_cons_zero, List.set_cons_succ]
  refine AnyZ.take (i := 2) (v := ?_) rfl (by kernel_rfl) (by kernel_rfl) (by kernel_rfl) (by kernel_rfl) (fun _ _ _ h => h) (Or.inl ⟨by kernel_rfl, ?_⟩) (by assumption) ?_
  rotate_left
  · intro w hSw; (try dsimp only at hSw); go_simp; try with_reducible rfl
  try simp only [Act.put, List.getElem_toArray, List.getElem_cons_succ, List.getElem_cons_zero, List.setIfInBounds_toArray, List.set_cons_zero, List.set_cons_succ]
  refine AnyZ.take (i := 3) (v := ?_) rfl (by kernel_rfl) (by kernel_rfl) (by kernel_rfl) (by kernel_rfl) (fun _ _ _ h => h) (Or.inl ⟨by kernel_rfl, ?_⟩) (by assumption) ?_
  rotate_left
  · intro w hSw; (try dsimp only at hSw); go_simp; try with_reducible rfl
  try simp only [Act.put, List.getElem_toArray, List.getElem_cons_succ, List.getElem_cons_zero, List.setIfInBounds_toArray, List.set_cons_zero, List.set_cons_succ]
  refine AnyZ.take (i := 4) (v := ?_) rfl (by kernel_rfl) (by kernel_rfl) (by kernel_rfl) (by kernel_rfl) (fun _ _ _ h => h) (Or.inl ⟨by kernel_rfl, ?_⟩) (by assumption) ?_
  rotate_left
  · intro w hSw; (try dsimp only at hSw); go_simp; try with_reducible rfl
  try simp only [Act.put, List.getElem_toArray, List.getElem_cons_succ, List.getElem_cons_zero, List.setIfInBounds_toArray, List.set_cons_zero, List.set_cons_succ]
  refine AnyZ.take (i := 5) (v := ?_) rfl (by kernel_rfl) (by kernel_rfl) (by kernel_rfl) (by kernel_rfl) (fun _ _ _ h => h) (Or.inl ⟨by kernel_rfl, ?_⟩) (by assumption) ?_
  rotate_left
  · intro w hSw; (try dsimp only at hSw); go_simp; try with_reducible rfl
  try simp only [Act.put, List.getElem_toArray, List.getElem_cons_succ, List.getElem_cons_zero, List.setIfInBounds_toArray, List.set_cons_zero, List.set_cons_succ]
  refine AnyZ.take (i := 6) (v := ?_) rfl (by kernel_rfl) (by kernel_rfl) (by kernel_rfl) (by kernel_rfl) (fun _ _ _ h => h) (Or.inl ⟨by kernel_rfl, ?_⟩) (by assumption) ?_
  rotate_left
  · intro w hSw; (try dsimp only at hSw); go_simp; try with_reducible rfl
  try simp only [Act.put, List.getElem_toArray, List.getElem_cons_succ, List.getElem_cons_zero, List.setIfInBounds_toArray, List.set_cons_zero, List.set_cons_succ]
  refine AnyZ.take (i := 7) (v := ?_) rfl (by kernel_rfl) (by kernel_rfl) (by kernel_rfl) (by kernel_rfl) (fun _ _ _ h => h) (Or.inl ⟨by kernel_rfl, ?_⟩) (by assumption) ?_
  rotate_left
  · intro w hSw; (try dsimp only at hSw); go_simp; try with_reducible rfl
  try simp only [Act.put, List.getElem_toArray, List.getElem_cons_succ, List.getElem_cons_zero, List.setIfInBounds_toArray, List.set_cons_zero, List.set_cons_succ]
  refine AnyZ.take (i := 8) (v := ?_) rfl (by kernel_rfl) (by kernel_rfl) (by kernel_rfl) (by kernel_rfl) (fun _ _ _ h => h) (Or.inl ⟨by kernel_rfl, ?_⟩) (by assumption) ?_
  rotate_left
  · intro w hSw; (try dsimp only at hSw); go_simp; try with_reducible rfl
  try simp only [Act.put, List.getElem_toArray, List.getElem_cons_succ, List.getElem_cons_zero, List.setIfInBounds_toArray, List.set_cons_zero, List.set_cons_succ]
  refine AnyZ.ready (rs := [9]) (by kernel_rfl) (by simp) ?_
  refine AllZ.cons rfl (fun K hK => ?_) AllZ.nil
  go_simp
  refine hK.out _ _ ?_ (fun hHeld => ?_)
  · exact ⟨(HP4.out.alloc _).drew.cell 0, (HX4.out.alloc _).drew.cell 0, (HX4.out.alloc _).drew.cell 1, (HSB4.out.alloc _).drew.cell 1⟩
  clear hK K
  try simp only [Act.put, List.getElem_toArray, List.getElem_cons_succ, List.getElem_cons_zero, List.setIfInBounds_toArray, List.set_cons_zero, List.set_cons_succ]
  refine AnyZ.ready (rs := [10]) (by kernel_rfl) (by simp) ?_
  refine AllZ.cons rfl (fun K hK => ?_) AllZ.nil
  go_simp
  (with_reducible refine (HINS.out _ ((Below.refl _ _).alloc (Nat.le_refl _) _).drew w4.heap.size (Nat.le_refl _) (Blk.new_ w4 _ _).drew).mono ?_); rintro e w5 ⟨A5, c5, rfl, ho5, hf5, ha5⟩
  have HP5 := Lib.hid (HP4.out.frm hf5 (fun e => (HN.out _ e).1 rfl))
  have HSB5 := Lib.hid (HSB4.out.frm hf5 (fun e => (HN.out _ e).2.2 rfl))
  have HX5 := Lib.hid (HX4.out.frm hf5 (fun e => (HN.out _ e).2.1 rfl))
  have HO5 := Lib.hid ho5; clear ho5
  have HF5 := Lib.hid hf5; clear hf5
  have HA5 := Lib.hid ha5; clear ha5
  have f51 := HSB5.out.free 1
  have s51 : w5.cell? ⟨r.sb, 1, none⟩ = some (.slice r.A r.s.kept.length r.c) := HSB5.out.cell 1
  refine hK.out _ _ ?_ (fun hHeld => ?_)
  · exact ⟨HP5.out.cell 0, HX5.out.cell 0, HX5.out.cell 1, HSB5.out.cell 1⟩
  clear hK K
  try simp only [Act.put, List.getElem_toArray, List.getElem_cons_succ, List.getElem_cons_zero, List.setIfInBounds_toArray, List.set_cons_zero, List.set_cons_succ]
  refine AnyZ.takeAny (i := 11) (v := ?_) rfl (by kernel_rfl) (by kernel_rfl) (by kernel_rfl) (by kernel_rfl) (fun _ _ _ h => h) (Or.inl ⟨by kernel_rfl, ?_⟩) (by assumption) ?_
  rotate_left
  · intro w hSw; (try dsimp only at hSw); go_simp; try with_reducible rfl
  try simp only [Act.put, List.getElem_toArray, List.getElem_cons_succ, List.getElem_cons_zero, List.setIfInBounds_toArray, List.set_cons_zero, List.set_cons_succ]
  refine AnyZ.take (i := 12) (v := ?_) rfl (by kernel_rfl) (by kernel_rfl) (by kernel_rfl) (by kernel_rfl) (fun _ _ _ h => h) (Or.inl ⟨by kernel_rfl, ?_⟩) (by assumption) ?_
  rotate_left
  · intro w hSw; (try dsimp only at hSw); go_simp; try with_reducible rfl
  try simp only [Act.put, List.getElem_toArray, List.getElem_cons_succ, List.getElem_cons_zero, List.setIfInBounds_toArray, List.set_cons_zero, List.set_cons_succ]
  refine AnyZ.ready (rs := [13]) (by kernel_rfl) (by simp) ?_
  refine AllZ.last rfl (by kernel_rfl) (fun K hK => ?_) AllZ.nil
  go_simp
  skip
  refine hK.out _ _ ?_
  clear hK K
  try simp only [Act.put, List.getElem_toArray, List.getElem_cons_succ, List.getElem_cons_zero, List.setIfInBounds_toArray, List.set_cons_zero, List.set_cons_succ]
  refine AnyZ.done (by kernel_rfl) ?_ _
  go_upto_region 12 with fail
  obtain ⟨v5, hv5⟩ : ∃ z, z = Value.slice A5 (insI ⟨seq, c, n⟩ r.s.kept).length c5 := ⟨_, rfl⟩
  rw [← hv5] at HO5 HA5 ⊢
  have HV5 := Lib.hid hv5; clear hv5
  obtain ⟨w6, hw6⟩ : ∃ z, z = w5.setCell ⟨r.sb, 1, none⟩ v5 := ⟨_, rfl⟩
  rw [← hw6]
  have hf6 : Frm (fun k => k = r.sb) w5 w6 := by rw [hw6]; exact (Frm.refl (fun k => k = r.sb) _).setCell (p := ⟨r.sb, 1, none⟩) (fun _ => rfl) _
  have HSB6 : Hid (Blk w6 r.sb 71 #[.int .i64 r.s.high, v5]) := Lib.hid (by rw [hw6]; exact HSB5.out.set_ 1 _)
  have HP6 := Lib.hid (HP5.out.frm hf6 (by have := HNB.out; omega))
  have HO6 := Lib.hid (OwnK.frmA HO5.out hf6 (fun g hg e => by
    obtain ⟨cur, hc⟩ := OwnK.blkOf HO5.out hg
    exact Blk.ne_ (g := g) (cs := cur) hc HSB5.out (by decide) e))
  have HF6 : Hid (Frm (fun g => g = r.sb ∨ r.row.ownBlock = some g) w4 w6) := Lib.hid ((HF5.out.mono (fun k _ h => .inr h)).trans (hf6.mono (fun k _ h => .inl h)))
  clear hw6 hf6 HP5 HSB5 HX5 HO5 HF5 s51 f51 HX4 HP4 HSB4 HINS
  obtain ⟨hh, hhh⟩ : ∃ z, z = max r.s.high seq := ⟨_, rfl⟩
  have HHH := Lib.hid hhh; clear hhh
  have f60 := HSB6.out.free 0
  have s60 : w6.cell? ⟨r.sb, 0, none⟩ = some (.int .i64 r.s.high) := HSB6.out.cell 0
  refine AnyZ.start (S := (fun W => W.cell? ⟨w2.heap.size + 1, 0, none⟩ = some (.pointer (some ⟨r.sb, 0, none⟩)) ∧ W.cell? ⟨r.sb, 0, none⟩ = some (.int .i64 r.s.high))) (z := 9) (by kernel_rfl) ?_ (fun hHeld => ?_)
  · exact ⟨HP6.out.cell 0, HSB6.out.cell 0⟩
  refine AnyZ.take (i := 0) (v := ?_) rfl (by kernel_rfl) (by kernel_rfl) (by kernel_rfl) (by kernel_rfl) (fun _ _ _ h => h) (Or.inl ⟨by kernel_rfl, ?_⟩) (by assumption) ?_
  rotate_left
  · intro w hSw; (try dsimp only at hSw); go_simp; try with_reducible rfl
  try simp only [Act.put, List.getElem_toArray, List.getElem_cons_succ, List.getElem_cons_zero, List.setIfInBounds_toArray, List.set_cons_zero, List.set_cons_succ]
  refine AnyZ.take (i := 1) (v := ?_) rfl (by kernel_rfl) (by kernel_rfl) (by kernel_rfl) (by kernel_rfl) (fun _ _ _ h => h) (Or.inl ⟨by kernel_rfl, ?_⟩) (by assumption) ?_
  rotate_left
  · intro w hSw; (try dsimp only at hSw); go_simp; try with_reducible rfl
  try simp only [Act.put, List.getElem_toArray, List.getElem_cons_succ, List.getElem_cons_zero, List.setIfInBounds_toArray, List.set_cons_zero, List.set_cons_succ]
  refine AnyZ.take (i := 2) (v := ?_) rfl (by kernel_rfl) (by kernel_rfl) (by kernel_rfl) (by kernel_rfl) (fun _ _ _ h => h) (Or.inl ⟨by kernel_rfl, ?_⟩) (by assumption) ?_
  rotate_left
  · intro w hSw; (try dsimp only at hSw); go_simp; try with_reducible rfl
  try simp only [Act.put, List.getElem_toArray, List.getElem_cons_succ, List.getElem_cons_zero, List.setIfInBounds_toArray, List.set_cons_zero, List.set_cons_succ]
  refine AnyZ.take (i := 3) (v := ?_) rfl (by kernel_rfl) (by kernel_rfl) (by kernel_rfl) (by kernel_rfl) (fun _ _ _ h => h) (Or.inl ⟨by kernel_rfl, ?_⟩) (by assumption) ?_
  rotate_left
  · intro w hSw; (try dsimp only at hSw); go_simp; try with_reducible rfl
  try simp only [Act.put, List.getElem_toArray, List.getElem_cons_succ, List.getElem_cons_zero, List.setIfInBounds_toArray, List.set_cons_zero, List.set_cons_succ]
  refine AnyZ.take (i := 4) (v := ?_) rfl (by kernel_rfl) (by kernel_rfl) (by kernel_rfl) (by kernel_rfl) (fun _ _ _ h => h) (Or.inl ⟨by kernel_rfl, ?_⟩) (by assumption) ?_
  rotate_left
  · intro w hSw; (try dsimp only at hSw); go_simp; try with_reducible rfl
  try simp only [Act.put, List.getElem_toArray, List.getElem_cons_succ, List.getElem_cons_zero, List.setIfInBounds_toArray, List.set_cons_zero, List.set_cons_succ]
  refine AnyZ.take (i := 5) (v := ?_) rfl (by kernel_rfl) (by kernel_rfl) (by kernel_rfl) (by kernel_rfl) (fun _ _ _ h => h) (Or.inl ⟨by kernel_rfl, ?_⟩) (by assumption) ?_
  rotate_left
  · intro w hSw; (try dsimp only at hSw); go_simp; try with_reducible rfl
  try simp only [Act.put, List.getElem_toArray, List.getElem_cons_succ, List.getElem_cons_zero, List.setIfInBounds_toArray, List.set_cons_zero, List.set_cons_succ]
  refine AnyZ.ready (rs := [6]) (by kernel_rfl) (by simp) ?_
  refine AllZ.cons rfl (fun K hK => ?_) AllZ.nil
  go_simp
  skip
  refine hK.out _ _ ?_ (fun hHeld => ?_)
  · exact hHeld
  clear hK K
  try simp only [Act.put, List.getElem_toArray, List.getElem_cons_succ, List.getElem_cons_zero, List.setIfInBounds_toArray, List.set_cons_zero, List.set_cons_succ]
  refine AnyZ.takeAny (i := 7) (v := ?_) rfl (by kernel_rfl) (by kernel_rfl) (by kernel_rfl) (by kernel_rfl) (fun _ _ _ h => h) (Or.inl ⟨by kernel_rfl, ?_⟩) (by assumption) ?_
  rotate_left
  · intro w hSw; (try dsimp only at hSw); go_simp; try with_reducible rfl
  try simp only [Act.put, List.getElem_toArray, List.getElem_cons_succ, List.getElem_cons_zero, List.setIfInBounds_toArray, List.set_cons_zero, List.set_cons_succ]
  refine AnyZ.take (i := 8) (v := ?_) rfl (by kernel_rfl) (by kernel_rfl) (by kernel_rfl) (by kernel_rfl) (fun _ _ _ h => h) (Or.inl ⟨by kernel_rfl, ?_⟩) (by assumption) ?_
  rotate_left
  · intro w hSw; (try dsimp only at hSw); go_simp; try with_reducible rfl
  try simp only [Act.put, List.getElem_toArray, List.getElem_cons_succ, List.getElem_cons_zero, List.setIfInBounds_toArray, List.set_cons_zero, List.set_cons_succ]
  refine AnyZ.ready (rs := [9]) (by kernel_rfl) (by simp) ?_
  refine AllZ.last rfl (by kernel_rfl) (fun K hK => ?_) AllZ.nil
  go_simp
  skip
  refine hK.out _ _ ?_
  clear hK K
  try simp only [Act.put, List.getElem_toArray, List.getElem_cons_succ, List.getElem_cons_zero, List.setIfInBounds_toArray, List.set_cons_zero, List.set_cons_succ]
  refine AnyZ.done (by kernel_rfl) ?_ _
  go_upto_region 13 with fail
  rw [← HHH.out]
  obtain ⟨w7, hw7⟩ : ∃ z, z = (w6.setCell ⟨r.sb, 0, none⟩ (.int .i64 hh)).drew := ⟨_, rfl⟩
  rw [← hw7]
  have hf7 : Frm (fun k => k = r.sb) w6 w7 := by rw [hw7]; exact ((Frm.refl (fun k => k = r.sb) _).setCell (p := ⟨r.sb, 0, none⟩) (fun _ => rfl) _).drew
  have HSB7 : Hid (Blk w7 r.sb 71 #[.int .i64 hh, v5]) := Lib.hid (by rw [hw7]; exact (HSB6.out.set_ 0 _).drew)
  have HP7 := Lib.hid (HP6.out.frm hf7 (by have := HNB.out; omega))
  have HO7 := Lib.hid (OwnK.frmA HO6.out hf7 (fun g hg e => by
    obtain ⟨cur, hc⟩ := OwnK.blkOf HO6.out hg
    exact Blk.ne_ (g := g) (cs := cur) hc HSB6.out (by decide) e))
  have HF7 : Hid (Frm (fun g => g = r.sb ∨ r.row.ownBlock = some g) w4 w7) := Lib.hid (HF6.out.trans (hf7.mono (fun k _ h => .inl h)))
  clear hw7 hf7 HP6 HSB6 HO6 HF6 f60 s60
  have hlen : (insI ⟨seq, c, n⟩ r.s.kept).length ≤ 100 := by rw [insI_len]; have := HKEP.out.len; omega
  have HDEL := Lib.hid (DeleteFunc_it (w := w7.drew) HO7.out hlen (w2.heap.size + 1) r.sb hh (HP7.out.cell 0) (HSB7.out.cell 0) (by rw [HHH.out]; have := HSQ.out; omega) (by rw [HHH.out]; have := HSQ.out; have := HTOP.out; omega)
    (fun e => by obtain ⟨cur, hc⟩ := OwnK.blkOf HO7.out e; exact Blk.ne_ (g := w2.heap.size + 1) (cs := cur) hc HP7.out (by decide) rfl)
    (fun e => by obtain ⟨cur, hc⟩ := OwnK.blkOf HO7.out e; exact Blk.ne_ (g := r.sb) (cs := cur) hc HSB7.out (by decide) rfl))
  clear hlen
  refine AnyZ.start (S := (fun W => W.cell? ⟨w2.heap.size + 1, 0, none⟩ = some (.pointer (some ⟨r.sb, 0, none⟩)) ∧ W.cell? ⟨r.sb, 1, none⟩ = some v5)) (z := 9) (by kernel_rfl) ?_ (fun hHeld => ?_)
  · exact ⟨HP7.out.cell 0, HSB7.out.cell 1⟩
  refine AnyZ.take (i := 0) (v := ?_) rfl (by kernel_rfl) (by kernel_rfl) (by kernel_rfl) (by kernel_rfl) (fun _ _ _ h => h) (Or.inl ⟨by kernel_rfl, ?_⟩) (by assumption) ?_
  rotate_left
  · intro w hSw; (try dsimp only at hSw); go_simp; try with_reducible rfl
  try simp only [Act.put, List.getElem_toArray, List.getElem_cons_succ, List.getElem_cons_zero, List.setIfInBounds_toArray, List.set_cons_zero, List.set_cons_succ]
  refine AnyZ.take (i := 1) (v := ?_) rfl (by kernel_rfl) (by kernel_rfl) (by kernel_rfl) (by kernel_rfl) (fun _ _ _ h => h) (Or.inl ⟨by kernel_rfl, ?_⟩) (by assumption) ?_
  rotate_left
  · intro w hSw; (try dsimp only at hSw); go_simp; try with_reducible rfl
  try simp only [Act.put, List.getElem_toArray, List.getElem_cons_succ, List.getElem_cons_zero, List.setIfInBounds_toArray, List.set_cons_zero, List.set_cons_succ]
  refine AnyZ.take (i := 2) (v := ?_) rfl (by kernel_rfl) (by kernel_rfl) (by kernel_rfl) (by kernel_rfl) (fun _ _ _ h => h) (Or.inl ⟨by kernel_rfl, ?_⟩) (by assumption) ?_
  rotate_left
  · intro w hSw; (try dsimp only at hSw); go_simp; try with_reducible rfl
  try simp only [Act.put, List.getElem_toArray, List.getElem_cons_succ, List.getElem_cons_zero, List.setIfInBounds_toArray, List.set_cons_zero, List.set_cons_succ]
  refine AnyZ.take (i := 3) (v := ?_) rfl (by kernel_rfl) (by kernel_rfl) (by kernel_rfl) (by kernel_rfl) (fun _ _ _ h => h) (Or.inl ⟨by kernel_rfl, ?_⟩) (by assumption) ?_
  rotate_left
  · intro w hSw; (try dsimp only at hSw); go_simp; try with_reducible rfl
  try simp only [Act.put, List.getElem_toArray, List.getElem_cons_succ, List.getElem_cons_zero, List.setIfInBounds_toArray, List.set_cons_zero, List.set_cons_succ]
  refine AnyZ.take (i := 4) (v := ?_) rfl (by kernel_rfl) (by kernel_rfl) (by kernel_rfl) (by kernel_rfl) (fun _ _ _ h => h) (Or.inl ⟨by kernel_rfl, ?_⟩) (by assumption) ?_
  rotate_left
  · intro w hSw; (try dsimp only at hSw); go_simp; try with_reducible rfl
  try simp only [Act.put, List.getElem_toArray, List.getElem_cons_succ, List.getElem_cons_zero, List.setIfInBounds_toArray, List.set_cons_zero, List.set_cons_succ]
  refine AnyZ.take (i := 5) (v := ?_) rfl (by kernel_rfl) (by kernel_rfl) (by kernel_rfl) (by kernel_rfl) (fun _ _ _ h => h) (Or.inl ⟨by kernel_rfl, ?_⟩) (by assumption) ?_
  rotate_left
  · intro w hSw; (try dsimp only at hSw); go_simp; try with_reducible rfl
  try simp only [Act.put, List.getElem_toArray, List.getElem_cons_succ, List.getElem_cons_zero, List.setIfInBounds_toArray, List.set_cons_zero, List.set_cons_succ]
  refine AnyZ.ready (rs := [6]) (by kernel_rfl) (by simp) ?_
  refine AllZ.cons rfl (fun K hK => ?_) AllZ.nil
  go_simp
  (with_reducible refine HDEL.out.mono ?_); rintro e w8 ⟨v8, rfl, ho8, hf8, ha8⟩
  obtain ⟨A8, c8, rfl⟩ := ho8.form
  have hd8 : ∀ g, v5.ownBlock = some g → g ≠ w2.heap.size + 1 ∧ g ≠ r.sb := fun g hg => by
    obtain ⟨cur, hc⟩ := OwnK.blkOf HO7.out hg
    exact ⟨Blk.ne_ (g := g) (cs := cur) hc HP7.out (by decide), Blk.ne_ (g := g) (cs := cur) hc HSB7.out (by decide)⟩
  have HSB8 := Lib.hid (HSB7.out.frm (Frm.drew (Frm.refl (fun _ => False) _) |>.mono (fun _ _ h => h.elim) |>.trans hf8) (fun e => (hd8 _ e).2 rfl))
  have HP8 := Lib.hid (HP7.out.frm (Frm.drew (Frm.refl (fun _ => False) _) |>.mono (fun _ _ h => h.elim) |>.trans hf8) (fun e => (hd8 _ e).1 rfl))
  have HO8 := Lib.hid ho8; clear ho8
  have HF8 : Hid (Frm (fun g => v5.ownBlock = some g) w7 w8) := Lib.hid (Frm.drew (Frm.refl (fun _ => False) _) |>.mono (fun _ _ h => h.elim) |>.trans hf8)
  have HA8 := Lib.hid ha8; clear ha8 hf8 hd8
  have f81 := HSB8.out.free 1
  have s81 : w8.cell? ⟨r.sb, 1, none⟩ = some v5 := HSB8.out.cell 1
  refine hK.out _ _ ?_ (fun hHeld => ?_)
  · exact ⟨HP8.out.cell 0, HSB8.out.cell 1⟩
  clear hK K
  try simp only [Act.put, List.getElem_toArray, List.getElem_cons_succ, List.getElem_cons_zero, List.setIfInBounds_toArray, List.set_cons_zero, List.set_cons_succ]
  refine AnyZ.takeAny (i := 7) (v := ?_) rfl (by kernel_rfl) (by kernel_rfl) (by kernel_rfl) (by kernel_rfl) (fun _ _ _ h => h) (Or.inl ⟨by kernel_rfl, ?_⟩) (by assumption) ?_
  rotate_left
  · intro w hSw; (try dsimp only at hSw); go_simp; try with_reducible rfl
  try simp only [Act.put, List.getElem_toArray, List.getElem_cons_succ, List.getElem_cons_zero, List.setIfInBounds_toArray, List.set_cons_zero, List.set_cons_succ]
  refine AnyZ.take (i := 8) (v := ?_) rfl (by kernel_rfl) (by kernel_rfl) (by kernel_rfl) (by kernel_rfl) (fun _ _ _ h => h) (Or.inl ⟨by kernel_rfl, ?_⟩) (by assumption) ?_
  rotate_left
  · intro w hSw; (try dsimp only at hSw); go_simp; try with_reducible rfl
  try simp only [Act.put, List.getElem_toArray, List.getElem_cons_succ, List.getElem_cons_zero, List.setIfInBounds_toArray, List.set_cons_zero, List.set_cons_succ]
  refine AnyZ.ready (rs := [9]) (by kernel_rfl) (by simp) ?_
  refine AllZ.last rfl (by kernel_rfl) (fun K hK => ?_) AllZ.nil
  go_simp
  skip
  refine hK.out _ _ ?_
  clear hK K
  try simp only [Act.put, List.getElem_toArray, List.getElem_cons_succ, List.getElem_cons_zero, List.setIfInBounds_toArray, List.set_cons_zero, List.set_cons_succ]
  refine AnyZ.done (by kernel_rfl) ?_ _
  go_wp2_with fail
  go_ret
  rw [HPUT.out]
  exact Put_end HFOOT.out H4.out HRM.out HIDS.out HOK.out HF4.out HF7.out HHH.out HSB8.out HO8.out HF8.out HA8.out HA5.out (by rw [HV5.out])
end Go.Proofs.Ytakebmbdcjbbgaa
