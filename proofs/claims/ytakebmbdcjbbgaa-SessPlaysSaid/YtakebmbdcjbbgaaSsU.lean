/- Layer 13: Put of a new session; Put for every input. -/
import Derived.Test.YtakebmbdcjbbgaaSsT
namespace Go.Proofs.Ytakebmbdcjbbgaa
open Go Go.RowKit Go.Maps Go.Lib Mem Ss

theorem insR_self (r : Rec) (rs : List Rec) : r ∈ insR r rs := by
  induction rs with
  | nil => exact List.mem_cons_self
  | cons y q ih =>
    unfold insR; split
    · exact List.mem_cons_self
    · exact List.mem_cons_of_mem _ ih
theorem insR_sub {r x : Rec} {rs : List Rec} (h : x ∈ insR r rs) : x = r ∨ x ∈ rs := by
  induction rs with
  | nil => exact .inl (by simpa [insR] using h)
  | cons y q ih =>
    unfold insR at h
    split at h
    · exact List.mem_cons.1 h
    · rcases List.mem_cons.1 h with rfl | h
      · exact .inr List.mem_cons_self
      · rcases ih h with e | e
        · exact .inl e
        · exact .inr (List.mem_cons_of_mem _ e)
theorem upd_ins {s s' : Sn} {t : Tb} (hid : s'.id = s.id) (hn : ∀ x ∈ t, x.id ≠ s.id) : updS s' (insS s t) = insS s' t := by
  have h0 : ∀ (t : Tb), (∀ x ∈ t, x.id ≠ s.id) → updS s' t = t := fun t ht => by
    unfold updS
    conv => rhs; rw [← List.map_id t]
    refine List.map_congr_left fun y hy => ?_
    rw [if_neg (by rw [beq_iff_eq, hid]; exact ht y hy)]; rfl
  induction t with
  | nil => unfold insS updS; simp [hid]
  | cons y q ih =>
    have h1 := hn y List.mem_cons_self
    unfold insS
    rw [hid]
    split
    · show updS s' (s :: y :: q) = _
      have := h0 (y :: q) hn
      unfold updS at this ⊢
      rw [List.map_cons, this, if_pos (by rw [hid, beq_self_eq_true])]
    · have h2 := ih (fun x hx => hn x (List.mem_cons_of_mem _ hx))
      unfold updS at h2 ⊢
      rw [List.map_cons, h2, if_neg (by rw [beq_iff_eq, hid]; exact h1)]
set_option maxRecDepth 100000 in
set_option maxHeartbeats 4000000 in
theorem Put_new {base : Nat} {w : World} {p : Nat} {t : Tb} {mb : Nat} {rs : List Rec} (h : TRep base w p t mb rs) (id seq c n : Int) (hid : (Lit.int .i64 id).wf = true) (h0 : lookC t id seq = 0) (hv : vdOk c n = true) (hr : findR id rs = none) :
    Calls Try.prog 11 #[.pointer (some ⟨p, 0, none⟩), .int .i64 id, .int .i64 seq, .agg #[.int .i64 c, .int .i64 n]] w (PutP base p mb rs (putT t id seq c n) w) := by
  have hfn : findS id t = none := by rw [h.find, hr]; rfl
  have hupi : updS (putK ⟨id, 0, []⟩ ⟨seq, c, n⟩) (insS ⟨id, 0, []⟩ t) = insS (putK ⟨id, 0, []⟩ ⟨seq, c, n⟩) t := upd_ins rfl (findS_none hfn)
  have hput : putT t id seq c n = (updS (putK ⟨id, 0, []⟩ ⟨seq, c, n⟩) (insS ⟨id, 0, []⟩ t), 0) := by
    unfold putT; rw [if_neg (by omega), if_pos hv, hfn, hupi]
  have hok := putT_ok h.ok id seq c n
  rw [hput] at hok
  obtain ⟨-, l2, -, -⟩ := lookC_zero h0
  obtain ⟨w1, hw1⟩ : ∃ z, z = w.alloc (.cells #[.int .i64 c, .int .i64 n] 25) := ⟨_, rfl⟩
  have hb1 : Below w.heap.size w w1 := by rw [hw1]; exact (Below.refl _ _).alloc (Nat.le_refl _) _
  have hx1 : Blk w1 w.heap.size 25 #[.int .i64 c, .int .i64 n] := by rw [hw1]; exact Blk.new_ w _ _
  have hlk := Look_any ⟨mb, rs, h.below hb1⟩ id seq hid
  unfold LkP at hlk
  obtain ⟨la, hla⟩ : ∃ z, z = (lookI t id seq).1 := ⟨_, rfl⟩
  obtain ⟨lb, hlb⟩ : ∃ z, z = (lookI t id seq).2 := ⟨_, rfl⟩
  rw [← hla, ← hlb, h0] at hlk
  obtain ⟨v1, v2, v3, v4⟩ : 0 ≤ c ∧ c ≤ 999 ∧ 0 ≤ n ∧ n ≤ 1099511627776 := by have := vdOk_iff.1 hv; omega
  have t1 : decide (c < 0) = false := decide_eq_false (by omega)
  have t2 : decide (999 < c) = false := decide_eq_false (by omega)
  have t3 : decide (n < 0) = false := decide_eq_false (by omega)
  have t4 : decide (1099511627776 < n) = false := decide_eq_false (by omega)
  have hsq := numOk_iff.1 l2
  have HR := Lib.hid hr
  have HLK := Lib.hid hlk; clear hlk
  have HPUT := Lib.hid hput; clear hput
  have HOK := Lib.hid hok; clear hok
  have H1 := Lib.hid (h.toTRep0.below hb1)
  have HLEN : Hid (rs.length ≤ 16) := Lib.hid (by have := h.ok.few; rw [← h.sess, List.length_map] at this; exact this)
  have HBASE : Hid (base ≤ w.heap.size) := Lib.hid (TabAt.base ⟨mb, rs, h⟩)
  have HRISE := Lib.hid (insS_rise (s := ⟨id, 0, []⟩) h.ok.rise (findS_none hfn))
  have HB1 := Lib.hid hb1; clear hb1
  have HX1 := Lib.hid hx1; clear hx1
  have HW1 := Lib.hid hw1; clear hw1
  have HSQ := Lib.hid hsq
  clear h0 hla hlb v1 v2 v3 v4 l2 hsq hv hr h hfn hupi
  go_enter Try.func11, Try.ntmps11
  go_upto_region 1 with fail
  rw [← HW1.out]
  clear HW1
  go_wp2_with fail
  (with_reducible refine HLK.out.mono ?_); rintro e w2 ⟨rfl, hb2⟩
  have HX2 := Lib.hid (HX1.out.below hb2 HX1.out.lt)
  have HB2 : Hid (Below w.heap.size w w2) := Lib.hid (HB1.out.trans (hb2.mono HB1.out.size))
  have H2 := Lib.hid (H1.out.below hb2)
  clear hb2 HLK HB1 HX1 H1
  have d0' : ∀ o : Obj, (w2.alloc o).cell? ⟨w.heap.size, 0, none⟩ = some (.int .i64 c) := fun o : Obj => Lib.cell?_alloc_some o (HX2.out.cell 0)
  have d1' : ∀ o : Obj, (w2.alloc o).cell? ⟨w.heap.size, 1, none⟩ = some (.int .i64 n) := fun o : Obj => Lib.cell?_alloc_some o (HX2.out.cell 1)
  have d2' : ∀ o : Obj, (w2.alloc o).cell? ⟨p, 0, none⟩ = some (.map (some mb)) := fun o : Obj => Lib.cell?_alloc_some o (H2.out.blk.cell 0)
  have d3 := fun o : Obj => (H2.out.below ((Below.refl _ _).alloc (Nat.le_refl _) o)).lookup id hid
  rw [HR.out] at d3
  unfold ptrOf at d3
  simp only at d3
  go_upto_region 9 with fail
  obtain ⟨sb, hsb⟩ : ∃ z, z = w2.heap.size + 1 + 1 := ⟨_, rfl⟩
  rw [← hsb]
  obtain ⟨wb, hwb⟩ : ∃ z, z = ((w2.alloc (.cells #[.int .i64 la, .int .i64 lb] 25)).alloc (.cells #[.pointer (some ⟨sb, 0, none⟩)] 69)).alloc (.cells #[.int .i64 0, .slice none 0 0] 71) := ⟨_, rfl⟩
  rw [← hwb]
  have hbb : Below w2.heap.size w2 wb := by rw [hwb]; exact (((Below.refl _ _).alloc (Nat.le_refl _) _).alloc (by rw [World.size_alloc]; omega) _).alloc (by rw [World.size_alloc, World.size_alloc]; omega) _
  have hpb : Blk wb (w2.heap.size + 1) 69 #[.pointer (some ⟨sb, 0, none⟩)] := by
    have := Blk.new_ (w2.alloc (.cells #[.int .i64 la, .int .i64 lb] 25)) 69 #[.pointer (some ⟨sb, 0, none⟩)]
    rw [World.size_alloc] at this; rw [hwb]; exact this.alloc _
  have hsbb : Blk wb sb 71 #[.int .i64 0, .slice none 0 0] := by
    have := Blk.new_ ((w2.alloc (.cells #[.int .i64 la, .int .i64 lb] 25)).alloc (.cells #[.pointer (some ⟨sb, 0, none⟩)] 69)) 71 #[.int .i64 0, .slice none 0 0]
    rw [World.size_alloc, World.size_alloc, ← hsb] at this; rw [hwb]; exact this
  have hszb : wb.heap.size = sb + 1 := by rw [hwb, World.size_alloc, World.size_alloc, World.size_alloc, hsb]
  have Hb := H2.out.below hbb
  obtain ⟨wm, hrun, hmap, hgr⟩ := (Hb.map.drew).update tyKeys Try.underlying65 (by have := HLEN.out; unfold maxLen; omega) (keyOf_int_mk Try.underlying2 hid) (ptrR_mk sb)
  have hfm : Frm (fun g => g = mb) wb wm := (Frm.refl (fun g => g = mb) wb).drew.trans ((Frm.refl _ _).grown hgr (fun k e _ => by injection e with e; exact e.symm))
  have HXb := Lib.hid (HX2.out.below hbb HX2.out.lt)
  have HPb := Lib.hid hpb; clear hpb
  have HBB := Lib.hid hbb; clear hbb
  have HSBB := Lib.hid hsbb; clear hsbb
  have HFM := Lib.hid hfm; clear hfm
  have HMAP := Lib.hid hmap; clear hmap
  have HSZB := Lib.hid hszb; clear hszb
  have HSB := Lib.hid hsb; clear hsb
  have HMB := Lib.hid (not_map_blk Hb.map HPb.out)
  have HMX := Lib.hid (not_map_blk Hb.map HXb.out)
  have HMS := Lib.hid (not_map_blk Hb.map HSBB.out)
  have HMP := Lib.hid (not_map_blk Hb.map Hb.blk)
  have HHb := Lib.hid Hb; clear Hb
  clear hwb hgr d0' d1' d2' d3 t1 t2 t3 t4
  refine AnyZ.start (S := (fun W => W.cell? ⟨w2.heap.size + 1, 0, none⟩ = some (.pointer (some ⟨sb, 0, none⟩)) ∧ W.cell? ⟨p, 0, none⟩ = some (.map (some mb)))) (z := 1007) (by kernel_rfl) ?_ (fun hHeld => ?_)
  · exact ⟨HPb.out.cell 0, HHb.out.blk.cell 0⟩
  refine AnyZ.take (i := 0) (v := ?_) rfl (by kernel_rfl) (by kernel_rfl) (by kernel_rfl) (by kernel_rfl) (fun _ _ _ h => h) (Or.inl ⟨by kernel_rfl, ?_⟩) (by assumption) ?_
  rotate_left
  · intro w hSw; (try dsimp only at hSw); go_simp; try with_reducible rfl
  try simp only [Act.put, List.getElem_toArray, List.getElem_cons_succ, List.getElem_cons_zero, List.setIfInBounds_toArray, List.set_cons_zero, List.set_cons_succ]
  refine AnyZ.take (i := 1) (v := ?_) rfl (by kernel_rfl) (by kernel_rfl) (by kernel_rfl) (by kernel_rfl) (fun _ _ _ h => h) (Or.inl ⟨by kernel_rfl, ?_⟩) (by assumption) ?_
  rotate_left
  · intro w hSw; (try dsimp only at hSw); go_simp; try with_reducible rfl
  try simp only [Act.put, List.getElem_toArray, List.getElem_cons_succ, List.getElem_cons_zero, List.setIfInBounds_toArray, List.set_cons_zero, List.set_cons_succ]
  refine AnyZ.take (i := 2) (v := ?_) rfl (by kernel_rfl) (by kernel_rfl) (by kernel_rfl) (by kernel_rfl) (fun _ _ _ h => h) (Or.inl ⟨by kernel_rfl, ?_⟩) (by assumption) ?_
  rotate_left
  · intro w hSw; (try dsimp only at hSw); go_simp; try with_reducible rfl
  try simp only [Act.put, List.getElem_toArray, List.getElem_cons_succ, List.getElem_cons_zero, List.setIfInBounds_toArray, List.set_cons_zero, List.set_cons_succ]
  refine AnyZ.take (i := 3) (v := ?_) rfl (by kernel_rfl) (by kernel_rfl) (by kernel_rfl) (by kernel_rfl) (fun _ _ _ h => h) (Or.inl ⟨by kernel_rfl, ?_⟩) (by assumption) ?_
  rotate_left
  · intro w hSw; (try dsimp only at hSw); go_simp; try with_reducible rfl
  try simp only [Act.put, List.getElem_toArray, List.getElem_cons_succ, List.getElem_cons_zero, List.setIfInBounds_toArray, List.set_cons_zero, List.set_cons_succ]
  refine AnyZ.take (i := 4) (v := ?_) rfl (by kernel_rfl) (by kernel_rfl) (by kernel_rfl) (by kernel_rfl) (fun _ _ _ h => h) (Or.inl ⟨by kernel_rfl, ?_⟩) (by assumption) ?_
  rotate_left
  · intro w hSw; (try dsimp only at hSw); go_simp; try with_reducible rfl
  try simp only [Act.put, List.getElem_toArray, List.getElem_cons_succ, List.getElem_cons_zero, List.setIfInBounds_toArray, List.set_cons_zero, List.set_cons_succ]
  refine AnyZ.take (i := 5) (v := ?_) rfl (by kernel_rfl) (by kernel_rfl) (by kernel_rfl) (by kernel_rfl) (fun _ _ _ h => h) (Or.inl ⟨by kernel_rfl, ?_⟩) (by assumption) ?_
  rotate_left
  · intro w hSw; (try dsimp only at hSw); go_simp; try with_reducible rfl
  try simp only [Act.put, List.getElem_toArray, List.getElem_cons_succ, List.getElem_cons_zero, List.setIfInBounds_toArray, List.set_cons_zero, List.set_cons_succ]
  refine AnyZ.ready (rs := [6]) (by kernel_rfl) (by simp) ?_
  refine AllZ.cons rfl (fun K hK => ?_) AllZ.nil
  go_simp
  refine hK.out _ _ ?_ (fun hHeld => ?_)
  · exact ⟨(HPb.out.frm HFM.out (fun e => HMB.out e.symm)).cell 0, (HHb.out.blk.frm HFM.out (fun e => HMP.out e.symm)).cell 0⟩
  clear hK K
  try simp only [Act.put, List.getElem_toArray, List.getElem_cons_succ, List.getElem_cons_zero, List.setIfInBounds_toArray, List.set_cons_zero, List.set_cons_succ]
  refine AnyZ.done (by kernel_rfl) ?_ _
  go_upto_region 10 with fail
  clear hrun
  obtain ⟨w3, hw3⟩ : ∃ z, z = wm := ⟨_, rfl⟩
  rw [← hw3] at HFM HMAP ⊢
  clear hw3
  obtain ⟨r, hreq⟩ : ∃ z : Rec, z = ⟨⟨id, 0, []⟩, sb, none, 0⟩ := ⟨_, rfl⟩
  have hrs : r.s = ⟨id, 0, []⟩ := by rw [hreq]
  have hrb : sb = r.sb := by rw [hreq]
  have hins := TRep0.ins H2.out HR.out (sb := sb) (w' := w3) (by have := HSB.out; omega) (Nat.le_trans HBASE.out HB2.out.size) ((Frm.below HBB.out).trans (HFM.out.mono fun k _ e => e)) (HSBB.out.frm HFM.out (fun e => HMS.out e.symm)) HMAP.out
  have HOKB := HSQ.out
  have HF3 : Hid (Frm (Foot p mb rs) w w3) := Lib.hid (((Frm.below HB2.out).trans (Frm.below (HBB.out.mono (Nat.le_refl _)))).trans (HFM.out.mono fun k _ e => .inr (.inl e)))
  have HFOOT : Hid (∀ g, Foot p mb (insR r rs) g → Foot p mb rs g ∨ w.heap.size ≤ g) := Lib.hid fun g hg => by
    rcases hg with hg | hg | ⟨x, hx, hg⟩
    · exact .inl (.inl hg)
    · exact .inl (.inr (.inl hg))
    · rcases insR_sub hx with rfl | hx
      · rcases hg with hg | hg
        · exact .inr (by have h1 := HSB.out; have h2 := HB2.out.size; rw [hg, ← hrb]; omega)
        · rw [hreq] at hg; cases hg
      · exact .inl (.inr (.inr ⟨x, hx, hg⟩))
  have HX3 := Lib.hid (HXb.out.frm HFM.out (fun e => HMX.out e.symm))
  have hp3 := HPb.out.frm HFM.out (fun e => HMB.out e.symm)
  rw [← hreq, ← hrs] at hins
  rw [← hrs] at HPUT HOK HRISE
  rw [hrb] at hp3
  have HP3 := Lib.hid hp3; clear hp3
  have H3 := Lib.hid hins; clear hins
  have HRM : Hid (r ∈ insR r rs) := Lib.hid (insR_self r rs)
  have HIDS := Lib.hid (nodup_ids HRISE.out H3.out.sess)
  have HKEP : Hid (OkK r.s.high r.s.kept) := Lib.hid (by rw [hrs]; exact ⟨List.Pairwise.nil, by simp, by simp, by simp, by simp⟩)
  have HTOP : Hid (0 ≤ r.s.high ∧ r.s.high ≤ 1099511627776) := Lib.hid (by rw [hrs]; exact ⟨Int.le_refl 0, (by omega : (0 : Int) ≤ 1099511627776)⟩)
  have HNB : Hid (r.sb ≠ w2.heap.size + 1) := Lib.hid (by have := HSB.out; omega)
  have HNR : Hid (∀ k, r.row.ownBlock = some k → k ≠ w2.heap.size + 1 ∧ k ≠ w.heap.size) := Lib.hid fun k hk => by rw [hreq] at hk; cases hk
  clear hreq hrs hrb HOKB HHb HMB HMX HMS HMP HSB HSZB HSBB HBB HPb HXb HFM HMAP HX2 H2 HB2 HR HRISE HLEN
  have hfd := find_any (H3.out.recs r HRM.out).1 (((H3.out.recs r HRM.out).2.2.slK itN_len).2) HKEP.out.rise (by have := HKEP.out.len; omega) (fun i hi => by have := HKEP.out.high i hi; have := HKEP.out.pos i hi; have := HTOP.out; have := HSQ.out; omega) (seq := seq)
  obtain ⟨lo, hlo⟩ : ∃ z, z = lowI seq r.s.kept := ⟨_, rfl⟩
  obtain ⟨is, his⟩ : ∃ z, z = (itAt seq r.s.kept).isSome := ⟨_, rfl⟩
  unfold FdP at hfd
  rw [← hlo, ← his] at hfd
  have HFD := Lib.hid hfd; clear hfd his
  have HLO := Lib.hid hlo; clear hlo
  have p3 : w3.cell? ⟨w2.heap.size + 1, 0, none⟩ = some (.pointer (some ⟨r.sb, 0, none⟩)) := HP3.out.cell 0
  go_wp2_with fail
  (with_reducible refine HFD.out.mono ?_); rintro e w4 ⟨rfl, hb4⟩
  clear p3 HFD
  have HX4 := Lib.hid (HX3.out.below hb4 HX3.out.lt)
  have H4 := Lib.hid (H3.out.below hb4)
  have HP4 := Lib.hid (HP3.out.below hb4 HP3.out.lt)
  have HF4 : Hid (Frm (Foot p mb rs) w w4) := Lib.hid (HF3.out.then_below hb4)
  clear hb4 HX3 H3 HP3 HF3
  go_upto_region 11 with fail
  have HINS : Hid (∀ W, Below w4.heap.size w4 W → ∀ xb, w4.heap.size ≤ xb → Blk W xb 76 #[.int .i64 seq, .int .i64 c, .int .i64 n] → Calls Try.prog 28 #[.slice r.A r.s.kept.length r.c, .int .i64 (lo : Int), .slice (some ⟨xb, 0, none⟩) 1 1] W (InsW base w4 r (insI ⟨seq, c, n⟩ r.s.kept))) := Lib.hid fun W hb xb hxb hx => by
    obtain ⟨g1, g2, g3⟩ := H4.out.recs r HRM.out
    have hle : lo ≤ r.s.kept.length := by rw [HLO.out]; exact low_le _ _
    have := (Insert_any (g3.below hb) (Nat.le_trans (by have := H4.out.inP; have := H4.out.blk.lt; omega) hb.size) (by have := HKEP.out.len; omega) lo hle ⟨seq, c, n⟩ xb hx (fun e => by obtain ⟨cur, hc⟩ := OwnK.blkOf g3 e; have := lt_of_block hc; omega)).mono fun e w' h => InsW.of hb h
    rw [HLO.out] at this ⊢
    exact this
  have HSB4 := Lib.hid (H4.out.recs r HRM.out).1
  have HN : Hid (∀ k, r.row.ownBlock = some k → k ≠ w2.heap.size + 1 ∧ k ≠ w.heap.size ∧ k ≠ r.sb) := Lib.hid fun k hk => by
    obtain ⟨g1, g2⟩ := HNR.out k hk
    obtain ⟨cur, hc⟩ := OwnK.blkOf (H4.out.recs r HRM.out).2.2 hk
    exact ⟨by omega, g2, Blk.ne_ (g := k) (cs := cur) hc HSB4.out (by decide)⟩
  refine AnyZ.start (S := (fun W => W.cell? ⟨w2.heap.size + 1, 0, none⟩ = some (.pointer (some ⟨r.sb, 0, none⟩)) ∧ W.cell? ⟨w.heap.size, 0, none⟩ = some (.int .i64 c) ∧ W.cell? ⟨w.heap.size, 1, none⟩ = some (.int .i64 n) ∧ W.cell? ⟨r.sb, 1, none⟩ = some (.slice r.A r.s.kept.length r.c))) (z := 13) (by kernel_rfl) ?_ (fun hHeld => ?_)
  · exact ⟨HP4.out.cell 0, HX4.out.cell 0, HX4.out.cell 1, HSB4.out.cell 1⟩
  refine AnyZ.take (i := 0) (v := ?_) rfl (by kernel_rfl) (by kernel_rfl) (by kernel_rfl) (by kernel_rfl) (fun _ _ _ h => h) (Or.inl ⟨by kernel_rfl, ?_⟩) (by assumption) ?_
  rotate_left
  · intro w hSw; (try dsimp only at hSw); go_simp; try with_reducible rfl
  try simp only [Act.put, List.getElem_toArray, List.getElem_cons_succ, List.getElem_cons_zero, List.setIfInBounds_toArray, List.set_cons_zero, List.set_cons_succ]
  refine AnyZ.take (i := 1) (v := ?_) rfl (by kernel_rfl) (by kernel_rfl) (by kernel_rfl) (by kernel_rfl) (fun _ _ _ h => h) (Or.inl ⟨by kernel_rfl, ?_⟩) (by assumption) ?_
  rotate_left
  · intro w hSw; (try dsimp only at hSw); go_simp; try with_reducible rfl
  try simp only [Act.put, List.getElem_toArray, List.getElem_cons_succ, List.getElem_cons_zero, List.setIfInBounds_toArray, List.set_cons_zero, List.set_cons_succ]
  refine AnyZ.take (i := 2) (v := ?_) rfl (by kernel_rfl) (by kernel_rfl) (by kernel_rfl) (by kernel_rfl) (fun _ _ _ h => h) (Or.inl ⟨by kernel_rfl, ?_⟩) (by assumption) ?_
  rotate_left
  · intro w hSw; (try dsimp only at hSw); go_simp; try with_reducible rfl
  try simp only [Act.put, List.getElem_toArray, List.getElem_cons_succ, List.getElem_cons_zero, List.setIfInBounds_toArray, List.set_cons_zero, List.set_cons_succ]
  refine AnyZ.take (i := 3) (v := ?_) rfl (by kernel_rfl) (by kernel_rfl) (by kernel_rfl) (by kernel_rfl) (fun _ _ _ h => h) (Or.inl ⟨by kernel_rfl, ?_⟩) (by assumption) ?_
  rotate_left
  · intro w hSw; (try dsimp only at hSw); go_simp; try with_reducible rfl
  try simp only [Act.put, List.getElem_toArray, List.getElem_cons_succ, List.getElem_cons_zero, List.setIfInBounds_toArray, List.set_cons_zero, List.set_cons_succ]
  refine AnyZ.take (i := 4) (v := ?_) rfl (by kernel_rfl) (by kernel_rfl) (by kernel_rfl) (by kernel_rfl) (fun _ _ _ h => h) (Or.inl ⟨by kernel_rfl, ?_⟩) (by assumption) ?_
  rotate_left
  · intro w hSw; (try dsimp only at hSw); go_simp; try with_reducible rfl
  try simp only [Act.put, List.getElem_toArray, List.getElem_cons_succ, List.getElem_cons_zero, List.setIfInBounds_toArray, List.set_cons_zero, List.set_cons_succ]
  refine AnyZ.take (i := 5) (v := ?_) rfl (by kernel_rfl) (by kernel_rfl) (by kernel_rfl) (by kernel_rfl) (fun _ _ _ h => h) (Or.inl ⟨by kernel_rfl, ?_⟩) (by assumption) ?_
  rotate_left
  · intro w hSw; (try dsimp only at hSw); go_simp; try with_reducible rfl
  try simp only [Act.put, List.getElem_toArray, List.getElem_cons_succ, List.getElem_cons_zero, List.setIfInBounds_toArray, List.set_cons_zero, List.set_cons_succ]
  refine AnyZ.take (i := 6) (v := ?_) rfl (by kernel_rfl) (by kernel_rfl) (by kernel_rfl) (by kernel_rfl) (fun _ _ _ h => h) (Or.inl ⟨by kernel_rfl, ?_⟩) (by assumption) ?_
  rotate_left
  · intro w hSw; (try dsimp only at hSw); go_simp; try with_reducible rfl
  try simp only [Act.put, List.getElem_toArray, List.getElem_cons_succ, List.getElem_cons_zero, List.setIfInBounds_toArray, List.set_cons_zero, List.set_cons_succ]
  refine AnyZ.take (i := 7) (v := ?_) rfl (by kernel_rfl) (by kernel_rfl) (by kernel_rfl) (by kernel_rfl) (fun _ _ _ h => h) (Or.inl ⟨by kernel_rfl, ?_⟩) (by assumption) ?_
  rotate_left
  · intro w hSw; (try dsimp only at hSw); go_simp; try with_reducible rfl
  try simp only [Act.put, List.getElem_toArray, List.getElem_cons_succ, List.getElem_cons_zero, List.setIfInBounds_toArray, List.set_cons_zero, List.set_cons_succ]
  refine AnyZ.take (i := 8) (v := ?_) rfl (by kernel_rfl) (by kernel_rfl) (by kernel_rfl) (by kernel_rfl) (fun _ _ _ h => h) (Or.inl ⟨by kernel_rfl, ?_⟩) (by assumption) ?_
  rotate_left
  · intro w hSw; (try dsimp only at hSw); go_simp; try with_reducible rfl
  try simp only [Act.put, List.getElem_toArray, List.getElem_cons_succ, List.getElem_cons_zero, List.setIfInBounds_toArray, List.set_cons_zero, List.set_cons_succ]
  refine AnyZ.ready (rs := [9]) (by kernel_rfl) (by simp) ?_
  refine AllZ.cons rfl (fun K hK => ?_) AllZ.nil
  go_simp
  refine hK.out _ _ ?_ (fun hHeld => ?_)
  · exact ⟨(HP4.out.alloc _).drew.cell 0, (HX4.out.alloc _).drew.cell 0, (HX4.out.alloc _).drew.cell 1, (HSB4.out.alloc _).drew.cell 1⟩
  clear hK K
  try simp only [Act.put, List.getElem_toArray, List.getElem_cons_succ, List.getElem_cons_zero, List.setIfInBounds_toArray, List.set_cons_zero, List.set_cons_succ]
  refine AnyZ.ready (rs := [10]) (by kernel_rfl) (by simp) ?_
  refine AllZ.cons rfl (fun K hK => ?_) AllZ.nil
  go_simp
  (with_reducible refine (HINS.out _ ((Below.refl _ _).alloc (Nat.le_refl _) _).drew w4.heap.size (Nat.le_refl _) (Blk.new_ w4 _ _).drew).mono ?_); rintro e w5 ⟨A5, c5, rfl, ho5, hf5, ha5⟩
  have HP5 := Lib.hid (HP4.out.frm hf5 (fun e => (HN.out _ e).1 rfl))
  have HSB5 := Lib.hid (HSB4.out.frm hf5 (fun e => (HN.out _ e).2.2 rfl))
  have HX5 := Lib.hid (HX4.out.frm hf5 (fun e => (HN.out _ e).2.1 rfl))
  have HO5 := Lib.hid ho5; clear ho5
  have HF5 := Lib.hid hf5; clear hf5
  have HA5 := Lib.hid ha5; clear ha5
  have f51 := HSB5.out.free 1
  have s51 : w5.cell? ⟨r.sb, 1, none⟩ = some (.slice r.A r.s.kept.length r.c) := HSB5.out.cell 1
  refine hK.out _ _ ?_ (fun hHeld => ?_)
  · exact ⟨HP5.out.cell 0, HX5.out.cell 0, HX5.out.cell 1, HSB5.out.cell 1⟩
  clear hK K
  try simp only [Act.put, List.getElem_toArray, List.getElem_cons_succ, List.getElem_cons_zero, List.setIfInBounds_toArray, List.set_cons_zero, List.set_cons_succ]
  refine AnyZ.takeAny (i := 11) (v := ?_) rfl (by kernel_rfl) (by kernel_rfl) (by kernel_rfl) (by kernel_rfl) (fun _ _ _ h => h) (Or.inl ⟨by kernel_rfl, ?_⟩) (by assumption) ?_
  rotate_left
  · intro w hSw; (try dsimp only at hSw); go_simp; try with_reducible rfl
  try simp only [Act.put, List.getElem_toArray, List.getElem_cons_succ, List.getElem_cons_zero, List.setIfInBounds_toArray, List.set_cons_zero, List.set_cons_succ]
  refine AnyZ.take (i := 12) (v := ?_) rfl (by kernel_rfl) (by kernel_rfl) (by kernel_rfl) (by kernel_rfl) (fun _ _ _ h => h) (Or.inl ⟨by kernel_rfl, ?_⟩) (by assumption) ?_
  rotate_left
  · intro w hSw; (try dsimp only at hSw); go_simp; try with_reducible rfl
  try simp only [Act.put, List.getElem_toArray, List.getElem_cons_succ, List.getElem_cons_zero, List.setIfInBounds_toArray, List.set_cons_zero, List.set_cons_succ]
  refine AnyZ.ready (rs := [13]) (by kernel_rfl) (by simp) ?_
  refine AllZ.last rfl (by kernel_rfl) (fun K hK => ?_) AllZ.nil
  go_simp
  skip
  refine hK.out _ _ ?_
  clear hK K
  try simp only [Act.put, List.getElem_toArray, List.getElem_cons_succ, List.getElem_cons_zero, List.setIfInBounds_toArray, List.set_cons_zero, List.set_cons_succ]
  refine AnyZ.done (by kernel_rfl) ?_ _
  go_upto_region 12 with fail
  obtain ⟨v5, hv5⟩ : ∃ z, z = Value.slice A5 (insI ⟨seq, c, n⟩ r.s.kept).length c5 := ⟨_, rfl⟩
  rw [← hv5] at HO5 HA5 ⊢
  have HV5 := Lib.hid hv5; clear hv5
  obtain ⟨w6, hw6⟩ : ∃ z, z = w5.setCell ⟨r.sb, 1, none⟩ v5 := ⟨_, rfl⟩
  rw [← hw6]
  have hf6 : Frm (fun k => k = r.sb) w5 w6 := by rw [hw6]; exact (Frm.refl (fun k => k = r.sb) _).setCell (p := ⟨r.sb, 1, none⟩) (fun _ => rfl) _
  have HSB6 : Hid (Blk w6 r.sb 71 #[.int .i64 r.s.high, v5]) := Lib.hid (by rw [hw6]; exact HSB5.out.set_ 1 _)
  have HP6 := Lib.hid (HP5.out.frm hf6 (by have := HNB.out; omega))
  have HO6 := Lib.hid (OwnK.frmA HO5.out hf6 (fun g hg e => by
    obtain ⟨cur, hc⟩ := OwnK.blkOf HO5.out hg
    exact Blk.ne_ (g := g) (cs := cur) hc HSB5.out (by decide) e))
  have HF6 : Hid (Frm (fun g => g = r.sb ∨ r.row.ownBlock = some g) w4 w6) := Lib.hid ((HF5.out.mono (fun k _ h => .inr h)).trans (hf6.mono (fun k _ h => .inl h)))
  clear hw6 hf6 HP5 HSB5 HX5 HO5 HF5 s51 f51 HX4 HP4 HSB4 HINS
  obtain ⟨hh, hhh⟩ : ∃ z, z = max r.s.high seq := ⟨_, rfl⟩
  have HHH := Lib.hid hhh; clear hhh
  have f60 := HSB6.out.free 0
  have s60 : w6.cell? ⟨r.sb, 0, none⟩ = some (.int .i64 r.s.high) := HSB6.out.cell 0
  refine AnyZ.start (S := (fun W => W.cell? ⟨w2.heap.size + 1, 0, none⟩ = some (.pointer (some ⟨r.sb, 0, none⟩)) ∧ W.cell? ⟨r.sb, 0, none⟩ = some (.int .i64 r.s.high))) (z := 9) (by kernel_rfl) ?_ (fun hHeld => ?_)
  · exact ⟨HP6.out.cell 0, HSB6.out.cell 0⟩
  refine AnyZ.take (i := 0) (v := ?_) rfl (by kernel_rfl) (by kernel_rfl) (by kernel_rfl) (by kernel_rfl) (fun _ _ _ h => h) (Or.inl ⟨by kernel_rfl, ?_⟩) (by assumption) ?_
  rotate_left
  · intro w hSw; (try dsimp only at hSw); go_simp; try with_reducible rfl
  try simp only [Act.put, List.getElem_toArray, List.getElem_cons_succ, List.getElem_cons_zero, List.setIfInBounds_toArray, List.set_cons_zero, List.set_cons_succ]
  refine AnyZ.take (i := 1) (v := ?_) rfl (by kernel_rfl) (by kernel_rfl) (by kernel_rfl) (by kernel_rfl) (fun _ _ _ h => h) (Or.inl ⟨by kernel_rfl, ?_⟩) (by assumption) ?_
  rotate_left
  · intro w hSw; (try dsimp only at hSw); go_simp; try with_reducible rfl
  try simp only [Act.put, List.getElem_toArray, List.getElem_cons_succ, List.getElem_cons_zero, List.setIfInBounds_toArray, List.set_cons_zero, List.set_cons_succ]
  refine AnyZ.take (i := 2) (v := ?_) rfl (by kernel_rfl) (by kernel_rfl) (by kernel_rfl) (by kernel_rfl) (fun _ _ _ h => h) (Or.inl ⟨by kernel_rfl, ?_⟩) (by assumption) ?_
  rotate_left
  · intro w hSw; (try dsimp only at hSw); go_simp; try with_reducible rfl
  try simp only [Act.put, List.getElem_toArray, List.getElem_cons_succ, List.getElem_cons_zero, List.setIfInBounds_toArray, List.set_cons_zero, List.set_cons_succ]
  refine AnyZ.take (i := 3) (v := ?_) rfl (by kernel_rfl) (by kernel_rfl) (by kernel_rfl) (by kernel_rfl) (fun _ _ _ h => h) (Or.inl ⟨by kernel_rfl, ?_⟩) (by assumption) ?_
  rotate_left
  · intro w hSw; (try dsimp only at hSw); go_simp; try with_reducible rfl
  try simp only [Act.put, List.getElem_toArray, List.getElem_cons_succ, List.getElem_cons_zero, List.setIfInBounds_toArray, List.set_cons_zero, List.set_cons_succ]
  refine AnyZ.take (i := 4) (v := ?_) rfl (by kernel_rfl) (by kernel_rfl) (by kernel_rfl) (by kernel_rfl) (fun _ _ _ h => h) (Or.inl ⟨by kernel_rfl, ?_⟩) (by assumption) ?_
  rotate_left
  · intro w hSw; (try dsimp only at hSw); go_simp; try with_reducible rfl
  try simp only [Act.put, List.getElem_toArray, List.getElem_cons_succ, List.getElem_cons_zero, List.setIfInBounds_toArray, List.set_cons_zero, List.set_cons_succ]
  refine AnyZ.take (i := 5) (v := ?_) rfl (by kernel_rfl) (by kernel_rfl) (by kernel_rfl) (by kernel_rfl) (fun _ _ _ h => h) (Or.inl ⟨by kernel_rfl, ?_⟩) (by assumption) ?_
  rotate_left
  · intro w hSw; (try dsimp only at hSw); go_simp; try with_reducible rfl
  try simp only [Act.put, List.getElem_toArray, List.getElem_cons_succ, List.getElem_cons_zero, List.setIfInBounds_toArray, List.set_cons_zero, List.set_cons_succ]
  refine AnyZ.ready (rs := [6]) (by kernel_rfl) (by simp) ?_
  refine AllZ.cons rfl (fun K hK => ?_) AllZ.nil
  go_simp
  skip
  refine hK.out _ _ ?_ (fun hHeld => ?_)
  · exact hHeld
  clear hK K
  try simp only [Act.put, List.getElem_toArray, List.getElem_cons_succ, List.getElem_cons_zero, List.setIfInBounds_toArray, List.set_cons_zero, List.set_cons_succ]
  refine AnyZ.takeAny (i := 7) (v := ?_) rfl (by kernel_rfl) (by kernel_rfl) (by kernel_rfl) (by kernel_rfl) (fun _ _ _ h => h) (Or.inl ⟨by kernel_rfl, ?_⟩) (by assumption) ?_
  rotate_left
  · intro w hSw; (try dsimp only at hSw); go_simp; try with_reducible rfl
  try simp only [Act.put, List.getElem_toArray, List.getElem_cons_succ, List.getElem_cons_zero, List.setIfInBounds_toArray, List.set_cons_zero, List.set_cons_succ]
  refine AnyZ.take (i := 8) (v := ?_) rfl (by kernel_rfl) (by kernel_rfl) (by kernel_rfl) (by kernel_rfl) (fun _ _ _ h => h) (Or.inl ⟨by kernel_rfl, ?_⟩) (by assumption) ?_
  rotate_left
  · intro w hSw; (try dsimp only at hSw); go_simp; try with_reducible rfl
  try simp only [Act.put, List.getElem_toArray, List.getElem_cons_succ, List.getElem_cons_zero, List.setIfInBounds_toArray, List.set_cons_zero, List.set_cons_succ]
  refine AnyZ.ready (rs := [9]) (by kernel_rfl) (by simp) ?_
  refine AllZ.last rfl (by kernel_rfl) (fun K hK => ?_) AllZ.nil
  go_simp
  skip
  refine hK.out _ _ ?_
  clear hK K
  try simp only [Act.put, List.getElem_toArray, List.getElem_cons_succ, List.getElem_cons_zero, List.setIfInBounds_toArray, List.set_cons_zero, List.set_cons_succ]
  refine AnyZ.done (by kernel_rfl) ?_ _
  go_upto_region 13 with fail
  rw [← HHH.out]
  obtain ⟨w7, hw7⟩ : ∃ z, z = (w6.setCell ⟨r.sb, 0, none⟩ (.int .i64 hh)).drew := ⟨_, rfl⟩
  rw [← hw7]
  have hf7 : Frm (fun k => k = r.sb) w6 w7 := by rw [hw7]; exact ((Frm.refl (fun k => k = r.sb) _).setCell (p := ⟨r.sb, 0, none⟩) (fun _ => rfl) _).drew
  have HSB7 : Hid (Blk w7 r.sb 71 #[.int .i64 hh, v5]) := Lib.hid (by rw [hw7]; exact (HSB6.out.set_ 0 _).drew)
  have HP7 := Lib.hid (HP6.out.frm hf7 (by have := HNB.out; omega))
  have HO7 := Lib.hid (OwnK.frmA HO6.out hf7 (fun g hg e => by
    obtain ⟨cur, hc⟩ := OwnK.blkOf HO6.out hg
    exact Blk.ne_ (g := g) (cs := cur) hc HSB6.out (by decide) e))
  have HF7 : Hid (Frm (fun g => g = r.sb ∨ r.row.ownBlock = some g) w4 w7) := Lib.hid (HF6.out.trans (hf7.mono (fun k _ h => .inl h)))
  clear hw7 hf7 HP6 HSB6 HO6 HF6 f60 s60
  have hlen : (insI ⟨seq, c, n⟩ r.s.kept).length ≤ 100 := by rw [insI_len]; have := HKEP.out.len; omega
  have HDEL := Lib.hid (DeleteFunc_it (w := w7.drew) HO7.out hlen (w2.heap.size + 1) r.sb hh (HP7.out.cell 0) (HSB7.out.cell 0) (by rw [HHH.out]; have := HSQ.out; omega) (by rw [HHH.out]; have := HSQ.out; have := HTOP.out; omega)
    (fun e => by obtain ⟨cur, hc⟩ := OwnK.blkOf HO7.out e; exact Blk.ne_ (g := w2.heap.size + 1) (cs := cur) hc HP7.out (by decide) rfl)
    (fun e => by obtain ⟨cur, hc⟩ := OwnK.blkOf HO7.out e; exact Blk.ne_ (g := r.sb) (cs := cur) hc HSB7.out (by decide) rfl))
  clear hlen
  refine AnyZ.start (S := (fun W => W.cell? ⟨w2.heap.size + 1, 0, none⟩ = some (.pointer (some ⟨r.sb, 0, none⟩)) ∧ W.cell? ⟨r.sb, 1, none⟩ = some v5)) (z := 9) (by kernel_rfl) ?_ (fun hHeld => ?_)
  · exact ⟨HP7.out.cell 0, HSB7.out.cell 1⟩
  refine AnyZ.take (i := 0) (v := ?_) rfl (by kernel_rfl) (by kernel_rfl) (by kernel_rfl) (by kernel_rfl) (fun _ _ _ h => h) (Or.inl ⟨by kernel_rfl, ?_⟩) (by assumption) ?_
  rotate_left
  · intro w hSw; (try dsimp only at hSw); go_simp; try with_reducible rfl
  try simp only [Act.put, List.getElem_toArray, List.getElem_cons_succ, List.getElem_cons_zero, List.setIfInBounds_toArray, List.set_cons_zero, List.set_cons_succ]
  refine AnyZ.take (i := 1) (v := ?_) rfl (by kernel_rfl) (by kernel_rfl) (by kernel_rfl) (by kernel_rfl) (fun _ _ _ h => h) (Or.inl ⟨by kernel_rfl, ?_⟩) (by assumption) ?_
  rotate_left
  · intro w hSw; (try dsimp only at hSw); go_simp; try with_reducible rfl
  try simp only [Act.put, List.getElem_toArray, List.getElem_cons_succ, List.getElem_cons_zero, List.setIfInBounds_toArray, List.set_cons_zero, List.set_cons_succ]
  refine AnyZ.take (i := 2) (v := ?_) rfl (by kernel_rfl) (by kernel_rfl) (by kernel_rfl) (by kernel_rfl) (fun _ _ _ h => h) (Or.inl ⟨by kernel_rfl, ?_⟩) (by assumption) ?_
  rotate_left
  · intro w hSw; (try dsimp only at hSw); go_simp; try with_reducible rfl
  try simp only [Act.put, List.getElem_toArray, List.getElem_cons_succ, List.getElem_cons_zero, List.setIfInBounds_toArray, List.set_cons_zero, List.set_cons_succ]
  refine AnyZ.take (i := 3) (v := ?_) rfl (by kernel_rfl) (by kernel_rfl) (by kernel_rfl) (by kernel_rfl) (fun _ _ _ h => h) (Or.inl ⟨by kernel_rfl, ?_⟩) (by assumption) ?_
  rotate_left
  · intro w hSw; (try dsimp only at hSw); go_simp; try with_reducible rfl
  try simp only [Act.put, List.getElem_toArray, List.getElem_cons_succ, List.getElem_cons_zero, List.setIfInBounds_toArray, List.set_cons_zero, List.set_cons_succ]
  refine AnyZ.take (i := 4) (v := ?_) rfl (by kernel_rfl) (by kernel_rfl) (by kernel_rfl) (by kernel_rfl) (fun _ _ _ h => h) (Or.inl ⟨by kernel_rfl, ?_⟩) (by assumption) ?_
  rotate_left
  · intro w hSw; (try dsimp only at hSw); go_simp; try with_reducible rfl
  try simp only [Act.put, List.getElem_toArray, List.getElem_cons_succ, List.getElem_cons_zero, List.setIfInBounds_toArray, List.set_cons_zero, List.set_cons_succ]
  refine AnyZ.take (i := 5) (v := ?_) rfl (by kernel_rfl) (by kernel_rfl) (by kernel_rfl) (by kernel_rfl) (fun _ _ _ h => h) (Or.inl ⟨by kernel_rfl, ?_⟩) (by assumption) ?_
  rotate_left
  · intro w hSw; (try dsimp only at hSw); go_simp; try with_reducible rfl
  try simp only [Act.put, List.getElem_toArray, List.getElem_cons_succ, List.getElem_cons_zero, List.setIfInBounds_toArray, List.set_cons_zero, List.set_cons_succ]
  refine AnyZ.ready (rs := [6]) (by kernel_rfl) (by simp) ?_
  refine AllZ.cons rfl (fun K hK => ?_) AllZ.nil
  go_simp
  (with_reducible refine HDEL.out.mono ?_); rintro e w8 ⟨v8, rfl, ho8, hf8, ha8⟩
  obtain ⟨A8, c8, rfl⟩ := ho8.form
  have hd8 : ∀ g, v5.ownBlock = some g → g ≠ w2.heap.size + 1 ∧ g ≠ r.sb := fun g hg => by
    obtain ⟨cur, hc⟩ := OwnK.blkOf HO7.out hg
    exact ⟨Blk.ne_ (g := g) (cs := cur) hc HP7.out (by decide), Blk.ne_ (g := g) (cs := cur) hc HSB7.out (by decide)⟩
  have HSB8 := Lib.hid (HSB7.out.frm (Frm.drew (Frm.refl (fun _ => False) _) |>.mono (fun _ _ h => h.elim) |>.trans hf8) (fun e => (hd8 _ e).2 rfl))
  have HP8 := Lib.hid (HP7.out.frm (Frm.drew (Frm.refl (fun _ => False) _) |>.mono (fun _ _ h => h.elim) |>.trans hf8) (fun e => (hd8 _ e).1 rfl))
  have HO8 := Lib.hid ho8; clear ho8
  have HF8 : Hid (Frm (fun g => v5.ownBlock = some g) w7 w8) := Lib.hid (Frm.drew (Frm.refl (fun _ => False) _) |>.mono (fun _ _ h => h.elim) |>.trans hf8)
  have HA8 := Lib.hid ha8; clear ha8 hf8 hd8
  have f81 := HSB8.out.free 1
  have s81 : w8.cell? ⟨r.sb, 1, none⟩ = some v5 := HSB8.out.cell 1
  refine hK.out _ _ ?_ (fun hHeld => ?_)
  · exact ⟨HP8.out.cell 0, HSB8.out.cell 1⟩
  clear hK K
  try simp only [Act.put, List.getElem_toArray, List.getElem_cons_succ, List.getElem_cons_zero, List.setIfInBounds_toArray, List.set_cons_zero, List.set_cons_succ]
  refine AnyZ.takeAny (i := 7) (v := ?_) rfl (by kernel_rfl) (by kernel_rfl) (by kernel_rfl) (by kernel_rfl) (fun _ _ _ h => h) (Or.inl ⟨by kernel_rfl, ?_⟩) (by assumption) ?_
  rotate_left
  · intro w hSw; (try dsimp only at hSw); go_simp; try with_reducible rfl
  try simp only [Act.put, List.getElem_toArray, List.getElem_cons_succ, List.getElem_cons_zero, List.setIfInBounds_toArray, List.set_cons_zero, List.set_cons_succ]
  refine AnyZ.take (i := 8) (v := ?_) rfl (by kernel_rfl) (by kernel_rfl) (by kernel_rfl) (by kernel_rfl) (fun _ _ _ h => h) (Or.inl ⟨by kernel_rfl, ?_⟩) (by assumption) ?_
  rotate_left
  · intro w hSw; (try dsimp only at hSw); go_simp; try with_reducible rfl
  try simp only [Act.put, List.getElem_toArray, List.getElem_cons_succ, List.getElem_cons_zero, List.setIfInBounds_toArray, List.set_cons_zero, List.set_cons_succ]
  refine AnyZ.ready (rs := [9]) (by kernel_rfl) (by simp) ?_
  refine AllZ.last rfl (by kernel_rfl) (fun K hK => ?_) AllZ.nil
  go_simp
  skip
  refine hK.out _ _ ?_
  clear hK K
  try simp only [Act.put, List.getElem_toArray, List.getElem_cons_succ, List.getElem_cons_zero, List.setIfInBounds_toArray, List.set_cons_zero, List.set_cons_succ]
  refine AnyZ.done (by kernel_rfl) ?_ _
  go_wp2_with fail
  go_ret
  rw [HPUT.out]
  exact Put_end HFOOT.out H4.out HRM.out HIDS.out HOK.out HF4.out HF7.out HHH.out HSB8.out HO8.out HF8.out HA8.out HA5.out (by rw [HV5.out])
theorem Put_any {base : Nat} {w : World} {p mb : Nat} {t : Tb} {rs : List Rec} (h : TRep base w p t mb rs) (id seq c n : Int) (hid : (Lit.int .i64 id).wf = true) :
    Calls Try.prog 11 #[.pointer (some ⟨p, 0, none⟩), .int .i64 id, .int .i64 seq, .agg #[.int .i64 c, .int .i64 n]] w (PutP base p mb rs (putT t id seq c n) w) := by
  by_cases h0 : lookC t id seq = 0
  · cases hv : vdOk c n with
    | false => exact Put_bad h id seq c n hid h0 hv
    | true =>
      cases hr : findR id rs with
      | none => exact Put_new h id seq c n hid h0 hv hr
      | some r => exact Put_old h id seq c n hid h0 hv hr
  · exact Put_no h id seq c n hid h0
/-- a table none of whose blocks is in G -/
def TX (G : Nat → Prop) (w : World) (p : Nat) (t : Tb) : Prop := ∃ mb rs, TRep 0 w p t mb rs ∧ (∀ g, Foot p mb rs g → ¬ G g) ∧ ∀ g, G g → g < w.heap.size
section
variable {G : Nat → Prop} {w w' : World} {p : Nat} {t : Tb}
theorem TX.tab (h : TX G w p t) : TabAt 0 w p t := by obtain ⟨mb, rs, h, -⟩ := h; exact ⟨mb, rs, h⟩
theorem TX.below (h : TX G w p t) (hb : Below w.heap.size w w') : TX G w' p t := by
  obtain ⟨mb, rs, h, h1, h2⟩ := h
  exact ⟨mb, rs, h.below hb, h1, fun g hg => Nat.lt_of_lt_of_le (h2 g hg) hb.size⟩
theorem TX.ok (h : TX G w p t) : OkT t := by obtain ⟨mb, rs, h, -⟩ := h; exact h.ok
theorem Foot.lt {mb : Nat} {rs : List Rec} {base g : Nat} (h : TRep base w p t mb rs) (hg : Foot p mb rs g) : g < w.heap.size := by
  rcases hg with rfl | rfl | ⟨r, hr, rfl | hg⟩
  · exact h.blk.lt
  · exact h.map.lt
  · exact (h.recs r hr).1.lt
  · obtain ⟨cur, hc⟩ := Rec.row_blk (h.recs r hr) hg
    exact lt_of_block hc
/-- a block that is made is kept apart -/
theorem TX.more (h : TX G w p t) (o : Obj) : TX (fun g => G g ∨ g = w.heap.size) (w.alloc o) p t := by
  obtain ⟨mb, rs, h, h1, h2⟩ := h
  refine ⟨mb, rs, h.below ((Below.refl _ _).alloc (Nat.le_refl _) o), fun g hg e => ?_, fun g hg => ?_⟩
  · rcases e with e | e
    · exact h1 g hg e
    · have := Foot.lt h hg; omega
  · rw [World.size_alloc]
    rcases hg with hg | hg
    · have := h2 g hg; omega
    · omega
theorem TX.less {H : Nat → Prop} (h : TX G w p t) (hs : ∀ g, H g → G g) : TX H w p t := by
  obtain ⟨mb, rs, h, h1, h2⟩ := h
  exact ⟨mb, rs, h, fun g hg e => h1 g hg (hs g e), fun g hg => h2 g (hs g hg)⟩
def XPut (G : Nat → Prop) (p : Nat) (r : Tb × Int) (w : World) (e : Ending) (w' : World) : Prop := e = .returned (.int .i64 r.2) ∧ TX G w' p r.1 ∧ Frm (fun g => ¬ G g) w w'
theorem X_Put (h : TX G w p t) (id seq c n : Int) (hid : (Lit.int .i64 id).wf = true) :
    Calls Try.prog 11 #[.pointer (some ⟨p, 0, none⟩), .int .i64 id, .int .i64 seq, .agg #[.int .i64 c, .int .i64 n]] w (XPut G p (putT t id seq c n) w) := by
  obtain ⟨mb, rs, h, h1, h2⟩ := h
  refine (Put_any h id seq c n hid).mono fun e w' ⟨he, rs', ht, hf, hs⟩ => ?_
  refine ⟨he, ⟨mb, rs', ht, fun g hg e => ?_, fun g hg => Nat.lt_of_lt_of_le (h2 g hg) hf.size⟩, hf.mono fun k _ hk => h1 k hk⟩
  rcases hs g hg with hg | hg
  · exact h1 g hg e
  · have := h2 g e; omega
theorem X_New (w : World) : Calls Try.prog 9 #[] w fun e w' => ∃ p, e = .returned (.pointer (some ⟨p, 0, none⟩)) ∧ TX (fun g => g < w.heap.size) w' p [] ∧ Below w.heap.size w w' := by
  refine (New_any w).mono fun e w' ⟨p, he, ⟨mb, rs, ht⟩, hb⟩ => ⟨p, he, ⟨mb, rs, ?_, fun g hg e => ?_, fun g hg => Nat.lt_of_lt_of_le hg hb.size⟩, hb⟩
  · refine ⟨{ ht.toTRep0 with inP := Nat.zero_le _, inM := Nat.zero_le _, recs := fun r hr => ?_ }, ht.ok⟩
    obtain ⟨a, b, c⟩ := ht.recs r hr
    exact ⟨a, Nat.zero_le _, c.base_ (Nat.zero_le _)⟩
  · rcases hg with rfl | rfl | ⟨r, hr, rfl | hg⟩
    · have := ht.inP; omega
    · have := ht.inM; omega
    · have := (ht.recs r hr).2.1; omega
    · have := (OwnK.lt (ht.recs r hr).2.2 _ hg).1; omega
end
end Go.Proofs.Ytakebmbdcjbbgaa
