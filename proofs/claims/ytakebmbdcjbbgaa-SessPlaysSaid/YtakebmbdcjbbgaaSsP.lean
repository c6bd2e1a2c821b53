/- Layer 13: what a table is behind a Put: a session's block and its list told anew, a new session. No walk. -/
import Derived.Test.YtakebmbdcjbbgaaSsR
import Derived.Test.YtakebmbdcjbbgaaRowK
namespace Go.Proofs.Ytakebmbdcjbbgaa
open Go Go.RowKit Go.Maps Go.Lib Mem Ss

theorem not_map_blk {P : Program} {k : TypeId} {R : Value → Option (DataW Unit × List MemPlace)} {b n : Nat} {D : DataW Unit} {w : World} (h : w.ownsMap P k R b n D) {g : Nat} {cur : Array Value} {e : TypeId} {fr : Nat × Nat} (hg : w.heap[g]? = some (.cells cur e fr)) : b ≠ g := by
  obtain ⟨es, clock, hb, -⟩ := h
  intro e2
  rw [e2, hg] at hb
  cases hb
theorem OwnK.blkOf {α : Type} {k : Nat} {f : α → List Value} {base : Nat} {e : TypeId} {w : World} {v : Value} {xs : List α} (h : OwnK k f base e w v xs) {g : Nat} (hg : v.ownBlock = some g) : ∃ cur, w.heap[g]? = some (.cells cur e (0, 0)) := by
  rcases h.2 with ⟨rfl, -⟩ | ⟨g', cap, cur, rfl, hb, hh, -⟩
  · cases hg
  · cases hg; exact ⟨cur, hh⟩
theorem OwnK.frmA {α : Type} {k : Nat} {f : α → List Value} {base : Nat} {e : TypeId} {w w' : World} {v : Value} {xs : List α} {F : Nat → Prop} (h : OwnK k f base e w v xs) (hf : Frm F w w') (hn : ∀ g, v.ownBlock = some g → ¬ F g) : OwnK k f base e w' v xs := by
  obtain ⟨a, b⟩ := h
  refine ⟨a, ?_⟩
  rcases b with b | ⟨g, cap, cur, e', hb, hh, c⟩
  · exact .inl b
  · refine .inr ⟨g, cap, cur, e', hb, (hf.block g (lt_of_block hh) (hn g (by rw [e']; rfl))).trans hh, c⟩
theorem Rec.row_blk {base : Nat} {w : World} {r : Rec} (h : RecOK base w r) {g : Nat} (hg : r.row.ownBlock = some g) : ∃ cur, w.heap[g]? = some (.cells cur 76 (0, 0)) := OwnK.blkOf h.2.2 hg
section
variable {base : Nat} {w w' : World} {p mb : Nat} {t : Tb} {rs : List Rec} {r : Rec}
/-- a session's block and its list told anew -/
theorem TRep0.upd (h : TRep0 base w p t mb rs) (hr : r ∈ rs) {s' : Sn} (hid : s'.id = r.s.id) {A' : Option Addr} {c' : Nat}
    (hf : Frm (fun g => g = r.sb ∨ r.row.ownBlock = some g) w w') (hb : Blk w' r.sb 71 #[.int .i64 s'.high, .slice A' s'.kept.length c'])
    (ho : OwnK 3 itN base 76 w' (.slice A' s'.kept.length c') s'.kept) (ha : (Value.slice A' s'.kept.length c').ownBlock = r.row.ownBlock ∨ ∃ g, (Value.slice A' s'.kept.length c').ownBlock = some g ∧ w.heap.size ≤ g)
    (hids : (rs.map fun x => x.s.id).Nodup) :
    TRep0 base w' p (updS s' t) mb (updR ⟨s', r.sb, A', c'⟩ rs) := by
  obtain ⟨hrb, hrs, hro⟩ := h.recs r hr
  have hpn : ¬ (p = r.sb ∨ r.row.ownBlock = some p) := by
    rintro (e | e)
    · exact h.blk.ne_ hrb (by decide) e
    · obtain ⟨cur, hc⟩ := OwnK.blkOf hro e
      exact h.blk.ne_ (g' := p) (cs' := cur) hc (by decide) rfl
  have hmn : ¬ (mb = r.sb ∨ r.row.ownBlock = some mb) := by
    rintro (e | e)
    · exact not_map_blk h.map hrb e
    · obtain ⟨cur, hc⟩ := OwnK.blkOf hro e
      exact not_map_blk h.map hc rfl
  -- what is updated and what is not
  have hpart : ∀ y ∈ rs, (y.s.id = r.s.id → y = r) := fun y hy e => by
    obtain ⟨i, hi, rfl⟩ := List.getElem_of_mem hy
    obtain ⟨j, hj, rfl⟩ := List.getElem_of_mem hr
    have h1 := List.nodup_iff_pairwise_ne.1 hids
    rw [List.pairwise_iff_getElem] at h1
    have hij : i = j := by
      rcases Nat.lt_trichotomy i j with h2 | h2 | h2
      · have h3 := h1 i j (by simpa using hi) (by simpa using hj) h2
        rw [List.getElem_map, List.getElem_map] at h3
        exact absurd e h3
      · exact h2
      · have h3 := h1 j i (by simpa using hj) (by simpa using hi) h2
        rw [List.getElem_map, List.getElem_map] at h3
        exact absurd e.symm h3
    subst hij; rfl
  have hsb : ∀ y ∈ rs, y.s.id ≠ r.s.id → y.sb ≠ r.sb := fun y hy e e2 => by
    obtain ⟨i, hi, rfl⟩ := List.getElem_of_mem hy
    obtain ⟨j, hj, rfl⟩ := List.getElem_of_mem hr
    have h1 := List.nodup_iff_pairwise_ne.1 h.sbs
    rw [List.pairwise_iff_getElem] at h1
    have hij : i = j := by
      rcases Nat.lt_trichotomy i j with h2 | h2 | h2
      · have h3 := h1 i j (by simpa using hi) (by simpa using hj) h2
        rw [List.getElem_map, List.getElem_map] at h3
        exact absurd e2 h3
      · exact h2
      · have h3 := h1 j i (by simpa using hj) (by simpa using hi) h2
        rw [List.getElem_map, List.getElem_map] at h3
        exact absurd e2.symm h3
    subst hij; exact e rfl
  have hap : ∀ y ∈ rs, y.s.id ≠ r.s.id → Apart y.row r.row := fun y hy e => by
    obtain ⟨i, hi, rfl⟩ := List.getElem_of_mem hy
    obtain ⟨j, hj, rfl⟩ := List.getElem_of_mem hr
    have h1 := h.rows
    rw [List.pairwise_iff_getElem] at h1
    rcases Nat.lt_trichotomy i j with h2 | h2 | h2
    · exact h1 i j hi hj h2
    · subst h2; exact absurd rfl e
    · exact (h1 j i hj hi h2).symm
  have hrow' : ∀ y ∈ rs, y.s.id ≠ r.s.id → Apart y.row (Value.slice A' s'.kept.length c') := fun y hy e g h1 h2 => by
    rcases ha with ha | ⟨g', ha, hg'⟩
    · rw [ha] at h2; exact hap y hy e g h1 h2
    · rw [ha] at h2; cases h2
      obtain ⟨cur, hc⟩ := Rec.row_blk (h.recs y hy) h1
      have := lt_of_block hc
      omega
  refine { blk := h.blk.frm hf hpn, inP := h.inP, inM := h.inM, map := ?_, sess := by rw [updR_s, h.sess], recs := ?_, sbs := ?_, rows := ?_ }
  · have e1 : (updR ⟨s', r.sb, A', c'⟩ rs).length = rs.length := by unfold updR; rw [List.length_map]
    have e2 : (updR ⟨s', r.sb, A', c'⟩ rs).map entry = rs.map entry := by
      unfold updR
      rw [List.map_map]
      refine List.map_congr_left fun y hy => ?_
      simp only [Function.comp]
      split
      · rename_i he
        have he' : y.s.id = s'.id := by simpa using he
        have := hpart y hy (by rw [he', hid])
        subst this
        unfold entry; rw [he']
      · rfl
    rw [e1, e2]
    exact map_frm h.map hf hmn
  · intro x hx
    unfold updR at hx
    obtain ⟨y, hy, rfl⟩ := List.mem_map.1 hx
    split
    · exact ⟨hb, hrs, ho⟩
    · rename_i he
      have he' : y.s.id ≠ r.s.id := by rw [← hid]; simpa using he
      obtain ⟨g1, g2, g3⟩ := h.recs y hy
      refine ⟨g1.frm hf ?_, g2, OwnK.frmA g3 hf ?_⟩
      · rintro (e | e)
        · exact hsb y hy he' e
        · obtain ⟨cur, hc⟩ := OwnK.blkOf hro e
          exact g1.ne_ (g' := y.sb) (cs' := cur) hc (by decide) rfl
      · rintro g hg (e | e)
        · obtain ⟨cur, hc⟩ := OwnK.blkOf g3 hg
          rw [e] at hc
          exact hrb.ne_ (g' := r.sb) (cs' := cur) hc (by decide) rfl
        · exact hap y hy he' g hg e
  · have : (updR ⟨s', r.sb, A', c'⟩ rs).map Rec.sb = rs.map Rec.sb := by
      unfold updR
      rw [List.map_map]
      refine List.map_congr_left fun y hy => ?_
      simp only [Function.comp]
      split
      · rename_i he
        have he' : y.s.id = s'.id := by simpa using he
        have := hpart y hy (by rw [he', hid])
        subst this; rfl
      · rfl
    rw [this]; exact h.sbs
  · unfold updR
    rw [List.pairwise_map]
    have hids' : rs.Pairwise fun a b => a.s.id ≠ b.s.id := by
      have := List.nodup_iff_pairwise_ne.1 hids
      rwa [List.pairwise_map] at this
    refine List.Pairwise.imp_of_mem (fun {a b} ha hb ⟨h1, h2⟩ => ?_) (hids'.and h.rows)
    split <;> split
    · rename_i e1 e2
      exact absurd ((by simpa using e1 : a.s.id = s'.id).trans (by simpa using e2 : b.s.id = s'.id).symm) h1
    · rename_i e1 e2
      exact (hrow' b hb (by rw [← hid]; simpa using e2)).symm
    · rename_i e1 e2
      exact hrow' a ha (by rw [← hid]; simpa using e1)
    · exact h2
/-- a new session -/
theorem TRep0.ins (h : TRep0 base w p t mb rs) {id : Int} (hn : findR id rs = none) {sb : Nat} (hsb : w.heap.size ≤ sb) (hbw : base ≤ w.heap.size)
    (hf : Frm (fun g => g = mb) w w') (hb : Blk w' sb 71 #[.int .i64 0, .slice none 0 0])
    (hm : w'.ownsMap Try.prog 2 ptrR mb (rs.length + 1) ((DataW.map (rs.map entry)).put (.int .i64 id) (.lit (.int .i64 sb)))) :
    TRep0 base w' p (insS ⟨id, 0, []⟩ t) mb (insR ⟨⟨id, 0, []⟩, sb, none, 0⟩ rs) := by
  have hids := findR_none hn
  have hperm : (insR ⟨⟨id, 0, []⟩, sb, none, 0⟩ rs).Perm (⟨⟨id, 0, []⟩, sb, none, 0⟩ :: rs) := by
    clear h hn hids hm
    induction rs with
    | nil => exact List.Perm.refl _
    | cons y q ih =>
      unfold insR; split
      · exact List.Perm.refl _
      · exact (ih.cons y).trans (List.Perm.swap _ y q)
  have hmem : ∀ x, x ∈ insR ⟨⟨id, 0, []⟩, sb, none, 0⟩ rs ↔ x = ⟨⟨id, 0, []⟩, sb, none, 0⟩ ∨ x ∈ rs := fun x => by rw [hperm.mem_iff, List.mem_cons]
  refine { blk := h.blk.frm hf (fun e => not_map_blk h.map h.blk e.symm), inP := h.inP, inM := h.inM, map := ?_, sess := by rw [insR_s, h.sess], recs := ?_, sbs := ?_, rows := ?_ }
  · have e1 : (insR ⟨⟨id, 0, []⟩, sb, none, 0⟩ rs).length = rs.length + 1 := by rw [hperm.length_eq]; rfl
    rw [e1, ← put_entries (r := ⟨⟨id, 0, []⟩, sb, none, 0⟩) hids]
    exact hm
  · intro x hx
    rcases (hmem x).1 hx with rfl | hx
    · exact ⟨hb, by show base ≤ sb; omega, OwnK.nil⟩
    · obtain ⟨g1, g2, g3⟩ := h.recs x hx
      refine ⟨g1.frm hf (fun e => not_map_blk h.map g1 e.symm), g2, OwnK.frmA g3 hf fun g hg e => ?_⟩
      obtain ⟨cur, hc⟩ := OwnK.blkOf g3 hg
      exact not_map_blk h.map hc e.symm
  · rw [(hperm.map Rec.sb).nodup_iff, List.map_cons, List.nodup_cons]
    refine ⟨fun e => ?_, h.sbs⟩
    obtain ⟨y, hy, e⟩ := List.mem_map.1 e
    have := (h.recs y hy).1.lt
    have e' : y.sb = sb := e
    omega
  · have hsym : ∀ {a b : Rec}, Apart a.row b.row → Apart b.row a.row := fun h => h.symm
    rw [hperm.pairwise_iff hsym, List.pairwise_cons]
    exact ⟨(fun y hy g h1 _ => by cases h1), h.rows⟩
end
theorem nodup_ids {t : Tb} (h : t.Pairwise fun a b => a.id < b.id) {rs : List Rec} (hs : rs.map Rec.s = t) : (rs.map fun x => x.s.id).Nodup := by
  rw [← hs, List.pairwise_map] at h
  rw [List.nodup_iff_pairwise_ne, List.pairwise_map]
  exact h.imp fun {a b} hab e => by omega
end Go.Proofs.Ytakebmbdcjbbgaa
