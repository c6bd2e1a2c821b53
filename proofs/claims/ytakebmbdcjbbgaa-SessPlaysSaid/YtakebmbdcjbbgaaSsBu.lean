/- Layer 13: the program's Bytes: its loops. -/
import Derived.Test.YtakebmbdcjbbgaaSsBt
namespace Go.Proofs.Ytakebmbdcjbbgaa
open Go Go.RowKit Go.Maps Go.Lib Mem Ss Pk

theorem flat_take_snoc {α β : Type} (f : α → List β) (l : List α) {k : Nat} (h : k < l.length) : (l.take (k + 1)).flatMap f = (l.take k).flatMap f ++ f l[k] := by
  rw [List.take_succ_eq_append_getElem h, List.flatMap_append]; simp
theorem itNs_len (k : List It) : (k.flatMap itNs).length = 3 * k.length := by
  induction k with
  | nil => rfl
  | cons y r ih => rw [List.flatMap_cons, List.length_append, ih, List.length_cons]; show 3 + 3 * r.length = _; omega
theorem snNs_len {s : Sn} (h : s.kept.length ≤ 8) : (snNs s).length ≤ 27 := by
  unfold snNs; rw [List.length_append, itNs_len]; show 3 + 3 * s.kept.length ≤ 27; omega
theorem tbNs_len {t : Tb} (h : ∀ s ∈ t, s.kept.length ≤ 8) : (t.flatMap snNs).length ≤ 27 * t.length := by
  induction t with
  | nil => simp
  | cons s r ih =>
    have h1 := snNs_len (h s List.mem_cons_self)
    have h2 := ih (fun x hx => h x (List.mem_cons_of_mem _ hx))
    rw [List.flatMap_cons, List.length_append, List.length_cons]; omega
theorem slb_lit {w : World} {e : TypeId} (xs : List Int) (h : xs.length ≤ maxLen) : SlB fI e (fun g => g = w.heap.size) (w.alloc (.cells (xs.map fI).toArray e)) (some ⟨w.heap.size, 0, none⟩) xs := by
  refine ⟨h, fun _ => ⟨w.heap.size, 0, (xs.map fI).toArray, (0, 0), rfl, rfl, heap_alloc_new w _, fun j hj => ?_⟩⟩
  simp [hj]
theorem tbNs_ok {t : Tb} (h : OkT t) : ∀ n ∈ tbNs t, i64ok n := by
  intro n hn
  unfold tbNs at hn
  have hf := h.few
  rcases List.mem_cons.1 hn with rfl | hn
  · unfold i64ok; omega
  · obtain ⟨s, hs, hn⟩ := List.mem_flatMap.1 hn
    have hos := h.each s hs
    have h1 := numOk_iff.1 hos.id
    have h2 := hos.low
    have h3 := hos.top
    have h4 := hos.kept.len
    unfold snNs at hn
    rcases List.mem_append.1 hn with hn | hn
    · simp only [List.mem_cons, List.not_mem_nil, or_false] at hn
      unfold i64ok
      rcases hn with rfl | rfl | rfl <;> omega
    · obtain ⟨i, hi, hn⟩ := List.mem_flatMap.1 hn
      have g1 := hos.kept.pos i hi
      have g2 := hos.kept.high i hi
      have g3 := vdOk_iff.1 (hos.kept.vd i hi)
      unfold itNs at hn
      simp only [List.mem_cons, List.not_mem_nil, or_false] at hn
      unfold i64ok
      rcases hn with rfl | rfl | rfl <;> omega
theorem Mem.Own.base_ {α : Type} {f : α → Value} {w : World} {v : Value} {xs : List α} {base base' : Nat} {e : TypeId} (h : Mem.Own f base e w v xs) (hb : base' ≤ base) : Mem.Own f base' e w v xs := by
  obtain ⟨h1, h2⟩ := h
  refine ⟨h1, ?_⟩
  rcases h2 with h2 | ⟨g, cap, cur, a, b, c⟩
  · exact .inl h2
  · exact .inr ⟨g, cap, cur, a, Nat.le_trans hb b, c⟩
/-- the box of the values, the ids' list -/
structure Bst (B vb : Nat) (A : Option Addr) (ids : List Int) (all : List Int) (w : World) (v' : Value) (W : World) : Prop where
  box : Blk W vb 87 #[v']
  own : OwnK 5 valN B 90 W v' all
  below : Below B w W
  ids : SlB fI 2 (fun g => B ≤ g) W A ids
theorem Bst.num {B vb : Nat} {A : Option Addr} {ids all ns : List Int} {w W W' : World} {v' : Value} (h : Bst B vb A ids all w v' W) (hvb : B ≤ vb) (hB : B ≤ W.heap.size) {e : Ending} (hn : NmP B vb v' (all ++ ns) W e W') : e = .returned (.tuple #[]) ∧ ∃ v2, Bst B vb A ids (all ++ ns) w v2 W' := by
  obtain ⟨he, v2, h1, h2, h3, -⟩ := hn
  have hF : ∀ g, g < W.heap.size → (g = vb ∨ v'.ownBlock = some g) → ∃ cur e fr, W.heap[g]? = some (.cells cur e fr) ∧ e ≠ 2 := fun g _ hg => by
    rcases hg with rfl | hg
    · exact ⟨_, _, _, h.box, by decide⟩
    · obtain ⟨cur, hc⟩ := OwnK.blkOf h.own hg
      exact ⟨cur, _, _, hc, by decide⟩
  refine ⟨he, v2, h1, h2, h.below.trans (h3.to_below (fun k _ hk hf => ?_) hB), ?_⟩
  · rcases hf with rfl | hf
    · omega
    · have := (OwnK.lt h.own _ hf).1; omega
  · refine SlB.keep h.ids fun g cur fr hg hc => h3.block g (lt_of_block hc) fun hf => ?_
    obtain ⟨cur', e', fr', hc', hne⟩ := hF g (lt_of_block hc) hf
    rw [hc] at hc'; cases hc'; exact hne rfl
theorem Bst.alloc {B vb : Nat} {A : Option Addr} {ids all : List Int} {w W : World} {v' : Value} (h : Bst B vb A ids all w v' W) (hB : B ≤ W.heap.size) (o : Obj) : Bst B vb A ids all w v' (W.alloc o) :=
  ⟨h.box.alloc o, h.own.alloc o, h.below.alloc hB o, h.ids.below ((Below.refl _ _).alloc (Nat.le_refl _) o)⟩
theorem Bst.drew {B vb : Nat} {A : Option Addr} {ids all : List Int} {w W : World} {v' : Value} (h : Bst B vb A ids all w v' W) : Bst B vb A ids all w v' W.drew := ⟨h.box, h.own.drewN 1, h.below.drew, h.ids.drewN 1⟩
def BoRel (B vb : Nat) (A : Option Addr) (t : Tb) (w : World) (iv : Value) (W : World) : Prop := ∃ (k : Nat) (v' : Value), k ≤ t.length ∧ iv = .int .i64 k ∧ Bst B vb A (t.map Sn.id) ((t.length : Int) :: (t.take k).flatMap snNs) w v' W
def BiRel (B vb : Nat) (A : Option Addr) (ids pre : List Int) (kept : List It) (w : World) (iv : Value) (W : World) : Prop := ∃ (j : Nat) (v' : Value), j ≤ kept.length ∧ iv = .int .i64 j ∧ Bst B vb A ids (pre ++ (kept.take j).flatMap itNs) w v' W
def BytP (bs : List UInt8) (w : World) (e : Ending) (w' : World) : Prop := ∃ A c, e = .returned (.slice A bs.length c) ∧ Mem.Own fB w.heap.size 5 w' (.slice A bs.length c) bs ∧ Below w.heap.size w w'
set_option maxRecDepth 100000 in
set_option maxHeartbeats 4000000 in
theorem Bytes_any {base : Nat} {w : World} {p : Nat} {t : Tb} (h : TabAt base w p t) :
    Calls Try.prog 22 #[.pointer (some ⟨p, 0, none⟩)] w (BytP (numsB (tbNs t)) w) := by
  obtain ⟨mb, rs, h⟩ := h
  have HH := Lib.hid h
  have hok := h.ok
  have hfew := hok.few
  have HOK := Lib.hid hok
  have hst := fun (a : Addr) (r : Nat) (w : World) => run_store Try.prog w a (.float .f64 r) .plain rfl
  clear h hok
  go_enter Try.func22, Try.ntmps22
  go_upto_region 2 with fail
  obtain ⟨w1, hw1⟩ : ∃ z, z = w.alloc (.cells #[.slice none 0 0] 87) := ⟨_, rfl⟩
  rw [← hw1]
  have HB1 : Hid (Below w.heap.size w w1) := Lib.hid (by rw [hw1]; exact (Below.refl _ _).alloc (Nat.le_refl _) _)
  have HV1 : Hid (Blk w1 w.heap.size 87 #[.slice none 0 0]) := Lib.hid (by rw [hw1]; exact Blk.new_ w _ _)
  clear hw1
  have HH1 := Lib.hid (HH.out.below HB1.out)
  have c0 : w1.cell? ⟨p, 0, none⟩ = some (.map (some mb)) := HH1.out.blk.cell 0
  have hln := fun ty => HH1.out.len ty
  go_wp2_with fail
  have hsz1 : w.heap.size ≤ w1.heap.size := HB1.out.size
  have hB0 : Bst w.heap.size w.heap.size none [] [] w (.slice none 0 0) (w1.alloc (.cells #[.int .i64 (t.length : Int)] 2)) := ⟨HV1.out.alloc _, OwnK.nil, HB1.out.alloc hsz1 _, SlB.nil⟩
  have HB0 := Lib.hid hB0
  have HN0 : Hid (Calls Try.prog 38 #[.slice (some ⟨w1.heap.size, 0, none⟩) 1 1, .pointer (some ⟨w.heap.size, 0, none⟩)] _ (NmP w.heap.size w.heap.size (.slice none 0 0) ([] ++ [(t.length : Int)]) _)) := Lib.hid (num_any (B := w.heap.size) hB0.box hB0.own (by rw [World.size_alloc]; omega) (some ⟨w1.heap.size, 0, none⟩) 1 [(t.length : Int)] (slb_lit (w := w1) [(t.length : Int)] (show 1 ≤ maxLen by decide)) (by simp))
  clear hB0 c0 hln
  (with_reducible refine HN0.out.mono ?_); rintro e w2 hn2
  obtain ⟨rfl, v2, hb2⟩ := HB0.out.num (Nat.le_refl _) (by rw [World.size_alloc]; omega) hn2
  have HB2 := Lib.hid hb2
  have HSZ2 : Hid (w.heap.size ≤ w2.heap.size) := Lib.hid hb2.below.size
  clear hn2 hb2 HN0 HB0 hsz1
  have HH2 := Lib.hid (HH.out.below HB2.out.below)
  have HSS := Lib.hid (Sessions_any ⟨mb, rs, HH2.out⟩)
  have hidl : (t.map Sn.id).length = t.length := List.length_map _
  have HIDL := Lib.hid hidl
  clear hidl
  go_wp2_with fail
  (with_reducible refine HSS.out.mono ?_); rintro e w3 ⟨A3, c3, rfl, ho3, hb3⟩
  rw [HIDL.out] at ho3 ⊢
  have HB3 : Hid (Bst w.heap.size w.heap.size A3 (t.map Sn.id) [(t.length : Int)] w v2 w3) := Lib.hid ⟨HB2.out.box.below hb3 HB2.out.box.lt, HB2.out.own.below hb3, HB2.out.below.trans (hb3.mono HSZ2.out), (SlB.of_own ho3).2.mono (fun g _ h => Nat.le_trans HSZ2.out h)⟩
  clear ho3 hb3 HSS HB2 HH2 HH1
  go_wp2_with fail
  go_loopw [24] (fun iv wr => BoRel w.heap.size w.heap.size A3 t w iv wr) (fun iv _ => t.length - (RowKit.intOf iv).toNat)
  case atStart => exact ⟨0, v2, Nat.zero_le _, rfl, by rw [List.take_zero]; exact HB3.out⟩
  case round =>
    obtain ⟨k, v', hk, rfl, hbst⟩ := hrel
    obtain ⟨wo, rfl⟩ : ∃ wo, wo = wr := ⟨_, rfl⟩
    have HBO := Lib.hid hbst
    have HSZ : Hid (w.heap.size ≤ wo.heap.size) := Lib.hid hbst.below.size
    have HHO := Lib.hid (HH.out.below hbst.below)
    clear hbst
    have hpre : ((t.length : Int) :: (t.take k).flatMap snNs).length ≤ 433 := by
      have h1 := tbNs_len (t := t.take k) (fun s hs => (HOK.out.each s (List.mem_of_mem_take hs)).kept.len)
      rw [List.length_cons]
      rw [List.length_take] at h1
      omega
    by_cases hlt : k < t.length
    · have hst9 := flat_take_snoc snNs t hlt
      obtain ⟨s, hs⟩ : ∃ z, z = t[k] := ⟨_, rfl⟩
      have hmem : s ∈ t := by rw [hs]; exact List.getElem_mem hlt
      have hos := HOK.out.each s hmem
      have hfnd := findS_mem HOK.out.rise hmem
      rw [← hs] at hst9
      rw [HHO.out.find] at hfnd
      obtain ⟨r, hfr, hrs⟩ : ∃ r, findR s.id rs = some r ∧ r.s = s := by
        cases hf : findR s.id rs with
        | none => rw [hf] at hfnd; cases hfnd
        | some r => rw [hf] at hfnd; exact ⟨r, rfl, Option.some.inj hfnd⟩
      have hrm := (findR_some hfr).2
      have hidw : (Lit.int .i64 s.id).wf = true := by
        have := numOk_iff.1 hos.id
        simp [Lit.wf, IntKind.min, IntKind.max, IntKind.signed, IntKind.bits]; omega
      have hlk := HHO.out.lookup s.id hidw
      rw [hfr] at hlk
      have hlk2 : (Instr.lookup 65 (.map (some mb)) (.int .i64 s.id) false).run Try.prog wo = .ok (.pointer (some ⟨r.sb, 0, none⟩)) wo := hlk
      obtain ⟨b, o, rfl, -, hc⟩ := HBO.out.ids.sl.at (k := k) (by rw [HIDL.out]; exact hlt)
      have e0 : wo.cell? ⟨b, o + k, none⟩ = some (.int .i64 s.id) := by
        rw [hc k (by rw [HIDL.out]; exact hlt), List.getElem_map, ← hs]; rfl
      have c0 : wo.cell? ⟨p, 0, none⟩ = some (.map (some mb)) := HHO.out.blk.cell 0
      have HRB := Lib.hid (HHO.out.recs r hrm).1
      have HSK := Lib.hid (HHO.out.slK hrm)
      have hkl : s.kept.length ≤ 8 := hos.kept.len
      rw [hrs] at HRB
      unfold Rec.row at HRB
      rw [hrs] at HRB HSK
      have HRB0 : Hid (Blk w r.sb 71 #[.int .i64 s.high, .slice r.A s.kept.length r.c]) := Lib.hid (by
        have := (HH.out.recs r hrm).1
        unfold Rec.row at this
        rw [hrs] at this; exact this)
      have HSK0 := Lib.hid (HH.out.slK hrm)
      rw [hrs] at HSK0
      have hk0 : (0 : Int) ≤ (k : Int) := by omega
      have hk1 : (k : Int) < (t.length : Int) := by omega
      have HST := Lib.hid hst9
      have HLT := Lib.hid hlt
      clear hst9 hs hmem hos hfnd hfr hrs hrm hlk hc
      go_upto_region 8 with fail
      clear hlk2 e0 c0 hk0 hk1
      have hbd := (HBO.out.alloc HSZ.out (.cells #[.int .i64 s.id, .int .i64 s.high, .int .i64 (s.kept.length : Int)] 2)).drew
      have HBD := Lib.hid hbd
      have HN1 : Hid (Calls Try.prog 38 #[.slice (some ⟨wo.heap.size, 0, none⟩) 3 3, .pointer (some ⟨w.heap.size, 0, none⟩)] (wo.alloc (.cells #[.int .i64 s.id, .int .i64 s.high, .int .i64 (s.kept.length : Int)] 2)).drew (NmP w.heap.size w.heap.size v' (((t.length : Int) :: (t.take k).flatMap snNs) ++ [s.id, s.high, (s.kept.length : Int)]) (wo.alloc (.cells #[.int .i64 s.id, .int .i64 s.high, .int .i64 (s.kept.length : Int)] 2)).drew)) := Lib.hid (num_any (B := w.heap.size) hbd.box hbd.own (show w.heap.size ≤ (wo.alloc _).heap.size by rw [World.size_alloc]; have := HSZ.out; omega) (some ⟨wo.heap.size, 0, none⟩) 3 [s.id, s.high, (s.kept.length : Int)] ((slb_lit (w := wo) [s.id, s.high, (s.kept.length : Int)] (show 3 ≤ maxLen by decide)).drewN 1) (show _ + 3 ≤ 1000 by omega))
      clear hbd
      refine AnyZ.start (S := (fun W => W.cell? ⟨r.sb, 0, none⟩ = some (.int .i64 s.high) ∧ W.cell? ⟨r.sb, 1, none⟩ = some (.slice r.A s.kept.length r.c))) (z := 1013) (by kernel_rfl) ?_ (fun hHeld => ?_)
      · exact ⟨HRB.out.cell 0, HRB.out.cell 1⟩
      refine AnyZ.take (i := 0) (v := ?_) rfl (by kernel_rfl) (by kernel_rfl) (by kernel_rfl) (by kernel_rfl) (fun _ _ _ h => h) (Or.inl ⟨by kernel_rfl, ?_⟩) (by assumption) ?_
      rotate_left
      · intro w hSw; (try dsimp only at hSw); go_simp; try with_reducible rfl
      try simp only [Act.put, List.getElem_toArray, List.getElem_cons_succ, List.getElem_cons_zero, List.setIfInBounds_toArray, List.set_cons_zero, List.set_cons_succ]
      refine AnyZ.take (i := 1) (v := ?_) rfl (by kernel_rfl) (by kernel_rfl) (by kernel_rfl) (by kernel_rfl) (fun _ _ _ h => h) (Or.inl ⟨by kernel_rfl, ?_⟩) (by assumption) ?_
      rotate_left
      · intro w hSw; (try dsimp only at hSw); go_simp; try with_reducible rfl
      try simp only [Act.put, List.getElem_toArray, List.getElem_cons_succ, List.getElem_cons_zero, List.setIfInBounds_toArray, List.set_cons_zero, List.set_cons_succ]
      refine AnyZ.take (i := 2) (v := ?_) rfl (by kernel_rfl) (by kernel_rfl) (by kernel_rfl) (by kernel_rfl) (fun _ _ _ h => h) (Or.inl ⟨by kernel_rfl, ?_⟩) (by assumption) ?_
      rotate_left
      · intro w hSw; (try dsimp only at hSw); go_simp; try with_reducible rfl
      try simp only [Act.put, List.getElem_toArray, List.getElem_cons_succ, List.getElem_cons_zero, List.setIfInBounds_toArray, List.set_cons_zero, List.set_cons_succ]
      refine AnyZ.take (i := 3) (v := ?_) rfl (by kernel_rfl) (by kernel_rfl) (by kernel_rfl) (by kernel_rfl) (fun _ _ _ h => h) (Or.inl ⟨by kernel_rfl, ?_⟩) (by assumption) ?_
      rotate_left
      · intro w hSw; (try dsimp only at hSw); go_simp; try with_reducible rfl
      try simp only [Act.put, List.getElem_toArray, List.getElem_cons_succ, List.getElem_cons_zero, List.setIfInBounds_toArray, List.set_cons_zero, List.set_cons_succ]
      refine AnyZ.take (i := 4) (v := ?_) rfl (by kernel_rfl) (by kernel_rfl) (by kernel_rfl) (by kernel_rfl) (fun _ _ _ h => h) (Or.inl ⟨by kernel_rfl, ?_⟩) (by assumption) ?_
      rotate_left
      · intro w hSw; (try dsimp only at hSw); go_simp; try with_reducible rfl
      try simp only [Act.put, List.getElem_toArray, List.getElem_cons_succ, List.getElem_cons_zero, List.setIfInBounds_toArray, List.set_cons_zero, List.set_cons_succ]
      refine AnyZ.take (i := 5) (v := ?_) rfl (by kernel_rfl) (by kernel_rfl) (by kernel_rfl) (by kernel_rfl) (fun _ _ _ h => h) (Or.inl ⟨by kernel_rfl, ?_⟩) (by assumption) ?_
      rotate_left
      · intro w hSw; (try dsimp only at hSw); go_simp; try with_reducible rfl
      try simp only [Act.put, List.getElem_toArray, List.getElem_cons_succ, List.getElem_cons_zero, List.setIfInBounds_toArray, List.set_cons_zero, List.set_cons_succ]
      refine AnyZ.take (i := 6) (v := ?_) rfl (by kernel_rfl) (by kernel_rfl) (by kernel_rfl) (by kernel_rfl) (fun _ _ _ h => h) (Or.inl ⟨by kernel_rfl, ?_⟩) (by assumption) ?_
      rotate_left
      · intro w hSw; (try dsimp only at hSw); go_simp; try with_reducible rfl
      try simp only [Act.put, List.getElem_toArray, List.getElem_cons_succ, List.getElem_cons_zero, List.setIfInBounds_toArray, List.set_cons_zero, List.set_cons_succ]
      refine AnyZ.take (i := 7) (v := ?_) rfl (by kernel_rfl) (by kernel_rfl) (by kernel_rfl) (by kernel_rfl) (fun _ _ _ h => h) (Or.inl ⟨by kernel_rfl, ?_⟩) (by assumption) ?_
      rotate_left
      · intro w hSw; (try dsimp only at hSw); go_simp; try with_reducible rfl
      try simp only [Act.put, List.getElem_toArray, List.getElem_cons_succ, List.getElem_cons_zero, List.setIfInBounds_toArray, List.set_cons_zero, List.set_cons_succ]
      refine AnyZ.take (i := 8) (v := ?_) rfl (by kernel_rfl) (by kernel_rfl) (by kernel_rfl) (by kernel_rfl) (fun _ _ _ h => h) (Or.inl ⟨by kernel_rfl, ?_⟩) (by assumption) ?_
      rotate_left
      · intro w hSw; (try dsimp only at hSw); go_simp; try with_reducible rfl
      try simp only [Act.put, List.getElem_toArray, List.getElem_cons_succ, List.getElem_cons_zero, List.setIfInBounds_toArray, List.set_cons_zero, List.set_cons_succ]
      refine AnyZ.take (i := 9) (v := ?_) rfl (by kernel_rfl) (by kernel_rfl) (by kernel_rfl) (by kernel_rfl) (fun _ _ _ h => h) (Or.inl ⟨by kernel_rfl, ?_⟩) (by assumption) ?_
      rotate_left
      · intro w hSw; (try dsimp only at hSw); go_simp; try with_reducible rfl
      try simp only [Act.put, List.getElem_toArray, List.getElem_cons_succ, List.getElem_cons_zero, List.setIfInBounds_toArray, List.set_cons_zero, List.set_cons_succ]
      refine AnyZ.take (i := 10) (v := ?_) rfl (by kernel_rfl) (by kernel_rfl) (by kernel_rfl) (by kernel_rfl) (fun _ _ _ h => h) (Or.inl ⟨by kernel_rfl, ?_⟩) (by assumption) ?_
      rotate_left
      · intro w hSw; (try dsimp only at hSw); go_simp; try with_reducible rfl
      try simp only [Act.put, List.getElem_toArray, List.getElem_cons_succ, List.getElem_cons_zero, List.setIfInBounds_toArray, List.set_cons_zero, List.set_cons_succ]
      refine AnyZ.ready (rs := [11]) (by kernel_rfl) (by simp) ?_
      refine AllZ.cons rfl (fun K hK => ?_) AllZ.nil
      go_simp
      refine hK.out _ _ ?_ (fun hHeld => ?_)
      · exact ⟨(HRB.out.alloc _).drew.cell 0, (HRB.out.alloc _).drew.cell 1⟩
      clear hK K
      try simp only [Act.put, List.getElem_toArray, List.getElem_cons_succ, List.getElem_cons_zero, List.setIfInBounds_toArray, List.set_cons_zero, List.set_cons_succ]
      refine AnyZ.ready (rs := [12]) (by kernel_rfl) (by simp) ?_
      refine AllZ.cons rfl (fun K hK => ?_) AllZ.nil
      go_simp
      (with_reducible refine HN1.out.mono ?_); rintro e w4 hn4
      obtain ⟨rfl, v4, hb4⟩ := HBD.out.num (Nat.le_refl _) (show w.heap.size ≤ (wo.alloc _).heap.size by rw [World.size_alloc]; have := HSZ.out; omega) hn4
      have HB4 := Lib.hid hb4
      have HSZ4 : Hid (w.heap.size ≤ w4.heap.size) := Lib.hid hb4.below.size
      have HRB4 : Hid (Blk w4 r.sb 71 #[.int .i64 s.high, .slice r.A s.kept.length r.c]) := Lib.hid (HRB0.out.below hb4.below HRB0.out.lt)
      have HSK4 := Lib.hid (HSK0.out.below hb4.below)
      clear hn4 hb4 HN1 HBD
      refine hK.out _ _ ?_ (fun hHeld => ?_)
      · exact ⟨HRB4.out.cell 0, HRB4.out.cell 1⟩
      clear hK K
      try simp only [Act.put, List.getElem_toArray, List.getElem_cons_succ, List.getElem_cons_zero, List.setIfInBounds_toArray, List.set_cons_zero, List.set_cons_succ]
      refine AnyZ.done (by kernel_rfl) ?_ _
      go_upto_region 9 with fail
      have d1 : w4.cell? ⟨r.sb, 1, none⟩ = some (.slice r.A s.kept.length r.c) := HRB4.out.cell 1
      obtain ⟨PRE, hPRE⟩ : ∃ z, z = ((t.length : Int) :: (t.take k).flatMap snNs) ++ [s.id, s.high, (s.kept.length : Int)] := ⟨_, rfl⟩
      rw [← hPRE] at HB4
      have hprl : PRE.length ≤ 436 := by rw [hPRE, List.length_append]; show _ + 3 ≤ 436; omega
      have HPRE := Lib.hid hPRE
      clear hPRE
      go_wp2_with fail
      clear d1
      go_loopw [52] (fun iv wr => BiRel w.heap.size w.heap.size (some ⟨b, o, none⟩) (t.map Sn.id) PRE s.kept w iv wr) (fun iv _ => s.kept.length - (RowKit.intOf iv).toNat)
      case atStart => exact ⟨0, v4, Nat.zero_le _, rfl, by rw [List.take_zero]; simpa using HB4.out⟩
      case round =>
        obtain ⟨j, v5, hj, rfl, hb5⟩ := hrel
        obtain ⟨wi, rfl⟩ : ∃ wo, wo = wr := ⟨_, rfl⟩
        have HB5 := Lib.hid hb5
        have HSZ5 : Hid (w.heap.size ≤ wi.heap.size) := Lib.hid hb5.below.size
        have HSK5 := Lib.hid (HSK0.out.below hb5.below)
        clear hb5
        by_cases hjl : j < s.kept.length
        · have hst9 := flat_take_snoc itNs s.kept hjl
          obtain ⟨y, hy⟩ : ∃ z, z = s.kept[j] := ⟨_, rfl⟩
          obtain ⟨b2, o2, hA2, -, -, hc⟩ := HSK5.out.at hjl
          rw [← hy] at hst9 hc
          have e0 : wi.cell? ⟨b2, o2 + j * 3, none⟩ = some (.int .i64 y.seq) := hc 0 (by decide)
          have e1 : wi.cell? ⟨b2, o2 + j * 3 + 1, none⟩ = some (.int .i64 y.code) := hc 1 (by decide)
          have e2 : wi.cell? ⟨b2, o2 + j * 3 + 2, none⟩ = some (.int .i64 y.num) := hc 2 (by decide)
          have hk0 : (0 : Int) ≤ (j : Int) := by omega
          have hk1 : (j : Int) < (s.kept.length : Int) := by omega
          have HST9 := Lib.hid hst9
          have HJL := Lib.hid hjl
          rw [hA2]
          have HA2 := Lib.hid hA2
          clear hst9 hy hc hA2
          go_upto_region 12 with fail
          obtain ⟨wj, hwj⟩ : ∃ z, z = wi.alloc (.cells #[.int .i64 y.seq, .int .i64 y.code, .int .i64 y.num] 76) := ⟨_, rfl⟩
          rw [← hwj]
          have HX : Hid (Blk wj wi.heap.size 76 #[.int .i64 y.seq, .int .i64 y.code, .int .i64 y.num]) := Lib.hid (by rw [hwj]; exact Blk.new_ wi _ _)
          have HBJ : Hid (Bst w.heap.size w.heap.size (some ⟨b, o, none⟩) (t.map Sn.id) (PRE ++ (s.kept.take j).flatMap itNs) w v5 wj) := Lib.hid (by rw [hwj]; exact HB5.out.alloc HSZ5.out _)
          have HSZJ : Hid (w.heap.size ≤ wj.heap.size) := Lib.hid HBJ.out.below.size
          clear hwj e0 e1 e2 hk0 hk1
          have x0 : wj.cell? ⟨wi.heap.size, 0, none⟩ = some (.int .i64 y.seq) := HX.out.cell 0
          have x1 : wj.cell? ⟨wi.heap.size, 1, none⟩ = some (.int .i64 y.code) := HX.out.cell 1
          have x2 : wj.cell? ⟨wi.heap.size, 2, none⟩ = some (.int .i64 y.num) := HX.out.cell 2
          have hbd := HBJ.out.alloc HSZJ.out (.cells #[.int .i64 y.seq, .int .i64 y.code, .int .i64 y.num] 2)
          have HBD := Lib.hid hbd
          have hpj : (PRE ++ (s.kept.take j).flatMap itNs).length ≤ 500 := by
            rw [List.length_append, itNs_len, List.length_take]; omega
          have HN1 : Hid (Calls Try.prog 38 #[.slice (some ⟨wj.heap.size, 0, none⟩) 3 3, .pointer (some ⟨w.heap.size, 0, none⟩)] (wj.alloc (.cells #[.int .i64 y.seq, .int .i64 y.code, .int .i64 y.num] 2)) (NmP w.heap.size w.heap.size v5 ((PRE ++ (s.kept.take j).flatMap itNs) ++ itNs y) (wj.alloc (.cells #[.int .i64 y.seq, .int .i64 y.code, .int .i64 y.num] 2)))) := Lib.hid (num_any (B := w.heap.size) hbd.box hbd.own (by rw [World.size_alloc]; have := HSZJ.out; omega) (some ⟨wj.heap.size, 0, none⟩) 3 (itNs y) (slb_lit (w := wj) (itNs y) (show 3 ≤ maxLen by decide)) (show _ + 3 ≤ 1000 by omega))
          clear hbd hpj
          go_wp2_with fail
          (with_reducible refine HN1.out.mono ?_); rintro e w6 hn6
          obtain ⟨rfl, v6, hb6⟩ := HBD.out.num (Nat.le_refl _) (by rw [World.size_alloc]; have := HSZJ.out; omega) hn6
          rw [List.append_assoc, ← HST9.out] at hb6
          have HB6 := Lib.hid hb6
          clear hb6 hn6 HN1 HBD x0 x1 x2
          go_wp2_with fail
          go_roundw
          case rel => exact ⟨j + 1, v6, HJL.out, by go_num, HB6.out⟩
          case measure => simp [RowKit.intOf]; have := HJL.out; omega
        · have hje : j = s.kept.length := by omega
          subst hje
          have hbz := HB5.out
          rw [List.take_length, HPRE.out, List.append_assoc] at hbz
          have he : (((t.length : Int) :: (t.take k).flatMap snNs) ++ ([s.id, s.high, (s.kept.length : Int)] ++ s.kept.flatMap itNs)) = (t.length : Int) :: (t.take (k + 1)).flatMap snNs := by
            rw [HST.out]; rfl
          rw [he] at hbz
          have HBZ := Lib.hid hbz
          clear hbz he
          go_wp2_with fail
          go_roundw
          case rel => exact ⟨k + 1, v5, HLT.out, by go_num, HBZ.out⟩
          case measure => simp [RowKit.intOf]; have := HLT.out; omega
    · have hke : k = t.length := by omega
      subst hke
      have hbz := HBO.out
      rw [List.take_length] at hbz
      obtain ⟨A9, c9, rfl⟩ := hbz.own.form
      have v0 : wo.cell? ⟨w.heap.size, 0, none⟩ = some (.slice A9 (tbNs t).length c9) := hbz.box.cell 0
      have hl9 : (tbNs t).length ≤ 1000000 := by
        have h1 := tbNs_len (t := t) (fun s hs => (HOK.out.each s hs).kept.len)
        unfold tbNs
        rw [List.length_cons]; omega
      have HPT := Lib.hid (Put_nums A9 c9 (tbNs t) (hbz.own.slK valN_len).2 hl9 (tbNs_ok HOK.out))
      have HBZ := Lib.hid hbz
      clear hbz hl9
      go_wp2_with fail
      (with_reducible refine HPT.out.mono ?_); rintro e w9 ⟨AP, cP, rfl, ho9, hb9⟩
      have HO9 := Lib.hid ho9
      have HB9 := Lib.hid hb9
      clear ho9 hb9
      go_wp2_with fail
      go_ret
      exact ⟨AP, cP, rfl, Mem.Own.base_ HO9.out HSZ.out, HBZ.out.below.trans (HB9.out.mono HSZ.out)⟩
end Go.Proofs.Ytakebmbdcjbbgaa
