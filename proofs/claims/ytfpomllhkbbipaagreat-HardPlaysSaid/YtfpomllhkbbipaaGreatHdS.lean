/- Layer 7: the walk of Save. -/
import Derived.Test.YtfpomllhkbbipaaGreatHdO
namespace Go.Proofs.YtfpomllhkbbipaaGreat
open Go Go.RowKit Go.Maps Go.Lib Mem Pk Dsk Hd

/-! the steps, one behind the other -/
namespace Hd
def stK (s : S) (bs : List UInt8) : Nat → S
  | 0 => s
  | 1 => (create s nmT).1
  | 2 => (write (create s nmT).1 nmT 0 bs).1
  | 3 => (sync (write (create s nmT).1 nmT 0 bs).1 nmT).1
  | _ => (rename (sync (write (create s nmT).1 nmT 0 bs).1 nmT).1 nmT nmH).1
def cdK (s : S) (bs : List UInt8) : Nat → Nat
  | 0 => (create s nmT).2
  | 1 => (write (create s nmT).1 nmT 0 bs).2
  | 2 => (sync (write (create s nmT).1 nmT 0 bs).1 nmT).2
  | _ => (rename (sync (write (create s nmT).1 nmT 0 bs).1 nmT).1 nmT nmH).2
theorem steps_stop {s : S} {bs : List UInt8} {k : Nat} (h : ∀ j, j < k → cdK s bs j = 0) (hk : k < 4) (hn : cdK s bs k ≠ 0) : stepsH s bs = (stK s bs (k + 1), cdK s bs k) := by
  unfold stepsH
  match k, hk with
  | 0, _ => rw [if_pos (show (create s nmT).2 ≠ 0 from hn)]; rfl
  | 1, _ => rw [if_neg (by have := h 0 (by omega); exact fun e => e this), if_pos (show (write (create s nmT).1 nmT 0 bs).2 ≠ 0 from hn)]; rfl
  | 2, _ => rw [if_neg (by have := h 0 (by omega); exact fun e => e this), if_neg (by have := h 1 (by omega); exact fun e => e this), if_pos (show (sync (write (create s nmT).1 nmT 0 bs).1 nmT).2 ≠ 0 from hn)]; rfl
  | 3, _ => rw [if_neg (by have := h 0 (by omega); exact fun e => e this), if_neg (by have := h 1 (by omega); exact fun e => e this), if_neg (by have := h 2 (by omega); exact fun e => e this)]; rfl
theorem steps_all {s : S} {bs : List UInt8} (h : ∀ j, j < 4 → cdK s bs j = 0) : stepsH s bs = (stK s bs 4, 0) := by
  unfold stepsH
  rw [if_neg (by have := h 0 (by omega); exact fun e => e this), if_neg (by have := h 1 (by omega); exact fun e => e this), if_neg (by have := h 2 (by omega); exact fun e => e this)]
  exact Prod.ext rfl (h 3 (by omega))
end Hd
/-- what a step of Save leaves -/
structure SvW (G : Nat → Prop) (B p hb hx fx : Nat) (t v : Int) (f : Value) (s : S) (w : World) : Prop where
  dx : DX G B p s w
  inH : G hb
  inX : G hx
  inF : G fx
  bh : Blk w hb 62 #[.pointer (some ⟨p, 0, none⟩), .int .i64 t, .int .i64 v]
  bx : Blk w hx 26 #[.pointer (some ⟨hb, 0, none⟩)]
  bf : Blk w fx 49 #[f]
theorem SvW.next {G : Nat → Prop} {B p hb hx fx : Nat} {t v : Int} {f : Value} {s s' : S} {w w' : World} (h : SvW G B p hb hx fx t v f s w) (hd : DX G B p s' w') (hk : Kept G w w') : SvW G B p hb hx fx t v f s' w' :=
  ⟨hd, h.inH, h.inX, h.inF, (hk _ h.inH).trans h.bh, (hk _ h.inX).trans h.bx, (hk _ h.inF).trans h.bf⟩
section
variable {G : Nat → Prop} {B p hb hx fx : Nat} {t v : Int} {f : Value} {s s' : S} {w : World} {k : Nat}
theorem save1_any (h : SvW G B p hb hx fx t v f s w) (hr : create s nmT = (s', k)) :
    Calls Tryz.prog 31 #[.pointer (some ⟨hx, 0, none⟩)] w (PostX G B p s' (k : Int) w) := by
  have HC := Lib.hid (X_Create h.dx ⟨#[104, 97, 114, 100, 46, 116, 109, 112]⟩ sz_nmT (show Dsk.create s (sname ⟨#[104, 97, 114, 100, 46, 116, 109, 112]⟩) = (s', k) from hr) rfl)
  have x0 : w.cell? ⟨hx, 0, none⟩ = some (.pointer (some ⟨hb, 0, none⟩)) := h.bx.cell 0
  have h0 : w.cell? ⟨hb, 0, none⟩ = some (.pointer (some ⟨p, 0, none⟩)) := h.bh.cell 0
  clear h hr
  go_enter Tryz.func31, Tryz.ntmps31
  go_wp2_with fail
  (with_reducible refine HC.out.mono ?_); rintro e w' ⟨rfl, hd, hb, hk⟩
  have H := Lib.hid (show PostX G B p s' (k : Int) w (.returned (.int .i64 (k : Int))) w' from ⟨rfl, hd, hb, hk⟩)
  clear hd hb hk
  go_wp2_with fail
  go_ret
  exact H.out
theorem save3_any (h : SvW G B p hb hx fx t v f s w) (hr : sync s nmT = (s', k)) :
    Calls Tryz.prog 35 #[.pointer (some ⟨hx, 0, none⟩)] w (PostX G B p s' (k : Int) w) := by
  have HC := Lib.hid (X_Sync h.dx ⟨#[104, 97, 114, 100, 46, 116, 109, 112]⟩ sz_nmT (show Dsk.sync s (sname ⟨#[104, 97, 114, 100, 46, 116, 109, 112]⟩) = (s', k) from hr) rfl)
  have x0 : w.cell? ⟨hx, 0, none⟩ = some (.pointer (some ⟨hb, 0, none⟩)) := h.bx.cell 0
  have h0 : w.cell? ⟨hb, 0, none⟩ = some (.pointer (some ⟨p, 0, none⟩)) := h.bh.cell 0
  clear h hr
  go_enter Tryz.func35, Tryz.ntmps35
  go_wp2_with fail
  (with_reducible refine HC.out.mono ?_); rintro e w' ⟨rfl, hd, hb, hk⟩
  have H := Lib.hid (show PostX G B p s' (k : Int) w (.returned (.int .i64 (k : Int))) w' from ⟨rfl, hd, hb, hk⟩)
  clear hd hb hk
  go_wp2_with fail
  go_ret
  exact H.out
theorem save4_any (h : SvW G B p hb hx fx t v f s w) (hr : rename s nmT nmH = (s', k)) :
    Calls Tryz.prog 37 #[.pointer (some ⟨hx, 0, none⟩)] w (PostX G B p s' (k : Int) w) := by
  have HC := Lib.hid (X_Rename h.dx ⟨#[104, 97, 114, 100, 46, 116, 109, 112]⟩ ⟨#[104, 97, 114, 100]⟩ sz_nmT sz_nmH (show Dsk.rename s (sname ⟨#[104, 97, 114, 100, 46, 116, 109, 112]⟩) (sname ⟨#[104, 97, 114, 100]⟩) = (s', k) from hr) rfl)
  have x0 : w.cell? ⟨hx, 0, none⟩ = some (.pointer (some ⟨hb, 0, none⟩)) := h.bx.cell 0
  have h0 : w.cell? ⟨hb, 0, none⟩ = some (.pointer (some ⟨p, 0, none⟩)) := h.bh.cell 0
  clear h hr
  go_enter Tryz.func37, Tryz.ntmps37
  go_wp2_with fail
  (with_reducible refine HC.out.mono ?_); rintro e w' ⟨rfl, hd, hb, hk⟩
  have H := Lib.hid (show PostX G B p s' (k : Int) w (.returned (.int .i64 (k : Int))) w' from ⟨rfl, hd, hb, hk⟩)
  clear hd hb hk
  go_wp2_with fail
  go_ret
  exact H.out
theorem save2_any {A : Option Addr} {c : Nat} {bs : List UInt8} (h : SvW G B p hb hx fx t v (.slice A bs.length c) s w) (hs : SlB fB 5 G w A bs) (hr : write s nmT 0 bs = (s', k)) :
    Calls Tryz.prog 33 #[.pointer (some ⟨hx, 0, none⟩), .pointer (some ⟨fx, 0, none⟩)] w (PostX G B p s' (k : Int) w) := by
  have HC : Hid (Calls Tryz.prog 34 #[.pointer (some ⟨p, 0, none⟩), .string ⟨#[104, 97, 114, 100, 46, 116, 109, 112]⟩, .int .i64 0, .slice A bs.length c] w.drew (PostX G B p s' (k : Int) w.drew)) :=
    Lib.hid (X_Write (h.dx.below (Below.refl _ _).drew) ⟨#[104, 97, 114, 100, 46, 116, 109, 112]⟩ sz_nmT 0 (by decide) (hs.drewN 1) h.dx.notG (show Dsk.write s (sname ⟨#[104, 97, 114, 100, 46, 116, 109, 112]⟩) 0 bs = (s', k) from hr) rfl)
  have x0 : w.cell? ⟨hx, 0, none⟩ = some (.pointer (some ⟨hb, 0, none⟩)) := h.bx.cell 0
  have h0 : w.cell? ⟨hb, 0, none⟩ = some (.pointer (some ⟨p, 0, none⟩)) := h.bh.cell 0
  have f0 : w.cell? ⟨fx, 0, none⟩ = some (.slice A bs.length c) := h.bf.cell 0
  have HSV := Lib.hid h
  clear h hr hs
  go_enter Tryz.func33, Tryz.ntmps33
  go_upto_region 1 with fail
  refine AnyZ.start (S := (fun W => W.cell? ⟨hx, 0, none⟩ = some (.pointer (some ⟨hb, 0, none⟩)) ∧ W.cell? ⟨hb, 0, none⟩ = some (.pointer (some ⟨p, 0, none⟩)) ∧ W.cell? ⟨fx, 0, none⟩ = some (.slice A bs.length c))) (z := 1007) (by kernel_rfl) ?_ (fun hHeld => ?_)
  · exact ⟨x0, h0, f0⟩
  refine AnyZ.take (i := 0) (v := ?_) rfl (by kernel_rfl) (by kernel_rfl) (by kernel_rfl) (by kernel_rfl) (fun _ _ _ h => h) (Or.inl ⟨by kernel_rfl, ?_⟩) (by assumption) ?_
  rotate_left
  · intro w hSw; (try dsimp only at hSw); go_simp; try with_reducible rfl
  try simp only [Act.put, List.getElem_toArray, List.getElem_cons_succ, List.getElem_cons_zero, List.setIfInBounds_toArray, List.set_cons_zero, List.set_cons_succ]
  refine AnyZ.take (i := 1) (v := ?_) rfl (by kernel_rfl) (by kernel_rfl) (by kernel_rfl) (by kernel_rfl) (fun _ _ _ h => h) (Or.inl ⟨by kernel_rfl, ?_⟩) (by assumption) ?_
  rotate_left
  · intro w hSw; (try dsimp only at hSw); go_simp; try with_reducible rfl
  try simp only [Act.put, List.getElem_toArray, List.getElem_cons_succ, List.getElem_cons_zero, List.setIfInBounds_toArray, List.set_cons_zero, List.set_cons_succ]
  refine AnyZ.take (i := 2) (v := ?_) rfl (by kernel_rfl) (by kernel_rfl) (by kernel_rfl) (by kernel_rfl) (fun _ _ _ h => h) (Or.inl ⟨by kernel_rfl, ?_⟩) (by assumption) ?_
  rotate_left
  · intro w hSw; (try dsimp only at hSw); go_simp; try with_reducible rfl
  try simp only [Act.put, List.getElem_toArray, List.getElem_cons_succ, List.getElem_cons_zero, List.setIfInBounds_toArray, List.set_cons_zero, List.set_cons_succ]
  refine AnyZ.take (i := 3) (v := ?_) rfl (by kernel_rfl) (by kernel_rfl) (by kernel_rfl) (by kernel_rfl) (fun _ _ _ h => h) (Or.inl ⟨by kernel_rfl, ?_⟩) (by assumption) ?_
  rotate_left
  · intro w hSw; (try dsimp only at hSw); go_simp; try with_reducible rfl
  try simp only [Act.put, List.getElem_toArray, List.getElem_cons_succ, List.getElem_cons_zero, List.setIfInBounds_toArray, List.set_cons_zero, List.set_cons_succ]
  refine AnyZ.take (i := 4) (v := ?_) rfl (by kernel_rfl) (by kernel_rfl) (by kernel_rfl) (by kernel_rfl) (fun _ _ _ h => h) (Or.inl ⟨by kernel_rfl, ?_⟩) (by assumption) ?_
  rotate_left
  · intro w hSw; (try dsimp only at hSw); go_simp; try with_reducible rfl
  try simp only [Act.put, List.getElem_toArray, List.getElem_cons_succ, List.getElem_cons_zero, List.setIfInBounds_toArray, List.set_cons_zero, List.set_cons_succ]
  refine AnyZ.ready (rs := [5]) (by kernel_rfl) (by simp) ?_
  refine AllZ.cons rfl (fun K hK => ?_) AllZ.nil
  go_simp
  (with_reducible refine HC.out.mono ?_); rintro e w' ⟨rfl, hd, hb, hk⟩
  have H := Lib.hid (show PostX G B p s' (k : Int) w (.returned (.int .i64 (k : Int))) w' from ⟨rfl, hd, ((Below.refl _ _).drew).trans hb, hk⟩)
  have HSN := Lib.hid (HSV.out.next hd hk)
  clear hd hb hk
  refine hK.out _ _ ?_ (fun hHeld => ?_)
  · exact ⟨HSN.out.bx.cell 0, HSN.out.bh.cell 0, HSN.out.bf.cell 0⟩
  clear hK K
  try simp only [Act.put, List.getElem_toArray, List.getElem_cons_succ, List.getElem_cons_zero, List.setIfInBounds_toArray, List.set_cons_zero, List.set_cons_succ]
  refine AnyZ.take (i := 6) (v := ?_) rfl (by kernel_rfl) (by kernel_rfl) (by kernel_rfl) (by kernel_rfl) (fun _ _ _ h => h) (Or.inl ⟨by kernel_rfl, ?_⟩) (by assumption) ?_
  rotate_left
  · intro w hSw; (try dsimp only at hSw); go_simp; try with_reducible rfl
  try simp only [Act.put, List.getElem_toArray, List.getElem_cons_succ, List.getElem_cons_zero, List.setIfInBounds_toArray, List.set_cons_zero, List.set_cons_succ]
  refine AnyZ.done (by kernel_rfl) ?_ _
  go_wp2_with fail
  go_ret
  exact H.out
end
theorem blkKept {w w' : World} {g : Nat} {t : TypeId} {cs : Array Value} (h : Blk w g t cs) (hk : w'.heap[g]? = w.heap[g]?) : Blk w' g t cs := hk.trans h
def HSaveP (G : Nat → Prop) (B p hb : Nat) (r : S × (Int × Int) × Nat) (w : World) (e : Ending) (w' : World) : Prop :=
  e = .returned (.int .i64 (r.2.2 : Int)) ∧ HAt G B p hb r.1 r.2.1 w' ∧ Below B w w' ∧ Kept G w w'
def SvRel (G2 : Nat → Prop) (B p hb hx fx : Nat) (t v : Int) (f : Value) (s : S) (bs : List UInt8) (w7 : World) (iv : Value) (W : World) : Prop :=
  ∃ k : Nat, k ≤ 4 ∧ iv = .int .i64 k ∧ SvW G2 B p hb hx fx t v f (stK s bs k) W ∧ Hid (∀ j, j < k → cdK s bs j = 0) ∧ Below B w7 W ∧ Kept G2 w7 W
theorem saveH_no {s : S} {tv : Int × Int} {t v : Int} (h : rightH t v = false) : saveH s tv t v = (s, tv, 1) := by unfold saveH; rw [if_neg (by rw [h]; decide)]
theorem saveH_same {s : S} {tv : Int × Int} {t v : Int} (h : rightH t v = true) (h2 : tv = (t, v)) : saveH s tv t v = (s, tv, 0) := by unfold saveH; rw [if_pos h, if_pos h2]
theorem saveH_bad {s s' : S} {tv : Int × Int} {t v : Int} {k : Nat} (h : rightH t v = true) (h2 : tv ≠ (t, v)) (h3 : stepsH s (bytesH t v) = (s', k)) (hk : k ≠ 0) : saveH s tv t v = (s', tv, k) := by
  unfold saveH; rw [if_pos h, if_neg h2]; simp only [h3]; rw [if_neg hk]
theorem saveH_ok {s s' : S} {tv : Int × Int} {t v : Int} (h : rightH t v = true) (h2 : tv ≠ (t, v)) (h3 : stepsH s (bytesH t v) = (s', 0)) : saveH s tv t v = (s', (t, v), 0) := by
  unfold saveH; rw [if_pos h, if_neg h2]; simp only [h3]; simp
set_option maxRecDepth 100000 in
set_option maxHeartbeats 4000000 in
theorem hSave_any {G : Nat → Prop} {B p hb : Nat} {s : S} {tv : Int × Int} {w : World} (h : HAt G B p hb s tv w) (t v : Int) :
    Calls Tryz.prog 8 #[.pointer (some ⟨hb, 0, none⟩), .int .i64 t, .int .i64 v] w (HSaveP G B p hb (saveH s tv t v) w) := by
  have hmf : ∀ (fn : Fn) (first cap : Array Value) (w : World), (Instr.makeFunc fn first cap).run Tryz.prog w = .ok (.func fn first cap) w := fun _ _ _ _ => rfl
  obtain ⟨t0, v0⟩ := tv
  obtain ⟨w1, hw1⟩ : ∃ z, z = w.alloc (.cells #[.pointer (some ⟨hb, 0, none⟩)] 26) := ⟨_, rfl⟩
  have hb1 : Below w.heap.size w w1 := by rw [hw1]; exact (Below.refl _ _).alloc (Nat.le_refl _) _
  have hbx : Blk w1 w.heap.size 26 #[.pointer (some ⟨hb, 0, none⟩)] := by rw [hw1]; exact Blk.new_ w _ _
  have HH := Lib.hid h
  have HH1 := Lib.hid (h.below hb1)
  have HB1 := Lib.hid hb1
  have HBX := Lib.hid hbx
  have HW1 := Lib.hid hw1
  have HR : Hid (∀ W, Calls Tryz.prog 28 #[.int .i64 t, .int .i64 v] W fun e w' => e = .returned (.bool (rightH t v)) ∧ W = w') := Lib.hid fun W => hright_any t v W
  obtain ⟨q, hq⟩ : ∃ z, z = rightH t v := ⟨_, rfl⟩
  rw [← hq] at HR
  have HQ := Lib.hid hq
  clear h hb1 hbx hw1 hq
  cases q with
  | false =>
    have HS := Lib.hid (saveH_no (s := s) (tv := (t0, v0)) HQ.out.symm)
    go_enter Tryz.func8, Tryz.ntmps8
    go_upto_region 1 with fail
    rw [← HW1.out]
    go_wp2_with fail
    (with_reducible refine (HR.out _).mono ?_); rintro e w' ⟨rfl, rfl⟩
    go_wp2_with fail
    go_ret
    unfold HSaveP
    rw [HS.out]
    exact ⟨rfl, HH1.out, HB1.out.mono HH.out.dx.le, kept_below (fun g hg => HH.out.dx.old g (.inl hg)) HB1.out⟩
  | true =>
    have x0 : w1.cell? ⟨w.heap.size, 0, none⟩ = some (.pointer (some ⟨hb, 0, none⟩)) := HBX.out.cell 0
    have h1 : w1.cell? ⟨hb, 1, none⟩ = some (.int .i64 t0) := HH1.out.blk.cell 1
    have h2 : w1.cell? ⟨hb, 2, none⟩ = some (.int .i64 v0) := HH1.out.blk.cell 2
    by_cases hs : (t0, v0) = (t, v)
    · have HS := Lib.hid (saveH_same (s := s) HQ.out.symm hs)
      injection hs with e1 e2
      subst e1; subst e2
      go_enter Tryz.func8, Tryz.ntmps8
      go_upto_region 1 with fail
      rw [← HW1.out]
      go_wp2_with fail
      (with_reducible refine (HR.out _).mono ?_); rintro e w' ⟨rfl, rfl⟩
      go_wp2_with fail
      go_ret
      unfold HSaveP
      rw [HS.out]
      exact ⟨rfl, HH1.out, HB1.out.mono HH.out.dx.le, kept_below (fun g hg => HH.out.dx.old g (.inl hg)) HB1.out⟩
    · have HNS := Lib.hid hs
      have hne : (t == t0) = false ∨ ((t == t0) = true ∧ (v == v0) = false) := by
        by_cases e1 : t = t0
        · right
          refine ⟨by rw [beq_iff_eq]; exact e1, ?_⟩
          rw [beq_eq_false_iff_ne]
          intro e2; exact hs (by rw [e1, e2])
        · left; rw [beq_eq_false_iff_ne]; exact e1
      clear hs
      go_enter Tryz.func8, Tryz.ntmps8
      go_upto_region 1 with fail
      rw [← HW1.out]
      go_wp2_with fail
      (with_reducible refine (HR.out _).mono ?_); rintro e w' ⟨rfl, rfl⟩
      go_upto_region 3 with fail
      go_cut [19] (fun s19 wx => s19 = .bool false ∧ wx = w1)
      case first =>
        rcases hne with e1 | ⟨e1, e2⟩
        · go_wp2_with fail
          go_meet
          exact ⟨rfl, rfl⟩
        · go_wp2_with fail
          go_meet
          exact ⟨rfl, rfl⟩
      case rest =>
        obtain ⟨rfl, hwc⟩ := hcut
        rw [hwc]; clear hwc
        obtain ⟨r1, r2, r3, r4⟩ := rightH_iff.1 HQ.out.symm
        have hvs : SlK 5 valN 83 (fun g => g = w1.heap.size) (w1.alloc (.cells #[.int .i64 1, .int .i64 t, .float .f64 0, .slice none 0 0, .bool false, .int .i64 1, .int .i64 v, .float .f64 0, .slice none 0 0, .bool false] 83)) (some ⟨w1.heap.size, 0, none⟩) [t, v] := by
          refine ⟨by show 2 ≤ maxLen; unfold maxLen; decide, fun _ => ⟨_, 0, _, _, rfl, rfl, heap_alloc_new w1 _, fun j hj i hi => ?_⟩⟩
          match j, hj, i, hi with
          | 0, _, 0, _ => rfl
          | 0, _, 1, _ => rfl
          | 0, _, 2, _ => rfl
          | 0, _, 3, _ => rfl
          | 0, _, 4, _ => rfl
          | 1, _, 0, _ => rfl
          | 1, _, 1, _ => rfl
          | 1, _, 2, _ => rfl
          | 1, _, 3, _ => rfl
          | 1, _, 4, _ => rfl
        have HPN := Lib.hid (Put_nums (some ⟨w1.heap.size, 0, none⟩) 2 [t, v] hvs (by show 2 ≤ 1000000; omega) (by intro n hn; simp at hn; rcases hn with rfl | rfl <;> (unfold i64ok; omega)))
        change Hid (Calls _ _ #[.slice (some ⟨w1.heap.size, 0, none⟩) 2 2] _ _) at HPN
        rw [show numsB [t, v] = numB t ++ numB v by unfold numsB; simp] at HPN
        obtain ⟨pb, hpb⟩ : ∃ z, z = numB t ++ numB v := ⟨_, rfl⟩
        rw [← hpb] at HPN
        have hpl : pb.length ≤ 20 := by rw [hpb, List.length_append]; have := (numB_len t).2; have := (numB_len v).2; omega
        have HPB := Lib.hid hpb
        clear hvs hpb r1 r2 r3 r4 hne
        go_wp2_with fail
        (with_reducible refine HPN.out.mono ?_); rintro e w3 ⟨A3, c3, rfl, ho3, hb3⟩
        have hfr := Frame_any (c := c3) ho3.sl.2
        unfold frameR at hfr
        rw [if_pos (by omega)] at hfr
        have HFR := Lib.hid hfr
        have HB3 : Hid (Below w1.heap.size w1 w3) := Lib.hid (((Below.refl _ _).alloc (Nat.le_refl _) _).trans (hb3.mono (by rw [World.size_alloc]; omega)))
        clear ho3 hb3 hfr HPN
        go_wp2_with fail
        (with_reducible refine HFR.out.mono ?_); rintro e w4 ⟨A4, c4, rfl, ho4, hb4⟩
        have hfb : frameB pb = bytesH t v := by rw [HPB.out]; rfl
        rw [hfb] at ho4 ⊢
        have HO4 := Lib.hid ho4
        have HB4 : Hid (Below w1.heap.size w1 w4) := Lib.hid (HB3.out.trans (hb4.mono HB3.out.size))
        have HZ3 := Lib.hid HB3.out.size
        obtain ⟨bs, hbs⟩ : ∃ z, z = bytesH t v := ⟨_, rfl⟩
        rw [← hbs] at HO4 ⊢
        have HBS := Lib.hid hbs
        clear ho4 hb4 hfb hbs HFR HB3
        go_upto_region 8 with fail
        obtain ⟨w7, hw7⟩ : ∃ z, z = (w4.alloc (.cells #[.slice A4 bs.length c4] 49)).alloc (.cells #[.func (.func 31) #[] #[.pointer (some ⟨w.heap.size, 0, none⟩)], .func (.func 33) #[] #[.pointer (some ⟨w.heap.size, 0, none⟩), .pointer (some ⟨w4.heap.size, 0, none⟩)], .func (.func 35) #[] #[.pointer (some ⟨w.heap.size, 0, none⟩)], .func (.func 37) #[] #[.pointer (some ⟨w.heap.size, 0, none⟩)]] 86) := ⟨_, rfl⟩
        rw [← hw7]
        have hb47 : Below w4.heap.size w4 w7 := by rw [hw7]; exact ((Below.refl _ _).alloc (Nat.le_refl _) _).alloc (by rw [World.size_alloc]; omega) _
        have hz7 : w7.heap.size = w4.heap.size + 2 := by rw [hw7, World.size_alloc, World.size_alloc]
        have hbf : Blk w7 w4.heap.size 49 #[.slice A4 bs.length c4] := by rw [hw7]; exact (Blk.new_ w4 _ _).alloc _
        have hcb : Blk w7 (w4.heap.size + 1) 86 #[.func (.func 31) #[] #[.pointer (some ⟨w.heap.size, 0, none⟩)], .func (.func 33) #[] #[.pointer (some ⟨w.heap.size, 0, none⟩), .pointer (some ⟨w4.heap.size, 0, none⟩)], .func (.func 35) #[] #[.pointer (some ⟨w.heap.size, 0, none⟩)], .func (.func 37) #[] #[.pointer (some ⟨w.heap.size, 0, none⟩)]] := by
          have := Blk.new_ (w4.alloc (.cells #[.slice A4 bs.length c4] 49)) 86 #[.func (.func 31) #[] #[.pointer (some ⟨w.heap.size, 0, none⟩)], .func (.func 33) #[] #[.pointer (some ⟨w.heap.size, 0, none⟩), .pointer (some ⟨w4.heap.size, 0, none⟩)], .func (.func 35) #[] #[.pointer (some ⟨w.heap.size, 0, none⟩)], .func (.func 37) #[] #[.pointer (some ⟨w.heap.size, 0, none⟩)]]
          rw [World.size_alloc] at this; rw [hw7]; exact this
        have hb17 : Below w1.heap.size w1 w7 := HB4.out.trans (hb47.mono HB4.out.size)
        have hb07 : Below w.heap.size w w7 := HB1.out.trans (hb17.mono HB1.out.size)
        obtain ⟨G2, hG2e⟩ : ∃ z : Nat → Prop, z = fun g => (G g ∨ g = hb) ∨ (w.heap.size ≤ g ∧ g < w7.heap.size) := ⟨_, rfl⟩
        have hG2 : ∀ g, ((G g ∨ g = hb) ∨ (w.heap.size ≤ g ∧ g < w7.heap.size)) → G2 g := fun g h => by rw [hG2e]; exact h
        have hlx : w.heap.size < w1.heap.size := HBX.out.lt
        have hl14 : w1.heap.size ≤ w4.heap.size := HB4.out.size
        have hsv7 : SvW G2 B p hb w.heap.size w4.heap.size t0 v0 (.slice A4 bs.length c4) s w7 := by
          refine ⟨?_, hG2 _ (.inl (.inr rfl)), hG2 _ (.inr ⟨Nat.le_refl _, by omega⟩), hG2 _ (.inr ⟨by omega, by omega⟩), HH1.out.blk.below hb17 HH1.out.blk.lt, HBX.out.below hb17 hlx, hbf⟩
          rw [hG2e]
          exact HH.out.dx.protect hb07 (fun g hg => hg)
        have hsb : SlB fB 5 G2 w7 A4 bs := ((SlB.of_own HO4.out).2.mono (G := G2) (fun g hg h => hG2 g (.inr ⟨by have := HZ3.out; omega, by omega⟩))).below hb47
        have HSV7 := Lib.hid hsv7
        have HSB := Lib.hid hsb
        have HCB := Lib.hid hcb
        have HCG : Hid (G2 (w4.heap.size + 1)) := Lib.hid (hG2 _ (.inr ⟨by omega, by omega⟩))
        have HB7 := Lib.hid hb07
        clear hw7 hb47 hz7 hbf hcb hb17 hb07 hsv7 hsb hG2e x0 h1 h2 HO4 HB4 HZ3
        go_loopw [54] (fun iv wr => SvRel G2 B p hb w.heap.size w4.heap.size t0 v0 (.slice A4 bs.length c4) s bs w7 iv wr) (fun iv _ => 4 - (RowKit.intOf iv).toNat)
        case atStart => exact ⟨0, by omega, rfl, HSV7.out, Lib.hid (fun j hj => absurd hj (Nat.not_lt_zero j)), (Below.refl _ _).mono HSV7.out.dx.le, fun _ _ => rfl⟩
        case round =>
          obtain ⟨k, hk, rfl, hsv, HOK, hbr, hkr⟩ := hrel
          have HSV := Lib.hid hsv
          have HBr := Lib.hid hbr
          have HKr := Lib.hid hkr
          have HCBr := Lib.hid (blkKept HCB.out (hkr _ HCG.out))
          clear hsv hbr hkr
          have hk5 : k = 0 ∨ k = 1 ∨ k = 2 ∨ k = 3 ∨ k = 4 := by omega
          clear hk
          rcases hk5 with rfl | rfl | rfl | rfl | rfl
          · have c0 : wr.cell? ⟨w4.heap.size + 1, 0, none⟩ = some (.func (.func 31) #[] #[.pointer (some ⟨w.heap.size, 0, none⟩)]) := HCBr.out.cell 0
            have HC : Hid (Calls Tryz.prog 31 #[.pointer (some ⟨w.heap.size, 0, none⟩)] wr (PostX G2 B p (stK s bs 1) (cdK s bs 0 : Int) wr)) := Lib.hid (save1_any HSV.out rfl)
            obtain ⟨kc, hkc⟩ : ∃ z, z = cdK s bs 0 := ⟨_, rfl⟩
            obtain ⟨sn, hsn⟩ : ∃ z, z = stK s bs 1 := ⟨_, rfl⟩
            rw [← hkc, ← hsn] at HC
            have HKC := Lib.hid hkc
            have HSN := Lib.hid hsn
            clear hkc hsn
            go_wp2_with fail
            (with_reducible refine HC.out.mono ?_); rintro e w8 ⟨rfl, hd8, hb8, hk8⟩
            have HSV8 := Lib.hid (HSV.out.next hd8 hk8)
            have HB8 : Hid (Below B w7 w8) := Lib.hid (HBr.out.trans hb8)
            have HK8 : Hid (Kept G2 w7 w8) := Lib.hid (HKr.out.trans_ hk8)
            clear hd8 hb8 hk8 c0 HC
            by_cases hc : kc = 0
            · have tk : ((kc : Int) != 0) = false := by rw [hc]; rfl
              have HOKN : Hid (∀ j, j < 1 → cdK s bs j = 0) := Lib.hid (fun j hj => by
                rcases Nat.lt_or_ge j 0 with h9 | h9
                · exact HOK.out j h9
                · have : j = 0 := by omega
                  subst this; rw [← HKC.out]; exact hc)
              clear hc
              go_wp2_with fail
              go_roundw
              case rel => exact ⟨1, by omega, rfl, by rw [← HSN.out]; exact HSV8.out, HOKN, HB8.out, HK8.out⟩
              case measure => simp [RowKit.intOf]
            · have tk : ((kc : Int) != 0) = true := by rw [bne_iff_ne]; omega
              have HS := Lib.hid (saveH_bad (s := s) (s' := sn) (k := kc) (tv := (t0, v0)) HQ.out.symm HNS.out (by rw [← HBS.out, HSN.out, HKC.out]; exact steps_stop HOK.out (by omega) (by rw [← HKC.out]; exact hc)) hc)
              clear hc
              go_wp2_with fail
              go_ret
              unfold HSaveP
              rw [HS.out]
              exact ⟨rfl, ⟨HSV8.out.dx.weaken (fun g hg => hG2 g (.inl hg)), HSV8.out.bh, HH.out.big, HH.out.notG⟩, (HB7.out.mono HH.out.dx.le).trans HB8.out, (kept_below (fun g hg => HH.out.dx.old g (.inl hg)) HB7.out).trans_ (fun g hg => HK8.out g (hG2 g (.inl (.inl hg))))⟩
          · have c0 : wr.cell? ⟨w4.heap.size + 1, 1, none⟩ = some (.func (.func 33) #[] #[.pointer (some ⟨w.heap.size, 0, none⟩), .pointer (some ⟨w4.heap.size, 0, none⟩)]) := HCBr.out.cell 1
            have HC : Hid (Calls Tryz.prog 33 #[.pointer (some ⟨w.heap.size, 0, none⟩), .pointer (some ⟨w4.heap.size, 0, none⟩)] wr (PostX G2 B p (stK s bs 2) (cdK s bs 1 : Int) wr)) := Lib.hid (save2_any HSV.out (HSB.out.kept HKr.out (fun g h => h)) rfl)
            obtain ⟨kc, hkc⟩ : ∃ z, z = cdK s bs 1 := ⟨_, rfl⟩
            obtain ⟨sn, hsn⟩ : ∃ z, z = stK s bs 2 := ⟨_, rfl⟩
            rw [← hkc, ← hsn] at HC
            have HKC := Lib.hid hkc
            have HSN := Lib.hid hsn
            clear hkc hsn
            go_wp2_with fail
            (with_reducible refine HC.out.mono ?_); rintro e w8 ⟨rfl, hd8, hb8, hk8⟩
            have HSV8 := Lib.hid (HSV.out.next hd8 hk8)
            have HB8 : Hid (Below B w7 w8) := Lib.hid (HBr.out.trans hb8)
            have HK8 : Hid (Kept G2 w7 w8) := Lib.hid (HKr.out.trans_ hk8)
            clear hd8 hb8 hk8 c0 HC
            by_cases hc : kc = 0
            · have tk : ((kc : Int) != 0) = false := by rw [hc]; rfl
              have HOKN : Hid (∀ j, j < 2 → cdK s bs j = 0) := Lib.hid (fun j hj => by
                rcases Nat.lt_or_ge j 1 with h9 | h9
                · exact HOK.out j h9
                · have : j = 1 := by omega
                  subst this; rw [← HKC.out]; exact hc)
              clear hc
              go_wp2_with fail
              go_roundw
              case rel => exact ⟨2, by omega, rfl, by rw [← HSN.out]; exact HSV8.out, HOKN, HB8.out, HK8.out⟩
              case measure => simp [RowKit.intOf]
            · have tk : ((kc : Int) != 0) = true := by rw [bne_iff_ne]; omega
              have HS := Lib.hid (saveH_bad (s := s) (s' := sn) (k := kc) (tv := (t0, v0)) HQ.out.symm HNS.out (by rw [← HBS.out, HSN.out, HKC.out]; exact steps_stop HOK.out (by omega) (by rw [← HKC.out]; exact hc)) hc)
              clear hc
              go_wp2_with fail
              go_ret
              unfold HSaveP
              rw [HS.out]
              exact ⟨rfl, ⟨HSV8.out.dx.weaken (fun g hg => hG2 g (.inl hg)), HSV8.out.bh, HH.out.big, HH.out.notG⟩, (HB7.out.mono HH.out.dx.le).trans HB8.out, (kept_below (fun g hg => HH.out.dx.old g (.inl hg)) HB7.out).trans_ (fun g hg => HK8.out g (hG2 g (.inl (.inl hg))))⟩
          · have c0 : wr.cell? ⟨w4.heap.size + 1, 2, none⟩ = some (.func (.func 35) #[] #[.pointer (some ⟨w.heap.size, 0, none⟩)]) := HCBr.out.cell 2
            have HC : Hid (Calls Tryz.prog 35 #[.pointer (some ⟨w.heap.size, 0, none⟩)] wr (PostX G2 B p (stK s bs 3) (cdK s bs 2 : Int) wr)) := Lib.hid (save3_any HSV.out rfl)
            obtain ⟨kc, hkc⟩ : ∃ z, z = cdK s bs 2 := ⟨_, rfl⟩
            obtain ⟨sn, hsn⟩ : ∃ z, z = stK s bs 3 := ⟨_, rfl⟩
            rw [← hkc, ← hsn] at HC
            have HKC := Lib.hid hkc
            have HSN := Lib.hid hsn
            clear hkc hsn
            go_wp2_with fail
            (with_reducible refine HC.out.mono ?_); rintro e w8 ⟨rfl, hd8, hb8, hk8⟩
            have HSV8 := Lib.hid (HSV.out.next hd8 hk8)
            have HB8 : Hid (Below B w7 w8) := Lib.hid (HBr.out.trans hb8)
            have HK8 : Hid (Kept G2 w7 w8) := Lib.hid (HKr.out.trans_ hk8)
            clear hd8 hb8 hk8 c0 HC
            by_cases hc : kc = 0
            · have tk : ((kc : Int) != 0) = false := by rw [hc]; rfl
              have HOKN : Hid (∀ j, j < 3 → cdK s bs j = 0) := Lib.hid (fun j hj => by
                rcases Nat.lt_or_ge j 2 with h9 | h9
                · exact HOK.out j h9
                · have : j = 2 := by omega
                  subst this; rw [← HKC.out]; exact hc)
              clear hc
              go_wp2_with fail
              go_roundw
              case rel => exact ⟨3, by omega, rfl, by rw [← HSN.out]; exact HSV8.out, HOKN, HB8.out, HK8.out⟩
              case measure => simp [RowKit.intOf]
            · have tk : ((kc : Int) != 0) = true := by rw [bne_iff_ne]; omega
              have HS := Lib.hid (saveH_bad (s := s) (s' := sn) (k := kc) (tv := (t0, v0)) HQ.out.symm HNS.out (by rw [← HBS.out, HSN.out, HKC.out]; exact steps_stop HOK.out (by omega) (by rw [← HKC.out]; exact hc)) hc)
              clear hc
              go_wp2_with fail
              go_ret
              unfold HSaveP
              rw [HS.out]
              exact ⟨rfl, ⟨HSV8.out.dx.weaken (fun g hg => hG2 g (.inl hg)), HSV8.out.bh, HH.out.big, HH.out.notG⟩, (HB7.out.mono HH.out.dx.le).trans HB8.out, (kept_below (fun g hg => HH.out.dx.old g (.inl hg)) HB7.out).trans_ (fun g hg => HK8.out g (hG2 g (.inl (.inl hg))))⟩
          · have c0 : wr.cell? ⟨w4.heap.size + 1, 3, none⟩ = some (.func (.func 37) #[] #[.pointer (some ⟨w.heap.size, 0, none⟩)]) := HCBr.out.cell 3
            have HC : Hid (Calls Tryz.prog 37 #[.pointer (some ⟨w.heap.size, 0, none⟩)] wr (PostX G2 B p (stK s bs 4) (cdK s bs 3 : Int) wr)) := Lib.hid (save4_any HSV.out rfl)
            obtain ⟨kc, hkc⟩ : ∃ z, z = cdK s bs 3 := ⟨_, rfl⟩
            obtain ⟨sn, hsn⟩ : ∃ z, z = stK s bs 4 := ⟨_, rfl⟩
            rw [← hkc, ← hsn] at HC
            have HKC := Lib.hid hkc
            have HSN := Lib.hid hsn
            clear hkc hsn
            go_wp2_with fail
            (with_reducible refine HC.out.mono ?_); rintro e w8 ⟨rfl, hd8, hb8, hk8⟩
            have HSV8 := Lib.hid (HSV.out.next hd8 hk8)
            have HB8 : Hid (Below B w7 w8) := Lib.hid (HBr.out.trans hb8)
            have HK8 : Hid (Kept G2 w7 w8) := Lib.hid (HKr.out.trans_ hk8)
            clear hd8 hb8 hk8 c0 HC
            by_cases hc : kc = 0
            · have tk : ((kc : Int) != 0) = false := by rw [hc]; rfl
              have HOKN : Hid (∀ j, j < 4 → cdK s bs j = 0) := Lib.hid (fun j hj => by
                rcases Nat.lt_or_ge j 3 with h9 | h9
                · exact HOK.out j h9
                · have : j = 3 := by omega
                  subst this; rw [← HKC.out]; exact hc)
              clear hc
              go_wp2_with fail
              go_roundw
              case rel => exact ⟨4, by omega, rfl, by rw [← HSN.out]; exact HSV8.out, HOKN, HB8.out, HK8.out⟩
              case measure => simp [RowKit.intOf]
            · have tk : ((kc : Int) != 0) = true := by rw [bne_iff_ne]; omega
              have HS := Lib.hid (saveH_bad (s := s) (s' := sn) (k := kc) (tv := (t0, v0)) HQ.out.symm HNS.out (by rw [← HBS.out, HSN.out, HKC.out]; exact steps_stop HOK.out (by omega) (by rw [← HKC.out]; exact hc)) hc)
              clear hc
              go_wp2_with fail
              go_ret
              unfold HSaveP
              rw [HS.out]
              exact ⟨rfl, ⟨HSV8.out.dx.weaken (fun g hg => hG2 g (.inl hg)), HSV8.out.bh, HH.out.big, HH.out.notG⟩, (HB7.out.mono HH.out.dx.le).trans HB8.out, (kept_below (fun g hg => HH.out.dx.old g (.inl hg)) HB7.out).trans_ (fun g hg => HK8.out g (hG2 g (.inl (.inl hg))))⟩
          · have HS := Lib.hid (saveH_ok (s := s) (tv := (t0, v0)) HQ.out.symm HNS.out (by rw [← HBS.out]; exact steps_all HOK.out))
            obtain ⟨s9, hs9⟩ : ∃ z, z = stK s bs 4 := ⟨_, rfl⟩
            rw [← hs9] at HS HSV
            clear hs9
            have hxb : w.heap.size ≠ hb := by have := HH.out.blk.lt; omega
            have HXB := Lib.hid hxb
            have x0 : wr.cell? ⟨w.heap.size, 0, none⟩ = some (.pointer (some ⟨hb, 0, none⟩)) := HSV.out.bx.cell 0
            have h1 : wr.cell? ⟨hb, 1, none⟩ = some (.int .i64 t0) := HSV.out.bh.cell 1
            have h2 : wr.cell? ⟨hb, 2, none⟩ = some (.int .i64 v0) := HSV.out.bh.cell 2
            have f1 := HSV.out.bh.free 1
            have f2 := HSV.out.bh.free 2
            clear hxb
            go_upto_region 14 with fail
            refine AnyZ.start (S := (fun W => W.cell? ⟨w.heap.size, 0, none⟩ = some (.pointer (some ⟨hb, 0, none⟩)))) (z := 9) (by kernel_rfl) ?_ (fun hHeld => ?_)
            · exact x0
            refine AnyZ.take (i := 0) (v := ?_) rfl (by kernel_rfl) (by kernel_rfl) (by kernel_rfl) (by kernel_rfl) (fun _ _ _ h => h) (Or.inl ⟨by kernel_rfl, ?_⟩) (by assumption) ?_
            rotate_left
            · intro w hSw; (try dsimp only at hSw); go_simp; try with_reducible rfl
            try simp only [Act.put, List.getElem_toArray, List.getElem_cons_succ, List.getElem_cons_zero, List.setIfInBounds_toArray, List.set_cons_zero, List.set_cons_succ]
            refine AnyZ.take (i := 1) (v := ?_) rfl (by kernel_rfl) (by kernel_rfl) (by kernel_rfl) (by kernel_rfl) (fun _ _ _ h => h) (Or.inl ⟨by kernel_rfl, ?_⟩) (by assumption) ?_
            rotate_left
            · intro w hSw; (try dsimp only at hSw); go_simp; try with_reducible rfl
            try simp only [Act.put, List.getElem_toArray, List.getElem_cons_succ, List.getElem_cons_zero, List.setIfInBounds_toArray, List.set_cons_zero, List.set_cons_succ]
            refine AnyZ.take (i := 2) (v := ?_) rfl (by kernel_rfl) (by kernel_rfl) (by kernel_rfl) (by kernel_rfl) (fun _ _ _ h => h) (Or.inl ⟨by kernel_rfl, ?_⟩) (by assumption) ?_
            rotate_left
            · intro w hSw; (try dsimp only at hSw); go_simp; try with_reducible rfl
            try simp only [Act.put, List.getElem_toArray, List.getElem_cons_succ, List.getElem_cons_zero, List.setIfInBounds_toArray, List.set_cons_zero, List.set_cons_succ]
            refine AnyZ.take (i := 3) (v := ?_) rfl (by kernel_rfl) (by kernel_rfl) (by kernel_rfl) (by kernel_rfl) (fun _ _ _ h => h) (Or.inl ⟨by kernel_rfl, ?_⟩) (by assumption) ?_
            rotate_left
            · intro w hSw; (try dsimp only at hSw); go_simp; try with_reducible rfl
            try simp only [Act.put, List.getElem_toArray, List.getElem_cons_succ, List.getElem_cons_zero, List.setIfInBounds_toArray, List.set_cons_zero, List.set_cons_succ]
            refine AnyZ.take (i := 4) (v := ?_) rfl (by kernel_rfl) (by kernel_rfl) (by kernel_rfl) (by kernel_rfl) (fun _ _ _ h => h) (Or.inl ⟨by kernel_rfl, ?_⟩) (by assumption) ?_
            rotate_left
            · intro w hSw; (try dsimp only at hSw); go_simp; try with_reducible rfl
            try simp only [Act.put, List.getElem_toArray, List.getElem_cons_succ, List.getElem_cons_zero, List.setIfInBounds_toArray, List.set_cons_zero, List.set_cons_succ]
            refine AnyZ.take (i := 5) (v := ?_) rfl (by kernel_rfl) (by kernel_rfl) (by kernel_rfl) (by kernel_rfl) (fun _ _ _ h => h) (Or.inl ⟨by kernel_rfl, ?_⟩) (by assumption) ?_
            rotate_left
            · intro w hSw; (try dsimp only at hSw); go_simp; try with_reducible rfl
            try simp only [Act.put, List.getElem_toArray, List.getElem_cons_succ, List.getElem_cons_zero, List.setIfInBounds_toArray, List.set_cons_zero, List.set_cons_succ]
            refine AnyZ.ready (rs := [6]) (by kernel_rfl) (by simp) ?_
            refine AllZ.cons rfl (fun K hK => ?_) AllZ.nil
            go_simp
            refine hK.out _ _ ?_ (fun hHeld => ?_)
            · exact (HSV.out.bx.drew.far (p := ⟨hb, 1, none⟩) HXB.out _).cell 0
            clear hK K
            try simp only [Act.put, List.getElem_toArray, List.getElem_cons_succ, List.getElem_cons_zero, List.setIfInBounds_toArray, List.set_cons_zero, List.set_cons_succ]
            refine AnyZ.takeAny (i := 7) (v := ?_) rfl (by kernel_rfl) (by kernel_rfl) (by kernel_rfl) (by kernel_rfl) (fun _ _ _ h => h) (Or.inl ⟨by kernel_rfl, ?_⟩) (by assumption) ?_
            rotate_left
            · intro w hSw; (try dsimp only at hSw); go_simp; try with_reducible rfl
            try simp only [Act.put, List.getElem_toArray, List.getElem_cons_succ, List.getElem_cons_zero, List.setIfInBounds_toArray, List.set_cons_zero, List.set_cons_succ]
            refine AnyZ.take (i := 8) (v := ?_) rfl (by kernel_rfl) (by kernel_rfl) (by kernel_rfl) (by kernel_rfl) (fun _ _ _ h => h) (Or.inl ⟨by kernel_rfl, ?_⟩) (by assumption) ?_
            rotate_left
            · intro w hSw; (try dsimp only at hSw); go_simp; try with_reducible rfl
            try simp only [Act.put, List.getElem_toArray, List.getElem_cons_succ, List.getElem_cons_zero, List.setIfInBounds_toArray, List.set_cons_zero, List.set_cons_succ]
            refine AnyZ.ready (rs := [9]) (by kernel_rfl) (by simp) ?_
            refine AllZ.last rfl (by kernel_rfl) (fun K hK => ?_) AllZ.nil
            go_simp
            refine hK.out _ _ ?_
            clear hK K
            try simp only [Act.put, List.getElem_toArray, List.getElem_cons_succ, List.getElem_cons_zero, List.setIfInBounds_toArray, List.set_cons_zero, List.set_cons_succ]
            refine AnyZ.done (by kernel_rfl) ?_ _
            go_wp2_with fail
            go_ret
            unfold HSaveP
            rw [HS.out]
            have hset : Frm (fun g => g = hb) wr ((wr.drew.setCell ⟨hb, 1, none⟩ (.int .i64 t)).setCell ⟨hb, 2, none⟩ (.int .i64 v)) := ((Frm.refl (fun g => g = hb) wr).drew.setCell (p := ⟨hb, 1, none⟩) (fun _ => rfl) _).setCell (p := ⟨hb, 2, none⟩) (fun _ => rfl) _
            have hbl : Below B wr ((wr.drew.setCell ⟨hb, 1, none⟩ (.int .i64 t)).setCell ⟨hb, 2, none⟩ (.int .i64 v)) := (((Below.refl B wr).drew).setCell (p := ⟨hb, 1, none⟩) HH.out.big _).setCell (p := ⟨hb, 2, none⟩) HH.out.big _
            refine ⟨rfl, ⟨dx_in (HSV.out.dx.weaken (fun g hg => hG2 g (.inl hg))) hset (fun g e => .inr e), (HSV.out.bh.drew.set_ 1 _).set_ 2 _, HH.out.big, HH.out.notG⟩, ((HB7.out.mono HH.out.dx.le).trans HBr.out).trans hbl, ?_⟩
            exact ((kept_below (fun g hg => HH.out.dx.old g (.inl hg)) HB7.out).trans_ (fun g hg => HKr.out g (hG2 g (.inl (.inl hg))))).trans_ (fun g hg => hset.block g (Nat.lt_of_lt_of_le (Nat.lt_of_lt_of_le (HH.out.dx.old g (.inl hg)) HB7.out.size) HBr.out.size) (fun e => HH.out.notG (e ▸ hg)))
end Go.Proofs.YtfpomllhkbbipaaGreat
