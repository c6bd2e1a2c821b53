/- Layer 5: the walks of Fail, Down, Cut. -/
import Derived.Test.YtepkjnhijocojaaDskD
import Derived.Deep.RegionHeld3
import Derived.Deep.RegionLaw
namespace Go.Proofs.Ytepkjnhijocojaa
open Go.RowKit Go.Maps Mem Dsk

section
variable {α : Type} {f : α → Value} {e : TypeId} {F : Nat → Prop} {w : World} {A : Option Addr} {xs : List α}
theorem Mem.Sl.pre {m : Nat} (h : Sl f w A xs) : Sl f w A (xs.take m) :=
  ⟨by have := h.1; rw [List.length_take]; omega, fun hn => by
    rw [List.length_take] at hn
    obtain ⟨b, o, hA, hc⟩ := h.2 (by omega)
    refine ⟨b, o, hA, fun j hj => ?_⟩
    rw [List.length_take] at hj
    rw [List.getElem_take]; exact hc j (by omega)⟩
end
theorem Mem.below_on {w0 w w' : World} (h : Below w0.heap.size w0 w) (k : Below w.heap.size w w') : Below w0.heap.size w0 w' := h.trans (k.mono h.size)
theorem findR_updR {n : Name} {rs : List Rec} {r r' : Rec} (h : findR n rs = some r) (hn : r'.file.name = n) : findR n (updR n (fun _ => r') rs) = some r' := by
  unfold findR updR at *
  induction rs with
  | nil => cases h
  | cons y l ih =>
    rw [List.map_cons]
    by_cases e : y.file.name = n
    · rw [if_pos (by simpa using e), List.find?_cons_of_pos (by simpa using hn)]
    · rw [if_neg (by simpa using e), List.find?_cons_of_neg (by simpa using e)]
      rw [List.find?_cons_of_neg (by simpa using e)] at h
      exact ih h
theorem upd_upd (n : Name) (g1 g2 : File → File) (hg : ∀ f, (g1 f).name = f.name) (fs : List File) : upd n g2 (upd n g1 fs) = upd n (fun f => g2 (g1 f)) fs := by
  unfold upd; rw [List.map_map]
  apply List.map_congr_left
  intro f _; simp only [Function.comp]
  by_cases e : (f.name == n) = true
  · rw [if_pos e, if_pos (by rw [hg]; exact e), if_pos e]
  · rw [if_neg e, if_neg e]; simp [e]
theorem Fail_any {F : Nat → Prop} {w : World} {p : Nat} {s : S} (h : DiskAt F w p s) (n : Int) (hn : (Lit.int .i64 n).wf = true) :
    Calls Try.prog 16 #[.pointer (some ⟨p, 0, none⟩), .int .i64 n] w fun e w' => e = .returned (.tuple #[]) ∧ DiskAt F w' p { s with fuse := n.toNat } ∧ Frm F w w' := by
  obtain ⟨mb, rs, h⟩ := h
  have hb := h.blk
  have c2 : w.cell? ⟨p, 2, none⟩ = some (.int .i64 s.fuse) := hb.cell 2
  have f2 := hb.free 2
  have e1 : max n 0 = (n.toNat : Int) := by omega
  have e2 : max 0 n = (n.toNat : Int) := by omega
  have hw : n.toNat ≤ 9223372036854775807 := by simp [Lit.wf] at hn; omega
  have HW := Lib.hid hw; clear hw
  have HE1 := Lib.hid e1; clear e1 e2 hn
  have key : DiskAt F (w.setCell ⟨p, 2, none⟩ (.int .i64 n.toNat)) p { s with fuse := n.toNat } := ⟨mb, rs, h.setHead 2 _ rfl HW.out rfl⟩
  have frm : Frm F w (w.setCell ⟨p, 2, none⟩ (.int .i64 n.toNat)) := (Frm.refl F w).setCell (p := ⟨p, 2, none⟩) (fun _ => h.inP) _
  have hp := h.inP
  clear h
  rcases (Decidable.em (n < 0)) with h0 | h0
  · rw [show n.toNat = 0 by omega] at key frm ⊢
    go_enter Try.func16, Try.ntmps16
    go_wp2_with fail
    exact bodyPost_end (results_none rfl _ _ _) rfl ⟨rfl, key, frm⟩
  · obtain ⟨m, rfl⟩ := Int.eq_ofNat_of_zero_le (Int.not_lt.1 h0)
    rw [Int.toNat_natCast] at key frm ⊢
    go_enter Try.func16, Try.ntmps16
    go_wp2_with fail
    exact bodyPost_end (results_none rfl _ _ _) rfl ⟨rfl, key, frm⟩

theorem Down_any {F : Nat → Prop} {w : World} {p : Nat} {s : S} (h : DiskAt F w p s) :
    Calls Try.prog 17 #[.pointer (some ⟨p, 0, none⟩)] w fun e w' => e = .returned (.bool s.down) ∧ w = w' := by
  obtain ⟨mb, rs, h⟩ := h
  have hb := h.blk
  have c1 : w.cell? ⟨p, 1, none⟩ = some (.bool s.down) := hb.cell 1
  go_enter Try.func17, Try.ntmps17
  go_wp2_with fail
  go_ret
  exact ⟨rfl, rfl⟩

set_option maxHeartbeats 1000000 in
theorem Cut_any {F : Nat → Prop} {w : World} {p : Nat} {s : S} (h : DiskAt F w p s) (n : ByteArray) (hn : n.size ≤ maxLen) (at_ : Int) (hat : (Lit.int .i64 at_).wf = true) :
    Calls Try.prog 21 #[.pointer (some ⟨p, 0, none⟩), .string n, .int .i64 at_] w (OpPost F p (Dsk.cut s (sname n) at_) w) := by
  obtain ⟨mb, rs, h⟩ := h
  have hlt := h.blk.lt
  have hFp := h.inP
  have hfiles := h.files
  have hblk := h.blk
  rcases hlk : lookV (Dsk.step s) rs [n] with ⟨o, e⟩
  have hlo := look_one hfiles n hlk
  cases o with
  | some r =>
    obtain ⟨rfl, hfind⟩ := lookV_rec hlk
    have HFI := Lib.hid hfind; clear hfind
    by_cases ha : at_ < 0 ∨ (r.file.now.length : Int) < at_
    · have hres : Dsk.cut s (sname n) at_ = (Dsk.step s, 1) := by unfold Dsk.cut; simp only [hlo, Option.map_some, if_pos ha]
      have HRES := Lib.hid hres; clear hres hlo
      rcases ha with ha | ha
      · go_enter Try.func21, Try.ntmps21
        go_wp2_with fail
        (with_reducible refine (change_one h n hn hlk _ rfl).mono ?_); rintro x w1 ⟨rfl, h1, hf1⟩
        have HF := Lib.hid hf1; clear hf1
        unfold ptrOf
        go_wp2_with fail
        go_ret
        refine ⟨by rw [HRES.out]; rfl, ?_, Frm.inP hFp HF.out⟩
        rw [HRES.out]
        exact ⟨mb, rs, h1.mono (fun g _ => up_mono g)⟩
      · have ha0 : ¬ at_ < 0 := by omega
        go_enter Try.func21, Try.ntmps21
        go_wp2_with fail
        (with_reducible refine (change_one h n hn hlk _ rfl).mono ?_); rintro x w1 ⟨rfl, h1, hf1⟩
        have HF := Lib.hid hf1; clear hf1
        have c0 : w1.cell? ⟨r.fb, 0, none⟩ = some (.slice r.A r.file.now.length r.c) := (h1.recs r (findR_some HFI.out).2).1.cell 0
        unfold ptrOf
        go_wp2_with fail
        go_ret
        refine ⟨by rw [HRES.out]; rfl, ?_, Frm.inP hFp HF.out⟩
        rw [HRES.out]
        exact ⟨mb, rs, h1.mono (fun g _ => up_mono g)⟩
    have ha0 : 0 ≤ at_ := by omega
    obtain ⟨a, rfl⟩ := Int.eq_ofNat_of_zero_le ha0
    have hal : a ≤ r.file.now.length := by omega
    have hres : Dsk.cut s (sname n) a = ({ Dsk.step s with files := upd (sname n) (fun f => { f with now := f.now.take a, safe := f.safe.take a }) s.files }, 0) := by
      unfold Dsk.cut; simp only [hlo, Option.map_some, if_neg ha, step_files]; rfl
    have HRES := Lib.hid hres; clear hres hlo ha
    obtain ⟨hname, hmem⟩ := findR_some HFI.out
    clear hname
    go_enter Try.func21, Try.ntmps21
    go_wp2_with fail
    (with_reducible refine (change_one h n hn hlk _ rfl).mono ?_); rintro x w1 ⟨rfl, h1, hf1⟩
    obtain ⟨hb, hF, hA, hB, hc1, hc2, hc3, hc4, hsm⟩ := h1.recs r hmem
    have c0 : w1.cell? ⟨r.fb, 0, none⟩ = some (.slice r.A r.file.now.length r.c) := hb.cell 0
    have HF := Lib.hid hf1; clear hf1
    have HSM := Lib.hid hsm; clear hsm
    unfold ptrOf
    have htl : (r.file.now.take a).length = a := by rw [List.length_take]; omega
    have hC := fun w => Clone_any r.A r.c (r.file.now.take a) (by rw [htl]; have := HSM.out.1; unfold okLen; omega) w
    rw [htl] at hC
    set_option maxRecDepth 8000 in
    go_wp2_with fail
    (with_reducible refine (hC _ hA.sl.pre).mono ?_); rintro x w2 ⟨⟨A', c', rfl, hown⟩, hb2⟩
    have hn1 := (SlB.of_own hown).2
    have hn2 := hown.cap.1
    have hn3 := hown.cap.2
    clear hown hC
    have HB2 := Lib.hid hb2; clear hb2
    have hbk := hb.below HB2.out hb.lt
    have f0 := hbk.free 0
    have c02 : w2.cell? ⟨r.fb, 0, none⟩ = some (.slice r.A r.file.now.length r.c) := hbk.cell 0
    clear hbk
    set_option maxRecDepth 8000 in
    go_wp2_with fail
    clear f0 c02
    have h2 := (h1.below HB2.out).mono (G := up F w) (fun g _ => up_mono g)
    have hsz : w.heap.size ≤ w1.heap.size := HF.out.size
    obtain ⟨_, _, _, hB2, _⟩ := h2.recs r hmem
    have h3 := h2.setFile (r' := { r with file := { r.file with now := r.file.now.take a }, A := A', c := c' }) (gf := fun f => { f with now := f.now.take a }) HFI.out (fun _ => rfl) rfl rfl 0 _ rfl (hn1.mono (fun g _ hg => .inr (Nat.le_trans hsz hg))) hB2 ⟨hn2, hn3, hc3, hc4, by show (r.file.now.take a).length ≤ 65536; rw [htl]; exact Nat.le_trans hal HSM.out.1, HSM.out.2⟩
    have hf3 : Frm F w (w2.setCell ⟨r.fb, 0, none⟩ (.slice A' (r.file.now.take a).length c')) := ((Frm.inP hFp HF.out).then_below HB2.out).setCell (p := ⟨r.fb, 0, none⟩) (fun _ => hF) _
    have hfr : findR (sname n) (updR (sname n) (fun _ => { r with file := { r.file with now := r.file.now.take a }, A := A', c := c' }) rs) = some { r with file := { r.file with now := r.file.now.take a }, A := A', c := c' } := findR_updR HFI.out (findR_some HFI.out).1
    rw [step_files] at h3
    have e0 : Value.slice A' (r.file.now.take a).length c' = .slice A' a c' := by rw [htl]
    simp only [e0] at h3 hf3
    clear e0
    have H3 := Lib.hid h3; clear h3
    have HF3 := Lib.hid hf3; clear hf3
    have HFR := Lib.hid hfr; clear hfr
    clear h2 hn1 hn2 hn3 HB2 hB2 hsz
    revert H3 HF3
    generalize hwq : w2.setCell ⟨r.fb, 0, none⟩ (.slice A' a c') = wq
    intro H3 HF3
    clear hwq
    have hmq := (findR_some HFR.out).2
    obtain ⟨hbq, hFq, _, hBq, _⟩ := H3.out.recs _ hmq
    have c1 : wq.cell? ⟨r.fb, 1, none⟩ = some (.slice r.B r.file.safe.length r.d) := hbq.cell 1
    have f1 := hbq.free 1
    have hms : Sl fB wq r.B (r.file.safe.take a) := hBq.sl.pre
    have hCS := fun w => Clone_any r.B r.d (r.file.safe.take a) (by rw [List.length_take]; have := (small_ok HSM.out).2; unfold okLen at *; omega) w
    have kS : ∀ w', Below wq.heap.size wq w' → (w'.cell? ⟨r.fb, 1, none⟩ = some (.slice r.B r.file.safe.length r.d) ∧ w'.frozen? ⟨r.fb, 1, none⟩ = false ∧ Sl fB w' r.B (r.file.safe.take a) ∧ Below wq.heap.size wq w') :=
      fun w' hb' => ⟨(hb'.cell hbq.lt).trans c1, (hb'.frozen hbq.lt).trans f1, hms.below hb', hb'⟩
    by_cases hm : r.file.safe.length < a
    · have hml : (r.file.safe.take a).length = r.file.safe.length := by rw [List.length_take]; omega
      rw [hml] at hCS
      have HML := Lib.hid hml; clear hml
      set_option maxRecDepth 8000 in
      go_region_law (first | ((first | (go_simp; go_at_call 30) | go_at_call 30 | skip); refine (hCS wq.drew hms).mono ?_; rintro x w3 ⟨⟨A2, d2, rfl, hown2⟩, hb3⟩; have hb4 : Below wq.heap.size wq w3 := (below_drewN (Below.refl _ _) 1).trans hb3; have c13 := (kS _ hb4).1; have f13 := (kS _ hb4).2.1))
      all_goals (clear hmq hbq hFq hBq kS hCS)
      all_goals go_wp2_with fail
      all_goals go_ret
      all_goals
        refine ⟨by rw [HRES.out]; rfl, ?_, (HF3.out.then_below hb4).setCell (p := ⟨r.fb, 1, none⟩) (fun _ => hF) _⟩
        rw [HRES.out]
        have hn1 := (SlB.of_own hown2).2
        have hn2 := hown2.cap.1
        have hn3 := hown2.cap.2
        have h4 := H3.out.below hb4
        have hsz : w.heap.size ≤ wq.heap.size := HF3.out.size
        obtain ⟨_, _, hA4, _, hd1, hd2, _⟩ := h4.recs _ (findR_some HFR.out).2
        have h5 := h4.setFile (r' := { r with file := { r.file with now := r.file.now.take a, safe := r.file.safe.take a }, A := A', c := c', B := A2, d := d2 }) (gf := fun f => { f with safe := f.safe.take a }) HFR.out (fun _ => rfl) rfl rfl 1 _ rfl hA4 (hn1.mono (fun g _ hg => .inr (Nat.le_trans hsz hg))) ⟨hd1, hd2, hn2, hn3, by show (r.file.now.take a).length ≤ 65536; rw [htl]; exact Nat.le_trans hal HSM.out.1, by show (r.file.safe.take a).length ≤ 65536; rw [List.length_take]; exact Nat.le_trans (Nat.min_le_right _ _) HSM.out.2.1, HSM.out.2.2⟩
        have e5 : min a r.file.safe.length = (r.file.safe.take a).length := List.length_take.symm
        rw [e5]
        have hu := upd_upd (sname n) (fun f => { f with now := f.now.take a }) (fun f => { f with safe := f.safe.take a }) (fun _ => rfl) s.files
        rw [← hu]
        exact ⟨mb, _, h5⟩
    · have hml : (r.file.safe.take a).length = a := by rw [List.length_take]; omega
      have had : a ≤ r.d := by omega
      rw [hml] at hCS
      have HML := Lib.hid hml; clear hml
      set_option maxRecDepth 8000 in
      go_region_law (first | ((first | (go_simp; go_at_call 30) | go_at_call 30 | skip); refine (hCS wq.drew hms).mono ?_; rintro x w3 ⟨⟨A2, d2, rfl, hown2⟩, hb3⟩; have hb4 : Below wq.heap.size wq w3 := (below_drewN (Below.refl _ _) 1).trans hb3; have c13 := (kS _ hb4).1; have f13 := (kS _ hb4).2.1))
      all_goals (clear hmq hbq hFq hBq kS hCS)
      all_goals go_wp2_with fail
      all_goals go_ret
      all_goals
        refine ⟨by rw [HRES.out]; rfl, ?_, (HF3.out.then_below hb4).setCell (p := ⟨r.fb, 1, none⟩) (fun _ => hF) _⟩
        rw [HRES.out]
        have hn1 := (SlB.of_own hown2).2
        have hn2 := hown2.cap.1
        have hn3 := hown2.cap.2
        have h4 := H3.out.below hb4
        have hsz : w.heap.size ≤ wq.heap.size := HF3.out.size
        obtain ⟨_, _, hA4, _, hd1, hd2, _⟩ := h4.recs _ (findR_some HFR.out).2
        have h5 := h4.setFile (r' := { r with file := { r.file with now := r.file.now.take a, safe := r.file.safe.take a }, A := A', c := c', B := A2, d := d2 }) (gf := fun f => { f with safe := f.safe.take a }) HFR.out (fun _ => rfl) rfl rfl 1 _ rfl hA4 (hn1.mono (fun g _ hg => .inr (Nat.le_trans hsz hg))) ⟨hd1, hd2, hn2, hn3, by show (r.file.now.take a).length ≤ 65536; rw [htl]; exact Nat.le_trans hal HSM.out.1, by show (r.file.safe.take a).length ≤ 65536; rw [List.length_take]; exact Nat.le_trans (Nat.min_le_right _ _) HSM.out.2.1, HSM.out.2.2⟩
        have e5 : min a r.file.safe.length = (r.file.safe.take a).length := List.length_take.symm
        rw [e5]
        have hu := upd_upd (sname n) (fun f => { f with now := f.now.take a }) (fun f => { f with safe := f.safe.take a }) (fun _ => rfl) s.files
        rw [← hu]
        exact ⟨mb, _, h5⟩
  | none =>
    have hne := lookV_none_ne hlk
    have hres : Dsk.cut s (sname n) at_ = (Dsk.step s, e) := by unfold Dsk.cut; simp only [hlo]; rfl
    have HRES := Lib.hid hres; clear hres hlo
    have t1 : ((e : Int) != 0) = true := by rw [bne_iff_ne]; omega
    have HNE := Lib.hid hne; clear hne
    go_enter Try.func21, Try.ntmps21
    go_wp2_with fail
    (with_reducible refine (change_one h n hn hlk _ rfl).mono ?_); rintro x w1 ⟨rfl, h1, hf1⟩
    have HF := Lib.hid hf1; clear hf1
    unfold ptrOf
    go_wp2_with fail
    go_ret
    refine ⟨by rw [HRES.out]; rfl, ?_, Frm.inP hFp HF.out⟩
    rw [HRES.out]
    exact ⟨mb, rs, h1.mono (fun g _ => up_mono g)⟩
end Go.Proofs.Ytepkjnhijocojaa
