/- Layer 5: bytes: Clone. -/
import Derived.Test.YtepkjnhijocojaaDskM2
namespace Go.Proofs.Ytepkjnhijocojaa
open Go.RowKit Go.Maps Mem Dsk

theorem u8T : SliceT Try.prog 26 5 (.int .u8 0) 1 := sliceT_mk Try.underlying26 rfl (by kernel_rfl)
theorem fB_one (b : UInt8) : (fB b).oneCell' = true := rfl
def okLen (n : Nat) : Prop := n ≤ 140737488351232
theorem okLen_le {n : Nat} (h : okLen n) : n ≤ maxLen ∧ n * 1 ≤ 140737488355328 := by unfold okLen at h; unfold maxLen; omega
/-- a slice of new bytes -/
def NewBytes (B : Nat) (xs : List UInt8) (e : Ending) (w' : World) : Prop :=
  ∃ A c, e = .returned (.slice A xs.length c) ∧ Own fB B 5 w' (.slice A xs.length c) xs
set_option maxHeartbeats 400000 in
theorem Clone_any (A : Option Addr) (c : Nat) (xs : List UInt8) (hl : okLen xs.length) (w : World) (hs : Sl fB w A xs) :
    Calls Try.prog 30 #[.slice A xs.length c] w fun e w' => NewBytes w.heap.size xs e w' ∧ Below w.heap.size w w' := by
  have hnil := fun (w : World) (a : Option Addr) (n c : Nat) => Lib.run_eql_slice_nil (P := Try.prog) w 26 5 a n c 0 0 Try.underlying26
  cases A with
  | none =>
    obtain rfl : xs = [] := by
      cases xs with
      | nil => rfl
      | cons x r => obtain ⟨b, o, e, _⟩ := hs.2 (by simp); cases e
    go_enter Try.func30, Try.ntmps30
    go_wp2_with fail
    go_ret
    exact ⟨⟨none, 0, rfl, Own.nil⟩, Below.refl _ _⟩
  | some ad =>
    go_enter Try.func30, Try.ntmps30
    go_wp2_with (at_builtin; refine wpList_appendN (f := fB) rfl (.tmp 5) (.tmp 6) 26 rfl u8T rfl (Own.mk_ (Nat.le_refl _)) rfl (hs.below ((Below.refl _ _).alloc (Nat.le_refl _) _)) fB_one (by rw [List.length_nil, Nat.zero_add]; exact (okLen_le hl).1) (by rw [List.length_nil, Nat.zero_add]; exact (okLen_le hl).2) (by simp) ?_; intro v1 w1 hown1 hb1; obtain ⟨A', c', rfl⟩ := hown1.form)
    go_ret
    rw [List.nil_append] at hown1
    exact ⟨⟨A', c', rfl, hown1⟩, ((Below.refl _ _).alloc (Nat.le_refl _) _).trans hb1⟩

theorem small_ok {f : File} (h : small f) : okLen f.now.length ∧ okLen f.safe.length := by unfold small at h; unfold okLen; omega
/-- what Read leaves -/
def ReadPost (F : Nat → Prop) (p : Nat) (s : S) (n : Name) (w : World) (e : Ending) (w' : World) : Prop :=
  ∃ A c, e = .returned (.tuple #[.slice A (Dsk.read s n).1.length c, .int .i64 (Dsk.read s n).2]) ∧ SlB fB 5 (fun g => w.heap.size ≤ g) w' A (Dsk.read s n).1 ∧ (Dsk.read s n).1.length ≤ c ∧ c ≤ maxLen ∧ DiskAt F w' p s ∧ Below w.heap.size w w'
theorem look_one0 {s : S} {rs : List Rec} (h : rs.map Rec.file = s.files) (n : ByteArray) {o : Option Rec} {e : Nat} (hl : lookV s rs [n] = (o, e)) : Dsk.look s [sname n] = (o.map Rec.file, e) := by
  have := lookV_look h [n] (by simp)
  rw [hl] at this; exact this
theorem lookd_one {F : Nat → Prop} {w : World} {p mb : Nat} {s : S} {rs : List Rec} (h : Rep F w p s mb rs) (n : ByteArray) (hn : n.size ≤ maxLen) {o : Option Rec} {e : Nat} (hl : lookV s rs [n] = (o, e)) (g : Nat) (hg : g = w.heap.size) :
    Calls Try.prog 33 #[.pointer (some ⟨p, 0, none⟩), .slice (some ⟨g, 0, none⟩) 1 1] (w.alloc (.cells #[.string n] 9))
      fun x w' => x = .returned (.tuple #[ptrOf o, .int .i64 e]) ∧ Rep F w' p s mb rs ∧ Below w.heap.size w w' := by
  subst hg
  have hb1 := (Below.refl w.heap.size w).alloc (Nat.le_refl _) (.cells #[.string n] 9)
  have h1 := h.below hb1
  have hs : Sl Value.string (w.alloc (.cells #[.string n] 9)) (some ⟨w.heap.size, 0, none⟩) [n] :=
    ⟨by unfold maxLen; simp, fun _ => ⟨_, _, rfl, fun j hj => by
      simp at hj; subst hj
      have := heap_alloc_new w (.cells #[.string n] 9)
      unfold World.cell?; simp only [this]; rfl⟩⟩
  refine (look_any h1 (some ⟨w.heap.size, 0, none⟩) 1 [n] (by simp) hs (by simpa using hn)).mono ?_
  rintro x w' ⟨hx, k, rfl⟩
  have hb2 := below_drewN hb1 k
  exact ⟨by rw [hx, hl]; rfl, h.below hb2, hb2⟩
set_option maxHeartbeats 1000000 in
theorem Read_any {F : Nat → Prop} {w : World} {p : Nat} {s : S} (h : DiskAt F w p s) (n : ByteArray) (hn : n.size ≤ maxLen) :
    Calls Try.prog 15 #[.pointer (some ⟨p, 0, none⟩), .string n] w (ReadPost F p s (sname n) w) := by
  obtain ⟨mb, rs, h⟩ := h
  have hfiles := h.files
  rcases hlk : lookV s rs [n] with ⟨o, e⟩
  have hlo := look_one0 hfiles n hlk
  cases o with
  | some r =>
    obtain ⟨rfl, hfind⟩ := lookV_rec hlk
    have hres : Dsk.read s (sname n) = (r.file.now, 0) := by unfold Dsk.read; simp only [hlo]; rfl
    have HRES := Lib.hid hres; clear hres hlo
    have HFI := Lib.hid hfind; clear hfind
    go_enter Try.func15, Try.ntmps15
    go_wp2_with fail
    (with_reducible refine (lookd_one h n hn hlk _ rfl).mono ?_); rintro x w1 ⟨rfl, h1, hf1⟩
    have HF := Lib.hid hf1; clear hf1
    obtain ⟨hname, hmem⟩ := findR_some HFI.out
    obtain ⟨hb, hF, hA, hB, hc1, hc2, hc3, hc4, hsm⟩ := h1.recs r hmem
    have c0 : w1.cell? ⟨r.fb, 0, none⟩ = some (.slice r.A r.file.now.length r.c) := hb.cell 0
    have HSM := Lib.hid hsm; clear hsm hname
    unfold ptrOf
    go_wp2_with fail
    (with_reducible refine (Clone_any _ _ _ (small_ok HSM.out).1 _ hA.sl).mono ?_); rintro x w2 ⟨⟨A', c', rfl, hown⟩, hb2⟩
    have hn1 := (SlB.of_own hown).2
    have hn2 := hown.cap.1
    have hn3 := hown.cap.2
    clear hown
    go_wp2_with fail
    go_ret2
    refine ⟨A', c', by rw [HRES.out]; rfl, ?_, by rw [HRES.out]; exact hn2, hn3, ⟨mb, rs, h1.below hb2⟩, HF.out.trans (hb2.mono HF.out.size)⟩
    rw [HRES.out]
    exact hn1.mono (fun g _ hg => Nat.le_trans HF.out.size hg)
  | none =>
    have hne := lookV_none_ne hlk
    have hres : Dsk.read s (sname n) = ([], e) := by unfold Dsk.read; simp only [hlo]; rfl
    have HRES := Lib.hid hres; clear hres hlo
    have t1 : ((e : Int) != 0) = true := by rw [bne_iff_ne]; omega
    have HNE := Lib.hid hne; clear hne
    go_enter Try.func15, Try.ntmps15
    go_wp2_with fail
    (with_reducible refine (lookd_one h n hn hlk _ rfl).mono ?_); rintro x w1 ⟨rfl, h1, hf1⟩
    have HF := Lib.hid hf1; clear hf1
    unfold ptrOf
    go_wp2_with fail
    go_ret2
    refine ⟨none, 0, by rw [HRES.out]; rfl, ?_, ?_, Nat.zero_le _, ⟨mb, rs, h1⟩, HF.out⟩
    · rw [HRES.out]; exact SlB.nil
    · rw [HRES.out]; exact Nat.le_refl _
set_option maxHeartbeats 1000000 in
theorem Sync_any {F : Nat → Prop} {w : World} {p : Nat} {s : S} (h : DiskAt F w p s) (n : ByteArray) (hn : n.size ≤ maxLen) :
    Calls Try.prog 18 #[.pointer (some ⟨p, 0, none⟩), .string n] w (OpPost F p (Dsk.sync s (sname n)) w) := by
  obtain ⟨mb, rs, h⟩ := h
  have hlt := h.blk.lt
  have hFp := h.inP
  have hfiles := h.files
  rcases hlk : lookV (Dsk.step s) rs [n] with ⟨o, e⟩
  have hlo := look_one hfiles n hlk
  cases o with
  | some r =>
    obtain ⟨rfl, hfind⟩ := lookV_rec hlk
    have hres : Dsk.sync s (sname n) = ({ Dsk.step s with files := upd (sname n) (fun f => { f with safe := f.now }) s.files }, 0) := by unfold Dsk.sync; simp only [hlo, step_files]; rfl
    have HRES := Lib.hid hres; clear hres hlo
    have HFI := Lib.hid hfind; clear hfind
    go_enter Try.func18, Try.ntmps18
    go_wp2_with fail
    (with_reducible refine (change_one h n hn hlk _ rfl).mono ?_); rintro x w1 ⟨rfl, h1, hf1⟩
    have HF := Lib.hid hf1; clear hf1
    obtain ⟨hname, hmem⟩ := findR_some HFI.out
    obtain ⟨hb, hF, hA, hB, hc1, hc2, hc3, hc4, hsm⟩ := h1.recs r hmem
    have c0 : w1.cell? ⟨r.fb, 0, none⟩ = some (.slice r.A r.file.now.length r.c) := hb.cell 0
    have HSM := Lib.hid hsm; clear hsm hname
    unfold ptrOf
    go_wp2_with fail
    (with_reducible refine (Clone_any _ _ _ (small_ok HSM.out).1 _ hA.sl).mono ?_); rintro x w2 ⟨⟨A', c', rfl, hown⟩, hb2⟩
    have hn1 := (SlB.of_own hown).2
    have hn2 := hown.cap.1
    have hn3 := hown.cap.2
    clear hown
    have HB2 := Lib.hid hb2; clear hb2
    have hbk := hb.below HB2.out hb.lt
    have c1 : w2.cell? ⟨r.fb, 1, none⟩ = some (.slice r.B r.file.safe.length r.d) := hbk.cell 1
    have f1 := hbk.free 1
    have HBK := Lib.hid hbk; clear hbk
    go_wp2_with fail
    go_ret
    have hlt2 := hb.lt
    refine ⟨by rw [HRES.out]; rfl, ?_, ((Frm.inP hFp HF.out).then_below HB2.out).setCell (p := ⟨r.fb, 1, none⟩) (fun _ => hF) _⟩
    rw [HRES.out]
    have h2 := (h1.below HB2.out).mono (G := up F w) (fun g _ => up_mono g)
    have hsz : w.heap.size ≤ w1.heap.size := HF.out.size
    obtain ⟨_, _, hA2, _⟩ := h2.recs r hmem
    have h3 := h2.setFile (r' := { r with file := { r.file with safe := r.file.now }, B := A', d := c' }) (gf := fun f => { f with safe := f.now }) HFI.out (fun _ => rfl) rfl rfl 1 _ rfl hA2 (hn1.mono (fun g _ hg => .inr (Nat.le_trans hsz hg))) ⟨hc1, hc2, hn2, hn3, HSM.out.1, HSM.out.1, HSM.out.2.2⟩
    rw [step_files] at h3
    exact ⟨mb, _, h3⟩
  | none =>
    have hne := lookV_none_ne hlk
    have hres : Dsk.sync s (sname n) = (Dsk.step s, e) := by unfold Dsk.sync; simp only [hlo]; rfl
    have HRES := Lib.hid hres; clear hres hlo
    have t1 := i64_eq_zero hne
    have HNE := Lib.hid hne; clear hne
    go_enter Try.func18, Try.ntmps18
    go_wp2_with fail
    (with_reducible refine (change_one h n hn hlk _ rfl).mono ?_); rintro x w1 ⟨rfl, h1, hf1⟩
    have HF := Lib.hid hf1; clear hf1
    unfold ptrOf
    go_wp2_with fail
    go_ret
    refine ⟨by rw [HRES.out]; rfl, ?_, Frm.inP hFp HF.out⟩
    rw [HRES.out]
    exact ⟨mb, rs, h1.mono (fun g _ => up_mono g)⟩
end Go.Proofs.Ytepkjnhijocojaa
