/- Layer 5: the walks of Remove, Rename. -/
import Derived.Test.YtepkjnhijocojaaDskM
namespace Go.Proofs.Ytepkjnhijocojaa
open Go.RowKit Go.Maps Mem Dsk

theorem i64_eq_zero {e : Nat} (h : e ≠ 0) : ((e : Int) == 0) = false := by rw [beq_eq_false_iff_ne]; omega
theorem lookV_none_ne {s : S} {rs : List Rec} {ns : List ByteArray} {e : Nat} (h : lookV s rs ns = (none, e)) : e ≠ 0 := by rcases lookV_none h with h | h | h <;> omega
theorem delR_mem {n : Name} {x : Rec} {rs : List Rec} (h : x ∈ delR n rs) : x ∈ rs ∧ x.file.name ≠ n := by
  obtain ⟨a, b⟩ := List.mem_filter.1 h
  exact ⟨a, by simpa using b⟩
theorem del_len_le (n : Name) (fs : List File) : (del n fs).length ≤ fs.length := List.length_filter_le _ _
theorem del_find_len {n : Name} {fs : List File} {f : File} (h : find n fs = some f) : (del n fs).length < fs.length := by
  unfold del
  rw [← List.countP_eq_length_filter]
  apply Nat.lt_of_le_of_ne (List.countP_le_length)
  intro e
  have := List.countP_eq_length.1 e f (find_name h).2
  simp [(find_name h).1] at this

set_option maxHeartbeats 1000000 in
theorem Remove_any {F : Nat → Prop} {w : World} {p : Nat} {s : S} (h : DiskAt F w p s) (n : ByteArray) (hn : n.size ≤ maxLen) :
    Calls Try.prog 36 #[.pointer (some ⟨p, 0, none⟩), .string n] w (OpPost F p (Dsk.remove s (sname n)) w) := by
  obtain ⟨mb, rs, h⟩ := h
  have hlt := h.blk.lt
  have hFp := h.inP
  have hfiles := h.files
  rcases hlk : lookV (Dsk.step s) rs [n] with ⟨o, e⟩
  have hlo := look_one hfiles n hlk
  cases o with
  | some r =>
    obtain ⟨rfl, hfind⟩ := lookV_rec hlk
    have hres : Dsk.remove s (sname n) = ({ Dsk.step s with files := del (sname n) s.files }, 0) := by unfold Dsk.remove; simp only [hlo, step_files]; rfl
    have HRES := Lib.hid hres; clear hres hlo
    have HFI := Lib.hid hfind; clear hfind
    go_enter Try.func36, Try.ntmps36
    go_wp2_with fail
    (with_reducible refine (change_one h n hn hlk _ rfl).mono ?_); rintro x w1 ⟨rfl, h1, hf1⟩
    have HF := Lib.hid hf1; clear hf1
    have c0 : w1.cell? ⟨p, 0, none⟩ = some (.map (some mb)) := h1.blk.cell 0
    have hown := h1.map
    unfold ptrOf
    go_wp2_with (at_delete; refine wpList_delete_own _ rfl _ _ 62 9 rfl 65 tyKeys Try.underlying62 ptrR mb _ _ rfl hown _ (.string (sname n)) rfl (Go.WideMaps.keyOf_string_mk Try.underlying9 hn) ?_; intro w2 hown2 hturn)
    go_ret
    have hgr2 := hturn.grown
    have hnew : Frm (fun g => g = mb) w1 w2 := (Frm.refl _ _).grown hgr2 (fun k e _ => by injection e with e; exact e.symm)
    refine ⟨by rw [HRES.out]; rfl, ?_, (Frm.inP hFp HF.out).grown hgr2 (fun k e _ => by injection e with e; rw [← e]; exact h.inM)⟩
    rw [HRES.out]
    rw [del_entries] at hown2
    have h2 := h1.mono (G := up F w) (fun g _ => up_mono g)
    exact ⟨mb, delR (sname n) rs, h2.remap hnew hown2 (by rw [delR_file, hfiles]) (fun r hr => h2.recs r (delR_mem hr).1) (delR_apart h.apart) (del_sorted h.sorted) (Nat.le_trans (del_len_le _ _) h.count)⟩
  | none =>
    have hne := lookV_none_ne hlk
    have hres : Dsk.remove s (sname n) = (Dsk.step s, e) := by unfold Dsk.remove; simp only [hlo]; rfl
    have HRES := Lib.hid hres; clear hres hlo
    have t1 := i64_eq_zero hne
    have HNE := Lib.hid hne; clear hne
    go_enter Try.func36, Try.ntmps36
    go_wp2_with fail
    (with_reducible refine (change_one h n hn hlk _ rfl).mono ?_); rintro x w1 ⟨rfl, h1, hf1⟩
    have HF := Lib.hid hf1; clear hf1
    unfold ptrOf
    go_wp2_with fail
    go_ret
    refine ⟨by rw [HRES.out]; rfl, ?_, Frm.inP hFp HF.out⟩
    rw [HRES.out]
    exact ⟨mb, rs, h1.mono (fun g _ => up_mono g)⟩

set_option maxHeartbeats 1000000 in
theorem Rename_any {F : Nat → Prop} {w : World} {p : Nat} {s : S} (h : DiskAt F w p s) (n m : ByteArray) (hn : n.size ≤ maxLen) (hm : m.size ≤ maxLen) :
    Calls Try.prog 22 #[.pointer (some ⟨p, 0, none⟩), .string n, .string m] w (OpPost F p (Dsk.rename s (sname n) (sname m)) w) := by
  obtain ⟨mb, rs, h⟩ := h
  have hlt := h.blk.lt
  have hFp := h.inP
  have hfiles := h.files
  rcases hlk : lookV (Dsk.step s) rs [n, m] with ⟨o, e⟩
  have hlo := look_two hfiles n m hlk
  cases o with
  | some r =>
    obtain ⟨rfl, hfind⟩ := lookV_rec hlk
    have hfind : findR (sname n) rs = some r := hfind
    have hbad := (lookV_rec' hlk).2
    have hres : Dsk.rename s (sname n) (sname m) = ({ Dsk.step s with files := Dsk.put { r.file with name := sname m } (del (sname n) s.files) }, 0) := by unfold Dsk.rename; simp only [hlo, step_files]; rfl
    have HRES := Lib.hid hres; clear hres hlo
    have HFI := Lib.hid hfind; clear hfind
    have HBAD := Lib.hid hbad; clear hbad
    have hlen : rs.length = s.files.length := by rw [← hfiles]; simp
    have HMX : Hid (rs.length < maxLen) := by have := h.count; show rs.length < maxLen; unfold maxLen; omega
    clear hlen
    go_enter Try.func22, Try.ntmps22
    go_wp2_with fail
    (with_reducible refine (change_two h n m hn hm hlk _ rfl).mono ?_); rintro x w1 ⟨rfl, h1, hf1⟩
    have HF := Lib.hid hf1; clear hf1
    have c0 : w1.cell? ⟨p, 0, none⟩ = some (.map (some mb)) := h1.blk.cell 0
    have hown := h1.map
    have hbk := h1.blk
    have hmp := map_blk_ne h1.map h1.blk
    unfold ptrOf
    go_wp2_with (first | (at_delete; refine wpList_delete_own _ rfl _ _ 62 9 rfl 65 tyKeys Try.underlying62 ptrR mb _ _ rfl hown _ (.string (sname n)) rfl (Go.WideMaps.keyOf_string_mk Try.underlying9 hn) ?_; intro w2 hown2 hturn; have c02 : w2.cell? ⟨p, 0, none⟩ = some (.map (some mb)) := (hbk.frm ((Frm.refl (fun g => g = mb) w1).grown hturn.grown (fun k e _ => by injection e with e; exact e.symm)) (fun e => hmp e.symm)).cell 0) | (at_mapUpdate; refine wpList_mapUpdate_own _ rfl _ _ _ 62 rfl 9 65 tyKeys Try.underlying62 ptrR mb rs.length _ rfl hown2 HMX.out _ _ (.string (sname m)) rfl rfl (Go.WideMaps.keyOf_string_mk Try.underlying9 hm) (.lit (.int .i64 r.fb)) [] rfl ?_; intro w3 hown3 hgr3))
    go_ret
    have hgr2 := hturn.grown
    have hnew2 : Frm (fun g => g = mb) w1 w2 := (Frm.refl _ _).grown hgr2 (fun k e _ => by injection e with e; exact e.symm)
    have hnew : Frm (fun g => g = mb) w1 w3 := hnew2.grown hgr3 (fun k e _ => by injection e with e; exact e.symm)
    refine ⟨by rw [HRES.out]; rfl, ?_, ((Frm.inP hFp HF.out).grown hgr2 (fun k e _ => by injection e with e; rw [← e]; exact h.inM)).grown hgr3 (fun k e _ => by injection e with e; rw [← e]; exact h.inM)⟩
    rw [HRES.out]
    obtain ⟨hname, hmem⟩ := findR_some HFI.out
    have h2 := h1.mono (G := up F w) (fun g _ => up_mono g)
    have hput := put_entries { r with file := { r.file with name := sname m } } (delR (sname n) rs)
    rw [del_entries] at hown3
    rw [show ({ r with file := { r.file with name := sname m } } : Rec).fb = r.fb from rfl, show ({ r with file := { r.file with name := sname m } } : Rec).file.name = sname m from rfl] at hput
    rw [hput] at hown3
    have hfi : (insR { r with file := { r.file with name := sname m } } (delR (sname m) (delR (sname n) rs))).map Rec.file = Dsk.put { r.file with name := sname m } (del (sname n) s.files) := by
      rw [insR_file, delR_file, delR_file, hfiles]; rfl
    have hnm : named (sname m) = true := by have := HBAD.out; unfold anyBad at this; simp at this; exact this.2
    refine ⟨mb, _, h2.remap hnew hown3 hfi ?_ ?_ ?_ ?_⟩
    · intro x hx
      rcases insR_mem.1 hx with rfl | hx
      · obtain ⟨a, b, c, d, e1, e2, e3, e4, e5, e6, e7⟩ := h2.recs r hmem
        exact ⟨a, b, c, d, e1, e2, e3, e4, e5, e6, hnm⟩
      · exact h2.recs x (delR_mem (delR_mem hx).1).1
    · refine insR_apart (delR_apart (delR_apart h.apart)) (fun x hx => ?_)
      have hx2 := delR_mem (delR_mem hx).1
      show x.fb ≠ r.fb
      exact h1.fb_ne hx2.1 hmem (by rw [hname]; exact hx2.2)
    · exact put_sorted (del_sorted h.sorted)
    · have hl := del_find_len (n := sname n) (fs := s.files) (f := r.file) (by rw [← hfiles, findR_file, HFI.out]; rfl)
      have hl2 := del_len_le (sname m) (del (sname n) s.files)
      have hl3 := h.count
      unfold Dsk.put
      rw [ins_len]
      show (del (sname m) _).length + 1 ≤ 256
      omega
  | none =>
    have hne := lookV_none_ne hlk
    have hres : Dsk.rename s (sname n) (sname m) = (Dsk.step s, e) := by unfold Dsk.rename; simp only [hlo]; rfl
    have HRES := Lib.hid hres; clear hres hlo
    have t1 := i64_eq_zero hne
    have HNE := Lib.hid hne; clear hne
    go_enter Try.func22, Try.ntmps22
    go_wp2_with fail
    (with_reducible refine (change_two h n m hn hm hlk _ rfl).mono ?_); rintro x w1 ⟨rfl, h1, hf1⟩
    have HF := Lib.hid hf1; clear hf1
    unfold ptrOf
    go_wp2_with fail
    go_ret
    refine ⟨by rw [HRES.out]; rfl, ?_, Frm.inP hFp HF.out⟩
    rw [HRES.out]
    exact ⟨mb, rs, h1.mono (fun g _ => up_mono g)⟩
end Go.Proofs.Ytepkjnhijocojaa
