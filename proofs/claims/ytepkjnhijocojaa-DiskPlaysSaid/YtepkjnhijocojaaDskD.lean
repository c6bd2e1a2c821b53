/- Layer 5: the walk of Write. -/
import Derived.Test.YtepkjnhijocojaaDskC
import Derived.Test.YtepkjnhijocojaaApp0
namespace Go.Proofs.Ytepkjnhijocojaa
open Go.RowKit Go.Maps Mem Dsk

section
variable {F G : Nat → Prop} {w w' : World} {p mb : Nat} {s : S} {rs : List Rec} {r : Rec}
theorem SlB.other {α : Type} {f : α → Value} {e t : TypeId} {cs : Array Value} {A : Option Addr} {xs : List α} (h : SlB f e F w A xs) (hb : Blk w p t cs) (hne : e ≠ t) (hf : Frm (fun g => g = p) w w') : SlB f e F w' A xs :=
  h.keep fun g cur fr _ hg => hf.block g (by
    rcases Nat.lt_or_ge g w.heap.size with hl | hl
    · exact hl
    · rw [Array.getElem?_eq_none hl] at hg; cases hg) (by intro e2; subst e2; unfold Blk at hb; rw [hb] at hg; injection hg with hg; injection hg with _ h2; exact hne h2.symm)
end
theorem over_small {now bs : List UInt8} {a : Nat} (ha : a ≤ now.length) (h : ¬ now.length < a + bs.length) : over now a bs = now.take a ++ bs ++ now.drop (a + bs.length) := rfl
theorem over_grown {now bs : List UInt8} {a k : Nat} (ha : a ≤ now.length) (hk : a + bs.length = now.length + k) :
    (now ++ List.replicate k 0).take a ++ bs ++ (now ++ List.replicate k 0).drop (a + bs.length) = over now a bs := by
  unfold over
  rw [List.take_append_of_le_length ha, List.drop_of_length_le (by simp; omega), List.drop_of_length_le (l := now) (by omega)]
theorem over_len {now bs : List UInt8} {a : Nat} (ha : a ≤ now.length) : (over now a bs).length = max now.length (a + bs.length) := by unfold over; simp; omega

set_option maxHeartbeats 1000000 in
theorem Write_any {F G : Nat → Prop} {w : World} {p : Nat} {s : S} (h : DiskAt F w p s) (n : ByteArray) (hn : n.size ≤ maxLen) (at_ : Int) (hat : (Lit.int .i64 at_).wf = true)
    (A : Option Addr) (c : Nat) (bs : List UInt8) {te : TypeId} (hbs : SlB fB te G w A bs) (hG : ¬ G p) :
    Calls Try.prog 12 #[.pointer (some ⟨p, 0, none⟩), .string n, .int .i64 at_, .slice A bs.length c] w (OpPost F p (Dsk.write s (sname n) at_ bs) w) := by
  obtain ⟨mb, rs, h⟩ := h
  have hlt := h.blk.lt
  have hFp := h.inP
  have hfiles := h.files
  have hblk := h.blk
  have hbl := hbs.sl.len
  rcases hlk : lookV (Dsk.step s) rs [n] with ⟨o, e⟩
  have hlo := look_one hfiles n hlk
  cases o with
  | some r =>
    obtain ⟨rfl, hfind⟩ := lookV_rec hlk
    have HFI := Lib.hid hfind; clear hfind
    by_cases ha : at_ < 0 ∨ (r.file.now.length : Int) < at_
    · have hres : Dsk.write s (sname n) at_ bs = (Dsk.step s, 1) := by unfold Dsk.write; simp only [hlo, Option.map_some, if_pos ha]
      have HRES := Lib.hid hres; clear hres hlo
      rcases ha with ha | ha
      · go_enter Try.func12, Try.ntmps12
        go_wp2_with fail
        (with_reducible refine (change_one h n hn hlk _ rfl).mono ?_); rintro x w1 ⟨rfl, h1, hf1⟩
        have HF := Lib.hid hf1; clear hf1
        unfold ptrOf
        go_wp2_with fail
        go_ret
        refine ⟨by rw [HRES.out]; rfl, ?_, Frm.inP hFp HF.out⟩
        rw [HRES.out]
        exact ⟨mb, rs, h1.mono (fun g _ => up_mono g)⟩
      · have ha0 : ¬ at_ < 0 := by omega
        go_enter Try.func12, Try.ntmps12
        go_wp2_with fail
        (with_reducible refine (change_one h n hn hlk _ rfl).mono ?_); rintro x w1 ⟨rfl, h1, hf1⟩
        have HF := Lib.hid hf1; clear hf1
        have c0 : w1.cell? ⟨r.fb, 0, none⟩ = some (.slice r.A r.file.now.length r.c) := (h1.recs r (findR_some HFI.out).2).1.cell 0
        unfold ptrOf
        go_wp2_with fail
        go_ret
        refine ⟨by rw [HRES.out]; rfl, ?_, Frm.inP hFp HF.out⟩
        rw [HRES.out]
        exact ⟨mb, rs, h1.mono (fun g _ => up_mono g)⟩
    have ha0 : 0 ≤ at_ := by omega
    obtain ⟨a, rfl⟩ := Int.eq_ofNat_of_zero_le ha0
    have hal : a ≤ r.file.now.length := by omega
    by_cases hroom : 65536 - (a : Int) < bs.length
    · have hres : Dsk.write s (sname n) a bs = (Dsk.step s, 51) := by unfold Dsk.write; simp only [hlo, Option.map_some, if_neg ha, if_pos hroom]
      have HRES := Lib.hid hres; clear hres hlo
      have hsm := (h.recs r (findR_some HFI.out).2).2.2.2.2.2.2.2.2.1
      go_enter Try.func12, Try.ntmps12
      go_wp2_with fail
      (with_reducible refine (change_one h n hn hlk _ rfl).mono ?_); rintro x w1 ⟨rfl, h1, hf1⟩
      have HF := Lib.hid hf1; clear hf1
      have c0 : w1.cell? ⟨r.fb, 0, none⟩ = some (.slice r.A r.file.now.length r.c) := (h1.recs r (findR_some HFI.out).2).1.cell 0
      unfold ptrOf
      go_wp2_with fail
      go_ret
      refine ⟨by rw [HRES.out]; rfl, ?_, Frm.inP hFp HF.out⟩
      rw [HRES.out]
      exact ⟨mb, rs, h1.mono (fun g _ => up_mono g)⟩
    have hres : Dsk.write s (sname n) a bs = ({ Dsk.step s with files := upd (sname n) (fun f => { f with now := over f.now a bs }) s.files }, 0) := by
      unfold Dsk.write; simp only [hlo, Option.map_some, if_neg ha, if_neg hroom, step_files]; rfl
    have HRES := Lib.hid hres; clear hres hlo ha
    obtain ⟨hname, hmem⟩ := findR_some HFI.out
    clear hname
    by_cases hg : r.file.now.length < a + bs.length
    · obtain ⟨k, hk⟩ : ∃ k, a + bs.length = r.file.now.length + k := ⟨a + bs.length - r.file.now.length, by omega⟩
      have r1 : (a : Int) + bs.length - r.file.now.length = k := by omega
      have hk0 : 0 < k := by omega
      have hkb : Hid (r.file.now.length + k ≤ 65536) := by show r.file.now.length + k ≤ 65536; omega
      have HK := Lib.hid hk; clear hk hg
      have troom : decide ((65536 : Int) - a < bs.length) = false := decide_eq_false hroom
      have ba : (a : Int) ≤ 65536 := by omega
      have bb : (bs.length : Int) ≤ 65536 := by omega
      have HROOM := Lib.hid hroom; clear hroom hbl
      go_enter Try.func12, Try.ntmps12
      go_wp2_with fail
      (with_reducible refine (change_one h n hn hlk _ rfl).mono ?_); rintro x w1 ⟨rfl, h1, hf1⟩
      obtain ⟨hb, hF, hA, hB, hc1, hc2, hc3, hc4, hsm⟩ := h1.recs r hmem
      have c0 : w1.cell? ⟨r.fb, 0, none⟩ = some (.slice r.A r.file.now.length r.c) := hb.cell 0
      have hbs1 : SlB fB te G w1 A bs := hbs.frm hf1 (fun g hg e => hG (by rw [← e]; exact hg))
      have HF := Lib.hid hf1; clear hf1
      unfold ptrOf
      go_wp2_with fail
      (with_reducible refine (Clone_any _ _ _ (small_ok hsm).1 _ hA.sl).mono ?_); rintro x w2 ⟨⟨A', c', rfl, hown⟩, hb2⟩
      have hbs2 := hbs1.below hb2
      have hbk := hb.below hb2 hb.lt
      have HSM := Lib.hid hsm; clear hsm
      go_wp2_with (first | (at_builtin; refine wpList_append0 (f := fB) rfl (.tmp 56) (.tmp 57) 26 3 rfl (0 : UInt8) u8T Try.underlying3 rfl rfl rfl hown (k := k) rfl hk0 (by unfold maxLen; have := hkb.out; omega) (by have := hkb.out; omega) hb2.size ?_; intro v3 w3 hown3 hb3; obtain ⟨A3, c3, rfl⟩ := hown3.form; obtain ⟨g3, rfl, hg3⟩ := hown3.addr (by simp; omega); have hca : ¬ c3 = a := (by have := hown3.cap.1; simp at this; omega); have hal3 : a ≤ r.file.now.length + k := (by omega); have hcap3 : r.file.now.length + k ≤ c3 := (by have := hown3.cap.1; simp at this; omega)) | (refine wpList_copy1 (f := fB) rfl (.tmp 61) (.tmp 62) 26 rfl u8T fB_one hown3 rfl (fun _ => rfl) rfl (hbs1.below (hb2.trans hb3)).sl (by have := HK.out; omega) (by have := HK.out; simp; omega) (Nat.le_trans hb2.size hb3.size) ?_; intro w4 hown4 hb4; have hbk4 := hb.below ((hb2.trans hb3).trans hb4) hb.lt; have c04 : w4.cell? ⟨r.fb, 0, none⟩ = some (.slice r.A r.file.now.length r.c) := hbk4.cell 0; have f04 := hbk4.free 0))
      go_ret
      have hbz := (hb2.trans hb3).trans hb4
      have hownz := hown4
      rw [over_grown hal HK.out] at hownz
      have hlt2 := hb.lt
      have hL : (over r.file.now a bs).length = r.file.now.length + k := by rw [over_len hal]; have := HK.out; omega
      refine ⟨by rw [HRES.out]; rfl, ?_, ((Frm.inP hFp HF.out).then_below hbz).setCell (p := ⟨r.fb, 0, none⟩) (fun _ => hF) _⟩
      rw [HRES.out, ← hL]
      have h2 := (h1.below hbz).mono (G := up F w) (fun g _ => up_mono g)
      have hsz : w.heap.size ≤ w1.heap.size := HF.out.size
      obtain ⟨_, _, _, hB2, _⟩ := h2.recs r hmem
      have h3 := h2.setFile (r' := { r with file := { r.file with now := over r.file.now a bs }, A := some ⟨g3, 0, none⟩, c := c3 }) (gf := fun f => { f with now := over f.now a bs }) HFI.out (fun _ => rfl) rfl rfl 0 _ rfl ((SlB.of_own hownz).2.mono (fun g _ hg => .inr (Nat.le_trans hsz hg))) hB2 ⟨by show (over r.file.now a bs).length ≤ _; rw [hL]; exact hcap3, hownz.cap.2, hc3, hc4, by show (over r.file.now a bs).length ≤ 65536; rw [hL]; exact hkb.out, HSM.out.2⟩
      rw [step_files] at h3
      exact ⟨mb, _, h3⟩
    · have troom : decide ((65536 : Int) - a < bs.length) = false := decide_eq_false hroom
      have ba : (a : Int) ≤ 65536 := by omega
      have bb : (bs.length : Int) ≤ 65536 := by omega
      have HROOM := Lib.hid hroom; clear hroom hbl
      have hsm0 := (h.recs r hmem).2.2.2.2.2.2.2.2.1
      have bn : (r.file.now.length : Int) ≤ 65536 := by omega
      clear hsm0
      have HG := Lib.hid hg
      go_enter Try.func12, Try.ntmps12
      go_wp2_with fail
      (with_reducible refine (change_one h n hn hlk _ rfl).mono ?_); rintro x w1 ⟨rfl, h1, hf1⟩
      obtain ⟨hb, hF, hA, hB, hc1, hc2, hc3, hc4, hsm⟩ := h1.recs r hmem
      have c0 : w1.cell? ⟨r.fb, 0, none⟩ = some (.slice r.A r.file.now.length r.c) := hb.cell 0
      have hbs1 : SlB fB te G w1 A bs := hbs.frm hf1 (fun g hg e => hG (by rw [← e]; exact hg))
      have HF := Lib.hid hf1; clear hf1
      unfold ptrOf
      go_wp2_with fail
      (with_reducible refine (Clone_any _ _ _ (small_ok hsm).1 _ hA.sl).mono ?_); rintro x w2 ⟨⟨A', c', rfl, hown⟩, hb2⟩
      have hbs2 := hbs1.below hb2
      have hbk := hb.below hb2 hb.lt
      have HSM := Lib.hid hsm; clear hsm
      by_cases hL0 : bs.length = 0
      · obtain rfl : bs = [] := List.eq_nil_of_length_eq_zero (by omega)
        have hov : over r.file.now a [] = r.file.now := by unfold over; simp
        have HOV := Lib.hid hov; clear hov
        have hcap := hown.cap.1
        have c04 : w2.cell? ⟨r.fb, 0, none⟩ = some (.slice r.A r.file.now.length r.c) := hbk.cell 0
        have f04 := hbk.free 0
        rcases (Decidable.em (c' = a)) with hca | hca
        all_goals
          have HCA := Lib.hid hca
          go_wp2_with (refine wpList_copy_nothing rfl (.tmp 61) (.tmp 62) 26 26 rfl 5 Try.underlying26 (by kernel_rfl) _ _ _ _ _ _ rfl rfl (by first | exact Nat.zero_min _ | simp) ?_)
          go_ret
          have hbz := hb2
          have hownz := hown
          rw [← HOV.out] at hownz
          have hlt2 := hb.lt
          have hL : (over r.file.now a []).length = r.file.now.length := by rw [HOV.out]
          refine ⟨by rw [HRES.out]; rfl, ?_, ((Frm.inP hFp HF.out).then_below hbz).setCell (p := ⟨r.fb, 0, none⟩) (fun _ => hF) _⟩
          have e0 : ∀ x, x = c' → Value.slice A' r.file.now.length x = .slice A' (over r.file.now a []).length c' := by rintro x rfl; rw [hL]
          rw [HRES.out]
          first | rw [e0 c' rfl] | rw [e0 a HCA.out.symm]
          have h2 := (h1.below hbz).mono (G := up F w) (fun g _ => up_mono g)
          have hsz : w.heap.size ≤ w1.heap.size := HF.out.size
          obtain ⟨_, _, _, hB2, _⟩ := h2.recs r hmem
          have h3 := h2.setFile (r' := { r with file := { r.file with now := over r.file.now a [] }, A := A', c := c' }) (gf := fun f => { f with now := over f.now a [] }) HFI.out (fun _ => rfl) rfl rfl 0 _ rfl ((SlB.of_own hownz).2.mono (fun g _ hg => .inr (Nat.le_trans hsz hg))) hB2 ⟨by show (over r.file.now a []).length ≤ _; rw [hL]; exact hcap, hownz.cap.2, hc3, hc4, by show (over r.file.now a []).length ≤ 65536; rw [hL]; exact HSM.out.1, HSM.out.2⟩
          rw [step_files] at h3
          exact ⟨mb, _, h3⟩
      · obtain ⟨g3, rfl, hg3⟩ := hown.addr (by have := HG.out; omega)
        have hcap := hown.cap.1
        have hca : ¬ c' = a := by have := HG.out; omega
        have HCAP := Lib.hid hcap; clear hcap
        clear troom
        set_option maxRecDepth 8000 in
        go_wp2_with (refine wpList_copy1 (f := fB) rfl (.tmp 61) (.tmp 62) 26 rfl u8T fB_one hown rfl (fun _ => rfl) rfl hbs2.sl (by have := HG.out; omega) (by have := HG.out; omega) hb2.size ?_; intro w4 hown4 hb4; have hbk4 := hb.below (hb2.trans hb4) hb.lt; have c04 : w4.cell? ⟨r.fb, 0, none⟩ = some (.slice r.A r.file.now.length r.c) := hbk4.cell 0; have f04 := hbk4.free 0)
        go_ret
        have hbz := hb2.trans hb4
        have hownz := hown4
        have hlt2 := hb.lt
        have hL : (over r.file.now a bs).length = r.file.now.length := by rw [over_len hal]; have := HG.out; omega
        refine ⟨by rw [HRES.out]; rfl, ?_, ((Frm.inP hFp HF.out).then_below hbz).setCell (p := ⟨r.fb, 0, none⟩) (fun _ => hF) _⟩
        rw [HRES.out, ← hL]
        have h2 := (h1.below hbz).mono (G := up F w) (fun g _ => up_mono g)
        have hsz : w.heap.size ≤ w1.heap.size := HF.out.size
        obtain ⟨_, _, _, hB2, _⟩ := h2.recs r hmem
        have h3 := h2.setFile (r' := { r with file := { r.file with now := over r.file.now a bs }, A := some ⟨g3, 0, none⟩, c := c' }) (gf := fun f => { f with now := over f.now a bs }) HFI.out (fun _ => rfl) rfl rfl 0 _ rfl ((SlB.of_own hownz).2.mono (fun g _ hg => .inr (Nat.le_trans hsz hg))) hB2 ⟨by show (over r.file.now a bs).length ≤ _; rw [hL]; exact HCAP.out, hownz.cap.2, hc3, hc4, by show (over r.file.now a bs).length ≤ 65536; rw [hL]; exact HSM.out.1, HSM.out.2⟩
        rw [step_files] at h3
        exact ⟨mb, _, h3⟩
  | none =>
    have hne := lookV_none_ne hlk
    have hres : Dsk.write s (sname n) at_ bs = (Dsk.step s, e) := by unfold Dsk.write; simp only [hlo]; rfl
    have HRES := Lib.hid hres; clear hres hlo
    have t1 : ((e : Int) != 0) = true := by rw [bne_iff_ne]; omega
    have HNE := Lib.hid hne; clear hne
    go_enter Try.func12, Try.ntmps12
    go_wp2_with fail
    (with_reducible refine (change_one h n hn hlk _ rfl).mono ?_); rintro x w1 ⟨rfl, h1, hf1⟩
    have HF := Lib.hid hf1; clear hf1
    unfold ptrOf
    go_wp2_with fail
    go_ret
    refine ⟨by rw [HRES.out]; rfl, ?_, Frm.inP hFp HF.out⟩
    rw [HRES.out]
    exact ⟨mb, rs, h1.mono (fun g _ => up_mono g)⟩
end Go.Proofs.Ytepkjnhijocojaa
