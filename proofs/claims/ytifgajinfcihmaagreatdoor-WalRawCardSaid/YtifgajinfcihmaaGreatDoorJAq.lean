/- Layer 5: bytes: Clone. -/
import Derived.Deep.RegionHeld3
import Derived.Deep.RegionLaw
import Derived.Maps.RangeWalk
import Derived.Sort.MapsRangeIn
import Derived.Test.YtifgajinfcihmaaGreatDoorJAe
import Derived.Test.YtifgajinfcihmaaGreatDoorJAp
import Derived.Test.YtifgajinfcihmaaGreatDoorJAc
namespace Go.Proofs.YtifgajinfcihmaaGreatDoor
open Go.RowKit Go.Maps Mem Dsk
def okLen (n : Nat) : Prop := n ≤ 140737488351232
theorem okLen_le {n : Nat} (h : okLen n) : n ≤ maxLen ∧ n * 1 ≤ 140737488355328 := by unfold okLen at h; unfold maxLen; omega
def NewBytes (B : Nat) (xs : List UInt8) (e : Ending) (w' : World) : Prop :=
 ∃ A c, e = .returned (.slice A xs.length c) ∧ Mem.Own fB B 5 w' (.slice A xs.length c) xs
set_option maxHeartbeats 400000 in
theorem Clone_any (A : Option Addr) (c : Nat) (xs : List UInt8) (hl : okLen xs.length) (w : World) (hs : Sl fB w A xs) :
 Calls Tryz.prog 39 #[.slice A xs.length c] w fun e w' => NewBytes w.heap.size xs e w' ∧ Below w.heap.size w w' := by
 have hnil := fun (w : World) (a : Option Addr) (n c : Nat) => Lib.run_eql_slice_nil (P := Tryz.prog) w 28 5 a n c 0 0 Tryz.underlying28
 cases A with
 | none =>
   obtain rfl : xs = [] := by
    cases xs with
    | nil => rfl
    | cons x r => obtain ⟨b, o, e, _⟩ := hs.2 (by simp); cases e
   go_enter Tryz.func39, Tryz.ntmps39
   go_wp2_with fail
   go_ret
   exact ⟨⟨none, 0, rfl, Own.nil⟩, Below.refl _ _⟩
 | some ad =>
   go_enter Tryz.func39, Tryz.ntmps39
   go_wp2_with (at_builtin; refine wpList_appendN (f := fB) rfl (.tmp 5) (.tmp 6) 28 rfl u8T rfl (Own.mk_ (Nat.le_refl _)) rfl (hs.below ((Below.refl _ _).alloc (Nat.le_refl _) _)) fB_one (by rw [List.length_nil, Nat.zero_add]; exact (okLen_le hl).1) (by rw [List.length_nil, Nat.zero_add]; exact (okLen_le hl).2) (by simp) ?_; intro v1 w1 hown1 hb1; obtain ⟨A', c', rfl⟩ := hown1.form)
   go_ret
   rw [List.nil_append] at hown1
   exact ⟨⟨A', c', rfl, hown1⟩, ((Below.refl _ _).alloc (Nat.le_refl _) _).trans hb1⟩
theorem small_ok {f : File} (h : small f) : okLen f.now.length ∧ okLen f.safe.length := by unfold small at h; unfold okLen; omega
def ReadPost (F : Nat → Prop) (p : Nat) (s : S) (n : Name) (w : World) (e : Ending) (w' : World) : Prop :=
 ∃ A c, e = .returned (.tuple #[.slice A (Dsk.read s n).1.length c, .int .i64 (Dsk.read s n).2]) ∧ SlB fB 5 (fun g => w.heap.size ≤ g) w' A (Dsk.read s n).1 ∧ (Dsk.read s n).1.length ≤ c ∧ c ≤ maxLen ∧ DiskAt F w' p s ∧ Below w.heap.size w w'
theorem look_one0 {s : S} {rs : List Rec} (h : rs.map Rec.file = s.files) (n : ByteArray) {o : Option Rec} {e : Nat} (hl : lookV s rs [n] = (o, e)) : Dsk.look s [sname n] = (o.map Rec.file, e) := by
 have := lookV_look h [n] (by simp)
 rw [hl] at this; exact this
theorem lookd_one {F : Nat → Prop} {w : World} {p mb : Nat} {s : S} {rs : List Rec} (h : Rep F w p s mb rs) (n : ByteArray) (hn : n.size ≤ maxLen) {o : Option Rec} {e : Nat} (hl : lookV s rs [n] = (o, e)) (g : Nat) (hg : g = w.heap.size) :
 Calls Tryz.prog 68 #[.pointer (some ⟨p, 0, none⟩), .slice (some ⟨g, 0, none⟩) 1 1] (w.alloc (.cells #[.string n] 9))
  fun x w' => x = .returned (.tuple #[ptrOf o, .int .i64 e]) ∧ Rep F w' p s mb rs ∧ Below w.heap.size w w' := by
 subst hg
 have hb1 := (Below.refl w.heap.size w).alloc (Nat.le_refl _) (.cells #[.string n] 9)
 have h1 := h.below hb1
 have hs : Sl Value.string (w.alloc (.cells #[.string n] 9)) (some ⟨w.heap.size, 0, none⟩) [n] :=
  ⟨by unfold maxLen; simp, fun _ => ⟨_, _, rfl, fun j hj => by
   simp at hj; subst hj
   have := heap_alloc_new w (.cells #[.string n] 9)
   unfold World.cell?; simp only [this]; rfl⟩⟩
 refine (look_any h1 (some ⟨w.heap.size, 0, none⟩) 1 [n] (by simp) hs (by simpa using hn)).mono ?_
 rintro x w' ⟨hx, k, rfl⟩
 have hb2 := below_drewN hb1 k
 exact ⟨by rw [hx, hl]; rfl, h.below hb2, hb2⟩
set_option maxHeartbeats 1000000 in
theorem Read_any {F : Nat → Prop} {w : World} {p : Nat} {s : S} (h : DiskAt F w p s) (n : ByteArray) (hn : n.size ≤ maxLen) :
 Calls Tryz.prog 54 #[.pointer (some ⟨p, 0, none⟩), .string n] w (ReadPost F p s (sname n) w) := by
 obtain ⟨mb, rs, h⟩ := h
 have hfiles := h.files
 rcases hlk : lookV s rs [n] with ⟨o, e⟩
 have hlo := look_one0 hfiles n hlk
 cases o with
 | some r =>
   obtain ⟨rfl, hfind⟩ := lookV_rec hlk
   have hres : Dsk.read s (sname n) = (r.file.now, 0) := by unfold Dsk.read; simp only [hlo]; rfl
   have HRES := Lib.hid hres; clear hres hlo
   have HFI := Lib.hid hfind; clear hfind
   go_enter Tryz.func54, Tryz.ntmps54
   go_wp2_with fail
   (with_reducible refine (lookd_one h n hn hlk _ rfl).mono ?_); rintro x w1 ⟨rfl, h1, hf1⟩
   have HF := Lib.hid hf1; clear hf1
   obtain ⟨hname, hmem⟩ := findR_some HFI.out
   obtain ⟨hb, hF, hA, hB, hc1, hc2, hc3, hc4, hsm⟩ := h1.recs r hmem
   have c0 : w1.cell? ⟨r.fb, 0, none⟩ = some (.slice r.A r.file.now.length r.c) := hb.cell 0
   have HSM := Lib.hid hsm; clear hsm hname
   unfold ptrOf
   go_wp2_with fail
   (with_reducible refine (Clone_any _ _ _ (small_ok HSM.out).1 _ hA.sl).mono ?_); rintro x w2 ⟨⟨A', c', rfl, hown⟩, hb2⟩
   have hn1 := (SlB.of_own hown).2
   have hn2 := hown.cap.1
   have hn3 := hown.cap.2
   clear hown
   go_wp2_with fail
   go_ret2
   refine ⟨A', c', by rw [HRES.out]; rfl, ?_, by rw [HRES.out]; exact hn2, hn3, ⟨mb, rs, h1.below hb2⟩, HF.out.trans (hb2.mono HF.out.size)⟩
   rw [HRES.out]
   exact hn1.mono (fun g _ hg => Nat.le_trans HF.out.size hg)
 | none =>
   have hne := lookV_none_ne hlk
   have hres : Dsk.read s (sname n) = ([], e) := by unfold Dsk.read; simp only [hlo]; rfl
   have HRES := Lib.hid hres; clear hres hlo
   have t1 : ((e : Int) != 0) = true := by rw [bne_iff_ne]; omega
   have HNE := Lib.hid hne; clear hne
   go_enter Tryz.func54, Tryz.ntmps54
   go_wp2_with fail
   (with_reducible refine (lookd_one h n hn hlk _ rfl).mono ?_); rintro x w1 ⟨rfl, h1, hf1⟩
   have HF := Lib.hid hf1; clear hf1
   unfold ptrOf
   go_wp2_with fail
   go_ret2
   refine ⟨none, 0, by rw [HRES.out]; rfl, ?_, ?_, Nat.zero_le _, ⟨mb, rs, h1⟩, HF.out⟩
   ·rw [HRES.out]; exact SlB.nil
   ·rw [HRES.out]; exact Nat.le_refl _
set_option maxHeartbeats 1000000 in
theorem Sync_any {F : Nat → Prop} {w : World} {p : Nat} {s : S} (h : DiskAt F w p s) (n : ByteArray) (hn : n.size ≤ maxLen) :
 Calls Tryz.prog 46 #[.pointer (some ⟨p, 0, none⟩), .string n] w (OpPost F p (Dsk.sync s (sname n)) w) := by
 obtain ⟨mb, rs, h⟩ := h
 have hlt := h.blk.lt
 have hFp := h.inP
 have hfiles := h.files
 rcases hlk : lookV (Dsk.step s) rs [n] with ⟨o, e⟩
 have hlo := look_one hfiles n hlk
 cases o with
 | some r =>
   obtain ⟨rfl, hfind⟩ := lookV_rec hlk
   have hres : Dsk.sync s (sname n) = ({ Dsk.step s with files := upd (sname n) (fun f => { f with safe := f.now }) s.files }, 0) := by unfold Dsk.sync; simp only [hlo, step_files]; rfl
   have HRES := Lib.hid hres; clear hres hlo
   have HFI := Lib.hid hfind; clear hfind
   go_enter Tryz.func46, Tryz.ntmps46
   go_wp2_with fail
   (with_reducible refine (change_one h n hn hlk _ rfl).mono ?_); rintro x w1 ⟨rfl, h1, hf1⟩
   have HF := Lib.hid hf1; clear hf1
   obtain ⟨hname, hmem⟩ := findR_some HFI.out
   obtain ⟨hb, hF, hA, hB, hc1, hc2, hc3, hc4, hsm⟩ := h1.recs r hmem
   have c0 : w1.cell? ⟨r.fb, 0, none⟩ = some (.slice r.A r.file.now.length r.c) := hb.cell 0
   have HSM := Lib.hid hsm; clear hsm hname
   unfold ptrOf
   go_wp2_with fail
   (with_reducible refine (Clone_any _ _ _ (small_ok HSM.out).1 _ hA.sl).mono ?_); rintro x w2 ⟨⟨A', c', rfl, hown⟩, hb2⟩
   have hn1 := (SlB.of_own hown).2
   have hn2 := hown.cap.1
   have hn3 := hown.cap.2
   clear hown
   have HB2 := Lib.hid hb2; clear hb2
   have hbk := hb.below HB2.out hb.lt
   have c1 : w2.cell? ⟨r.fb, 1, none⟩ = some (.slice r.B r.file.safe.length r.d) := hbk.cell 1
   have f1 := hbk.free 1
   have HBK := Lib.hid hbk; clear hbk
   go_wp2_with fail
   go_ret
   have hlt2 := hb.lt
   refine ⟨by rw [HRES.out]; rfl, ?_, ((Frm.inP hFp HF.out).then_below HB2.out).setCell (p := ⟨r.fb, 1, none⟩) (fun _ => hF) _⟩
   rw [HRES.out]
   have h2 := (h1.below HB2.out).mono (G := up F w) (fun g _ => up_mono g)
   have hsz : w.heap.size ≤ w1.heap.size := HF.out.size
   obtain ⟨_, _, hA2, _⟩ := h2.recs r hmem
   have h3 := h2.setFile (r' := { r with file := { r.file with safe := r.file.now }, B := A', d := c' }) (gf := fun f => { f with safe := f.now }) HFI.out (fun _ => rfl) rfl rfl 1 _ rfl hA2 (hn1.mono (fun g _ hg => .inr (Nat.le_trans hsz hg))) ⟨hc1, hc2, hn2, hn3, HSM.out.1, HSM.out.1, HSM.out.2.2⟩
   rw [step_files] at h3
   exact ⟨mb, _, h3⟩
 | none =>
   have hne := lookV_none_ne hlk
   have hres : Dsk.sync s (sname n) = (Dsk.step s, e) := by unfold Dsk.sync; simp only [hlo]; rfl
   have HRES := Lib.hid hres; clear hres hlo
   have t1 := i64_eq_zero hne
   have HNE := Lib.hid hne; clear hne
   go_enter Tryz.func46, Tryz.ntmps46
   go_wp2_with fail
   (with_reducible refine (change_one h n hn hlk _ rfl).mono ?_); rintro x w1 ⟨rfl, h1, hf1⟩
   have HF := Lib.hid hf1; clear hf1
   unfold ptrOf
   go_wp2_with fail
   go_ret
   refine ⟨by rw [HRES.out]; rfl, ?_, Frm.inP hFp HF.out⟩
   rw [HRES.out]
   exact ⟨mb, rs, h1.mono (fun g _ => up_mono g)⟩
end Go.Proofs.YtifgajinfcihmaaGreatDoor
namespace Go.Proofs.YtifgajinfcihmaaGreatDoor
open Go.RowKit Go.Maps Mem Dsk
theorem over_grown {now bs : List UInt8} {a k : Nat} (ha : a ≤ now.length) (hk : a + bs.length = now.length + k) :
 (now ++ List.replicate k 0).take a ++ bs ++ (now ++ List.replicate k 0).drop (a + bs.length) = over now a bs := by
 unfold over
 rw [List.take_append_of_le_length ha, List.drop_of_length_le (by simp; omega), List.drop_of_length_le (l := now) (by omega)]
theorem over_len {now bs : List UInt8} {a : Nat} (ha : a ≤ now.length) : (over now a bs).length = max now.length (a + bs.length) := by unfold over; simp; omega
def OpPostM (F : Nat → Prop) (p mb : Nat) (res : S × Nat) (w : World) (e : Ending) (w' : World) : Prop :=
 e = .returned (.int .i64 res.2) ∧ (∃ rs, Rep (up F w) w' p res.1 mb rs) ∧ Frm F w w'
set_option maxHeartbeats 1000000 in
theorem Write_mb {F G : Nat → Prop} {w : World} {p mb : Nat} {s : S} {rs : List Rec} (h : Rep F w p s mb rs) (n : ByteArray) (hn : n.size ≤ maxLen) (at_ : Int) (hat : (Lit.int .i64 at_).wf = true)
 (A : Option Addr) (c : Nat) (bs : List UInt8) {te : TypeId} (hbs : SlB fB te G w A bs) (hG : ¬ G p) :
 Calls Tryz.prog 14 #[.pointer (some ⟨p, 0, none⟩), .string n, .int .i64 at_, .slice A bs.length c] w (OpPostM F p mb (Dsk.write s (sname n) at_ bs) w) := by
 have hlt := h.blk.lt
 have hFp := h.inP
 have hfiles := h.files
 have hblk := h.blk
 have hbl := hbs.sl.len
 rcases hlk : lookV (Dsk.step s) rs [n] with ⟨o, e⟩
 have hlo := look_one hfiles n hlk
 cases o with
 | some r =>
   obtain ⟨rfl, hfind⟩ := lookV_rec hlk
   have HFI := Lib.hid hfind; clear hfind
   by_cases ha : at_ < 0 ∨ (r.file.now.length : Int) < at_
   ·have hres : Dsk.write s (sname n) at_ bs = (Dsk.step s, 1) := by unfold Dsk.write; simp only [hlo, Option.map_some, if_pos ha]
    have HRES := Lib.hid hres; clear hres hlo
    rcases ha with ha | ha
    ·go_enter Tryz.func14, Tryz.ntmps14
     go_wp2_with fail
     (with_reducible refine (change_one h n hn hlk _ rfl).mono ?_); rintro x w1 ⟨rfl, h1, hf1⟩
     have HF := Lib.hid hf1; clear hf1
     unfold ptrOf
     go_wp2_with fail
     go_ret
     refine ⟨by rw [HRES.out]; rfl, ?_, Frm.inP hFp HF.out⟩
     rw [HRES.out]
     exact ⟨rs, h1.mono (fun g _ => up_mono g)⟩
    ·have ha0 : ¬ at_ < 0 := by omega
     go_enter Tryz.func14, Tryz.ntmps14
     go_wp2_with fail
     (with_reducible refine (change_one h n hn hlk _ rfl).mono ?_); rintro x w1 ⟨rfl, h1, hf1⟩
     have HF := Lib.hid hf1; clear hf1
     have c0 : w1.cell? ⟨r.fb, 0, none⟩ = some (.slice r.A r.file.now.length r.c) := (h1.recs r (findR_some HFI.out).2).1.cell 0
     unfold ptrOf
     go_wp2_with fail
     go_ret
     refine ⟨by rw [HRES.out]; rfl, ?_, Frm.inP hFp HF.out⟩
     rw [HRES.out]
     exact ⟨rs, h1.mono (fun g _ => up_mono g)⟩
   have ha0 : 0 ≤ at_ := by omega
   obtain ⟨a, rfl⟩ := Int.eq_ofNat_of_zero_le ha0
   have hal : a ≤ r.file.now.length := by omega
   by_cases hroom : 65536 - (a : Int) < bs.length
   ·have hres : Dsk.write s (sname n) a bs = (Dsk.step s, 51) := by unfold Dsk.write; simp only [hlo, Option.map_some, if_neg ha, if_pos hroom]
    have HRES := Lib.hid hres; clear hres hlo
    have hsm := (h.recs r (findR_some HFI.out).2).2.2.2.2.2.2.2.2.1
    go_enter Tryz.func14, Tryz.ntmps14
    go_wp2_with fail
    (with_reducible refine (change_one h n hn hlk _ rfl).mono ?_); rintro x w1 ⟨rfl, h1, hf1⟩
    have HF := Lib.hid hf1; clear hf1
    have c0 : w1.cell? ⟨r.fb, 0, none⟩ = some (.slice r.A r.file.now.length r.c) := (h1.recs r (findR_some HFI.out).2).1.cell 0
    unfold ptrOf
    go_wp2_with fail
    go_ret
    refine ⟨by rw [HRES.out]; rfl, ?_, Frm.inP hFp HF.out⟩
    rw [HRES.out]
    exact ⟨rs, h1.mono (fun g _ => up_mono g)⟩
   have hres : Dsk.write s (sname n) a bs = ({ Dsk.step s with files := upd (sname n) (fun f => { f with now := over f.now a bs }) s.files }, 0) := by
    unfold Dsk.write; simp only [hlo, Option.map_some, if_neg ha, if_neg hroom, step_files]; rfl
   have HRES := Lib.hid hres; clear hres hlo ha
   obtain ⟨hname, hmem⟩ := findR_some HFI.out
   clear hname
   by_cases hg : r.file.now.length < a + bs.length
   ·obtain ⟨k, hk⟩ : ∃ k, a + bs.length = r.file.now.length + k := ⟨a + bs.length - r.file.now.length, by omega⟩
    have r1 : (a : Int) + bs.length - r.file.now.length = k := by omega
    have hk0 : 0 < k := by omega
    have hkb : Hid (r.file.now.length + k ≤ 65536) := by show r.file.now.length + k ≤ 65536; omega
    have HK := Lib.hid hk; clear hk hg
    have troom : decide ((65536 : Int) - a < bs.length) = false := decide_eq_false hroom
    have ba : (a : Int) ≤ 65536 := by omega
    have bb : (bs.length : Int) ≤ 65536 := by omega
    have HROOM := Lib.hid hroom; clear hroom hbl
    go_enter Tryz.func14, Tryz.ntmps14
    go_wp2_with fail
    (with_reducible refine (change_one h n hn hlk _ rfl).mono ?_); rintro x w1 ⟨rfl, h1, hf1⟩
    obtain ⟨hb, hF, hA, hB, hc1, hc2, hc3, hc4, hsm⟩ := h1.recs r hmem
    have c0 : w1.cell? ⟨r.fb, 0, none⟩ = some (.slice r.A r.file.now.length r.c) := hb.cell 0
    have hbs1 : SlB fB te G w1 A bs := hbs.frm hf1 (fun g hg e => hG (by rw [← e]; exact hg))
    have HF := Lib.hid hf1; clear hf1
    unfold ptrOf
    go_wp2_with fail
    (with_reducible refine (Clone_any _ _ _ (small_ok hsm).1 _ hA.sl).mono ?_); rintro x w2 ⟨⟨A', c', rfl, hown⟩, hb2⟩
    have hbs2 := hbs1.below hb2
    have hbk := hb.below hb2 hb.lt
    have HSM := Lib.hid hsm; clear hsm
    go_wp2_with (first | (at_builtin; refine wpList_append0 (f := fB) rfl (.tmp 56) (.tmp 57) 28 3 rfl (0 : UInt8) u8T Tryz.underlying3 rfl rfl rfl hown (k := k) rfl hk0 (by unfold maxLen; have := hkb.out; omega) (by have := hkb.out; omega) hb2.size ?_; intro v3 w3 hown3 hb3; obtain ⟨A3, c3, rfl⟩ := hown3.form; obtain ⟨g3, rfl, hg3⟩ := hown3.addr (by simp; omega); have hca : ¬ c3 = a := (by have := hown3.cap.1; simp at this; omega); have hal3 : a ≤ r.file.now.length + k := (by omega); have hcap3 : r.file.now.length + k ≤ c3 := (by have := hown3.cap.1; simp at this; omega)) | (refine wpList_copy1 (f := fB) rfl (.tmp 61) (.tmp 62) 28 rfl u8T fB_one hown3 rfl (fun _ => rfl) rfl (hbs1.below (hb2.trans hb3)).sl (by have := HK.out; omega) (by have := HK.out; simp; omega) (Nat.le_trans hb2.size hb3.size) ?_; intro w4 hown4 hb4; have hbk4 := hb.below ((hb2.trans hb3).trans hb4) hb.lt; have c04 : w4.cell? ⟨r.fb, 0, none⟩ = some (.slice r.A r.file.now.length r.c) := hbk4.cell 0; have f04 := hbk4.free 0))
    go_ret
    have hbz := (hb2.trans hb3).trans hb4
    have hownz := hown4
    rw [over_grown hal HK.out] at hownz
    have hlt2 := hb.lt
    have hL : (over r.file.now a bs).length = r.file.now.length + k := by rw [over_len hal]; have := HK.out; omega
    refine ⟨by rw [HRES.out]; rfl, ?_, ((Frm.inP hFp HF.out).then_below hbz).setCell (p := ⟨r.fb, 0, none⟩) (fun _ => hF) _⟩
    rw [HRES.out, ← hL]
    have h2 := (h1.below hbz).mono (G := up F w) (fun g _ => up_mono g)
    have hsz : w.heap.size ≤ w1.heap.size := HF.out.size
    obtain ⟨_, _, _, hB2, _⟩ := h2.recs r hmem
    have h3 := h2.setFile (r' := { r with file := { r.file with now := over r.file.now a bs }, A := some ⟨g3, 0, none⟩, c := c3 }) (gf := fun f => { f with now := over f.now a bs }) HFI.out (fun _ => rfl) rfl rfl 0 _ rfl ((SlB.of_own hownz).2.mono (fun g _ hg => .inr (Nat.le_trans hsz hg))) hB2 ⟨by show (over r.file.now a bs).length ≤ _; rw [hL]; exact hcap3, hownz.cap.2, hc3, hc4, by show (over r.file.now a bs).length ≤ 65536; rw [hL]; exact hkb.out, HSM.out.2⟩
    rw [step_files] at h3
    exact ⟨_, h3⟩
   ·have troom : decide ((65536 : Int) - a < bs.length) = false := decide_eq_false hroom
    have ba : (a : Int) ≤ 65536 := by omega
    have bb : (bs.length : Int) ≤ 65536 := by omega
    have HROOM := Lib.hid hroom; clear hroom hbl
    have hsm0 := (h.recs r hmem).2.2.2.2.2.2.2.2.1
    have bn : (r.file.now.length : Int) ≤ 65536 := by omega
    clear hsm0
    have HG := Lib.hid hg
    go_enter Tryz.func14, Tryz.ntmps14
    go_wp2_with fail
    (with_reducible refine (change_one h n hn hlk _ rfl).mono ?_); rintro x w1 ⟨rfl, h1, hf1⟩
    obtain ⟨hb, hF, hA, hB, hc1, hc2, hc3, hc4, hsm⟩ := h1.recs r hmem
    have c0 : w1.cell? ⟨r.fb, 0, none⟩ = some (.slice r.A r.file.now.length r.c) := hb.cell 0
    have hbs1 : SlB fB te G w1 A bs := hbs.frm hf1 (fun g hg e => hG (by rw [← e]; exact hg))
    have HF := Lib.hid hf1; clear hf1
    unfold ptrOf
    go_wp2_with fail
    (with_reducible refine (Clone_any _ _ _ (small_ok hsm).1 _ hA.sl).mono ?_); rintro x w2 ⟨⟨A', c', rfl, hown⟩, hb2⟩
    have hbs2 := hbs1.below hb2
    have hbk := hb.below hb2 hb.lt
    have HSM := Lib.hid hsm; clear hsm
    by_cases hL0 : bs.length = 0
    ·obtain rfl : bs = [] := List.eq_nil_of_length_eq_zero (by omega)
     have hov : over r.file.now a [] = r.file.now := by unfold over; simp
     have HOV := Lib.hid hov; clear hov
     have hcap := hown.cap.1
     have c04 : w2.cell? ⟨r.fb, 0, none⟩ = some (.slice r.A r.file.now.length r.c) := hbk.cell 0
     have f04 := hbk.free 0
     rcases (Decidable.em (c' = a)) with hca | hca
     all_goals
      have HCA := Lib.hid hca
      go_wp2_with (refine wpList_copy_nothing rfl (.tmp 61) (.tmp 62) 28 28 rfl 5 Tryz.underlying28 (by kernel_rfl) _ _ _ _ _ _ rfl rfl (by first | exact Nat.zero_min _ | simp) ?_)
      go_ret
      have hbz := hb2
      have hownz := hown
      rw [← HOV.out] at hownz
      have hlt2 := hb.lt
      have hL : (over r.file.now a []).length = r.file.now.length := by rw [HOV.out]
      refine ⟨by rw [HRES.out]; rfl, ?_, ((Frm.inP hFp HF.out).then_below hbz).setCell (p := ⟨r.fb, 0, none⟩) (fun _ => hF) _⟩
      have e0 : ∀ x, x = c' → Value.slice A' r.file.now.length x = .slice A' (over r.file.now a []).length c' := by rintro x rfl; rw [hL]
      rw [HRES.out]
      first | rw [e0 c' rfl] | rw [e0 a HCA.out.symm]
      have h2 := (h1.below hbz).mono (G := up F w) (fun g _ => up_mono g)
      have hsz : w.heap.size ≤ w1.heap.size := HF.out.size
      obtain ⟨_, _, _, hB2, _⟩ := h2.recs r hmem
      have h3 := h2.setFile (r' := { r with file := { r.file with now := over r.file.now a [] }, A := A', c := c' }) (gf := fun f => { f with now := over f.now a [] }) HFI.out (fun _ => rfl) rfl rfl 0 _ rfl ((SlB.of_own hownz).2.mono (fun g _ hg => .inr (Nat.le_trans hsz hg))) hB2 ⟨by show (over r.file.now a []).length ≤ _; rw [hL]; exact hcap, hownz.cap.2, hc3, hc4, by show (over r.file.now a []).length ≤ 65536; rw [hL]; exact HSM.out.1, HSM.out.2⟩
      rw [step_files] at h3
      exact ⟨_, h3⟩
    ·obtain ⟨g3, rfl, hg3⟩ := hown.addr (by have := HG.out; omega)
     have hcap := hown.cap.1
     have hca : ¬ c' = a := by have := HG.out; omega
     have HCAP := Lib.hid hcap; clear hcap
     clear troom
     set_option maxRecDepth 8000 in
     go_wp2_with (refine wpList_copy1 (f := fB) rfl (.tmp 61) (.tmp 62) 28 rfl u8T fB_one hown rfl (fun _ => rfl) rfl hbs2.sl (by have := HG.out; omega) (by have := HG.out; omega) hb2.size ?_; intro w4 hown4 hb4; have hbk4 := hb.below (hb2.trans hb4) hb.lt; have c04 : w4.cell? ⟨r.fb, 0, none⟩ = some (.slice r.A r.file.now.length r.c) := hbk4.cell 0; have f04 := hbk4.free 0)
     go_ret
     have hbz := hb2.trans hb4
     have hownz := hown4
     have hlt2 := hb.lt
     have hL : (over r.file.now a bs).length = r.file.now.length := by rw [over_len hal]; have := HG.out; omega
     refine ⟨by rw [HRES.out]; rfl, ?_, ((Frm.inP hFp HF.out).then_below hbz).setCell (p := ⟨r.fb, 0, none⟩) (fun _ => hF) _⟩
     rw [HRES.out, ← hL]
     have h2 := (h1.below hbz).mono (G := up F w) (fun g _ => up_mono g)
     have hsz : w.heap.size ≤ w1.heap.size := HF.out.size
     obtain ⟨_, _, _, hB2, _⟩ := h2.recs r hmem
     have h3 := h2.setFile (r' := { r with file := { r.file with now := over r.file.now a bs }, A := some ⟨g3, 0, none⟩, c := c' }) (gf := fun f => { f with now := over f.now a bs }) HFI.out (fun _ => rfl) rfl rfl 0 _ rfl ((SlB.of_own hownz).2.mono (fun g _ hg => .inr (Nat.le_trans hsz hg))) hB2 ⟨by show (over r.file.now a bs).length ≤ _; rw [hL]; exact HCAP.out, hownz.cap.2, hc3, hc4, by show (over r.file.now a bs).length ≤ 65536; rw [hL]; exact HSM.out.1, HSM.out.2⟩
     rw [step_files] at h3
     exact ⟨_, h3⟩
 | none =>
   have hne := lookV_none_ne hlk
   have hres : Dsk.write s (sname n) at_ bs = (Dsk.step s, e) := by unfold Dsk.write; simp only [hlo]; rfl
   have HRES := Lib.hid hres; clear hres hlo
   have t1 : ((e : Int) != 0) = true := by rw [bne_iff_ne]; omega
   have HNE := Lib.hid hne; clear hne
   go_enter Tryz.func14, Tryz.ntmps14
   go_wp2_with fail
   (with_reducible refine (change_one h n hn hlk _ rfl).mono ?_); rintro x w1 ⟨rfl, h1, hf1⟩
   have HF := Lib.hid hf1; clear hf1
   unfold ptrOf
   go_wp2_with fail
   go_ret
   refine ⟨by rw [HRES.out]; rfl, ?_, Frm.inP hFp HF.out⟩
   rw [HRES.out]
   exact ⟨rs, h1.mono (fun g _ => up_mono g)⟩
theorem Write_any {F G : Nat → Prop} {w : World} {p : Nat} {s : S} (h : DiskAt F w p s) (n : ByteArray) (hn : n.size ≤ maxLen) (at_ : Int) (hat : (Lit.int .i64 at_).wf = true)
 (A : Option Addr) (c : Nat) (bs : List UInt8) {te : TypeId} (hbs : SlB fB te G w A bs) (hG : ¬ G p) :
 Calls Tryz.prog 14 #[.pointer (some ⟨p, 0, none⟩), .string n, .int .i64 at_, .slice A bs.length c] w (OpPost F p (Dsk.write s (sname n) at_ bs) w) := by
 obtain ⟨mb, rs, h⟩ := h
 exact (Write_mb h n hn at_ hat A c bs hbs hG).mono fun _ _ ⟨h1, ⟨rs', h2⟩, h3⟩ => ⟨h1, ⟨mb, rs', h2⟩, h3⟩
end Go.Proofs.YtifgajinfcihmaaGreatDoor
namespace Go.Proofs.YtifgajinfcihmaaGreatDoor
open Go.RowKit Go.Maps Mem Dsk
section
variable {α : Type} {f : α → Value} {e : TypeId} {F : Nat → Prop} {w : World} {A : Option Addr} {xs : List α}
theorem Mem.Sl.pre {m : Nat} (h : Sl f w A xs) : Sl f w A (xs.take m) :=
 ⟨by have := h.1; rw [List.length_take]; omega, fun hn => by
  rw [List.length_take] at hn
  obtain ⟨b, o, hA, hc⟩ := h.2 (by omega)
  refine ⟨b, o, hA, fun j hj => ?_⟩
  rw [List.length_take] at hj
  rw [List.getElem_take]; exact hc j (by omega)⟩
end
theorem findR_updR {n : Name} {rs : List Rec} {r r' : Rec} (h : findR n rs = some r) (hn : r'.file.name = n) : findR n (updR n (fun _ => r') rs) = some r' := by
 unfold findR updR at *
 induction rs with
 | nil => cases h
 | cons y l ih =>
   rw [List.map_cons]
   by_cases e : y.file.name = n
   ·rw [if_pos (by simpa using e), List.find?_cons_of_pos (by simpa using hn)]
   ·rw [if_neg (by simpa using e), List.find?_cons_of_neg (by simpa using e)]
    rw [List.find?_cons_of_neg (by simpa using e)] at h
    exact ih h
theorem upd_upd (n : Name) (g1 g2 : File → File) (hg : ∀ f, (g1 f).name = f.name) (fs : List File) : upd n g2 (upd n g1 fs) = upd n (fun f => g2 (g1 f)) fs := by
 unfold upd; rw [List.map_map]
 apply List.map_congr_left
 intro f _; simp only [Function.comp]
 by_cases e : (f.name == n) = true
 ·rw [if_pos e, if_pos (by rw [hg]; exact e), if_pos e]
 ·rw [if_neg e, if_neg e]; simp [e]
theorem Down_any {F : Nat → Prop} {w : World} {p : Nat} {s : S} (h : DiskAt F w p s) :
 Calls Tryz.prog 43 #[.pointer (some ⟨p, 0, none⟩)] w fun e w' => e = .returned (.bool s.down) ∧ w = w' := by
 obtain ⟨mb, rs, h⟩ := h
 have hb := h.blk
 have c1 : w.cell? ⟨p, 1, none⟩ = some (.bool s.down) := hb.cell 1
 go_enter Tryz.func43, Tryz.ntmps43
 go_wp2_with fail
 go_ret
 exact ⟨rfl, rfl⟩
set_option maxHeartbeats 1000000 in
theorem Cut_any {F : Nat → Prop} {w : World} {p : Nat} {s : S} (h : DiskAt F w p s) (n : ByteArray) (hn : n.size ≤ maxLen) (at_ : Int) (hat : (Lit.int .i64 at_).wf = true) :
 Calls Tryz.prog 60 #[.pointer (some ⟨p, 0, none⟩), .string n, .int .i64 at_] w (OpPost F p (Dsk.cut s (sname n) at_) w) := by
 obtain ⟨mb, rs, h⟩ := h
 have hlt := h.blk.lt
 have hFp := h.inP
 have hfiles := h.files
 have hblk := h.blk
 rcases hlk : lookV (Dsk.step s) rs [n] with ⟨o, e⟩
 have hlo := look_one hfiles n hlk
 cases o with
 | some r =>
   obtain ⟨rfl, hfind⟩ := lookV_rec hlk
   have HFI := Lib.hid hfind; clear hfind
   by_cases ha : at_ < 0 ∨ (r.file.now.length : Int) < at_
   ·have hres : Dsk.cut s (sname n) at_ = (Dsk.step s, 1) := by unfold Dsk.cut; simp only [hlo, Option.map_some, if_pos ha]
    have HRES := Lib.hid hres; clear hres hlo
    rcases ha with ha | ha
    ·go_enter Tryz.func60, Tryz.ntmps60
     go_wp2_with fail
     (with_reducible refine (change_one h n hn hlk _ rfl).mono ?_); rintro x w1 ⟨rfl, h1, hf1⟩
     have HF := Lib.hid hf1; clear hf1
     unfold ptrOf
     go_wp2_with fail
     go_ret
     refine ⟨by rw [HRES.out]; rfl, ?_, Frm.inP hFp HF.out⟩
     rw [HRES.out]
     exact ⟨mb, rs, h1.mono (fun g _ => up_mono g)⟩
    ·have ha0 : ¬ at_ < 0 := by omega
     go_enter Tryz.func60, Tryz.ntmps60
     go_wp2_with fail
     (with_reducible refine (change_one h n hn hlk _ rfl).mono ?_); rintro x w1 ⟨rfl, h1, hf1⟩
     have HF := Lib.hid hf1; clear hf1
     have c0 : w1.cell? ⟨r.fb, 0, none⟩ = some (.slice r.A r.file.now.length r.c) := (h1.recs r (findR_some HFI.out).2).1.cell 0
     unfold ptrOf
     go_wp2_with fail
     go_ret
     refine ⟨by rw [HRES.out]; rfl, ?_, Frm.inP hFp HF.out⟩
     rw [HRES.out]
     exact ⟨mb, rs, h1.mono (fun g _ => up_mono g)⟩
   have ha0 : 0 ≤ at_ := by omega
   obtain ⟨a, rfl⟩ := Int.eq_ofNat_of_zero_le ha0
   have hal : a ≤ r.file.now.length := by omega
   have hres : Dsk.cut s (sname n) a = ({ Dsk.step s with files := upd (sname n) (fun f => { f with now := f.now.take a, safe := f.safe.take a }) s.files }, 0) := by
    unfold Dsk.cut; simp only [hlo, Option.map_some, if_neg ha, step_files]; rfl
   have HRES := Lib.hid hres; clear hres hlo ha
   obtain ⟨hname, hmem⟩ := findR_some HFI.out
   clear hname
   go_enter Tryz.func60, Tryz.ntmps60
   go_wp2_with fail
   (with_reducible refine (change_one h n hn hlk _ rfl).mono ?_); rintro x w1 ⟨rfl, h1, hf1⟩
   obtain ⟨hb, hF, hA, hB, hc1, hc2, hc3, hc4, hsm⟩ := h1.recs r hmem
   have c0 : w1.cell? ⟨r.fb, 0, none⟩ = some (.slice r.A r.file.now.length r.c) := hb.cell 0
   have HF := Lib.hid hf1; clear hf1
   have HSM := Lib.hid hsm; clear hsm
   unfold ptrOf
   have htl : (r.file.now.take a).length = a := by rw [List.length_take]; omega
   have hC := fun w => Clone_any r.A r.c (r.file.now.take a) (by rw [htl]; have := HSM.out.1; unfold okLen; omega) w
   rw [htl] at hC
   set_option maxRecDepth 8000 in
   go_wp2_with fail
   (with_reducible refine (hC _ hA.sl.pre).mono ?_); rintro x w2 ⟨⟨A', c', rfl, hown⟩, hb2⟩
   have hn1 := (SlB.of_own hown).2
   have hn2 := hown.cap.1
   have hn3 := hown.cap.2
   clear hown hC
   have HB2 := Lib.hid hb2; clear hb2
   have hbk := hb.below HB2.out hb.lt
   have f0 := hbk.free 0
   have c02 : w2.cell? ⟨r.fb, 0, none⟩ = some (.slice r.A r.file.now.length r.c) := hbk.cell 0
   clear hbk
   set_option maxRecDepth 8000 in
   go_wp2_with fail
   clear f0 c02
   have h2 := (h1.below HB2.out).mono (G := up F w) (fun g _ => up_mono g)
   have hsz : w.heap.size ≤ w1.heap.size := HF.out.size
   obtain ⟨_, _, _, hB2, _⟩ := h2.recs r hmem
   have h3 := h2.setFile (r' := { r with file := { r.file with now := r.file.now.take a }, A := A', c := c' }) (gf := fun f => { f with now := f.now.take a }) HFI.out (fun _ => rfl) rfl rfl 0 _ rfl (hn1.mono (fun g _ hg => .inr (Nat.le_trans hsz hg))) hB2 ⟨hn2, hn3, hc3, hc4, by show (r.file.now.take a).length ≤ 65536; rw [htl]; exact Nat.le_trans hal HSM.out.1, HSM.out.2⟩
   have hf3 : Frm F w (w2.setCell ⟨r.fb, 0, none⟩ (.slice A' (r.file.now.take a).length c')) := ((Frm.inP hFp HF.out).then_below HB2.out).setCell (p := ⟨r.fb, 0, none⟩) (fun _ => hF) _
   have hfr : findR (sname n) (updR (sname n) (fun _ => { r with file := { r.file with now := r.file.now.take a }, A := A', c := c' }) rs) = some { r with file := { r.file with now := r.file.now.take a }, A := A', c := c' } := findR_updR HFI.out (findR_some HFI.out).1
   rw [step_files] at h3
   have e0 : Value.slice A' (r.file.now.take a).length c' = .slice A' a c' := by rw [htl]
   simp only [e0] at h3 hf3
   clear e0
   have H3 := Lib.hid h3; clear h3
   have HF3 := Lib.hid hf3; clear hf3
   have HFR := Lib.hid hfr; clear hfr
   clear h2 hn1 hn2 hn3 HB2 hB2 hsz
   revert H3 HF3
   generalize hwq : w2.setCell ⟨r.fb, 0, none⟩ (.slice A' a c') = wq
   intro H3 HF3
   clear hwq
   have hmq := (findR_some HFR.out).2
   obtain ⟨hbq, hFq, _, hBq, _⟩ := H3.out.recs _ hmq
   have c1 : wq.cell? ⟨r.fb, 1, none⟩ = some (.slice r.B r.file.safe.length r.d) := hbq.cell 1
   have f1 := hbq.free 1
   have hms : Sl fB wq r.B (r.file.safe.take a) := hBq.sl.pre
   have hCS := fun w => Clone_any r.B r.d (r.file.safe.take a) (by rw [List.length_take]; have := (small_ok HSM.out).2; unfold okLen at *; omega) w
   have kS : ∀ w', Below wq.heap.size wq w' → (w'.cell? ⟨r.fb, 1, none⟩ = some (.slice r.B r.file.safe.length r.d) ∧ w'.frozen? ⟨r.fb, 1, none⟩ = false ∧ Sl fB w' r.B (r.file.safe.take a) ∧ Below wq.heap.size wq w') :=
    fun w' hb' => ⟨(hb'.cell hbq.lt).trans c1, (hb'.frozen hbq.lt).trans f1, hms.below hb', hb'⟩
   by_cases hm : r.file.safe.length < a
   ·have hml : (r.file.safe.take a).length = r.file.safe.length := by rw [List.length_take]; omega
    rw [hml] at hCS
    have HML := Lib.hid hml; clear hml
    set_option maxRecDepth 8000 in
    go_region_law (first | ((first | (go_simp; go_at_call 39) | go_at_call 39 | skip); refine (hCS wq.drew hms).mono ?_; rintro x w3 ⟨⟨A2, d2, rfl, hown2⟩, hb3⟩; have hb4 : Below wq.heap.size wq w3 := (below_drewN (Below.refl _ _) 1).trans hb3; have c13 := (kS _ hb4).1; have f13 := (kS _ hb4).2.1))
    all_goals (clear hmq hbq hFq hBq kS hCS)
    all_goals go_wp2_with fail
    all_goals go_ret
    all_goals
     refine ⟨by rw [HRES.out]; rfl, ?_, (HF3.out.then_below hb4).setCell (p := ⟨r.fb, 1, none⟩) (fun _ => hF) _⟩
     rw [HRES.out]
     have hn1 := (SlB.of_own hown2).2
     have hn2 := hown2.cap.1
     have hn3 := hown2.cap.2
     have h4 := H3.out.below hb4
     have hsz : w.heap.size ≤ wq.heap.size := HF3.out.size
     obtain ⟨_, _, hA4, _, hd1, hd2, _⟩ := h4.recs _ (findR_some HFR.out).2
     have h5 := h4.setFile (r' := { r with file := { r.file with now := r.file.now.take a, safe := r.file.safe.take a }, A := A', c := c', B := A2, d := d2 }) (gf := fun f => { f with safe := f.safe.take a }) HFR.out (fun _ => rfl) rfl rfl 1 _ rfl hA4 (hn1.mono (fun g _ hg => .inr (Nat.le_trans hsz hg))) ⟨hd1, hd2, hn2, hn3, by show (r.file.now.take a).length ≤ 65536; rw [htl]; exact Nat.le_trans hal HSM.out.1, by show (r.file.safe.take a).length ≤ 65536; rw [List.length_take]; exact Nat.le_trans (Nat.min_le_right _ _) HSM.out.2.1, HSM.out.2.2⟩
     have e5 : min a r.file.safe.length = (r.file.safe.take a).length := List.length_take.symm
     rw [e5]
     have hu := upd_upd (sname n) (fun f => { f with now := f.now.take a }) (fun f => { f with safe := f.safe.take a }) (fun _ => rfl) s.files
     rw [← hu]
     exact ⟨mb, _, h5⟩
   ·have hml : (r.file.safe.take a).length = a := by rw [List.length_take]; omega
    have had : a ≤ r.d := by omega
    rw [hml] at hCS
    have HML := Lib.hid hml; clear hml
    set_option maxRecDepth 8000 in
    go_region_law (first | ((first | (go_simp; go_at_call 39) | go_at_call 39 | skip); refine (hCS wq.drew hms).mono ?_; rintro x w3 ⟨⟨A2, d2, rfl, hown2⟩, hb3⟩; have hb4 : Below wq.heap.size wq w3 := (below_drewN (Below.refl _ _) 1).trans hb3; have c13 := (kS _ hb4).1; have f13 := (kS _ hb4).2.1))
    all_goals (clear hmq hbq hFq hBq kS hCS)
    all_goals go_wp2_with fail
    all_goals go_ret
    all_goals
     refine ⟨by rw [HRES.out]; rfl, ?_, (HF3.out.then_below hb4).setCell (p := ⟨r.fb, 1, none⟩) (fun _ => hF) _⟩
     rw [HRES.out]
     have hn1 := (SlB.of_own hown2).2
     have hn2 := hown2.cap.1
     have hn3 := hown2.cap.2
     have h4 := H3.out.below hb4
     have hsz : w.heap.size ≤ wq.heap.size := HF3.out.size
     obtain ⟨_, _, hA4, _, hd1, hd2, _⟩ := h4.recs _ (findR_some HFR.out).2
     have h5 := h4.setFile (r' := { r with file := { r.file with now := r.file.now.take a, safe := r.file.safe.take a }, A := A', c := c', B := A2, d := d2 }) (gf := fun f => { f with safe := f.safe.take a }) HFR.out (fun _ => rfl) rfl rfl 1 _ rfl hA4 (hn1.mono (fun g _ hg => .inr (Nat.le_trans hsz hg))) ⟨hd1, hd2, hn2, hn3, by show (r.file.now.take a).length ≤ 65536; rw [htl]; exact Nat.le_trans hal HSM.out.1, by show (r.file.safe.take a).length ≤ 65536; rw [List.length_take]; exact Nat.le_trans (Nat.min_le_right _ _) HSM.out.2.1, HSM.out.2.2⟩
     have e5 : min a r.file.safe.length = (r.file.safe.take a).length := List.length_take.symm
     rw [e5]
     have hu := upd_upd (sname n) (fun f => { f with now := f.now.take a }) (fun f => { f with safe := f.safe.take a }) (fun _ => rfl) s.files
     rw [← hu]
     exact ⟨mb, _, h5⟩
 | none =>
   have hne := lookV_none_ne hlk
   have hres : Dsk.cut s (sname n) at_ = (Dsk.step s, e) := by unfold Dsk.cut; simp only [hlo]; rfl
   have HRES := Lib.hid hres; clear hres hlo
   have t1 : ((e : Int) != 0) = true := by rw [bne_iff_ne]; omega
   have HNE := Lib.hid hne; clear hne
   go_enter Tryz.func60, Tryz.ntmps60
   go_wp2_with fail
   (with_reducible refine (change_one h n hn hlk _ rfl).mono ?_); rintro x w1 ⟨rfl, h1, hf1⟩
   have HF := Lib.hid hf1; clear hf1
   unfold ptrOf
   go_wp2_with fail
   go_ret
   refine ⟨by rw [HRES.out]; rfl, ?_, Frm.inP hFp HF.out⟩
   rw [HRES.out]
   exact ⟨mb, rs, h1.mono (fun g _ => up_mono g)⟩
end Go.Proofs.YtifgajinfcihmaaGreatDoor
namespace Go.Proofs.YtifgajinfcihmaaGreatDoor
open Go.RowKit Go.Maps Mem Dsk
def secFrom (n i : Nat) : Nat := min (i * 32) n
def secTo (n i : Nat) : Nat := min (secFrom n i + 32) n
theorem sec_le (n i : Nat) : secFrom n i ≤ secTo n i ∧ secTo n i ≤ n := by unfold secTo secFrom; omega
theorem sector_eq (xs : List UInt8) (i : Nat) : sector xs i = (xs.drop (secFrom xs.length i)).take (secTo xs.length i - secFrom xs.length i) := by
 unfold sector secTo secFrom
 rcases Nat.lt_or_ge xs.length (i * 32) with h | h
 ·rw [Nat.min_eq_right (Nat.le_of_lt h), List.drop_eq_nil_of_le (Nat.le_of_lt h), List.drop_eq_nil_of_le (Nat.le_refl _)]; simp
 ·rw [Nat.min_eq_left h]
  rcases Nat.lt_or_ge xs.length (i * 32 + 32) with h2 | h2
  ·rw [Nat.min_eq_right (Nat.le_of_lt h2), List.take_of_length_le (by simp; omega), List.take_of_length_le (by simp)]
  ·rw [Nat.min_eq_left h2]; congr 1; omega
theorem sector_len (xs : List UInt8) (i : Nat) : (sector xs i).length = secTo xs.length i - secFrom xs.length i := by
 rw [sector_eq]; have := sec_le xs.length i; simp; omega
def partV (A : Option Addr) (c : Nat) (xs : List UInt8) (i : Nat) : Value := .slice (partA A c (secFrom xs.length i)) (sector xs i).length (c - secFrom xs.length i)
theorem Mem.Sl.sector {w : World} {A : Option Addr} {xs : List UInt8} (h : Sl fB w A xs) {c : Nat} (hc : xs.length ≤ c) (i : Nat) : Sl fB w (partA A c (secFrom xs.length i)) (sector xs i) := by
 have := sec_le xs.length i
 rw [sector_eq]; exact h.part (by omega) hc
theorem bytesSize (w : World) : (sizeOf 5).run Tryz.prog w = .ok 1 w := by kernel_rfl
set_option maxHeartbeats 400000 in
theorem part_any (A : Option Addr) (c : Nat) (xs : List UInt8) (i : Nat) (hi : i ≤ 1000000) (hc : xs.length ≤ c) (_hc2 : c ≤ maxLen) (w : World) :
 Calls Tryz.prog 42 #[.slice A xs.length c, .int .i64 i] w fun e w' => e = .returned (partV A c xs i) ∧ w = w' := by
 unfold partV; rw [sector_len]
 unfold maxLen at _hc2
 by_cases h1 : xs.length < i * 32
 ·have e1 : secFrom xs.length i = xs.length := by unfold secFrom; omega
  have e2 : secTo xs.length i = xs.length := by unfold secTo; omega
  rw [e1, e2]; clear e1 e2
  have h1' : (xs.length : Int) < (i : Int) * 32 := by omega
  have h2' : (xs.length : Int) < (xs.length : Int) + 32 := by omega
  have hsl := cut_lh (P := Tryz.prog) (t := 28) Tryz.underlying28 bytesSize A xs.length c xs.length xs.length (xs.length : Int) (xs.length : Int) rfl rfl (Nat.le_refl _) hc
  go_enter Tryz.func42, Tryz.ntmps42
  go_wp2_with fail
  go_ret
  exact ⟨by simp, rfl⟩
 ·have e1 : secFrom xs.length i = i * 32 := by unfold secFrom; omega
  have h1' : ¬ (xs.length : Int) < (i : Int) * 32 := by omega
  by_cases h2 : xs.length < i * 32 + 32
  ·have e2 : secTo xs.length i = xs.length := by unfold secTo; omega
   rw [e1, e2]; clear e1 e2
   have h2' : (xs.length : Int) < (i : Int) * 32 + 32 := by omega
   have hsl := cut_lh (P := Tryz.prog) (t := 28) Tryz.underlying28 bytesSize A xs.length c (i * 32) xs.length ((i : Int) * 32) (xs.length : Int) (by omega) rfl (by omega) hc
   go_enter Tryz.func42, Tryz.ntmps42
   go_wp2_with fail
   go_ret
   exact ⟨rfl, rfl⟩
  ·have e2 : secTo xs.length i = i * 32 + 32 := by unfold secTo; omega
   rw [e1, e2]; clear e1 e2
   have h2' : ¬ (xs.length : Int) < (i : Int) * 32 + 32 := by omega
   have hsl := cut_lh (P := Tryz.prog) (t := 28) Tryz.underlying28 bytesSize A xs.length c (i * 32) (i * 32 + 32) ((i : Int) * 32) ((i : Int) * 32 + 32) (by omega) (by omega) (by omega) (by omega)
   go_enter Tryz.func42, Tryz.ntmps42
   go_wp2_with fail
   go_ret
   exact ⟨rfl, rfl⟩
def fN (n : Nat) : Value := .int .i64 (n : Int)
theorem fN_one (n : Nat) : (fN n).oneCell' = true := rfl
theorem intT : SliceT Tryz.prog 87 3 (.int .i64 0) 8 := sliceT_mk Tryz.underlying87 rfl (by kernel_rfl)
def isLoose (f : File) (i : Nat) : Bool := !(sector f.now i == sector f.safe i)
def loosePre (f : File) (k : Nat) : List Nat := (List.range k).filter (isLoose f)
theorem loosePre_all (f : File) : loosePre f ((f.now.length + 31) / 32) = loose f := rfl
theorem loosePre_len (f : File) (k : Nat) : (loosePre f k).length ≤ k := by
 unfold loosePre; exact Nat.le_trans (List.length_filter_le _ _) (by simp)
theorem loosePre_yes {f : File} {k : Nat} (h : isLoose f k = true) : loosePre f (k + 1) = loosePre f k ++ [k] := by
 unfold loosePre; rw [List.range_succ, List.filter_append]; simp [h]
theorem loosePre_no {f : File} {k : Nat} (h : isLoose f k = false) : loosePre f (k + 1) = loosePre f k := by
 unfold loosePre; rw [List.range_succ, List.filter_append]; simp [h]
def LooseRel (f : File) (w : World) (B : Nat) (ov iv : Value) (wr : World) : Prop :=
 ∃ k : Nat, k ≤ (f.now.length + 31) / 32 ∧ iv = .int .i64 k ∧ Mem.Own fN B 3 wr ov (loosePre f k) ∧ Below B w wr
set_option maxHeartbeats 1000000 in
theorem loose_any {F : Nat → Prop} {w : World} {r : Rec} (h : RecOK F w r) :
 Calls Tryz.prog 41 #[.pointer (some ⟨r.fb, 0, none⟩)] w fun e w' => ∃ A c, e = .returned (.slice A (loose r.file).length c) ∧ Mem.Own fN w.heap.size 3 w' (.slice A (loose r.file).length c) (loose r.file) ∧ Below w.heap.size w w' := by
 obtain ⟨hb, hF, hA, hB, hc1, hc2, hc3, hc4, hsm⟩ := h
 have hlen : r.file.now.length ≤ 65536 := hsm.1
 have HL := Lib.hid hlen; clear hlen hsm
 have HB := Lib.hid hb; clear hb
 have hSA := hA.sl
 have hSB := hB.sl
 go_enter Tryz.func41, Tryz.ntmps41
 go_wp2_with fail
 go_loopw [3, 4] (fun ov iv wr => LooseRel r.file w w.heap.size ov iv wr) (fun _ iv _ => (r.file.now.length + 31) / 32 - (intOf iv).toNat)
 case atStart => exact ⟨0, Nat.zero_le _, rfl, Own.nil, Below.refl _ _⟩
 case round =>
  obtain ⟨k, hk, rfl, hown, hbw⟩ := hrel
  have hbk := HB.out.below hbw HB.out.lt
  have c0 : wr.cell? ⟨r.fb, 0, none⟩ = some (.slice r.A r.file.now.length r.c) := hbk.cell 0
  have c1 : wr.cell? ⟨r.fb, 1, none⟩ = some (.slice r.B r.file.safe.length r.d) := hbk.cell 1
  have hA' := hSA.below hbw
  have hB' := hSB.below hbw
  have hk3 : k ≤ 2048 := by have := HL.out; omega
  have HOWN := Lib.hid hown; clear hown
  have HBW := Lib.hid hbw; clear hbw hbk
  by_cases hlt : k * 32 < r.file.now.length
  ·have hlt' : (k : Int) * 32 < (r.file.now.length : Int) := by omega
   have hE := fun W hx hy => Equal_any (partA r.A r.c (secFrom r.file.now.length k)) (partA r.B r.d (secFrom r.file.safe.length k)) (r.c - secFrom r.file.now.length k) (r.d - secFrom r.file.safe.length k) (sector r.file.now k) (sector r.file.safe k) W hx hy
   have HE := Lib.hid hE; clear hE
   cases hl : isLoose r.file k
   ·have hq : decide (sector r.file.now k = sector r.file.safe k) = true := by unfold isLoose at hl; simpa using hl
    have HLP := Lib.hid (loosePre_no hl); clear hl
    go_wp2_with fail
    go_quiet (first | (go_at_call 42; exact quiet_mine (part_any _ _ _ _ (by omega) (by assumption) (by assumption) _)) | (go_at_call 71; exact Calls.quiet_of (HE.out _ ((hA'.sector hc1 k).drewN _) ((hB'.sector hc3 k).drewN _))))
    go_wp2_with fail
    go_roundw
    case rel => exact ⟨k + 1, by omega, by go_num, by rw [HLP.out]; exact HOWN.out.drewN _, below_drewN HBW.out _⟩
    case measure => simp [intOf]; omega
   ·have hq : decide (sector r.file.now k = sector r.file.safe k) = false := by unfold isLoose at hl; simpa using hl
    have HLP := Lib.hid (loosePre_yes hl); clear hl
    go_wp2_with fail
    go_quiet (first | (go_at_call 42; exact quiet_mine (part_any _ _ _ _ (by omega) (by assumption) (by assumption) _)) | (go_at_call 71; exact Calls.quiet_of (HE.out _ ((hA'.sector hc1 k).drewN _) ((hB'.sector hc3 k).drewN _))))
    have hpl := loosePre_len r.file k
    go_wp2_with (at_builtin; refine wpList_append1 (f := fN) rfl _ _ _ rfl intT k (fN_one k) rfl (HOWN.out.drewN nq) rfl rfl (by unfold maxLen; omega) (by omega) (below_drewN HBW.out nq).size ?_; intro v2 w2 hown2 hb2)
    go_roundw
    case rel => exact ⟨k + 1, by omega, by go_num, by rw [HLP.out]; exact hown2, (below_drewN HBW.out nq).trans hb2⟩
    case measure => simp [intOf]; omega
  ·have hlt' : ¬ (k : Int) * 32 < (r.file.now.length : Int) := by omega
   have hkk : k = (r.file.now.length + 31) / 32 := by omega
   have HKK := Lib.hid hkk; clear hkk
   obtain ⟨A1, c2, rfl⟩ := HOWN.out.form
   go_wp2_with fail
   go_ret
   have ho := HOWN.out
   have e := loosePre_all r.file
   rw [← HKK.out] at e
   rw [e] at ho
   exact ⟨A1, c2, by rw [e]; rfl, ho, HBW.out⟩
end Go.Proofs.YtifgajinfcihmaaGreatDoor
