/- Layer 5: the walk of Crash. -/
import Derived.Test.YtifgajinfcihmaaGreatDoorJAs
import Derived.Test.YtifgajinfcihmaaGreatDoorJAm
import Derived.Test.YtifgajinfcihmaaGreatDoorJAc
namespace Go.Proofs.YtifgajinfcihmaaGreatDoor
open Go.RowKit Go.Maps Mem Dsk
def fBool (b : Bool) : Value := .bool b
theorem Mem.Own.cutAt {α : Type} {f : α → Value} {w : World} {xs : List α} {base : Nat} {e : TypeId} {A : Option Addr} {n c l : Nat} (h : Mem.Own f base e w (.slice A n c) xs) (hl : 0 < n - l) :
 ∃ g m cap, Value.slice A n c = .slice (some ⟨g, 0, none⟩) m cap ∧ partA A c l = some ⟨g, l, none⟩ := by
 obtain ⟨g, rfl, _⟩ := h.addr (by omega)
 have hc := h.cap.1
 refine ⟨g, n, c, rfl, ?_⟩
 unfold partA
 rw [if_neg (by omega)]
 simp only [Option.map_some, Addr.add]
 by_cases h0 : l = 0
 ·subst h0; rfl
 ·rw [if_neg h0]; simp
theorem snames_get {s : S} {k : Nat} (h : k < (snames s).length) (h2 : k < s.files.length) : (snames s)[k] = s.files[k].name := List.getElem_map ..
def CrashRel (F : Nat → Prop) (w : World) (p : Nat) (s : S) (mb : Nat) (te : TypeId) (G : Nat → Prop) (keep : List Bool) (K AN : Option Addr) (nv kv : Value) (wr : World) : Prop :=
 ∃ (k : Nat) (rs : List Rec), k ≤ s.files.length ∧ kv = .int .i64 k ∧ nv = .int .i64 (crashN keep s.files k) ∧ crashN keep s.files k ≤ k * 2048 ∧
   Rep (up F w) wr p { s with files := crashAt keep s.files k } mb rs ∧ Frm F w wr ∧ SlB fBool te G wr K keep ∧ SlB encStr 9 (fun _ => True) wr AN (snames s)
def InRel (f : File) (keep : List Bool) (n B : Nat) (w : World) (AL : Option Addr) (nv ov jv : Value) (wr : World) : Prop :=
 ∃ j m : Nat, j ≤ (loose f).length ∧ jv = .int .i64 j ∧ nv = .int .i64 m ∧ m = n + j ∧ Mem.Own fB B 5 wr ov (keptTo f keep n j).1 ∧ Below B w wr ∧ SlB fN 3 (fun _ => True) wr AL (loose f)
theorem loose_count {f : File} (h : f.now.length ≤ 65536) : (loose f).length ≤ 2048 := by
 have := loosePre_len f ((f.now.length + 31) / 32); rw [loosePre_all] at this; omega
theorem findR_of {rs : List Rec} {n : Name} {f : File} (h : find n (rs.map Rec.file) = some f) : ∃ r, findR n rs = some r ∧ r.file = f := by
 rw [findR_file] at h
 cases hf : findR n rs with
 | none => rw [hf] at h; cases h
 | some r => rw [hf] at h; exact ⟨r, rfl, Option.some.inj h⟩
theorem keptTo_step_no {f : File} {keep : List Bool} {n j : Nat} (h : j < (loose f).length) (hk : keep.getD (n + j) false = false) : (keptTo f keep n (j + 1)).1 = (keptTo f keep n j).1 := by
 rw [keptTo_succ h]; unfold keptStep; rw [keptTo_snd (Nat.le_of_lt h), hk]; rfl
theorem keptTo_step_yes {f : File} {keep : List Bool} {n j : Nat} (h : j < (loose f).length) (hk : keep.getD (n + j) false = true) :
 (keptTo f keep n (j + 1)).1 = over ((keptTo f keep n j).1 ++ List.replicate ((loose f)[j] * 32 - (keptTo f keep n j).1.length) 0) ((loose f)[j] * 32) (sector f.now (loose f)[j]) := by
 rw [keptTo_succ h]; unfold keptStep; rw [keptTo_snd (Nat.le_of_lt h), hk]; rfl
theorem Mem.SlB.at {α : Type} {f : α → Value} {e : TypeId} {F : Nat → Prop} {w : World} {A : Option Addr} {xs : List α} (h : SlB f e F w A xs) {k : Nat} (hk : k < xs.length) :
 ∃ b o, A = some ⟨b, o, none⟩ ∧ w.cell? ⟨b, o + k, none⟩ = some (f xs[k]) := by
 obtain ⟨b, o, e, _, hc⟩ := h.sl.at hk
 exact ⟨b, o, e, hc k hk⟩
theorem Mem.SlB.far2 {α : Type} {f : α → Value} {e t : TypeId} {F : Nat → Prop} {w : World} {A : Option Addr} {xs : List α} {cs : Array Value} {g : Nat} (h : SlB f e F w A xs) (hb : Blk w g t cs) (hne : e ≠ t ∨ ¬ F g) (i : Nat) (u : Value) :
 SlB f e F (w.setCell ⟨g, i, none⟩ u) A xs := by
 rcases hne with hne | hne
 ·exact h.far hb hne i u
 ·exact h.keep fun k cur fr hF _ => Below.heap_setCell w _ u k (by
   intro e2
   have e2 : k = g := e2
   subst e2
   exact hne hF)
theorem Rep.setFile2 {F : Nat → Prop} {w : World} {p mb : Nat} {s : S} {rs : List Rec} {r : Rec} (h : Rep F w p s mb rs) {n : Name} (hr : findR n rs = some r) {b : List UInt8} (hb : b.length ≤ 65536)
 {A B : Option Addr} {c d : Nat} (hA : SlB fB 5 F w A b) (hB : SlB fB 5 F w B b) (hc : b.length ≤ c ∧ c ≤ maxLen ∧ b.length ≤ d ∧ d ≤ maxLen) :
 ∃ rs', Rep F ((w.setCell ⟨r.fb, 0, none⟩ (.slice A b.length c)).setCell ⟨r.fb, 1, none⟩ (.slice B b.length d)) p { s with files := upd n (fun f => crashed f b) s.files } mb rs' := by
 obtain ⟨hname, hmem⟩ := findR_some hr
 obtain ⟨hb0, hF, hA0, hB0, hc1, hc2, hc3, hc4, hsm⟩ := h.recs r hmem
 have h3 := h.setFile (r' := { r with file := { r.file with now := b }, A := A, c := c }) (gf := fun f => { f with now := b }) hr (fun _ => rfl) rfl rfl 0 (.slice A b.length c) rfl hA hB0 ⟨hc.1, hc.2.1, hc3, hc4, hb, hsm.2⟩
 have hfr := findR_updR (rs := rs) (r' := { r with file := { r.file with now := b }, A := A, c := c }) hr hname
 have hbA := hA.far hb0 (by decide) 0 (.slice A b.length c)
 have hbB := hB.far hb0 (by decide) 0 (.slice A b.length c)
 have h4 := h3.setFile (r' := { r with file := { r.file with now := b, safe := b }, A := A, c := c, B := B, d := d }) (gf := fun f => { f with safe := b }) hfr (fun _ => rfl) rfl rfl 1 (.slice B b.length d) rfl hbA hbB ⟨hc.1, hc.2.1, hc.2.2.1, hc.2.2.2, hb, hb, hsm.2.2⟩
 have e : upd n (fun f => crashed f b) s.files = upd n (fun f => { f with safe := b }) (upd n (fun f => { f with now := b }) s.files) := by
  rw [upd_upd]
  ·rfl
  ·exact fun _ => rfl
 rw [e]
 exact ⟨_, h4⟩
set_option maxRecDepth 100000 in
set_option maxHeartbeats 4000000 in
theorem Crash_any {F : Nat → Prop} {w : World} {p : Nat} {s : S} (h : DiskAt F w p s) (K : Option Addr) (c : Nat) (keep : List Bool) {te : TypeId} {G : Nat → Prop} (hkeep : SlB fBool te G w K keep) (hG : te ≠ 83 ∨ ∀ g, up F w g → ¬ G g) :
 Calls Tryz.prog 15 #[.pointer (some ⟨p, 0, none⟩), .slice K keep.length c] w fun e w' => e = .returned (.tuple #[]) ∧ DiskAt (up F w) w' p (Dsk.crash s keep) ∧ Frm F w w' := by
 have hD := h
 obtain ⟨mb, rs0, h⟩ := h
 have hkl := hkeep.sl.len
 have hsl : (snames s).length = s.files.length := by unfold snames; simp
 have hct := h.count
 have hso := h.sorted
 have HD := Lib.hid hD; clear hD
 have H := Lib.hid h; clear h
 have HSO := Lib.hid hso; clear hso
 have HSL := Lib.hid hsl; clear hsl
 have HKEEP := Lib.hid hkeep; clear hkeep
 go_enter Tryz.func15, Tryz.ntmps15
 go_wp2_with fail
 (with_reducible refine (Names_any HD.out).mono ?_); rintro e w1 ⟨AN, cN, rfl, hown, hb1⟩
 have hnames : SlB encStr 9 (fun _ => True) w1 AN (snames s) := (SlB.of_own hown).2.mono (fun _ _ _ => trivial)
 have HN := Lib.hid hnames; clear hnames hown
 have HB1 := Lib.hid hb1; clear hb1
 go_wp2_with fail
 go_loopw [4, 16] (fun nv kv wr => CrashRel F w p s mb te G keep K AN nv kv wr) (fun _ kv _ => s.files.length - (intOf kv).toNat)
 case atStart =>
  exact ⟨0, rs0, Nat.zero_le _, rfl, rfl, Nat.zero_le _, (H.out.below HB1.out).mono (fun g _ => up_mono g), (Frm.refl F w).then_below HB1.out, HKEEP.out.below HB1.out, HN.out⟩
 case round =>
  obtain ⟨k, rs, hk, rfl, rfl, hnk, hrep, hfr, hkp, hnm⟩ := hrel
  have HREP := Lib.hid hrep; clear hrep
  have HFR := Lib.hid hfr; clear hfr
  have HKP := Lib.hid hkp; clear hkp
  have HNM := Lib.hid hnm; clear hnm
  have hnk2 : crashN keep s.files k ≤ 524288 := by omega
  by_cases hlt : k < s.files.length
  ·have hk1 : k < (snames s).length := by rw [HSL.out]; exact hlt
   obtain ⟨bn, on, rfl, hcn⟩ := HNM.out.at hk1
   have hnmk : (snames s)[k] = s.files[k].name := snames_get hk1 hlt
   rw [hnmk] at hcn; unfold encStr at hcn
   obtain ⟨r, hr, hrf⟩ := findR_of (rs := rs) (n := s.files[k].name) (f := s.files[k]) (by rw [HREP.out.files]; exact crashAt_find HSO.out hlt)
   have hmem := (findR_some hr).2
   obtain ⟨hb, hF, hA, hB, hc1, hc2, hc3, hc4, hsm⟩ := HREP.out.recs r hmem
   have hnl : (⟨s.files[k].name.toArray⟩ : ByteArray).size ≤ maxLen := by
    have := hsm.2.2; rw [hrf] at this
    unfold named at this; simp only [Bool.and_eq_true, decide_eq_true_eq] at this
    show s.files[k].name.toArray.size ≤ _
    unfold maxLen; simp; omega
   have hlk : (Instr.lookup 76 (.map (some mb)) (.string ⟨s.files[k].name.toArray⟩) false).run Tryz.prog wr = .ok (.pointer (some ⟨r.fb, 0, none⟩)) wr := by
    have h0 := HREP.out.lookup ⟨s.files[k].name.toArray⟩ hnl fileZero 0
    rw [show (⟨s.files[k].name.toArray⟩ : ByteArray).data.toList = s.files[k].name by simp, hr] at h0
    exact h0
   have c0 : wr.cell? ⟨p, 0, none⟩ = some (.map (some mb)) := HREP.out.blk.cell 0
   have c1 : wr.cell? ⟨r.fb, 1, none⟩ = some (.slice r.B r.file.safe.length r.d) := hb.cell 1
   have hokc := (small_ok hsm).2
   have hnow : r.file.now.length ≤ 65536 := hsm.1
   have hsafe : r.file.safe.length ≤ 65536 := hsm.2.1
   have hlc := loose_count hnow
   obtain ⟨wo, rfl⟩ : ∃ wo : World, wo = wr := ⟨_, rfl⟩
   have HB := Lib.hid hb; clear hb
   have HR := Lib.hid hr; clear hr
   have HRF := Lib.hid hrf; clear hrf hnmk
   have HSM := Lib.hid hsm; clear hsm
   go_wp2_with fail
   (with_reducible refine (Clone_any _ _ _ hokc _ hB.sl).mono ?_); rintro x w2 ⟨⟨A', c', rfl, hown⟩, hb2⟩
   have HB2 := Lib.hid hb2; clear hb2
   have HOWN := Lib.hid hown; clear hown
   go_wp2_with fail
   (with_reducible refine (loose_any ((HREP.out.below HB2.out).recs r hmem)).mono ?_); rintro x w3 ⟨AL, cL, rfl, hownL, hb3⟩
   have hLL : SlB fN 3 (fun _ => True) w3 AL (loose r.file) := (SlB.of_own hownL).2.mono (fun _ _ _ => trivial)
   have HLL := Lib.hid hLL; clear hLL hownL
   have HOWN3 : Hid (Mem.Own fB wo.heap.size 5 w3 (.slice A' r.file.safe.length c') r.file.safe) := HOWN.out.below hb3
   have HB3 : Hid (Below wo.heap.size wo w3) := HB2.out.trans (hb3.mono HB2.out.size)
   clear hb3
   clear hcn hlk c0 c1
   go_wp2_with fail
   go_loopw [4, 8, 34] (fun nv ov jv wi => InRel r.file keep (crashN keep s.files k) wo.heap.size wo AL nv ov jv wi) (fun _ _ jv _ => (loose r.file).length - (intOf jv).toNat)
   case atStart => exact ⟨0, crashN keep s.files k, Nat.zero_le _, rfl, rfl, rfl, by rw [keptTo_zero]; exact HOWN3.out, HB3.out, HLL.out⟩
   case round =>
    obtain ⟨j, m, hj, rfl, rfl, hm, hown, hbw, hLw⟩ := hrel
    have hm2 : m ≤ 600000 := by omega
    have HM := Lib.hid hm; clear hm
    have HOWN := Lib.hid hown; clear hown
    have HBW := Lib.hid hbw; clear hbw
    have HLW := Lib.hid hLw; clear hLw
    by_cases hjl : j < (loose r.file).length
    ·obtain ⟨bl, ol, rfl, hcl⟩ := HLW.out.at hjl
     have hil := loose_lt (List.getElem_mem hjl)
     unfold fN at hcl
     have hbi := HB.out.below HBW.out HB.out.lt
     have c0 : wr.cell? ⟨r.fb, 0, none⟩ = some (.slice r.A r.file.now.length r.c) := hbi.cell 0
     clear hbi
     have hAw := hA.sl.below HBW.out
     by_cases hky : m < keep.length ∧ keep.getD m false = true
     ·obtain ⟨hky1, hky2⟩ := hky
      obtain ⟨bk, ok, rfl, hck⟩ := (HKP.out.below HBW.out).at hky1
      have hkv : keep[m] = true := by rw [List.getD_eq_getElem?_getD, List.getElem?_eq_getElem hky1] at hky2; exact hky2
      rw [hkv] at hck; unfold fBool at hck
      clear hkv
      have HKY : Hid (keep.getD m false = true) := hky2
      clear hky2
      obtain ⟨i, hi⟩ : ∃ i, i = (loose r.file)[j] := ⟨_, rfl⟩
      rw [← hi] at hcl hil
      obtain ⟨out, hout⟩ : ∃ out, out = (keptTo r.file keep (crashN keep s.files k) j).1 := ⟨_, rfl⟩
      rw [← hout] at HOWN
      have hol : out.length ≤ 65536 := by rw [hout]; exact Nat.le_trans (keptTo_len hj) (by omega)
      have hsle := sector_len_le r.file.now i hil
      have hsl32 : (sector r.file.now i).length ≤ 65536 := by omega
      have HSTEP : Hid ((keptTo r.file keep (crashN keep s.files k) (j + 1)).1 = over (out ++ List.replicate (i * 32 - out.length) 0) (i * 32) (sector r.file.now i)) := by
       show _ = _; rw [keptTo_step_yes hjl (by rw [← HM.out]; exact HKY.out), ← hi, ← hout]
      clear hi hout
      obtain ⟨A3, c3, rfl⟩ := HOWN.out.form
      have hP := part_any r.A r.c r.file.now i (by omega) hc1 hc2
      unfold partV at hP
      have HP := Lib.hid hP; clear hP
      by_cases hg : out.length < i * 32 + (sector r.file.now i).length
      ·obtain ⟨q, hq⟩ : ∃ q, i * 32 + (sector r.file.now i).length = out.length + q := ⟨i * 32 + (sector r.file.now i).length - out.length, by omega⟩
       have r1 : (i : Int) * 32 + (sector r.file.now i).length - out.length = q := by omega
       have hq0 : 0 < q := by omega
       have hq1 : out.length + q ≤ 65536 := by omega
       have hq2 : i * 32 ≤ out.length + q := by omega
       have HQ := Lib.hid hq; clear hq hg
       go_wp2_with (first | (go_at_call 42; (with_reducible refine (HP.out _).mono ?_); rintro e w' ⟨rfl, rfl⟩) | (at_builtin; refine wpList_append0t (f := fB) rfl (.tmp 64) (.tmp 65) 28 3 rfl (0 : UInt8) u8T Tryz.underlying3 rfl rfl rfl HOWN.out (k := q) rfl hq0 (by unfold maxLen; omega) (by omega) HBW.out.size ?_; intro v4 w4 hown4 hg4; have hb4 := HOWN.out.below_ HBW.out.size hg4; obtain ⟨A4, c4, rfl⟩ := hown4.form; have hcut := cut_l (P := Tryz.prog) (t := 28) Tryz.underlying28 bytesSize A4 (out.length + q) c4 (i * 32) ((i : Int) * 32) (by omega) hq2) | (refine wpList_copyt (f := fB) rfl (.tmp 70) (.tmp 71) 28 rfl u8T fB_one hown4 (off := i * 32) rfl (fun h => hown4.cutAt (by simp at h ⊢; omega)) rfl ((hA.sl.below (HBW.out.trans hb4)).sector hc1 i) (by have := HQ.out; omega) (by have := HQ.out; simp; omega) ?_; intro w5 hown5 hg5))
       go_roundw
       case rel =>
        have h5 := hown5
        rw [List.length_append, List.length_replicate] at h5
        rw [kept_grown HQ.out] at h5
        exact ⟨j + 1, m + 1, by omega, by go_num, by go_num, by have := HM.out; omega, by rw [HSTEP.out]; exact h5, (HBW.out.trans hb4).trans (hown4.below_ (Nat.le_trans HBW.out.size hg4.size) hg5), (HLW.out.apart HOWN.out (by decide) hg4).apart hown4 (by decide) hg5⟩
       case measure => simp [intOf]; omega
      ·have hng : ¬ (0 : Int) < (i : Int) * 32 + (sector r.file.now i).length - out.length := by omega
       have hcut := cut_l (P := Tryz.prog) (t := 28) Tryz.underlying28 bytesSize A3 out.length c3 (i * 32) ((i : Int) * 32) (by omega) (by omega)
       have HG := Lib.hid hg; clear hg
       go_wp2_with (first | (go_at_call 42; (with_reducible refine (HP.out _).mono ?_); rintro e w' ⟨rfl, rfl⟩) | (refine wpList_copyt (f := fB) rfl (.tmp 70) (.tmp 71) 28 rfl u8T fB_one HOWN.out (off := i * 32) rfl (fun h => HOWN.out.cutAt h) rfl (hAw.sector hc1 i) (by have := HG.out; omega) (by have := HG.out; omega) ?_; intro w5 hown5 hg5))
       go_roundw
       case rel =>
        have h5 := hown5
        rw [kept_room (by have := HG.out; omega)] at h5
        exact ⟨j + 1, m + 1, by omega, by go_num, by go_num, by have := HM.out; omega, by rw [HSTEP.out]; exact h5, HBW.out.trans (HOWN.out.below_ HBW.out.size hg5), HLW.out.apart HOWN.out (by decide) hg5⟩
       case measure => simp [intOf]; omega
     ·have HNO : Hid (keep.getD m false = false) := by
       by_cases h1 : m < keep.length
       ·have : ¬ keep.getD m false = true := fun h2 => hky ⟨h1, h2⟩
        show _ = _; simpa using this
       ·show _ = _; rw [List.getD_eq_getElem?_getD, List.getElem?_eq_none (by omega)]; rfl
      by_cases hky1 : m < keep.length
      ·obtain ⟨bk, ok, rfl, hck⟩ := (HKP.out.below HBW.out).at hky1
       have hkv : keep[m] = false := by
        have := HNO.out
        rw [List.getD_eq_getElem?_getD, List.getElem?_eq_getElem hky1] at this; exact this
       rw [hkv] at hck; unfold fBool at hck
       clear hkv hky
       go_wp2_with fail
       go_roundw
       case rel => exact ⟨j + 1, m + 1, by omega, by go_num, by go_num, by have := HM.out; omega, by rw [keptTo_step_no hjl (by rw [← HM.out]; exact HNO.out)]; exact HOWN.out, HBW.out, HLW.out⟩
       case measure => simp [intOf]; omega
      ·clear hky
       go_wp2_with fail
       go_roundw
       case rel => exact ⟨j + 1, m + 1, by omega, by go_num, by go_num, by have := HM.out; omega, by rw [keptTo_step_no hjl (by rw [← HM.out]; exact HNO.out)]; exact HOWN.out, HBW.out, HLW.out⟩
       case measure => simp [intOf]; omega
    ·have hjj : j = (loose r.file).length := by omega
     have HJ := Lib.hid hjj; clear hjj
     obtain ⟨out, hout⟩ : ∃ out, out = (keptTo r.file keep (crashN keep s.files k) j).1 := ⟨_, rfl⟩
     rw [← hout] at HOWN
     have hol : out.length ≤ 65536 := by rw [hout]; exact Nat.le_trans (keptTo_len hj) (by omega)
     have hok : okLen out.length := by unfold okLen; omega
     have HOK := Lib.hid hok; clear hok
     have HKB : Hid (out = (keptBytes s.files[k] keep (crashN keep s.files k)).1) := by show _ = _; rw [hout, HJ.out, keptTo_all, HRF.out]
     have HNN : Hid (crashN keep s.files (k + 1) = m) := by show _ = _; rw [crashN_succ hlt, keptBytes_snd, HM.out, HJ.out, HRF.out]
     clear hout
     obtain ⟨A3, c3, rfl⟩ := HOWN.out.form
     have hAo : Sl fB wr A3 out := HOWN.out.sl.2
     have hbi := HB.out.below HBW.out HB.out.lt
     have HBI := Lib.hid hbi; clear hbi
     go_wp2_with fail
     (with_reducible refine (Clone_any _ _ _ HOK.out _ hAo).mono ?_); rintro x w6 ⟨⟨A6, c6, rfl, hown6⟩, hb6⟩
     have HOWN6 := Lib.hid hown6; clear hown6
     have HB6 := Lib.hid hb6; clear hb6
     have HBX : Hid (Blk w6 r.fb 83 r.cells) := HBI.out.below HB6.out HBI.out.lt
     have c0 : w6.cell? ⟨r.fb, 0, none⟩ = some (.slice r.A r.file.now.length r.c) := HBX.out.cell 0
     have c1 : w6.cell? ⟨r.fb, 1, none⟩ = some (.slice r.B r.file.safe.length r.d) := HBX.out.cell 1
     have f0 := HBX.out.free 0
     have f1 := HBX.out.free 1
     go_wp2_with fail
     go_roundw
     case rel =>
      have hbz : Below wo.heap.size wo w6 := HBW.out.trans (HB6.out.mono HBW.out.size)
      have hwz : w.heap.size ≤ wo.heap.size := HFR.out.size
      have hAz : SlB fB 5 (up F w) w6 A3 out := (SlB.of_own (HOWN.out.below HB6.out)).2.mono (fun g _ hg => .inr (Nat.le_trans hwz hg))
      have hBz : SlB fB 5 (up F w) w6 A6 out := (SlB.of_own HOWN6.out).2.mono (fun g _ hg => .inr (Nat.le_trans (Nat.le_trans hwz HBW.out.size) hg))
      obtain ⟨rs', hrep'⟩ := (HREP.out.below hbz).setFile2 HR.out hol hAz hBz ⟨HOWN.out.cap.1, HOWN.out.cap.2, HOWN6.out.cap.1, HOWN6.out.cap.2⟩
      have hfn : r.fb < w.heap.size → F r.fb := fun h => hF.elim id (fun h2 => absurd h (by omega))
      have e1 := crashAt_succ (keep := keep) HSO.out hlt
      rw [← HKB.out] at e1
      rw [show ({ files := crashAt keep s.files k, down := s.down, fuse := s.fuse } : S).files = crashAt keep s.files k from rfl, e1] at hrep'
      have hb2 := HBX.out.set_ 0 (.slice A3 out.length c3)
      exact ⟨k + 1, rs', by omega, by go_num, by rw [HNN.out], by rw [HNN.out]; have := HM.out; have := HJ.out; omega, hrep', ((HFR.out.then_below hbz).setCell (p := ⟨r.fb, 0, none⟩) hfn _).setCell (p := ⟨r.fb, 1, none⟩) hfn _,
       ((HKP.out.below hbz).far2 HBX.out (hG.imp id (fun h => h _ hF)) 0 _).far2 hb2 (hG.imp id (fun h => h _ hF)) 1 _, ((HNM.out.below hbz).far HBX.out (by decide) 0 _).far hb2 (by decide) 1 _⟩
     case measure => simp [intOf]; omega
  ·have hkn : ¬ k < (snames s).length := by rw [HSL.out]; exact hlt
   have hkk : k = s.files.length := by omega
   have HKK := Lib.hid hkk; clear hkk
   have c1 : wr.cell? ⟨p, 1, none⟩ = some (.bool s.down) := HREP.out.blk.cell 1
   have c2 : wr.cell? ⟨p, 2, none⟩ = some (.int .i64 s.fuse) := HREP.out.blk.cell 2
   have f1 := HREP.out.blk.free 1
   have f2 := HREP.out.blk.free 2
   go_wp2_with fail
   go_end0
   refine ⟨rfl, ?_, (HFR.out.setCell (p := ⟨p, 1, none⟩) (fun _ => H.out.inP) _).setCell (p := ⟨p, 2, none⟩) (fun _ => H.out.inP) _⟩
   have h1 := HREP.out.setHead (s' := ⟨crashAt keep s.files k, false, s.fuse⟩) 1 (.bool false) rfl HREP.out.fuse rfl
   have h2 := h1.setHead (s' := ⟨crashAt keep s.files k, false, 0⟩) 2 (.int .i64 0) rfl (Nat.zero_le _) rfl
   rw [HKK.out] at h2
   rw [crash_eq]
   exact ⟨mb, rs, h2⟩
end Go.Proofs.YtifgajinfcihmaaGreatDoor
namespace Go.Proofs.YtifgajinfcihmaaGreatDoor
open Go.RowKit Go.Maps Mem Dsk
def hi (B : Nat) : Nat → Prop := fun g => B ≤ g
def s0 : S := ⟨[], false, 0⟩
structure D (B p : Nat) (s : S) (w : World) : Prop where
 at_ : DiskAt (hi B) w p s
 le : B ≤ w.heap.size
theorem D.ge {B p : Nat} {s : S} {w : World} (h : D B p s w) : B ≤ p := by obtain ⟨mb, rs, h⟩ := h.at_; exact h.inP
theorem D.lt {B p : Nat} {s : S} {w : World} (h : D B p s w) : p < w.heap.size := by obtain ⟨mb, rs, h⟩ := h.at_; exact h.blk.lt
theorem D.below {B p : Nat} {s : S} {w w' : World} (h : D B p s w) (hb : Below w.heap.size w w') : D B p s w' := by
 obtain ⟨mb, rs, h0⟩ := h.at_; exact ⟨⟨mb, rs, h0.below hb⟩, Nat.le_trans h.le hb.size⟩
theorem D.of_up {B p : Nat} {s : S} {w w' : World} (hB : B ≤ w.heap.size) (h : DiskAt (up (hi B) w) w' p s) (hs : w.heap.size ≤ w'.heap.size) : D B p s w' := by
 obtain ⟨mb, rs, h⟩ := h
 exact ⟨⟨mb, rs, h.mono (fun g _ hg => hg.elim id (fun h => Nat.le_trans hB h))⟩, Nat.le_trans hB hs⟩
theorem below_of_frm {B : Nat} {w w' : World} (h : Frm (hi B) w w') (hB : B ≤ w.heap.size) : Below B w w' := h.to_below (fun _k _ hk hf => absurd hk (Nat.not_lt.2 hf)) hB
def Post (B p : Nat) (s' : S) (k : Int) (w : World) (e : Ending) (w' : World) : Prop := e = .returned (.int .i64 k) ∧ D B p s' w' ∧ Below B w w'
theorem Post.of {B p : Nat} {res : S × Nat} {s' : S} {k : Nat} {ki : Int} {w w' : World} {e : Ending} (hB : B ≤ w.heap.size) (hr : res = (s', k)) (hk : (k : Int) = ki) (h : OpPost (hi B) p res w e w') : Post B p s' ki w e w' := by
 obtain ⟨he, hd, hf⟩ := h
 subst hr; subst hk
 exact ⟨he, D.of_up hB hd hf.size, below_of_frm hf hB⟩
section
variable {B p : Nat} {s : S} {w : World}
theorem L_New (w : World) (B : Nat) (hB : B ≤ w.heap.size) : Calls Tryz.prog 10 #[] w fun e w' => ∃ p, e = .returned (.pointer (some ⟨p, 0, none⟩)) ∧ D B p s0 w' ∧ w.heap.size ≤ p ∧ Below w.heap.size w w' :=
 (New_any w).mono fun e w' ⟨p, he, hd, hb⟩ => by
  obtain ⟨mb, rs, h⟩ := hd
  exact ⟨p, he, ⟨⟨mb, rs, h.mono (fun g _ hg => Nat.le_trans hB hg)⟩, Nat.le_trans hB hb.size⟩, h.inP, hb⟩
theorem L_Create (h : D B p s w) (n : ByteArray) (hn : n.size ≤ maxLen) {s' : S} {k : Nat} {ki : Int} (hr : Dsk.create s (sname n) = (s', k)) (hk : (k : Int) = ki) :
 Calls Tryz.prog 13 #[.pointer (some ⟨p, 0, none⟩), .string n] w (Post B p s' ki w) := (Create_any h.at_ n hn).mono fun _ _ hp => Post.of h.le hr hk hp
theorem L_Write (h : D B p s w) (n : ByteArray) (hn : n.size ≤ maxLen) (at_ : Int) (hat : (Lit.int .i64 at_).wf = true) {A : Option Addr} {c : Nat} {bs : List UInt8} {te : TypeId} {G : Nat → Prop} (hbs : SlB fB te G w A bs) (hG : ¬ G p)
 {s' : S} {k : Nat} {ki : Int} (hr : Dsk.write s (sname n) at_ bs = (s', k)) (hk : (k : Int) = ki) :
 Calls Tryz.prog 14 #[.pointer (some ⟨p, 0, none⟩), .string n, .int .i64 at_, .slice A bs.length c] w (Post B p s' ki w) := (Write_any h.at_ n hn at_ hat A c bs hbs hG).mono fun _ _ hp => Post.of h.le hr hk hp
theorem L_Crash (h : D B p s w) {K : Option Addr} {c : Nat} {keep : List Bool} {te : TypeId} {G : Nat → Prop} (hk : SlB fBool te G w K keep) (hG : te ≠ 83 ∨ ∀ g, G g → g < B) {s' : S} (h1 : Dsk.crash s keep = s') :
 Calls Tryz.prog 15 #[.pointer (some ⟨p, 0, none⟩), .slice K keep.length c] w fun e w' => e = .returned (.tuple #[]) ∧ D B p s' w' ∧ Below B w w' := by
 refine (Crash_any h.at_ K c keep hk (hG.imp id (fun h1 g hu hg => ?_))).mono ?_
 ·have h2 := h1 g hg
  have h3 := h.le
  rcases hu with hu | hu
  ·have : B ≤ g := hu; omega
  ·omega
 ·rintro e w' ⟨he, hd, hf⟩
  subst h1
  exact ⟨he, D.of_up h.le hd hf.size, below_of_frm hf h.le⟩
theorem L_Read (h : D B p s w) (n : ByteArray) (hn : n.size ≤ maxLen) {bs : List UInt8} {k : Nat} {ki : Int} (hr : Dsk.read s (sname n) = (bs, k)) (hk : (k : Int) = ki) :
 Calls Tryz.prog 54 #[.pointer (some ⟨p, 0, none⟩), .string n] w fun e w' => ∃ A c, e = .returned (.tuple #[.slice A bs.length c, .int .i64 ki]) ∧ SlB fB 5 (fun g => w.heap.size ≤ g) w' A bs ∧ bs.length ≤ c ∧ c ≤ maxLen ∧ D B p s w' ∧ Below w.heap.size w w' :=
 (Read_any h.at_ n hn).mono fun e w' ⟨A, c, he, hs, hc, hc2, hd, hb⟩ => by
  rw [hr] at he hs hc; subst hk
  exact ⟨A, c, he, hs, hc, hc2, ⟨hd, Nat.le_trans h.le hb.size⟩, hb⟩
theorem L_Names (h : D B p s w) : Calls Tryz.prog 40 #[.pointer (some ⟨p, 0, none⟩)] w fun e w' => ∃ A c, e = .returned (.slice A (snames s).length c) ∧ SlB encStr 9 (fun g => w.heap.size ≤ g) w' A (snames s) ∧ D B p s w' ∧ Below w.heap.size w w' :=
 (Names_any h.at_).mono fun _e _w' ⟨A, c, he, ho, hb⟩ => ⟨A, c, he, (SlB.of_own ho).2, h.below hb, hb⟩
theorem L_Down (h : D B p s w) {k : Bool} (h1 : s.down = k) : Calls Tryz.prog 43 #[.pointer (some ⟨p, 0, none⟩)] w fun e w' => e = .returned (.bool k) ∧ w = w' := by
 subst h1; exact Down_any h.at_
end
end Go.Proofs.YtifgajinfcihmaaGreatDoor
namespace Go.Proofs.YtifgajinfcihmaaGreatDoor
open Go.RowKit Go.Maps Mem Dsk
def hiX (G : Nat → Prop) (B : Nat) : Nat → Prop := fun g => B ≤ g ∧ ¬ G g
structure DX (G : Nat → Prop) (B p : Nat) (s : S) (w : World) : Prop where
 at_ : DiskAt (hiX G B) w p s
 le : B ≤ w.heap.size
 old : ∀ g, G g → g < w.heap.size
section
variable {G : Nat → Prop} {B p : Nat} {s : S} {w w' : World}
theorem DX.drop (h : DX G B p s w) : D B p s w := by
 obtain ⟨mb, rs, h0⟩ := h.at_
 exact ⟨⟨mb, rs, h0.mono (fun _ _ hg => hg.1)⟩, h.le⟩
theorem DX.lt (h : DX G B p s w) : p < w.heap.size := h.drop.lt
theorem DX.below (h : DX G B p s w) (hb : Below w.heap.size w w') : DX G B p s w' := by
 obtain ⟨mb, rs, h0⟩ := h.at_
 exact ⟨⟨mb, rs, h0.below hb⟩, Nat.le_trans h.le hb.size, fun g hg => Nat.lt_of_lt_of_le (h.old g hg) hb.size⟩
theorem D.protect (h : D B p s w) (hb : Below w.heap.size w w') (hG : ∀ g, G g → w.heap.size ≤ g ∧ g < w'.heap.size) : DX G B p s w' := by
 obtain ⟨mb, rs, h0⟩ := h.at_
 exact ⟨⟨mb, rs, (h0.mono (fun g hl hg => ⟨hg, fun hg2 => absurd hl (Nat.not_lt.2 (hG g hg2).1)⟩)).below hb⟩, Nat.le_trans h.le hb.size, fun g hg => (hG g hg).2⟩
theorem DX.weaken {F : Nat → Prop} (h : DX G B p s w) (hF : ∀ g, F g → G g) : DX F B p s w := by
 obtain ⟨mb, rs, h0⟩ := h.at_
 exact ⟨⟨mb, rs, h0.mono (fun _ _ hg => ⟨hg.1, fun hf => hg.2 (hF _ hf)⟩)⟩, h.le, fun g hg => h.old g (hF g hg)⟩
theorem DX.protect {G2 : Nat → Prop} (h : DX G B p s w) (hb : Below w.heap.size w w') (hG : ∀ g, G2 g → w.heap.size ≤ g ∧ g < w'.heap.size) : DX (fun g => G g ∨ G2 g) B p s w' := by
 obtain ⟨mb, rs, h0⟩ := h.at_
 exact ⟨⟨mb, rs, (h0.mono (fun g hl hg => ⟨hg.1, fun hg2 => hg2.elim hg.2 (fun h3 => absurd hl (Nat.not_lt.2 (hG g h3).1))⟩)).below hb⟩, Nat.le_trans h.le hb.size, fun g hg => hg.elim (fun h1 => Nat.lt_of_lt_of_le (h.old g h1) hb.size) (fun h1 => (hG g h1).2)⟩
def Kept (G : Nat → Prop) (w w' : World) : Prop := ∀ g, G g → w'.heap[g]? = w.heap[g]?
theorem Mem.SlB.kept {α : Type} {f : α → Value} {e : TypeId} {F : Nat → Prop} {A : Option Addr} {xs : List α} (h : SlB f e F w A xs) (hk : Kept G w w') (hF : ∀ g, F g → G g) : SlB f e F w' A xs := SlB.keep h (fun g _ _ hg _ => hk g (hF g hg))
def PostX (G : Nat → Prop) (B p : Nat) (s' : S) (k : Int) (w : World) (e : Ending) (w' : World) : Prop := e = .returned (.int .i64 k) ∧ DX G B p s' w' ∧ Below B w w' ∧ Kept G w w'
theorem DX.of_up {G : Nat → Prop} (hB : B ≤ w.heap.size) (hG : ∀ g, G g → g < w.heap.size) (h : DiskAt (up (hiX G B) w) w' p s) (hs : w.heap.size ≤ w'.heap.size) : DX G B p s w' := by
 obtain ⟨mb, rs, h⟩ := h
 exact ⟨⟨mb, rs, h.mono (fun g _ hg => hg.elim id (fun h => ⟨Nat.le_trans hB h, fun h2 => absurd (hG g h2) (Nat.not_lt.2 h)⟩))⟩, Nat.le_trans hB hs, fun g hg => Nat.lt_of_lt_of_le (hG g hg) hs⟩
theorem frmX (hB : B ≤ w.heap.size) (hG : ∀ g, G g → g < w.heap.size) (h : Frm (hiX G B) w w') : Below B w w' ∧ Kept G w w' :=
 ⟨h.to_below (fun _k _ hk hf => absurd hk (Nat.not_lt.2 hf.1)) hB, fun g hg => h.block g (hG g hg) (fun hf => hf.2 hg)⟩
theorem PostX.of {res : S × Nat} {s' : S} {k : Nat} {ki : Int} {e : Ending} (h0 : DX G B p s w) (hr : res = (s', k)) (hk : (k : Int) = ki) (h : OpPost (hiX G B) p res w e w') : PostX G B p s' ki w e w' := by
 obtain ⟨he, hd, hf⟩ := h
 subst hr; subst hk
 have h2 := frmX h0.le h0.old hf
 exact ⟨he, DX.of_up h0.le h0.old hd hf.size, h2.1, h2.2⟩
theorem X_Create (h : DX G B p s w) (n : ByteArray) (hn : n.size ≤ maxLen) {s' : S} {k : Nat} {ki : Int} (hr : Dsk.create s (sname n) = (s', k)) (hk : (k : Int) = ki) :
 Calls Tryz.prog 13 #[.pointer (some ⟨p, 0, none⟩), .string n] w (PostX G B p s' ki w) := (Create_any h.at_ n hn).mono fun _ _ hp => PostX.of h hr hk hp
theorem X_Write (h : DX G B p s w) (n : ByteArray) (hn : n.size ≤ maxLen) (at_ : Int) (hat : (Lit.int .i64 at_).wf = true) {A : Option Addr} {c : Nat} {bs : List UInt8} {te : TypeId} {F : Nat → Prop} (hbs : SlB fB te F w A bs) (hG : ¬ F p)
 {s' : S} {k : Nat} {ki : Int} (hr : Dsk.write s (sname n) at_ bs = (s', k)) (hk : (k : Int) = ki) :
 Calls Tryz.prog 14 #[.pointer (some ⟨p, 0, none⟩), .string n, .int .i64 at_, .slice A bs.length c] w (PostX G B p s' ki w) := (Write_any h.at_ n hn at_ hat A c bs hbs hG).mono fun _ _ hp => PostX.of h hr hk hp
theorem X_Remove (h : DX G B p s w) (n : ByteArray) (hn : n.size ≤ maxLen) {s' : S} {k : Nat} {ki : Int} (hr : Dsk.remove s (sname n) = (s', k)) (hk : (k : Int) = ki) :
 Calls Tryz.prog 59 #[.pointer (some ⟨p, 0, none⟩), .string n] w (PostX G B p s' ki w) := (Remove_any h.at_ n hn).mono fun _ _ hp => PostX.of h hr hk hp
theorem X_Cut (h : DX G B p s w) (n : ByteArray) (hn : n.size ≤ maxLen) (at_ : Int) (hat : (Lit.int .i64 at_).wf = true) {s' : S} {k : Nat} {ki : Int} (hr : Dsk.cut s (sname n) at_ = (s', k)) (hk : (k : Int) = ki) :
 Calls Tryz.prog 60 #[.pointer (some ⟨p, 0, none⟩), .string n, .int .i64 at_] w (PostX G B p s' ki w) := (Cut_any h.at_ n hn at_ hat).mono fun _ _ hp => PostX.of h hr hk hp
theorem X_Sync (h : DX G B p s w) (n : ByteArray) (hn : n.size ≤ maxLen) {s' : S} {k : Nat} {ki : Int} (hr : Dsk.sync s (sname n) = (s', k)) (hk : (k : Int) = ki) :
 Calls Tryz.prog 46 #[.pointer (some ⟨p, 0, none⟩), .string n] w (PostX G B p s' ki w) := (Sync_any h.at_ n hn).mono fun _ _ hp => PostX.of h hr hk hp
theorem X_Crash (h : DX G B p s w) {K : Option Addr} {c : Nat} {keep : List Bool} {te : TypeId} {F : Nat → Prop} (hk : SlB fBool te F w K keep) (hG : te ≠ 83 ∨ ∀ g, F g → g < B) {s' : S} (h1 : Dsk.crash s keep = s') :
 Calls Tryz.prog 15 #[.pointer (some ⟨p, 0, none⟩), .slice K keep.length c] w fun e w' => e = .returned (.tuple #[]) ∧ DX G B p s' w' ∧ Below B w w' ∧ Kept G w w' := by
 refine (Crash_any h.at_ K c keep hk (hG.imp id (fun h1 g hu hg => ?_))).mono ?_
 ·have h2 := h1 g hg
  have h3 := h.le
  rcases hu with hu | hu
  ·have : B ≤ g := hu.1; omega
  ·omega
 ·rintro e w' ⟨he, hd, hf⟩
  subst h1
  have h2 := frmX h.le h.old hf
  exact ⟨he, DX.of_up h.le h.old hd hf.size, h2.1, h2.2⟩
end
end Go.Proofs.YtifgajinfcihmaaGreatDoor
