/- Layer 7: the walk of Open. -/
import Derived.Test.YtfpomllhkbbipaaGreatHdW
import Derived.Deep.DeepCutAuto
import Derived.Deep.CutBlock
namespace Go.Proofs.YtfpomllhkbbipaaGreat
open Go Go.RowKit Go.Maps Go.Lib Mem Pk Dsk Hd

/-- a hard in the block hb, over the disk p; the blocks of G are left alone -/
structure HAt (G : Nat → Prop) (B p hb : Nat) (s : S) (tv : Int × Int) (w : World) : Prop where
  dx : DX (fun g => G g ∨ g = hb) B p s w
  blk : Blk w hb 62 #[.pointer (some ⟨p, 0, none⟩), .int .i64 tv.1, .int .i64 tv.2]
  big : B ≤ hb
  notG : ¬ G hb
theorem HAt.below {G : Nat → Prop} {B p hb : Nat} {s : S} {tv : Int × Int} {w w' : World} (h : HAt G B p hb s tv w) (hw : Below w.heap.size w w') : HAt G B p hb s tv w' := ⟨h.dx.below hw, h.blk.below hw h.blk.lt, h.big, h.notG⟩
/-- what Open leaves -/
def HOpenP (G : Nat → Prop) (B p : Nat) (s : S) (w : World) (e : Ending) (w' : World) : Prop :=
  Below B w w' ∧ Kept G w w' ∧
  ((openH s).2.2 ≠ 0 → e = .returned (.tuple #[.pointer none, .int .i64 ((openH s).2.2 : Int)]) ∧ DX G B p (openH s).1 w') ∧
  ((openH s).2.2 = 0 → ∃ hb, e = .returned (.tuple #[.pointer (some ⟨hb, 0, none⟩), .int .i64 0]) ∧ HAt G B p hb (openH s).1 (openH s).2.1 w')
theorem find_names {n : Name} {s : S} : (find n s.files).isSome = decide (n ∈ snames s) := by
  unfold snames find
  rw [Bool.eq_iff_iff, List.find?_isSome, decide_eq_true_iff, List.mem_map]
  constructor
  · rintro ⟨f, hf, e⟩; exact ⟨f, hf, by simpa using e⟩
  · rintro ⟨f, hf, e⟩; exact ⟨f, hf, by simpa using e⟩
theorem dx_in {G F : Nat → Prop} {B p : Nat} {s : S} {w w' : World} (h : DX G B p s w) (hf : Frm F w w') (hF : ∀ g, F g → G g) : DX G B p s w' := by
  obtain ⟨mb, rs, h0⟩ := h.at_
  exact ⟨⟨mb, rs, h0.frm hf (fun g hg e => hg.2 (hF g e))⟩, Nat.le_trans h.le hf.size, fun g hg => Nat.lt_of_lt_of_le (h.old g hg) hf.size⟩
theorem kept_below {G : Nat → Prop} {w w' : World} (hG : ∀ g, G g → g < w.heap.size) (hb : Below w.heap.size w w') : Kept G w w' := fun g hg => hb.block g (hG g hg)
theorem Kept.trans_ {G : Nat → Prop} {a b c : World} (h : Kept G a b) (k : Kept G b c) : Kept G a c := fun g hg => (k g hg).trans (h g hg)
theorem openH_down {s : S} (h : s.down = true) : openH s = (s, (0, 0), 50) := by unfold openH; rw [if_pos h]
theorem openH_bad {s : S} {s1 : S} {k : Nat} (h : s.down = false) (h1 : (if decide (nmT ∈ snames s) then remove s nmT else (s, 0)) = (s1, k)) (hk : k ≠ 0) : openH s = (s1, (0, 0), k) := by
  unfold openH
  rw [if_neg (by rw [h]; decide), find_names]
  simp only [h1]
  rw [if_pos hk]
theorem openH_no {s : S} {s1 : S} (h : s.down = false) (h1 : (if decide (nmT ∈ snames s) then remove s nmT else (s, 0)) = (s1, 0)) (h2 : decide (nmH ∈ snames s) = false) : openH s = (s1, (0, 0), 0) := by
  unfold openH
  rw [if_neg (by rw [h]; decide), find_names, find_names]
  simp only [h1, h2]
  simp
theorem openH_yes {s : S} {s1 : S} {bs : List UInt8} {c : Nat} (h : s.down = false) (h1 : (if decide (nmT ∈ snames s) then remove s nmT else (s, 0)) = (s1, 0)) (h2 : decide (nmH ∈ snames s) = true) (h3 : Dsk.read s1 nmH = (bs, c)) : openH s = (s1, readH bs, 0) := by
  unfold openH
  rw [if_neg (by rw [h]; decide), find_names, find_names]
  simp only [h1, h2, h3]
  simp
def OMid (G : Nat → Prop) (B p : Nat) (w w1 : World) (s : S) (wx : World) : Prop :=
  ∃ s1, (if decide (nmT ∈ snames s) then remove s nmT else (s, 0)) = (s1, 0) ∧ DX (fun g => G g ∨ (w.heap.size ≤ g ∧ g < w1.heap.size)) B p s1 wx ∧ Below B w1 wx ∧ Kept (fun g => G g ∨ (w.heap.size ≤ g ∧ g < w1.heap.size)) w1 wx
theorem sz_nmT : (⟨#[104, 97, 114, 100, 46, 116, 109, 112]⟩ : ByteArray).size ≤ maxLen := by unfold maxLen; decide
theorem sz_nmH : (⟨#[104, 97, 114, 100]⟩ : ByteArray).size ≤ maxLen := by unfold maxLen; decide
/-- reading the file of a disk that is up: it is there -/
theorem read_there {s1 : S} (hd : s1.down = false) (hm : nmH ∈ snames s1) : ∃ bs, Dsk.read s1 nmH = (bs, 0) := by
  have h : (find nmH s1.files).isSome = true := by rw [find_names]; exact decide_eq_true hm
  cases hf : find nmH s1.files with
  | none => rw [hf] at h; cases h
  | some f => exact ⟨f.now, by unfold Dsk.read; simp only [look_found hd nmH_ok hf]⟩
theorem hstep_files (s : S) : (Dsk.step s).files = s.files := by unfold Dsk.step; split <;> rfl
theorem remove_keeps {s s1 : S} (h : (if decide (nmT ∈ snames s) then remove s nmT else (s, 0)) = (s1, 0)) (hd : s.down = false) : s1.down = false ∧ (nmH ∈ snames s → nmH ∈ snames s1) := by
  by_cases hm : nmT ∈ snames s
  · rw [if_pos (decide_eq_true hm)] at h
    unfold remove at h
    cases hf : find nmT (Dsk.step s).files with
    | none =>
      rw [hstep_files] at hf
      have : (find nmT s.files).isSome = true := by rw [find_names]; exact decide_eq_true hm
      rw [hf] at this; cases this
    | some f =>
      cases hdn : (Dsk.step s).down with
      | true => simp only [look_down hdn] at h; cases h
      | false =>
        simp only [look_found hdn nmT_ok hf] at h
        injection h with h1 h2
        subst h1
        refine ⟨hdn, fun hh => ?_⟩
        unfold snames at hh ⊢
        obtain ⟨g, hg, e⟩ := List.mem_map.1 hh
        refine List.mem_map.2 ⟨g, ?_, e⟩
        show g ∈ del nmT (Dsk.step s).files
        rw [hstep_files]
        unfold del
        rw [List.mem_filter]
        exact ⟨hg, by rw [e]; decide⟩
  · rw [if_neg (by simpa using hm)] at h
    injection h with h1 h2
    subst h1
    exact ⟨hd, id⟩
set_option maxRecDepth 100000 in
set_option maxHeartbeats 2000000 in
theorem hOpen_any {G : Nat → Prop} {B p : Nat} {s : S} {w : World} (hx : DX G B p s w) :
    Calls Tryz.prog 6 #[.pointer (some ⟨p, 0, none⟩)] w (HOpenP G B p s w) := by
  have HX := Lib.hid hx
  cases hdn : s.down with
  | true =>
    have HD := Lib.hid (L_Down hx.drop hdn)
    have HO := Lib.hid (openH_down hdn)
    clear hx hdn
    go_enter Tryz.func6, Tryz.ntmps6
    go_wp2_with fail
    (with_reducible refine HD.out.mono ?_); rintro e w' ⟨rfl, rfl⟩
    go_wp2_with fail
    go_ret2
    unfold HOpenP
    rw [HO.out]
    exact ⟨Below.refl _ _, fun _ _ => rfl, fun _ => ⟨rfl, HX.out⟩, fun h => by simp at h⟩
  | false =>
    have HD := Lib.hid (L_Down hx.drop hdn)
    have HDN := Lib.hid hdn
    have HNM := Lib.hid (L_Names hx.drop)
    obtain ⟨q, hq⟩ : ∃ z, z = decide (nmT ∈ snames s) := ⟨_, rfl⟩
    obtain ⟨r, hr⟩ : ∃ z, z = decide (nmH ∈ snames s) := ⟨_, rfl⟩
    have HQ := Lib.hid hq
    have HR := Lib.hid hr
    clear hx hdn hq hr
    go_enter Tryz.func6, Tryz.ntmps6
    go_wp2_with fail
    (with_reducible refine HD.out.mono ?_); rintro e w' ⟨rfl, rfl⟩
    go_wp2_with fail
    (with_reducible refine HNM.out.mono ?_); rintro e w1 ⟨A1, c1, rfl, hs1, -, hb1⟩
    have HX1 := Lib.hid (HX.out.below hb1)
    have HB1 := Lib.hid hb1
    have HC : Hid (∀ W, Below w1.heap.size w1 W → Calls Tryz.prog 19 #[.slice A1 (snames s).length c1, .string ⟨#[104, 97, 114, 100, 46, 116, 109, 112]⟩] W fun e w' => e = .returned (.bool q) ∧ W = w') := Lib.hid fun W hW => by rw [HQ.out]; exact ContainsS_any A1 c1 (snames s) _ W (hs1.below hW)
    have HC2 : Hid (∀ W, SlB encStr 9 (fun g => w.heap.size ≤ g) W A1 (snames s) → Calls Tryz.prog 19 #[.slice A1 (snames s).length c1, .string ⟨#[104, 97, 114, 100]⟩] W fun e w' => e = .returned (.bool r) ∧ W = w') := Lib.hid fun W hW => by rw [HR.out]; exact ContainsS_any A1 c1 (snames s) _ W hW
    have HS1 := Lib.hid hs1
    clear hs1 hb1 HD HNM
    -- the names' row is kept
    have HXP : Hid (DX (fun g => G g ∨ (w.heap.size ≤ g ∧ g < w1.heap.size)) B p s w1) := Lib.hid (HX.out.protect HB1.out (fun g hg => hg))
    go_wp2_with fail
    (with_reducible refine (HC.out _ (Below.refl _ _)).mono ?_); rintro e w' ⟨rfl, rfl⟩
    go_upto_if 14 with fail
    go_cut [] (fun wx => OMid G B p w w1 s wx)
    case first =>
      cases q with
      | true =>
        obtain ⟨s1, hs1⟩ : ∃ z, z = (remove s nmT).1 := ⟨_, rfl⟩
        obtain ⟨k, hk⟩ : ∃ z, z = (remove s nmT).2 := ⟨_, rfl⟩
        have hrm : Dsk.remove s (sname ⟨#[104, 97, 114, 100, 46, 116, 109, 112]⟩) = (s1, k) := by rw [hs1, hk]; rfl
        have HRM := Lib.hid (X_Remove HXP.out ⟨#[104, 97, 114, 100, 46, 116, 109, 112]⟩ sz_nmT hrm rfl)
        have HR1 : Hid ((if decide (nmT ∈ snames s) then remove s nmT else (s, 0)) = (s1, k)) := Lib.hid (by rw [← HQ.out, if_pos rfl, hs1, hk])
        clear hs1 hk hrm
        go_wp2_with fail
        (with_reducible refine HRM.out.mono ?_); rintro e w2 ⟨rfl, hd2, hb2, hk2⟩
        have HD2 := Lib.hid hd2
        have HB2 := Lib.hid hb2
        have HK2 := Lib.hid hk2
        clear hd2 hb2 hk2
        by_cases hk0 : k = 0
        · subst hk0
          go_wp2_with fail
          go_meet
          exact ⟨s1, HR1.out, HD2.out, HB2.out, HK2.out⟩
        · have tk : ((k : Int) != 0) = true := by rw [bne_iff_ne]; omega
          have HO := Lib.hid (openH_bad HDN.out HR1.out hk0)
          have HK0 := Lib.hid hk0
          clear hk0
          go_wp2_with fail
          go_ret2
          unfold HOpenP
          rw [HO.out]
          exact ⟨HB1.out.mono HX.out.le |>.trans HB2.out, (kept_below HX.out.old HB1.out).trans_ (fun g hg => HK2.out g (.inl hg)), fun _ => ⟨rfl, HD2.out.weaken (fun g hg => .inl hg)⟩, fun h => absurd h HK0.out⟩
      | false =>
        have HR1 : Hid ((if decide (nmT ∈ snames s) then remove s nmT else (s, 0)) = (s, 0)) := Lib.hid (by rw [← HQ.out]; rfl)
        go_wp2_with fail
        go_meet
        exact ⟨s, HR1.out, HXP.out, Below.refl _ _ |>.mono HX1.out.le, fun _ _ => rfl⟩
    case rest =>
      obtain ⟨s1, hr1, hd2, hb2, hk2⟩ := hcut
      obtain ⟨hdn1, hkeep⟩ := remove_keeps hr1 HDN.out
      have HR1 := Lib.hid hr1
      have HS2 : Hid (SlB encStr 9 (fun g => w.heap.size ≤ g) wc A1 (snames s)) := Lib.hid ((SlB.kept (HS1.out.mono (G := fun g => w.heap.size ≤ g ∧ g < w1.heap.size) (fun g hg h => ⟨h, hg⟩)) hk2 (fun g hg => .inr hg)).mono (fun g _ h => h.1))
      have HBW : Hid (Below B w wc) := Lib.hid ((HB1.out.mono HX.out.le).trans hb2)
      have HKW : Hid (Kept G w wc) := Lib.hid ((kept_below HX.out.old HB1.out).trans_ (fun g hg => hk2 g (.inl hg)))
      have HD2 : Hid (DX G B p s1 wc) := Lib.hid (hd2.weaken (fun g hg => .inl hg))
      have HDN1 := Lib.hid hdn1
      have HKP := Lib.hid hkeep
      clear hr1 hd2 hb2 hk2 hdn1 hkeep HXP HS1 HX1 HB1 HC
      go_upto_region 9 with fail
      obtain ⟨w3, hw3⟩ : ∃ z, z = wc.alloc (.cells #[.pointer (some ⟨p, 0, none⟩), .int .i64 0, .int .i64 0] 62) := ⟨_, rfl⟩
      rw [← hw3]
      have hab : Below wc.heap.size wc w3 := by rw [hw3]; exact (Below.refl _ _).alloc (Nat.le_refl _) _
      have hlt3 : wc.heap.size < w3.heap.size := by rw [hw3, World.size_alloc]; omega
      have HBK : Hid (Blk w3 wc.heap.size 62 #[.pointer (some ⟨p, 0, none⟩), .int .i64 0, .int .i64 0]) := Lib.hid (by rw [hw3]; exact Blk.new_ wc _ _)
      have HD3 : Hid (DX (fun g => G g ∨ g = wc.heap.size) B p s1 w3) := Lib.hid (HD2.out.protect hab (fun g hg => by subst hg; exact ⟨Nat.le_refl _, hlt3⟩))
      have HC3 := Lib.hid (HC2.out w3 (HS2.out.below hab))
      have HNG : Hid (¬ G wc.heap.size) := Lib.hid (fun h => by have := HD2.out.old _ h; omega)
      have HLE : Hid (B ≤ wc.heap.size) := Lib.hid HD2.out.le
      have HB3 : Hid (Below B w w3) := Lib.hid (HBW.out.trans (hab.mono HLE.out))
      have HK3 : Hid (Kept G w w3) := Lib.hid (HKW.out.trans_ (kept_below HD2.out.old hab))
      obtain ⟨hb, hhb⟩ : ∃ z, z = wc.heap.size := ⟨_, rfl⟩
      rw [← hhb] at HBK HD3 HNG HLE ⊢
      clear hw3 hab hlt3 hhb HC2 HS2 HBW HKW HD2
      go_wp2_with fail
      (with_reducible refine HC3.out.mono ?_); rintro e w' ⟨rfl, rfl⟩
      cases r with
      | false =>
        have HO := Lib.hid (openH_no HDN.out HR1.out HR.out.symm)
        go_wp2_with fail
        go_ret2
        unfold HOpenP
        rw [HO.out]
        exact ⟨HB3.out, HK3.out, fun h => absurd rfl h, fun _ => ⟨hb, rfl, ⟨HD3.out, HBK.out, HLE.out, HNG.out⟩⟩⟩
      | true =>
        obtain ⟨bs, hbs⟩ := read_there HDN1.out (HKP.out (of_decide_eq_true HR.out.symm))
        have HO := Lib.hid (openH_yes HDN.out HR1.out HR.out.symm hbs)
        have HRD := Lib.hid (L_Read HD3.out.drop ⟨#[104, 97, 114, 100]⟩ sz_nmH (show Dsk.read s1 (sname ⟨#[104, 97, 114, 100]⟩) = (bs, 0) from hbs) (ki := 0) rfl)
        clear hbs
        go_wp2_with fail
        (with_reducible refine HRD.out.mono ?_); rintro e w4 ⟨A4, c4, rfl, hs4, hc4, hm4, -, hb4⟩
        have HHR := Lib.hid (hread_any hs4.sl hc4 hm4)
        have HB4 := Lib.hid hb4
        clear hs4 hc4 hm4 hb4 HRD
        go_wp2_with fail
        (with_reducible refine HHR.out.mono ?_); rintro e w5 ⟨rfl, hb5⟩
        have HB5 : Hid (Below w3.heap.size w3 w5) := Lib.hid (HB4.out.trans (hb5.mono HB4.out.size))
        obtain ⟨t, ht⟩ : ∃ z, z = (readH bs).1 := ⟨_, rfl⟩
        obtain ⟨v, hv⟩ : ∃ z, z = (readH bs).2 := ⟨_, rfl⟩
        rw [← ht, ← hv]
        have HO2 : Hid (openH s = (s1, (t, v), 0)) := Lib.hid (by rw [HO.out, ht, hv])
        have hbk := HBK.out.below HB5.out HBK.out.lt
        have HBK5 := Lib.hid hbk
        have c1 : w5.cell? ⟨hb, 1, none⟩ = some (.int .i64 0) := hbk.cell 1
        have c2 : w5.cell? ⟨hb, 2, none⟩ = some (.int .i64 0) := hbk.cell 2
        have f1 := hbk.free 1
        have f2 := hbk.free 2
        clear hb5 hbk ht hv HHR HO
        go_wp2_with fail
        go_ret2
        unfold HOpenP
        rw [HO2.out]
        have hset : Frm (fun g => g = hb) w5 ((w5.setCell ⟨hb, 1, none⟩ (.int .i64 t)).setCell ⟨hb, 2, none⟩ (.int .i64 v)) := ((Frm.refl (fun g => g = hb) w5).setCell (p := ⟨hb, 1, none⟩) (fun _ => rfl) _).setCell (p := ⟨hb, 2, none⟩) (fun _ => rfl) _
        have hlt5 : hb < w5.heap.size := HBK5.out.lt
        refine ⟨((HB3.out.trans (HB5.out.mono HD3.out.le)).setCell (p := ⟨hb, 1, none⟩) HLE.out _).setCell (p := ⟨hb, 2, none⟩) HLE.out _, ?_, fun h => absurd rfl h, fun _ => ⟨hb, rfl, ⟨dx_in (HD3.out.below HB5.out) hset (fun g e => by subst e; exact .inr rfl), (HBK5.out.set_ 1 _).set_ 2 _, HLE.out, HNG.out⟩⟩⟩
        exact (HK3.out.trans_ (kept_below (fun g hg => HD3.out.old g (.inl hg)) HB5.out)).trans_ (fun g hg => hset.block g (Nat.lt_of_lt_of_le (HD3.out.old g (.inl hg)) HB5.out.size) (fun e => HNG.out (e ▸ hg)))
end Go.Proofs.YtfpomllhkbbipaaGreat
