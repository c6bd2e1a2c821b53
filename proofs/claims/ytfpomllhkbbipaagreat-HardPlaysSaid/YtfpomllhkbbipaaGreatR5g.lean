/- Layer 5's document: a file's loose sectors. -/
import Derived.Test.YtfpomllhkbbipaaGreatR5e
import Derived.Test.YtfpomllhkbbipaaGreatByt
import Derived.Test.YtfpomllhkbbipaaGreatDskI
import Derived.Deep.RegionHeld3
import Derived.Test.YtfpomllhkbbipaaGreatDskLK
import Derived.BigQuiet
import Derived.Test.YtfpomllhkbbipaaGreatDskT
namespace Go.Proofs.YtfpomllhkbbipaaGreat
open Go.RowKit Go.Maps Mem Dsk

theorem below_drew (w : World) : Below w.heap.size w w.drew := ⟨rfl, rfl, rfl, Nat.le_refl _, fun _ _ => rfl⟩
theorem held_mk {wr W : World} {g : Nat} {t : TypeId} {v0 v1 v2 : Value} (h : Blk wr g t #[v0, v1, v2]) (hb : Below wr.heap.size wr W) : W.cell? ⟨g, 1, none⟩ = some v1 ∧ W.cell? ⟨g, 2, none⟩ = some v2 ∧ Below wr.heap.size wr W :=
  ⟨(h.below hb h.lt).cell 1, (h.below hb h.lt).cell 2, hb⟩
set_option maxRecDepth 100000 in
set_option maxHeartbeats 2000000 in
theorem rLoose_any {G : Nat → Prop} {w : World} (r : RFile) (h : RFok G w r) :
    Calls Tryz.prog 43 #[.agg #[.string ⟨r.file.name.toArray⟩, .slice r.A r.file.now.length r.c, .slice r.B r.file.safe.length r.d]] w fun e w' => ∃ A c, e = .returned (.slice A (loose r.file).length c) ∧ Own fN w.heap.size 3 w' (.slice A (loose r.file).length c) (loose r.file) ∧ Below w.heap.size w w' := by
  have hlen : r.file.now.length ≤ 65536 := h.sz.1
  have hlen2 : r.file.safe.length ≤ 65536 := h.sz.2.1
  have H := Lib.hid h; clear h
  have hnew := Blk.new_ w 51 #[.string ⟨r.file.name.toArray⟩, .slice r.A r.file.now.length r.c, .slice r.B r.file.safe.length r.d]
  obtain ⟨wa, hwa⟩ : ∃ x, x = w.alloc (.cells #[.string ⟨r.file.name.toArray⟩, .slice r.A r.file.now.length r.c, .slice r.B r.file.safe.length r.d] 51) := ⟨_, rfl⟩
  have hab : Below w.heap.size w wa := by rw [hwa]; exact (Below.refl _ _).alloc (Nat.le_refl _) _
  rw [← hwa] at hnew
  have HA : Hid (RFok G wa r) := H.out.below hab
  have HWA := Lib.hid hwa; clear hwa
  have HAB := Lib.hid hab; clear hab
  have HNEW := Lib.hid hnew; clear hnew
  have HL := Lib.hid hlen; clear hlen
  have HL2 := Lib.hid hlen2; clear hlen2
  go_enter Tryz.func43, Tryz.ntmps43
  go_upto_region 1 with fail
  rw [← HWA.out]
  go_wp2_with fail
  go_loopw [3, 4] (fun ov iv wr => LooseRel r.file wa wa.heap.size ov iv wr) (fun _ iv _ => (r.file.now.length + 31) / 32 - (intOf iv).toNat)
  case atStart => exact ⟨0, Nat.zero_le _, rfl, Own.mk_ (Nat.le_refl _), (Below.refl _ _).alloc (Nat.le_refl _) _⟩
  case round =>
    obtain ⟨k, hk, rfl, hown, hbw⟩ := hrel
    have hbk := HNEW.out.below hbw HNEW.out.lt
    have c1 : wr.cell? ⟨w.heap.size, 1, none⟩ = some (.slice r.A r.file.now.length r.c) := hbk.cell 1
    have c2 : wr.cell? ⟨w.heap.size, 2, none⟩ = some (.slice r.B r.file.safe.length r.d) := hbk.cell 2
    have hA := HA.out.below hbw
    have HR := Lib.hid hA; clear hA
    have hk3 : k ≤ 2048 := by have := HL.out; omega
    have HBK := Lib.hid hbk; clear hbk
    have HOWN := Lib.hid hown; clear hown
    have HBW := Lib.hid hbw; clear hbw
    by_cases hlt : k * 32 < r.file.now.length
    · have hlt' : (k : Int) * 32 < (r.file.now.length : Int) := by omega
      have hP1 : ∀ W, Below wr.heap.size wr W → Calls Tryz.prog 45 #[.slice r.A r.file.now.length r.c, .int .i64 ((k : Int) * 32), .int .i64 ((k : Int) * 32 + 32)] W fun e w' => Made W.heap.size (sector r.file.now k) e w' ∧ Below W.heap.size W w' ∧ Below wr.heap.size wr w' := by
        intro W hb
        have := rpart_any r.A r.c r.file.now ((k : Int) * 32) ((k : Int) * 32 + 32) (k * 32) (k * 32 + 32) (by omega) (by omega) (by omega) (by omega) W (HR.out.below hb).now.sl (by have := HL.out; have h2 : r.file.now.length ≤ 65536 := this; omega)
        rw [piece_sector] at this; exact this.mono (fun e w' h => ⟨h.1, h.2, hb.trans (h.2.mono hb.size)⟩)
      have hP2 : ∀ W, Below wr.heap.size wr W → Calls Tryz.prog 45 #[.slice r.B r.file.safe.length r.d, .int .i64 ((k : Int) * 32), .int .i64 ((k : Int) * 32 + 32)] W fun e w' => Made W.heap.size (sector r.file.safe k) e w' ∧ Below W.heap.size W w' ∧ Below wr.heap.size wr w' := by
        intro W hb
        have := rpart_any r.B r.d r.file.safe ((k : Int) * 32) ((k : Int) * 32 + 32) (k * 32) (k * 32 + 32) (by omega) (by omega) (by omega) (by omega) W (HR.out.below hb).safe.sl (by have := HL2.out; have h2 : r.file.safe.length ≤ 65536 := this; omega)
        rw [piece_sector] at this; exact this.mono (fun e w' h => ⟨h.1, h.2, hb.trans (h.2.mono hb.size)⟩)
      have HP1 := Lib.hid hP1; clear hP1
      have HP2 := Lib.hid hP2; clear hP2
      have s1 : IntKind.i64.wrap ((k : Int) * 32) = (k : Int) * 32 := IntWalk.i64_in _ (by omega)
      have s2 : IntKind.i64.wrap ((k : Int) * 32 + 32) = (k : Int) * 32 + 32 := IntWalk.i64_in _ (by omega)
      obtain ⟨xs, hxs⟩ : ∃ x, x = sector r.file.now k := ⟨_, rfl⟩
      obtain ⟨ys, hys⟩ : ∃ x, x = sector r.file.safe k := ⟨_, rfl⟩
      rw [← hxs] at HP1
      rw [← hys] at HP2
      obtain ⟨q, hq⟩ : ∃ q, q = decide (xs = ys) := ⟨_, rfl⟩
      have hil : isLoose r.file k = !q := by rw [hq, hxs, hys]; unfold isLoose; by_cases e : sector r.file.now k = sector r.file.safe k <;> simp [e]
      have hsb : ∀ (A : Option Addr) (c : Nat) (B : Option Addr) (d : Nat) (W : World), Sl fB W A xs → Sl fB W B ys → Calls Tryz.prog 17 #[.slice A xs.length c, .slice B ys.length d] W (Quiet (.bool q) W) := fun A c B d W h1 h2 => by rw [hq]; exact SameBytes_any A B c d xs ys W h1 h2
      have HIL := Lib.hid hil
      have HSB := Lib.hid hsb
      clear hxs hys hil hsb hq
      go_upto_region 5 with fail
      have hdr := below_drew wr
      go_region_held3 (fun W => W.cell? ⟨w.heap.size, 1, none⟩ = some (.slice r.A r.file.now.length r.c) ∧ W.cell? ⟨w.heap.size, 2, none⟩ = some (.slice r.B r.file.safe.length r.d) ∧ Below wr.heap.size wr W) (first | exact held_mk HBK.out (by assumption) | exact held_mk HBK.out (below_drewN (by assumption) _))
        (first | (go_at_call 45; (with_reducible refine (HP1.out _ ?_).mono ?_); (assumption); rintro e wN ⟨⟨AN, cN, rfl, hsN, -⟩, hbN, hBN⟩)
               | (go_at_call 45; (with_reducible refine (HP2.out _ ?_).mono ?_); (assumption); rintro e wS ⟨⟨AS, cS, rfl, hsS, -⟩, hbS, hBS⟩)
               | (go_at_call 17; (with_reducible refine (HSB.out AN cN AS cS _ ?_ ?_).mono ?_); exact (hsN.below hbS).sl; exact hsS.sl; rintro e wq ⟨rfl, nq, rfl⟩)
               | (go_at_call 17; (with_reducible refine (HSB.out AN cN AS cS _ ?_ ?_).mono ?_); exact hsN.sl; exact (hsS.below hbN).sl; rintro e wq ⟨rfl, nq, rfl⟩))
      · have hbf := below_drewN hBS nq
        obtain ⟨wF, hwF⟩ : ∃ x, x = wS.drewN nq := ⟨_, rfl⟩
        rw [← hwF] at hbf ⊢
        have HF := Lib.hid hbf
        clear hbf hwF hbN hbS hBN hBS hsN hsS hdr c1 c2
        have HOWF := Lib.hid (Own.below HOWN.out HF.out)
        have HBF := Lib.hid (HBW.out.trans (HF.out.mono HBW.out.size))
        cases q
        · have HLP := Lib.hid (loosePre_yes HIL.out)
          have hpl := loosePre_len r.file k
          go_wp2_with (at_builtin; refine wpList_append1 (f := fN) rfl _ _ _ rfl intT k (fN_one k) rfl HOWF.out rfl rfl (by unfold maxLen; omega) (by omega) HBF.out.size ?_; intro v2 w2 hown2 hb2)
          go_roundw
          case rel => exact ⟨k + 1, by omega, by go_num, by rw [HLP.out]; exact hown2, HBF.out.trans hb2⟩
          case measure => simp [intOf]; omega
        · have HLP := Lib.hid (loosePre_no HIL.out)
          go_wp2_with fail
          go_roundw
          case rel => exact ⟨k + 1, by omega, by go_num, by rw [HLP.out]; exact HOWF.out, HBF.out⟩
          case measure => simp [intOf]; omega
    · have hlt' : ¬ (k : Int) * 32 < (r.file.now.length : Int) := by omega
      have hkk : k = (r.file.now.length + 31) / 32 := by omega
      have HKK := Lib.hid hkk; clear hkk
      obtain ⟨A1, c2, rfl⟩ := HOWN.out.form
      go_wp2_with fail
      go_ret
      have ho := HOWN.out
      have e := loosePre_all r.file
      rw [← HKK.out] at e
      rw [e] at ho
      exact ⟨A1, c2, by rw [e]; rfl, ho.base HAB.out.size, HAB.out.trans (HBW.out.mono HAB.out.size)⟩
end Go.Proofs.YtfpomllhkbbipaaGreat
namespace Go.Proofs.YtfpomllhkbbipaaGreat
open Go.RowKit Go.Maps Mem Dsk

theorem Mem.SlB.apartK {α β : Type} {k : Nat} {f : α → List Value} {f' : β → Value} {e e' : TypeId} {G : Nat → Prop} {w w' : World} {v : Value} {A : Option Addr} {xs : List α} {ys : List β} {base : Nat} (h : SlB f' e' G w A ys) (ho : OwnK k f base e w v xs) (hne : e' ≠ e) (hg : w.grownBy w' v.ownBlock) : SlB f' e' G w' A ys :=
  h.keep fun g cur fr _ hgb => hg.block g (by
    rcases Nat.lt_or_ge g w.heap.size with hl | hl
    · exact hl
    · rw [Array.getElem?_eq_none hl] at hgb; cases hgb) (fun hk => by
      rcases ho.2 with ⟨hv, _⟩ | ⟨g', cap, cur', hv, _, hh, _⟩
      · rw [hv] at hk; simp [Value.ownBlock] at hk
      · rw [hv] at hk; simp [Value.ownBlock] at hk
        subst hk
        rw [hh] at hgb
        injection hgb with h1; injection h1 with _ h2
        exact hne h2.symm)
theorem RFok.apartK {k : Nat} {f : RFile → List Value} {G : Nat → Prop} {w w' : World} {v : Value} {xs : List RFile} {base : Nat} {r : RFile} (h : RFok G w r) (ho : OwnK k f base 51 w v xs) (hg : w.grownBy w' v.ownBlock) : RFok G w' r :=
  ⟨h.now.apartK ho (by decide) hg, h.safe.apartK ho (by decide) hg, h.sz, h.cn, h.cs⟩
/-- the outer loop -/
def CrRel (F : Nat → Prop) (w0 : World) (s : S) (keep : List Bool) (nv ov iv : Value) (wr : World) : Prop :=
  ∃ (k : Nat) (out : List RFile), k ≤ s.files.length ∧ iv = .int .i64 k ∧ nv = .int .i64 (crashN keep s.files k) ∧ crashN keep s.files k ≤ k * 2048 ∧ out.map RFile.file = (crashGo keep (s.files.take k) 0).1 ∧
    OwnK 3 RFile.cells w0.heap.size 51 wr ov out ∧ (∀ r ∈ out, RFok F wr r) ∧ Below w0.heap.size w0 wr
/-- the inner loop -/
def CrIn (F : Nat → Prop) (f : File) (keep : List Bool) (n : Nat) (w1 : World) (nv ov jv : Value) (wi : World) : Prop :=
  ∃ j m : Nat, j ≤ (loose f).length ∧ jv = .int .i64 j ∧ nv = .int .i64 m ∧ m = n + j ∧ (∃ A c, ov = .slice A (keptTo f keep n j).1.length c ∧ SlB fB 5 F wi A (keptTo f keep n j).1 ∧ (keptTo f keep n j).1.length ≤ c) ∧ Below w1.heap.size w1 wi
set_option maxRecDepth 100000 in
set_option maxHeartbeats 4000000 in
theorem RCrash_any {G : Nat → Prop} {w : World} (A : Option Addr) (c : Nat) (rs : List RFile) (h : Files G w A rs) (hct : rs.length ≤ 256) (s : S) (hs : rs.map RFile.file = s.files) (K : Option Addr) (kc : Nat) (keep : List Bool) (hkeep : Sl fBool w K keep) :
    Calls Tryz.prog 12 #[.agg #[.slice A rs.length c, .bool s.down, .int .i64 s.fuse], .slice K keep.length kc] w (RefPost G (Dsk.crash s keep) w) := by
  have hl := h.1.len
  have hkl := hkeep.len
  have hfl : s.files.length = rs.length := by rw [← hs, List.length_map]
  have HFL := Lib.hid hfl; clear hfl
  have HF := Lib.hid h; clear h
  have HS := Lib.hid hs; clear hs
  have HKEEP := Lib.hid hkeep; clear hkeep
  go_enter Tryz.func12, Tryz.ntmps12
  go_wp2_with fail
  obtain ⟨w0, hw0⟩ : ∃ w0, w0 = (w.alloc (.cells #[.slice A rs.length c, .bool s.down, .int .i64 s.fuse] 32)).alloc (.cells #[.slice none 0 0, .bool false, .int .i64 0] 32) := ⟨_, rfl⟩
  rw [← hw0]
  have hz : w0.heap.size = w.heap.size + 1 + 1 := by rw [hw0]; simp
  have hab : Below w.heap.size w w0 := by rw [hw0]; exact ((Below.refl _ _).alloc (Nat.le_refl _) _).alloc (by simp) _
  have hbx : Blk w0 w.heap.size 32 #[.slice A rs.length c, .bool s.down, .int .i64 s.fuse] := by rw [hw0]; exact (Blk.new_ w _ _).alloc _
  have hrs : Blk w0 (w.heap.size + 1) 32 #[.slice none 0 0, .bool false, .int .i64 0] := by
    have := Blk.new_ (w.alloc (.cells #[.slice A rs.length c, .bool s.down, .int .i64 s.fuse] 32)) 32 #[.slice none 0 0, .bool false, .int .i64 0]
    rw [World.size_alloc] at this; rw [hw0]; exact this
  have hst : OwnK 3 RFile.cells w0.heap.size 51 (w0.alloc (.cells #[] 51)) (.slice (some ⟨w.heap.size + 1 + 1, 0, none⟩) 0 0) ([] : List RFile) := by rw [← hz]; exact OwnK.mk_ (Nat.le_refl _)
  have HST := Lib.hid hst; clear hst
  have HZ := Lib.hid hz; clear hz hw0
  have HAB := Lib.hid hab; clear hab
  have HBX := Lib.hid hbx; clear hbx
  have HRS := Lib.hid hrs; clear hrs
  go_loopw [5, 6, 7] (fun nv ov iv wr => CrRel (up G w) w0 s keep nv ov iv wr) (fun _ _ iv _ => rs.length - (intOf iv).toNat)
  case atStart => exact ⟨0, [], Nat.zero_le _, rfl, rfl, Nat.zero_le _, rfl, HST.out, (fun _ h => by cases h), (Below.refl _ _).alloc (Nat.le_refl _) _⟩
  case round =>
    obtain ⟨k, out, hk, rfl, rfl, hnk, hof, hown, hoks, hbw⟩ := hrel
    have HOF := Lib.hid hof; clear hof
    have HOWN := Lib.hid hown; clear hown
    have HOKS := Lib.hid hoks; clear hoks
    have HBW := Lib.hid hbw; clear hbw
    have HNK := Lib.hid hnk; clear hnk
    have HBXr := Lib.hid (HBX.out.below HBW.out HBX.out.lt)
    have HRSr := Lib.hid (HRS.out.below HBW.out HRS.out.lt)
    have b0 : wr.cell? ⟨w.heap.size, 0, none⟩ = some (.slice A rs.length c) := HBXr.out.cell 0
    by_cases hlt : k < rs.length
    · obtain ⟨b, o, rfl, _, _, hc⟩ := ((HF.out.below HAB.out).below HBW.out).1.at hlt
      obtain ⟨r, hr⟩ : ∃ r, r = rs[k] := ⟨_, rfl⟩
      have c0 : wr.cell? ⟨b, o + k * 3, none⟩ = some (.string ⟨r.file.name.toArray⟩) := by rw [hr]; exact hc 0 (by decide)
      have c1 : wr.cell? ⟨b, o + k * 3 + 1, none⟩ = some (.slice r.A r.file.now.length r.c) := by rw [hr]; exact hc 1 (by decide)
      have c2 : wr.cell? ⟨b, o + k * 3 + 2, none⟩ = some (.slice r.B r.file.safe.length r.d) := by rw [hr]; exact hc 2 (by decide)
      clear hc
      have HOKr : Hid (RFok G wr r) := by rw [hr]; exact ((HF.out.below HAB.out).below HBW.out).2 _ (List.getElem_mem hlt)
      have HRK := Lib.hid hr; clear hr
      go_upto_region 7 with fail
      obtain ⟨w1, hw1⟩ : ∃ x, x = wr.alloc (.cells #[.string ⟨r.file.name.toArray⟩, .slice r.A r.file.now.length r.c, .slice r.B r.file.safe.length r.d] 51) := ⟨_, rfl⟩
      rw [← hw1]
      have hab1 : Below wr.heap.size wr w1 := by rw [hw1]; exact (Below.refl _ _).alloc (Nat.le_refl _) _
      have HFX : Hid (Blk w1 wr.heap.size 51 #[.string ⟨r.file.name.toArray⟩, .slice r.A r.file.now.length r.c, .slice r.B r.file.safe.length r.d]) := by rw [hw1]; exact Blk.new_ wr _ _
      have HOK1 := Lib.hid (HOKr.out.below hab1)
      have HAB1 := Lib.hid hab1; clear hab1 hw1 c0 c1 c2 b0
      have f0 : w1.cell? ⟨wr.heap.size, 0, none⟩ = some (.string ⟨r.file.name.toArray⟩) := HFX.out.cell 0
      have f1 : w1.cell? ⟨wr.heap.size, 1, none⟩ = some (.slice r.A r.file.now.length r.c) := HFX.out.cell 1
      have f2 : w1.cell? ⟨wr.heap.size, 2, none⟩ = some (.slice r.B r.file.safe.length r.d) := HFX.out.cell 2
      go_wp2_with fail
      (with_reducible refine (rLoose_any r HOK1.out).mono ?_); rintro e w2 ⟨AL, cL, rfl, hownL, hb2⟩
      have hLL : SlB fN 3 (fun _ => True) w2 AL (loose r.file) := (SlB.of_own hownL).2.mono (fun _ _ _ => trivial)
      have HLL := Lib.hid hLL; clear hLL hownL
      have HB2 := Lib.hid hb2; clear hb2
      have HFX2 := Lib.hid (HFX.out.below HB2.out HFX.out.lt)
      have HOK2 := Lib.hid (HOK1.out.below HB2.out)
      clear f0 f1 f2
      have hlc := loose_count HOK2.out.sz.1
      have hnk2 : crashN keep s.files k ≤ 524288 := by have := HNK.out; have h2 : crashN keep s.files k ≤ k * 2048 := this; omega
      have hn1 : r.file.now.length ≤ 65536 := HOK2.out.sz.1
      have hn2 : r.file.safe.length ≤ 65536 := HOK2.out.sz.2.1
      have HN1 := Lib.hid hn1; clear hn1
      have HN2 := Lib.hid hn2; clear hn2
      have hwz : w.heap.size ≤ w2.heap.size := Nat.le_trans HAB.out.size (Nat.le_trans HBW.out.size (Nat.le_trans HAB1.out.size HB2.out.size))
      have HWZ := Lib.hid hwz; clear hwz
      obtain ⟨n, hn⟩ : ∃ n, n = crashN keep s.files k := ⟨_, rfl⟩
      rw [← hn] at hnk2 ⊢
      have HNN := Lib.hid hn; clear hn
      obtain ⟨wo, rfl⟩ : ∃ wo : World, wo = wr := ⟨_, rfl⟩
      go_wp2_with fail
      go_loopw [5, 9, 11] (fun nv ov jv wi => CrIn (up G w) r.file keep n w2 nv ov jv wi) (fun _ _ jv _ => (loose r.file).length - (intOf jv).toNat)
      case atStart => exact ⟨0, n, Nat.zero_le _, rfl, rfl, rfl, ⟨r.B, r.d, by rw [keptTo_zero], by rw [keptTo_zero]; exact HOK2.out.safe.mono (fun _ _ h => .inl h), by rw [keptTo_zero]; exact HOK2.out.cs⟩, Below.refl _ _⟩
      case round =>
        obtain ⟨j, m, hj, rfl, rfl, hm, ⟨A3, c3, rfl, hs3, hcp3⟩, hb⟩ := hrel; have HCP3 := Lib.hid hcp3; clear hcp3
        have hm2 : m ≤ 600000 := by omega
        have HM := Lib.hid hm; clear hm
        have HS3 := Lib.hid hs3; clear hs3
        have HB := Lib.hid hb; clear hb
        have HFXi := Lib.hid (HFX2.out.below HB.out HFX2.out.lt)
        have HOKi := Lib.hid (HOK2.out.below HB.out)
        by_cases hjl : j < (loose r.file).length
        · obtain ⟨bl, ol, rfl, hcl⟩ := (HLL.out.below HB.out).at hjl
          have hil := loose_lt (List.getElem_mem hjl)
          unfold fN at hcl
          have f1 : wr.cell? ⟨wo.heap.size, 1, none⟩ = some (.slice r.A r.file.now.length r.c) := HFXi.out.cell 1
          by_cases hky : m < keep.length ∧ keep.getD m false = true
          · obtain ⟨hky1, hky2⟩ := hky
            obtain ⟨bk, ok, rfl, _, hck⟩ := ((((HKEEP.out.below HAB.out).below HBW.out).below HAB1.out).below HB2.out |>.below HB.out).at hky1
            replace hck := hck m hky1
            have hkv : keep[m] = true := by rw [List.getD_eq_getElem?_getD, List.getElem?_eq_getElem hky1] at hky2; exact hky2
            rw [hkv] at hck; unfold fBool at hck
            clear hkv
            have HKY : Hid (keep.getD m false = true) := hky2
            clear hky2
            obtain ⟨i, hi⟩ : ∃ i, i = (loose r.file)[j] := ⟨_, rfl⟩
            rw [← hi] at hcl hil
            obtain ⟨ot, hot⟩ : ∃ ot, ot = (keptTo r.file keep n j).1 := ⟨_, rfl⟩
            rw [← hot] at HS3 HCP3 ⊢
            have hol : ot.length ≤ 65536 := by rw [hot]; exact Nat.le_trans (keptTo_len hj) (by have h1 := HN1.out; have h2 := HN2.out; have h3 : r.file.now.length ≤ 65536 := h1; have h4 : r.file.safe.length ≤ 65536 := h2; omega)
            have HSTEP : Hid ((keptTo r.file keep n (j + 1)).1 = overZ ot (i * 32) (sector r.file.now i)) := by
              show _ = _; rw [keptTo_step_yes hjl (by rw [← HM.out]; exact HKY.out), ← hi, ← hot]; rfl
            have hi2 : i ≤ 2048 := by have h1 := HN1.out; have h3 : r.file.now.length ≤ 65536 := h1; omega
            obtain ⟨sec, hsec⟩ : ∃ x, x = sector r.file.now i := ⟨_, rfl⟩
            rw [← hsec] at HSTEP
            have hsl : sec.length ≤ 1000000 := by rw [hsec]; have h1 := HN1.out; have h3 : r.file.now.length ≤ 65536 := h1; have := sector_len_le r.file.now i hil; omega
            have hP := rpart_any r.A r.c r.file.now ((i : Int) * 32) ((i : Int) * 32 + 32) (i * 32) (i * 32 + 32) (by omega) (by omega) (by omega) (by omega) wr HOKi.out.now.sl (by have h1 := HN1.out; have h3 : r.file.now.length ≤ 65536 := h1; omega)
            rw [piece_sector, ← hsec] at hP
            have hO : ∀ W, Sl fB W A3 ot → ∀ A5 c5, Sl fB W A5 sec → Calls Tryz.prog 44 #[.slice A3 ot.length c3, .int .i64 ((i : Int) * 32), .slice A5 sec.length c5] W fun e w' => Made W.heap.size (overZ ot (i * 32) sec) e w' ∧ Below W.heap.size W w' :=
              fun W h1 A5 c5 h2 => rover_any A3 c3 ot ((i : Int) * 32) (i * 32) (by omega) (by omega) A5 c5 sec W h1 h2 (by omega) hsl
            have HP := Lib.hid hP; clear hP
            have HO := Lib.hid hO; clear hO
            clear hi hot hsec
            go_wp2_with fail
            (with_reducible refine HP.out.mono ?_); rintro e w5 ⟨⟨A5, c5, rfl, hs5, -⟩, hb5⟩
            have HS5 := Lib.hid hs5; clear hs5
            have HB5 := Lib.hid hb5; clear hb5
            go_wp2_with fail
            (with_reducible refine (HO.out _ (HS3.out.below HB5.out).sl _ _ HS5.out.sl).mono ?_); rintro e w6 ⟨⟨A6, c6, rfl, hs6, hcp6⟩, hb6⟩; have HCP6 := Lib.hid hcp6; clear hcp6
            have HS6 := Lib.hid hs6; clear hs6
            have HB6 := Lib.hid hb6; clear hb6
            have hz5 : w.heap.size ≤ w5.heap.size := Nat.le_trans HWZ.out (Nat.le_trans HB.out.size HB5.out.size)
            have HZ5 := Lib.hid hz5; clear hz5
            go_wp2_with fail
            go_roundw
            case rel => exact ⟨j + 1, m + 1, by omega, by go_num, by go_num, by have := HM.out; omega, ⟨A6, c6, by rw [HSTEP.out], by rw [HSTEP.out]; exact HS6.out.mono (fun _ _ h => .inr (Nat.le_trans HZ5.out h)), by rw [HSTEP.out]; exact HCP6.out⟩, (HB.out.trans (HB5.out.mono HB.out.size)).trans (HB6.out.mono (Nat.le_trans HB.out.size HB5.out.size))⟩
            case measure => simp [intOf]; omega
          · have HNO : Hid (keep.getD m false = false) := by
              by_cases h1 : m < keep.length
              · have : ¬ keep.getD m false = true := fun h2 => hky ⟨h1, h2⟩
                show _ = _; simpa using this
              · show _ = _; rw [List.getD_eq_getElem?_getD, List.getElem?_eq_none (by omega)]; rfl
            have HST2 : Hid ((keptTo r.file keep n (j + 1)).1 = (keptTo r.file keep n j).1) := keptTo_step_no hjl (by rw [← HM.out]; exact HNO.out)
            by_cases hky1 : m < keep.length
            · obtain ⟨bk, ok, rfl, _, hck⟩ := ((((HKEEP.out.below HAB.out).below HBW.out).below HAB1.out).below HB2.out |>.below HB.out).at hky1
              replace hck := hck m hky1
              have hkv : keep[m] = false := by
                have := HNO.out
                rw [List.getD_eq_getElem?_getD, List.getElem?_eq_getElem hky1] at this; exact this
              rw [hkv] at hck; unfold fBool at hck
              clear hkv hky
              go_wp2_with fail
              go_roundw
              case rel => exact ⟨j + 1, m + 1, by omega, by go_num, by go_num, by have := HM.out; omega, ⟨A3, c3, by rw [HST2.out], by rw [HST2.out]; exact HS3.out, by rw [HST2.out]; exact HCP3.out⟩, HB.out⟩
              case measure => simp [intOf]; omega
            · clear hky
              go_wp2_with fail
              go_roundw
              case rel => exact ⟨j + 1, m + 1, by omega, by go_num, by go_num, by have := HM.out; omega, ⟨A3, c3, by rw [HST2.out], by rw [HST2.out]; exact HS3.out, by rw [HST2.out]; exact HCP3.out⟩, HB.out⟩
              case measure => simp [intOf]; omega
        · have hjj : j = (loose r.file).length := by omega
          have hsk : k < s.files.length := by have := HFL.out; have h2 : s.files.length = rs.length := this; omega
          have hrf : s.files[k] = r.file := by rw [HRK.out]; simp only [← HS.out, List.getElem_map]
          obtain ⟨ot, hot⟩ : ∃ ot, ot = (keptTo r.file keep n j).1 := ⟨_, rfl⟩
          rw [← hot] at HS3 HCP3 ⊢
          have hol : ot.length ≤ 65536 := by rw [hot]; exact Nat.le_trans (keptTo_len hj) (by have h1 := HN1.out; have h2 := HN2.out; have h3 : r.file.now.length ≤ 65536 := h1; have h4 : r.file.safe.length ≤ 65536 := h2; omega)
          have HKB : Hid (ot = (keptBytes r.file keep n).1) := by show _ = _; rw [hot, hjj, keptTo_all]
          have HNX : Hid (crashN keep s.files (k + 1) = m) := by show _ = _; rw [crashN_succ hsk, keptBytes_snd, HM.out, hjj, HNN.out, hrf]
          have hbd : m ≤ (k + 1) * 2048 := by have h1 := HM.out; have h2 : m = n + j := h1; have h3 := HNK.out; rw [← HNN.out] at h3; have h4 : n ≤ k * 2048 := h3; omega
          have HBD := Lib.hid hbd; clear hbd
          have HJ := Lib.hid hjj; clear hjj hot
          have hlo : out.length ≤ k := by
            have h1 : (out.map RFile.file).length = ((crashGo keep (s.files.take k) 0).1.map File.name).length := by rw [HOF.out, List.length_map]
            rw [crashGo_names, List.length_map, List.length_map] at h1
            rw [h1]; exact List.length_take_le _ _
          have HMAP : Hid ((out ++ [(⟨⟨r.file.name, ot, ot⟩, A3, c3, A3, c3⟩ : RFile)]).map RFile.file = (crashGo keep (s.files.take (k + 1)) 0).1) := by
            show _ = _
            rw [List.take_succ_eq_append_getElem hsk, crashGo_snoc, List.map_append, HOF.out, hrf, HKB.out, HNN.out]; rfl
          have HSK := Lib.hid hsk; clear hsk hrf
          have HOWNi := Lib.hid (((HOWN.out.below HAB1.out).below HB2.out).below HB.out)
          have hbwi : Below w0.heap.size w0 wr := ((HBW.out.trans (HAB1.out.mono HBW.out.size)).trans (HB2.out.mono (Nat.le_trans HBW.out.size HAB1.out.size))).trans (HB.out.mono (Nat.le_trans HBW.out.size (Nat.le_trans HAB1.out.size HB2.out.size)))
          have HBWi := Lib.hid hbwi; clear hbwi
          have HOKSi : Hid (∀ r' ∈ out, RFok (up G w) wr r') := fun r' h => (((HOKS.out r' h).below HAB1.out).below HB2.out).below HB.out
          have f0 : wr.cell? ⟨wo.heap.size, 0, none⟩ = some (.string ⟨r.file.name.toArray⟩) := HFXi.out.cell 0
          go_wp2_with (at_builtin; refine wpList_appendK1 (f := RFile.cells) rfl (.tmp 62) (.tmp 68) 30 rfl fileT (⟨⟨r.file.name, ot, ot⟩, A3, c3, A3, c3⟩ : RFile) rfl (rcells_one _) rfl HOWNi.out rfl rfl rfl (by unfold maxLen; omega) (by omega) HBWi.out.size ?_; intro v7 w7 hown7 hg7)
          go_roundw
          case rel =>
            have hap := HOWNi.out.alloc (.cells #[.string ⟨r.file.name.toArray⟩, .slice A3 ot.length c3, .slice A3 ot.length c3] 51)
            refine ⟨k + 1, _, HSK.out, by go_num, by rw [HNX.out], by rw [HNX.out]; exact HBD.out, HMAP.out, hown7, ?_, (HBWi.out.alloc HBWi.out.size _).trans (hap.below_ (by rw [World.size_alloc]; exact Nat.le_succ_of_le HBWi.out.size) hg7)⟩
            intro r' hr'
            rcases List.mem_append.1 hr' with h | h
            · exact ((HOKSi.out r' h).below ((Below.refl _ _).alloc (Nat.le_refl _) _)).apartK hap hg7
            · rw [List.mem_singleton] at h
              subst h
              have h3 := (HS3.out.below ((Below.refl _ _).alloc (Nat.le_refl _) _)).apartK hap (by decide) hg7
              exact ⟨h3, h3, ⟨hol, hol, HOK2.out.sz.2.2⟩, HCP3.out, HCP3.out⟩
          case measure => simp [intOf]; omega
    · have hkk : k = s.files.length := by have := HFL.out; have h2 : s.files.length = rs.length := this; omega
      have HKK := Lib.hid hkk; clear hkk
      have r0 : wr.cell? ⟨w.heap.size + 1, 0, none⟩ = some (.slice none 0 0) := HRSr.out.cell 0
      have r1 : wr.cell? ⟨w.heap.size + 1, 1, none⟩ = some (.bool false) := HRSr.out.cell 1
      have r2 : wr.cell? ⟨w.heap.size + 1, 2, none⟩ = some (.int .i64 0) := HRSr.out.cell 2
      have q0 := HRSr.out.free 0
      have q1 := HRSr.out.free 1
      have q2 := HRSr.out.free 2
      obtain ⟨A1, c1, rfl⟩ := HOWN.out.form
      go_wp2_with fail
      have hbw1 : Below w.heap.size w wr := HAB.out.trans (HBW.out.mono HAB.out.size)
      have hz := HZ.out
      refine bodyPost_ret (v := .agg #[.slice A1 out.length c1, .bool false, .int .i64 0]) (by simp [results, Tryz.results12, go_sem, r0, r1, r2, q0, q1, q2]) rfl ?_
      have hbz := ((hbw1.setCell (p := ⟨w.heap.size + 1, 0, none⟩) (Nat.le_succ _) (.slice A1 out.length c1)).setCell (p := ⟨w.heap.size + 1, 1, none⟩) (Nat.le_succ _) (.bool false)).setCell (p := ⟨w.heap.size + 1, 2, none⟩) (Nat.le_succ _) (.int .i64 0)
      have hoz := ((HOWN.out.setLow (p := ⟨w.heap.size + 1, 0, none⟩) (by show w.heap.size + 1 < _; omega) (.slice A1 out.length c1)).setLow (p := ⟨w.heap.size + 1, 1, none⟩) (by show w.heap.size + 1 < _; omega) (.bool false)).setLow (p := ⟨w.heap.size + 1, 2, none⟩) (by show w.heap.size + 1 < _; omega) (.int .i64 0)
      have hk1 := HRSr.out
      have hk2 := hk1.set_ 0 (.slice A1 out.length c1)
      have hk3 := hk2.set_ 1 (.bool false)
      refine refPost_mk (s := Dsk.crash s keep) hbz (hoz.base_ HAB.out.size) (fun r hr => (((HOKS.out r hr).far hk1 (by decide) 0 _).far hk2 (by decide) 1 _).far hk3 (by decide) 2 _) ?_
      have h1 := HOF.out
      rw [HKK.out, List.take_length, crashGo_files] at h1
      exact h1
end Go.Proofs.YtfpomllhkbbipaaGreat
namespace Go.Proofs.YtfpomllhkbbipaaGreat
open Go.RowKit Go.Maps Mem Dsk

def looseTo (s : S) (i : Nat) : Nat := ((s.files.take i).map (fun f => (loose f).length)).sum
theorem looseTo_succ {s : S} {i : Nat} (h : i < s.files.length) : looseTo s (i + 1) = looseTo s i + (loose s.files[i]).length := by
  unfold looseTo; rw [List.take_succ_eq_append_getElem h, List.map_append, List.sum_append, List.map_cons, List.map_nil, List.sum_cons, List.sum_nil, Nat.add_zero]
theorem looseTo_all (s : S) : looseTo s s.files.length = looseN s := by unfold looseTo looseN; rw [List.take_length]
def AlRel (s : S) (w1 : World) (nv iv : Value) (wr : World) : Prop :=
  ∃ i : Nat, i ≤ s.files.length ∧ iv = .int .i64 i ∧ nv = .int .i64 (looseTo s i) ∧ looseTo s i ≤ i * 2048 ∧ Below w1.heap.size w1 wr
end Go.Proofs.YtfpomllhkbbipaaGreat
namespace Go.Proofs.YtfpomllhkbbipaaGreat
open Go.RowKit Go.Maps Mem Dsk

theorem Mem.Own.base_ {α : Type} {f : α → Value} {base base' : Nat} {e : TypeId} {w : World} {v : Value} {xs : List α} (h : Own f base e w v xs) (hb : base' ≤ base) : Own f base' e w v xs := by
  obtain ⟨h1, h2⟩ := h
  refine ⟨h1, ?_⟩
  rcases h2 with h2 | ⟨g, cap, cur, a, b, c⟩
  · exact .inl h2
  · exact .inr ⟨g, cap, cur, a, Nat.le_trans hb b, c⟩
/-- what Read leaves, its bytes being the caller's own -/
def ReadOwn (B p : Nat) (s : S) (bs : List UInt8) (ki : Int) (w : World) (e : Ending) (w' : World) : Prop :=
  ∃ A c, e = .returned (.tuple #[.slice A bs.length c, .int .i64 ki]) ∧ Own fB w.heap.size 5 w' (.slice A bs.length c) bs ∧ D B p s w' ∧ Below w.heap.size w w'
set_option maxHeartbeats 1000000 in
theorem Read_own {B : Nat} {w : World} {p : Nat} {s : S} (hd : D B p s w) (n : ByteArray) (hn : n.size ≤ maxLen) {bs : List UInt8} {k : Nat} {ki : Int} (hr : Dsk.read s (sname n) = (bs, k)) (hki : (k : Int) = ki) :
    Calls Tryz.prog 16 #[.pointer (some ⟨p, 0, none⟩), .string n] w (ReadOwn B p s bs ki w) := by
  have hBw := hd.le
  obtain ⟨mb, rs, h⟩ := hd.at_
  have hfiles := h.files
  rcases hlk : lookV s rs [n] with ⟨o, e⟩
  have hlo := look_one0 hfiles n hlk
  cases o with
  | some r =>
    obtain ⟨rfl, hfind⟩ := lookV_rec hlk
    have hres : Dsk.read s (sname n) = (r.file.now, 0) := by unfold Dsk.read; simp only [hlo]; rfl
    rw [hres] at hr
    injection hr with hr1 hr2
    subst hr1; subst hr2; subst hki
    clear hres hlo
    have HFI := Lib.hid hfind; clear hfind
    go_enter Tryz.func16, Tryz.ntmps16
    go_wp2_with fail
    (with_reducible refine (lookd_one h n hn hlk _ rfl).mono ?_); rintro x w1 ⟨rfl, h1, hf1⟩
    have HF := Lib.hid hf1; clear hf1
    obtain ⟨hname, hmem⟩ := findR_some HFI.out
    obtain ⟨hb, hF, hA, hB, hc1, hc2, hc3, hc4, hsm⟩ := h1.recs r hmem
    have c0 : w1.cell? ⟨r.fb, 0, none⟩ = some (.slice r.A r.file.now.length r.c) := hb.cell 0
    have HSM := Lib.hid hsm; clear hsm hname
    unfold ptrOf
    go_wp2_with fail
    (with_reducible refine (Clone_any _ _ _ (small_ok HSM.out).1 _ hA.sl).mono ?_); rintro x w2 ⟨⟨A', c', rfl, hown⟩, hb2⟩
    have HOWN := Lib.hid hown; clear hown
    go_wp2_with fail
    go_ret2
    exact ⟨A', c', rfl, HOWN.out.base_ HF.out.size, ⟨⟨mb, rs, h1.below hb2⟩, Nat.le_trans hBw (Nat.le_trans HF.out.size hb2.size)⟩, HF.out.trans (hb2.mono HF.out.size)⟩
  | none =>
    have hne := lookV_none_ne hlk
    have hres : Dsk.read s (sname n) = ([], e) := by unfold Dsk.read; simp only [hlo]; rfl
    rw [hres] at hr
    injection hr with hr1 hr2
    subst hr1; subst hr2; subst hki
    clear hres hlo
    have t1 : ((e : Int) != 0) = true := by rw [bne_iff_ne]; omega
    have HNE := Lib.hid hne; clear hne
    go_enter Tryz.func16, Tryz.ntmps16
    go_wp2_with fail
    (with_reducible refine (lookd_one h n hn hlk _ rfl).mono ?_); rintro x w1 ⟨rfl, h1, hf1⟩
    have HF := Lib.hid hf1; clear hf1
    unfold ptrOf
    go_wp2_with fail
    go_ret2
    exact ⟨none, 0, rfl, Own.nil, ⟨⟨mb, rs, h1⟩, Nat.le_trans hBw HF.out.size⟩, HF.out⟩

section
variable {G : Nat → Prop} {B p bm : Nat} {s t s' t' : S} {w w' : World}
theorem DX.setIn (h : DX G B p s w) {q : Addr} (hq : G q.block) (u : Value) : DX G B p s (w.setCell q u) := by
  obtain ⟨mb, rs, h0⟩ := h.at_
  exact ⟨⟨mb, rs, h0.frm (G := fun g => g = q.block) ((Frm.refl (fun g => g = q.block) w).setCell (p := q) (fun _ => rfl) u) (fun g hg e => hg.2 (e ▸ hq))⟩, by rw [World.size_setCell]; exact h.le, fun g hg => by rw [World.size_setCell]; exact h.old g hg⟩
/-- a law's disk beside the document's one (in the box bm); G are the blocks of the latter -/
structure Pl (G : Nat → Prop) (B p bm : Nat) (s t : S) (w : World) : Prop where
  dx : DX G B p s w
  box : G bm
  big : B ≤ bm
  ref : ∃ A c rs, Blk w bm 32 #[.slice A rs.length c, .bool t.down, .int .i64 t.fuse] ∧ Files G w A rs ∧ rs.map RFile.file = t.files
theorem Pl.below (h : Pl G B p bm s t w) (hb : Below w.heap.size w w') : Pl G B p bm s t w' := by
  obtain ⟨A, c, rs, h1, h2, h3⟩ := h.ref
  exact ⟨h.dx.below hb, h.box, h.big, A, c, rs, h1.below hb h1.lt, h2.below hb, h3⟩
theorem Pl.op (h : Pl G B p bm s t w) (h1 : DX G B p s' w') (hb : Below B w w') (hk : Kept G w w') : Pl G B p bm s' t w' := by
  obtain ⟨A, c, rs, h2, h3, h4⟩ := h.ref
  exact ⟨h1, h.box, h.big, A, c, rs, (hk _ h.box).trans h2, h3.frm (frm_of_kept hb hk) (fun g hg hn => hn hg), h4⟩
def nextG (G : Nat → Prop) (w w' : World) : Nat → Prop := fun g => up G w g ∧ g < w'.heap.size
theorem Pl.put (h : Pl G B p bm s t w) (hb : Below w.heap.size w w') {A : Option Addr} {c : Nat} {rs : List RFile} (hf : Files (up G w) w' A rs) (hm : rs.map RFile.file = t'.files) :
    Pl (nextG G w w') B p bm s t' (((w'.setCell ⟨bm, 0, none⟩ (.slice A rs.length c)).setCell ⟨bm, 1, none⟩ (.bool t'.down)).setCell ⟨bm, 2, none⟩ (.int .i64 t'.fuse)) := by
  obtain ⟨A0, c0, rs0, h1, _, _⟩ := h.ref
  have h2 := h1.below hb h1.lt
  have hin : nextG G w w' bm := ⟨.inl h.box, h2.lt⟩
  have hd := (h.dx.protect (G2 := fun g => w.heap.size ≤ g ∧ g < w'.heap.size) hb (fun g hg => hg)).weaken (F := nextG G w w') (fun g hg => hg.1.imp id (fun h3 => ⟨h3, hg.2⟩))
  have hs0 := h2.set_ 0 (.slice A rs.length c)
  have hs1 := hs0.set_ 1 (.bool t'.down)
  have hs2 := hs1.set_ 2 (.int .i64 t'.fuse)
  have hf0 : Files (nextG G w w') w' A rs := hf.mono (fun g hl hg => ⟨hg, hl⟩)
  exact ⟨((hd.setIn (q := ⟨bm, 0, none⟩) hin _).setIn (q := ⟨bm, 1, none⟩) hin _).setIn (q := ⟨bm, 2, none⟩) hin _, hin, h.big, A, c, rs, hs2,
    ((hf0.far h2 (by decide) (by decide) 0 _).far hs0 (by decide) (by decide) 1 _).far hs1 (by decide) (by decide) 2 _, hm⟩
theorem Pl.fuse (h : Pl G B p bm s t w) (k : Nat) : Pl G B p bm s { t with fuse := k } (w.setCell ⟨bm, 2, none⟩ (.int .i64 k)) := by
  obtain ⟨A, c, rs, h1, h2, h3⟩ := h.ref
  exact ⟨h.dx.setIn (q := ⟨bm, 2, none⟩) h.box _, h.box, h.big, A, c, rs, h1.set_ 2 _, h2.far h1 (by decide) (by decide) 2 _, h3⟩
theorem X_Fail (h : DX G B p s w) (n : Int) (hn : (Lit.int .i64 n).wf = true) :
    Calls Tryz.prog 10 #[.pointer (some ⟨p, 0, none⟩), .int .i64 n] w fun e w' => e = .returned (.tuple #[]) ∧ DX G B p { s with fuse := n.toNat } w' ∧ Below B w w' ∧ Kept G w w' :=
  (Fail_any h.at_ n hn).mono fun _ _ ⟨he, hd, hf⟩ => by
    have h2 := frmX h.le h.old hf
    exact ⟨he, ⟨hd, Nat.le_trans h.le hf.size, fun g hg => Nat.lt_of_lt_of_le (h.old g hg) hf.size⟩, h2.1, h2.2⟩
theorem Pl.inv (h : Pl G B p bm s t w) : s.files.length ≤ 256 ∧ s.fuse ≤ 9223372036854775807 ∧ Sorted s.files := by
  obtain ⟨mb, rs', hr⟩ := h.dx.at_
  exact ⟨hr.count, hr.fuse, hr.sorted⟩
/-- the document's disk, taken out of its box -/
theorem Pl.open_ (h : Pl G B p bm s t w) (hc : t.files.length ≤ 256) : ∃ A c rs, Blk w bm 32 #[.slice A rs.length c, .bool t.down, .int .i64 t.fuse] ∧ Files G w A rs ∧ rs.map RFile.file = t.files ∧ rs.length ≤ 256 := by
  obtain ⟨A, c, rs, h1, h2, h3⟩ := h.ref
  refine ⟨A, c, rs, h1, h2, h3, ?_⟩
  rw [← h3, List.length_map] at hc; exact hc
end
end Go.Proofs.YtfpomllhkbbipaaGreat
