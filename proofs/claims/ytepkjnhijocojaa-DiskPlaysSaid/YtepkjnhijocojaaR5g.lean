/- Layer 5's document: a file's loose sectors. -/
import Derived.Test.YtepkjnhijocojaaR5f
import Derived.Test.YtepkjnhijocojaaByt
import Derived.Test.YtepkjnhijocojaaDskI
import Derived.Deep.RegionHeld3
namespace Go.Proofs.Ytepkjnhijocojaa
open Go.RowKit Go.Maps Mem Dsk

theorem below_drew (w : World) : Below w.heap.size w w.drew := ⟨rfl, rfl, rfl, Nat.le_refl _, fun _ _ => rfl⟩
theorem held_mk {wr W : World} {g : Nat} {t : TypeId} {v0 v1 v2 : Value} (h : Blk wr g t #[v0, v1, v2]) (hb : Below wr.heap.size wr W) : W.cell? ⟨g, 1, none⟩ = some v1 ∧ W.cell? ⟨g, 2, none⟩ = some v2 ∧ Below wr.heap.size wr W :=
  ⟨(h.below hb h.lt).cell 1, (h.below hb h.lt).cell 2, hb⟩
set_option maxRecDepth 100000 in
set_option maxHeartbeats 2000000 in
theorem rLoose_any {G : Nat → Prop} {w : World} (r : RFile) (h : RFok G w r) :
    Calls Try.prog 44 #[.agg #[.string ⟨r.file.name.toArray⟩, .slice r.A r.file.now.length r.c, .slice r.B r.file.safe.length r.d]] w fun e w' => ∃ A c, e = .returned (.slice A (loose r.file).length c) ∧ Own fN w.heap.size 3 w' (.slice A (loose r.file).length c) (loose r.file) ∧ Below w.heap.size w w' := by
  have hlen : r.file.now.length ≤ 65536 := h.sz.1
  have hlen2 : r.file.safe.length ≤ 65536 := h.sz.2.1
  have H := Lib.hid h; clear h
  have hnew := Blk.new_ w 83 #[.string ⟨r.file.name.toArray⟩, .slice r.A r.file.now.length r.c, .slice r.B r.file.safe.length r.d]
  obtain ⟨wa, hwa⟩ : ∃ x, x = w.alloc (.cells #[.string ⟨r.file.name.toArray⟩, .slice r.A r.file.now.length r.c, .slice r.B r.file.safe.length r.d] 83) := ⟨_, rfl⟩
  have hab : Below w.heap.size w wa := by rw [hwa]; exact (Below.refl _ _).alloc (Nat.le_refl _) _
  rw [← hwa] at hnew
  have HA : Hid (RFok G wa r) := H.out.below hab
  have HWA := Lib.hid hwa; clear hwa
  have HAB := Lib.hid hab; clear hab
  have HNEW := Lib.hid hnew; clear hnew
  have HL := Lib.hid hlen; clear hlen
  have HL2 := Lib.hid hlen2; clear hlen2
  go_enter Try.func44, Try.ntmps44
  go_upto_region 1 with fail
  rw [← HWA.out]
  go_wp2_with fail
  go_loopw [3, 4] (fun ov iv wr => LooseRel r.file wa wa.heap.size ov iv wr) (fun _ iv _ => (r.file.now.length + 31) / 32 - (intOf iv).toNat)
  case atStart => exact ⟨0, Nat.zero_le _, rfl, Own.mk_ (Nat.le_refl _), (Below.refl _ _).alloc (Nat.le_refl _) _⟩
  case round =>
    obtain ⟨k, hk, rfl, hown, hbw⟩ := hrel
    have hbk := HNEW.out.below hbw HNEW.out.lt
    have c1 : wr.cell? ⟨w.heap.size, 1, none⟩ = some (.slice r.A r.file.now.length r.c) := hbk.cell 1
    have c2 : wr.cell? ⟨w.heap.size, 2, none⟩ = some (.slice r.B r.file.safe.length r.d) := hbk.cell 2
    have hA := HA.out.below hbw
    have HR := Lib.hid hA; clear hA
    have hk3 : k ≤ 2048 := by have := HL.out; omega
    have HBK := Lib.hid hbk; clear hbk
    have HOWN := Lib.hid hown; clear hown
    have HBW := Lib.hid hbw; clear hbw
    by_cases hlt : k * 32 < r.file.now.length
    · have hlt' : (k : Int) * 32 < (r.file.now.length : Int) := by omega
      have hP1 : ∀ W, Below wr.heap.size wr W → Calls Try.prog 43 #[.slice r.A r.file.now.length r.c, .int .i64 ((k : Int) * 32), .int .i64 ((k : Int) * 32 + 32)] W fun e w' => Made W.heap.size (sector r.file.now k) e w' ∧ Below W.heap.size W w' ∧ Below wr.heap.size wr w' := by
        intro W hb
        have := rpart_any r.A r.c r.file.now ((k : Int) * 32) ((k : Int) * 32 + 32) (k * 32) (k * 32 + 32) (by omega) (by omega) (by omega) (by omega) W (HR.out.below hb).now.sl (by have := HL.out; have h2 : r.file.now.length ≤ 65536 := this; omega)
        rw [piece_sector] at this; exact this.mono (fun e w' h => ⟨h.1, h.2, hb.trans (h.2.mono hb.size)⟩)
      have hP2 : ∀ W, Below wr.heap.size wr W → Calls Try.prog 43 #[.slice r.B r.file.safe.length r.d, .int .i64 ((k : Int) * 32), .int .i64 ((k : Int) * 32 + 32)] W fun e w' => Made W.heap.size (sector r.file.safe k) e w' ∧ Below W.heap.size W w' ∧ Below wr.heap.size wr w' := by
        intro W hb
        have := rpart_any r.B r.d r.file.safe ((k : Int) * 32) ((k : Int) * 32 + 32) (k * 32) (k * 32 + 32) (by omega) (by omega) (by omega) (by omega) W (HR.out.below hb).safe.sl (by have := HL2.out; have h2 : r.file.safe.length ≤ 65536 := this; omega)
        rw [piece_sector] at this; exact this.mono (fun e w' h => ⟨h.1, h.2, hb.trans (h.2.mono hb.size)⟩)
      have HP1 := Lib.hid hP1; clear hP1
      have HP2 := Lib.hid hP2; clear hP2
      have s1 : IntKind.i64.wrap ((k : Int) * 32) = (k : Int) * 32 := IntWalk.i64_in _ (by omega)
      have s2 : IntKind.i64.wrap ((k : Int) * 32 + 32) = (k : Int) * 32 + 32 := IntWalk.i64_in _ (by omega)
      obtain ⟨xs, hxs⟩ : ∃ x, x = sector r.file.now k := ⟨_, rfl⟩
      obtain ⟨ys, hys⟩ : ∃ x, x = sector r.file.safe k := ⟨_, rfl⟩
      rw [← hxs] at HP1
      rw [← hys] at HP2
      obtain ⟨q, hq⟩ : ∃ q, q = decide (xs = ys) := ⟨_, rfl⟩
      have hil : isLoose r.file k = !q := by rw [hq, hxs, hys]; unfold isLoose; by_cases e : sector r.file.now k = sector r.file.safe k <;> simp [e]
      have hsb : ∀ (A : Option Addr) (c : Nat) (B : Option Addr) (d : Nat) (W : World), Sl fB W A xs → Sl fB W B ys → Calls Try.prog 20 #[.slice A xs.length c, .slice B ys.length d] W (Quiet (.bool q) W) := fun A c B d W h1 h2 => by rw [hq]; exact SameBytes_any A B c d xs ys W h1 h2
      have HIL := Lib.hid hil
      have HSB := Lib.hid hsb
      clear hxs hys hil hsb hq
      go_upto_region 5 with fail
      have hdr := below_drew wr
      go_region_held3 (fun W => W.cell? ⟨w.heap.size, 1, none⟩ = some (.slice r.A r.file.now.length r.c) ∧ W.cell? ⟨w.heap.size, 2, none⟩ = some (.slice r.B r.file.safe.length r.d) ∧ Below wr.heap.size wr W) (first | exact held_mk HBK.out (by assumption) | exact held_mk HBK.out (below_drewN (by assumption) _))
        (first | (go_at_call 43; (with_reducible refine (HP1.out _ ?_).mono ?_); (assumption); rintro e wN ⟨⟨AN, cN, rfl, hsN⟩, hbN, hBN⟩)
               | (go_at_call 43; (with_reducible refine (HP2.out _ ?_).mono ?_); (assumption); rintro e wS ⟨⟨AS, cS, rfl, hsS⟩, hbS, hBS⟩)
               | (go_at_call 20; (with_reducible refine (HSB.out AN cN AS cS _ ?_ ?_).mono ?_); exact (hsN.below hbS).sl; exact hsS.sl; rintro e wq ⟨rfl, nq, rfl⟩)
               | (go_at_call 20; (with_reducible refine (HSB.out AN cN AS cS _ ?_ ?_).mono ?_); exact hsN.sl; exact (hsS.below hbN).sl; rintro e wq ⟨rfl, nq, rfl⟩))
      · have hbf := below_drewN hBS nq
        obtain ⟨wF, hwF⟩ : ∃ x, x = wS.drewN nq := ⟨_, rfl⟩
        rw [← hwF] at hbf ⊢
        have HF := Lib.hid hbf
        clear hbf hwF hbN hbS hBN hBS hsN hsS hdr c1 c2
        have HOWF := Lib.hid (Own.below HOWN.out HF.out)
        have HBF := Lib.hid (HBW.out.trans (HF.out.mono HBW.out.size))
        cases q
        · have HLP := Lib.hid (loosePre_yes HIL.out)
          have hpl := loosePre_len r.file k
          go_wp2_with (at_builtin; refine wpList_append1 (f := fN) rfl _ _ _ rfl intT k (fN_one k) rfl HOWF.out rfl rfl (by unfold maxLen; omega) (by omega) HBF.out.size ?_; intro v2 w2 hown2 hb2)
          go_roundw
          case rel => exact ⟨k + 1, by omega, by go_num, by rw [HLP.out]; exact hown2, HBF.out.trans hb2⟩
          case measure => simp [intOf]; omega
        · have HLP := Lib.hid (loosePre_no HIL.out)
          go_wp2_with fail
          go_roundw
          case rel => exact ⟨k + 1, by omega, by go_num, by rw [HLP.out]; exact HOWF.out, HBF.out⟩
          case measure => simp [intOf]; omega
    · have hlt' : ¬ (k : Int) * 32 < (r.file.now.length : Int) := by omega
      have hkk : k = (r.file.now.length + 31) / 32 := by omega
      have HKK := Lib.hid hkk; clear hkk
      obtain ⟨A1, c2, rfl⟩ := HOWN.out.form
      go_wp2_with fail
      go_ret
      have ho := HOWN.out
      have e := loosePre_all r.file
      rw [← HKK.out] at e
      rw [e] at ho
      exact ⟨A1, c2, by rw [e]; rfl, ho.base HAB.out.size, HAB.out.trans (HBW.out.mono HAB.out.size)⟩
end Go.Proofs.Ytepkjnhijocojaa
