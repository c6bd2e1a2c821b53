/- Layer 5: the document's example. -/
import Derived.Test.YtepkjnhijocojaaDskL
namespace Go.Proofs.Ytepkjnhijocojaa
open Go.RowKit Go.Maps Mem Dsk

theorem Mem.SlB.lit {α : Type} {f : α → Value} {w : World} {e : TypeId} (xs : List α) (cs : Array Value) (hcs : cs = (xs.map f).toArray) (h : xs.length ≤ maxLen) : SlB f e (fun g => g = w.heap.size) (w.alloc (.cells cs e)) (some ⟨w.heap.size, 0, none⟩) xs := by
  subst hcs
  exact ⟨h, fun _ => ⟨_, _, _, _, rfl, rfl, heap_alloc_new w _, fun j hj => by simp [hj]⟩⟩
theorem Mem.Own.slB {α : Type} {f : α → Value} {w : World} {xs : List α} {base : Nat} {e : TypeId} {g n c : Nat} (h : Own f base e w (.slice (some ⟨g, 0, none⟩) n c) xs) : SlB f e (fun k => k = g) w (some ⟨g, 0, none⟩) xs := by
  obtain ⟨h1, h2⟩ := SlB.of_own h
  refine ⟨h2.1, fun hn => ?_⟩
  obtain ⟨b, o, cur, fr, e1, _, hb, hc⟩ := h2.2 hn
  injection e1 with e1; injection e1 with e1 e2
  subst e1; subst e2
  exact ⟨g, 0, cur, fr, rfl, rfl, hb, hc⟩
theorem Mem.SlB.under {α : Type} {f : α → Value} {w w' : World} {A : Option Addr} {xs : List α} {B : Nat} {e : TypeId} (h : SlB f e (fun g => g < B) w A xs) (hb : Below B w w') : SlB f e (fun g => g < B) w' A xs := h.keep fun g _ _ hg _ => hb.block g hg
theorem Mem.Sl.old {α : Type} {f : α → Value} {w : World} {A : Option Addr} {xs : List α} (h : Sl f w A xs) : ∃ e, SlB f e (fun g => g < w.heap.size) w A xs := SlB.any h (fun _ h => h)
theorem wf_i64 {n : Int} (h1 : -9223372036854775808 ≤ n) (h2 : n ≤ 9223372036854775807) : (Lit.int .i64 n).wf = true := by
  have e1 : IntKind.i64.min = -9223372036854775808 := rfl
  have e2 : IntKind.i64.max = 9223372036854775807 := rfl
  simp [Lit.wf, e1, e2, h1, h2]
theorem wf_small {n : Int} (h1 : -1000000000 ≤ n) (h2 : n ≤ 1000000000) : (Lit.int .i64 n).wf = true := wf_i64 (by omega) (by omega)
theorem maxLen_small {n : Nat} (h : n ≤ 1000000) : n ≤ maxLen := by unfold maxLen; omega
def nA : ByteArray := ⟨#[97]⟩
theorem sz97 : (⟨#[97]⟩ : ByteArray).size ≤ maxLen := maxLen_small (by decide)
def aS1 : S := ⟨[⟨[97], [], []⟩], false, 0⟩
def aS2 : S := ⟨[⟨[97], List.replicate 40 0, []⟩], false, 0⟩
def aS3 : S := ⟨[⟨[97], List.replicate 40 0, List.replicate 40 0⟩], false, 0⟩
def aS4 : S := ⟨[⟨[97], List.replicate 40 0 ++ List.replicate 40 7, List.replicate 40 0⟩], false, 0⟩
def aBytes : List UInt8 := List.replicate 64 0 ++ List.replicate 16 7
def aS5 : S := ⟨[⟨[97], aBytes, aBytes⟩], false, 0⟩
theorem aBytes_len : aBytes.length = 80 := rfl
theorem a1 : Dsk.create s0 (sname ⟨#[97]⟩) = (aS1, 0) := rfl
theorem a2 : Dsk.write aS1 (sname ⟨#[97]⟩) 0 (List.replicate 40 0) = (aS2, 0) := rfl
theorem a3 : Dsk.sync aS2 (sname ⟨#[97]⟩) = (aS3, 0) := rfl
theorem a4 : Dsk.write aS3 (sname ⟨#[97]⟩) 40 (List.replicate 40 7) = (aS4, 0) := rfl
theorem a5 : looseN aS4 = 2 := by decide
theorem a6 : Dsk.crash aS4 [false, true] = aS5 := by kernel_rfl
theorem a7 : Dsk.read aS5 (sname ⟨#[97]⟩) = (aBytes, 0) := rfl
theorem fill_step {α : Type} (a b : α) {k n : Nat} (h : k < n) : (List.replicate k a ++ List.replicate (n - k) b).set k a = List.replicate (k + 1) a ++ List.replicate (n - (k + 1)) b := by
  apply List.ext_getElem
  · simp; omega
  · intro i h1 h2
    simp at h1
    rw [List.getElem_set]
    by_cases e : k = i
    · subst e; rw [if_pos rfl, List.getElem_append_left (by simp)]; simp
    · rw [if_neg e]
      by_cases e2 : i < k
      · rw [List.getElem_append_left (by simp; omega), List.getElem_append_left (by simp; omega)]; simp
      · rw [List.getElem_append_right (by simp; omega), List.getElem_append_right (by simp; omega)]; simp
def FillRel (w : World) (xs : Nat → List UInt8) (g n : Nat) (iv : Value) (wr : World) : Prop :=
  ∃ k : Nat, k ≤ n ∧ iv = .int .i64 k ∧ Own fB w.heap.size 5 wr (.slice (some ⟨g, 0, none⟩) n n) (xs k) ∧ Below w.heap.size w wr
theorem i64_one : ((1 : Nat) : Int) = 1 := rfl
set_option maxRecDepth 100000 in
set_option maxHeartbeats 4000000 in
theorem alive_any (w : World) : Calls Try.prog 10 #[] w fun e w' => e = .returned (.bool true) ∧ Below w.heap.size w w' := by
  have hmk := run_makeT (P := Try.prog) u8T rfl .i64 .i64 40 40 rfl (by decide) (by decide)
  go_enter Try.func10, Try.ntmps10
  go_wp2_with fail
  (with_reducible refine (L_New w w.heap.size (Nat.le_refl _)).mono ?_); rintro e w1 ⟨p, rfl, hd1, hp, hb1⟩
  have HB1 := Lib.hid hb1; clear hb1
  go_wp2_with fail
  (with_reducible refine (L_Create hd1 _ sz97 (ki := 0) a1 rfl).mono ?_); rintro e w2 ⟨rfl, hd2, hb2⟩
  have HB2 : Hid (Below w.heap.size w w2) := HB1.out.trans hb2
  clear hb2 hd1 HB1
  have hm2 : Own fB w2.heap.size 5 (w2.alloc (.cells (zerosA (.int .u8 0) 40) 5)) (.slice (some ⟨w2.heap.size, 0, none⟩) 40 40) (List.replicate 40 0) := Own.made_ 0 40 (maxLen_small (by decide)) (Nat.le_refl _)
  have ha2 := (Below.refl w2.heap.size w2).alloc (Nat.le_refl _) (.cells (zerosA (.int .u8 0) 40) 5)
  have hp2 := hd2.lt
  have hw := L_Write (hd2.below ha2) (⟨#[97]⟩ : ByteArray) sz97 0 (by decide) (c := 40) hm2.slB (by omega) (ki := 0) a2 rfl
  rw [List.length_replicate] at hw
  have HW := Lib.hid hw; clear hw hm2
  have HA2 := Lib.hid ha2; clear ha2
  go_wp2_with fail
  (with_reducible refine HW.out.mono ?_); rintro e w3 ⟨rfl, hd3, hb3⟩
  have HB3 : Hid (Below w.heap.size w w3) := (HB2.out.trans (HA2.out.mono HB2.out.size)).trans hb3
  clear hb3 hd2 HB2 HA2 hp2 HW
  go_wp2_with fail
  (with_reducible refine (L_Sync hd3 _ sz97 (ki := 0) a3 rfl).mono ?_); rintro e w4 ⟨rfl, hd4, hb4⟩
  have HB4 : Hid (Below w.heap.size w w4) := HB3.out.trans hb4
  clear hb4 hd3 HB3
  go_wp2_with fail
  go_loopw [30] (fun iv wr => FillRel w4 (fun k => List.replicate k 7 ++ List.replicate (40 - k) 0) w4.heap.size 40 iv wr) (fun iv _ => 40 - (intOf iv).toNat)
  case atStart => exact ⟨0, Nat.zero_le _, rfl, Own.made_ (f := fB) 0 40 (maxLen_small (by decide)) (Nat.le_refl _), (Below.refl _ _).alloc (Nat.le_refl _) _⟩
  case round =>
    obtain ⟨k, hk, rfl, hown, hbw⟩ := hrel
    have HOWN := Lib.hid hown; clear hown
    have HBW := Lib.hid hbw; clear hbw
    by_cases hlt : k < 40
    · obtain ⟨g, hg, _, _, hcell, hfz⟩ := HOWN.out.slot (k := k) (by simp; omega)
      injection hg with hg; injection hg with hg
      subst hg
      go_wp2_with fail
      go_roundw
      case rel => exact ⟨k + 1, by omega, by go_num, by have := HOWN.out.set_ (k := k) (by simp; omega) (7 : UInt8); rw [fill_step _ _ hlt] at this; exact this, HBW.out.setCell (Nat.le_refl _) _⟩
      case measure => simp [intOf]; omega
    · have hk4 : k = 40 := by omega
      have HO : Hid (Own fB w4.heap.size 5 wr (.slice (some ⟨w4.heap.size, 0, none⟩) 40 40) (List.replicate 40 7)) := by
        have := HOWN.out; rw [hk4] at this; exact this
      clear hk4 HOWN
      have hp4 := hd4.lt
      have hw := L_Write (hd4.below HBW.out) (⟨#[97]⟩ : ByteArray) sz97 40 (by decide) (c := 40) HO.out.slB (by omega) (ki := 0) a4 rfl
      rw [List.length_replicate] at hw
      have HW := Lib.hid hw; clear hw
      have HB5 : Hid (Below w.heap.size w wr) := HB4.out.trans (HBW.out.mono HB4.out.size)
      clear HBW HB4 hd4 hp4 HO
      go_wp2_with fail
      (with_reducible refine HW.out.mono ?_); rintro e w5 ⟨rfl, hd5, hb5⟩
      have HB6 : Hid (Below w.heap.size w w5) := HB5.out.trans hb5
      clear HB5 hb5 HW
      go_wp2_with fail
      (with_reducible refine (L_Loose hd5 (k := 2) (by rw [a5]; decide)).mono ?_); rintro e w6 ⟨rfl, hd6, hb6⟩
      have HB7 : Hid (Below w.heap.size w w6) := HB6.out.trans (hb6.mono HB6.out.size)
      clear HB6 hb6 hd5
      have ha6 := (Below.refl w6.heap.size w6).alloc (Nat.le_refl _) (.cells #[.bool false, .bool true] 4)
      have hc := L_Crash (hd6.below ha6) (c := 2) (SlB.lit (f := fBool) (e := 4) [false, true] #[.bool false, .bool true] rfl (maxLen_small (by decide))) (.inl (by decide)) a6
      rw [show [false, true].length = 2 from rfl] at hc
      have HC := Lib.hid hc; clear hc
      have HB8 : Hid (Below w.heap.size w (w6.alloc (.cells #[.bool false, .bool true] 4))) := HB7.out.trans (ha6.mono HB7.out.size)
      clear HB7 ha6 hd6
      go_wp2_with fail
      (with_reducible refine HC.out.mono ?_); rintro e w7 ⟨rfl, hd7, hb7⟩
      have HB9 : Hid (Below w.heap.size w w7) := HB8.out.trans hb7
      clear HB8 hb7 HC
      go_wp2_with fail
      (with_reducible refine (L_Read hd7 _ sz97 (ki := 0) a7 rfl).mono ?_); rintro e w8 ⟨A8, c8, rfl, hs8, hc8, hc9, hd8, hb8⟩
      have HB10 : Hid (Below w.heap.size w w8) := HB9.out.trans (hb8.mono HB9.out.size)
      clear HB9 hb8 hd7
      obtain ⟨b8, o8, rfl, hcell⟩ := hs8.at (k := 63) (by decide)
      obtain ⟨b9, o9, he, hcell2⟩ := hs8.at (k := 64) (by decide)
      injection he with he; injection he with he1 he2
      subst he1; subst he2
      have c63 : w8.cell? ⟨b8, o8 + 63, none⟩ = some (.int .u8 0) := hcell
      have c64 : w8.cell? ⟨b8, o8 + 64, none⟩ = some (.int .u8 7) := hcell2
      have hal := aBytes_len
      clear hcell hcell2 hs8
      go_wp2_with fail
      (with_reducible refine (L_Names hd8).mono ?_); rintro e w9 ⟨A9, c9, rfl, _, hd9, hb9⟩
      have HB11 : Hid (Below w.heap.size w w9) := HB10.out.trans (hb9.mono HB10.out.size)
      have hnl : (snames aS5).length = 1 := rfl
      clear HB10 hb9
      go_wp2_with fail
      (with_reducible refine (L_Down hd9 (k := false) rfl).mono ?_); rintro e w' ⟨rfl, rfl⟩
      go_wp2_with fail
      go_ret
      exact ⟨rfl, HB11.out⟩
end Go.Proofs.Ytepkjnhijocojaa
