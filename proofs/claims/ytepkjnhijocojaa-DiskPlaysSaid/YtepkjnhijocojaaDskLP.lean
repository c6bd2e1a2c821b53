/- Layer 5: the walk of the law DiskPower. -/
import Derived.Test.YtepkjnhijocojaaDskA
import Derived.Test.YtepkjnhijocojaaDskQ
import Derived.Laws.BitsAllLaws
import Derived.Laws.BitsLemmas
import Derived.Deep.DeepCutAuto
namespace Go.Proofs.Ytepkjnhijocojaa
open Go.RowKit Go.Maps Mem Dsk

theorem and_small (x : Int) (c : Nat) (hc : c < 9223372036854775808) : ∃ m : Nat, m ≤ c ∧ bits .and .i64 x (c : Int) = (m : Int) := by
  refine ⟨(BitVec.ofInt 64 x &&& BitVec.ofInt 64 (c : Int)).toNat, ?_, ?_⟩
  · rw [BitVec.toNat_and, BitVec.ofInt_natCast, BitVec.toNat_ofNat, Nat.mod_eq_of_lt (by omega)]
    exact Nat.and_le_right
  · show IntKind.i64.wrap ((BitVec.ofInt 64 x &&& BitVec.ofInt 64 (c : Int)).toNat : Int) = _
    have : (BitVec.ofInt 64 x &&& BitVec.ofInt 64 (c : Int)).toNat ≤ c := by
      rw [BitVec.toNat_and, BitVec.ofInt_natCast, BitVec.toNat_ofNat, Nat.mod_eq_of_lt (by omega)]
      exact Nat.and_le_right
    rw [IntKind.wrap_i64]
    omega
theorem sn97 : sname ⟨#[97]⟩ = [97] := rfl
theorem sn98 : sname ⟨#[98]⟩ = [98] := rfl
theorem sz98 : (⟨#[98]⟩ : ByteArray).size ≤ maxLen := maxLen_small (by decide)
def PowRel (B p : Nat) (w : World) (bs : List UInt8) (n : Nat) (iv : Value) (wr : World) : Prop :=
  ∃ k : Nat, 1 ≤ k ∧ k ≤ n ∧ iv = .int .i64 k ∧ D B p (pS bs n k) wr ∧ Below B w wr
set_option maxRecDepth 100000 in
set_option maxHeartbeats 4000000 in
theorem diskPower_walk {w : World} (x : Int) (wx : (Lit.int .i64 x).wf = true) (A : Option Addr) (c : Nat) (bs : List UInt8) (hc : bs.length ≤ c) (_ : c ≤ maxLen) (hs : Sl fB w A bs) (_ : ∀ x ∈ bs, True) (_ : Room 1 bs.length) :
    Calls Try.prog 4 #[.int .i64 x, .slice A bs.length c] w fun e w' => e = .returned (.bool true) ∧ Below w.heap.size w w' := by
  obtain ⟨m, hm7, hm⟩ := and_small x 7 (by decide)
  have hm : bits .and .i64 x 7 = (m : Int) := hm
  have hl := hs.len
  go_enter Try.func4, Try.ntmps4
  go_wp2_with fail
  (with_reducible refine (L_New w w.heap.size (Nat.le_refl _)).mono ?_); rintro e w1 ⟨p, rfl, hd1, hp, hb1⟩
  go_wp2_with fail
  (with_reducible refine (alive_any w1).mono ?_); rintro e w2 ⟨rfl, hb2⟩
  have hd2 := hd1.below hb2
  have HB2 : Hid (Below w.heap.size w w2) := hb1.trans (hb2.mono hb1.size)
  clear hb1 hb2 hd1
  go_upto_if 24 with fail
  go_cut [1] (fun s1 wx => ∃ bs' : List UInt8, s1 = .slice A bs'.length c ∧ Sl fB w A bs' ∧ bs'.length ≤ 500 ∧ wx = w2)
  case first =>
    by_cases h5 : 500 < bs.length
    · have h5c : 500 ≤ c := by omega
      have e5 : (bs.take 500).length = 500 := by rw [List.length_take]; omega
      have E5 := Lib.hid e5; clear e5
      go_wp2_with fail
      go_meet
      exact ⟨bs.take 500, by rw [E5.out], hs.pre, by rw [E5.out]; exact Nat.le_refl _, rfl⟩
    · go_wp2_with fail
      go_meet
      exact ⟨bs, rfl, hs, by omega, rfl⟩
  case rest =>
    obtain ⟨bs', rfl, hs', hl', rfl⟩ := hcut
    obtain ⟨te, hsb⟩ := hs'.old
    clear hs hc hl hs'
    go_wp2_with fail
    (with_reducible refine (L_Create hd2 _ sz97 (ki := 0) a1 rfl).mono ?_); rintro e w3 ⟨rfl, hd3, hb3⟩
    have HB3 : Hid (Below w.heap.size w w3) := HB2.out.trans hb3
    clear HB2 hb3 hd2
    have hFa := L_Fail hd3 (1 + (m : Int)) (wf_small (by omega) (by omega))
    rw [show (1 + (m : Int)).toNat = m + 1 by omega] at hFa
    have HFa := Lib.hid hFa; clear hFa
    go_wp2_with fail
    (with_reducible refine HFa.out.mono ?_); rintro e w4 ⟨rfl, hd4, hb4⟩
    have hd5 : D w.heap.size p (pS bs' (m + 1) 1) w4 := hd4
    have HB4 : Hid (Below w.heap.size w w4) := HB3.out.trans hb4
    clear HB3 hb4 hd3 HFa hd4
    go_wp2_with fail
    go_loopw [6] (fun iv wr => PowRel w.heap.size p w bs' (m + 1) iv wr) (fun iv _ => m + 1 - (intOf iv).toNat)
    case atStart => exact ⟨1, Nat.le_refl _, by omega, rfl, hd5, HB4.out⟩
    case round =>
      obtain ⟨k, hk1, hk2, rfl, hd, hb⟩ := hrel
      have HB := Lib.hid hb; clear hb
      by_cases hlt : k < m + 1
      · have hlt' : (k : Int) < 1 + (m : Int) := by omega
        have hw := L_Write hd (⟨#[97]⟩ : ByteArray) sz97 0 (by decide) (c := c) (hsb.under HB.out) (Nat.not_lt.2 hd.ge) (ki := 0) (pS_write hk1 hlt hl') rfl
        have HW := Lib.hid hw; clear hw hd
        go_wp2_with fail
        (with_reducible refine HW.out.mono ?_); rintro e w6 ⟨rfl, hd6, hb6⟩
        have HB6 : Hid (Below w.heap.size w w6) := HB.out.trans hb6
        clear HB hb6 HW
        go_wp2_with fail
        (with_reducible refine (L_Down hd6 (k := false) rfl).mono ?_); rintro e w' ⟨rfl, rfl⟩
        go_wp2_with fail
        go_roundw
        case rel => exact ⟨k + 1, by omega, by omega, by go_num, hd6, HB6.out⟩
        case measure => simp [intOf]; omega
      · have hkm : k = m + 1 := by omega
        rw [hkm] at hd
        clear hkm
        have hlt' : ¬ (k : Int) < 1 + (m : Int) := by omega
        go_wp2_with fail
        obtain ⟨q, hq⟩ : ∃ q : Nat, q = looseN (pD bs' (m + 1)) := ⟨_, rfl⟩
        have HQ := Lib.hid hq; clear hq
        (with_reducible refine (L_Loose hd (k := (q : Int)) (by rw [HQ.out, pD_loose])).mono ?_); rintro e w6 ⟨rfl, hd6, hb6⟩
        have HB6 : Hid (Below w.heap.size w w6) := HB.out.trans (hb6.mono HB.out.size)
        clear HB hb6 hd
        go_wp2_with fail
        (with_reducible refine (L_Sync hd6 _ sz97 (ki := 50) (pS_sync (by omega)) rfl).mono ?_); rintro e w7 ⟨rfl, hd7, hb7⟩
        have HB7 : Hid (Below w.heap.size w w7) := HB6.out.trans hb7
        clear HB6 hb7 hd6
        go_wp2_with fail
        (with_reducible refine (L_Down hd7 (k := true) rfl).mono ?_); rintro e w' ⟨rfl, rfl⟩
        go_wp2_with fail
        (with_reducible refine (L_Create hd7 _ sz98 (ki := 50) (pD_create _ _ _) rfl).mono ?_); rintro e w8 ⟨rfl, hd8, hb8⟩
        have HB8 : Hid (Below w.heap.size w w8) := HB7.out.trans hb8
        clear HB7 hb8 hd7
        go_wp2_with fail
        (with_reducible refine (L_Loose hd8 (k := (q : Int)) (by rw [HQ.out])).mono ?_); rintro e w9 ⟨rfl, hd9, hb9⟩
        have HB9 : Hid (Below w.heap.size w w9) := HB8.out.trans (hb9.mono HB8.out.size)
        clear HB8 hb9 hd8
        go_wp2_with fail
        (with_reducible refine (L_Read hd9 _ sz97 (ki := 50) (pD_read _ _ _) rfl).mono ?_); rintro e w10 ⟨A10, c10, rfl, _, _, _, hd10, hb10⟩
        have HB10 : Hid (Below w.heap.size w w10) := HB9.out.trans (hb10.mono HB9.out.size)
        clear HB9 hb10 hd9
        have hc := L_Crash hd10 (K := none) (c := 0) (keep := []) (te := 0) (G := fun _ => False) SlB.nil (.inr (fun _ h => h.elim)) (pD_crash _ _)
        rw [List.length_nil] at hc
        have HC := Lib.hid hc; clear hc
        go_wp2_with fail
        (with_reducible refine HC.out.mono ?_); rintro e w11 ⟨rfl, hd11, hb11⟩
        have HB11 : Hid (Below w.heap.size w w11) := HB10.out.trans hb11
        clear HB10 hb11 hd10 HC
        go_wp2_with fail
        (with_reducible refine (L_Read hd11 _ sz97 (ki := 0) (show Dsk.read pE (sname ⟨#[97]⟩) = ([], 0) from rfl) rfl).mono ?_); rintro e w12 ⟨A12, c12, rfl, _, _, _, hd12, hb12⟩
        have HB12 : Hid (Below w.heap.size w w12) := HB11.out.trans (hb12.mono HB11.out.size)
        clear HB11 hb12 hd11
        go_wp2_with fail
        (with_reducible refine (L_Down hd12 (k := false) rfl).mono ?_); rintro e w' ⟨rfl, rfl⟩
        go_wp2_with fail
        (with_reducible refine (L_Create hd12 _ sz98 (ki := 0) (s' := pF) (k := 0) (by rw [sn98]; exact pE_create) rfl).mono ?_); rintro e w13 ⟨rfl, hd13, hb13⟩
        have HB13 : Hid (Below w.heap.size w w13) := HB12.out.trans hb13
        clear HB12 hb13 hd12
        go_wp2_with fail
        (with_reducible refine (L_Names hd13).mono ?_); rintro e w14 ⟨A14, c14, rfl, _, hd14, hb14⟩
        have HB14 : Hid (Below w.heap.size w w14) := HB13.out.trans (hb14.mono HB13.out.size)
        have hnl : (snames pF).length = 2 := rfl
        clear HB13 hb14
        go_wp2_with fail
        go_ret
        exact ⟨rfl, HB14.out⟩
end Go.Proofs.Ytepkjnhijocojaa
