/- Layer 7: HardRaw: the walk. -/
import Derived.Test.YtfpomllhkbbipaaHdWh
namespace Go.Proofs.Ytfpomllhkbbipaa
open Go Go.RowKit Go.Maps Go.Lib Mem Pk Dsk Hd

namespace Hd
def rw1 : S := ⟨[⟨nmH, [], []⟩], false, 0⟩
def rw2 (b : List UInt8) : S := ⟨[⟨nmH, b, []⟩], false, 0⟩
def rw3 (b : List UInt8) : S := ⟨[⟨nmH, b, []⟩, ⟨nmT, [], []⟩], false, 0⟩
def rw4 (b c : List UInt8) : S := ⟨[⟨nmH, b, []⟩, ⟨nmT, c, []⟩], false, 0⟩
theorem raw1 : create s0 nmH = (rw1, 0) := rfl
theorem raw2 {b : List UInt8} (h : b.length ≤ 3000) : write rw1 nmH 0 b = (rw2 b, 0) := by
  unfold write
  rw [step_idle rfl]
  simp only [look_found (s := rw1) (n := nmH) (f := ⟨nmH, [], []⟩) rfl nmH_ok rfl]
  rw [if_neg (by simp), if_neg (by omega)]
  simp [rw1, rw2, upd, over]
theorem raw3 (b : List UInt8) : create (rw2 b) nmT = (rw3 b, 0) := rfl
theorem raw4 {b c : List UInt8} (h : c.length ≤ 3000) : write (rw3 b) nmT 0 c = (rw4 b c, 0) := by
  unfold write
  rw [step_idle rfl]
  simp only [look_found (s := rw3 b) (n := nmT) (f := ⟨nmT, [], []⟩) rfl nmT_ok rfl]
  rw [if_neg (by simp), if_neg (by omega)]
  simp [rw3, rw4, upd, over, nmH, nmT]
theorem raw5 (b c : List UInt8) (keep : List Bool) : ∃ b' c', crash (rw4 b c) keep = ⟨[⟨nmH, b', b'⟩, ⟨nmT, c', c'⟩], false, 0⟩ := ⟨_, _, rfl⟩
theorem raw6 (b' c' : List UInt8) : openH ⟨[⟨nmH, b', b'⟩, ⟨nmT, c', c'⟩], false, 0⟩ = (⟨old (some b'), false, 0⟩, readH b', 0) := rfl
end Hd
theorem sn_H : sname ⟨#[104, 97, 114, 100]⟩ = nmH := rfl
theorem sn_T : sname ⟨#[104, 97, 114, 100, 46, 116, 109, 112]⟩ = nmT := rfl
set_option maxRecDepth 100000 in
set_option maxHeartbeats 4000000 in
theorem hardRaw_walk {w : World} (A : Option Addr) (ca : Nat) (b : List UInt8) (_ : b.length ≤ ca) (_ : ca ≤ maxLen) (hb : Sl fB w A b) (A2 : Option Addr) (cc : Nat) (c : List UInt8) (_ : c.length ≤ cc) (_ : cc ≤ maxLen) (hc : Sl fB w A2 c) (A3 : Option Addr) (ck : Nat) (keep : List Bool) (_ : keep.length ≤ ck) (_ : ck ≤ maxLen) (hkeep : Sl fBool w A3 keep)
    (hr1 : b.length ≤ 140737488355328) (hr2 : c.length ≤ 140737488355328) :
    Calls Try.prog 4 #[.slice A b.length ca, .slice A2 c.length cc, .slice A3 keep.length ck] w fun e w' => e = .returned (.bool true) ∧ Below w.heap.size w w' := by
  obtain ⟨tb, hsb⟩ := SlB.any hb (G := fun g => g < w.heap.size) (fun _ h => h)
  obtain ⟨tc, hsc⟩ := SlB.any hc (G := fun g => g < w.heap.size) (fun _ h => h)
  obtain ⟨tk, hsk⟩ := SlB.any hkeep (G := fun g => g < w.heap.size) (fun _ h => h)
  have HSB := Lib.hid hsb
  have HSC := Lib.hid hsc
  have HSK := Lib.hid hsk
  clear hb hc hkeep hsb hsc hsk
  go_enter Try.func4, Try.ntmps4
  go_wp2_with fail
  (with_reducible refine (L_New w w.heap.size (Nat.le_refl _)).mono ?_); rintro e w1 ⟨p, rfl, hd1, -, hb1⟩
  have HD1 := Lib.hid hd1
  have HB1 := Lib.hid hb1
  clear hd1 hb1
  go_wp2_with fail
  (with_reducible refine (alive_any _).mono ?_); rintro e w2 ⟨rfl, hb2⟩
  have HD2 := Lib.hid (HD1.out.below hb2)
  have HB2 : Hid (Below w.heap.size w w2) := Lib.hid (HB1.out.trans (hb2.mono HB1.out.size))
  clear hb2 HB1 HD1
  by_cases hlen : 3000 < b.length + c.length
  · have t1 : decide (3000 < (b.length : Int) + (c.length : Int)) = true := decide_eq_true (by omega)
    have t1' : decide (3000 < b.length + c.length) = true := decide_eq_true hlen
    clear hlen
    go_wp2_with fail
    go_ret
    exact ⟨rfl, HB2.out⟩
  · have t1 : decide (3000 < (b.length : Int) + (c.length : Int)) = false := decide_eq_false (by omega)
    have t1' : decide (3000 < b.length + c.length) = false := decide_eq_false hlen
    have hl1 : b.length ≤ 3000 := by omega
    have hl2 : c.length ≤ 3000 := by omega
    obtain ⟨b', c', h5⟩ := raw5 b c keep
    have H5 := Lib.hid h5
    clear hlen h5
    go_wp2_with fail
    (with_reducible refine (L_Create HD2.out ⟨#[104, 97, 114, 100]⟩ sz_nmH (show Dsk.create s0 (sname ⟨#[104, 97, 114, 100]⟩) = (rw1, 0) from (by rw [sn_H]; exact raw1)) (ki := 0) rfl).mono ?_); rintro e w3 ⟨rfl, hd3, hb3⟩
    have HB3 : Hid (Below w.heap.size w w3) := Lib.hid (HB2.out.trans hb3)
    have hp3 := hd3.ge
    have HW := Lib.hid (L_Write hd3 ⟨#[104, 97, 114, 100]⟩ sz_nmH 0 (by decide) (c := ca) (slb_under HSB.out HB3.out) (by omega) (show Dsk.write rw1 (sname ⟨#[104, 97, 114, 100]⟩) 0 b = (rw2 b, 0) from (by rw [sn_H]; exact raw2 hl1)) (ki := 0) rfl)
    clear hd3 hb3 hp3 HB2 HD2
    go_wp2_with fail
    (with_reducible refine HW.out.mono ?_); rintro e w4 ⟨rfl, hd4, hb4⟩
    have HD4 := Lib.hid hd4
    have HB4 : Hid (Below w.heap.size w w4) := Lib.hid (HB3.out.trans hb4)
    clear hd4 hb4 HB3 HW
    go_wp2_with fail
    (with_reducible refine (L_Create HD4.out ⟨#[104, 97, 114, 100, 46, 116, 109, 112]⟩ sz_nmT (show Dsk.create (rw2 b) (sname ⟨#[104, 97, 114, 100, 46, 116, 109, 112]⟩) = (rw3 b, 0) from (by rw [sn_T]; exact raw3 b)) (ki := 0) rfl).mono ?_); rintro e w5 ⟨rfl, hd5, hb5⟩
    have HB5 : Hid (Below w.heap.size w w5) := Lib.hid (HB4.out.trans hb5)
    have hp5 := hd5.ge
    have HW := Lib.hid (L_Write hd5 ⟨#[104, 97, 114, 100, 46, 116, 109, 112]⟩ sz_nmT 0 (by decide) (c := cc) (slb_under HSC.out HB5.out) (by omega) (show Dsk.write (rw3 b) (sname ⟨#[104, 97, 114, 100, 46, 116, 109, 112]⟩) 0 c = (rw4 b c, 0) from (by rw [sn_T]; exact raw4 hl2)) (ki := 0) rfl)
    clear hd5 hb5 hp5 HB4 HD4
    go_wp2_with fail
    (with_reducible refine HW.out.mono ?_); rintro e w6 ⟨rfl, hd6, hb6⟩
    have HB6 : Hid (Below w.heap.size w w6) := Lib.hid (HB5.out.trans hb6)
    have HCR := Lib.hid (L_Crash hd6 (c := ck) (slb_under HSK.out HB6.out) (.inr (fun g hg => hg)) H5.out)
    clear hd6 hb6 HB5 HW
    go_wp2_with fail
    (with_reducible refine HCR.out.mono ?_); rintro e w7 ⟨rfl, hd7, hb7⟩
    have HD7 := Lib.hid hd7
    have HB7 : Hid (Below w.heap.size w w7) := Lib.hid (HB6.out.trans hb7)
    clear hd7 hb7 HB6 HCR
    have hrr := rightH_iff.1 (readH_right b')
    obtain ⟨tt, htt⟩ : ∃ z, z = (readH b').1 := ⟨_, rfl⟩
    obtain ⟨vv, hvv⟩ : ∃ z, z = (readH b').2 := ⟨_, rfl⟩
    have HRD : Hid (readH b' = (tt, vv)) := Lib.hid (by rw [htt, hvv])
    rw [← htt, ← hvv] at hrr
    obtain ⟨r1, r2, r3, r4⟩ := hrr
    have h6 := raw6 b' c'
    rw [HRD.out] at h6
    have H6 := Lib.hid h6
    clear htt hvv h6
    go_wp2_with fail
    (with_reducible refine (L_hOpen HD7.out H6.out).mono ?_); rintro e w8 ⟨h8, rfl, ha8, hb8⟩
    have HA8 := Lib.hid ha8
    have HB8 : Hid (Below w.heap.size w w8) := Lib.hid (HB7.out.trans hb8)
    clear ha8 hb8 HB7 HD7
    have t2 : decide (tt < 0) = false := decide_eq_false (by omega)
    have t3 : decide (1099511627776 < tt) = false := decide_eq_false (by omega)
    have t4 : decide (vv < 0) = false := decide_eq_false (by omega)
    have t5 : decide (7 < vv) = false := decide_eq_false (by omega)
    have t6 : decide (0 ≤ tt) = true := decide_eq_true (by omega)
    go_wp2_with fail
    (with_reducible refine (L_hTerm HA8.out).mono ?_); rintro e w' ⟨rfl, rfl⟩
    go_wp2_with fail
    (with_reducible refine (L_hTerm HA8.out).mono ?_); rintro e w' ⟨rfl, rfl⟩
    go_wp2_with fail
    (with_reducible refine (L_hVote HA8.out).mono ?_); rintro e w' ⟨rfl, rfl⟩
    go_wp2_with fail
    (with_reducible refine (L_hVote HA8.out).mono ?_); rintro e w' ⟨rfl, rfl⟩
    have HCR := Lib.hid (X_Crash HA8.out.dx (c := 0) (SlB.nil (f := fBool) (e := 4) (F := fun _ => False) (A := none)) (.inl (by decide)) (crash_old (some b') false 0 []))
    change Hid (Calls _ _ #[.pointer (some ⟨p, 0, none⟩), .slice none 0 0] _ _) at HCR
    go_wp2_with fail
    (with_reducible refine HCR.out.mono ?_); rintro e w9 ⟨rfl, hd9, hb9, hk9⟩
    have HD9 := Lib.hid hd9
    have HB9 : Hid (Below w.heap.size w w9) := Lib.hid (HB8.out.trans hb9)
    have HK9 : Hid (Blk w9 h8 50 #[.pointer (some ⟨p, 0, none⟩), .int .i64 tt, .int .i64 vv]) := Lib.hid (blkKept HA8.out.blk (hk9 _ (.inr rfl)))
    have HO : Hid (openH ⟨old (some b'), false, 0⟩ = (⟨old (some b'), false, 0⟩, (tt, vv), 0)) := Lib.hid (by rw [open_old]; show (_, readH b', 0) = _; rw [HRD.out])
    clear hd9 hb9 hk9 HCR HA8 HB8 t2 t3 t4 t5 t6
    go_wp2_with fail
    (with_reducible refine (hOpen_any HD9.out).mono ?_); rintro e w10 ⟨hb10, hk10, -, hy⟩
    rw [HO.out] at hy
    obtain ⟨h10, rfl, ha10⟩ := hy rfl
    have HB10 : Hid (Below w.heap.size w w10) := Lib.hid (HB9.out.trans hb10)
    have HK10 : Hid (Blk w10 h8 50 #[.pointer (some ⟨p, 0, none⟩), .int .i64 tt, .int .i64 vv]) := Lib.hid (blkKept HK9.out (hk10 _ (.inr rfl)))
    have HA10 := Lib.hid ha10
    clear hb10 hk10 hy ha10
    go_wp2_with fail
    (with_reducible refine (L_bTerm HA10.out.blk).mono ?_); rintro e w' ⟨rfl, rfl⟩
    go_wp2_with fail
    (with_reducible refine (L_bTerm HK10.out).mono ?_); rintro e w' ⟨rfl, rfl⟩
    go_wp2_with fail
    (with_reducible refine (L_bVote HA10.out.blk).mono ?_); rintro e w' ⟨rfl, rfl⟩
    go_wp2_with fail
    (with_reducible refine (L_bVote HK10.out).mono ?_); rintro e w' ⟨rfl, rfl⟩
    have hnl : (snames ⟨old (some b'), false, 0⟩).length = 1 := rfl
    go_wp2_with fail
    (with_reducible refine (L_Names HA10.out.dx.drop).mono ?_); rintro e w11 ⟨A11, c11, rfl, -, -, hb11⟩
    have HB11 : Hid (Below w.heap.size w w11) := Lib.hid (HB10.out.trans (hb11.mono HB10.out.size))
    clear hb11
    go_wp2_with fail
    go_ret
    exact ⟨rfl, HB11.out⟩
end Go.Proofs.Ytfpomllhkbbipaa
