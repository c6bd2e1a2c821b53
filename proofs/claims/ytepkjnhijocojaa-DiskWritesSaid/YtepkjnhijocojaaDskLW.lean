/- Layer 5: the walk of the law DiskWrites. -/
import Derived.Test.YtepkjnhijocojaaDskLP
import Derived.Test.YtepkjnhijocojaaDskQ3
import Derived.Test.YtepkjnhijocojaaDskX
import Derived.Maps.RangeWalk
namespace Go.Proofs.Ytepkjnhijocojaa
open Go.RowKit Go.Maps Mem Dsk

theorem sn120 : sname ⟨#[120]⟩ = [120] := rfl
theorem sn121 : sname ⟨#[121]⟩ = [121] := rfl
theorem sz120 : (⟨#[120]⟩ : ByteArray).size ≤ maxLen := maxLen_small (by decide)
theorem sz121 : (⟨#[121]⟩ : ByteArray).size ≤ maxLen := maxLen_small (by decide)
theorem x1 : Dsk.create s0 [120] = (sing [120] [], 0) := rfl
def WrRel (w : World) (xa bs : List UInt8) (v0 : Nat) (wv iv : Value) (wr : World) : Prop :=
  ∃ i : Nat, i ≤ bs.length ∧ iv = .int .i64 i ∧ Own fB w.heap.size 5 wr wv (over xa v0 (bs.take i)) ∧ Below w.heap.size w wr
set_option maxRecDepth 100000 in
set_option maxHeartbeats 4000000 in
theorem diskWrites_walk {w : World} (A : Option Addr) (ca : Nat) (xa : List UInt8) (_ : xa.length ≤ ca) (_ : ca ≤ maxLen) (hsa : Sl fB w A xa) (_ : ∀ x ∈ xa, True) (hra : Room 1 xa.length)
    (Bd : Option Addr) (cb : Nat) (bs : List UInt8) (_ : bs.length ≤ cb) (_ : cb ≤ maxLen) (hsb : Sl fB w Bd bs) (_ : ∀ x ∈ bs, True) (hrb : Room 1 bs.length)
    (x : Int) (wx : (Lit.int .i64 x).wf = true) (y : Int) (wy : (Lit.int .i64 y).wf = true) :
    Calls Try.prog 5 #[.slice A xa.length ca, .slice Bd bs.length cb, .int .i64 x, .int .i64 y] w fun e w' => e = .returned (.bool true) ∧ Below w.heap.size w w' := by
  obtain ⟨u, hu8, hu⟩ := and_small x 8191 (by decide)
  have hu : bits .and .i64 x 8191 = (u : Int) := hu
  obtain ⟨u2, hu28, hu2⟩ := and_small y 8191 (by decide)
  have hu2 : bits .and .i64 y 8191 = (u2 : Int) := hu2
  obtain ⟨te, hta⟩ := hsa.old
  obtain ⟨te2, htb⟩ := hsb.old
  have hla := hsa.len
  have hlb := hsb.len
  by_cases hbig : 4000 < xa.length + bs.length
  · have hbig' : (4000 : Int) < (xa.length : Int) + bs.length := by omega
    have hla2 : xa.length ≤ 140737488351232 := by unfold Room at hra; omega
    have hlb2 : bs.length ≤ 140737488351232 := by unfold Room at hrb; omega
    clear hra hrb hla hlb
    go_enter Try.func5, Try.ntmps5
    go_wp2_with fail
    (with_reducible refine (L_New w w.heap.size (Nat.le_refl _)).mono ?_); rintro e w1 ⟨p, rfl, hd1, hp, hb1⟩
    go_wp2_with fail
    (with_reducible refine (alive_any w1).mono ?_); rintro e w2 ⟨rfl, hb2⟩
    go_wp2_with fail
    go_ret
    exact ⟨rfl, hb1.trans (hb2.mono hb1.size)⟩
  have hbig' : ¬ (4000 : Int) < (xa.length : Int) + bs.length := by omega
  have ba : xa.length ≤ 4000 := by omega
  have bb : bs.length ≤ 4000 := by omega
  obtain ⟨v0, hv0⟩ : ∃ v0 : Nat, v0 = u % (xa.length + 1) := ⟨_, rfl⟩
  have hv : (u : Int) % ((xa.length : Int) + 1) = (v0 : Int) := by rw [hv0]; simp
  have hv1 : v0 ≤ xa.length := by rw [hv0]; exact Nat.le_of_lt_succ (Nat.mod_lt _ (by omega))
  clear hv0 hsa hsb
  go_enter Try.func5, Try.ntmps5
  go_wp2_with fail
  (with_reducible refine (L_New w w.heap.size (Nat.le_refl _)).mono ?_); rintro e w1 ⟨p, rfl, hd1, hp, hb1⟩
  go_wp2_with fail
  (with_reducible refine (alive_any w1).mono ?_); rintro e w2 ⟨rfl, hb2⟩
  have hd2 := hd1.below hb2
  have HB2 : Hid (Below w.heap.size w w2) := hb1.trans (hb2.mono hb1.size)
  clear hb1 hb2 hd1
  go_wp2_with fail
  (with_reducible refine (L_Create hd2 _ sz120 (s' := sing [120] []) (k := 0) (ki := 0) (by rw [sn120]; exact x1) rfl).mono ?_); rintro e w3 ⟨rfl, hd3, hb3⟩
  have HB3 : Hid (Below w.heap.size w w3) := HB2.out.trans hb3
  clear HB2 hb3 hd2
  go_wp2_with fail
  (with_reducible refine (L_Write hd3 _ sz120 _ (by decide) (hta.under HB3.out) (Nat.not_lt.2 hd3.ge) (s' := sing [120] xa) (k := 0) (ki := 0) (by rw [sn120]; have := one_write (nm := [120]) (b := []) (c := xa) (k := 0) (by decide) (Nat.le_refl _) (by omega); rw [over_zero] at this; simpa using this) rfl).mono ?_); rintro e w4 ⟨rfl, hd4, hb4⟩
  have HB4 : Hid (Below w.heap.size w w4) := HB3.out.trans hb4
  clear HB3 hb4 hd3
  go_wp2_with fail
  (with_reducible refine (L_Write hd4 _ sz120 _ (wf_small (by omega) (by omega)) (htb.under HB4.out) (Nat.not_lt.2 hd4.ge) (s' := sing [120] (over xa v0 bs)) (k := 0) (ki := 0) (by rw [sn120]; exact one_write (by decide) hv1 (by omega)) rfl).mono ?_); rintro e w5 ⟨rfl, hd5, hb5⟩
  have HB5 : Hid (Below w.heap.size w w5) := HB4.out.trans hb5
  clear HB4 hb5 hd4
  have HTA := Lib.hid (hta.under HB5.out)
  have HTB := Lib.hid (htb.under HB5.out)
  have hd5p := hd5.lt
  go_wp2_with (at_builtin; refine wpList_appendNt (f := fB) rfl (.tmp 54) (.tmp 55) 26 rfl u8T rfl (Own.mk_ (Nat.le_refl _)) rfl (HTA.out.below ((Below.refl _ _).alloc (Nat.le_refl _) _)).sl fB_one (by unfold maxLen; simp; omega) (by simp; omega) (by simp) ?_; intro v6 w6 hown6 hg6)
  have hb6 : Below w5.heap.size w5 w6 := ((Below.refl _ _).alloc (Nat.le_refl _) _).trans ((Own.mk_ (f := fB) (Nat.le_refl w5.heap.size)).below_ (by simp) hg6)
  rw [List.nil_append] at hown6
  have HB6 := Lib.hid hb6; clear hb6 hg6
  go_loopw [10, 59] (fun wv iv wr => WrRel w5 xa bs v0 wv iv wr) (fun _ iv _ => bs.length - (intOf iv).toNat)
  case atStart => exact ⟨0, Nat.zero_le _, rfl, by rw [List.take_zero, over_nil]; exact hown6, HB6.out⟩
  case round =>
    obtain ⟨i, hi, rfl, hown, hbw⟩ := hrel
    have HOWN := Lib.hid hown; clear hown
    have HBW := Lib.hid hbw; clear hbw
    have hol : (over xa v0 (bs.take i)).length ≤ 4000 := by rw [over_take_len hv1 hi]; omega
    by_cases hlt : i < bs.length
    · obtain ⟨A3, c3, rfl⟩ := HOWN.out.form
      obtain ⟨b, o, rfl, _, hcb⟩ := (HTB.out.sl.below HBW.out).at hlt
      have hcb0 : wr.cell? ⟨b, o + i, none⟩ = some (.int .u8 (bs[i].toNat : Int)) := hcb i hlt
      clear hcb
      by_cases hin : v0 + i < (over xa v0 (bs.take i)).length
      · have hin' : (v0 : Int) + i < ((over xa v0 (bs.take i)).length : Int) := by omega
        obtain ⟨g, rfl, hge, _, hcell, hfz⟩ := HOWN.out.slot hin
        have HS := HOWN.out.set_ hin (bs[i])
        rw [over_set hv1 hlt hin] at HS
        have HS' := Lib.hid HS; clear HS
        go_wp2_with fail
        go_roundw
        case rel => exact ⟨i + 1, by omega, by go_num, HS'.out, HBW.out.setCell hge _⟩
        case measure => simp [intOf]; omega
      · have hin' : ¬ (v0 : Int) + i < ((over xa v0 (bs.take i)).length : Int) := by omega
        have HIN := Lib.hid hin; clear hin
        go_wp2_with (at_builtin; refine wpList_append1t (f := fB) rfl (.tmp 76) (.tmp 78) 26 rfl u8T bs[i] (fB_one _) rfl HOWN.out rfl rfl (by unfold maxLen; omega) (by omega) HBW.out.size ?_; intro v7 w7 hown7 hg7)
        go_roundw
        case rel =>
          have h7 := hown7
          rw [over_app hv1 hlt HIN.out] at h7
          exact ⟨i + 1, by omega, by go_num, h7, (HBW.out.alloc HBW.out.size _).trans ((HOWN.out.alloc _).below_ (by rw [World.size_alloc]; exact Nat.le_succ_of_le HBW.out.size) hg7)⟩
        case measure => simp [intOf]; omega
    · have hie : i = bs.length := by omega
      obtain ⟨W, hW⟩ : ∃ W, W = over xa v0 (bs.take i) := ⟨_, rfl⟩
      rw [← hW] at HOWN hol
      rw [hie, List.take_length] at hW
      have HW := Lib.hid hW; clear hW
      have HIE := Lib.hid hie; clear hie
      obtain ⟨A3, c3, rfl⟩ := HOWN.out.form
      have hdX : DX (fun g => w5.heap.size ≤ g ∧ g < wr.heap.size) w.heap.size p (sing [120] W) wr := by rw [HW.out]; exact hd5.protect HBW.out (fun g hg => hg)
      have HSW : Hid (SlB fB 5 (fun g => w5.heap.size ≤ g ∧ g < wr.heap.size) wr A3 W) := (SlB.of_own HOWN.out).2.mono (fun g hl hg => ⟨hg, hl⟩)
      have hcap := HOWN.out.cap.1
      have HB7 : Hid (Below w.heap.size w wr) := HB5.out.trans (HBW.out.mono HB5.out.size)
      clear hd5 HBW HOWN HTA HTB HB6 HB5
      obtain ⟨n0, hn0⟩ : ∃ n0 : Nat, n0 = u2 % (W.length + 1) := ⟨_, rfl⟩
      have hn : (u2 : Int) % ((W.length : Int) + 1) = (n0 : Int) := by rw [hn0]; simp
      have hn1 : n0 ≤ W.length := by rw [hn0]; exact Nat.le_of_lt_succ (Nat.mod_lt _ (by omega))
      clear hn0
      go_wp2_with fail
      (with_reducible refine (L_Read hdX.drop _ sz120 (bs := W) (k := 0) (ki := 0) (by rw [sn120]; exact one_read _ (by decide)) rfl).mono ?_); rintro e w8 ⟨A8, c8, rfl, hs8, hc8, hc9, _, hb8⟩
      have hdX8 := hdX.below hb8
      have HSW8 := Lib.hid (HSW.out.below hb8)
      have HB8 : Hid (Below w.heap.size w w8) := HB7.out.trans (hb8.mono HB7.out.size)
      clear hb8 hdX HSW HB7
      have hsb8 := SameBytes_any A8 A3 c8 c3 W W w8 hs8.sl HSW8.out.sl
      have HSB8 := Lib.hid hsb8; clear hsb8 hs8
      go_wp2_with fail
      (with_reducible refine HSB8.out.mono ?_); rintro e w9 ⟨rfl, k9, rfl⟩
      have hdX9 := hdX8.below (below_drewN (Below.refl _ _) k9)
      have HSW9 := Lib.hid (HSW8.out.drewN k9)
      have HB9 : Hid (Below w.heap.size w (w8.drewN k9)) := below_drewN HB8.out k9
      clear hdX8 HSW8 HB8 HSB8
      go_wp2_with fail
      (with_reducible refine (X_Cut hdX9 _ sz120 _ (wf_small (by omega) (by omega)) (s' := sing [120] (W.take n0)) (k := 0) (ki := 0) (by rw [sn120]; exact one_cut (by decide) hn1) rfl).mono ?_); rintro e w10 ⟨rfl, hdX10, hb10, hk10⟩
      have HSW10 := Lib.hid (HSW9.out.kept hk10 (fun _ h => h))
      have HB10 : Hid (Below w.heap.size w w10) := HB9.out.trans hb10
      clear hb10 hk10 hdX9 HSW9 HB9
      obtain ⟨V, hV⟩ : ∃ V, V = W.take n0 := ⟨_, rfl⟩
      have hVl : V.length = n0 := by rw [hV, List.length_take]; omega
      rw [← hV] at hdX10
      have HV := Lib.hid hV; clear hV
      go_wp2_with fail
      (with_reducible refine (X_Rename hdX10 _ _ sz120 sz121 (s' := sing [121] V) (k := 0) (ki := 0) (by rw [sn120, sn121]; exact one_rename (by decide) (by decide)) rfl).mono ?_); rintro e w11 ⟨rfl, hdX11, hb11, hk11⟩
      have HSW11 := Lib.hid (HSW10.out.kept hk11 (fun _ h => h))
      have HB11 : Hid (Below w.heap.size w w11) := HB10.out.trans hb11
      clear hb11 hk11 hdX10 HSW10 HB10
      go_wp2_with fail
      (with_reducible refine (L_Read hdX11.drop _ sz121 (bs := V) (k := 0) (ki := 0) (by rw [sn121]; exact one_read _ (by decide)) rfl).mono ?_); rintro e w12 ⟨A12, c12, rfl, hs12, hc12, _, _, hb12⟩
      have hdX12 := hdX11.below hb12
      have HSW12 := Lib.hid (HSW11.out.below hb12)
      have HS12 := Lib.hid hs12.sl
      have HB12 : Hid (Below w.heap.size w w12) := HB11.out.trans (hb12.mono HB11.out.size)
      clear hb12 hdX11 HSW11 HB11 hs12
      go_wp2_with fail
      (with_reducible refine (L_Read hdX12.drop _ sz120 (bs := []) (k := 4) (ki := 4) (by rw [sn120]; exact one_read_no _ (by decide) (by decide)) rfl).mono ?_); rintro e w13 ⟨A13, c13, rfl, _, _, _, _, hb13⟩
      have hdX13 := hdX12.below hb13
      have HB13 : Hid (Below w.heap.size w w13) := HB12.out.trans (hb13.mono HB12.out.size)
      have hsb13 := SameBytes_any A12 A3 c12 c3 V V w13 (HS12.out.below hb13) (by rw [HV.out]; exact (HSW12.out.below hb13).sl.pre)
      rw [hVl] at hsb13
      have HSB13 := Lib.hid hsb13; clear hsb13
      clear hb13 hdX12 HSW12 HB12 HS12
      have hn3 : n0 ≤ c3 := by omega
      go_wp2_with fail
      (with_reducible refine HSB13.out.mono ?_); rintro e w14 ⟨rfl, k14, rfl⟩
      have hd14 := (hdX13.below (below_drewN (Below.refl _ _) k14)).drop
      have HB14 : Hid (Below w.heap.size w (w13.drewN k14)) := below_drewN HB13.out k14
      clear hdX13 HB13 HSB13
      go_wp2_with fail
      (with_reducible refine (L_Write hd14 _ sz121 _ (wf_small (by omega) (by omega)) (htb.under HB14.out) (Nat.not_lt.2 hd14.ge) (s' := sing [121] V) (k := 1) (ki := 1) (by rw [sn121, show ((n0 : Int) + 1) = ((n0 + 1 : Nat) : Int) by omega]; exact one_write_bad (by decide) (by omega)) rfl).mono ?_); rintro e w15 ⟨rfl, hd15, hb15⟩
      go_wp2_with fail
      go_ret
      exact ⟨rfl, HB14.out.trans hb15⟩
end Go.Proofs.Ytepkjnhijocojaa
