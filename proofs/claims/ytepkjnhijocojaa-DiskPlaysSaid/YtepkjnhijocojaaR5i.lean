/- Layer 5: the law's 'alike'. -/
import Derived.Test.YtepkjnhijocojaaR5h
import Derived.Test.YtepkjnhijocojaaDskLK
import Derived.BigQuiet
namespace Go.Proofs.Ytepkjnhijocojaa
open Go.RowKit Go.Maps Mem Dsk

def looseTo (s : S) (i : Nat) : Nat := ((s.files.take i).map (fun f => (loose f).length)).sum
theorem looseTo_succ {s : S} {i : Nat} (h : i < s.files.length) : looseTo s (i + 1) = looseTo s i + (loose s.files[i]).length := by
  unfold looseTo; rw [List.take_succ_eq_append_getElem h, List.map_append, List.sum_append, List.map_cons, List.map_nil, List.sum_cons, List.sum_nil, Nat.add_zero]
theorem looseTo_all (s : S) : looseTo s s.files.length = looseN s := by unfold looseTo looseN; rw [List.take_length]
def AlRel (s : S) (w1 : World) (nv iv : Value) (wr : World) : Prop :=
  ∃ i : Nat, i ≤ s.files.length ∧ iv = .int .i64 i ∧ nv = .int .i64 (looseTo s i) ∧ looseTo s i ≤ i * 2048 ∧ Below w1.heap.size w1 wr
set_option maxRecDepth 100000 in
set_option maxHeartbeats 4000000 in
theorem alike_any {G : Nat → Prop} {B p : Nat} {s : S} {w : World} (hd : D B p s w) (A : Option Addr) (c : Nat) (rs : List RFile) (hf : Files G w A rs) (hs : rs.map RFile.file = s.files) (hct : rs.length ≤ 256) :
    Calls Try.prog 28 #[.pointer (some ⟨p, 0, none⟩), .agg #[.slice A rs.length c, .bool s.down, .int .i64 s.fuse]] w fun e w' => e = .returned (.bool true) ∧ Below w.heap.size w w' := by
  have hfl : s.files.length = rs.length := by rw [← hs, List.length_map]
  have hsn : (snames s).length = rs.length := by unfold snames; rw [List.length_map]; exact hfl
  have hl := hf.1.len
  have HF := Lib.hid hf; clear hf
  have HS := Lib.hid hs; clear hs
  have HFL := Lib.hid hfl; clear hfl
  have hnew := Blk.new_ w 52 #[.slice A rs.length c, .bool s.down, .int .i64 s.fuse]
  obtain ⟨wa, hwa⟩ : ∃ x, x = w.alloc (.cells #[.slice A rs.length c, .bool s.down, .int .i64 s.fuse] 52) := ⟨_, rfl⟩
  have hab : Below w.heap.size w wa := by rw [hwa]; exact (Below.refl _ _).alloc (Nat.le_refl _) _
  rw [← hwa] at hnew
  have hda := hd.below hab
  have HFA : Hid (Files G wa A rs) := HF.out.below hab
  have HWA := Lib.hid hwa; clear hwa
  have HAB := Lib.hid hab; clear hab
  have HNEW := Lib.hid hnew; clear hnew
  go_enter Try.func28, Try.ntmps28
  go_upto_region 1 with fail
  rw [← HWA.out]
  go_wp2_with fail
  (with_reducible refine (L_Names hda).mono ?_); rintro e w1 ⟨AN, cN, rfl, hsN, hd1, hb1⟩
  have HSN := Lib.hid (hsN.mono (G := fun _ => True) (fun _ _ _ => trivial)); clear hsN
  have HB1 := Lib.hid hb1; clear hb1
  have HBX := Lib.hid (HNEW.out.below HB1.out HNEW.out.lt)
  have HF1 := Lib.hid (HFA.out.below HB1.out)
  rw [hsn]
  have d0 : w1.cell? ⟨w.heap.size, 0, none⟩ = some (.slice A rs.length c) := HBX.out.cell 0
  have d1 : w1.cell? ⟨w.heap.size, 1, none⟩ = some (.bool s.down) := HBX.out.cell 1
  go_wp2_with fail
  go_quiet (first | (go_at_call 17; exact quiet_mine (L_Down (hd1.below (below_drewN (Below.refl _ _) _)) rfl)))
  obtain ⟨w2, hw2⟩ : ∃ x, x = w1.drewN nq := ⟨_, rfl⟩
  rw [← hw2]
  have hb2 : Below w1.heap.size w1 w2 := by rw [hw2]; exact below_drewN (Below.refl _ _) nq
  have hd2 := hd1.below hb2
  have HSN2 := Lib.hid (HSN.out.below hb2)
  have HBX2 := Lib.hid (HBX.out.below hb2 HBX.out.lt)
  have HF2 := Lib.hid (HF1.out.below hb2)
  have HBW2 : Hid (Below w.heap.size w w2) := (HAB.out.trans (HB1.out.mono HAB.out.size)).trans (hb2.mono (Nat.le_trans HAB.out.size HB1.out.size))
  have d0 : w2.cell? ⟨w.heap.size, 0, none⟩ = some (.slice A rs.length c) := HBX2.out.cell 0
  clear hw2 hb2 hd1 hda HB1 HBX HF1 HSN d1
  go_wp2_with fail
  go_loopw [6, 31] (fun nv iv wr => AlRel s w2 nv iv wr) (fun _ iv _ => rs.length - (intOf iv).toNat)
  case atStart => exact ⟨0, Nat.zero_le _, rfl, rfl, Nat.zero_le _, Below.refl _ _⟩
  case round =>
    obtain ⟨i, hi, rfl, rfl, hbd, hbw⟩ := hrel
    have HB := Lib.hid hbw; clear hbw
    have hi2 : i ≤ 256 := by have := HFL.out; have h2 : s.files.length = rs.length := this; omega
    have hdr := hd2.below HB.out
    by_cases hlt : i < rs.length
    · have hsk : i < s.files.length := by have := HFL.out; have h2 : s.files.length = rs.length := this; omega
      have hrf : s.files[i] = rs[i].file := by simp only [← HS.out, List.getElem_map]
      have hls := looseTo_succ hsk
      rw [hrf] at hls
      have hin : i < (snames s).length := by rw [hsn]; exact hlt
      obtain ⟨bn, on, rfl, hcn⟩ := (HSN2.out.below HB.out).at hin
      have hnk : (snames s)[i] = rs[i].file.name := by rw [snames_get hin hsk, hrf]
      rw [hnk] at hcn; unfold encStr at hcn
      obtain ⟨b, o, rfl, _, _, hc⟩ := (HF2.out.below HB.out).1.at hlt
      obtain ⟨r, hr⟩ : ∃ r, r = rs[i] := ⟨_, rfl⟩
      have c0 : wr.cell? ⟨b, o + i * 3, none⟩ = some (.string ⟨r.file.name.toArray⟩) := by rw [hr]; exact hc 0 (by decide)
      have c1 : wr.cell? ⟨b, o + i * 3 + 1, none⟩ = some (.slice r.A r.file.now.length r.c) := by rw [hr]; exact hc 1 (by decide)
      have c2 : wr.cell? ⟨b, o + i * 3 + 2, none⟩ = some (.slice r.B r.file.safe.length r.d) := by rw [hr]; exact hc 2 (by decide)
      have HOKr : Hid (RFok G wr r) := by rw [hr]; exact (HF2.out.below HB.out).2 _ (List.getElem_mem hlt)
      rw [← hr] at hls hcn
      have HLS := Lib.hid hls
      have HBXr := Lib.hid (HBX2.out.below HB.out HBX2.out.lt)
      clear hc hr hrf hnk hls
      go_upto_region 8 with fail
      obtain ⟨w3, hw3⟩ : ∃ x, x = wr.alloc (.cells #[.string ⟨r.file.name.toArray⟩, .slice r.A r.file.now.length r.c, .slice r.B r.file.safe.length r.d] 83) := ⟨_, rfl⟩
      rw [← hw3]
      have hab3 : Below wr.heap.size wr w3 := by rw [hw3]; exact (Below.refl _ _).alloc (Nat.le_refl _) _
      have HFX : Hid (Blk w3 wr.heap.size 83 #[.string ⟨r.file.name.toArray⟩, .slice r.A r.file.now.length r.c, .slice r.B r.file.safe.length r.d]) := by rw [hw3]; exact Blk.new_ wr _ _
      have HAB3 := Lib.hid hab3; clear hab3 hw3 c0 c1 c2
      have f0 : w3.cell? ⟨wr.heap.size, 0, none⟩ = some (.string ⟨r.file.name.toArray⟩) := HFX.out.cell 0
      have f1 : w3.cell? ⟨wr.heap.size, 1, none⟩ = some (.slice r.A r.file.now.length r.c) := HFX.out.cell 1
      have f2 : w3.cell? ⟨wr.heap.size, 2, none⟩ = some (.slice r.B r.file.safe.length r.d) := HFX.out.cell 2
      have hlc := loose_count HOKr.out.sz.1
      have hbd2 : looseTo s i ≤ 524288 := Nat.le_trans hbd (by omega)
      go_wp2_with fail
      (with_reducible refine (rLoose_any r (HOKr.out.below HAB3.out)).mono ?_); rintro e w4 ⟨AL, cL, rfl, _, hb4⟩
      have HB4 : Hid (Below wr.heap.size wr w4) := HAB3.out.trans (hb4.mono HAB3.out.size)
      have HFX4 := Lib.hid (HFX.out.below hb4 HFX.out.lt)
      have f0 : w4.cell? ⟨wr.heap.size, 0, none⟩ = some (.string ⟨r.file.name.toArray⟩) := HFX4.out.cell 0
      have e1 : w4.cell? ⟨bn, on + i, none⟩ = some (.string ⟨r.file.name.toArray⟩) := (HB4.out.cell (p := ⟨bn, on + i, none⟩) (lt_of_cell hcn)).trans hcn
      clear f1 f2 hb4 HFX HAB3 hcn
      go_wp2_with fail
      go_quiet (fail)
      obtain ⟨w5, hw5⟩ : ∃ x, x = w4.drewN nq := ⟨_, rfl⟩
      rw [← hw5]
      have hb45 : Below w4.heap.size w4 w5 := by rw [hw5]; exact below_drewN (Below.refl _ _) nq
      have HB5 : Hid (Below wr.heap.size wr w5) := HB4.out.trans (hb45.mono HB4.out.size)
      have HFX5 := Lib.hid (HFX4.out.below hb45 HFX4.out.lt)
      have f0 : w5.cell? ⟨wr.heap.size, 0, none⟩ = some (.string ⟨r.file.name.toArray⟩) := HFX5.out.cell 0
      clear e1 hw5 hb45 HFX4 HB4
      have hdr5 := hdr.below HB5.out
      have hnl : (⟨r.file.name.toArray⟩ : ByteArray).size ≤ maxLen := by
        have := HOKr.out.sz.2.2
        unfold named at this; simp only [Bool.and_eq_true, decide_eq_true_eq] at this
        show r.file.name.toArray.size ≤ _
        unfold maxLen; simp; omega
      obtain ⟨P, hP⟩ : ∃ P, P = (Dsk.read s (sname ⟨r.file.name.toArray⟩)).1 := ⟨_, rfl⟩
      obtain ⟨q, hq⟩ : ∃ q, q = (Dsk.read s (sname ⟨r.file.name.toArray⟩)).2 := ⟨_, rfl⟩
      have hrd : Dsk.read s (sname ⟨r.file.name.toArray⟩) = (P, q) := by rw [hP, hq]
      clear hP hq
      have HRD := Lib.hid hrd; clear hrd
      have HNL := Lib.hid hnl; clear hnl
      go_wp2_with fail
      (with_reducible refine (L_Read hdr5 _ HNL.out HRD.out rfl).mono ?_); rintro e w6 ⟨A6, c6, rfl, hs6, _, _, _, hb6⟩
      have HS6 := Lib.hid (hs6.mono (G := fun _ => True) (fun _ _ _ => trivial)); clear hs6
      have HB6 : Hid (Below wr.heap.size wr w6) := HB5.out.trans (hb6.mono HB5.out.size)
      have HFX6 := Lib.hid (HFX5.out.below hb6 HFX5.out.lt)
      have HBX6 := Lib.hid (HBXr.out.below HB6.out HBXr.out.lt)
      have hrr := RRead_any _ c rs ((HF2.out.below HB.out).below HB6.out) s HS.out ⟨r.file.name.toArray⟩ HNL.out
      rw [HRD.out] at hrr
      have HRR := Lib.hid hrr; clear hrr
      have f0 : w6.cell? ⟨wr.heap.size, 0, none⟩ = some (.string ⟨r.file.name.toArray⟩) := HFX6.out.cell 0
      have d0 := HBX6.out.cell 0
      have d1 : w6.cell? ⟨w.heap.size, 1, none⟩ = some (.bool s.down) := HBX6.out.cell 1
      have d2 : w6.cell? ⟨w.heap.size, 2, none⟩ = some (.int .i64 s.fuse) := HBX6.out.cell 2
      clear hb6
      go_wp2_with fail
      (with_reducible refine HRR.out.mono ?_); rintro e w7 ⟨A7, c7, rfl, hs7, hb7⟩
      have hsb := SameBytes_any A6 A7 c6 c7 P P w7 (HS6.out.below hb7).sl hs7.sl
      have HSB := Lib.hid hsb; clear hsb hs7
      have HB7 : Hid (Below wr.heap.size wr w7) := HB6.out.trans (hb7.mono HB6.out.size)
      clear hb7 f0 d0 d1 d2
      simp only
      go_wp2_with fail
      (with_reducible refine HSB.out.mono ?_); rintro e w8 ⟨rfl, k8, rfl⟩
      go_wp2_with fail
      go_roundw
      case rel => exact ⟨i + 1, by omega, by go_num, by rw [HLS.out]; go_num, by rw [HLS.out]; omega, HB.out.trans ((below_drewN HB7.out k8).mono HB.out.size)⟩
      case measure => simp [intOf]; omega
    · have hii : i = s.files.length := by have := HFL.out; have h2 : s.files.length = rs.length := this; omega
      have hll : looseTo s i = looseN s := by rw [hii, looseTo_all]
      have HLL := Lib.hid hll; clear hll hii
      go_wp2_with fail
      (with_reducible refine (L_Loose hdr (k := (looseTo s i : Int)) (by rw [HLL.out])).mono ?_); rintro e w4 ⟨rfl, _, hb4⟩
      go_wp2_with fail
      go_ret
      exact ⟨rfl, HBW2.out.trans ((HB.out.trans (hb4.mono HB.out.size)).mono HBW2.out.size)⟩
end Go.Proofs.Ytepkjnhijocojaa
