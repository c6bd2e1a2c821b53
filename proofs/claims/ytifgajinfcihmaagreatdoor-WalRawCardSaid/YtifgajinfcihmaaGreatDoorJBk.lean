/- Layer 6: WalRuns: the walk; datas as an argument. -/
import Derived.Test.YtifgajinfcihmaaGreatDoorJBh
import Derived.Test.YtifgajinfcihmaaGreatDoorJBj
import Derived.Test.YtifgajinfcihmaaGreatDoorJAz
import Derived.Test.YtifgajinfcihmaaGreatDoorJAv
namespace Go.Proofs.YtifgajinfcihmaaGreatDoor
open Go Go.RowKit Go.Shelf Go.Maps Go.Lib Mem Pk Wl
set_option maxRecDepth 100000 in
set_option maxHeartbeats 2000000 in
theorem RRight6_any (e : En) (A : Option Addr) (c : Nat) (w : World) (hl : e.ds.length ≤ maxLen) : Calls Tryz.prog 18 #[.agg (entC e A c)] w (BoolB (rightE e) w) := by
 obtain ⟨ix, tm, kd, ds⟩ := e
 unfold maxLen at hl
 have hl : ds.length ≤ 9223372036854775807 := hl
 obtain ⟨b1, h1⟩ : ∃ p, p = decide (1 ≤ ix) := ⟨_, rfl⟩
 obtain ⟨b2, h2⟩ : ∃ p, p = decide (ix ≤ 1099511627776) := ⟨_, rfl⟩
 obtain ⟨b3, h3⟩ : ∃ p, p = decide (0 ≤ tm) := ⟨_, rfl⟩
 obtain ⟨b4, h4⟩ : ∃ p, p = decide (tm ≤ 1099511627776) := ⟨_, rfl⟩
 obtain ⟨b5, h5⟩ : ∃ p, p = decide (0 ≤ kd) := ⟨_, rfl⟩
 obtain ⟨b6, h6⟩ : ∃ p, p = decide (kd ≤ 2) := ⟨_, rfl⟩
 obtain ⟨b7, h7⟩ : ∃ p, p = decide ((ds.length : Int) ≤ 2048) := ⟨_, rfl⟩
 have h7' : b7 = decide (ds.length ≤ 2048) := by rw [h7, decide_eq_decide]; omega
 have e0 : rightE ⟨ix, tm, kd, ds⟩ = (b1 && (b2 && (b3 && (b4 && (b5 && (b6 && b7)))))) := by
  unfold rightE top
  rw [h1, h2, h3, h4, h5, h6, h7']
  simp only [Bool.decide_and]
 rw [e0]
 have t1 := h1.symm
 have t2 := h2.symm
 have t3 := h3.symm
 have t4 := h4.symm
 have t5 := h5.symm
 have t6 := h6.symm
 have t7 := h7.symm
 have t8 := h7'.symm
 unfold entC
 simp only
 clear h1 h2 h3 h4 h5 h6 h7 h7' e0
 have key : ∀ b : Bool, b = false ∨ b = true := by decide
 have fin : Below w.heap.size w (w.alloc (.cells #[.int .i64 ix, .int .i64 tm, .int .i64 kd, .slice A ds.length c] 40)) := (Below.refl _ _).alloc (Nat.le_refl _) _
 have FIN := Lib.hid fin
 clear fin
 rcases key b1 with rfl | rfl
 ·clear key t2 t3 t4 t5 t6 t7 t8
  go_enter Tryz.func18, Tryz.ntmps18
  go_wp2_with fail
  go_ret
  exact ⟨rfl, FIN.out⟩
 ·skip
  rcases key b2 with rfl | rfl
  ·clear key t3 t4 t5 t6 t7 t8
   go_enter Tryz.func18, Tryz.ntmps18
   go_wp2_with fail
   go_ret
   exact ⟨rfl, FIN.out⟩
  ·skip
   rcases key b3 with rfl | rfl
   ·clear key t4 t5 t6 t7 t8
    go_enter Tryz.func18, Tryz.ntmps18
    go_wp2_with fail
    go_ret
    exact ⟨rfl, FIN.out⟩
   ·skip
    rcases key b4 with rfl | rfl
    ·clear key t5 t6 t7 t8
     go_enter Tryz.func18, Tryz.ntmps18
     go_wp2_with fail
     go_ret
     exact ⟨rfl, FIN.out⟩
    ·skip
     rcases key b5 with rfl | rfl
     ·clear key t6 t7 t8
      go_enter Tryz.func18, Tryz.ntmps18
      go_wp2_with fail
      go_ret
      exact ⟨rfl, FIN.out⟩
     ·skip
      rcases key b6 with rfl | rfl
      ·clear key t7 t8
       go_enter Tryz.func18, Tryz.ntmps18
       go_wp2_with fail
       go_ret
       exact ⟨rfl, FIN.out⟩
      ·skip
       rcases key b7 with rfl | rfl
       ·clear key 
        go_enter Tryz.func18, Tryz.ntmps18
        go_wp2_with fail
        go_ret
        exact ⟨rfl, FIN.out⟩
       ·clear key
        go_enter Tryz.func18, Tryz.ntmps18
        go_wp2_with fail
        go_ret
        exact ⟨rfl, FIN.out⟩
end Go.Proofs.YtifgajinfcihmaaGreatDoor
namespace Go.Proofs.YtifgajinfcihmaaGreatDoor
open Go Go.RowKit Go.Shelf Go.Maps Go.Lib Mem Pk Dsk Wl Go.Proofs.YtifgajinfcihmaaGreatDoor.Nm
structure DatR where
 A : Option Addr
 c : Nat
 bs : List UInt8
def DatR.cell (z : DatR) : List Value := [.slice z.A z.bs.length z.c]
structure DatOK (w : World) (z : DatR) : Prop where
 sl : ∃ te, SlB fB te (fun g => g < w.heap.size) w z.A z.bs
 len : z.bs.length ≤ z.c
 cap : z.c ≤ maxLen
def DatsIn (w : World) (A : Option Addr) (xs : List DatR) : Prop := SlC 1 DatR.cell w A xs ∧ ∀ x ∈ xs, DatOK w x
theorem open_datas {H : Type} {enc : TypeId × Value → H} {w : World} {A : Option Addr} {len cap : Nat} {d : DataW H} {ps : List MemPlace} (h : DataW.Trod enc Tryz.prog w 0 (fun _ => true) true 23 (.slice A len cap) d ps)
 {ts : List TypeId} {ds : List (DataW H)} (_ : (DataW.weightsEach Tryz.prog ts ds).all (· ≤ reachBytes) = true) {j : Nat} (_ : ts[j]? = some 23) (_ : ds[j]? = some d) : ∃ xs, len = xs.length ∧ DatsIn w A xs := by
 obtain ⟨xs, e, h1, h2, h3, h4, _⟩ := open_rows DatR.cell (DatOK w) Tryz.underlying23 (k := 1) (by kernel_rfl) (by decide) h (fun cs n y h hl => by
  match cs, hl with
  | [v], _ =>
    obtain ⟨A, c, bs, e, q1, q2, hs, _⟩ := op_slice fB (fun _ => True) Tryz.underlying28 (by kernel_rfl) h (fun v n y h => op_byte Tryz.underlying5 h)
    exact ⟨⟨A, c, bs⟩, by rw [e]; rfl, SlB.any hs (fun _ h => h), q1, q2⟩)
 exact ⟨xs, e, h3, h4⟩
end Go.Proofs.YtifgajinfcihmaaGreatDoor
namespace Go.Proofs.YtifgajinfcihmaaGreatDoor
open Go Go.RowKit Go.Shelf Go.Maps Go.Lib Mem Pk Dsk Wl Go.Proofs.YtifgajinfcihmaaGreatDoor.Nm
namespace Wl
structure RawW (s : S) : Prop where
 upW : s.down = false
 fuse : s.fuse = 0
 names : IdxNamed s.files
theorem raw_createW {s : S} {i : Nat} (h : RawW s) : RawW (create s (nmOf 119 i)).1 := by
 unfold create
 rw [step_idle h.fuse]
 simp only
 generalize hr : Dsk.look s [nmOf 119 i] = r
 obtain ⟨o, e⟩ := r
 cases o with
 | some f => exact h
 | none =>
   simp only
   split
   ·split
    ·exact h
    ·refine ⟨h.upW, h.fuse, fun g hg => ?_⟩
     rcases ins_mem.1 hg with rfl | hg
     ·exact ⟨i % 1000000000000000, Nat.mod_lt _ (by decide), (nmOf_mod 119 i).symm⟩
     ·exact h.names g (List.mem_filter.1 hg).1
   ·exact h
theorem raw_writeW {s : S} {n : Name} {a : Int} {b : List UInt8} (h : RawW s) : RawW (write s n a b).1 := by
 unfold write
 rw [step_idle h.fuse]
 simp only
 generalize hr : Dsk.look s [n] = r
 obtain ⟨o, e⟩ := r
 cases o with
 | none => exact h
 | some f =>
   simp only
   split
   ·exact h
   ·split
    ·exact h
    ·refine ⟨h.upW, h.fuse, fun g hg => ?_⟩
     obtain ⟨f', hf', e⟩ := List.mem_map.1 hg
     obtain ⟨j, hj, hn⟩ := h.names f' hf'
     refine ⟨j, hj, ?_⟩
     rw [← e]
     split <;> exact hn
theorem takeO_bound : ∀ (fs : List File) (first : Bool) (nx : Int), (∀ g ∈ fs, g.now.length ≤ 65536) → (allE (takeO first nx fs)).length ≤ 2048 * fs.length
 | [], _, _, _ => Nat.le_refl _
 | g :: r, first, nx, h => by
   have h1 := (scanS_ok (idxW g.name) g.now).2.2
   have h2 := recsB_len_ge (scanS (idxW g.name) g.now)
   have h3 := congrArg List.length h1
   rw [List.length_take] at h3
   have h4 := h g (by simp)
   unfold takeO
   rw [List.length_cons]
   split
   ·exact Nat.zero_le _
   ·split
    ·exact Nat.zero_le _
    ·split
     ·have h5 := takeO_bound r false (idxW g.name + (scanS (idxW g.name) g.now).length) (fun x hx => h x (List.mem_cons_of_mem _ hx))
      rw [allE_cons, List.length_append]
      show (scanS (idxW g.name) g.now).length + _ ≤ _
      omega
     ·rw [allE_cons, List.length_append]
      show (scanS (idxW g.name) g.now).length + 0 ≤ _
      omega
theorem raw_open {s : S} (h : RawW s) (hs : Sorted s.files) (keep : List Bool) : ∃ i T, openW (crash s keep) = (diskK (T.map fullK), T, 0) ∧ chainS i T ∧ (∀ x ∈ T, x.wet = false) ∧ T = takeO true 0 (crashFiles keep s.files 0) := by
 have hn : (crashFiles keep s.files 0).map File.name = s.files.map File.name := by rw [← crashGo_files]; exact crashGo_names keep s.files 0
 rw [crash_up]
 refine openW_raw ?_ (fun g hg => ?_)
 ·rw [sorted_names, hn, ← sorted_names]; exact hs
 ·have : g.name ∈ s.files.map File.name := by rw [← hn]; exact List.mem_map_of_mem hg
  obtain ⟨f, hf, e⟩ := List.mem_map.1 this
  obtain ⟨j, hj, e2⟩ := h.names f hf
  exact ⟨j, hj, by rw [← e, e2]⟩
end Wl
theorem wf_topW {z : Int} (h : (Lit.int .i64 z).wf = true) : z ≤ 9223372036854775807 := by
 have e1 : IntKind.i64.min = -9223372036854775808 := rfl
 have e2 : IntKind.i64.max = 9223372036854775807 := rfl
 simp [Lit.wf, e1, e2] at h
 exact h.2
theorem D.bounds {B p : Nat} {s : S} {w : World} (h : D B p s w) : Sorted s.files ∧ s.files.length ≤ 256 ∧ ∀ g ∈ s.files, g.now.length ≤ 65536 := by
 obtain ⟨mb, rs, hr⟩ := h.at_
 refine ⟨hr.sorted, hr.count, fun g hg => ?_⟩
 rw [← hr.files] at hg
 obtain ⟨r, hr2, rfl⟩ := List.mem_map.1 hg
 exact (hr.recs r hr2).2.2.2.2.2.2.2.2.1
def RaRel (n B p : Nat) (w : World) (iv : Value) (W : World) : Prop := ∃ j : Nat, j ≤ n ∧ iv = .int .i64 (j : Int) ∧ ∃ s, RawW s ∧ D B p s W ∧ Below B w W
def RaRel2 (n : Nat) (w9 : World) (iv : Value) (W : World) : Prop := ∃ j : Nat, j ≤ n ∧ iv = .int .i64 (j : Int) ∧ Below w9.heap.size w9 W
set_option maxRecDepth 100000 in
set_option maxHeartbeats 8000000 in
theorem walRaw_walk {w : World} (hla : LaidS w) (A : Option Addr) (ca : Nat) (xs : List Int) (_ : xs.length ≤ ca) (_ : ca ≤ maxLen) (hxs : Sl fI w A xs) (hwf : ∀ x ∈ xs, (Lit.int .i64 x).wf = true) (_ : Room 8 xs.length) (A2 : Option Addr) (c2 : Nat) (fs : List DatR) (hfs : DatsIn w A2 fs)
 (K : Option Addr) (ck : Nat) (keep : List Bool) (_ : keep.length ≤ ck) (_ : ck ≤ maxLen) (hkeep : Sl fBool w K keep) (_ : ∀ x ∈ keep, True) (_ : Room 1 keep.length) :
 Calls Tryz.prog 3 #[.slice A xs.length ca, .slice A2 fs.length c2, .slice K keep.length ck] w fun e w' => e = .returned (.bool true) ∧ Below w.heap.size w w' := by
 obtain ⟨te, hke⟩ := SlB.any hkeep (G := fun g => g < w.heap.size) (fun _ h => h)
 have HLA := Lib.hid (LaidB.of hla)
 have HXS := Lib.hid hxs
 have HWF := Lib.hid hwf
 have HFS := Lib.hid hfs
 have HKE := Lib.hid hke
 have hln := hxs.len
 have hln2 : fs.length ≤ 9223372036854775807 := Nat.le_trans hfs.1.1 (by unfold maxLen; decide)
 clear hla hke hkeep hxs hfs hwf
 go_enter Tryz.func3, Tryz.ntmps3
 go_wp2_with fail
 (with_reducible refine (L_New w w.heap.size (Nat.le_refl _)).mono ?_); rintro e w1 ⟨p, rfl, hd1, -, hb1⟩
 have HD1 := Lib.hid hd1
 have HB1 := Lib.hid hb1
 have HAL := Lib.hid (alive6_any (w := w1) (LaidB.of (HLA.out.on hb1).here))
 clear hd1 hb1
 go_wp2_with fail
 (with_reducible refine HAL.out.mono ?_); rintro e w2 ⟨rfl, hb2⟩
 have HD2 := Lib.hid (HD1.out.below hb2)
 have HB2 : Hid (Below w.heap.size w w2) := Lib.hid (HB1.out.trans (hb2.mono HB1.out.size))
 clear hb2 HB1 HD1 HAL
 go_wp2_with fail
 go_loopw [27] (fun iv wr => RaRel fs.length w.heap.size p w iv wr) (fun iv _ => fs.length - (RowKit.intOf iv).toNat)
 case atStart => exact ⟨0, Nat.zero_le _, rfl, s0, ⟨rfl, rfl, fun g hg => by cases hg⟩, HD2.out, HB2.out⟩
 case round =>
  obtain ⟨j, hj, rfl, s, hraw, hd, hbw⟩ := hrel
  have HRAW := Lib.hid hraw
  have HD := Lib.hid hd
  have HBW := Lib.hid hbw
  clear hraw hd hbw HD2 HB2
  by_cases hlt : j < fs.length
  ·have HLT := Lib.hid hlt
   have hj0 : (0 : Int) ≤ (j : Int) := by omega
   have hj1 : (j : Int) < (fs.length : Int) := by omega
   obtain ⟨b, o, rfl, hbb, hc⟩ := HFS.out.1.at hlt
   have hz1 : ∃ z, DatOK w z ∧ w.cell? ⟨b, o + j, none⟩ = some (.slice z.A z.bs.length z.c) := ⟨fs[j], HFS.out.2 _ (List.getElem_mem hlt), by have h9 := hc 0 (by decide); simp only [DatR.cell, Nat.mul_one, Nat.add_zero, List.getElem?_cons_zero] at h9; exact h9⟩
   obtain ⟨z, hok, hcz⟩ := hz1
   have hc0' : wr.cell? ⟨b, o + j, none⟩ = some (.slice z.A z.bs.length z.c) := (HBW.out.cell hbb).trans hcz
   have HOK := Lib.hid hok
   clear hc hcz hok hlt
   by_cases h8 : 20 ≤ j
   ·have t1 : decide ((20 : Int) ≤ (j : Int)) = true := decide_eq_true (by omega)
    have t1' : (20 : Int) ≤ (j : Int) := by omega
    go_wp2_with fail
    go_roundw
    case rel => exact ⟨j + 1, HLT.out, by go_num, s, HRAW.out, HD.out, HBW.out⟩
    case measure => simp [RowKit.intOf]; have := HLT.out; omega
   ·have t1 : ¬ (20 : Int) ≤ (j : Int) := by omega
    by_cases hn : xs.length ≤ j
    ·have t2 : (xs.length : Int) ≤ (j : Int) := by omega
     go_wp2_with fail
     go_roundw
     case rel => exact ⟨j + 1, HLT.out, by go_num, s, HRAW.out, HD.out, HBW.out⟩
     case measure => simp [RowKit.intOf]; have := HLT.out; omega
    ·have t2 : ¬ (xs.length : Int) ≤ (j : Int) := by omega
     have hn1 : (j : Int) < (xs.length : Int) := by omega
     by_cases h3 : 3000 < z.bs.length
     ·have t3 : (3000 : Int) < (z.bs.length : Int) := by omega
      go_wp2_with fail
      go_roundw
      case rel => exact ⟨j + 1, HLT.out, by go_num, s, HRAW.out, HD.out, HBW.out⟩
      case measure => simp [RowKit.intOf]; have := HLT.out; omega
     ·have t3 : ¬ (3000 : Int) < (z.bs.length : Int) := by omega
      have hnx : j < xs.length := by omega
      obtain ⟨b', o', rfl, _, hc'⟩ := (HXS.out.below HBW.out).at hnx
      have ck' := hc' j hnx
      obtain ⟨y, hy⟩ : ∃ y, y = xs[j] := ⟨_, rfl⟩
      have hyt : y ≤ 9223372036854775807 := wf_topW (HWF.out y (by rw [hy]; exact List.getElem_mem hnx))
      rw [← hy] at ck'; unfold fI at ck'
      clear hc' hy hnx
      by_cases h0 : y < 0
      ·go_wp2_with fail
       go_roundw
       case rel => exact ⟨j + 1, HLT.out, by go_num, s, HRAW.out, HD.out, HBW.out⟩
       case measure => simp [RowKit.intOf]; have := HLT.out; omega
      ·obtain ⟨u, rfl⟩ : ∃ u : Nat, y = (u : Int) := ⟨y.toNat, by omega⟩
       have HNA := Lib.hid (RName6_any (w := wr) u (by omega))
       obtain ⟨nb, hnb⟩ : ∃ nb : ByteArray, nb = ⟨(119 :: pad 15 u).toArray⟩ := ⟨_, rfl⟩
       rw [← hnb] at HNA
       have HSN : Hid (sname nb = nmOf 119 u) := Lib.hid (by rw [hnb]; unfold sname nmOf; simp)
       have HSZ : Hid (nb.size ≤ maxLen) := Lib.hid (by
        rw [hnb]
        show (119 :: pad 15 u).toArray.size ≤ maxLen
        rw [List.size_toArray, List.length_cons, pad_len]; unfold maxLen; decide)
       clear hnb hyt
       go_wp2_with fail
       (with_reducible refine HNA.out.mono ?_); rintro e w3 ⟨rfl, hb3⟩
       have HD3 := Lib.hid (HD.out.below hb3)
       have HB3 : Hid (Below w.heap.size w w3) := Lib.hid (HBW.out.trans (hb3.mono HBW.out.size))
       obtain ⟨s3, k3, hcr⟩ : ∃ s3 k3, Dsk.create s (nmOf 119 u) = (s3, k3) := ⟨_, _, rfl⟩
       have HR3 : Hid (RawW s3) := Lib.hid (by have := raw_createW (i := u) HRAW.out; rw [hcr] at this; exact this)
       have HCR := Lib.hid (L_Create (s' := s3) (k := k3) HD3.out nb HSZ.out (by rw [HSN.out]; exact hcr) rfl)
       clear hb3 hcr HNA
       go_wp2_with fail
       (with_reducible refine HCR.out.mono ?_); rintro e w4 ⟨rfl, hd4, hb4⟩
       have HB4 : Hid (Below w.heap.size w w4) := Lib.hid (HB3.out.trans hb4)
       obtain ⟨s4, k4, hwr⟩ : ∃ s4 k4, Dsk.write s3 (nmOf 119 u) 0 z.bs = (s4, k4) := ⟨_, _, rfl⟩
       have HR4 : Hid (RawW s4) := Lib.hid (by have := raw_writeW (n := nmOf 119 u) (a := 0) (b := z.bs) HR3.out; rw [hwr] at this; exact this)
       obtain ⟨tz, hsz⟩ := HOK.out.sl
       have HWR := Lib.hid (L_Write (s' := s4) (k := k4) hd4 nb HSZ.out 0 (by decide) (c := z.c) (hsz.under HB4.out) (Nat.not_lt.2 hd4.ge) (by rw [HSN.out]; exact hwr) rfl)
       clear hd4 hb4 hwr hsz HCR HD3
       go_wp2_with fail
       (with_reducible refine HWR.out.mono ?_); rintro e w5 ⟨rfl, hd5, hb5⟩
       have HD5 := Lib.hid hd5
       have HB5 : Hid (Below w.heap.size w w5) := Lib.hid (HB4.out.trans hb5)
       clear hd5 hb5 HWR
       go_wp2_with fail
       go_roundw
       case rel => exact ⟨j + 1, HLT.out, by go_num, s4, HR4.out, HD5.out, HB5.out⟩
       case measure => simp [RowKit.intOf]; have := HLT.out; omega
  ·have hj1 : ¬ (j : Int) < (fs.length : Int) := by omega
   have HCR := Lib.hid (L_Crash HD.out (c := ck) (HKE.out.under HBW.out) (.inr fun g h => h) rfl)
   obtain ⟨i, T, ho, hch, hwet, hT⟩ := raw_open HRAW.out HD.out.bounds.1 keep
   have HO := Lib.hid ho
   have HCH := Lib.hid hch
   have HWET := Lib.hid hwet
   have HT := Lib.hid hT
   clear ho hch hwet hT hj hlt
   go_wp2_with fail
   (with_reducible refine HCR.out.mono ?_); rintro e w7 ⟨rfl, hd7, hb7⟩
   have HD7 := Lib.hid hd7
   have HB7 : Hid (Below w.heap.size w w7) := Lib.hid (HBW.out.trans hb7)
   have hbn := hd7.bounds
   have hlen : (allE T).length ≤ 900000 := by
    have h9 := takeO_bound (crashFiles keep s.files 0) true 0 hbn.2.2
    rw [← HT.out] at h9
    have h8 : (crashFiles keep s.files 0).length ≤ 256 := hbn.2.1
    omega
   have HLEN := Lib.hid hlen
   clear hd7 hb7 hbn hlen HCR HD HRAW HBW HT
   go_wp2_with fail
   (with_reducible refine (X_wOpen (G := fun _ => False) HD7.out.toW (HLA.out.on HB7.out) HO.out).mono ?_); rintro e w8 ⟨wb, rfl, ha8, hb8, -⟩
   have HA8 := Lib.hid ha8
   have HB8 : Hid (Below w.heap.size w w8) := Lib.hid (HB7.out.trans hb8)
   have HE1 := Lib.hid (wEntries_any ha8 HLEN.out (chain_follow HCH.out).2)
   clear ha8 hb8 HB7 HD7 HO
   go_wp2_with fail
   (with_reducible refine HE1.out.mono ?_); rintro e w9 ⟨A9, c9, xs9, rfl, hr9, he9, hdd9, hb9⟩
   have hl9 : xs9.length = (allE T).length := by rw [← he9, List.length_map]
   obtain ⟨n9, hn9⟩ : ∃ z, z = (allE T).length := ⟨_, rfl⟩
   rw [← hn9] at hl9 ⊢
   have hnl : n9 ≤ 900000 := by rw [hn9]; exact HLEN.out
   have HA9 := Lib.hid (WlE.protect (G2 := fun q => w8.heap.size ≤ q ∧ q < w9.heap.size) HA8.out hb9 (fun _ hq => hq))
   have HB9 : Hid (Below w.heap.size w w9) := Lib.hid (HB8.out.trans (hb9.mono HB8.out.size))
   have HI9 : Hid (EnIn w9 A9 xs9) := Lib.hid (EnIn.of_rw hr9 hdd9)
   have HR9 : Hid (Rw 4 emC 40 (fun q => w8.heap.size ≤ q ∧ q < w9.heap.size) w9 A9 c9 xs9) := Lib.hid (hr9.mono (fun g hl hg => ⟨hg, hl⟩))
   have HDD9 : Hid (∀ x ∈ xs9, EmOK (fun q => w8.heap.size ≤ q ∧ q < w9.heap.size) w9 x) := Lib.hid (fun x hx => (hdd9 x hx).mono (fun g hl hg => ⟨hg, hl⟩))
   have HE9 := Lib.hid he9
   have HL9 := Lib.hid hl9
   have HN9 := Lib.hid hn9
   clear hr9 he9 hdd9 hb9 hl9 hn9 HE1 HA8 HB8
   go_wp2_with fail
   go_loopw [83] (fun iv wr => RaRel2 n9 w9 iv wr) (fun iv _ => n9 - (RowKit.intOf iv).toNat)
   case atStart => exact ⟨0, Nat.zero_le _, rfl, Below.refl _ _⟩
   case round =>
    obtain ⟨j, hj, rfl, hbw⟩ := hrel
    have HBW := Lib.hid hbw
    clear hbw
    by_cases hlt : j < n9
    ·have HLT := Lib.hid hlt
     have hj0 : (0 : Int) ≤ (j : Int) := by omega
     have hj1' : (j : Int) < (n9 : Int) := by omega
     obtain ⟨b, o, hA, -, hc⟩ := (HI9.out.below HBW.out).at_ j (by rw [HL9.out]; exact hlt)
     subst hA
     obtain ⟨x, hx⟩ : ∃ x, x = xs9[j]'(by rw [HL9.out]; exact hlt) := ⟨_, rfl⟩
     rw [← hx] at hc
     have c0 : wr.cell? ⟨b, o + j * 4, none⟩ = some (.int .i64 x.e.ix) := hc 0 (by decide)
     have c1 : wr.cell? ⟨b, o + j * 4 + 1, none⟩ = some (.int .i64 x.e.tm) := hc 1 (by decide)
     have c2' : wr.cell? ⟨b, o + j * 4 + 2, none⟩ = some (.int .i64 x.e.kd) := hc 2 (by decide)
     have c3 : wr.cell? ⟨b, o + j * 4 + 3, none⟩ = some (.slice x.A x.e.ds.length x.c) := hc 3 (by decide)
     have hje : j < (allE T).length := by rw [← HN9.out]; exact hlt
     have hxe : x.e = (allE T)[j] := by
      have h9 : (xs9.map EnM.e)[j]'(by rw [List.length_map, HL9.out]; exact hlt) = (allE T)[j] := by simp only [HE9.out]
      rw [List.getElem_map, ← hx] at h9; exact h9
     have hri : rightE x.e = true := by rw [hxe]; exact (chain_follow HCH.out).2 _ (List.getElem_mem hje)
     have hxi : x.e.ix = i + (j : Int) := by rw [hxe]; exact follow_get (chain_follow HCH.out).1 j hje
     have hrr := rightE_iff.1 hri
     have hml : x.e.ds.length ≤ maxLen := by unfold maxLen; omega
     obtain ⟨wx, hwx⟩ : ∃ q, q = wr.alloc (.cells #[.int .i64 x.e.ix, .int .i64 x.e.tm, .int .i64 x.e.kd, .slice x.A x.e.ds.length x.c] 40) := ⟨_, rfl⟩
     have hbx : Below wr.heap.size wr wx := by rw [hwx]; exact (Below.refl _ _).alloc (Nat.le_refl _) _
     have hxx : Blk wx wr.heap.size 40 #[.int .i64 x.e.ix, .int .i64 x.e.tm, .int .i64 x.e.kd, .slice x.A x.e.ds.length x.c] := by rw [hwx]; exact Blk.new_ wr _ _
     have hrc := RRight6_any x.e x.A x.c wx.drew hml
     rw [hri] at hrc
     have HRC := Lib.hid hrc
     change Hid (Calls _ _ #[.agg #[.int .i64 x.e.ix, .int .i64 x.e.tm, .int .i64 x.e.kd, .slice x.A x.e.ds.length x.c]] _ _) at HRC
     obtain ⟨ax, hax⟩ : ∃ z, z = x.e.ix := ⟨_, rfl⟩
     have HXI : Hid (ax = i + (j : Int)) := Lib.hid (by rw [hax]; exact hxi)
     have hbwx : Below w9.heap.size w9 wx := HBW.out.trans (hbx.mono HBW.out.size)
     have HBX := Lib.hid hbwx
     have HXX := Lib.hid hxx
     have HWX := Lib.hid hwx
     have hp9 : 0 < j → ∃ px : Int, px + 1 = ax ∧ 0 ≤ px ∧ px ≤ 1099511627776 ∧ wx.cell? ⟨b, o + (j - 1) * 4, none⟩ = some (.int .i64 px) ∧ b < wx.heap.size := fun h0 => by
      obtain ⟨b', o', hA, hbl, hc'⟩ := (HI9.out.below hbwx).at_ (j - 1) (by rw [HL9.out]; omega)
      injection hA with hA; injection hA with q1 q2
      subst q1; subst q2
      have hye : (xs9[j - 1]'(by rw [HL9.out]; omega)).e = (allE T)[j - 1]'(by omega) := by
       have h9 : (xs9.map EnM.e)[j - 1]'(by rw [List.length_map, HL9.out]; omega) = (allE T)[j - 1]'(by omega) := by simp only [HE9.out]
       rw [List.getElem_map] at h9; exact h9
      have h8 := hc' 0 (by decide)
      rw [Nat.add_zero] at h8
      have hix := follow_get (chain_follow HCH.out).1 (j - 1) (by omega)
      have hr8 := rightE_iff.1 ((chain_follow HCH.out).2 _ (List.getElem_mem (show j - 1 < (allE T).length by omega)))
      refine ⟨((allE T)[j - 1]'(by omega)).ix, by rw [hix, HXI.out]; omega, by omega, by omega, ?_, hbl⟩
      rw [h8, ← hye]; rfl
     rw [← hax] at c0 HRC hxx
     have HXX2 := Lib.hid hxx
     have HWX2 : Hid (wx = wr.alloc (.cells #[.int .i64 ax, .int .i64 x.e.tm, .int .i64 x.e.kd, .slice x.A x.e.ds.length x.c] 40)) := Lib.hid (by rw [hax]; exact hwx)
     clear hc hje hxe hri hxi hrr hml hwx hbx hxx hrc hbwx hax hx HXX HWX
     by_cases hj00 : j = 0
     ·subst hj00
      simp only [Nat.zero_mul, Nat.add_zero] at c0 c1 c2' c3
      have t5 : decide (((0 : Nat) : Int) > 0) = false := rfl
      go_upto_region 20 with fail
      rw [← HWX2.out]
      refine AnyZ.start (S := (fun V => V.cell? ⟨wr.heap.size, 0, none⟩ = some (.int .i64 ax) ∧ V.cell? ⟨wr.heap.size, 1, none⟩ = some (.int .i64 x.e.tm) ∧ V.cell? ⟨wr.heap.size, 2, none⟩ = some (.int .i64 x.e.kd) ∧ V.cell? ⟨wr.heap.size, 3, none⟩ = some (.slice x.A x.e.ds.length x.c))) (z := 1019) (by kernel_rfl) ?_ (fun hHeld => ?_)
      ·exact ⟨HXX2.out.cell 0, HXX2.out.cell 1, HXX2.out.cell 2, HXX2.out.cell 3⟩
      refine AnyZ.take (i := 0) (v := ?_) rfl (by kernel_rfl) (by kernel_rfl) (by kernel_rfl) (by kernel_rfl) (fun _ _ _ h => h) (Or.inl ⟨by kernel_rfl, ?_⟩) (by assumption) ?_
      rotate_left
      ·intro w hSw; (try dsimp only at hSw); go_simp; try with_reducible rfl
      try simp only [Act.put, List.getElem_toArray, List.setIfInBounds_toArray]
      refine AnyZ.ready (rs := [1]) (by kernel_rfl) (by simp) ?_
      refine AllZ.cons rfl (fun K hK => ?_) AllZ.nil
      go_simp
      (with_reducible refine (HRC.out).mono ?_); rintro e' w11 ⟨rfl, hb11⟩
      have HX11 := Lib.hid (HXX2.out.drew.below hb11 HXX2.out.lt)
      have HB11 : Hid (Below w9.heap.size w9 w11) := Lib.hid ((below_drewN HBX.out 1).trans (hb11.mono HBX.out.size))
      clear hb11
      refine hK.out _ _ ?_ (fun hHeld => ?_)
      ·exact ⟨HX11.out.cell 0, HX11.out.cell 1, HX11.out.cell 2, HX11.out.cell 3⟩
      clear hK K
      try simp only [Act.put, List.getElem_toArray, List.getElem_cons_succ, List.getElem_cons_zero, List.setIfInBounds_toArray, List.set_cons_zero, List.set_cons_succ]
      refine AnyZ.take (i := 2) (v := ?_) rfl (by kernel_rfl) (by kernel_rfl) (by kernel_rfl) (by kernel_rfl) (fun _ _ _ h => h) (Or.inl ⟨by kernel_rfl, ?_⟩) (by assumption) ?_
      rotate_left
      ·intro w hSw; (try dsimp only at hSw); go_simp; try with_reducible rfl
      try simp only [Act.put, List.getElem_toArray, List.getElem_cons_succ, List.getElem_cons_zero, List.setIfInBounds_toArray, List.set_cons_zero, List.set_cons_succ]
      refine AnyZ.take (i := 3) (v := ?_) rfl (by kernel_rfl) (by kernel_rfl) (by kernel_rfl) (by kernel_rfl) (fun _ _ _ h => h) (Or.inl ⟨by kernel_rfl, ?_⟩) (by assumption) ?_
      rotate_left
      ·intro w hSw; (try dsimp only at hSw); go_simp; try with_reducible rfl
      try simp only [Act.put, List.getElem_toArray, List.getElem_cons_succ, List.getElem_cons_zero, List.setIfInBounds_toArray, List.set_cons_zero, List.set_cons_succ]
      refine AnyZ.take (i := 4) (v := ?_) rfl (by kernel_rfl) (by kernel_rfl) (by kernel_rfl) (by kernel_rfl) (fun _ _ _ h => h) (Or.inl ⟨by kernel_rfl, ?_⟩) (by assumption) ?_
      rotate_left
      ·intro w hSw; (try dsimp only at hSw); go_simp; try with_reducible rfl
      try simp only [Act.put, List.getElem_toArray, List.getElem_cons_succ, List.getElem_cons_zero, List.setIfInBounds_toArray, List.set_cons_zero, List.set_cons_succ]
      refine AnyZ.take (i := 5) (v := ?_) rfl (by kernel_rfl) (by kernel_rfl) (by kernel_rfl) (by kernel_rfl) (fun _ _ _ h => h) (Or.inl ⟨by kernel_rfl, ?_⟩) (by assumption) ?_
      rotate_left
      ·intro w hSw; (try dsimp only at hSw); go_simp; try with_reducible rfl
      try simp only [Act.put, List.getElem_toArray, List.getElem_cons_succ, List.getElem_cons_zero, List.setIfInBounds_toArray, List.set_cons_zero, List.set_cons_succ]
      refine AnyZ.take (i := 6) (v := ?_) rfl (by kernel_rfl) (by kernel_rfl) (by kernel_rfl) (by kernel_rfl) (fun _ _ _ h => h) (Or.inl ⟨by kernel_rfl, ?_⟩) (by assumption) ?_
      rotate_left
      ·intro w hSw; (try dsimp only at hSw); go_simp; try with_reducible rfl
      try simp only [Act.put, List.getElem_toArray, List.getElem_cons_succ, List.getElem_cons_zero, List.setIfInBounds_toArray, List.set_cons_zero, List.set_cons_succ]
      refine AnyZ.takeAny (i := 7) (v := undef) rfl (by kernel_rfl) (by kernel_rfl) (by kernel_rfl) (by kernel_rfl) (fun _ _ _ h => h) (Or.inr ⟨by kernel_rfl, rfl⟩) (by assumption) ?_
      try simp only [Act.put, List.getElem_toArray, List.getElem_cons_succ, List.getElem_cons_zero, List.setIfInBounds_toArray, List.set_cons_zero, List.set_cons_succ]
      refine AnyZ.takeAny (i := 8) (v := undef) rfl (by kernel_rfl) (by kernel_rfl) (by kernel_rfl) (by kernel_rfl) (fun _ _ _ h => h) (Or.inr ⟨by kernel_rfl, rfl⟩) (by assumption) ?_
      try simp only [Act.put, List.getElem_toArray, List.getElem_cons_succ, List.getElem_cons_zero, List.setIfInBounds_toArray, List.set_cons_zero, List.set_cons_succ]
      refine AnyZ.takeAny (i := 9) (v := undef) rfl (by kernel_rfl) (by kernel_rfl) (by kernel_rfl) (by kernel_rfl) (fun _ _ _ h => h) (Or.inr ⟨by kernel_rfl, rfl⟩) (by assumption) ?_
      try simp only [Act.put, List.getElem_toArray, List.getElem_cons_succ, List.getElem_cons_zero, List.setIfInBounds_toArray, List.set_cons_zero, List.set_cons_succ]
      refine AnyZ.takeAny (i := 10) (v := undef) rfl (by kernel_rfl) (by kernel_rfl) (by kernel_rfl) (by kernel_rfl) (fun _ _ _ h => h) (Or.inr ⟨by kernel_rfl, rfl⟩) (by assumption) ?_
      try simp only [Act.put, List.getElem_toArray, List.getElem_cons_succ, List.getElem_cons_zero, List.setIfInBounds_toArray, List.set_cons_zero, List.set_cons_succ]
      refine AnyZ.takeAny (i := 11) (v := undef) rfl (by kernel_rfl) (by kernel_rfl) (by kernel_rfl) (by kernel_rfl) (fun _ _ _ h => h) (Or.inr ⟨by kernel_rfl, rfl⟩) (by assumption) ?_
      try simp only [Act.put, List.getElem_toArray, List.getElem_cons_succ, List.getElem_cons_zero, List.setIfInBounds_toArray, List.set_cons_zero, List.set_cons_succ]
      refine AnyZ.takeAny (i := 12) (v := undef) rfl (by kernel_rfl) (by kernel_rfl) (by kernel_rfl) (by kernel_rfl) (fun _ _ _ h => h) (Or.inr ⟨by kernel_rfl, rfl⟩) (by assumption) ?_
      try simp only [Act.put, List.getElem_toArray, List.getElem_cons_succ, List.getElem_cons_zero, List.setIfInBounds_toArray, List.set_cons_zero, List.set_cons_succ]
      refine AnyZ.takeAny (i := 13) (v := undef) rfl (by kernel_rfl) (by kernel_rfl) (by kernel_rfl) (by kernel_rfl) (fun _ _ _ h => h) (Or.inr ⟨by kernel_rfl, rfl⟩) (by assumption) ?_
      try simp only [Act.put, List.getElem_toArray, List.getElem_cons_succ, List.getElem_cons_zero, List.setIfInBounds_toArray, List.set_cons_zero, List.set_cons_succ]
      refine AnyZ.takeAny (i := 14) (v := undef) rfl (by kernel_rfl) (by kernel_rfl) (by kernel_rfl) (by kernel_rfl) (fun _ _ _ h => h) (Or.inr ⟨by kernel_rfl, rfl⟩) (by assumption) ?_
      try simp only [Act.put, List.getElem_toArray, List.getElem_cons_succ, List.getElem_cons_zero, List.setIfInBounds_toArray, List.set_cons_zero, List.set_cons_succ]
      refine AnyZ.takeAny (i := 15) (v := undef) rfl (by kernel_rfl) (by kernel_rfl) (by kernel_rfl) (by kernel_rfl) (fun _ _ _ h => h) (Or.inr ⟨by kernel_rfl, rfl⟩) (by assumption) ?_
      try simp only [Act.put, List.getElem_toArray, List.getElem_cons_succ, List.getElem_cons_zero, List.setIfInBounds_toArray, List.set_cons_zero, List.set_cons_succ]
      refine AnyZ.takeAny (i := 16) (v := undef) rfl (by kernel_rfl) (by kernel_rfl) (by kernel_rfl) (by kernel_rfl) (fun _ _ _ h => h) (Or.inr ⟨by kernel_rfl, rfl⟩) (by assumption) ?_
      try simp only [Act.put, List.getElem_toArray, List.getElem_cons_succ, List.getElem_cons_zero, List.setIfInBounds_toArray, List.set_cons_zero, List.set_cons_succ]
      refine AnyZ.take (i := 17) (v := ?_) rfl (by kernel_rfl) (by kernel_rfl) (by kernel_rfl) (by kernel_rfl) (fun _ _ _ h => h) (Or.inl ⟨by kernel_rfl, ?_⟩) (by assumption) ?_
      rotate_left
      ·intro w hSw; (try dsimp only at hSw); go_simp; try with_reducible rfl
      try simp only [Act.put, List.getElem_toArray, List.getElem_cons_succ, List.getElem_cons_zero, List.setIfInBounds_toArray, List.set_cons_zero, List.set_cons_succ]
      refine AnyZ.take (i := 18) (v := ?_) rfl (by kernel_rfl) (by kernel_rfl) (by kernel_rfl) (by kernel_rfl) (fun _ _ _ h => h) (Or.inl ⟨by kernel_rfl, ?_⟩) (by assumption) ?_
      rotate_left
      ·intro w hSw; (try dsimp only at hSw); go_simp; try with_reducible rfl
      try simp only [Act.put, List.getElem_toArray, List.getElem_cons_succ, List.getElem_cons_zero, List.setIfInBounds_toArray, List.set_cons_zero, List.set_cons_succ]
      refine AnyZ.done (by kernel_rfl) ?_ _
      skip
      go_wp2_with fail
      go_roundw
      case rel => exact ⟨0 + 1, HLT.out, by go_num, HB11.out⟩
      case measure => simp [RowKit.intOf]; have := HLT.out; omega
     ·obtain ⟨px, hp1, hp2, hp3, hpc, hpb⟩ := hp9 (by omega)
      obtain ⟨jm, hjm⟩ : ∃ z, z = j - 1 := ⟨_, rfl⟩
      rw [← hjm] at hpc
      have hw1 : IntKind.i64.wrap ((j : Int) - 1) = (jm : Int) := by rw [IntKind.wrap_i64]; omega
      have hw2 : IntKind.i64.wrap (px + 1) = ax := by rw [IntKind.wrap_i64]; omega
      have hj9 : (0 : Int) < (j : Int) := by omega
      have hjn9 : 0 < j := by omega
      have hjm1 : (jm : Int) < (n9 : Int) := by omega
      have hjm0 : (0 : Int) ≤ (jm : Int) := by omega
      have HPB := Lib.hid hpb
      clear hp1 hjm hpb hp9 hj00
      go_upto_region 20 with fail
      rw [← HWX2.out]
      refine AnyZ.start (S := (fun V => V.cell? ⟨wr.heap.size, 0, none⟩ = some (.int .i64 ax) ∧ V.cell? ⟨wr.heap.size, 1, none⟩ = some (.int .i64 x.e.tm) ∧ V.cell? ⟨wr.heap.size, 2, none⟩ = some (.int .i64 x.e.kd) ∧ V.cell? ⟨wr.heap.size, 3, none⟩ = some (.slice x.A x.e.ds.length x.c) ∧ V.cell? ⟨b, o + jm * 4, none⟩ = some (.int .i64 px))) (z := 1019) (by kernel_rfl) ?_ (fun hHeld => ?_)
      ·exact ⟨HXX2.out.cell 0, HXX2.out.cell 1, HXX2.out.cell 2, HXX2.out.cell 3, hpc⟩
      refine AnyZ.take (i := 0) (v := ?_) rfl (by kernel_rfl) (by kernel_rfl) (by kernel_rfl) (by kernel_rfl) (fun _ _ _ h => h) (Or.inl ⟨by kernel_rfl, ?_⟩) (by assumption) ?_
      rotate_left
      ·intro w hSw; (try dsimp only at hSw); go_simp; try with_reducible rfl
      try simp only [Act.put, List.getElem_toArray, List.getElem_cons_zero, List.setIfInBounds_toArray, List.set_cons_zero, List.set_cons_succ]
      refine AnyZ.ready (rs := [1]) (by kernel_rfl) (by simp) ?_
      refine AllZ.cons rfl (fun K hK => ?_) AllZ.nil
      go_simp
      (with_reducible refine (HRC.out).mono ?_); rintro e' w11 ⟨rfl, hb11⟩
      have HX11 := Lib.hid (HXX2.out.drew.below hb11 HXX2.out.lt)
      have HB11 : Hid (Below w9.heap.size w9 w11) := Lib.hid ((below_drewN HBX.out 1).trans (hb11.mono HBX.out.size))
      have hpc' : w11.cell? ⟨b, o + jm * 4, none⟩ = some (.int .i64 px) := (hb11.cell (p := ⟨b, o + jm * 4, none⟩) HPB.out).trans hpc
      clear hb11
      refine hK.out _ _ ?_ (fun hHeld => ?_)
      ·exact ⟨HX11.out.cell 0, HX11.out.cell 1, HX11.out.cell 2, HX11.out.cell 3, hpc'⟩
      clear hK K
      try simp only [Act.put, List.getElem_toArray, List.getElem_cons_succ, List.getElem_cons_zero, List.setIfInBounds_toArray, List.set_cons_zero, List.set_cons_succ]
      refine AnyZ.take (i := 2) (v := ?_) rfl (by kernel_rfl) (by kernel_rfl) (by kernel_rfl) (by kernel_rfl) (fun _ _ _ h => h) (Or.inl ⟨by kernel_rfl, ?_⟩) (by assumption) ?_
      rotate_left
      ·intro w hSw; (try dsimp only at hSw); go_simp; try with_reducible rfl
      try simp only [Act.put, List.getElem_toArray, List.getElem_cons_succ, List.getElem_cons_zero, List.setIfInBounds_toArray, List.set_cons_zero, List.set_cons_succ]
      refine AnyZ.take (i := 3) (v := ?_) rfl (by kernel_rfl) (by kernel_rfl) (by kernel_rfl) (by kernel_rfl) (fun _ _ _ h => h) (Or.inl ⟨by kernel_rfl, ?_⟩) (by assumption) ?_
      rotate_left
      ·intro w hSw; (try dsimp only at hSw); go_simp; try with_reducible rfl
      try simp only [Act.put, List.getElem_toArray, List.getElem_cons_succ, List.getElem_cons_zero, List.setIfInBounds_toArray, List.set_cons_zero, List.set_cons_succ]
      refine AnyZ.take (i := 4) (v := ?_) rfl (by kernel_rfl) (by kernel_rfl) (by kernel_rfl) (by kernel_rfl) (fun _ _ _ h => h) (Or.inl ⟨by kernel_rfl, ?_⟩) (by assumption) ?_
      rotate_left
      ·intro w hSw; (try dsimp only at hSw); go_simp; try with_reducible rfl
      try simp only [Act.put, List.getElem_toArray, List.getElem_cons_succ, List.getElem_cons_zero, List.setIfInBounds_toArray, List.set_cons_zero, List.set_cons_succ]
      refine AnyZ.take (i := 5) (v := ?_) rfl (by kernel_rfl) (by kernel_rfl) (by kernel_rfl) (by kernel_rfl) (fun _ _ _ h => h) (Or.inl ⟨by kernel_rfl, ?_⟩) (by assumption) ?_
      rotate_left
      ·intro w hSw; (try dsimp only at hSw); go_simp; try with_reducible rfl
      try simp only [Act.put, List.getElem_toArray, List.getElem_cons_succ, List.getElem_cons_zero, List.setIfInBounds_toArray, List.set_cons_zero, List.set_cons_succ]
      refine AnyZ.take (i := 6) (v := ?_) rfl (by kernel_rfl) (by kernel_rfl) (by kernel_rfl) (by kernel_rfl) (fun _ _ _ h => h) (Or.inl ⟨by kernel_rfl, ?_⟩) (by assumption) ?_
      rotate_left
      ·intro w hSw; (try dsimp only at hSw); go_simp; try with_reducible rfl
      try simp only [Act.put, List.getElem_toArray, List.getElem_cons_succ, List.getElem_cons_zero, List.setIfInBounds_toArray, List.set_cons_zero, List.set_cons_succ]
      refine AnyZ.take (i := 7) (v := ?_) rfl (by kernel_rfl) (by kernel_rfl) (by kernel_rfl) (by kernel_rfl) (fun _ _ _ h => h) (Or.inl ⟨by kernel_rfl, ?_⟩) (by assumption) ?_
      rotate_left
      ·intro w hSw; (try dsimp only at hSw); go_simp; try with_reducible rfl
      try simp only [Act.put, List.getElem_toArray, List.getElem_cons_succ, List.getElem_cons_zero, List.setIfInBounds_toArray, List.set_cons_zero, List.set_cons_succ]
      refine AnyZ.take (i := 8) (v := ?_) rfl (by kernel_rfl) (by kernel_rfl) (by kernel_rfl) (by kernel_rfl) (fun _ _ _ h => h) (Or.inl ⟨by kernel_rfl, ?_⟩) (by assumption) ?_
      rotate_left
      ·intro w hSw; (try dsimp only at hSw); go_simp; try with_reducible rfl
      try simp only [Act.put, List.getElem_toArray, List.getElem_cons_succ, List.getElem_cons_zero, List.setIfInBounds_toArray, List.set_cons_zero, List.set_cons_succ]
      refine AnyZ.take (i := 9) (v := ?_) rfl (by kernel_rfl) (by kernel_rfl) (by kernel_rfl) (by kernel_rfl) (fun _ _ _ h => h) (Or.inl ⟨by kernel_rfl, ?_⟩) (by assumption) ?_
      rotate_left
      ·intro w hSw; (try dsimp only at hSw); go_simp; try with_reducible rfl
      try simp only [Act.put, List.getElem_toArray, List.getElem_cons_succ, List.getElem_cons_zero, List.setIfInBounds_toArray, List.set_cons_zero, List.set_cons_succ]
      refine AnyZ.take (i := 10) (v := ?_) rfl (by kernel_rfl) (by kernel_rfl) (by kernel_rfl) (by kernel_rfl) (fun _ _ _ h => h) (Or.inl ⟨by kernel_rfl, ?_⟩) (by assumption) ?_
      rotate_left
      ·intro w hSw; (try dsimp only at hSw); go_simp; try with_reducible rfl
      try simp only [Act.put, List.getElem_toArray, List.getElem_cons_succ, List.getElem_cons_zero, List.setIfInBounds_toArray, List.set_cons_zero, List.set_cons_succ]
      refine AnyZ.take (i := 11) (v := ?_) rfl (by kernel_rfl) (by kernel_rfl) (by kernel_rfl) (by kernel_rfl) (fun _ _ _ h => h) (Or.inl ⟨by kernel_rfl, ?_⟩) (by assumption) ?_
      rotate_left
      ·intro w hSw; (try dsimp only at hSw); go_simp; try with_reducible rfl
      try simp only [Act.put, List.getElem_toArray, List.getElem_cons_succ, List.getElem_cons_zero, List.setIfInBounds_toArray, List.set_cons_zero, List.set_cons_succ]
      refine AnyZ.take (i := 12) (v := ?_) rfl (by kernel_rfl) (by kernel_rfl) (by kernel_rfl) (by kernel_rfl) (fun _ _ _ h => h) (Or.inl ⟨by kernel_rfl, ?_⟩) (by assumption) ?_
      rotate_left
      ·intro w hSw; (try dsimp only at hSw); go_simp; try with_reducible rfl
      try simp only [Act.put, List.getElem_toArray, List.getElem_cons_succ, List.getElem_cons_zero, List.setIfInBounds_toArray, List.set_cons_zero, List.set_cons_succ]
      refine AnyZ.take (i := 13) (v := ?_) rfl (by kernel_rfl) (by kernel_rfl) (by kernel_rfl) (by kernel_rfl) (fun _ _ _ h => h) (Or.inl ⟨by kernel_rfl, ?_⟩) (by assumption) ?_
      rotate_left
      ·intro w hSw; (try dsimp only at hSw); go_simp; try with_reducible rfl
      try simp only [Act.put, List.getElem_toArray, List.getElem_cons_succ, List.getElem_cons_zero, List.setIfInBounds_toArray, List.set_cons_zero, List.set_cons_succ]
      refine AnyZ.take (i := 14) (v := ?_) rfl (by kernel_rfl) (by kernel_rfl) (by kernel_rfl) (by kernel_rfl) (fun _ _ _ h => h) (Or.inl ⟨by kernel_rfl, ?_⟩) (by assumption) ?_
      rotate_left
      ·intro w hSw; (try dsimp only at hSw); go_simp; try with_reducible rfl
      try simp only [Act.put, List.getElem_toArray, List.getElem_cons_succ, List.getElem_cons_zero, List.setIfInBounds_toArray, List.set_cons_zero, List.set_cons_succ]
      refine AnyZ.take (i := 15) (v := ?_) rfl (by kernel_rfl) (by kernel_rfl) (by kernel_rfl) (by kernel_rfl) (fun _ _ _ h => h) (Or.inl ⟨by kernel_rfl, ?_⟩) (by assumption) ?_
      rotate_left
      ·intro w hSw; (try dsimp only at hSw); go_simp; try with_reducible rfl
      try simp only [Act.put, List.getElem_toArray, List.getElem_cons_succ, List.getElem_cons_zero, List.setIfInBounds_toArray, List.set_cons_zero, List.set_cons_succ]
      refine AnyZ.take (i := 16) (v := ?_) rfl (by kernel_rfl) (by kernel_rfl) (by kernel_rfl) (by kernel_rfl) (fun _ _ _ h => h) (Or.inl ⟨by kernel_rfl, ?_⟩) (by assumption) ?_
      rotate_left
      ·intro w hSw; (try dsimp only at hSw); go_simp; try with_reducible rfl
      try simp only [Act.put, List.getElem_toArray, List.getElem_cons_succ, List.getElem_cons_zero, List.setIfInBounds_toArray, List.set_cons_zero, List.set_cons_succ]
      refine AnyZ.take (i := 17) (v := ?_) rfl (by kernel_rfl) (by kernel_rfl) (by kernel_rfl) (by kernel_rfl) (fun _ _ _ h => h) (Or.inl ⟨by kernel_rfl, ?_⟩) (by assumption) ?_
      rotate_left
      ·intro w hSw; (try dsimp only at hSw); go_simp; try with_reducible rfl
      try simp only [Act.put, List.getElem_toArray, List.getElem_cons_succ, List.getElem_cons_zero, List.setIfInBounds_toArray, List.set_cons_zero, List.set_cons_succ]
      refine AnyZ.take (i := 18) (v := ?_) rfl (by kernel_rfl) (by kernel_rfl) (by kernel_rfl) (by kernel_rfl) (fun _ _ _ h => h) (Or.inl ⟨by kernel_rfl, ?_⟩) (by assumption) ?_
      rotate_left
      ·intro w hSw; (try dsimp only at hSw); go_simp; try with_reducible rfl
      try simp only [Act.put, List.getElem_toArray, List.getElem_cons_succ, List.getElem_cons_zero, List.setIfInBounds_toArray, List.set_cons_zero, List.set_cons_succ]
      refine AnyZ.done (by kernel_rfl) ?_ _
      skip
      go_wp2_with fail
      go_roundw
      case rel => exact ⟨j + 1, HLT.out, by go_num, HB11.out⟩
      case measure => simp [RowKit.intOf]; have := HLT.out; omega
    ·have hlt2 : ¬ (j : Int) < (n9 : Int) := by omega
     have hat := HA9.out.below HBW.out
     obtain ⟨R, SA, sc, sm, EA, ec, em, h0, -, -⟩ := hat
     have HCR := Lib.hid (X_Crash (h0.dx.weaken (F := fun q => False ∨ (w8.heap.size ≤ q ∧ q < w9.heap.size)) (fun g hg => .inl (.inl hg))) (c := 0) (SlB.nil (f := fBool) (e := 4) (F := fun _ => False) (A := none)) (.inl (by decide)) (crash_full T))
     change Hid (Calls _ _ #[.pointer (some ⟨p, 0, none⟩), .slice none 0 0] _ _) at HCR
     have HBR : Hid (Below w.heap.size w wr) := Lib.hid (HB9.out.trans (HBW.out.mono HB9.out.size))
     have HR10 : Hid (Rw 4 emC 40 (fun q => w8.heap.size ≤ q ∧ q < w9.heap.size) wr A9 c9 xs9) := Lib.hid (HR9.out.below HBW.out)
     have HD10 : Hid (∀ x ∈ xs9, EmOK (fun q => w8.heap.size ≤ q ∧ q < w9.heap.size) wr x) := Lib.hid (fun x hx => (HDD9.out x hx).below HBW.out)
     clear hlt h0 HA9 HB9 HI9 HR9 HDD9 HBW
     go_wp2_with fail
     (with_reducible refine HCR.out.mono ?_); rintro e w10 ⟨rfl, hd10, hb10, hk10⟩
     have HB10 : Hid (Below w.heap.size w w10) := Lib.hid (HBR.out.trans hb10)
     have HK10 := Lib.hid hk10
     have HOP := Lib.hid (X_wOpen hd10 (HLA.out.on HB10.out) (open_full HCH.out HWET.out))
     clear hd10 hb10 hk10 HCR HBR
     go_wp2_with fail
     (with_reducible refine HOP.out.mono ?_); rintro e w11 ⟨wb2, rfl, ha11, hb11, hk11⟩
     have HB11 : Hid (Below w.heap.size w w11) := Lib.hid (HB10.out.trans hb11)
     have hk : Kept (fun q => False ∨ (w8.heap.size ≤ q ∧ q < w9.heap.size)) wr w11 := fun g hg => (hk11 g hg).trans (HK10.out g hg)
     have HI11 : Hid (EnIn w11 A9 xs9) := Lib.hid (EnIn.of_rw (HR10.out.keep (fun g _ hg hb => (hk g (.inr hg)).trans hb)) (F' := fun q => w8.heap.size ≤ q ∧ q < w9.heap.size) (fun x hx => ⟨(HD10.out x hx).sl.kept hk (fun g hg => .inr hg), (HD10.out x hx).len, (HD10.out x hx).cap⟩))
     have HE1 := Lib.hid (wEntries_any ha11 HLEN.out (chain_follow HCH.out).2)
     clear ha11 hb11 hk11 hk HB10 HK10 HOP HR10 HD10
     go_wp2_with fail
     (with_reducible refine HE1.out.mono ?_); rintro e w12 ⟨A12, c12, xs12, rfl, hr12, he12, hd12, hb12⟩
     have hs12 := Same6_any (c := c12) (d := c9) (EnIn.of_rw hr12 hd12) (HI11.out.below hb12)
     have hl12 : xs12.length = (allE T).length := by rw [← he12, List.length_map]
     rw [he12, HE9.out, eqEs_self, hl12, HL9.out] at hs12
     have HS12 := Lib.hid hs12
     have HB12 : Hid (Below w.heap.size w w12) := Lib.hid (HB11.out.trans (hb12.mono HB11.out.size))
     clear hr12 he12 hd12 hb12 hs12 hl12 HE1 HB11 HI11
     go_wp2_with fail
     (with_reducible refine HS12.out.mono ?_); rintro e w13 ⟨rfl, m13, hw13⟩
     have HB13 : Hid (Below w.heap.size w w13) := Lib.hid (by rw [hw13]; exact below_drewN HB12.out m13)
     clear hw13 HS12 HB12
     go_wp2_with fail
     go_ret
     exact ⟨rfl, HB13.out⟩
end Go.Proofs.YtifgajinfcihmaaGreatDoor
