/- Layer 8: SnapRaw: the walk; its files as an argument. -/
import Derived.Test.YtfpomllhkbbipaaGreatDoorStA
import Derived.Test.YtfpomllhkbbipaaGreatDoorStJ
import Derived.Test.YtfpomllhkbbipaaGreatDoorOpenR
namespace Go.Proofs.YtfpomllhkbbipaaGreatDoor
open Go Go.RowKit Go.Shelf Go.Sort Go.Maps Go.Lib Mem Pk Cf Dsk Go.Proofs.YtfpomllhkbbipaaGreatDoor.Nm Sto

/-- a file of the argument -/
structure FileR where
  A : Option Addr
  c : Nat
  bs : List UInt8
def FileR.cell (z : FileR) : List Value := [.slice z.A z.bs.length z.c]
def FileOK (w : World) (z : FileR) : Prop := ∃ te, SlB fB te (fun g => g < w.heap.size) w z.A z.bs
def FilesIn (w : World) (A : Option Addr) (xs : List FileR) : Prop := SlC 1 FileR.cell w A xs ∧ ∀ x ∈ xs, FileOK w x
theorem open_files {H : Type} {enc : TypeId × Value → H} {w : World} {A : Option Addr} {len cap : Nat} {d : DataW H} {ps : List MemPlace} (h : DataW.Trod enc Tryz.prog w 0 (fun _ => true) true 66 (.slice A len cap) d ps)
    {ts : List TypeId} {ds : List (DataW H)} (_ : (DataW.weightsEach Tryz.prog ts ds).all (· ≤ reachBytes) = true) {j : Nat} (_ : ts[j]? = some 66) (_ : ds[j]? = some d) : ∃ xs, len = xs.length ∧ FilesIn w A xs := by
  obtain ⟨xs, e, h1, h2, h3, h4, _⟩ := open_rows FileR.cell (FileOK w) Tryz.underlying66 (k := 1) (by kernel_rfl) (by decide) h (fun cs n y h hl => by
    match cs, hl with
    | [v], _ =>
      obtain ⟨A, c, bs, e, _, _, hs, _⟩ := op_slice fB (fun _ => True) Tryz.underlying36 (by kernel_rfl) h (fun v n y h => op_byte Tryz.underlying5 h)
      exact ⟨⟨A, c, bs⟩, by rw [e]; rfl, SlB.any hs (fun _ h => h)⟩)
  exact ⟨xs, e, h3, h4⟩
theorem wf_top {z : Int} (h : (Lit.int .i64 z).wf = true) : z ≤ 9223372036854775807 := by
  have e1 : IntKind.i64.min = -9223372036854775808 := rfl
  have e2 : IntKind.i64.max = 9223372036854775807 := rfl
  simp [Lit.wf, e1, e2] at h
  exact h.2
def RwRel (n B p : Nat) (w : World) (iv : Value) (W : World) : Prop := ∃ j : Nat, j ≤ n ∧ iv = .int .i64 (j : Int) ∧ ∃ s, RawOk s ∧ D B p s W ∧ Below B w W
theorem raw_zero : RawOk s0 := ⟨rfl, rfl, fun g hg => by cases hg⟩
theorem D.sorted {B p : Nat} {s : S} {w : World} (h : D B p s w) : Sorted s.files := by
  obtain ⟨mb, rs, hr⟩ := h.at_
  exact hr.sorted
set_option maxRecDepth 100000 in
set_option maxHeartbeats 8000000 in
theorem snapRaw_walk {w : World} (hla : LaidS w) (A : Option Addr) (ca : Nat) (xs : List Int) (hxs : Sl fI w A xs) (hwf : ∀ x ∈ xs, (Lit.int .i64 x).wf = true) (A2 : Option Addr) (c2 : Nat) (fs : List FileR) (hfs : FilesIn w A2 fs)
    (K : Option Addr) (ck : Nat) (keep : List Bool) (hkeep : Sl fBool w K keep) :
    Calls Tryz.prog 5 #[.slice A xs.length ca, .slice A2 fs.length c2, .slice K keep.length ck] w fun e w' => e = .returned (.bool true) ∧ Below w.heap.size w w' := by
  obtain ⟨te, hke⟩ := SlB.any hkeep (G := fun g => g < w.heap.size) (fun _ h => h)
  have HLA := Lib.hid (LaidB.of hla)
  have HXS := Lib.hid hxs
  have HWF := Lib.hid hwf
  have HFS := Lib.hid hfs
  have HKE := Lib.hid hke
  have hln := hxs.len
  have hln2 : fs.length ≤ 9223372036854775807 := Nat.le_trans hfs.1.1 (by unfold maxLen; decide)
  clear hla hke hkeep hxs hfs hwf
  go_enter Tryz.func5, Tryz.ntmps5
  go_wp2_with fail
  (with_reducible refine (L_New w w.heap.size (Nat.le_refl _)).mono ?_); rintro e w1 ⟨p, rfl, hd1, -, hb1⟩
  have HD1 := Lib.hid hd1
  have HB1 := Lib.hid hb1
  have HAL := Lib.hid (alive8_any (w := w1) (LaidB.of (HLA.out.on hb1).here))
  clear hd1 hb1
  go_wp2_with fail
  (with_reducible refine HAL.out.mono ?_); rintro e w2 ⟨rfl, hb2⟩
  have HD2 := Lib.hid (HD1.out.below hb2)
  have HB2 : Hid (Below w.heap.size w w2) := Lib.hid (HB1.out.trans (hb2.mono HB1.out.size))
  clear hb2 HB1 HD1 HAL
  go_wp2_with fail
  go_loopw [28] (fun iv wr => RwRel fs.length w.heap.size p w iv wr) (fun iv _ => fs.length - (intOf iv).toNat)
  case atStart => exact ⟨0, Nat.zero_le _, rfl, s0, raw_zero, HD2.out, HB2.out⟩
  case round =>
    obtain ⟨j, hj, rfl, s, hraw, hd, hbw⟩ := hrel
    have HRAW := Lib.hid hraw
    have HD := Lib.hid hd
    have HBW := Lib.hid hbw
    clear hraw hd hbw HD2 HB2
    by_cases hlt : j < fs.length
    · have HLT := Lib.hid hlt
      have hj0 : (0 : Int) ≤ (j : Int) := by omega
      have hj1 : (j : Int) < (fs.length : Int) := by omega
      obtain ⟨b, o, rfl, hbb, hc⟩ := HFS.out.1.at hlt
      have hz1 : ∃ z, FileOK w z ∧ w.cell? ⟨b, o + j, none⟩ = some (.slice z.A z.bs.length z.c) := ⟨fs[j], HFS.out.2 _ (List.getElem_mem hlt), by have h9 := hc 0 (by decide); simp only [FileR.cell, Nat.mul_one, Nat.add_zero, List.getElem?_cons_zero] at h9; exact h9⟩
      obtain ⟨z, hok, hcz⟩ := hz1
      have hc0' : wr.cell? ⟨b, o + j, none⟩ = some (.slice z.A z.bs.length z.c) := (HBW.out.cell hbb).trans hcz
      have HOK := Lib.hid hok
      clear hc hcz hok hlt
      by_cases h8 : 8 ≤ j
      · have t1 : decide ((8 : Int) ≤ (j : Int)) = true := decide_eq_true (by omega)
        have t1' : (8 : Int) ≤ (j : Int) := by omega
        go_wp2_with fail
        go_roundw
        case rel => exact ⟨j + 1, HLT.out, by go_num, s, HRAW.out, HD.out, HBW.out⟩
        case measure => simp [intOf]; have := HLT.out; omega
      · have t1 : ¬ (8 : Int) ≤ (j : Int) := by omega
        by_cases hn : xs.length ≤ j
        · have t2 : (xs.length : Int) ≤ (j : Int) := by omega
          go_wp2_with fail
          go_roundw
          case rel => exact ⟨j + 1, HLT.out, by go_num, s, HRAW.out, HD.out, HBW.out⟩
          case measure => simp [intOf]; have := HLT.out; omega
        · have t2 : ¬ (xs.length : Int) ≤ (j : Int) := by omega
          have hn1 : (j : Int) < (xs.length : Int) := by omega
          by_cases h3 : 3000 < z.bs.length
          · have t3 : (3000 : Int) < (z.bs.length : Int) := by omega
            go_wp2_with fail
            go_roundw
            case rel => exact ⟨j + 1, HLT.out, by go_num, s, HRAW.out, HD.out, HBW.out⟩
            case measure => simp [intOf]; have := HLT.out; omega
          · have t3 : ¬ (3000 : Int) < (z.bs.length : Int) := by omega
            have hnx : j < xs.length := by omega
            obtain ⟨b', o', rfl, _, hc'⟩ := (HXS.out.below HBW.out).at hnx
            have ck' := hc' j hnx
            obtain ⟨y, hy⟩ : ∃ y, y = xs[j] := ⟨_, rfl⟩
            have hyt : y ≤ 9223372036854775807 := wf_top (HWF.out y (by rw [hy]; exact List.getElem_mem hnx))
            rw [← hy] at ck'; unfold fI at ck'
            clear hc' hy hnx
            by_cases h0 : y < 0
            · go_wp2_with fail
              go_roundw
              case rel => exact ⟨j + 1, HLT.out, by go_num, s, HRAW.out, HD.out, HBW.out⟩
              case measure => simp [intOf]; have := HLT.out; omega
            · obtain ⟨u, rfl⟩ : ∃ u : Nat, y = (u : Int) := ⟨y.toNat, by omega⟩
              have HNA := Lib.hid (RName8_any (w := wr) u (by omega))
              obtain ⟨nb, hnb⟩ : ∃ nb : ByteArray, nb = ⟨(nmOf 115 u).toArray⟩ := ⟨_, rfl⟩
              rw [← hnb] at HNA
              have HSN : Hid (sname nb = nmOf 115 u) := Lib.hid (by rw [hnb]; unfold sname; simp)
              have HSZ : Hid (nb.size ≤ maxLen) := Lib.hid (by
                rw [hnb]
                show (nmOf 115 u).toArray.size ≤ maxLen
                rw [List.size_toArray, nmOf_len]; unfold maxLen; decide)
              clear hnb hyt
              go_wp2_with fail
              (with_reducible refine HNA.out.mono ?_); rintro e w3 ⟨rfl, hb3⟩
              have HD3 := Lib.hid (HD.out.below hb3)
              have HB3 : Hid (Below w.heap.size w w3) := Lib.hid (HBW.out.trans (hb3.mono HBW.out.size))
              obtain ⟨s3, k3, hcr⟩ : ∃ s3 k3, Dsk.create s (nmOf 115 u) = (s3, k3) := ⟨_, _, rfl⟩
              have HR3 : Hid (RawOk s3) := Lib.hid (by have := raw_create (i := u) HRAW.out; rw [hcr] at this; exact this)
              have HCR := Lib.hid (L_Create (s' := s3) (k := k3) HD3.out nb HSZ.out (by rw [HSN.out]; exact hcr) rfl)
              clear hb3 hcr HNA
              go_wp2_with fail
              (with_reducible refine HCR.out.mono ?_); rintro e w4 ⟨rfl, hd4, hb4⟩
              have HB4 : Hid (Below w.heap.size w w4) := Lib.hid (HB3.out.trans hb4)
              obtain ⟨s4, k4, hwr⟩ : ∃ s4 k4, Dsk.write s3 (nmOf 115 u) 0 z.bs = (s4, k4) := ⟨_, _, rfl⟩
              have HR4 : Hid (RawOk s4) := Lib.hid (by have := raw_write (n := nmOf 115 u) (a := 0) (b := z.bs) HR3.out; rw [hwr] at this; exact this)
              obtain ⟨tz, hsz⟩ := HOK.out
              have HWR := Lib.hid (L_Write (s' := s4) (k := k4) hd4 nb HSZ.out 0 (by decide) (c := z.c) (hsz.under HB4.out) (Nat.not_lt.2 hd4.ge) (by rw [HSN.out]; exact hwr) rfl)
              clear hd4 hb4 hwr hsz HCR HD3
              go_wp2_with fail
              (with_reducible refine HWR.out.mono ?_); rintro e w5 ⟨rfl, hd5, hb5⟩
              have HD5 := Lib.hid hd5
              have HB5 : Hid (Below w.heap.size w w5) := Lib.hid (HB4.out.trans hb5)
              clear hd5 hb5 HWR
              go_wp2_with fail
              go_roundw
              case rel => exact ⟨j + 1, HLT.out, by go_num, s4, HR4.out, HD5.out, HB5.out⟩
              case measure => simp [intOf]; have := HLT.out; omega
    · have hj1 : ¬ (j : Int) < (fs.length : Int) := by omega
      have HCR := Lib.hid (L_Crash HD.out (c := ck) (HKE.out.under HBW.out) (.inr fun g h => h) rfl)
      obtain ⟨s1, l, ho1, ho2, hl0, hl1⟩ := raw_crash HRAW.out HD.out.sorted keep
      obtain ⟨x, hx⟩ : ∃ x, x = l.getD zS := ⟨_, rfl⟩
      obtain ⟨q, hq⟩ : ∃ q, q = l.isSome := ⟨_, rfl⟩
      have HL0 : Hid (q = false → (snames s1).length = 0) := Lib.hid (fun e => hl0 (by cases l with | none => rfl | some y => rw [hq] at e; cases e))
      have HL1 : Hid (q = true → rightS x = true ∧ (snames s1).length = 1) := Lib.hid (fun e => by
        cases l with
        | none => rw [hq] at e; cases e
        | some y => rw [hx]; exact hl1 y rfl)
      have HO1 := Lib.hid ho1
      have HO2 := Lib.hid ho2
      have HXE := Lib.hid hx
      have HQE := Lib.hid hq
      clear ho1 ho2 hl0 hl1 hx hq hj
      go_wp2_with fail
      (with_reducible refine HCR.out.mono ?_); rintro e w7 ⟨rfl, hd7, hb7⟩
      have HD7 := Lib.hid hd7
      have HB7 : Hid (Below w.heap.size w w7) := Lib.hid (HBW.out.trans hb7)
      clear hd7 hb7 HCR HD HRAW HBW
      go_wp2_with fail
      (with_reducible refine (L_sOpen HD7.out (HLA.out.on HB7.out) HO1.out).mono ?_); rintro e w8 ⟨sb8, rfl, ha8, hb8⟩
      have HA8 := Lib.hid ha8
      have HB8 : Hid (Below w.heap.size w w8) := Lib.hid (HB7.out.trans hb8)
      have HX8 := Lib.hid (ha8.dd.toS)
      clear ha8 hb8 HB7 HD7 HO1
      go_wp2_with fail
      (with_reducible refine (sLast_any HA8.out).mono ?_); rintro e w9 ⟨v, rfl, ⟨A9, C9, D9, a9, c9, d9, rfl, o1, o2, o3⟩, hb9⟩
      rw [← HXE.out] at o1 o2 o3 ⊢
      rw [← HQE.out]
      have HB9 : Hid (Below w.heap.size w w9) := Lib.hid (HB8.out.trans (hb9.mono HA8.out.le))
      obtain ⟨wt, hwt⟩ : ∃ z', z' = w9.alloc (.cells #[.int .i64 x.x, .int .i64 x.t, .slice A9 x.vs.length a9, .slice C9 x.ls.length c9, .slice D9 x.ds.length d9] 43) := ⟨_, rfl⟩
      have hbt : Below w9.heap.size w9 wt := by rw [hwt]; exact (Below.refl _ _).alloc (Nat.le_refl _) _
      have hzt : wt.heap.size = w9.heap.size + 1 := by rw [hwt, World.size_alloc]
      have hb89 : Below w8.heap.size w8 wt := hb9.trans (hbt.mono hb9.size)
      have hr9 : ArgAt (fun g => w8.heap.size ≤ g ∧ g < wt.heap.size) wt x A9 C9 D9 :=
        ⟨⟨_, (((SlB.of_own o1).2.keep (w' := wt) fun g _ _ _ hh => hbt.block g (Array.getElem?_eq_some_iff.1 hh).1)).mono fun g hg h => ⟨h, hg⟩⟩,
         ⟨_, (((SlB.of_own o2).2.keep (w' := wt) fun g _ _ _ hh => hbt.block g (Array.getElem?_eq_some_iff.1 hh).1)).mono fun g hg h => ⟨h, hg⟩⟩,
         ⟨_, (((SlB.of_own o3).2.keep (w' := wt) fun g _ _ _ hh => hbt.block g (Array.getElem?_eq_some_iff.1 hh).1)).mono fun g hg h => ⟨h, hg⟩⟩⟩
      have hxt : Blk wt w9.heap.size 43 #[.int .i64 x.x, .int .i64 x.t, .slice A9 x.vs.length a9, .slice C9 x.ls.length c9, .slice D9 x.ds.length d9] := by rw [hwt]; exact Blk.new_ w9 _ _
      have hdx : DX (fun g => False ∨ (w8.heap.size ≤ g ∧ g < wt.heap.size)) w.heap.size p s1 wt := HX8.out.protect hb89 (fun g hg => hg)
      have HBT : Hid (Below w.heap.size w wt) := Lib.hid (HB9.out.trans (hbt.mono HB9.out.size))
      have HOP := Lib.hid (sOpen_any hdx (HLA.out.on HBT.out))
      have HRT := Lib.hid hr9
      have HXT := Lib.hid hxt
      have HWT := Lib.hid hwt
      have HGS : Hid (w8.heap.size ≤ w9.heap.size ∧ w9.heap.size < wt.heap.size) := Lib.hid ⟨hb9.size, by omega⟩
      clear hwt hbt hzt hb89 hr9 hxt hdx hb9 o1 o2 o3 HB8 HA8 HX8 HB9
      unfold SOpenP at HOP
      rw [HO2.out] at HOP
      go_upto_region 17 with fail
      rw [← HWT.out]
      clear HWT
      go_wp2_with fail
      (with_reducible refine HOP.out.mono ?_); rintro e w10 ⟨hb10, hk10, -, hop⟩
      obtain ⟨sb10, rfl, ha10⟩ := hop trivial
      have HA10 := Lib.hid ha10
      have HB10 : Hid (Below w.heap.size w w10) := Lib.hid (HBT.out.trans hb10)
      have HRX : Hid (ArgAt (fun g => w8.heap.size ≤ g ∧ g < wt.heap.size) w10 x A9 C9 D9) := Lib.hid (HRT.out.same fun g _ hg => hk10 g (.inr hg))
      have HX10 : Hid (Blk w10 w9.heap.size 43 #[.int .i64 x.x, .int .i64 x.t, .slice A9 x.vs.length a9, .slice C9 x.ls.length c9, .slice D9 x.ds.length d9]) := Lib.hid (blk_kept HXT.out (hk10 _ (.inr HGS.out)))
      clear ha10 hb10 hk10 hop HOP HRT HXT HBT
      go_wp2_with fail
      (with_reducible refine (sLast_any HA10.out).mono ?_); rintro e w11 ⟨v, rfl, ⟨A11, C11, D11, a11, c11, d11, rfl, o1, o2, o3⟩, hb11⟩
      rw [← HXE.out] at o1 o2 o3 ⊢
      rw [← HQE.out]
      have HB11 : Hid (Below w.heap.size w w11) := Lib.hid (HB10.out.trans (hb11.mono HA10.out.le))
      obtain ⟨wu, hwu⟩ : ∃ z', z' = w11.alloc (.cells #[.int .i64 x.x, .int .i64 x.t, .slice A11 x.vs.length a11, .slice C11 x.ls.length c11, .slice D11 x.ds.length d11] 43) := ⟨_, rfl⟩
      have hbu : Below w11.heap.size w11 wu := by rw [hwu]; exact (Below.refl _ _).alloc (Nat.le_refl _) _
      have HS11 : Hid (SnIn wu A11 x.vs C11 x.ls D11 x.ds) := Lib.hid (SnIn.below ⟨(SlB.of_own o1).2.sl, (SlB.of_own o2).2.sl, (SlB.of_own o3).2.sl⟩ hbu)
      have HS9 : Hid (SnIn wu A9 x.vs C9 x.ls D9 x.ds) := Lib.hid ((HRX.out.inn.below hb11).below hbu)
      have HXU : Hid (Blk wu w11.heap.size 43 #[.int .i64 x.x, .int .i64 x.t, .slice A11 x.vs.length a11, .slice C11 x.ls.length c11, .slice D11 x.ds.length d11]) := Lib.hid (by rw [hwu]; exact Blk.new_ w11 _ _)
      have hx11 := HX10.out.below hb11 HX10.out.lt
      have HXT : Hid (Blk wu w9.heap.size 43 #[.int .i64 x.x, .int .i64 x.t, .slice A9 x.vs.length a9, .slice C9 x.ls.length c9, .slice D9 x.ds.length d9]) := Lib.hid (hx11.below hbu hx11.lt)
      have HDU := Lib.hid ((HA10.out.dd.below hb11).below hbu)
      have HBU : Hid (Below w.heap.size w wu) := Lib.hid (HB11.out.trans (hbu.mono HB11.out.size))
      have HWU := Lib.hid hwu
      have hqq : (q != q) = false := by cases q <;> rfl
      clear hwu hbu hb11 o1 o2 o3 hx11 HB11 HX10 HRX HA10 HB10
      go_upto_region 21 with fail
      rw [← HWU.out]
      clear HWU
      refine AnyZ.start (S := (fun W => (W.cell? ⟨w9.heap.size, 0, none⟩ = some (.int .i64 x.x) ∧ W.cell? ⟨w9.heap.size, 1, none⟩ = some (.int .i64 x.t) ∧ W.cell? ⟨w9.heap.size, 2, none⟩ = some (.slice A9 x.vs.length a9) ∧ W.cell? ⟨w9.heap.size, 3, none⟩ = some (.slice C9 x.ls.length c9) ∧ W.cell? ⟨w9.heap.size, 4, none⟩ = some (.slice D9 x.ds.length d9)) ∧ (W.cell? ⟨w11.heap.size, 0, none⟩ = some (.int .i64 x.x) ∧ W.cell? ⟨w11.heap.size, 1, none⟩ = some (.int .i64 x.t) ∧ W.cell? ⟨w11.heap.size, 2, none⟩ = some (.slice A11 x.vs.length a11) ∧ W.cell? ⟨w11.heap.size, 3, none⟩ = some (.slice C11 x.ls.length c11) ∧ W.cell? ⟨w11.heap.size, 4, none⟩ = some (.slice D11 x.ds.length d11)))) (z := 1011) (by kernel_rfl) ?_ (fun hHeld => ?_)
      · exact ⟨held5 HXT.out (below_drew0 _), held5 HXU.out (below_drew0 _)⟩
      refine AnyZ.take (i := 0) (v := ?_) rfl (by kernel_rfl) (by kernel_rfl) (by kernel_rfl) (by kernel_rfl) (fun _ _ _ h => h) (Or.inl ⟨by kernel_rfl, ?_⟩) (by assumption) ?_
      rotate_left
      · intro w hSw; (try dsimp only at hSw); go_simp; try with_reducible rfl
      try simp only [Act.put, List.getElem_toArray, List.getElem_cons_succ, List.getElem_cons_zero, List.setIfInBounds_toArray, List.set_cons_zero, List.set_cons_succ]
      refine AnyZ.take (i := 1) (v := ?_) rfl (by kernel_rfl) (by kernel_rfl) (by kernel_rfl) (by kernel_rfl) (fun _ _ _ h => h) (Or.inl ⟨by kernel_rfl, ?_⟩) (by assumption) ?_
      rotate_left
      · intro w hSw; (try dsimp only at hSw); go_simp; try with_reducible rfl
      try simp only [Act.put, List.getElem_toArray, List.getElem_cons_succ, List.getElem_cons_zero, List.setIfInBounds_toArray, List.set_cons_zero, List.set_cons_succ]
      refine AnyZ.take (i := 2) (v := ?_) rfl (by kernel_rfl) (by kernel_rfl) (by kernel_rfl) (by kernel_rfl) (fun _ _ _ h => h) (Or.inl ⟨by kernel_rfl, ?_⟩) (by assumption) ?_
      rotate_left
      · intro w hSw; (try dsimp only at hSw); go_simp; try with_reducible rfl
      try simp only [Act.put, List.getElem_toArray, List.getElem_cons_succ, List.getElem_cons_zero, List.setIfInBounds_toArray, List.set_cons_zero, List.set_cons_succ]
      refine AnyZ.take (i := 3) (v := ?_) rfl (by kernel_rfl) (by kernel_rfl) (by kernel_rfl) (by kernel_rfl) (fun _ _ _ h => h) (Or.inl ⟨by kernel_rfl, ?_⟩) (by assumption) ?_
      rotate_left
      · intro w hSw; (try dsimp only at hSw); go_simp; try with_reducible rfl
      try simp only [Act.put, List.getElem_toArray, List.getElem_cons_succ, List.getElem_cons_zero, List.setIfInBounds_toArray, List.set_cons_zero, List.set_cons_succ]
      refine AnyZ.take (i := 4) (v := ?_) rfl (by kernel_rfl) (by kernel_rfl) (by kernel_rfl) (by kernel_rfl) (fun _ _ _ h => h) (Or.inl ⟨by kernel_rfl, ?_⟩) (by assumption) ?_
      rotate_left
      · intro w hSw; (try dsimp only at hSw); go_simp; try with_reducible rfl
      try simp only [Act.put, List.getElem_toArray, List.getElem_cons_succ, List.getElem_cons_zero, List.setIfInBounds_toArray, List.set_cons_zero, List.set_cons_succ]
      refine AnyZ.take (i := 6) (v := ?_) rfl (by kernel_rfl) (by kernel_rfl) (by kernel_rfl) (by kernel_rfl) (fun _ _ _ h => h) (Or.inl ⟨by kernel_rfl, ?_⟩) (by assumption) ?_
      rotate_left
      · intro w hSw; (try dsimp only at hSw); go_simp; try with_reducible rfl
      try simp only [Act.put, List.getElem_toArray, List.getElem_cons_succ, List.getElem_cons_zero, List.setIfInBounds_toArray, List.set_cons_zero, List.set_cons_succ]
      refine AnyZ.ready (rs := [5]) (by kernel_rfl) (by simp) ?_
      refine AllZ.cons rfl (fun K hK => ?_) AllZ.nil
      go_simp
      (with_reducible refine (of_w (wl := wu) (below_drew0 _)).mono ?_); rintro e wa ⟨rfl, hba⟩
      have HBa := Lib.hid hba
      clear hba
      refine hK.out _ _ ?_ (fun hHeld => ?_)
      · exact ⟨held5 HXT.out HBa.out, held5 HXU.out HBa.out⟩
      clear hK K
      try simp only [Act.put, List.getElem_toArray, List.getElem_cons_succ, List.getElem_cons_zero, List.setIfInBounds_toArray, List.set_cons_zero, List.set_cons_succ]
      refine AnyZ.ready (rs := [7]) (by kernel_rfl) (by simp) ?_
      refine AllZ.cons rfl (fun K hK => ?_) AllZ.nil
      go_simp
      (with_reducible refine (of_w (wl := wu) HBa.out).mono ?_); rintro e wb ⟨rfl, hbb⟩
      have HBb := Lib.hid hbb
      clear hbb HBa
      refine hK.out _ _ ?_ (fun hHeld => ?_)
      · exact ⟨held5 HXT.out HBb.out, held5 HXU.out HBb.out⟩
      clear hK K
      try simp only [Act.put, List.getElem_toArray, List.getElem_cons_succ, List.getElem_cons_zero, List.setIfInBounds_toArray, List.set_cons_zero, List.set_cons_succ]
      refine AnyZ.ready (rs := [8]) (by kernel_rfl) (by simp) ?_
      refine AllZ.cons rfl (fun K hK => ?_) AllZ.nil
      go_simp
      (with_reducible refine (same_w (wl := wu) (s := x) (s' := x) HBb.out HS9.out HS11.out).mono ?_); rintro e wc ⟨rfl, hbc⟩
      rw [sameB_self]
      have HBc := Lib.hid hbc
      clear hbc HBb
      refine hK.out _ _ ?_ (fun hHeld => ?_)
      · exact ⟨held5 HXT.out HBc.out, held5 HXU.out HBc.out⟩
      clear hK K
      try simp only [Act.put, List.getElem_toArray, List.getElem_cons_succ, List.getElem_cons_zero, List.setIfInBounds_toArray, List.set_cons_zero, List.set_cons_succ]
      refine AnyZ.take (i := 9) (v := ?_) rfl (by kernel_rfl) (by kernel_rfl) (by kernel_rfl) (by kernel_rfl) (fun _ _ _ h => h) (Or.inl ⟨by kernel_rfl, ?_⟩) (by assumption) ?_
      rotate_left
      · intro w hSw; (try dsimp only at hSw); go_simp; try with_reducible rfl
      try simp only [Act.put, List.getElem_toArray, List.getElem_cons_succ, List.getElem_cons_zero, List.setIfInBounds_toArray, List.set_cons_zero, List.set_cons_succ]
      refine AnyZ.take (i := 10) (v := ?_) rfl (by kernel_rfl) (by kernel_rfl) (by kernel_rfl) (by kernel_rfl) (fun _ _ _ h => h) (Or.inl ⟨by kernel_rfl, ?_⟩) (by assumption) ?_
      rotate_left
      · intro w hSw; (try dsimp only at hSw); go_simp; try with_reducible rfl
      try simp only [Act.put, List.getElem_toArray, List.getElem_cons_succ, List.getElem_cons_zero, List.setIfInBounds_toArray, List.set_cons_zero, List.set_cons_succ]
      refine AnyZ.done (by kernel_rfl) ?_ _
      clear hHeld
      have HBF : Hid (Below w.heap.size w wc) := Lib.hid (HBU.out.trans (HBc.out.mono HBU.out.size))
      have HDF := Lib.hid (HDU.out.below HBc.out)
      have HSF := Lib.hid (HS9.out.below HBc.out)
      have HXF := Lib.hid (HXT.out.below HBc.out HXT.out.lt)
      have HNM := Lib.hid (L_Names HDF.out)
      clear HXT HXU HBU HDU HS9 HS11 HBc
      cases q with
      | false =>
        have HN0 := Lib.hid (HL0.out rfl)
        go_upto_region 24 with fail
        go_wp2_with fail
        (with_reducible refine HNM.out.mono ?_); rintro e w13 ⟨A13, c13, rfl, -, -, hb13⟩
        have HB13 : Hid (Below w.heap.size w w13) := Lib.hid (HBF.out.trans (hb13.mono HBF.out.size))
        have hn0 := HN0.out
        clear hb13
        rw [hn0]
        go_wp2_with fail
        go_ret
        exact ⟨rfl, HB13.out⟩
      | true =>
        have HN1 := Lib.hid (HL1.out rfl)
        obtain ⟨d0, d1', d2', d3, d4⟩ := held5 HXF.out (Below.refl _ _)
        go_upto_region 25 with fail
        go_wp2_with fail
        (with_reducible refine (of_w (wl := wc) (Below.refl _ _)).mono ?_); rintro e w12 ⟨rfl, hb12⟩
        have HB12 := Lib.hid hb12
        have hrr := RSnRight_any (w := w12) (x := x.x) (t := x.t) (a := a9) (b := c9) (d := d9) (HSF.out.below hb12)
        rw [show snapB x.x x.t x.vs x.ls x.ds = true from HN1.out.1] at hrr
        have HRR := Lib.hid hrr
        clear hrr hb12 d0 d1' d2' d3 d4
        go_wp2_with fail
        (with_reducible refine HRR.out.mono ?_); rintro e w13 ⟨rfl, hb13⟩
        have HNM2 := Lib.hid (L_Names ((HDF.out.below HB12.out).below hb13))
        have HB13 : Hid (Below w.heap.size w w13) := Lib.hid ((HBF.out.trans (HB12.out.mono HBF.out.size)).trans (hb13.mono (Nat.le_trans HBF.out.size HB12.out.size)))
        clear hb13
        go_wp2_with fail
        (with_reducible refine HNM2.out.mono ?_); rintro e w14 ⟨A14, c14, rfl, -, -, hb14⟩
        have HB14 : Hid (Below w.heap.size w w14) := Lib.hid (HB13.out.trans (hb14.mono HB13.out.size))
        have hn1 := HN1.out.2
        clear hb14
        rw [hn1]
        go_wp2_with fail
        go_ret
        exact ⟨rfl, HB14.out⟩
end Go.Proofs.YtfpomllhkbbipaaGreatDoor
