/- Layer 6: WalRuns: the walk; datas as an argument. -/
import Derived.Test.YtifgajinfcihmaaGreatDoorHBh
import Derived.Test.YtifgajinfcihmaaGreatDoorHBj
namespace Go.Proofs.YtifgajinfcihmaaGreatDoor
open Go Go.RowKit Go.Shelf Go.Maps Go.Lib Mem Pk Dsk Wl Go.Proofs.YtifgajinfcihmaaGreatDoor.Nm
structure DatR where
 A : Option Addr
 c : Nat
 bs : List UInt8
def DatR.cell (z : DatR) : List Value := [.slice z.A z.bs.length z.c]
structure DatOK (w : World) (z : DatR) : Prop where
 sl : ∃ te, SlB fB te (fun g => g < w.heap.size) w z.A z.bs
 len : z.bs.length ≤ z.c
 cap : z.c ≤ maxLen
def DatsIn (w : World) (A : Option Addr) (xs : List DatR) : Prop := SlC 1 DatR.cell w A xs ∧ ∀ x ∈ xs, DatOK w x
theorem open_datas {H : Type} {enc : TypeId × Value → H} {w : World} {A : Option Addr} {len cap : Nat} {d : DataW H} {ps : List MemPlace} (h : DataW.Trod enc Tryz.prog w 0 (fun _ => true) true 23 (.slice A len cap) d ps)
 {ts : List TypeId} {ds : List (DataW H)} (_ : (DataW.weightsEach Tryz.prog ts ds).all (· ≤ reachBytes) = true) {j : Nat} (_ : ts[j]? = some 23) (_ : ds[j]? = some d) : ∃ xs, len = xs.length ∧ DatsIn w A xs := by
 obtain ⟨xs, e, h1, h2, h3, h4, _⟩ := open_rows DatR.cell (DatOK w) Tryz.underlying23 (k := 1) (by kernel_rfl) (by decide) h (fun cs n y h hl => by
  match cs, hl with
  | [v], _ =>
    obtain ⟨A, c, bs, e, q1, q2, hs, _⟩ := op_slice fB (fun _ => True) Tryz.underlying28 (by kernel_rfl) h (fun v n y h => op_byte Tryz.underlying5 h)
    exact ⟨⟨A, c, bs⟩, by rw [e]; rfl, SlB.any hs (fun _ h => h), q1, q2⟩)
 exact ⟨xs, e, h3, h4⟩
theorem rightE_mk {i t k : Int} {ds : List UInt8} (h1 : 1 ≤ i) (h2 : i ≤ 1099511627776) (h3 : 0 ≤ t) (h4 : t ≤ 1099511627776) (h5 : 0 ≤ k) (h6 : k ≤ 2) (h7 : ds.length ≤ 2048) : rightE ⟨i, t, k, ds⟩ = true := rightE_iff.2 ⟨h1, h2, h3, h4, h5, h6, h7⟩
def RnOK (f : Int) (j : Nat) (xs : List SegK) (ws : List EnM) : Prop := RunK 0 f xs ∧ allE (segsK xs) = ws.map EnM.e ∧ xs.length ≤ ws.length ∧ ws.length ≤ j ∧ ws.length ≤ 30
def RnRel (n B p wb : Nat) (f : Int) (w : World) (ov iv : Value) (wr : World) : Prop :=
 ∃ (j : Nat) (xs : List SegK) (ws : List EnM) (A : Option Addr) (c : Nat), j ≤ n ∧ iv = .int .i64 j ∧ ov = .slice A ws.length c ∧ LawAt B p wb xs A c ws w wr ∧ Hid (RnOK f j xs ws)
theorem RunK.bounds {f : Int} {j : Nat} {xs : List SegK} {ws : List EnM} (h : RnOK f j xs ws) : (segsK xs).length + 1 ≤ 900000 ∧ (allE (segsK xs)).length + 1 ≤ 900000 := by
 obtain ⟨_, h2, h3, _, h5⟩ := h
 rw [h2, List.length_map]
 unfold segsK; rw [List.length_map]; omega
set_option maxRecDepth 100000 in
set_option maxHeartbeats 8000000 in
theorem walRuns_walk {w : World} (hla : LaidS w) (A0 : Option Addr) (c0 : Nat) (fs : List DatR) (hfs : DatsIn w A0 fs) (y1 : Int) (_ : (Lit.int .i64 y1).wf = true) (y2 : Int) (_ : (Lit.int .i64 y2).wf = true) :
 Calls Tryz.prog 5 #[.slice A0 fs.length c0, .int .i64 y1, .int .i64 y2] w fun e w' => e = .returned (.bool true) ∧ Below w.heap.size w w' := by
 have HLA := Lib.hid (LaidB.of hla)
 have HFS := Lib.hid hfs
 have hln2 : fs.length ≤ 9223372036854775807 := Nat.le_trans hfs.1.1 (by unfold maxLen; decide)
 clear hla hfs
 obtain ⟨m1, hm1, ha1⟩ := and_small y1 1023 (by decide)
 obtain ⟨m2, hm2, ha2⟩ := and_small y2 1023 (by decide)
 have ha1 : bits .and .i64 y1 1023 = (m1 : Int) := ha1
 have ha2 : bits .and .i64 y2 1023 = (m2 : Int) := ha2
 go_enter Tryz.func5, Tryz.ntmps5
 go_wp2_with fail
 (with_reducible refine (L_New w w.heap.size (Nat.le_refl _)).mono ?_); rintro e w1 ⟨p, rfl, hd1, -, hb1⟩
 have HD1 : Hid (D w.heap.size p (diskK []) w1) := Lib.hid hd1
 have HB1 := Lib.hid hb1
 have HAL := Lib.hid (alive6_any (w := w1) (LaidB.of (HLA.out.on hb1).here))
 clear hd1 hb1
 go_wp2_with fail
 (with_reducible refine HAL.out.mono ?_); rintro e w2 ⟨rfl, hb2⟩
 have HD2 := Lib.hid (HD1.out.below hb2)
 have HB2 : Hid (Below w.heap.size w w2) := Lib.hid (HB1.out.trans (hb2.mono HB1.out.size))
 clear hb2 HB1 HD1 HAL
 obtain ⟨wa, hwa⟩ : ∃ z, z = w2.alloc (.cells #[] 40) := ⟨_, rfl⟩
 have hba : Below w2.heap.size w2 wa := by rw [hwa]; exact (Below.refl _ _).alloc (Nat.le_refl _) _
 have hza : wa.heap.size = w2.heap.size + 1 := by rw [hwa, World.size_alloc]
 have hxa : Blk wa w2.heap.size 40 #[] := by rw [hwa]; exact Blk.new_ w2 _ _
 have HXA := Lib.hid hxa
 have HDA : Hid (DX (fun g => g = w2.heap.size) w.heap.size p (diskK []) wa) := Lib.hid (HD2.out.protect hba (fun g hg => by subst hg; omega))
 have HBA : Hid (Below w.heap.size w wa) := Lib.hid (HB2.out.trans (hba.mono HB2.out.size))
 have HGB : Hid (w.heap.size ≤ w2.heap.size) := Lib.hid HB2.out.size
 have HWA := Lib.hid hwa
 clear hwa hba hza hxa
 go_upto_region 6 with fail
 rw [← HWA.out]
 clear HWA
 go_wp2_with fail
 (with_reducible refine (X_wOpen HDA.out (HLA.out.on HBA.out) xo0).mono ?_); rintro e w3 ⟨wb, rfl, ha3, hb3, hk3⟩
 have HLW : Hid (LawAt w.heap.size p wb [] (some ⟨w2.heap.size, 0, none⟩) 0 [] w w3) := Lib.hid ⟨⟨fun g => g = w2.heap.size, fun g hg => by subst hg; exact HGB.out, WlE.elder ha3, ⟨Nat.le_refl _, Nat.zero_le _, .inr ⟨w2.heap.size, 0, #[], rfl, rfl, (hk3 _ rfl).trans HXA.out, by simp, fun j hj => by simp at hj⟩⟩⟩, (fun x hx => by cases hx), HBA.out.trans hb3⟩
 clear ha3 hb3 hk3 HXA HDA HBA HGB HD2 HB2
 go_wp2_with fail
 go_loopw [8, 42] (fun ov iv wr => RnRel fs.length w.heap.size p wb (1 + (m1 : Int)) w ov iv wr) (fun _ iv _ => fs.length - (RowKit.intOf iv).toNat)
 case atStart => exact ⟨0, [], [], _, _, Nat.zero_le _, rfl, rfl, HLW.out, Lib.hid ⟨RunK.nil _ _, rfl, Nat.le_refl _, Nat.le_refl _, Nat.zero_le _⟩⟩
 case round =>
  obtain ⟨j, xs, ws, A, c, hj, rfl, rfl, hlw, HOK⟩ := hrel
  have HLW := Lib.hid hlw
  have hwl : ws.length ≤ 30 := HOK.out.2.2.2.2
  clear hlw
  by_cases hlt : j < fs.length
  ·have HLT := Lib.hid hlt
   have hj0 : (0 : Int) ≤ (j : Int) := by omega
   have hj1 : (j : Int) < (fs.length : Int) := by omega
   obtain ⟨b, o, rfl, hbb, hc⟩ := HFS.out.1.at hlt
   have hz1 : ∃ z, DatOK w z ∧ w.cell? ⟨b, o + j, none⟩ = some (.slice z.A z.bs.length z.c) := ⟨fs[j], HFS.out.2 _ (List.getElem_mem hlt), by have h9 := hc 0 (by decide); simp only [DatR.cell, Nat.mul_one, Nat.add_zero, List.getElem?_cons_zero] at h9; exact h9⟩
   obtain ⟨z, hok, hcz⟩ := hz1
   have hc0' : wr.cell? ⟨b, o + j, none⟩ = some (.slice z.A z.bs.length z.c) := (HLW.out.bel.cell hbb).trans hcz
   have HZ := Lib.hid hok
   clear hc hcz hok hlt
   by_cases h30 : 30 ≤ j
   ·have t1 : decide ((30 : Int) ≤ (j : Int)) = true := decide_eq_true (by omega)
    have t1' : (30 : Int) ≤ (j : Int) := by omega
    go_wp2_with fail
    go_roundw
    case rel => exact ⟨j + 1, xs, ws, A, c, HLT.out, by go_num, rfl, HLW.out, Lib.hid ⟨HOK.out.1, HOK.out.2.1, HOK.out.2.2.1, Nat.le_succ_of_le HOK.out.2.2.2.1, HOK.out.2.2.2.2⟩⟩
    case measure => simp [RowKit.intOf]; have := HLT.out; omega
   ·have t1 : ¬ (30 : Int) ≤ (j : Int) := by omega
    by_cases h4 : 400 < z.bs.length
    ·have t4 : (400 : Int) < (z.bs.length : Int) := by omega
     go_wp2_with fail
     go_roundw
     case rel => exact ⟨j + 1, xs, ws, A, c, HLT.out, by go_num, rfl, HLW.out, Lib.hid ⟨HOK.out.1, HOK.out.2.1, HOK.out.2.2.1, Nat.le_succ_of_le HOK.out.2.2.2.1, HOK.out.2.2.2.2⟩⟩
     case measure => simp [RowKit.intOf]; have := HLT.out; omega
    ·have t4 : ¬ (400 : Int) < (z.bs.length : Int) := by omega
     obtain ⟨K, hK, hat, hrw⟩ := HLW.out.at_
     obtain ⟨en, hen⟩ : ∃ en : En, en = ⟨1 + (m1 : Int) + (ws.length : Int), (j : Int), (j : Int) % 3, z.bs⟩ := ⟨_, rfl⟩
     obtain ⟨ys, g1, g2, g3, g4⟩ := appendW_ok (t := 0) (i := 1 + (m1 : Int)) (es := [en]) HOK.out.1 (fun e he => by
      rw [List.mem_singleton.1 he, hen]
      exact rightE_mk (by omega) (by omega) (by omega) (by omega) (by omega) (by omega) (by omega)) (by
      rw [HOK.out.2.1, List.length_map]
      exact follow_one.2 (by rw [hen])) (fun e he => by rw [List.mem_singleton.1 he, hen]; show (0 : Int) < 1 + (m1 : Int) + (ws.length : Int); omega) (by have h1 := HOK.out.2.2.1; rw [List.length_singleton]; omega)
     obtain ⟨wx, hwx⟩ : ∃ q, q = wr.alloc (.cells #[.int .i64 (1 + (m1 : Int) + (ws.length : Int)), .int .i64 (j : Int), .int .i64 ((j : Int) % 3), .slice z.A z.bs.length z.c] 40) := ⟨_, rfl⟩
     have hbx : Below wr.heap.size wr wx := by rw [hwx]; exact (Below.refl _ _).alloc (Nat.le_refl _) _
     have hzx : wx.heap.size = wr.heap.size + 1 := by rw [hwx, World.size_alloc]
     have hxx : Blk wx wr.heap.size 40 #[.int .i64 (1 + (m1 : Int) + (ws.length : Int)), .int .i64 (j : Int), .int .i64 ((j : Int) % 3), .slice z.A z.bs.length z.c] := by rw [hwx]; exact Blk.new_ wr _ _
     obtain ⟨wa, hwa⟩ : ∃ q, q = wx.alloc (.cells #[.int .i64 (1 + (m1 : Int) + (ws.length : Int)), .int .i64 (j : Int), .int .i64 ((j : Int) % 3), .slice z.A z.bs.length z.c] 40) := ⟨_, rfl⟩
     have hba1 : Below wx.heap.size wx wa := by rw [hwa]; exact (Below.refl _ _).alloc (Nat.le_refl _) _
     have hza : wa.heap.size = wr.heap.size + 2 := by rw [hwa, World.size_alloc, hzx]
     have hxa : Blk wa (wr.heap.size + 1) 40 #[.int .i64 (1 + (m1 : Int) + (ws.length : Int)), .int .i64 (j : Int), .int .i64 ((j : Int) % 3), .slice z.A z.bs.length z.c] := by
      rw [hwa]; have h9 := Blk.new_ wx 40 #[.int .i64 (1 + (m1 : Int) + (ws.length : Int)), .int .i64 (j : Int), .int .i64 ((j : Int) % 3), .slice z.A z.bs.length z.c]; rw [hzx] at h9; exact h9
     have hba : Below wr.heap.size wr wa := hbx.trans (hba1.mono hbx.size)
     have hxa0 : Blk wa wr.heap.size 40 #[.int .i64 (1 + (m1 : Int) + (ws.length : Int)), .int .i64 (j : Int), .int .i64 ((j : Int) % 3), .slice z.A z.bs.length z.c] := hxx.below hba1 hxx.lt
     have hbw : Below w.heap.size w wa := HLW.out.bel.trans (hba.mono hat.le)
     have HAP := Lib.hid (X_wAppend1 (F := fun g => g < w.heap.size) (w0 := wr) (w := wa) (e := en) (A := z.A) (c := z.c) (ki := 0) hat hba (HLA.out.on hbw) (Nat.le_succ _) (by rw [hen]; exact hxa) (by rw [hen]; exact SlB.ex_under HZ.out.sl hbw) (fun q hq => .inl (.inl hq)) (by rw [hen]; exact ⟨HZ.out.len, HZ.out.cap⟩) (RunK.bounds HOK.out) (chain_follow HOK.out.1.chain).2 g1 rfl)
     have HWX := Lib.hid hwx
     have HWA := Lib.hid hwa
     have HBW := Lib.hid hbw
     have HK := Lib.hid hK
     have HRW : Hid (Rw 4 emC 40 K wa A c ws) := Lib.hid (hrw.below hba)
     have HX0 := Lib.hid hxa0
     have HSZ := Lib.hid hza
     have HG : Hid (RnOK (1 + (m1 : Int)) (j + 1) ys (ws ++ [⟨en, z.A, z.c⟩])) := Lib.hid ⟨g2, by rw [g3, HOK.out.2.1, List.map_append]; rfl, by have h1 := HOK.out.2.2.1; rw [List.length_append]; simp at g4 ⊢; omega, by have h1 := HOK.out.2.2.2.1; rw [List.length_append]; simp; omega, by have h1 := HOK.out.2.2.2.1; rw [List.length_append]; simp; omega⟩
     have HEN := Lib.hid hen
     have HLE : Hid (w.heap.size ≤ wr.heap.size) := Lib.hid hat.le
     clear hwx hbx hzx hxx hwa hba1 hza hxa hba hxa0 hbw hrw hat hK g1 g2 g3 g4 hen h30 h4
     go_upto_region 14 with fail
     rw [← HWX.out]
     clear HWX
     change Hid (Calls _ _ #[.pointer (some ⟨wb, 0, none⟩), .slice (some ⟨wr.heap.size + 1, 0, none⟩) 1 1] _ _) at HAP
     have q0 : wx.heap.size = wr.heap.size + 1 := by have h1 := HSZ.out; have h2 := congrArg (fun q : World => q.heap.size) HWA.out; simp only [World.size_alloc] at h2; omega
     have HQ0 := Lib.hid q0
     have hx1 : Blk wx wr.heap.size 40 #[.int .i64 (1 + (m1 : Int) + (ws.length : Int)), .int .i64 (j : Int), .int .i64 ((j : Int) % 3), .slice z.A z.bs.length z.c] := by
      have h9 := HX0.out
      unfold Mem.Blk at h9 ⊢
      rw [HWA.out] at h9
      have h8 := ((Below.refl wx.heap.size wx).alloc (Nat.le_refl _) (.cells #[.int .i64 (1 + (m1 : Int) + (ws.length : Int)), .int .i64 (j : Int), .int .i64 ((j : Int) % 3), .slice z.A z.bs.length z.c] 40)).block wr.heap.size (by omega)
      rw [← h8]; exact h9
     have x0 := hx1.cell 0
     have x1 := hx1.cell 1
     have x2 := hx1.cell 2
     have x3 := hx1.cell 3
     clear hx1 q0
     go_wp2_with fail
     rw [← HWA.out]
     rw [← HQ0.out] at HAP
     (with_reducible refine HAP.out.mono ?_); rintro e w5 ⟨rfl, ha5, hb5, hk5⟩
     have HX5 : Hid (Blk w5 wr.heap.size 40 #[.int .i64 (1 + (m1 : Int) + (ws.length : Int)), .int .i64 (j : Int), .int .i64 ((j : Int) % 3), .slice z.A z.bs.length z.c]) := Lib.hid ((hk5 _ (.inr ⟨Nat.le_refl _, by have := HSZ.out; omega⟩)).trans HX0.out)
     have HA5 := Lib.hid ha5
     have HB5 : Hid (Below w.heap.size w w5) := Lib.hid (HBW.out.trans hb5)
     have HR5 : Hid (Rw 4 emC 40 K w5 A c ws) := Lib.hid (HRW.out.keep (fun g cur hg hb => (hk5 g (.inl (.inr hg))).trans hb))
     have y0 := HX5.out.cell 0
     have y1' := HX5.out.cell 1
     have y2' := HX5.out.cell 2
     have y3 := HX5.out.cell 3
     clear ha5 hb5 hk5 x0 x1 x2 x3 HAP HWA HRW HX0
     go_wp2_with (at_builtin; refine wpList_appendR1 (f := emC) rfl (.tmp 68) (.tmp 70) 37 rfl entT emC_len ⟨en, z.A, z.c⟩ (emC_one _) (by rw [HEN.out]; rfl) rfl HR5.out rfl rfl (by unfold maxLen; omega) (by omega) ?_; intro A12 c12 w12 hr12 hf12; have HR12 := Lib.hid hr12; have HF12 := Lib.hid hf12; clear hr12 hf12)
     go_roundw
     case rel =>
      have hfr : Frm (fun g => g < w.heap.size ∨ K g) w5 w12 := HF12.out.mono (fun g _ hg => .inr hg.1)
      have hlw := WlE.law HA5.out hfr
      refine ⟨j + 1, ys, ws ++ [⟨en, z.A, z.c⟩], A12, c12, HLT.out, by go_num, by rw [List.length_append]; rfl, ⟨⟨fun g => K g ∨ (w5.heap.size ≤ g ∧ g < w12.heap.size), fun g hg => ?_, WlE.weaken hlw (fun g hg => ?_), HR12.out.mono (fun g hl hg => ?_)⟩, fun x hx => ?_, HB5.out.trans (HF12.out.to_below (fun g _ h1 h2 => by have := HK.out g h2.1; omega) HB5.out.size)⟩, HG⟩
      ·rcases hg with hg | hg
       ·exact HK.out g hg
       ·have := HB5.out.size; omega
      ·rcases hg with hg | hg | hg
       ·exact .inl (.inl hg)
       ·exact .inl (.inr hg)
       ·exact .inr hg
      ·rcases hg with hg | hg
       ·exact .inl hg.1
       ·exact .inr ⟨Nat.le_of_lt hg, hl⟩
      ·rcases List.mem_append.1 hx with hx | hx
       ·exact HLW.out.ds x hx
       ·rw [List.mem_singleton.1 hx]
        exact ⟨by show ∃ te, SlB fB te _ w z.A en.ds; rw [HEN.out]; exact HZ.out.sl, by show en.ds.length ≤ z.c; rw [HEN.out]; exact HZ.out.len, HZ.out.cap⟩
     case measure => simp [RowKit.intOf]; have := HLT.out; omega
  ·have hj1 : ¬ (j : Int) < (fs.length : Int) := by omega
   clear hlt
   obtain ⟨K, hK, hat, hrw⟩ := HLW.out.at_
   have HK := Lib.hid hK
   have HA := Lib.hid hat
   have HR := Lib.hid hrw
   have HB : Hid (Below w.heap.size w wr) := Lib.hid HLW.out.bel
   have HDS : Hid (∀ x ∈ ws, EmD (fun g => g < w.heap.size) w x) := Lib.hid HLW.out.ds
   have hclen : ws.length ≤ c := hrw.1
   obtain ⟨L, hL⟩ : ∃ L, L = ws.length := ⟨_, rfl⟩
   rw [← hL] at hwl hclen ⊢
   have HL := Lib.hid hL
   have HRK : Hid (RunK 0 (1 + (m1 : Int)) xs ∧ allE (segsK xs) = ws.map EnM.e ∧ (allE (segsK xs)).length = L ∧ xs.length ≤ 30) := Lib.hid ⟨HOK.out.1, HOK.out.2.1, by rw [HOK.out.2.1, List.length_map, hL], by have h1 := HOK.out.2.2.1; have h2 := HOK.out.2.2.2.2; omega⟩
   clear hK hat hrw hL HLW HOK
   by_cases hL0 : L = 0
   ·have HFI := Lib.hid (wFirst_any HA.out)
    have he0 : allE (segsK xs) = [] := List.eq_nil_of_length_eq_zero (by rw [HRK.out.2.2.1]; exact hL0)
    rw [he0, show firstE [] = 0 from rfl] at HFI
    clear he0
    subst hL0
    go_wp2_with fail
    (with_reducible refine HFI.out.mono ?_); rintro e w6 ⟨rfl, m6, hw6⟩
    have HB6 : Hid (Below w.heap.size w w6) := Lib.hid (by rw [hw6]; exact below_drewN HB.out m6)
    clear hw6 HFI
    go_wp2_with fail
    go_ret
    exact ⟨rfl, HB6.out⟩
   ·have tL : ((L : Int) == 0) = false := by rw [beq_eq_false_iff_ne]; omega
    have tL2 : (0 : Int) < (L : Int) := by omega
    obtain ⟨kk, hkk⟩ : ∃ kk, kk = m2 % L := ⟨_, rfl⟩
    have hkl : kk < L := by rw [hkk]; exact Nat.mod_lt _ (by omega)
    have hmod : (m2 : Int) % (L : Int) = (kk : Int) := by rw [hkk]; rfl
    have hmod2 : (m2 : Int).tmod (L : Int) = (kk : Int) := by rw [Int.tmod_eq_emod_of_nonneg (by omega)]; exact hmod
    obtain ⟨ys, u1, u2, u3, u4⟩ := cutW_ok (t := 0) (c := 1 + (m1 : Int) + (kk : Int)) (HRK.out.1.dry 0)
    rw [allE_dry, show (1 + (m1 : Int) + (kk : Int) - (1 + (m1 : Int))).toNat = kk by omega] at u3
    rw [List.length_map] at u4
    have hdl : ((ws.drop kk).map EnM.e) = (allE (segsK xs)).drop kk := by rw [HRK.out.2.1, List.map_drop]
    have hfo : Wl.follow (1 + (m1 : Int) + (kk : Int)) ((allE (segsK xs)).drop kk) := by
     have h9 := (chain_follow HRK.out.1.chain).1
     rw [← List.take_append_drop kk (allE (segsK xs))] at h9
     have h8 := (follow_append.1 h9).2
     rw [List.length_take, HRK.out.2.2.1, Nat.min_eq_left (by omega)] at h8
     exact h8
    have hyl : (allE (segsK ys)).length = kk := by rw [u3, List.length_take, HRK.out.2.2.1]; omega
    obtain ⟨zs, v1, v2, v3, v4⟩ := appendW_ok (es := (ws.drop kk).map EnM.e) u2 (by
     rw [hdl]; exact fun e he => (chain_follow HRK.out.1.chain).2 e (List.mem_of_mem_drop he)) (by rw [hyl, hdl]; exact hfo) (fun e he => by
     rw [hdl] at he
     have := follow_ge hfo e he; omega) (by have h1 := HRK.out.2.2.2; rw [List.length_map, List.length_drop, ← HL.out]; omega)
    have hza : allE (segsK zs) = ws.map EnM.e := by rw [v3, u3, hdl, List.take_append_drop, HRK.out.2.1]
    have HSY := Lib.hid (X_wSync HA.out (syncW_ok HRK.out.1) (ki := 0) rfl)
    have HCUT := Lib.hid u1
    have HYS := Lib.hid u2
    have HYL := Lib.hid hyl
    have HAPP := Lib.hid v1
    have HZS := Lib.hid v2
    have HZA := Lib.hid hza
    have HYC : Hid (ys.length ≤ 30) := Lib.hid (by have := HRK.out.2.2.2; omega)
    have hcS : ∀ V, (Instr.slice 37 (.slice A L c) (some (.int .i64 (kk : Int))) none none).run Tryz.prog V = .ok (.slice (partK A c kk 4) (L - kk) (c - kk)) V := fun V =>
     cutRK (P := Tryz.prog) (k := 4) Tryz.underlying37 (by intro w; kernel_rfl) A L c kk (by omega) V
    clear hL0 hkk u1 u2 u3 u4 hdl hfo hyl v1 v2 v3 v4 hza
    go_wp2_with fail
    (with_reducible refine HSY.out.mono ?_); rintro e w6 ⟨rfl, ha6, hb6, hk6⟩
    have HA6 := Lib.hid ha6
    have HB6 : Hid (Below w.heap.size w w6) := Lib.hid (HB.out.trans hb6)
    have HR6 : Hid (Rw 4 emC 40 K w6 A c ws) := Lib.hid (HR.out.keep (fun g _ hg hb => (hk6 g (.inr hg)).trans hb))
    have HCU := Lib.hid (X_wCut ha6 ⟨_, (HRK.out.1.dry 0).chain⟩ (by rw [allE_dry, HRK.out.2.2.1]; omega) _ HCUT.out (ki := 0) rfl)
    clear ha6 hb6 hk6 HA HB HR HSY
    go_wp2_with fail
    (with_reducible refine HCU.out.mono ?_); rintro e w7 ⟨rfl, ha7, hb7, hk7⟩
    have HA7 := Lib.hid ha7
    have HB7 : Hid (Below w.heap.size w w7) := Lib.hid (HB6.out.trans hb7)
    have hr7 : Rw 4 emC 40 K w7 A c ws := HR6.out.keep (fun g _ hg hb => (hk7 g (.inr hg)).trans hb)
    have HR7 := Lib.hid hr7
    have hl7 : (ws.drop kk).length = L - kk := by rw [List.length_drop, ← HL.out]
    have HAP := Lib.hid (X_wAppend (ki := 0) (F := fun g => g < w.heap.size ∨ K g) ha7 (HLA.out.on HB7.out) ((hr7.mono (fun g _ hg => Or.inr hg)).cut kk (by rw [← HL.out]; omega)) (fun g hg => hg) (fun x hx => by
     have h9 := HDS.out x (List.mem_of_mem_drop hx)
     exact ⟨SlB.ex_mono (SlB.ex_under h9.sl HB7.out) (fun g _ hg => .inl hg), h9.len, h9.cap⟩) (by
     have h1 := HYC.out
     rw [hl7, HYL.out]
     unfold segsK; rw [List.length_map]; omega) (chain_follow HYS.out.chain).2 HAPP.out rfl)
    rw [hl7] at HAP
    clear ha7 hb7 hk7 hr7 hl7 HA6 HB6 HR6 HCU
    go_wp2_with fail
    (with_reducible refine HAP.out.mono ?_); rintro e w8 ⟨rfl, ha8, hb8, hk8⟩
    have HB8 : Hid (Below w.heap.size w w8) := Lib.hid (HB7.out.trans hb8)
    have HR8 : Hid (Rw 4 emC 40 K w8 A c ws) := Lib.hid (HR7.out.keep (fun g _ hg hb => (hk8 g (.inr hg)).trans hb))
    have HSY := Lib.hid (X_wSync ha8 (syncW_ok HZS.out) (ki := 0) rfl)
    clear ha8 hb8 hk8 HA7 HB7 HR7 HAP
    go_wp2_with fail
    (with_reducible refine HSY.out.mono ?_); rintro e w9 ⟨rfl, ha9, hb9, hk9⟩
    have HB9 : Hid (Below w.heap.size w w9) := Lib.hid (HB8.out.trans hb9)
    have HR9 : Hid (Rw 4 emC 40 K w9 A c ws) := Lib.hid (HR8.out.keep (fun g _ hg hb => (hk9 g (.inr hg)).trans hb))
    have hzz : (zs.map dryK).map dryK = zs.map dryK := by rw [List.map_map]; rfl
    have hop := openW_ok (HZS.out.dry 0)
    rw [hzz] at hop
    have HOP := Lib.hid (X_wOpen2 ha9 (HLA.out.on HB9.out) hop)
    clear ha9 hb9 hk9 HB8 HR8 HSY hzz hop
    go_wp2_with fail
    (with_reducible refine HOP.out.mono ?_); rintro e w10 ⟨wb2, rfl, ha10, hc10, hb10, hk10⟩
    have HA10 := Lib.hid ha10
    have HC10 := Lib.hid hc10
    have HB10 : Hid (Below w.heap.size w w10) := Lib.hid (HB9.out.trans hb10)
    have HR10 : Hid (Rw 4 emC 40 K w10 A c ws) := Lib.hid (HR9.out.keep (fun g _ hg hb => (hk10 g (.inr hg)).trans hb))
    have HZD : Hid (allE (segsK (zs.map dryK)) = ws.map EnM.e ∧ (allE (segsK (zs.map dryK))).length = L ∧ allR (allE (segsK (zs.map dryK))) ∧ Wl.follow (1 + (m1 : Int)) (allE (segsK (zs.map dryK)))) := Lib.hid ⟨by rw [allE_dry, HZA.out], by rw [allE_dry, HZA.out, List.length_map, ← HL.out], by rw [allE_dry]; exact (chain_follow HZS.out.chain).2, by rw [allE_dry]; exact (chain_follow HZS.out.chain).1⟩
    have hw10 : EnIn w10 A ws := LawAt.enIn ⟨⟨K, HK.out, ha10, HR10.out⟩, HDS.out, HB10.out⟩
    have HW10 := Lib.hid hw10
    obtain ⟨es, hes⟩ : ∃ es, es = allE (segsK (zs.map dryK)) := ⟨_, rfl⟩
    have HE1 := Lib.hid (wEntries_any (es := es) (by rw [hes]; exact ha10) (by rw [hes, HZD.out.2.1]; omega) (by rw [hes]; exact HZD.out.2.2.1))
    have HES := Lib.hid hes
    clear ha10 hc10 hb10 hk10 HB9 HR9 HOP hw10 hes
    go_wp2_with fail
    (with_reducible refine HE1.out.mono ?_); rintro e w11 ⟨A11, c11, xs11, rfl, hr11, he11, hd11, hb11⟩
    have hs11 := Same6_any (c := c11) (d := c) (EnIn.of_rw hr11 hd11) (HW10.out.below hb11)
    have hl11 : xs11.length = es.length := by rw [← he11, List.length_map]
    rw [he11, HES.out, HZD.out.1, eqEs_self, hl11, ← HL.out] at hs11
    have HS11 := Lib.hid hs11
    have HC11 := Lib.hid (HC10.out.below hb11)
    have HW11 := Lib.hid (HW10.out.below hb11)
    have HB11 : Hid (Below w.heap.size w w11) := Lib.hid (HB10.out.trans (hb11.mono HB10.out.size))
    clear hr11 he11 hd11 hb11 hs11 hl11 HE1 HA10 HC10 HB10 HW10
    go_wp2_with fail
    (with_reducible refine HS11.out.mono ?_); rintro e w12 ⟨rfl, m12, hw12⟩
    have hb12 : Below w11.heap.size w11 w12 := by rw [hw12]; exact below_drewN (Below.refl _ _) m12
    have HC12 := Lib.hid (HC11.out.below hb12)
    have HW12 := Lib.hid (HW11.out.below hb12)
    have HB12 : Hid (Below w.heap.size w w12) := Lib.hid (HB11.out.trans (hb12.mono HB11.out.size))
    have HE1 := Lib.hid (wEntries_any (es := es) (by rw [HES.out]; exact HC12.out) (by rw [HES.out, HZD.out.2.1]; omega) (by rw [HES.out]; exact HZD.out.2.2.1))
    clear hw12 hb12 HS11 HC11 HW11 HB11
    go_wp2_with fail
    (with_reducible refine HE1.out.mono ?_); rintro e w13 ⟨A13, c13, xs13, rfl, hr13, he13, hd13, hb13⟩
    have hs13 := Same6_any (c := c13) (d := c) (EnIn.of_rw hr13 hd13) (HW12.out.below hb13)
    have hl13 : xs13.length = es.length := by rw [← he13, List.length_map]
    rw [he13, HES.out, HZD.out.1, eqEs_self, hl13, ← HL.out] at hs13
    have HS13 := Lib.hid hs13
    have HC13 := Lib.hid (HC12.out.below hb13)
    have HB13 : Hid (Below w.heap.size w w13) := Lib.hid (HB12.out.trans (hb13.mono HB12.out.size))
    clear hr13 he13 hd13 hb13 hs13 hl13 HE1 HC12 HW12 HB12
    go_wp2_with fail
    (with_reducible refine HS13.out.mono ?_); rintro e w14 ⟨rfl, m14, hw14⟩
    have hb14 : Below w13.heap.size w13 w14 := by rw [hw14]; exact below_drewN (Below.refl _ _) m14
    have HB14 : Hid (Below w.heap.size w w14) := Lib.hid (HB13.out.trans (hb14.mono HB13.out.size))
    have hfi := wFirst_any (HC13.out.below hb14)
    have hff : firstE (allE (segsK (zs.map dryK))) = 1 + (m1 : Int) := by
     have h1 : 0 < (allE (segsK (zs.map dryK))).length := by rw [HZD.out.2.1]; omega
     rw [firstE_get h1, follow_get HZD.out.2.2.2 0 h1]; omega
    rw [hff] at hfi
    have HFI := Lib.hid hfi
    clear hw14 hb14 hfi hff HS13 HC13 HB13
    go_wp2_with fail
    (with_reducible refine HFI.out.mono ?_); rintro e w15 ⟨rfl, m15, hw15⟩
    have HB15 : Hid (Below w.heap.size w w15) := Lib.hid (by rw [hw15]; exact below_drewN HB14.out m15)
    clear hw15 HFI HB14
    go_wp2_with fail
    go_ret
    exact ⟨rfl, HB15.out⟩
end Go.Proofs.YtifgajinfcihmaaGreatDoor
namespace Go.Proofs.YtifgajinfcihmaaGreatDoor
open Go Go.RowKit Go.Shelf Go.Maps Go.Lib Mem Pk Dsk Wl Go.Proofs.YtifgajinfcihmaaGreatDoor.Nm
theorem EnIn.of_rwD {F F' : Nat → Prop} {w : World} {A : Option Addr} {c : Nat} {xs : List EnM} (h : Rw 4 emC 40 F w A c xs) (hd : ∀ x ∈ xs, EmD F' w x) : EnIn w A xs :=
 ⟨h.len0, fun k hk => by obtain ⟨b, o, h1, -, h2, -, h3⟩ := h.at hk; exact ⟨b, o, h1, h2, h3⟩, fun x hx => by
  obtain ⟨te, h9⟩ := (hd x hx).sl
  exact h9.sl⟩
set_option maxRecDepth 100000 in
set_option maxHeartbeats 8000000 in
theorem walDrops_walk {w : World} (hla : LaidS w) (A0 : Option Addr) (c0 : Nat) (fs : List DatR) (hfs : DatsIn w A0 fs) (y1 : Int) (_ : (Lit.int .i64 y1).wf = true) :
 Calls Tryz.prog 8 #[.slice A0 fs.length c0, .int .i64 y1] w fun e w' => e = .returned (.bool true) ∧ Below w.heap.size w w' := by
 have HLA := Lib.hid (LaidB.of hla)
 have HFS := Lib.hid hfs
 have hln2 : fs.length ≤ 9223372036854775807 := Nat.le_trans hfs.1.1 (by unfold maxLen; decide)
 clear hla hfs
 obtain ⟨m1, hm1, ha1⟩ := and_small y1 63 (by decide)
 have ha1 : bits .and .i64 y1 63 = (m1 : Int) := ha1
 go_enter Tryz.func8, Tryz.ntmps8
 go_wp2_with fail
 (with_reducible refine (L_New w w.heap.size (Nat.le_refl _)).mono ?_); rintro e w1 ⟨p, rfl, hd1, -, hb1⟩
 have HD1 : Hid (D w.heap.size p (diskK []) w1) := Lib.hid hd1
 have HB1 := Lib.hid hb1
 have HAL := Lib.hid (alive6_any (w := w1) (LaidB.of (HLA.out.on hb1).here))
 clear hd1 hb1
 go_wp2_with fail
 (with_reducible refine HAL.out.mono ?_); rintro e w2 ⟨rfl, hb2⟩
 have HD2 := Lib.hid (HD1.out.below hb2)
 have HB2 : Hid (Below w.heap.size w w2) := Lib.hid (HB1.out.trans (hb2.mono HB1.out.size))
 clear hb2 HB1 HD1 HAL
 go_wp2_with fail
 (with_reducible refine (X_wOpen (G := fun _ => False) HD2.out.toW (HLA.out.on HB2.out) xo0).mono ?_); rintro e w3 ⟨wb, rfl, ha3, hb3, -⟩
 obtain ⟨wa, hwa⟩ : ∃ z, z = w3.alloc (.cells #[] 40) := ⟨_, rfl⟩
 have hba : Below w3.heap.size w3 wa := by rw [hwa]; exact (Below.refl _ _).alloc (Nat.le_refl _) _
 have hza : wa.heap.size = w3.heap.size + 1 := by rw [hwa, World.size_alloc]
 have hxa : Blk wa w3.heap.size 40 #[] := by rw [hwa]; exact Blk.new_ w3 _ _
 have hbw : Below w.heap.size w w3 := HB2.out.trans hb3
 have HLW : Hid (LawAt w.heap.size p wb [] (some ⟨w3.heap.size, 0, none⟩) 0 [] w wa) := Lib.hid ⟨⟨fun g => g = w3.heap.size, fun g hg => by subst hg; exact hbw.size, WlE.elder (WlE.weaken (WlE.protect (G2 := fun g => g = w3.heap.size) ha3 hba (fun g hg => by subst hg; omega)) (fun g hg => .inr hg)), ⟨Nat.le_refl _, Nat.zero_le _, .inr ⟨w3.heap.size, 0, #[], rfl, rfl, hxa, by simp, fun j hj => by simp at hj⟩⟩⟩, (fun x hx => by cases hx), hbw.trans (hba.mono hbw.size)⟩
 have HWA := Lib.hid hwa
 clear ha3 hb3 hwa hba hza hxa hbw HD2 HB2
 go_upto_region 8 with fail
 rw [← HWA.out]
 clear HWA
 go_wp2_with fail
 go_loopw [8, 37] (fun ov iv wr => RnRel fs.length w.heap.size p wb 1 w ov iv wr) (fun _ iv _ => fs.length - (RowKit.intOf iv).toNat)
 case atStart => exact ⟨0, [], [], _, _, Nat.zero_le _, rfl, rfl, HLW.out, Lib.hid ⟨RunK.nil _ _, rfl, Nat.le_refl _, Nat.le_refl _, Nat.zero_le _⟩⟩
 case round =>
  obtain ⟨j, xs, ws, A, c, hj, rfl, rfl, hlw, HOK⟩ := hrel
  have HLW := Lib.hid hlw
  have hwl : ws.length ≤ 30 := HOK.out.2.2.2.2
  clear hlw
  by_cases hlt : j < fs.length
  ·have HLT := Lib.hid hlt
   have hj0 : (0 : Int) ≤ (j : Int) := by omega
   have hj1 : (j : Int) < (fs.length : Int) := by omega
   obtain ⟨b, o, rfl, hbb, hc⟩ := HFS.out.1.at hlt
   have hz1 : ∃ z, DatOK w z ∧ w.cell? ⟨b, o + j, none⟩ = some (.slice z.A z.bs.length z.c) := ⟨fs[j], HFS.out.2 _ (List.getElem_mem hlt), by have h9 := hc 0 (by decide); simp only [DatR.cell, Nat.mul_one, Nat.add_zero, List.getElem?_cons_zero] at h9; exact h9⟩
   obtain ⟨z, hok, hcz⟩ := hz1
   have hc0' : wr.cell? ⟨b, o + j, none⟩ = some (.slice z.A z.bs.length z.c) := (HLW.out.bel.cell hbb).trans hcz
   have HZ := Lib.hid hok
   clear hc hcz hok hlt
   by_cases h30 : 30 ≤ j
   ·have t1 : decide ((30 : Int) ≤ (j : Int)) = true := decide_eq_true (by omega)
    have t1' : (30 : Int) ≤ (j : Int) := by omega
    go_wp2_with fail
    go_roundw
    case rel => exact ⟨j + 1, xs, ws, A, c, HLT.out, by go_num, rfl, HLW.out, Lib.hid ⟨HOK.out.1, HOK.out.2.1, HOK.out.2.2.1, Nat.le_succ_of_le HOK.out.2.2.2.1, HOK.out.2.2.2.2⟩⟩
    case measure => simp [RowKit.intOf]; have := HLT.out; omega
   ·have t1 : ¬ (30 : Int) ≤ (j : Int) := by omega
    by_cases h4 : 400 < z.bs.length
    ·have t4 : (400 : Int) < (z.bs.length : Int) := by omega
     go_wp2_with fail
     go_roundw
     case rel => exact ⟨j + 1, xs, ws, A, c, HLT.out, by go_num, rfl, HLW.out, Lib.hid ⟨HOK.out.1, HOK.out.2.1, HOK.out.2.2.1, Nat.le_succ_of_le HOK.out.2.2.2.1, HOK.out.2.2.2.2⟩⟩
     case measure => simp [RowKit.intOf]; have := HLT.out; omega
    ·have t4 : ¬ (400 : Int) < (z.bs.length : Int) := by omega
     obtain ⟨K, hK, hat, hrw⟩ := HLW.out.at_
     obtain ⟨en, hen⟩ : ∃ en : En, en = ⟨(ws.length : Int) + 1, (j : Int), 0, z.bs⟩ := ⟨_, rfl⟩
     obtain ⟨ys, g1, g2, g3, g4⟩ := appendW_ok (t := 0) (i := 1) (es := [en]) HOK.out.1 (fun e he => by
      rw [List.mem_singleton.1 he, hen]
      exact rightE_mk (by omega) (by omega) (by omega) (by omega) (by omega) (by omega) (by omega)) (by
      rw [HOK.out.2.1, List.length_map]
      exact follow_one.2 (by rw [hen]; show (ws.length : Int) + 1 = 1 + _; omega)) (fun e he => by rw [List.mem_singleton.1 he, hen]; show (0 : Int) < (ws.length : Int) + 1; omega) (by have h1 := HOK.out.2.2.1; rw [List.length_singleton]; omega)
     obtain ⟨wx, hwx⟩ : ∃ q, q = wr.alloc (.cells #[.int .i64 ((ws.length : Int) + 1), .int .i64 (j : Int), .int .i64 0, .slice z.A z.bs.length z.c] 40) := ⟨_, rfl⟩
     have hbx : Below wr.heap.size wr wx := by rw [hwx]; exact (Below.refl _ _).alloc (Nat.le_refl _) _
     have hzx : wx.heap.size = wr.heap.size + 1 := by rw [hwx, World.size_alloc]
     have hxx : Blk wx wr.heap.size 40 #[.int .i64 ((ws.length : Int) + 1), .int .i64 (j : Int), .int .i64 0, .slice z.A z.bs.length z.c] := by rw [hwx]; exact Blk.new_ wr _ _
     obtain ⟨wa, hwa⟩ : ∃ q, q = wx.alloc (.cells #[.int .i64 ((ws.length : Int) + 1), .int .i64 (j : Int), .int .i64 0, .slice z.A z.bs.length z.c] 40) := ⟨_, rfl⟩
     have hba1 : Below wx.heap.size wx wa := by rw [hwa]; exact (Below.refl _ _).alloc (Nat.le_refl _) _
     have hza : wa.heap.size = wr.heap.size + 2 := by rw [hwa, World.size_alloc, hzx]
     have hxa : Blk wa (wr.heap.size + 1) 40 #[.int .i64 ((ws.length : Int) + 1), .int .i64 (j : Int), .int .i64 0, .slice z.A z.bs.length z.c] := by
      rw [hwa]; have h9 := Blk.new_ wx 40 #[.int .i64 ((ws.length : Int) + 1), .int .i64 (j : Int), .int .i64 0, .slice z.A z.bs.length z.c]; rw [hzx] at h9; exact h9
     have hba : Below wr.heap.size wr wa := hbx.trans (hba1.mono hbx.size)
     have hxa0 : Blk wa wr.heap.size 40 #[.int .i64 ((ws.length : Int) + 1), .int .i64 (j : Int), .int .i64 0, .slice z.A z.bs.length z.c] := hxx.below hba1 hxx.lt
     have hbw : Below w.heap.size w wa := HLW.out.bel.trans (hba.mono hat.le)
     have HAP := Lib.hid (X_wAppend1 (F := fun g => g < w.heap.size) (w0 := wr) (w := wa) (e := en) (A := z.A) (c := z.c) (ki := 0) hat hba (HLA.out.on hbw) (Nat.le_succ _) (by rw [hen]; exact hxa) (by rw [hen]; exact SlB.ex_under HZ.out.sl hbw) (fun q hq => .inl (.inl hq)) (by rw [hen]; exact ⟨HZ.out.len, HZ.out.cap⟩) (RunK.bounds HOK.out) (chain_follow HOK.out.1.chain).2 g1 rfl)
     have HWX := Lib.hid hwx
     have HWA := Lib.hid hwa
     have HBW := Lib.hid hbw
     have HK := Lib.hid hK
     have HRW : Hid (Rw 4 emC 40 K wa A c ws) := Lib.hid (hrw.below hba)
     have HX0 := Lib.hid hxa0
     have HSZ := Lib.hid hza
     have HG : Hid (RnOK 1 (j + 1) ys (ws ++ [⟨en, z.A, z.c⟩])) := Lib.hid ⟨g2, by rw [g3, HOK.out.2.1, List.map_append]; rfl, by have h1 := HOK.out.2.2.1; rw [List.length_append]; simp at g4 ⊢; omega, by have h1 := HOK.out.2.2.2.1; rw [List.length_append]; simp; omega, by have h1 := HOK.out.2.2.2.1; rw [List.length_append]; simp; omega⟩
     have HEN := Lib.hid hen
     have HLE : Hid (w.heap.size ≤ wr.heap.size) := Lib.hid hat.le
     clear hwx hbx hzx hxx hwa hba1 hza hxa hba hxa0 hbw hrw hat hK g1 g2 g3 g4 hen h30 h4
     go_upto_region 13 with fail
     rw [← HWX.out]
     clear HWX
     change Hid (Calls _ _ #[.pointer (some ⟨wb, 0, none⟩), .slice (some ⟨wr.heap.size + 1, 0, none⟩) 1 1] _ _) at HAP
     have q0 : wx.heap.size = wr.heap.size + 1 := by have h1 := HSZ.out; have h2 := congrArg (fun q : World => q.heap.size) HWA.out; simp only [World.size_alloc] at h2; omega
     have HQ0 := Lib.hid q0
     have hx1 : Blk wx wr.heap.size 40 #[.int .i64 ((ws.length : Int) + 1), .int .i64 (j : Int), .int .i64 0, .slice z.A z.bs.length z.c] := by
      have h9 := HX0.out
      unfold Mem.Blk at h9 ⊢
      rw [HWA.out] at h9
      have h8 := ((Below.refl wx.heap.size wx).alloc (Nat.le_refl _) (.cells #[.int .i64 ((ws.length : Int) + 1), .int .i64 (j : Int), .int .i64 0, .slice z.A z.bs.length z.c] 40)).block wr.heap.size (by omega)
      rw [← h8]; exact h9
     have x0 := hx1.cell 0
     have x1 := hx1.cell 1
     have x2 := hx1.cell 2
     have x3 := hx1.cell 3
     clear hx1 q0
     go_wp2_with fail
     rw [← HWA.out]
     rw [← HQ0.out] at HAP
     (with_reducible refine HAP.out.mono ?_); rintro e w5 ⟨rfl, ha5, hb5, hk5⟩
     have HX5 : Hid (Blk w5 wr.heap.size 40 #[.int .i64 ((ws.length : Int) + 1), .int .i64 (j : Int), .int .i64 0, .slice z.A z.bs.length z.c]) := Lib.hid ((hk5 _ (.inr ⟨Nat.le_refl _, by have := HSZ.out; omega⟩)).trans HX0.out)
     have HA5 := Lib.hid ha5
     have HB5 : Hid (Below w.heap.size w w5) := Lib.hid (HBW.out.trans hb5)
     have HR5 : Hid (Rw 4 emC 40 K w5 A c ws) := Lib.hid (HRW.out.keep (fun g cur hg hb => (hk5 g (.inl (.inr hg))).trans hb))
     have y0 := HX5.out.cell 0
     have y1' := HX5.out.cell 1
     have y2' := HX5.out.cell 2
     have y3 := HX5.out.cell 3
     clear ha5 hb5 hk5 x0 x1 x2 x3 HAP HWA HRW HX0
     go_wp2_with (at_builtin; refine wpList_appendR1 (f := emC) rfl (.tmp 60) (.tmp 62) 37 rfl entT emC_len ⟨en, z.A, z.c⟩ (emC_one _) (by rw [HEN.out]; rfl) rfl HR5.out rfl rfl (by unfold maxLen; omega) (by omega) ?_; intro A12 c12 w12 hr12 hf12; have HR12 := Lib.hid hr12; have HF12 := Lib.hid hf12; clear hr12 hf12)
     go_roundw
     case rel =>
      have hfr : Frm (fun g => g < w.heap.size ∨ K g) w5 w12 := HF12.out.mono (fun g _ hg => .inr hg.1)
      have hlw := WlE.law HA5.out hfr
      refine ⟨j + 1, ys, ws ++ [⟨en, z.A, z.c⟩], A12, c12, HLT.out, by go_num, by rw [List.length_append]; rfl, ⟨⟨fun g => K g ∨ (w5.heap.size ≤ g ∧ g < w12.heap.size), fun g hg => ?_, WlE.weaken hlw (fun g hg => ?_), HR12.out.mono (fun g hl hg => ?_)⟩, fun x hx => ?_, HB5.out.trans (HF12.out.to_below (fun g _ h1 h2 => by have := HK.out g h2.1; omega) HB5.out.size)⟩, HG⟩
      ·rcases hg with hg | hg
       ·exact HK.out g hg
       ·have := HB5.out.size; omega
      ·rcases hg with hg | hg | hg
       ·exact .inl (.inl hg)
       ·exact .inl (.inr hg)
       ·exact .inr hg
      ·rcases hg with hg | hg
       ·exact .inl hg.1
       ·exact .inr ⟨Nat.le_of_lt hg, hl⟩
      ·rcases List.mem_append.1 hx with hx | hx
       ·exact HLW.out.ds x hx
       ·rw [List.mem_singleton.1 hx]
        exact ⟨by show ∃ te, SlB fB te _ w z.A en.ds; rw [HEN.out]; exact HZ.out.sl, by show en.ds.length ≤ z.c; rw [HEN.out]; exact HZ.out.len, HZ.out.cap⟩
     case measure => simp [RowKit.intOf]; have := HLT.out; omega
  ·have hj1 : ¬ (j : Int) < (fs.length : Int) := by omega
   clear hlt
   obtain ⟨K, hK, hat, hrw⟩ := HLW.out.at_
   have HK := Lib.hid hK
   have HA := Lib.hid hat
   have HR := Lib.hid hrw
   have HB : Hid (Below w.heap.size w wr) := Lib.hid HLW.out.bel
   have HDS : Hid (∀ x ∈ ws, EmD (fun g => g < w.heap.size) w x) := Lib.hid HLW.out.ds
   have hclen : ws.length ≤ c := hrw.1
   obtain ⟨L, hL⟩ : ∃ L, L = ws.length := ⟨_, rfl⟩
   rw [← hL] at hwl hclen ⊢
   have HL := Lib.hid hL
   have HRK : Hid (RunK 0 1 xs ∧ allE (segsK xs) = ws.map EnM.e ∧ (allE (segsK xs)).length = L ∧ xs.length ≤ 30) := Lib.hid ⟨HOK.out.1, HOK.out.2.1, by rw [HOK.out.2.1, List.length_map, hL], by have h1 := HOK.out.2.2.1; have h2 := HOK.out.2.2.2.2; omega⟩
   clear hK hat hrw hL HLW HOK
   obtain ⟨pre, ys, u1, u2, u3, u4, u5⟩ := dropW_ok (t := 0) (c := (m1 : Int)) (xs.map dryK) (HRK.out.1.dry 0)
   have hall : allE (segsK pre) ++ allE (segsK ys) = ws.map EnM.e := by
    have h9 := allE_dry xs
    rw [u1, segsK_append] at h9
    rw [← HRK.out.2.1, ← h9]; unfold allE; rw [List.flatMap_append]
   have hfo : Wl.follow 1 (allE (segsK pre) ++ allE (segsK ys)) := by rw [hall, ← HRK.out.2.1]; exact (chain_follow HRK.out.1.chain).1
   obtain ⟨gn, hgn⟩ : ∃ z, z = (allE (segsK pre)).length := ⟨_, rfl⟩
   obtain ⟨ln, hln⟩ : ∃ z, z = (allE (segsK ys)).length := ⟨_, rfl⟩
   have hsum : gn + ln = L := by
    have h9 := congrArg List.length hall
    rw [List.length_append, List.length_map, ← HL.out] at h9; omega
   have hgm : gn ≤ m1 := by
    rcases Nat.eq_zero_or_pos gn with h0 | h0
    ·omega
    ·have h9 := u4 _ (List.getElem_mem (show gn - 1 < (allE (segsK pre)).length by omega))
     have h8 := follow_get (follow_append.1 hfo).1 (gn - 1) (by omega)
     omega
   have hlast : (m1 : Int) < (L : Int) ∨ ln = 0 := by
    rcases Nat.lt_or_ge m1 L with h0 | h0
    ·left; omega
    ·right
     cases ys with
     | nil => rw [hln]; rfl
     | cons y r =>
       exfalso
       have h9 := u5 y r rfl
       obtain ⟨q1, q2, q3, q4, q5⟩ := u3.chain
       rw [last_follow q3 q2, ← hgn] at h9
       have h8 : y.s.es.length ≤ ln := by rw [hln]; show _ ≤ (allE (y.s :: segsK r)).length; rw [allE_cons, List.length_append]; omega
       omega
   have hwd : (allE (segsK ys)) = (ws.drop gn).map EnM.e := by rw [List.map_drop, ← hall, hgn, List.drop_left]
   have hra : allR (allE (segsK ys)) := (chain_follow u3.chain).2
   have HSY := Lib.hid (X_wSync HA.out (syncW_ok HRK.out.1) (ki := 0) rfl)
   have HNE : Hid (∀ s ∈ segsK (xs.map dryK), s.es ≠ []) := Lib.hid (fun s hs => (chain_ix (HRK.out.1.dry 0).chain s hs).2.2.2.2)
   have HDW := Lib.hid u2
   have HYS := Lib.hid u3
   have HWD := Lib.hid hwd
   have HRA := Lib.hid hra
   have HLN := Lib.hid hln
   have hwg : IntKind.i64.wrap ((L : Int) - (ln : Int)) = (gn : Int) := by rw [IntKind.wrap_i64]; omega
   have hgl : ¬ ((m1 : Int) < (gn : Int)) := by omega
   have HSUM := Lib.hid hsum
   have hcS : ∀ V, (Instr.slice 37 (.slice A L c) (some (.int .i64 (gn : Int))) none none).run Tryz.prog V = .ok (.slice (partK A c gn 4) (L - gn) (c - gn)) V := fun V =>
    cutRK (P := Tryz.prog) (k := 4) Tryz.underlying37 (by intro w; kernel_rfl) A L c gn (by omega) V
   have hgL : (gn : Int) ≤ (L : Int) := by omega
   have HLAST := Lib.hid hlast
   clear u1 u2 u3 u4 u5 hall hfo hgn hln hsum hgm hlast hwd hra
   go_wp2_with fail
   (with_reducible refine HSY.out.mono ?_); rintro e w6 ⟨rfl, ha6, hb6, hk6⟩
   have HB6 : Hid (Below w.heap.size w w6) := Lib.hid (HB.out.trans hb6)
   have HR6 : Hid (Rw 4 emC 40 K w6 A c ws) := Lib.hid (HR.out.keep (fun g _ hg hb => (hk6 g (.inr hg)).trans hb))
   have HDR := Lib.hid (X_wDrop ha6 HNE.out (m1 : Int) HDW.out (ki := 0) rfl)
   clear ha6 hb6 hk6 HA HB HR HSY
   go_wp2_with fail
   (with_reducible refine HDR.out.mono ?_); rintro e w7 ⟨rfl, ha7, hb7, hk7⟩
   have HA7 := Lib.hid ha7
   have HB7 : Hid (Below w.heap.size w w7) := Lib.hid (HB6.out.trans hb7)
   have HR7 : Hid (Rw 4 emC 40 K w7 A c ws) := Lib.hid (HR6.out.keep (fun g _ hg hb => (hk7 g (.inr hg)).trans hb))
   obtain ⟨es, hes⟩ : ∃ es, es = allE (segsK ys) := ⟨_, rfl⟩
   have HES := Lib.hid hes
   have hel : es.length = ln := by rw [hes, HLN.out]
   have HEL := Lib.hid hel
   have HE1 := Lib.hid (wEntries_any (es := es) (by rw [hes]; exact ha7) (by rw [hel]; have := HSUM.out; omega) (by rw [hes]; exact HRA.out))
   clear ha7 hb7 hk7 HB6 HR6 HDR hes hel
   go_wp2_with fail
   (with_reducible refine HE1.out.mono ?_); rintro e w8 ⟨A8, c8, xs8, rfl, hr8, he8, hd8, hb8⟩
   rw [HEL.out]
   have hl8 : xs8.length = ln := by rw [← HEL.out, ← he8, List.length_map]
   have HA8 := Lib.hid (WlE.protect (G2 := fun q => w7.heap.size ≤ q ∧ q < w8.heap.size) HA7.out hb8 (fun _ hq => hq))
   have HB8 : Hid (Below w.heap.size w w8) := Lib.hid (HB7.out.trans (hb8.mono HB7.out.size))
   have hr8c : Rw 4 emC 40 K w8 A c ws := HR7.out.below hb8
   have hw8 : EnIn w8 (partK A c gn 4) (ws.drop gn) := EnIn.of_rwD (hr8c.cut gn (by rw [← HL.out]; have := HSUM.out; omega)) (F' := fun g => g < w.heap.size) (fun x hx => by
    have h9 := HDS.out x (List.mem_of_mem_drop hx)
    exact ⟨SlB.ex_under h9.sl HB8.out, h9.len, h9.cap⟩)
   have hi8 : EnIn w8 A8 xs8 := EnIn.of_rw hr8 hd8
   have hs8 := Same6_any (c := c8) (d := c - gn) hi8 hw8
   rw [he8, HES.out, HWD.out, eqEs_self, hl8, List.length_drop, ← HL.out] at hs8
   have HS8 := Lib.hid hs8
   have HR8 : Hid (Rw 4 emC 40 (fun q => w7.heap.size ≤ q ∧ q < w8.heap.size) w8 A8 c8 xs8) := Lib.hid (hr8.mono (fun g hl hg => ⟨hg, hl⟩))
   have HD8 : Hid (∀ x ∈ xs8, EmOK (fun q => w7.heap.size ≤ q ∧ q < w8.heap.size) w8 x) := Lib.hid (fun x hx => (hd8 x hx).mono (fun g hl hg => ⟨hg, hl⟩))
   have HE8 := Lib.hid he8
   have HL8 := Lib.hid hl8
   clear hr8 he8 hd8 hb8 hl8 hr8c hw8 hi8 hs8 HE1 HA7 HB7 HR7
   go_wp2_with fail
   (with_reducible refine HS8.out.mono ?_); rintro e w9 ⟨rfl, m9, hw9⟩
   have hb9 : Below w8.heap.size w8 w9 := by rw [hw9]; exact below_drewN (Below.refl _ _) m9
   have ha9 := HA8.out.below hb9
   have HB9 : Hid (Below w.heap.size w w9) := Lib.hid (HB8.out.trans (hb9.mono HB8.out.size))
   have HR9 : Hid (Rw 4 emC 40 (fun q => w7.heap.size ≤ q ∧ q < w8.heap.size) w9 A8 c8 xs8) := Lib.hid (HR8.out.below hb9)
   have HD9 : Hid (∀ x ∈ xs8, EmOK (fun q => w7.heap.size ≤ q ∧ q < w8.heap.size) w9 x) := Lib.hid (fun x hx => (HD8.out x hx).below hb9)
   have HOP := Lib.hid (X_wOpen2 ha9 (HLA.out.on HB9.out) (openW_ok HYS.out))
   clear hw9 hb9 ha9 HS8 HA8 HB8 HR8 HD8
   go_wp2_with fail
   (with_reducible refine HOP.out.mono ?_); rintro e w10 ⟨wb2, rfl, -, hc10, hb10, hk10⟩
   have HB10 : Hid (Below w.heap.size w w10) := Lib.hid (HB9.out.trans hb10)
   have HI10 : Hid (EnIn w10 A8 xs8) := Lib.hid (EnIn.of_rw (HR9.out.keep (fun g _ hg hb => (hk10 g (.inr hg)).trans hb)) (F' := fun q => w7.heap.size ≤ q ∧ q < w8.heap.size) (fun x hx => ⟨(HD9.out x hx).sl.kept hk10 (fun g hg => .inr hg), (HD9.out x hx).len, (HD9.out x hx).cap⟩))
   have HE2 := Lib.hid (wEntries_any (es := es) (by have h9 := hc10; unfold WlAt at h9; rw [allE_dry, ← HES.out] at h9; exact h9) (by rw [HEL.out]; have := HSUM.out; omega) (by rw [HES.out]; exact HRA.out))
   clear hc10 hb10 hk10 HB9 HR9 HD9 HOP
   go_wp2_with fail
   (with_reducible refine HE2.out.mono ?_); rintro e w11 ⟨A11, c11, xs11, rfl, hr11, he11, hd11, hb11⟩
   have hs11 := Same6_any (c := c11) (d := c8) (EnIn.of_rw hr11 hd11) (HI10.out.below hb11)
   have hl11 : xs11.length = es.length := by rw [← he11, List.length_map]
   rw [he11, HE8.out, eqEs_self, hl11, HL8.out] at hs11
   have HS11 := Lib.hid hs11
   have HB11 : Hid (Below w.heap.size w w11) := Lib.hid (HB10.out.trans (hb11.mono HB10.out.size))
   clear hr11 he11 hd11 hb11 hs11 hl11 HE2 HB10 HI10
   go_wp2_with fail
   (with_reducible refine HS11.out.mono ?_); rintro e w12 ⟨rfl, m12, hw12⟩
   have HB12 : Hid (Below w.heap.size w w12) := Lib.hid (by rw [hw12]; exact below_drewN HB11.out m12)
   clear hw12 HS11 HB11
   rcases Nat.lt_or_ge m1 L with h0 | h0
   ·have t9 : (m1 : Int) < (L : Int) := by omega
    go_wp2_with fail
    go_ret
    exact ⟨rfl, HB12.out⟩
   ·have t9 : ¬ (m1 : Int) < (L : Int) := by omega
    obtain rfl : ln = 0 := by rcases HLAST.out with h9 | h9 <;> omega
    go_wp2_with fail
    go_ret
    exact ⟨rfl, HB12.out⟩
end Go.Proofs.YtifgajinfcihmaaGreatDoor
