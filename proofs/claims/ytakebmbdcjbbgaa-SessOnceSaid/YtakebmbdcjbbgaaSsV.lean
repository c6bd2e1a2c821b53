/- Layer 13: SessOnce: the walk. -/
import Derived.Test.YtakebmbdcjbbgaaSsA
import Derived.Test.YtakebmbdcjbbgaaSsE
import Derived.Test.YtakebmbdcjbbgaaSsO
namespace Go.Proofs.Ytakebmbdcjbbgaa
open Go Go.RowKit Go.Maps Go.Lib Mem Ss

/-- what stays below B and besides -/
theorem SlC.frm {α : Type} {k : Nat} {f : α → List Value} {w w' : World} {A : Option Addr} {xs : List α} {F : Nat → Prop} (h : SlC k f w A xs) (hf : Frm F w w') (hn : ∀ g, g < w.heap.size → ¬ F g) : SlC k f w' A xs :=
  h.keep hf.size fun b o hb => by unfold World.cell?; rw [hf.block b hb (hn b hb)]
theorem OpsIn.keep {w w' : World} {A : Option Addr} {c : Nat} {xs : List OpS} (h : OpsIn w A c xs) (hs : SlC 4 opN w' A xs) : OpsIn w' A c xs := { h with sl := hs }
def Lw (b : Nat) (g : Nat) : Prop := g < b
def OnceRel (f : OpS) (n b p : Nat) (w1 : World) (gv iv : Value) (W : World) : Prop :=
  ∃ (k : Nat) (g : Bool) (t : Tb), k ≤ n ∧ iv = .int .i64 k ∧ gv = .bool g ∧ Once f.id f.seq f.code f.num g t ∧ TX (Lw b) W p t ∧ Below b w1 W
set_option maxRecDepth 100000 in
set_option maxHeartbeats 4000000 in
theorem sessOnce_walk (A : Option Addr) (c : Nat) (ops : List OpS) {w : World} (hops : OpsIn w A c ops) (f : OpS) (hf : OpOk f) :
    Calls Try.prog 3 #[.slice A ops.length c, .agg (opN f).toArray] w fun e w' => e = .returned (.bool true) ∧ Below w.heap.size w w' := by
  have hlen : ops.length ≤ 9223372036854775807 := hops.sl.1
  obtain ⟨fid, fseq, fc, fn⟩ := f
  have hid := hf.id
  have HOPS := Lib.hid hops; clear hops
  unfold opN
  clear hf
  go_enter Try.func3, Try.ntmps3
  go_upto_region 1 with fail
  obtain ⟨w1, hw1⟩ : ∃ z, z = w.alloc (.cells #[.int .i64 fid, .int .i64 fseq, .int .i64 fc, .int .i64 fn] 27) := ⟨_, rfl⟩
  rw [← hw1]
  have HB1 : Hid (Below w.heap.size w w1) := Lib.hid (by rw [hw1]; exact (Below.refl _ _).alloc (Nat.le_refl _) _)
  have HX1 : Hid (Blk w1 w.heap.size 27 #[.int .i64 fid, .int .i64 fseq, .int .i64 fc, .int .i64 fn]) := Lib.hid (by rw [hw1]; exact Blk.new_ w _ _)
  have HS1 : Hid (w.heap.size < w1.heap.size) := Lib.hid (by rw [hw1, World.size_alloc]; omega)
  clear hw1
  go_wp2_with fail
  (with_reducible refine (X_New _).mono ?_); rintro e w2 ⟨p, rfl, h2, hb2⟩
  have H2 : Hid (TX (Lw w1.heap.size) w2 p []) := Lib.hid h2
  have HB2 := Lib.hid hb2
  clear h2 hb2
  go_wp2_with fail
  (with_reducible refine (alive_any _).mono ?_); rintro e w3 ⟨rfl, hb3⟩
  have H3 := Lib.hid (H2.out.below hb3)
  have HB3 : Hid (Below w1.heap.size w1 w3) := Lib.hid (HB2.out.trans (hb3.mono HB2.out.size))
  have HX3 := Lib.hid (HX1.out.below HB3.out HS1.out)
  clear hb3 HB2 H2
  have c0 : w3.cell? ⟨w.heap.size, 0, none⟩ = some (.int .i64 fid) := HX3.out.cell 0
  have c1 : w3.cell? ⟨w.heap.size, 1, none⟩ = some (.int .i64 fseq) := HX3.out.cell 1
  have c2 : w3.cell? ⟨w.heap.size, 2, none⟩ = some (.int .i64 fc) := HX3.out.cell 2
  have c3 : w3.cell? ⟨w.heap.size, 3, none⟩ = some (.int .i64 fn) := HX3.out.cell 3
  have HPT := Lib.hid (X_Put H3.out fid fseq fc fn hid)
  obtain ⟨r, hr⟩ : ∃ z, z = putT [] fid fseq fc fn := ⟨_, rfl⟩
  rw [← hr] at HPT
  have HR := Lib.hid hr; clear hr
  obtain ⟨r1, r2⟩ := r
  by_cases h0 : r2 = 0
  · subst h0
    go_wp2_with fail
    (with_reducible refine HPT.out.mono ?_); rintro e w4 ⟨rfl, h4, hf4⟩
    have HON : Hid (Once fid fseq fc fn false r1) := Lib.hid (by
      have := Once.first (id := fid) (seq := fseq) (c := fc) (n := fn) (by rw [← HR.out])
      rw [← HR.out] at this; exact this)
    have H4 : Hid (TX (Lw w1.heap.size) w4 p r1) := Lib.hid h4
    have HB4 : Hid (Below w1.heap.size w1 w4) := Lib.hid (HB3.out.trans (hf4.to_below (fun k _ h1 h => h h1) HB3.out.size))
    clear h4 hf4 c0 c1 c2 c3 HPT HX3 H3 HB3 HR
    go_wp2_with fail
    go_loopw [6, 33] (fun gv iv wr => OnceRel ⟨fid, fseq, fc, fn⟩ ops.length w1.heap.size p w1 gv iv wr) (fun _ iv _ => ops.length - (RowKit.intOf iv).toNat)
    case atStart => exact ⟨0, false, r1, Nat.zero_le _, rfl, rfl, HON.out, H4.out, HB4.out⟩
    case round =>
      obtain ⟨k, g, t, hk, rfl, rfl, hon, htx, hbw⟩ := hrel
      have HT := Lib.hid htx; clear htx
      have HB := Lib.hid hbw; clear hbw
      have HO := Lib.hid hon; clear hon
      obtain ⟨wo, rfl⟩ : ∃ wo, wo = wr := ⟨_, rfl⟩
      have HX := Lib.hid (HX1.out.below HB.out HS1.out)
      by_cases hlt : k < ops.length
      · have hsl := (HOPS.out.sl.below HB1.out).below HB.out
        obtain ⟨b, o, rfl, hb, hc⟩ := hsl.at hlt
        have hok := HOPS.out.ok _ (List.getElem_mem hlt)
        obtain ⟨x, hx⟩ : ∃ z, z = ops[k] := ⟨_, rfl⟩
        rw [← hx] at hc hok
        obtain ⟨xid, xseq, xc, xn⟩ := x
        have xwf : (Lit.int .i64 xid).wf = true := hok.id
        have e0 : wo.cell? ⟨b, o + k * 4, none⟩ = some (.int .i64 xid) := hc 0 (by decide)
        have e1 : wo.cell? ⟨b, o + k * 4 + 1, none⟩ = some (.int .i64 xseq) := hc 1 (by decide)
        have e2 : wo.cell? ⟨b, o + k * 4 + 2, none⟩ = some (.int .i64 xc) := hc 2 (by decide)
        have e3 : wo.cell? ⟨b, o + k * 4 + 3, none⟩ = some (.int .i64 xn) := hc 3 (by decide)
        have hk0 : (0 : Int) ≤ (k : Int) := by omega
        have hk1 : (k : Int) < (ops.length : Int) := by omega
        have HLT := Lib.hid hlt
        clear hc hx hok hsl hb
        go_upto_region 10 with fail
        obtain ⟨wa, hwa⟩ : ∃ z, z = wo.alloc (.cells #[.int .i64 xid, .int .i64 xseq, .int .i64 xc, .int .i64 xn] 27) := ⟨_, rfl⟩
        rw [← hwa]
        have HTa : Hid (TX (fun g => Lw w1.heap.size g ∨ g = wo.heap.size) wa p t) := Lib.hid (by rw [hwa]; exact HT.out.more _)
        have HBa : Hid (Below w1.heap.size w1 wa) := Lib.hid (by rw [hwa]; exact HB.out.alloc HB.out.size _)
        have HYa : Hid (Blk wa wo.heap.size 27 #[.int .i64 xid, .int .i64 xseq, .int .i64 xc, .int .i64 xn]) := Lib.hid (by rw [hwa]; exact Blk.new_ wo _ _)
        have HZa : Hid (wo.heap.size < wa.heap.size) := Lib.hid (by rw [hwa, World.size_alloc]; omega)
        clear hwa e0 e1 e2 e3 hk0 hk1
        obtain ⟨g1, hon1, hgg⟩ := HO.out.put xid xseq xc xn
        have HP1 := Lib.hid (X_Put HTa.out xid xseq xc xn xwf)
        obtain ⟨t1, ht1⟩ : ∃ z, z = (putT t xid xseq xc xn).1 := ⟨_, rfl⟩
        obtain ⟨k1, hk1⟩ : ∃ z, z = (putT t xid xseq xc xn).2 := ⟨_, rfl⟩
        unfold XPut at HP1
        rw [← ht1] at hon1 HP1
        rw [← hk1] at HP1
        have HO1 := Lib.hid hon1
        have HGG := Lib.hid hgg
        clear ht1 hk1 hon1 hgg
        have y0 : wa.cell? ⟨wo.heap.size, 0, none⟩ = some (.int .i64 xid) := HYa.out.cell 0
        have y1 : wa.cell? ⟨wo.heap.size, 1, none⟩ = some (.int .i64 xseq) := HYa.out.cell 1
        have y2 : wa.cell? ⟨wo.heap.size, 2, none⟩ = some (.int .i64 xc) := HYa.out.cell 2
        have y3 : wa.cell? ⟨wo.heap.size, 3, none⟩ = some (.int .i64 xn) := HYa.out.cell 3
        go_wp2_with fail
        (with_reducible refine HP1.out.mono ?_); rintro e wb ⟨rfl, htb, hfb⟩
        have HTb := Lib.hid htb
        have HBb : Hid (Below w1.heap.size w1 wb) := Lib.hid (HBa.out.trans (hfb.to_below (fun k _ h1 h => h (.inl h1)) HBa.out.size))
        have HYb := Lib.hid (HYa.out.frm hfb (fun h => h (.inr rfl)))
        have HXb := Lib.hid (HX1.out.below HBb.out HS1.out)
        have HZb : Hid (wo.heap.size < wb.heap.size) := Lib.hid (Nat.lt_of_lt_of_le HZa.out hfb.size)
        clear htb hfb y0 y1 y2 y3 HTa HBa HYa HP1 HZa
        obtain ⟨l1, l2, hsn⟩ := HO1.out.look
        have HSN := Lib.hid hsn; clear hsn
        have x0 : wb.cell? ⟨w.heap.size, 0, none⟩ = some (.int .i64 fid) := HXb.out.cell 0
        have x1 : wb.cell? ⟨w.heap.size, 1, none⟩ = some (.int .i64 fseq) := HXb.out.cell 1
        cases g1 with
        | true =>
          simp only [if_true] at l1 l2
          have HLK := Lib.hid (X_Look HTb.out fid fseq hid ⟨l1, l2⟩)
          clear l1 l2
          go_wp2_with fail
          (with_reducible refine HLK.out.mono ?_); rintro e wc ⟨rfl, hbc⟩
          have HTc := Lib.hid ((HTb.out.below hbc).more (.cells #[.int .i64 0, .int .i64 0] 25))
          have HBc : Hid (Below w1.heap.size w1 (wc.alloc (.cells #[.int .i64 0, .int .i64 0] 25))) := Lib.hid ((HBb.out.trans (hbc.mono HBb.out.size)).alloc (by have := HBb.out.size; have := hbc.size; omega) _)
          have HYc := Lib.hid ((HYb.out.below hbc HYb.out.lt).alloc (.cells #[.int .i64 0, .int .i64 0] 25))
          have HVc := Lib.hid (Blk.new_ wc 25 #[.int .i64 0, .int .i64 0])
          have HZc : Hid (wo.heap.size < wc.heap.size) := Lib.hid (Nat.lt_of_lt_of_le HZb.out hbc.size)
          clear hbc x0 x1 HXb HYb HBb HTb HLK HZb
          go_upto_region 12 with fail
          obtain ⟨wd, hwd⟩ : ∃ z, z = wc.alloc (.cells #[.int .i64 0, .int .i64 0] 25) := ⟨_, rfl⟩
          rw [← hwd] at HTc HBc HYc HVc ⊢
          clear hwd
          have HXd := Lib.hid (HX1.out.below HBc.out HS1.out)
          have x0 : wd.cell? ⟨w.heap.size, 0, none⟩ = some (.int .i64 fid) := HXd.out.cell 0
          have x1 : wd.cell? ⟨w.heap.size, 1, none⟩ = some (.int .i64 fseq) := HXd.out.cell 1
          have y2 : wd.cell? ⟨wo.heap.size, 2, none⟩ = some (.int .i64 xc) := HYc.out.cell 2
          have y3 : wd.cell? ⟨wo.heap.size, 3, none⟩ = some (.int .i64 xn) := HYc.out.cell 3
          have hag := HO1.out.again xc xn
          have HP2 := Lib.hid (X_Put HTc.out fid fseq xc xn hid)
          unfold XPut at HP2
          rw [hag.1] at HP2
          obtain ⟨k2, hk2⟩ : ∃ z, z = (putT t1 fid fseq xc xn).2 := ⟨_, rfl⟩
          rw [← hk2] at HP2 hag
          have q1 : (k2 == 0) = false := by rw [beq_eq_false_iff_ne]; exact hag.2
          clear hag hk2
          go_wp2_with fail
          (with_reducible refine HP2.out.mono ?_); rintro e we ⟨rfl, hte, hfe⟩
          have HTe := Lib.hid (hte.less (H := Lw w1.heap.size) (fun g h => .inl (.inl h)))
          have HBe : Hid (Below w1.heap.size w1 we) := Lib.hid (HBc.out.trans (hfe.to_below (fun k _ h1 h => h (.inl (.inl h1))) HBc.out.size))
          have HVe := Lib.hid (HVc.out.frm hfe (fun h => h (.inr rfl)))
          have HXe := Lib.hid (HX1.out.below HBe.out HS1.out)
          clear hte hfe x0 x1 y2 y3 HTc HBc HYc HVc HXd HP2
          have x0 : we.cell? ⟨w.heap.size, 0, none⟩ = some (.int .i64 fid) := HXe.out.cell 0
          have x1 : we.cell? ⟨w.heap.size, 1, none⟩ = some (.int .i64 fseq) := HXe.out.cell 1
          have x2 : we.cell? ⟨w.heap.size, 2, none⟩ = some (.int .i64 fc) := HXe.out.cell 2
          have x3 : we.cell? ⟨w.heap.size, 3, none⟩ = some (.int .i64 fn) := HXe.out.cell 3
          have v0 : we.cell? ⟨wc.heap.size, 0, none⟩ = some (.int .i64 0) := HVe.out.cell 0
          have v1 : we.cell? ⟨wc.heap.size, 1, none⟩ = some (.int .i64 0) := HVe.out.cell 1
          go_upto_region 18 with fail
          obtain ⟨s, hs1, hs2, hs3⟩ := HSN.out
          have hos := HO1.out.ok.each s (findS_some hs1).1
          have HHI := Lib.hid fun nq => Highest_any (w := we.drewN nq) (HTe.out.below (below_drewN (Below.refl _ _) nq)).tab fid hid
          unfold HiP at HHI
          rw [hs2] at HHI
          obtain ⟨h8, hh8⟩ : ∃ z, z = s.high - 8 := ⟨_, rfl⟩
          have e8 : IntKind.i64.wrap (s.high - 8) = h8 := by have := hos.low; have := hos.top; rw [IntKind.wrap_i64]; omega
          rw [← hh8] at hs3
          have d8 : decide (fseq ≤ h8) = true := hs3.symm
          clear hs3 hs2 hs1 hh8 hos
          go_quiet ((go_at_call 14; exact quiet_mine (HHI.out _)))
          go_wp2_with fail
          go_roundw
          case rel => exact ⟨k + 1, true, t1, by have := HLT.out; omega, by go_num, rfl, HO1.out, HTe.out.below (below_drewN (Below.refl _ _) _), below_drewN HBe.out _⟩
          case measure => simp [RowKit.intOf]; have := HLT.out; omega
        | false =>
          have hg0 : g = false := by cases g with | false => rfl | true => exact absurd (HGG.out rfl) (by decide)
          subst hg0
          simp only [Bool.false_eq_true, if_false] at l1 l2
          have HLK := Lib.hid (X_Look HTb.out fid fseq hid ⟨l1, l2⟩)
          clear l1 l2
          go_wp2_with fail
          (with_reducible refine HLK.out.mono ?_); rintro e wc ⟨rfl, hbc⟩
          have HTc := Lib.hid ((HTb.out.below hbc).more (.cells #[.int .i64 fc, .int .i64 fn] 25))
          have HBc : Hid (Below w1.heap.size w1 (wc.alloc (.cells #[.int .i64 fc, .int .i64 fn] 25))) := Lib.hid ((HBb.out.trans (hbc.mono HBb.out.size)).alloc (by have := HBb.out.size; have := hbc.size; omega) _)
          have HYc := Lib.hid ((HYb.out.below hbc HYb.out.lt).alloc (.cells #[.int .i64 fc, .int .i64 fn] 25))
          have HVc := Lib.hid (Blk.new_ wc 25 #[.int .i64 fc, .int .i64 fn])
          have HZc : Hid (wo.heap.size < wc.heap.size) := Lib.hid (Nat.lt_of_lt_of_le HZb.out hbc.size)
          clear hbc x0 x1 HXb HYb HBb HTb HLK HZb
          go_upto_region 12 with fail
          obtain ⟨wd, hwd⟩ : ∃ z, z = wc.alloc (.cells #[.int .i64 fc, .int .i64 fn] 25) := ⟨_, rfl⟩
          rw [← hwd] at HTc HBc HYc HVc ⊢
          clear hwd
          have HXd := Lib.hid (HX1.out.below HBc.out HS1.out)
          have x0 : wd.cell? ⟨w.heap.size, 0, none⟩ = some (.int .i64 fid) := HXd.out.cell 0
          have x1 : wd.cell? ⟨w.heap.size, 1, none⟩ = some (.int .i64 fseq) := HXd.out.cell 1
          have y2 : wd.cell? ⟨wo.heap.size, 2, none⟩ = some (.int .i64 xc) := HYc.out.cell 2
          have y3 : wd.cell? ⟨wo.heap.size, 3, none⟩ = some (.int .i64 xn) := HYc.out.cell 3
          have hag := HO1.out.again xc xn
          have HP2 := Lib.hid (X_Put HTc.out fid fseq xc xn hid)
          unfold XPut at HP2
          rw [hag.1] at HP2
          obtain ⟨k2, hk2⟩ : ∃ z, z = (putT t1 fid fseq xc xn).2 := ⟨_, rfl⟩
          rw [← hk2] at HP2 hag
          have q1 : (k2 == 0) = false := by rw [beq_eq_false_iff_ne]; exact hag.2
          clear hag hk2
          go_wp2_with fail
          (with_reducible refine HP2.out.mono ?_); rintro e we ⟨rfl, hte, hfe⟩
          have HTe := Lib.hid (hte.less (H := Lw w1.heap.size) (fun g h => .inl (.inl h)))
          have HBe : Hid (Below w1.heap.size w1 we) := Lib.hid (HBc.out.trans (hfe.to_below (fun k _ h1 h => h (.inl (.inl h1))) HBc.out.size))
          have HVe := Lib.hid (HVc.out.frm hfe (fun h => h (.inr rfl)))
          have HXe := Lib.hid (HX1.out.below HBe.out HS1.out)
          clear hte hfe x0 x1 y2 y3 HTc HBc HYc HVc HXd HP2
          have x0 : we.cell? ⟨w.heap.size, 0, none⟩ = some (.int .i64 fid) := HXe.out.cell 0
          have x1 : we.cell? ⟨w.heap.size, 1, none⟩ = some (.int .i64 fseq) := HXe.out.cell 1
          have x2 : we.cell? ⟨w.heap.size, 2, none⟩ = some (.int .i64 fc) := HXe.out.cell 2
          have x3 : we.cell? ⟨w.heap.size, 3, none⟩ = some (.int .i64 fn) := HXe.out.cell 3
          have v0 : we.cell? ⟨wc.heap.size, 0, none⟩ = some (.int .i64 fc) := HVe.out.cell 0
          have v1 : we.cell? ⟨wc.heap.size, 1, none⟩ = some (.int .i64 fn) := HVe.out.cell 1
          go_upto_region 18 with fail
          obtain ⟨s, hs1, hs2, hs3⟩ := HSN.out
          have hos := HO1.out.ok.each s (findS_some hs1).1
          have HHI := Lib.hid fun nq => Highest_any (w := we.drewN nq) (HTe.out.below (below_drewN (Below.refl _ _) nq)).tab fid hid
          unfold HiP at HHI
          rw [hs2] at HHI
          obtain ⟨h8, hh8⟩ : ∃ z, z = s.high - 8 := ⟨_, rfl⟩
          have e8 : IntKind.i64.wrap (s.high - 8) = h8 := by have := hos.low; have := hos.top; rw [IntKind.wrap_i64]; omega
          rw [← hh8] at hs3
          have d8 : decide (fseq ≤ h8) = false := hs3.symm
          clear hs3 hs2 hs1 hh8 hos
          go_quiet ((go_at_call 14; exact quiet_mine (HHI.out _)))
          go_wp2_with fail
          go_roundw
          case rel => exact ⟨k + 1, false, t1, by have := HLT.out; omega, by go_num, rfl, HO1.out, HTe.out.below (below_drewN (Below.refl _ _) _), below_drewN HBe.out _⟩
          case measure => simp [RowKit.intOf]; have := HLT.out; omega
      · go_wp2_with fail
        go_ret
        exact ⟨rfl, HB1.out.trans (HB.out.mono (Nat.le_of_lt HS1.out))⟩
  · have t1 : (r2 == 0) = false := by rw [beq_eq_false_iff_ne]; exact h0
    have t2 : (r2 != 0) = true := by rw [bne_iff_ne]; exact h0
    go_wp2_with fail
    (with_reducible refine HPT.out.mono ?_); rintro e w4 ⟨rfl, h4, hf4⟩
    have hr1 : r1 = [] := by
      have := put_none (id := fid) (seq := fseq) (c := fc) (n := fn) (by rw [← HR.out]; exact h0)
      rw [← HR.out] at this; exact this
    have H4 : Hid (TX (Lw w1.heap.size) w4 p []) := Lib.hid (hr1 ▸ h4)
    have HB4 : Hid (Below w1.heap.size w1 w4) := Lib.hid (HB3.out.trans (hf4.to_below (fun k _ h1 h => h h1) HB3.out.size))
    clear h4 hf4 c0 c1 c2 c3 HPT HX3 H3 HB3 HR hr1 h0
    have HSS : Hid (Calls Try.prog 12 #[.pointer (some ⟨p, 0, none⟩)] w4 (SessP [] w4)) := Lib.hid (Sessions_any H4.out.tab)
    go_wp2_with fail
    (with_reducible refine HSS.out.mono ?_); rintro e w5 ⟨A5, c5, rfl, -, hb5⟩
    have HB5 : Hid (Below w1.heap.size w1 w5) := Lib.hid (HB4.out.trans (hb5.mono HB4.out.size))
    clear hb5
    go_wp2_with fail
    go_ret
    exact ⟨rfl, HB1.out.trans (HB5.out.mono (Nat.le_of_lt HS1.out))⟩
end Go.Proofs.Ytakebmbdcjbbgaa
