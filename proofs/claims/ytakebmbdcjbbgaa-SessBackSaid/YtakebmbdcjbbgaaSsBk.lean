/- Layer 13: SessBack: the walk. -/
import Derived.Test.YtakebmbdcjbbgaaSsLe
import Derived.Test.YtakebmbdcjbbgaaSsBu
import Derived.Test.YtakebmbdcjbbgaaSsE
import Derived.Test.YtakebmbdcjbbgaaSsA
import Derived.Test.YtakebmbdcjbbgaaByt
import Derived.Test.YtakebmbdcjbbgaaReg
namespace Go.Proofs.Ytakebmbdcjbbgaa
open Go Go.RowKit Go.Maps Go.Lib Mem Ss Pk

/-- two tables apart, both apart from H -/
def Two (H : Nat → Prop) (W : World) (p q : Nat) (t u : Tb) : Prop :=
  ∃ mb rs mb' rs', TRep 0 W p t mb rs ∧ TRep 0 W q u mb' rs' ∧ (∀ g, Foot p mb rs g → ¬ H g) ∧ (∀ g, Foot q mb' rs' g → ¬ H g) ∧ (∀ g, Foot p mb rs g → ¬ Foot q mb' rs' g) ∧ ∀ g, H g → g < W.heap.size
section
variable {H : Nat → Prop} {W W' : World} {p q : Nat} {t u : Tb}
theorem Two.swap (h : Two H W p q t u) : Two H W q p u t := by
  obtain ⟨mb, rs, mb', rs', h1, h2, h3, h4, h5, h6⟩ := h
  exact ⟨mb', rs', mb, rs, h2, h1, h4, h3, fun g a b => h5 g b a, h6⟩
theorem Two.tab (h : Two H W p q t u) : TabAt 0 W p t := by
  obtain ⟨mb, rs, mb', rs', h1, -⟩ := h
  exact ⟨mb, rs, h1⟩
theorem Two.below (h : Two H W p q t u) (hb : Below W.heap.size W W') : Two H W' p q t u := by
  obtain ⟨mb, rs, mb', rs', h1, h2, h3, h4, h5, h6⟩ := h
  exact ⟨mb, rs, mb', rs', h1.below hb, h2.below hb, h3, h4, h5, fun g hg => Nat.lt_of_lt_of_le (h6 g hg) hb.size⟩
theorem Two.more (h : Two H W p q t u) (o : Obj) : Two (fun g => H g ∨ g = W.heap.size) (W.alloc o) p q t u := by
  obtain ⟨mb, rs, mb', rs', h1, h2, h3, h4, h5, h6⟩ := h
  have hb := (Below.refl W.heap.size W).alloc (Nat.le_refl _) o
  refine ⟨mb, rs, mb', rs', h1.below hb, h2.below hb, fun g hg e => ?_, fun g hg e => ?_, h5, fun g hg => ?_⟩
  · rcases e with e | e
    · exact h3 g hg e
    · have := Foot.lt h1 hg; omega
  · rcases e with e | e
    · exact h4 g hg e
    · have := Foot.lt h2 hg; omega
  · rw [World.size_alloc]
    rcases hg with hg | hg
    · have := h6 g hg; omega
    · omega
theorem Two.less {G : Nat → Prop} (h : Two H W p q t u) (hs : ∀ g, G g → H g) : Two G W p q t u := by
  obtain ⟨mb, rs, mb', rs', h1, h2, h3, h4, h5, h6⟩ := h
  exact ⟨mb, rs, mb', rs', h1, h2, fun g hg e => h3 g hg (hs g e), fun g hg e => h4 g hg (hs g e), h5, fun g hg => h6 g (hs g hg)⟩
def TwoP (H : Nat → Prop) (p q : Nat) (r : Tb × Int) (u : Tb) (w : World) (e : Ending) (w' : World) : Prop := e = .returned (.int .i64 r.2) ∧ Two H w' p q r.1 u ∧ Frm (fun g => ¬ H g) w w'
theorem two_Put (h : Two H W p q t u) (id seq c n : Int) (hid : (Lit.int .i64 id).wf = true) :
    Calls Try.prog 11 #[.pointer (some ⟨p, 0, none⟩), .int .i64 id, .int .i64 seq, .agg #[.int .i64 c, .int .i64 n]] W (TwoP H p q (putT t id seq c n) u W) := by
  obtain ⟨mb, rs, mb', rs', h1, h2, h3, h4, h5, h6⟩ := h
  refine (Put_any h1 id seq c n hid).mono fun e w' ⟨he, rs2, ht, hf, hs⟩ => ⟨he, ⟨mb, rs2, mb', rs', ht, h2.frmF hf (fun g hg e => h5 g e hg), fun g hg e => ?_, h4, fun g hg e => ?_, fun g hg => Nat.lt_of_lt_of_le (h6 g hg) hf.size⟩, hf.mono fun k _ hk => h3 k hk⟩
  · rcases hs g hg with hg | hg
    · exact h3 g hg e
    · have := h6 g e; omega
  · rcases hs g hg with hg | hg
    · exact h5 g hg e
    · have := Foot.lt h2 e; omega
end
theorem tbNs_same (t : Tb) : tbNs t = tbNsP t := rfl
theorem resL_own {t : Tb} (hok : OkT t) (htop : TopT t) : resL (numsB (tbNs t)) = some t := by
  rw [resL_some, tbNs_same]
  have := load_back hok htop []
  rw [List.append_nil] at this
  exact this
theorem two_of {B : Nat} {w w' : World} {p q : Nat} {t u : Tb} (h : TX (fun g => g < B) w p t) (hb : Below w.heap.size w w') (hu : TX (fun g => g < w.heap.size) w' q u) (hB : B ≤ w.heap.size) : Two (fun g => g < B) w' p q t u := by
  obtain ⟨mb, rs, h1, h2, h3⟩ := h
  obtain ⟨mb', rs', g1, g2, g3⟩ := hu
  refine ⟨mb, rs, mb', rs', h1.below hb, g1, h2, fun g hg e => g2 g hg (Nat.lt_of_lt_of_le e hB), fun g hg e => g2 g e (Foot.lt h1 hg), fun g hg => ?_⟩
  have := h3 g hg
  have := hb.size
  omega
def BkRel (n b p : Nat) (w : World) (iv : Value) (W : World) : Prop := ∃ (k : Nat) (t : Tb), k ≤ n ∧ iv = .int .i64 k ∧ TX (fun g => g < b) W p t ∧ TopT t ∧ Below b w W
def BkRel2 (n b p q : Nat) (w : World) (iv : Value) (W : World) : Prop := ∃ (k : Nat) (t : Tb), k ≤ n ∧ iv = .int .i64 k ∧ Two (fun g => g < b) W p q t t ∧ Below b w W
set_option maxRecDepth 100000 in
set_option maxHeartbeats 4000000 in
theorem sessBack_walk (A : Option Addr) (c : Nat) (ops : List OpS) {w : World} (hops : OpsIn w A c ops) (A2 : Option Addr) (c2 : Nat) (ops2 : List OpS) (hops2 : OpsIn w A2 c2 ops2) :
    Calls Try.prog 8 #[.slice A ops.length c, .slice A2 ops2.length c2] w fun e w' => e = .returned (.bool true) ∧ Below w.heap.size w w' := by
  have hlen : ops.length ≤ 9223372036854775807 := hops.sl.1
  have hlen2 : ops2.length ≤ 9223372036854775807 := hops2.sl.1
  have HOPS := Lib.hid hops
  have HOPS2 := Lib.hid hops2
  clear hops hops2
  go_enter Try.func8, Try.ntmps8
  go_wp2_with fail
  (with_reducible refine (X_New _).mono ?_); rintro e w2 ⟨p, rfl, h2, hb2⟩
  have H2 := Lib.hid h2
  have HB2 := Lib.hid hb2
  clear h2 hb2
  go_wp2_with fail
  (with_reducible refine (alive_any _).mono ?_); rintro e w3 ⟨rfl, hb3⟩
  have H3 := Lib.hid (H2.out.below hb3)
  have HB3 : Hid (Below w.heap.size w w3) := Lib.hid (HB2.out.trans (hb3.mono HB2.out.size))
  clear hb3 HB2 H2
  go_wp2_with fail
  go_loopw [25] (fun iv wr => BkRel ops.length w.heap.size p w iv wr) (fun iv _ => ops.length - (RowKit.intOf iv).toNat)
  case atStart => exact ⟨0, [], Nat.zero_le _, rfl, H3.out, fun s hs => (by cases hs), HB3.out⟩
  case round =>
    obtain ⟨k, t, hk, rfl, htx, htop, hbw⟩ := hrel
    obtain ⟨wo, rfl⟩ : ∃ wo, wo = wr := ⟨_, rfl⟩
    have HT := Lib.hid htx
    have HTP := Lib.hid htop
    have HB := Lib.hid hbw
    clear htx htop hbw
    by_cases hlt : k < ops.length
    · obtain ⟨b, o, rfl, -, hc⟩ := (HOPS.out.sl.below HB.out).at hlt
      have hok := HOPS.out.ok _ (List.getElem_mem hlt)
      obtain ⟨x, hx⟩ : ∃ z, z = ops[k] := ⟨_, rfl⟩
      rw [← hx] at hc hok
      obtain ⟨xid, xseq, xc, xn⟩ := x
      have HW := Lib.hid (show (Lit.int .i64 xid).wf = true from hok.id)
      have e0 : wo.cell? ⟨b, o + k * 4, none⟩ = some (.int .i64 xid) := hc 0 (by decide)
      have e1 : wo.cell? ⟨b, o + k * 4 + 1, none⟩ = some (.int .i64 xseq) := hc 1 (by decide)
      have e2 : wo.cell? ⟨b, o + k * 4 + 2, none⟩ = some (.int .i64 xc) := hc 2 (by decide)
      have e3 : wo.cell? ⟨b, o + k * 4 + 3, none⟩ = some (.int .i64 xn) := hc 3 (by decide)
      have hk0 : (0 : Int) ≤ (k : Int) := by omega
      have hk1 : (k : Int) < (ops.length : Int) := by omega
      have HLT := Lib.hid hlt
      clear hc hx hok
      go_upto_region 7 with fail
      obtain ⟨wa, hwa⟩ : ∃ z, z = wo.alloc (.cells #[.int .i64 xid, .int .i64 xseq, .int .i64 xc, .int .i64 xn] 27) := ⟨_, rfl⟩
      rw [← hwa]
      have HTa : Hid (TX (fun g => g < w.heap.size) wa p t) := Lib.hid (by rw [hwa]; exact HT.out.below ((Below.refl _ _).alloc (Nat.le_refl _) _))
      have HBa : Hid (Below w.heap.size w wa) := Lib.hid (by rw [hwa]; exact HB.out.alloc HB.out.size _)
      have HYa : Hid (Blk wa wo.heap.size 27 #[.int .i64 xid, .int .i64 xseq, .int .i64 xc, .int .i64 xn]) := Lib.hid (by rw [hwa]; exact Blk.new_ wo _ _)
      clear hwa e0 e1 e2 e3 hk0 hk1
      have y0 : wa.cell? ⟨wo.heap.size, 0, none⟩ = some (.int .i64 xid) := HYa.out.cell 0
      have y1 : wa.cell? ⟨wo.heap.size, 1, none⟩ = some (.int .i64 xseq) := HYa.out.cell 1
      have y2 : wa.cell? ⟨wo.heap.size, 2, none⟩ = some (.int .i64 xc) := HYa.out.cell 2
      have y3 : wa.cell? ⟨wo.heap.size, 3, none⟩ = some (.int .i64 xn) := HYa.out.cell 3
      have HP := Lib.hid (X_Put HTa.out xid xseq xc xn HW.out)
      have HTP2 := Lib.hid (topT_put HTa.out.ok HTP.out xid xseq xc xn)
      unfold XPut at HP
      obtain ⟨t1, ht1⟩ : ∃ z, z = (putT t xid xseq xc xn).1 := ⟨_, rfl⟩
      obtain ⟨k1, hk1⟩ : ∃ z, z = (putT t xid xseq xc xn).2 := ⟨_, rfl⟩
      rw [← ht1, ← hk1] at HP
      rw [← ht1] at HTP2
      clear ht1 hk1
      go_wp2_with fail
      (with_reducible refine HP.out.mono ?_); rintro e wb ⟨rfl, htb, hfb⟩
      have HTB := Lib.hid htb
      have HBB : Hid (Below w.heap.size w wb) := Lib.hid (HBa.out.trans (hfb.to_below (fun k _ h1 h => h h1) HBa.out.size))
      clear htb hfb y0 y1 y2 y3
      go_wp2_with fail
      go_roundw
      case rel => exact ⟨k + 1, t1, by have := HLT.out; omega, by go_num, HTB.out, HTP2.out, HBB.out⟩
      case measure => simp [RowKit.intOf]; have := HLT.out; omega
    · have HBY := Lib.hid (Bytes_any HT.out.tab)
      obtain ⟨bs, hbs⟩ : ∃ z, z = numsB (tbNs t) := ⟨_, rfl⟩
      rw [← hbs] at HBY
      have hres : resL bs = some t := by rw [hbs]; exact resL_own HT.out.ok HTP.out
      have HRS := Lib.hid hres
      clear hbs hres
      go_wp2_with fail
      (with_reducible refine HBY.out.mono ?_); rintro e w5 ⟨A5, c5, rfl, ho5, hb5⟩
      have HT5 := Lib.hid (HT.out.below hb5)
      have HB5 : Hid (Below w.heap.size w w5) := Lib.hid (HB.out.trans (hb5.mono HB.out.size))
      have hcap := ho5.cap
      have HLD := Lib.hid (sLoad_any (SlF.of (SlB.of_own ho5).2) hcap.1 hcap.2)
      rw [HRS.out] at HLD
      clear ho5 hb5 hcap HBY
      go_wp2_with fail
      (with_reducible refine HLD.out.mono ?_); rintro e w6 ⟨hb6, -, hy⟩
      obtain ⟨q, rfl, htq, -⟩ := hy t rfl
      have HTW := Lib.hid (two_of HT5.out hb6 htq HB5.out.size)
      have HB6 : Hid (Below w.heap.size w w6) := Lib.hid (HB5.out.trans (hb6.mono HB5.out.size))
      clear hb6 hy htq HLD HT5 HB5 HT HB HTP HRS
      go_wp2_with fail
      go_loopw [52] (fun iv wr => BkRel2 ops2.length w.heap.size p q w iv wr) (fun iv _ => ops2.length - (RowKit.intOf iv).toNat)
      case atStart => exact ⟨0, t, Nat.zero_le _, rfl, HTW.out, HB6.out⟩
      case round =>
        obtain ⟨k2, t2, hk2, rfl, htw, hbw⟩ := hrel
        obtain ⟨wo, rfl⟩ : ∃ wo, wo = wr := ⟨_, rfl⟩
        have HT := Lib.hid htw
        have HB := Lib.hid hbw
        clear htw hbw
        by_cases hlt2 : k2 < ops2.length
        · obtain ⟨b, o, rfl, -, hc⟩ := (HOPS2.out.sl.below HB.out).at hlt2
          have hok := HOPS2.out.ok _ (List.getElem_mem hlt2)
          obtain ⟨x, hx⟩ : ∃ z, z = ops2[k2] := ⟨_, rfl⟩
          rw [← hx] at hc hok
          obtain ⟨xid, xseq, xc, xn⟩ := x
          have HW := Lib.hid (show (Lit.int .i64 xid).wf = true from hok.id)
          have e0 : wo.cell? ⟨b, o + k2 * 4, none⟩ = some (.int .i64 xid) := hc 0 (by decide)
          have e1 : wo.cell? ⟨b, o + k2 * 4 + 1, none⟩ = some (.int .i64 xseq) := hc 1 (by decide)
          have e2 : wo.cell? ⟨b, o + k2 * 4 + 2, none⟩ = some (.int .i64 xc) := hc 2 (by decide)
          have e3 : wo.cell? ⟨b, o + k2 * 4 + 3, none⟩ = some (.int .i64 xn) := hc 3 (by decide)
          have hk0 : (0 : Int) ≤ (k2 : Int) := by omega
          have hk1 : (k2 : Int) < (ops2.length : Int) := by omega
          have HLT := Lib.hid hlt2
          clear hc hx hok
          go_upto_region 15 with fail
          obtain ⟨wa, hwa⟩ : ∃ z, z = wo.alloc (.cells #[.int .i64 xid, .int .i64 xseq, .int .i64 xc, .int .i64 xn] 27) := ⟨_, rfl⟩
          rw [← hwa]
          have HTa : Hid (Two (fun g => g < w.heap.size ∨ g = wo.heap.size) wa p q t2 t2) := Lib.hid (by rw [hwa]; exact HT.out.more _)
          have HBa : Hid (Below w.heap.size w wa) := Lib.hid (by rw [hwa]; exact HB.out.alloc HB.out.size _)
          have HYa : Hid (Blk wa wo.heap.size 27 #[.int .i64 xid, .int .i64 xseq, .int .i64 xc, .int .i64 xn]) := Lib.hid (by rw [hwa]; exact Blk.new_ wo _ _)
          clear hwa e0 e1 e2 e3 hk0 hk1
          have y0 : wa.cell? ⟨wo.heap.size, 0, none⟩ = some (.int .i64 xid) := HYa.out.cell 0
          have y1 : wa.cell? ⟨wo.heap.size, 1, none⟩ = some (.int .i64 xseq) := HYa.out.cell 1
          have hlk := Look_any HTa.out.tab xid xseq HW.out
          have hlk2 : ∀ (W : World) (_ : TabAt 0 W q t2), Calls Try.prog 13 #[.pointer (some ⟨q, 0, none⟩), .int .i64 xid, .int .i64 xseq] W (LkP t2 xid xseq W) := fun W h => Look_any h xid xseq HW.out
          unfold LkP at hlk hlk2
          obtain ⟨la, hla⟩ : ∃ z, z = (lookI t2 xid xseq).1 := ⟨_, rfl⟩
          obtain ⟨lb, hlb⟩ : ∃ z, z = (lookI t2 xid xseq).2 := ⟨_, rfl⟩
          obtain ⟨lc, hlc⟩ : ∃ z, z = lookC t2 xid xseq := ⟨_, rfl⟩
          rw [← hla, ← hlb, ← hlc] at hlk hlk2
          have HLK := Lib.hid hlk
          have HLK2 := Lib.hid hlk2
          clear hlk hlk2 hla hlb hlc
          go_wp2_with fail
          (with_reducible refine HLK.out.mono ?_); rintro e wb ⟨rfl, hbb⟩
          have HTb := Lib.hid ((HTa.out.below hbb).more (.cells #[.int .i64 la, .int .i64 lb] 25))
          have HBb : Hid (Below w.heap.size w (wb.alloc (.cells #[.int .i64 la, .int .i64 lb] 25))) := Lib.hid ((HBa.out.trans (hbb.mono HBa.out.size)).alloc (by have := HBa.out.size; have := hbb.size; omega) _)
          have HYb := Lib.hid ((HYa.out.below hbb HYa.out.lt).alloc (.cells #[.int .i64 la, .int .i64 lb] 25))
          have HVb := Lib.hid (Blk.new_ wb 25 #[.int .i64 la, .int .i64 lb])
          clear hbb y0 y1 HTa HBa HYa HLK
          go_upto_region 16 with fail
          obtain ⟨wc, hwc⟩ : ∃ z, z = wb.alloc (.cells #[.int .i64 la, .int .i64 lb] 25) := ⟨_, rfl⟩
          rw [← hwc] at HTb HBb HYb HVb ⊢
          clear hwc
          have y0 : wc.cell? ⟨wo.heap.size, 0, none⟩ = some (.int .i64 xid) := HYb.out.cell 0
          have y1 : wc.cell? ⟨wo.heap.size, 1, none⟩ = some (.int .i64 xseq) := HYb.out.cell 1
          go_wp2_with fail
          (with_reducible refine (HLK2.out _ HTb.out.swap.tab).mono ?_); rintro e wd ⟨rfl, hbd⟩
          have HTd := Lib.hid ((HTb.out.below hbd).more (.cells #[.int .i64 la, .int .i64 lb] 25))
          have HBd : Hid (Below w.heap.size w (wd.alloc (.cells #[.int .i64 la, .int .i64 lb] 25))) := Lib.hid ((HBb.out.trans (hbd.mono HBb.out.size)).alloc (by have := HBb.out.size; have := hbd.size; omega) _)
          have HYd := Lib.hid ((HYb.out.below hbd HYb.out.lt).alloc (.cells #[.int .i64 la, .int .i64 lb] 25))
          have HVd := Lib.hid ((HVb.out.below hbd HVb.out.lt).alloc (.cells #[.int .i64 la, .int .i64 lb] 25))
          have HUd := Lib.hid (Blk.new_ wd 25 #[.int .i64 la, .int .i64 lb])
          clear hbd y0 y1 HTb HBb HYb HVb HLK2
          go_upto_region 17 with fail
          obtain ⟨we, hwe⟩ : ∃ z, z = wd.alloc (.cells #[.int .i64 la, .int .i64 lb] 25) := ⟨_, rfl⟩
          rw [← hwe] at HTd HBd HYd HVd HUd ⊢
          clear hwe
          have HTe := Lib.hid (HTd.out.below (Below.refl we.heap.size we).drew)
          have HP1 := Lib.hid (two_Put HTe.out xid xseq xc xn HW.out)
          have HP2 : Hid (∀ (W : World) (u : Tb), Two (fun g => ((g < w.heap.size ∨ g = wo.heap.size) ∨ g = wb.heap.size) ∨ g = wd.heap.size) W q p t2 u → Calls Try.prog 11 #[.pointer (some ⟨q, 0, none⟩), .int .i64 xid, .int .i64 xseq, .agg #[.int .i64 xc, .int .i64 xn]] W (TwoP (fun g => ((g < w.heap.size ∨ g = wo.heap.size) ∨ g = wb.heap.size) ∨ g = wd.heap.size) q p (putT t2 xid xseq xc xn) u W)) := Lib.hid fun W u h => two_Put h xid xseq xc xn HW.out
          unfold TwoP at HP1 HP2
          obtain ⟨t3, ht3⟩ : ∃ z, z = (putT t2 xid xseq xc xn).1 := ⟨_, rfl⟩
          obtain ⟨k3, hk3⟩ : ∃ z, z = (putT t2 xid xseq xc xn).2 := ⟨_, rfl⟩
          rw [← ht3, ← hk3] at HP1 HP2
          clear ht3 hk3
          refine AnyZ.start (S := (fun W => W.cell? ⟨wb.heap.size, 0, none⟩ = some (.int .i64 la) ∧ W.cell? ⟨wb.heap.size, 1, none⟩ = some (.int .i64 lb) ∧ W.cell? ⟨wd.heap.size, 0, none⟩ = some (.int .i64 la) ∧ W.cell? ⟨wd.heap.size, 1, none⟩ = some (.int .i64 lb) ∧ W.cell? ⟨wo.heap.size, 0, none⟩ = some (.int .i64 xid) ∧ W.cell? ⟨wo.heap.size, 1, none⟩ = some (.int .i64 xseq) ∧ W.cell? ⟨wo.heap.size, 2, none⟩ = some (.int .i64 xc) ∧ W.cell? ⟨wo.heap.size, 3, none⟩ = some (.int .i64 xn))) (z := 1027) (by kernel_rfl) ?_ (fun hHeld => ?_)
          · exact ⟨HVd.out.cell 0, HVd.out.cell 1, HUd.out.cell 0, HUd.out.cell 1, HYd.out.cell 0, HYd.out.cell 1, HYd.out.cell 2, HYd.out.cell 3⟩
          refine AnyZ.take (i := 0) (v := ?_) rfl (by kernel_rfl) (by kernel_rfl) (by kernel_rfl) (by kernel_rfl) (fun _ _ _ h => h) (Or.inl ⟨by kernel_rfl, ?_⟩) (by assumption) ?_
          rotate_left
          · intro w hSw; (try dsimp only at hSw); go_simp; try with_reducible rfl
          try simp only [Act.put, List.getElem_toArray, List.getElem_cons_succ, List.getElem_cons_zero, List.setIfInBounds_toArray, List.set_cons_zero, List.set_cons_succ]
          refine AnyZ.take (i := 1) (v := ?_) rfl (by kernel_rfl) (by kernel_rfl) (by kernel_rfl) (by kernel_rfl) (fun _ _ _ h => h) (Or.inl ⟨by kernel_rfl, ?_⟩) (by assumption) ?_
          rotate_left
          · intro w hSw; (try dsimp only at hSw); go_simp; try with_reducible rfl
          try simp only [Act.put, List.getElem_toArray, List.getElem_cons_succ, List.getElem_cons_zero, List.setIfInBounds_toArray, List.set_cons_zero, List.set_cons_succ]
          refine AnyZ.take (i := 2) (v := ?_) rfl (by kernel_rfl) (by kernel_rfl) (by kernel_rfl) (by kernel_rfl) (fun _ _ _ h => h) (Or.inl ⟨by kernel_rfl, ?_⟩) (by assumption) ?_
          rotate_left
          · intro w hSw; (try dsimp only at hSw); go_simp; try with_reducible rfl
          try simp only [Act.put, List.getElem_toArray, List.getElem_cons_succ, List.getElem_cons_zero, List.setIfInBounds_toArray, List.set_cons_zero, List.set_cons_succ]
          refine AnyZ.take (i := 3) (v := ?_) rfl (by kernel_rfl) (by kernel_rfl) (by kernel_rfl) (by kernel_rfl) (fun _ _ _ h => h) (Or.inl ⟨by kernel_rfl, ?_⟩) (by assumption) ?_
          rotate_left
          · intro w hSw; (try dsimp only at hSw); go_simp; try with_reducible rfl
          try simp only [Act.put, List.getElem_toArray, List.getElem_cons_succ, List.getElem_cons_zero, List.setIfInBounds_toArray, List.set_cons_zero, List.set_cons_succ]
          refine AnyZ.take (i := 4) (v := ?_) rfl (by kernel_rfl) (by kernel_rfl) (by kernel_rfl) (by kernel_rfl) (fun _ _ _ h => h) (Or.inl ⟨by kernel_rfl, ?_⟩) (by assumption) ?_
          rotate_left
          · intro w hSw; (try dsimp only at hSw); go_simp; try with_reducible rfl
          try simp only [Act.put, List.getElem_toArray, List.getElem_cons_succ, List.getElem_cons_zero, List.setIfInBounds_toArray, List.set_cons_zero, List.set_cons_succ]
          refine AnyZ.take (i := 5) (v := ?_) rfl (by kernel_rfl) (by kernel_rfl) (by kernel_rfl) (by kernel_rfl) (fun _ _ _ h => h) (Or.inl ⟨by kernel_rfl, ?_⟩) (by assumption) ?_
          rotate_left
          · intro w hSw; (try dsimp only at hSw); go_simp; try with_reducible rfl
          try simp only [Act.put, List.getElem_toArray, List.getElem_cons_succ, List.getElem_cons_zero, List.setIfInBounds_toArray, List.set_cons_zero, List.set_cons_succ]
          refine AnyZ.take (i := 6) (v := ?_) rfl (by kernel_rfl) (by kernel_rfl) (by kernel_rfl) (by kernel_rfl) (fun _ _ _ h => h) (Or.inl ⟨by kernel_rfl, ?_⟩) (by assumption) ?_
          rotate_left
          · intro w hSw; (try dsimp only at hSw); go_simp; try with_reducible rfl
          try simp only [Act.put, List.getElem_toArray, List.getElem_cons_succ, List.getElem_cons_zero, List.setIfInBounds_toArray, List.set_cons_zero, List.set_cons_succ]
          refine AnyZ.take (i := 7) (v := ?_) rfl (by kernel_rfl) (by kernel_rfl) (by kernel_rfl) (by kernel_rfl) (fun _ _ _ h => h) (Or.inl ⟨by kernel_rfl, ?_⟩) (by assumption) ?_
          rotate_left
          · intro w hSw; (try dsimp only at hSw); go_simp; try with_reducible rfl
          try simp only [Act.put, List.getElem_toArray, List.getElem_cons_succ, List.getElem_cons_zero, List.setIfInBounds_toArray, List.set_cons_zero, List.set_cons_succ]
          refine AnyZ.take (i := 8) (v := ?_) rfl (by kernel_rfl) (by kernel_rfl) (by kernel_rfl) (by kernel_rfl) (fun _ _ _ h => h) (Or.inl ⟨by kernel_rfl, ?_⟩) (by assumption) ?_
          rotate_left
          · intro w hSw; (try dsimp only at hSw); go_simp; try with_reducible rfl
          try simp only [Act.put, List.getElem_toArray, List.getElem_cons_succ, List.getElem_cons_zero, List.setIfInBounds_toArray, List.set_cons_zero, List.set_cons_succ]
          refine AnyZ.take (i := 9) (v := ?_) rfl (by kernel_rfl) (by kernel_rfl) (by kernel_rfl) (by kernel_rfl) (fun _ _ _ h => h) (Or.inl ⟨by kernel_rfl, ?_⟩) (by assumption) ?_
          rotate_left
          · intro w hSw; (try dsimp only at hSw); go_simp; try with_reducible rfl
          try simp only [Act.put, List.getElem_toArray, List.getElem_cons_succ, List.getElem_cons_zero, List.setIfInBounds_toArray, List.set_cons_zero, List.set_cons_succ]
          refine AnyZ.take (i := 10) (v := ?_) rfl (by kernel_rfl) (by kernel_rfl) (by kernel_rfl) (by kernel_rfl) (fun _ _ _ h => h) (Or.inl ⟨by kernel_rfl, ?_⟩) (by assumption) ?_
          rotate_left
          · intro w hSw; (try dsimp only at hSw); go_simp; try with_reducible rfl
          try simp only [Act.put, List.getElem_toArray, List.getElem_cons_succ, List.getElem_cons_zero, List.setIfInBounds_toArray, List.set_cons_zero, List.set_cons_succ]
          refine AnyZ.take (i := 11) (v := ?_) rfl (by kernel_rfl) (by kernel_rfl) (by kernel_rfl) (by kernel_rfl) (fun _ _ _ h => h) (Or.inl ⟨by kernel_rfl, ?_⟩) (by assumption) ?_
          rotate_left
          · intro w hSw; (try dsimp only at hSw); go_simp; try with_reducible rfl
          try simp only [Act.put, List.getElem_toArray, List.getElem_cons_succ, List.getElem_cons_zero, List.setIfInBounds_toArray, List.set_cons_zero, List.set_cons_succ]
          refine AnyZ.take (i := 12) (v := ?_) rfl (by kernel_rfl) (by kernel_rfl) (by kernel_rfl) (by kernel_rfl) (fun _ _ _ h => h) (Or.inl ⟨by kernel_rfl, ?_⟩) (by assumption) ?_
          rotate_left
          · intro w hSw; (try dsimp only at hSw); go_simp; try with_reducible rfl
          try simp only [Act.put, List.getElem_toArray, List.getElem_cons_succ, List.getElem_cons_zero, List.setIfInBounds_toArray, List.set_cons_zero, List.set_cons_succ]
          refine AnyZ.take (i := 13) (v := ?_) rfl (by kernel_rfl) (by kernel_rfl) (by kernel_rfl) (by kernel_rfl) (fun _ _ _ h => h) (Or.inl ⟨by kernel_rfl, ?_⟩) (by assumption) ?_
          rotate_left
          · intro w hSw; (try dsimp only at hSw); go_simp; try with_reducible rfl
          try simp only [Act.put, List.getElem_toArray, List.getElem_cons_succ, List.getElem_cons_zero, List.setIfInBounds_toArray, List.set_cons_zero, List.set_cons_succ]
          refine AnyZ.take (i := 14) (v := ?_) rfl (by kernel_rfl) (by kernel_rfl) (by kernel_rfl) (by kernel_rfl) (fun _ _ _ h => h) (Or.inl ⟨by kernel_rfl, ?_⟩) (by assumption) ?_
          rotate_left
          · intro w hSw; (try dsimp only at hSw); go_simp; try with_reducible rfl
          try simp only [Act.put, List.getElem_toArray, List.getElem_cons_succ, List.getElem_cons_zero, List.setIfInBounds_toArray, List.set_cons_zero, List.set_cons_succ]
          refine AnyZ.take (i := 15) (v := ?_) rfl (by kernel_rfl) (by kernel_rfl) (by kernel_rfl) (by kernel_rfl) (fun _ _ _ h => h) (Or.inl ⟨by kernel_rfl, ?_⟩) (by assumption) ?_
          rotate_left
          · intro w hSw; (try dsimp only at hSw); go_simp; try with_reducible rfl
          try simp only [Act.put, List.getElem_toArray, List.getElem_cons_succ, List.getElem_cons_zero, List.setIfInBounds_toArray, List.set_cons_zero, List.set_cons_succ]
          refine AnyZ.take (i := 17) (v := ?_) rfl (by kernel_rfl) (by kernel_rfl) (by kernel_rfl) (by kernel_rfl) (fun _ _ _ h => h) (Or.inl ⟨by kernel_rfl, ?_⟩) (by assumption) ?_
          rotate_left
          · intro w hSw; (try dsimp only at hSw); go_simp; try with_reducible rfl
          try simp only [Act.put, List.getElem_toArray, List.getElem_cons_succ, List.getElem_cons_zero, List.setIfInBounds_toArray, List.set_cons_zero, List.set_cons_succ]
          refine AnyZ.take (i := 18) (v := ?_) rfl (by kernel_rfl) (by kernel_rfl) (by kernel_rfl) (by kernel_rfl) (fun _ _ _ h => h) (Or.inl ⟨by kernel_rfl, ?_⟩) (by assumption) ?_
          rotate_left
          · intro w hSw; (try dsimp only at hSw); go_simp; try with_reducible rfl
          try simp only [Act.put, List.getElem_toArray, List.getElem_cons_succ, List.getElem_cons_zero, List.setIfInBounds_toArray, List.set_cons_zero, List.set_cons_succ]
          refine AnyZ.take (i := 19) (v := ?_) rfl (by kernel_rfl) (by kernel_rfl) (by kernel_rfl) (by kernel_rfl) (fun _ _ _ h => h) (Or.inl ⟨by kernel_rfl, ?_⟩) (by assumption) ?_
          rotate_left
          · intro w hSw; (try dsimp only at hSw); go_simp; try with_reducible rfl
          try simp only [Act.put, List.getElem_toArray, List.getElem_cons_succ, List.getElem_cons_zero, List.setIfInBounds_toArray, List.set_cons_zero, List.set_cons_succ]
          refine AnyZ.take (i := 20) (v := ?_) rfl (by kernel_rfl) (by kernel_rfl) (by kernel_rfl) (by kernel_rfl) (fun _ _ _ h => h) (Or.inl ⟨by kernel_rfl, ?_⟩) (by assumption) ?_
          rotate_left
          · intro w hSw; (try dsimp only at hSw); go_simp; try with_reducible rfl
          try simp only [Act.put, List.getElem_toArray, List.getElem_cons_succ, List.getElem_cons_zero, List.setIfInBounds_toArray, List.set_cons_zero, List.set_cons_succ]
          refine AnyZ.take (i := 21) (v := ?_) rfl (by kernel_rfl) (by kernel_rfl) (by kernel_rfl) (by kernel_rfl) (fun _ _ _ h => h) (Or.inl ⟨by kernel_rfl, ?_⟩) (by assumption) ?_
          rotate_left
          · intro w hSw; (try dsimp only at hSw); go_simp; try with_reducible rfl
          try simp only [Act.put, List.getElem_toArray, List.getElem_cons_succ, List.getElem_cons_zero, List.setIfInBounds_toArray, List.set_cons_zero, List.set_cons_succ]
          refine AnyZ.take (i := 22) (v := ?_) rfl (by kernel_rfl) (by kernel_rfl) (by kernel_rfl) (by kernel_rfl) (fun _ _ _ h => h) (Or.inl ⟨by kernel_rfl, ?_⟩) (by assumption) ?_
          rotate_left
          · intro w hSw; (try dsimp only at hSw); go_simp; try with_reducible rfl
          try simp only [Act.put, List.getElem_toArray, List.getElem_cons_succ, List.getElem_cons_zero, List.setIfInBounds_toArray, List.set_cons_zero, List.set_cons_succ]
          refine AnyZ.take (i := 23) (v := ?_) rfl (by kernel_rfl) (by kernel_rfl) (by kernel_rfl) (by kernel_rfl) (fun _ _ _ h => h) (Or.inl ⟨by kernel_rfl, ?_⟩) (by assumption) ?_
          rotate_left
          · intro w hSw; (try dsimp only at hSw); go_simp; try with_reducible rfl
          try simp only [Act.put, List.getElem_toArray, List.getElem_cons_succ, List.getElem_cons_zero, List.setIfInBounds_toArray, List.set_cons_zero, List.set_cons_succ]
          refine AnyZ.ready (rs := [16]) (by kernel_rfl) (by simp) ?_
          refine AllZ.cons rfl (fun K hK => ?_) AllZ.nil
          go_simp
          (with_reducible refine HP1.out.mono ?_); rintro e wf ⟨rfl, htf, hff⟩
          have HTf := Lib.hid htf
          have HBf : Hid (Below w.heap.size w wf) := Lib.hid (HBd.out.drew.trans (hff.to_below (fun k _ h1 h => h (.inl (.inl (.inl h1)))) HBd.out.size))
          have HYf := Lib.hid (HYd.out.drew.frm hff (fun h => h (.inl (.inl (.inr rfl)))))
          have HVf := Lib.hid (HVd.out.drew.frm hff (fun h => h (.inl (.inr rfl))))
          have HUf := Lib.hid (HUd.out.drew.frm hff (fun h => h (.inr rfl)))
          clear htf hff
          refine hK.out _ _ ?_ (fun hHeld => ?_)
          · exact ⟨HVf.out.cell 0, HVf.out.cell 1, HUf.out.cell 0, HUf.out.cell 1, HYf.out.cell 0, HYf.out.cell 1, HYf.out.cell 2, HYf.out.cell 3⟩
          clear hK K
          try simp only [Act.put, List.getElem_toArray, List.getElem_cons_succ, List.getElem_cons_zero, List.setIfInBounds_toArray, List.set_cons_zero, List.set_cons_succ]
          refine AnyZ.ready (rs := [24]) (by kernel_rfl) (by simp) ?_
          refine AllZ.cons rfl (fun K hK => ?_) AllZ.nil
          go_simp
          (with_reducible refine (HP2.out _ _ HTf.out.swap).mono ?_); rintro e wg ⟨rfl, htg, hfg⟩
          have HTg := Lib.hid (htg.swap.less (G := fun g => g < w.heap.size) (fun g h => .inl (.inl (.inl h))))
          have HBg : Hid (Below w.heap.size w wg) := Lib.hid (HBf.out.trans (hfg.to_below (fun k _ h1 h => h (.inl (.inl (.inl h1)))) HBf.out.size))
          have HYg := Lib.hid (HYf.out.frm hfg (fun h => h (.inl (.inl (.inr rfl)))))
          have HVg := Lib.hid (HVf.out.frm hfg (fun h => h (.inl (.inr rfl))))
          have HUg := Lib.hid (HUf.out.frm hfg (fun h => h (.inr rfl)))
          clear htg hfg
          refine hK.out _ _ ?_ (fun hHeld => ?_)
          · exact ⟨HVg.out.cell 0, HVg.out.cell 1, HUg.out.cell 0, HUg.out.cell 1, HYg.out.cell 0, HYg.out.cell 1, HYg.out.cell 2, HYg.out.cell 3⟩
          clear hK K
          try simp only [Act.put, List.getElem_toArray, List.getElem_cons_succ, List.getElem_cons_zero, List.setIfInBounds_toArray, List.set_cons_zero, List.set_cons_succ]
          refine AnyZ.take (i := 25) (v := ?_) rfl (by kernel_rfl) (by kernel_rfl) (by kernel_rfl) (by kernel_rfl) (fun _ _ _ h => h) (Or.inl ⟨by kernel_rfl, ?_⟩) (by assumption) ?_
          rotate_left
          · intro w hSw; (try dsimp only at hSw); go_simp; try with_reducible rfl
          try simp only [Act.put, List.getElem_toArray, List.getElem_cons_succ, List.getElem_cons_zero, List.setIfInBounds_toArray, List.set_cons_zero, List.set_cons_succ]
          refine AnyZ.take (i := 26) (v := ?_) rfl (by kernel_rfl) (by kernel_rfl) (by kernel_rfl) (by kernel_rfl) (fun _ _ _ h => h) (Or.inl ⟨by kernel_rfl, ?_⟩) (by assumption) ?_
          rotate_left
          · intro w hSw; (try dsimp only at hSw); go_simp; try with_reducible rfl
          try simp only [Act.put, List.getElem_toArray, List.getElem_cons_succ, List.getElem_cons_zero, List.setIfInBounds_toArray, List.set_cons_zero, List.set_cons_succ]
          refine AnyZ.done (by kernel_rfl) ?_ _
          go_wp2_with fail
          go_roundw
          case rel => exact ⟨k2 + 1, t3, HLT.out, by go_num, HTg.out, HBg.out⟩
          case measure => simp [RowKit.intOf]; have := HLT.out; omega
        · have HBY := Lib.hid (Bytes_any HT.out.tab)
          have HBY2 : Hid (∀ (W : World) (_ : TabAt 0 W q t2), Calls Try.prog 22 #[.pointer (some ⟨q, 0, none⟩)] W (BytP (numsB (tbNs t2)) W)) := Lib.hid fun W h => Bytes_any h
          obtain ⟨bs, hbs⟩ : ∃ z, z = numsB (tbNs t2) := ⟨_, rfl⟩
          rw [← hbs] at HBY HBY2
          clear hbs
          go_wp2_with fail
          (with_reducible refine HBY.out.mono ?_); rintro e w7 ⟨A7, c7, rfl, ho7, hb7⟩
          have HT7 := Lib.hid (HT.out.below hb7)
          have HO7 := Lib.hid ho7
          have HB7 : Hid (Below w.heap.size w w7) := Lib.hid (HB.out.trans (hb7.mono HB.out.size))
          clear ho7 hb7
          go_wp2_with fail
          (with_reducible refine (HBY2.out _ HT7.out.swap.tab).mono ?_); rintro e w8 ⟨A8, c8, rfl, ho8, hb8⟩
          have hs7 : Sl fB w8 A7 bs := HO7.out.sl.2.below hb8
          have HSB := Lib.hid (SameBytes_any A7 A8 c7 c8 bs bs w8 hs7 ho8.sl.2)
          rw [decide_eq_true rfl] at HSB
          have HB8 : Hid (Below w.heap.size w w8) := Lib.hid (HB7.out.trans (hb8.mono HB7.out.size))
          clear ho8 hb8 hs7
          go_wp2_with fail
          (with_reducible refine HSB.out.mono ?_); rintro e w9 ⟨rfl, n9, rfl⟩
          go_wp2_with fail
          go_ret
          exact ⟨rfl, below_drewN HB8.out _⟩
end Go.Proofs.Ytakebmbdcjbbgaa
