/- Layer 13: SessPlays: the walk. -/
import Derived.Test.YtakebmbdcjbbgaaSsAk
import Derived.Test.YtakebmbdcjbbgaaSsRy
import Derived.Test.YtakebmbdcjbbgaaSsBu
import Derived.Test.YtakebmbdcjbbgaaSsE
import Derived.Test.YtakebmbdcjbbgaaSsY
import Derived.Test.YtakebmbdcjbbgaaByt
namespace Go.Proofs.Ytakebmbdcjbbgaa
open Go Go.RowKit Go.Maps Go.Lib Mem Ss Pk

theorem slC_frmG {α : Type} {k : Nat} {f : α → List Value} {w w' : World} {A : Option Addr} {xs : List α} {F : Nat → Prop} (h : SlC k f w A xs) (hf : Frm F w w') (hn : ∀ g o q, 0 < xs.length → A = some ⟨g, o, q⟩ → ¬ F g) : SlC k f w' A xs :=
  ⟨h.1, fun h0 => by
    obtain ⟨b, o, hA, hb, hc⟩ := h.2 h0
    refine ⟨b, o, hA, Nat.lt_of_lt_of_le hb hf.size, fun j hj i hi => ?_⟩
    have e : w'.heap[b]? = w.heap[b]? := hf.block b hb (hn b o none h0 hA)
    rw [← hc j hj i hi]
    unfold World.cell?
    rw [e]⟩
/-- the blocks that are the law's: the caller's, the box of the document's table, its row -/
def PG (b bm : Nat) (A : Option Addr) (its : List RI) (g : Nat) : Prop := g < b ∨ g = bm ∨ (0 < its.length ∧ ∃ o q, A = some ⟨g, o, q⟩)
theorem TX.chg {G G' : Nat → Prop} {w w' : World} {p : Nat} {t : Tb} (h : TX G w p t) (hb : Below w.heap.size w w') (h1 : ∀ g, G' g → G g ∨ w.heap.size ≤ g) (h2 : ∀ g, G' g → g < w'.heap.size) : TX G' w' p t := by
  obtain ⟨mb, rs, h0, hn, -⟩ := h
  refine ⟨mb, rs, h0.below hb, fun g hg e => ?_, h2⟩
  rcases h1 g e with h3 | h3
  · exact hn g hg h3
  · have := Foot.lt h0 hg; omega
theorem TX.setIn {G : Nat → Prop} {w : World} {p : Nat} {t : Tb} (h : TX G w p t) {q : Addr} (hq : G q.block) (u : Value) : TX G (w.setCell q u) p t := by
  obtain ⟨mb, rs, h0, hn, hl⟩ := h
  refine ⟨mb, rs, h0.frmF (F := fun g => g = q.block) ((Frm.refl (fun g => g = q.block) w).setCell (p := q) (fun _ => rfl) u) (fun g hg e => hn g hg (e ▸ hq)), hn, fun g hg => by rw [World.size_setCell]; exact hl g hg⟩
theorem frm_setC (w : World) (g : Nat) (u : Value) : Frm (fun k => k = g) w (w.setCell ⟨g, 0, none⟩ u) := (Frm.refl (fun k => k = g) w).setCell (p := ⟨g, 0, none⟩) (fun _ => rfl) u
structure PlS (b p bm : Nat) (t : Tb) (its : List RI) (A : Option Addr) (c : Nat) (W : World) : Prop where
  tx : TX (PG b bm A its) W p t
  box : Blk W bm 44 #[.slice A its.length c]
  row : SlC 4 riN W A its
  rel : R its t
  far : 0 < its.length → ∀ o q, A ≠ some ⟨bm, o, q⟩
  big : b ≤ bm
theorem PlS.below {b p bm : Nat} {t : Tb} {its : List RI} {A : Option Addr} {c : Nat} {W W' : World} (h : PlS b p bm t its A c W) (hb : Below W.heap.size W W') : PlS b p bm t its A c W' :=
  ⟨h.tx.below hb, h.box.below hb h.box.lt, h.row.below hb, h.rel, h.far, h.big⟩
/-- behind a Put on both sides: wq the world between, wf the one behind, in which the box is laid anew -/
theorem PlS.put {b p bm : Nat} {t t' : Tb} {its its' : List RI} {A A' : Option Addr} {c c' : Nat} {W wq wf : World} (h : PlS b p bm t its A c W) (htx : TX (PG b bm A its) wq p t') (hq : Frm (fun g => ¬ PG b bm A its g) W wq)
    (hb : Below wq.heap.size wq wf) (hs : SlC 4 riN wf A' its') (hA : (A' = A ∧ its' = its) ∨ ∀ b o q, A' = some ⟨b, o, q⟩ → wq.heap.size ≤ b) (hr : R its' t') : PlS b p bm t' its' A' c' (wf.setCell ⟨bm, 0, none⟩ (.slice A' its'.length c')) := by
  have hlt : bm < wq.heap.size := Nat.lt_of_lt_of_le h.box.lt hq.size
  have hbx : Blk wf bm 44 #[.slice A its.length c] := (h.box.frm hq (fun e => e (.inr (.inl rfl)))).below hb hlt
  have hfar : 0 < its'.length → ∀ o q, A' ≠ some ⟨bm, o, q⟩ := fun h0 o q e => by
    rcases hA with ⟨rfl, rfl⟩ | hA
    · exact h.far h0 o q e
    · have := hA _ _ _ e; omega
  refine ⟨TX.setIn (TX.chg htx hb (fun g hg => ?_) (fun g hg => ?_)) (.inr (.inl rfl)) _, hbx.set_ 0 _, slC_frmG (F := fun g => g = bm) hs (frm_setC wf bm _) (fun g o q h0 e e2 => hfar h0 o q (e2 ▸ e)), hr, hfar, h.big⟩
  · rcases hg with hg | hg | ⟨h0, o, q, hg⟩
    · exact .inl (.inl hg)
    · exact .inl (.inr (.inl hg))
    · rcases hA with ⟨rfl, rfl⟩ | hA
      · exact .inl (.inr (.inr ⟨h0, o, q, hg⟩))
      · exact .inr (hA _ _ _ hg)
  · rcases hg with hg | hg | ⟨h0, o, q, hg⟩
    · have := h.big; have := hb.size; omega
    · have := hb.size; omega
    · obtain ⟨b2, o2, e, hlt2, -⟩ := hs.at h0
      rw [hg] at e
      injection e with e; injection e with e
      omega
theorem newB {B : Nat} {w W : World} (_ : Below B w W) (t : TypeId) (cs : Array Value) : Blk (W.alloc (.cells cs t)) W.heap.size t cs := Blk.new_ W t cs
theorem setB {B N : Nat} {w W : World} {t : TypeId} {cs : Array Value} (h : Below B w W) (_ : Blk W N t cs) (hN : B ≤ N) (v : Value) : Below B w (W.setCell ⟨N, 0, none⟩ v) := h.setCell (p := ⟨N, 0, none⟩) hN v
theorem row_at {A A1 : Option Addr} {its its1 : List RI} {wq : World} {M : Nat} (h : SlC 4 riN wq A its) (ha : (A1 = A ∧ its1 = its) ∨ ∀ b o q, A1 = some ⟨b, o, q⟩ → M ≤ b) : ∀ g o q, 0 < its1.length → A1 = some ⟨g, o, q⟩ → g < wq.heap.size ∨ M ≤ g := fun g o q h0 e => by
  rcases ha with ⟨rfl, rfl⟩ | ha
  · obtain ⟨b, o2, e2, hlt, -⟩ := h.at h0
    rw [e] at e2; injection e2 with e2; injection e2 with e2
    exact .inl (by omega)
  · exact .inr (ha _ _ _ e)
def NeN (A1 : Option Addr) (its1 : List RI) (N : Nat) : Prop := ∀ g o q, 0 < its1.length → A1 = some ⟨g, o, q⟩ → g ≠ N
theorem ne_row {A1 : Option Addr} {its1 : List RI} {a M N : Nat} (h : ∀ g o q, 0 < its1.length → A1 = some ⟨g, o, q⟩ → g < a ∨ M ≤ g) (h1 : a ≤ N) {t : TypeId} {cs : Array Value} {W : World} (h2 : Blk W N t cs) (hM : W.heap.size = M) : NeN A1 its1 N := fun g o q h0 e => by
  have := h g o q h0 e
  have := h2.lt
  omega
theorem blk_drew {W : World} {t : TypeId} {cs : Array Value} {w : World} (h : Blk W w.drew.heap.size t cs) : Blk W w.heap.size t cs := h
theorem ne_row2 {A1 : Option Addr} {its1 : List RI} {W : World} (h : SlC 4 riN W A1 its1) : NeN A1 its1 W.heap.size := fun g o q h0 e => by
  obtain ⟨b, o2, e2, hlt, -⟩ := h.at h0
  rw [e] at e2; injection e2 with e2; injection e2 with e2
  omega
theorem set_row {A1 : Option Addr} {its1 : List RI} {W : World} {N : Nat} (h : SlC 4 riN W A1 its1) (hn : NeN A1 its1 N) (v : Value) : SlC 4 riN (W.setCell ⟨N, 0, none⟩ v) A1 its1 :=
  slC_frmG (F := fun g => g = N) h ((Frm.refl (fun g => g = N) W).setCell (p := ⟨N, 0, none⟩) (fun _ => rfl) v) (fun g o q h0 e e2 => hn g o q h0 e e2)
theorem chg_at {A A1 : Option Addr} {its its1 : List RI} {a M : Nat} (ha : (A1 = A ∧ its1 = its) ∨ ∀ b o q, A1 = some ⟨b, o, q⟩ → M ≤ b) (h : a ≤ M) : (A1 = A ∧ its1 = its) ∨ ∀ b o q, A1 = some ⟨b, o, q⟩ → a ≤ b := ha.imp id fun h1 b o q e => Nat.le_trans h (h1 b o q e)
def PlRel (n b p bm : Nat) (w : World) (iv : Value) (W : World) : Prop := ∃ (k : Nat) (t : Tb) (its : List RI) (A : Option Addr) (c : Nat), k ≤ n ∧ iv = .int .i64 k ∧ PlS b p bm t its A c W ∧ Below b w W
set_option maxRecDepth 100000 in
set_option maxHeartbeats 8000000 in
theorem sessPlays_walk (A0 : Option Addr) (c0 : Nat) (ops : List OpS) {w : World} (hops : OpsIn w A0 c0 ops) (aid : Int) (haid : (Lit.int .i64 aid).wf = true) (aseq : Int) (_ : (Lit.int .i64 aseq).wf = true) :
    Calls Try.prog 6 #[.slice A0 ops.length c0, .int .i64 aid, .int .i64 aseq] w fun e w' => e = .returned (.bool true) ∧ Below w.heap.size w w' := by
  have hlen : ops.length ≤ 9223372036854775807 := hops.sl.1
  have HOPS := Lib.hid hops
  have HAID := Lib.hid haid
  clear hops haid
  go_enter Try.func6, Try.ntmps6
  go_wp2_with fail
  (with_reducible refine (X_New _).mono ?_); rintro e w2 ⟨p, rfl, h2, hb2⟩
  have H2 := Lib.hid h2
  have HB2 := Lib.hid hb2
  clear h2 hb2
  go_wp2_with fail
  (with_reducible refine (alive_any _).mono ?_); rintro e w3 ⟨rfl, hb3⟩
  have H3 := Lib.hid (H2.out.below hb3)
  have HB3 : Hid (Below w.heap.size w w3) := Lib.hid (HB2.out.trans (hb3.mono HB2.out.size))
  clear hb3 HB2 H2
  go_upto_region 5 with fail
  have HPL : Hid (PlS w.heap.size p w3.heap.size [] [] none 0 (w3.alloc (.cells #[.slice none 0 0] 44))) := Lib.hid (by
    refine ⟨(H3.out.more _).less (fun g hg => ?_), Blk.new_ w3 _ _, ⟨by unfold maxLen; simp, fun h0 => absurd h0 (by simp)⟩, R.nil, fun h0 => absurd h0 (by simp), HB3.out.size⟩
    rcases hg with hg | hg | ⟨h0, -⟩
    · exact .inl hg
    · exact .inr hg
    · exact absurd h0 (by simp))
  have HBL : Hid (Below w.heap.size w (w3.alloc (.cells #[.slice none 0 0] 44))) := Lib.hid (HB3.out.alloc HB3.out.size _)
  obtain ⟨bm, hbm⟩ : ∃ z, z = w3.heap.size := ⟨_, rfl⟩
  obtain ⟨w4, hw4⟩ : ∃ z, z = w3.alloc (.cells #[.slice none 0 0] 44) := ⟨_, rfl⟩
  rw [← hw4, ← hbm] at HPL
  rw [← hw4] at HBL
  rw [← hw4, ← hbm]
  clear hbm hw4 H3 HB3
  go_wp2_with fail
  go_loopw [32] (fun iv wr => PlRel ops.length w.heap.size p bm w iv wr) (fun iv _ => ops.length - (RowKit.intOf iv).toNat)
  case atStart => exact ⟨0, [], [], none, 0, Nat.zero_le _, rfl, HPL.out, HBL.out⟩
  case round =>
    clear HPL HBL
    obtain ⟨k, t, its, A, c, hk, rfl, hpl, hbw⟩ := hrel
    obtain ⟨wo, rfl⟩ : ∃ wo, wo = wr := ⟨_, rfl⟩
    have HPL := Lib.hid hpl
    have HB := Lib.hid hbw
    clear hpl hbw
    by_cases hlt : k < ops.length
    · obtain ⟨b, o, rfl, -, hc⟩ := (HOPS.out.sl.below HB.out).at hlt
      have hok := HOPS.out.ok _ (List.getElem_mem hlt)
      obtain ⟨x, hx⟩ : ∃ z, z = ops[k] := ⟨_, rfl⟩
      rw [← hx] at hc hok
      obtain ⟨xid, xseq, xc, xn⟩ := x
      have HW := Lib.hid (show (Lit.int .i64 xid).wf = true from hok.id)
      have e0 : wo.cell? ⟨b, o + k * 4, none⟩ = some (.int .i64 xid) := hc 0 (by decide)
      have e1 : wo.cell? ⟨b, o + k * 4 + 1, none⟩ = some (.int .i64 xseq) := hc 1 (by decide)
      have e2 : wo.cell? ⟨b, o + k * 4 + 2, none⟩ = some (.int .i64 xc) := hc 2 (by decide)
      have e3 : wo.cell? ⟨b, o + k * 4 + 3, none⟩ = some (.int .i64 xn) := hc 3 (by decide)
      have hk0 : (0 : Int) ≤ (k : Int) := by omega
      have hk1 : (k : Int) < (ops.length : Int) := by omega
      have HLT := Lib.hid hlt
      clear hc hx hok
      go_upto_region 8 with fail
      obtain ⟨wa, hwa⟩ : ∃ z, z = wo.alloc (.cells #[.int .i64 xid, .int .i64 xseq, .int .i64 xc, .int .i64 xn] 27) := ⟨_, rfl⟩
      rw [← hwa]
      have HPa := Lib.hid (HPL.out.below (W' := wa) (by rw [hwa]; exact (Below.refl _ _).alloc (Nat.le_refl _) _))
      have HTa : Hid (TX (fun g => PG w.heap.size bm A its g ∨ g = wo.heap.size) wa p t) := Lib.hid (by rw [hwa]; exact HPL.out.tx.more _)
      have HBa : Hid (Below w.heap.size w wa) := Lib.hid (by rw [hwa]; exact HB.out.alloc HB.out.size _)
      have HYa : Hid (Blk wa wo.heap.size 27 #[.int .i64 xid, .int .i64 xseq, .int .i64 xc, .int .i64 xn]) := Lib.hid (by rw [hwa]; exact Blk.new_ wo _ _)
      clear hwa e0 e1 e2 e3 hk0 hk1 HPL HB
      have y0 : wa.cell? ⟨wo.heap.size, 0, none⟩ = some (.int .i64 xid) := HYa.out.cell 0
      have y1 : wa.cell? ⟨wo.heap.size, 1, none⟩ = some (.int .i64 xseq) := HYa.out.cell 1
      obtain ⟨g1, hg1⟩ : ∃ z, z = wo.heap.size := ⟨_, rfl⟩
      rw [← hg1] at HTa HYa y0 y1 ⊢
      clear hg1
      have hlk := Look_any HTa.out.tab xid xseq HW.out
      have hlk2 : ∀ (W : World) (_ : SlC 4 riN W A its), Calls Try.prog 16 #[.agg #[.slice A its.length c], .int .i64 xid, .int .i64 xseq] W (RLkP t xid xseq W) := fun W h => RLook_any h HPa.out.rel xid xseq
      unfold LkP at hlk
      unfold RLkP at hlk2
      obtain ⟨la, hla⟩ : ∃ z, z = (lookI t xid xseq).1 := ⟨_, rfl⟩
      obtain ⟨lb, hlb⟩ : ∃ z, z = (lookI t xid xseq).2 := ⟨_, rfl⟩
      obtain ⟨lc, hlc⟩ : ∃ z, z = lookC t xid xseq := ⟨_, rfl⟩
      rw [← hla, ← hlb, ← hlc] at hlk
      simp only [← hla, ← hlb, ← hlc] at hlk2
      have HLK := Lib.hid hlk
      have HLK2 := Lib.hid hlk2
      clear hlk hlk2 hla hlb hlc
      go_wp2_with fail
      (with_reducible refine HLK.out.mono ?_); rintro e wb ⟨rfl, hbb⟩
      go_upto_region 9 with fail
      obtain ⟨wc, hwc⟩ : ∃ z, z = wb.alloc (.cells #[.int .i64 la, .int .i64 lb] 25) := ⟨_, rfl⟩
      rw [← hwc]
      have HBac : Hid (Below wa.heap.size wa wc) := Lib.hid (by rw [hwc]; exact hbb.alloc hbb.size _)
      have HVc : Hid (Blk wc wb.heap.size 25 #[.int .i64 la, .int .i64 lb]) := Lib.hid (by rw [hwc]; exact Blk.new_ wb _ _)
      have HPc := Lib.hid (HPa.out.below HBac.out)
      have HYc := Lib.hid (HYa.out.below HBac.out HYa.out.lt)
      obtain ⟨g2, hg2⟩ : ∃ z, z = wb.heap.size := ⟨_, rfl⟩
      rw [← hg2] at HVc ⊢
      clear hg2 hwc hbb HLK y0 y1
      have m0 : wc.cell? ⟨bm, 0, none⟩ = some (.slice A its.length c) := HPc.out.box.cell 0
      have y0 : wc.cell? ⟨g1, 0, none⟩ = some (.int .i64 xid) := HYc.out.cell 0
      have y1 : wc.cell? ⟨g1, 1, none⟩ = some (.int .i64 xseq) := HYc.out.cell 1
      go_wp2_with fail
      (with_reducible refine (HLK2.out _ HPc.out.row).mono ?_); rintro e wd ⟨ia, ib, rfl, hbd⟩
      go_upto_region 10 with fail
      obtain ⟨we, hwe⟩ : ∃ z, z = wd.alloc (.cells #[.int .i64 ia, .int .i64 ib, .int .i64 la, .int .i64 lb] 46) := ⟨_, rfl⟩
      rw [← hwe]
      have HBce : Hid (Below wc.heap.size wc we) := Lib.hid (by rw [hwe]; exact hbd.alloc hbd.size _)
      have HUe : Hid (Blk we wd.heap.size 46 #[.int .i64 ia, .int .i64 ib, .int .i64 la, .int .i64 lb]) := Lib.hid (by rw [hwe]; exact Blk.new_ wd _ _)
      have HVe := Lib.hid (HVc.out.below HBce.out HVc.out.lt)
      have HBae : Hid (Below wa.heap.size wa we) := Lib.hid (HBac.out.trans (HBce.out.mono HBac.out.size))
      have HTe := Lib.hid (HTa.out.below HBae.out)
      have HYe := Lib.hid (HYa.out.below HBae.out HYa.out.lt)
      have HPe := Lib.hid (HPa.out.below HBae.out)
      have HBe : Hid (Below w.heap.size w we) := Lib.hid (HBa.out.trans (HBae.out.mono HBa.out.size))
      obtain ⟨g3, hg3⟩ : ∃ z, z = wd.heap.size := ⟨_, rfl⟩
      rw [← hg3] at HUe ⊢
      clear hg3 hwe hbd HLK2 y0 y1 m0 HPc HYc HVc HBac HBce HTa HYa HPa HBa
      have v0 : we.cell? ⟨g2, 0, none⟩ = some (.int .i64 la) := HVe.out.cell 0
      have v1 : we.cell? ⟨g2, 1, none⟩ = some (.int .i64 lb) := HVe.out.cell 1
      have u2 : we.cell? ⟨g3, 2, none⟩ = some (.int .i64 la) := HUe.out.cell 2
      have u3 : we.cell? ⟨g3, 3, none⟩ = some (.int .i64 lb) := HUe.out.cell 3
      have y0 : we.cell? ⟨g1, 0, none⟩ = some (.int .i64 xid) := HYe.out.cell 0
      have y1 : we.cell? ⟨g1, 1, none⟩ = some (.int .i64 xseq) := HYe.out.cell 1
      have y2 : we.cell? ⟨g1, 2, none⟩ = some (.int .i64 xc) := HYe.out.cell 2
      have y3 : we.cell? ⟨g1, 3, none⟩ = some (.int .i64 xn) := HYe.out.cell 3
      have HP : Hid (∀ W, TX (fun g => PG w.heap.size bm A its g ∨ g = g1) W p t → Calls Try.prog 11 #[.pointer (some ⟨p, 0, none⟩), .int .i64 xid, .int .i64 xseq, .agg #[.int .i64 xc, .int .i64 xn]] W (XPut (fun g => PG w.heap.size bm A its g ∨ g = g1) p (putT t xid xseq xc xn) W)) := Lib.hid fun W h => X_Put h xid xseq xc xn HW.out
      have HRP : Hid (∀ W, SlC 4 riN W A its → Calls Try.prog 17 #[.agg #[.slice A its.length c], .agg #[.int .i64 xid, .int .i64 xseq, .int .i64 xc, .int .i64 xn]] W (RPutP A its (rPut its t ⟨xid, xseq, xc, xn⟩) (putT t xid xseq xc xn).2 W)) := Lib.hid fun W h => RPut_any h HPe.out.rel ⟨xid, xseq, xc, xn⟩
      have HRR := Lib.hid (HPe.out.rel.putR ⟨xid, xseq, xc, xn⟩)
      unfold XPut at HP
      unfold RPutP at HRP
      obtain ⟨t1, ht1⟩ : ∃ z, z = (putT t xid xseq xc xn).1 := ⟨_, rfl⟩
      obtain ⟨k1, hk1⟩ : ∃ z, z = (putT t xid xseq xc xn).2 := ⟨_, rfl⟩
      obtain ⟨its1, hi1⟩ : ∃ z, z = rPut its t ⟨xid, xseq, xc, xn⟩ := ⟨_, rfl⟩
      rw [← ht1, ← hk1] at HP
      rw [← hk1, ← hi1] at HRP
      rw [← hi1] at HRR
      change Hid (R its1 (putT t xid xseq xc xn).1) at HRR
      rw [← ht1] at HRR
      clear ht1 hk1 hi1
      go_wp2_with fail
      (with_reducible refine (HP.out _ HTe.out).mono ?_); rintro e wq ⟨rfl, htq, hfq⟩
      have HTq := Lib.hid htq
      have HYq : Hid (Blk wq g1 27 #[.int .i64 xid, .int .i64 xseq, .int .i64 xc, .int .i64 xn]) := Lib.hid (HYe.out.frm hfq (fun h => h (.inr rfl)))
      have HMq : Hid (Blk wq bm 44 #[.slice A its.length c]) := Lib.hid (HPe.out.box.frm hfq (fun h => h (.inl (.inr (.inl rfl)))))
      have HRq : Hid (SlC 4 riN wq A its) := Lib.hid (slC_frmG HPe.out.row hfq (fun g o q h0 e h => h (.inl (.inr (.inr ⟨h0, o, q, e⟩)))))
      have HFq : Hid (Frm (fun g => ¬ PG w.heap.size bm A its g) we wq) := Lib.hid (hfq.mono fun g _ h e => h (.inl e))
      have HBX : Hid (Below wq.heap.size wq wq.drew) := Lib.hid (Below.refl wq.heap.size wq).drew
      clear htq hfq HP HTe HYe HUe HVe v0 v1 u2 u3 y0 y1 y2 y3
      go_upto_region 13 with fail
      refine AnyZ.start (S := (fun W => W.cell? ⟨bm, 0, none⟩ = some (.slice A its.length c) ∧ W.cell? ⟨g1, 0, none⟩ = some (.int .i64 xid) ∧ W.cell? ⟨g1, 1, none⟩ = some (.int .i64 xseq) ∧ W.cell? ⟨g1, 2, none⟩ = some (.int .i64 xc) ∧ W.cell? ⟨g1, 3, none⟩ = some (.int .i64 xn))) (z := 1010) (by kernel_rfl) ?_ (fun hHeld => ?_)
      · exact ⟨HMq.out.cell 0, HYq.out.cell 0, HYq.out.cell 1, HYq.out.cell 2, HYq.out.cell 3⟩
      refine AnyZ.take (i := 0) (v := ?_) rfl (by kernel_rfl) (by kernel_rfl) (by kernel_rfl) (by kernel_rfl) (fun _ _ _ h => h) (Or.inl ⟨by kernel_rfl, ?_⟩) (by assumption) ?_
      rotate_left
      · intro w hSw; (try dsimp only at hSw); go_simp; try with_reducible rfl
      try simp only [Act.put, List.getElem_toArray, List.getElem_cons_succ, List.getElem_cons_zero, List.setIfInBounds_toArray, List.set_cons_zero, List.set_cons_succ]
      refine AnyZ.take (i := 1) (v := ?_) rfl (by kernel_rfl) (by kernel_rfl) (by kernel_rfl) (by kernel_rfl) (fun _ _ _ h => h) (Or.inl ⟨by kernel_rfl, ?_⟩) (by assumption) ?_
      rotate_left
      · intro w hSw; (try dsimp only at hSw); go_simp; try with_reducible rfl
      try simp only [Act.put, List.getElem_toArray, List.getElem_cons_succ, List.getElem_cons_zero, List.setIfInBounds_toArray, List.set_cons_zero, List.set_cons_succ]
      refine AnyZ.ready (rs := [2, 7]) (by kernel_rfl) (by simp) ?_
      refine AllZ.cons rfl (fun K hK => ?_) (AllZ.cons rfl (fun K hK => ?_) AllZ.nil)
      · go_simp
        (with_reducible refine (item_any _ _ _ _ _).mono ?_); rintro e wi ⟨rfl, hbi⟩
        replace HBX := Lib.hid (HBX.out.trans (hbi.mono HBX.out.size))
        try replace HNB := Lib.hid (HNB.out.below hbi HNB.out.lt)
        clear hbi
        refine hK.out _ _ ?_ (fun hHeld => ?_)
        · exact ⟨(HMq.out.below HBX.out HMq.out.lt).cell 0, (HYq.out.below HBX.out HYq.out.lt).cell 0, (HYq.out.below HBX.out HYq.out.lt).cell 1, (HYq.out.below HBX.out HYq.out.lt).cell 2, (HYq.out.below HBX.out HYq.out.lt).cell 3⟩
        clear hK K
        try simp only [Act.put, List.getElem_toArray, List.getElem_cons_succ, List.getElem_cons_zero, List.setIfInBounds_toArray, List.set_cons_zero, List.set_cons_succ]
        refine AnyZ.ready (rs := [3, 7]) (by kernel_rfl) (by simp) ?_
        refine AllZ.cons rfl (fun K hK => ?_) (AllZ.cons rfl (fun K hK => ?_) AllZ.nil)
        · go_simp
          (with_reducible refine (HRP.out _ (HRq.out.below HBX.out)).mono ?_); rintro e wj ⟨A1, c1, rfl, hs1, ha1, hbj⟩
          have HS1 := Lib.hid hs1
          have HA1 := Lib.hid (chg_at ha1 HBX.out.size)
          try have HNR := Lib.hid (ne_row (row_at HRq.out ha1) HNG.out HNB.out rfl)
          replace HBX := Lib.hid (HBX.out.trans (hbj.mono HBX.out.size))
          try (replace HNB := Lib.hid (HNB.out.below hbj HNB.out.lt); first | (have n0 : wj.cell? ⟨wq.heap.size, 0, none⟩ = some (.slice none 0 0) := HNB.out.cell 0; have nf : wj.frozen? ⟨wq.heap.size, 0, none⟩ = false := HNB.out.free 0) | (have n0 : wj.cell? ⟨wi.heap.size, 0, none⟩ = some (.slice none 0 0) := HNB.out.cell 0; have nf : wj.frozen? ⟨wi.heap.size, 0, none⟩ = false := HNB.out.free 0))
          clear hs1 ha1 hbj
          refine hK.out _ _ ?_ (fun hHeld => ?_)
          · exact ⟨(HMq.out.below HBX.out HMq.out.lt).cell 0, (HYq.out.below HBX.out HYq.out.lt).cell 0, (HYq.out.below HBX.out HYq.out.lt).cell 1, (HYq.out.below HBX.out HYq.out.lt).cell 2, (HYq.out.below HBX.out HYq.out.lt).cell 3⟩
          clear hK K
          try simp only [Act.put, List.getElem_toArray, List.getElem_cons_succ, List.getElem_cons_zero, List.setIfInBounds_toArray, List.set_cons_zero, List.set_cons_succ]
          refine AnyZ.take (i := 4) (v := ?_) rfl (by kernel_rfl) (by kernel_rfl) (by kernel_rfl) (by kernel_rfl) (fun _ _ _ h => h) (Or.inl ⟨by kernel_rfl, ?_⟩) (by assumption) ?_
          rotate_left
          · intro w hSw; (try dsimp only at hSw); go_simp; try with_reducible rfl
          try simp only [Act.put, List.getElem_toArray, List.getElem_cons_succ, List.getElem_cons_zero, List.setIfInBounds_toArray, List.set_cons_zero, List.set_cons_succ]
          refine AnyZ.take (i := 5) (v := ?_) rfl (by kernel_rfl) (by kernel_rfl) (by kernel_rfl) (by kernel_rfl) (fun _ _ _ h => h) (Or.inl ⟨by kernel_rfl, ?_⟩) (by assumption) ?_
          rotate_left
          · intro w hSw; (try dsimp only at hSw); go_simp; try with_reducible rfl
          try simp only [Act.put, List.getElem_toArray, List.getElem_cons_succ, List.getElem_cons_zero, List.setIfInBounds_toArray, List.set_cons_zero, List.set_cons_succ]
          refine AnyZ.take (i := 6) (v := ?_) rfl (by kernel_rfl) (by kernel_rfl) (by kernel_rfl) (by kernel_rfl) (fun _ _ _ h => h) (Or.inl ⟨by kernel_rfl, ?_⟩) (by assumption) ?_
          rotate_left
          · intro w hSw; (try dsimp only at hSw); go_simp; try with_reducible rfl
          try simp only [Act.put, List.getElem_toArray, List.getElem_cons_succ, List.getElem_cons_zero, List.setIfInBounds_toArray, List.set_cons_zero, List.set_cons_succ]
          refine AnyZ.ready (rs := [7]) (by kernel_rfl) (by simp) ?_
          refine AllZ.cons rfl (fun K hK => ?_) AllZ.nil
          go_simp
          have HNG := Lib.hid HBX.out.size
          have HNB := Lib.hid (newB HBX.out 44 #[.slice none 0 0])
          try have HBXF := Lib.hid (HBX.out.alloc HBX.out.size (.cells #[.slice A1 its1.length c1] 44))
          try have HNBF := Lib.hid (newB HBX.out 44 #[.slice A1 its1.length c1])
          try have HS1F := Lib.hid (HS1.out.below ((Below.refl _ _).alloc (Nat.le_refl _) (.cells #[.slice A1 its1.length c1] 44)))
          try replace HS1 := Lib.hid (HS1.out.below ((Below.refl _ _).alloc (Nat.le_refl _) (.cells #[.slice none 0 0] 44)))
          replace HBX := Lib.hid (HBX.out.alloc HBX.out.size (.cells #[.slice none 0 0] 44))
          refine hK.out _ _ ?_ (fun hHeld => ?_)
          · exact ⟨(HMq.out.below HBX.out HMq.out.lt).cell 0, (HYq.out.below HBX.out HYq.out.lt).cell 0, (HYq.out.below HBX.out HYq.out.lt).cell 1, (HYq.out.below HBX.out HYq.out.lt).cell 2, (HYq.out.below HBX.out HYq.out.lt).cell 3⟩
          clear hK K
          try simp only [Act.put, List.getElem_toArray, List.getElem_cons_succ, List.getElem_cons_zero, List.setIfInBounds_toArray, List.set_cons_zero, List.set_cons_succ]
          refine AnyZ.ready (rs := [8]) (by kernel_rfl) (by simp) ?_
          refine AllZ.cons rfl (fun K hK => ?_) AllZ.nil
          go_simp
          first
            | (replace HBX := HBXF; replace HS1 := HS1F; replace HNB := HNBF; clear HBXF HS1F HNBF)
            | (replace HBX := Lib.hid (setB HBX.out HNB.out HNG.out (.slice A1 its1.length c1)); replace HS1 := Lib.hid (set_row HS1.out HNR.out (.slice A1 its1.length c1)); replace HNB := Lib.hid (HNB.out.set_ 0 (.slice A1 its1.length c1)))
          refine hK.out _ _ ?_ (fun hHeld => ?_)
          · exact ⟨(HMq.out.below HBX.out HMq.out.lt).cell 0, (HYq.out.below HBX.out HYq.out.lt).cell 0, (HYq.out.below HBX.out HYq.out.lt).cell 1, (HYq.out.below HBX.out HYq.out.lt).cell 2, (HYq.out.below HBX.out HYq.out.lt).cell 3⟩
          clear hK K
          try simp only [Act.put, List.getElem_toArray, List.getElem_cons_succ, List.getElem_cons_zero, List.setIfInBounds_toArray, List.set_cons_zero, List.set_cons_succ]
          refine AnyZ.take (i := 9) (v := ?_) rfl (by kernel_rfl) (by kernel_rfl) (by kernel_rfl) (by kernel_rfl) (fun _ _ _ h => h) (Or.inl ⟨by kernel_rfl, ?_⟩) (by assumption) ?_
          rotate_left
          · intro w hSw; (try dsimp only at hSw); go_simp; try with_reducible rfl
          try simp only [Act.put, List.getElem_toArray, List.getElem_cons_succ, List.getElem_cons_zero, List.setIfInBounds_toArray, List.set_cons_zero, List.set_cons_succ]
          refine AnyZ.done (by kernel_rfl) ?_ _
          first
            | (obtain ⟨N, wf, HB9, HS9, HN9⟩ : ∃ N wf, Hid (wf = wj.alloc (.cells #[.slice A1 its1.length c1] 44) ∧ N = wj.heap.size) ∧ True ∧ True := ⟨_, _, Lib.hid ⟨rfl, rfl⟩, trivial, trivial⟩
               rw [← HB9.out.1, ← HB9.out.2] at HNB ⊢
               rw [← HB9.out.1] at HBX HS1)
            | (obtain ⟨N, wf, HB9, HS9, HN9⟩ : ∃ N wf, Hid (wf = wj.setCell ⟨wi.heap.size, 0, none⟩ (.slice A1 its1.length c1) ∧ N = wi.heap.size) ∧ True ∧ True := ⟨_, _, Lib.hid ⟨rfl, rfl⟩, trivial, trivial⟩
               change Hid (Blk (wj.setCell ⟨wi.heap.size, 0, none⟩ (.slice A1 its1.length c1)) wi.heap.size 44 #[.slice A1 its1.length c1]) at HNB
               rw [← HB9.out.1, ← HB9.out.2] at HNB ⊢
               rw [← HB9.out.1] at HBX HS1)
            | (obtain ⟨N, wf, HB9, HS9, HN9⟩ : ∃ N wf, Hid (wf = wj.setCell ⟨wq.heap.size, 0, none⟩ (.slice A1 its1.length c1) ∧ N = wq.heap.size) ∧ True ∧ True := ⟨_, _, Lib.hid ⟨rfl, rfl⟩, trivial, trivial⟩
               change Hid (Blk (wj.setCell ⟨wq.heap.size, 0, none⟩ (.slice A1 its1.length c1)) wq.heap.size 44 #[.slice A1 its1.length c1]) at HNB
               change Hid (Below wq.heap.size wq (wj.setCell ⟨wq.heap.size, 0, none⟩ (.slice A1 its1.length c1))) at HBX
               change Hid (SlC 4 riN (wj.setCell ⟨wq.heap.size, 0, none⟩ (.slice A1 its1.length c1)) A1 its1) at HS1
               rw [← HB9.out.1, ← HB9.out.2] at HNB ⊢
               rw [← HB9.out.1] at HBX HS1)
          clear HB9 HS9 HN9
          have HPz := Lib.hid (PlS.put (c' := c1) HPe.out (HTq.out.less (fun g h => .inl h)) HFq.out HBX.out HS1.out HA1.out HRR.out)
          have HBz : Hid (Below w.heap.size w (wf.setCell ⟨bm, 0, none⟩ (.slice A1 its1.length c1))) := Lib.hid (((HBe.out.trans (HFq.out.to_below (fun k _ h1 h => h (.inl h1)) HBe.out.size)).trans (HBX.out.mono (Nat.le_trans HBe.out.size HFq.out.size))).setCell (p := ⟨bm, 0, none⟩) HPe.out.big _)
          have m1 : wf.cell? ⟨N, 0, none⟩ = some (.slice A1 its1.length c1) := HNB.out.cell 0
          have hmf : Blk wf bm 44 #[.slice A its.length c] := HMq.out.below HBX.out HMq.out.lt
          have m2 : wf.cell? ⟨bm, 0, none⟩ = some (.slice A its.length c) := hmf.cell 0
          have m3 := hmf.free 0
          clear hmf HBX HS1 HNB HA1 HMq HRq HYq HTq HFq HPe HBe HRP HRR
          go_upto_region 15 with fail
          obtain ⟨wz, hwz⟩ : ∃ z, z = wf.setCell ⟨bm, 0, none⟩ (.slice A1 its1.length c1) := ⟨_, rfl⟩
          rw [← hwz] at HPz HBz ⊢
          clear hwz m1 m2 m3
          have mz : wz.cell? ⟨bm, 0, none⟩ = some (.slice A1 its1.length c1) := HPz.out.box.cell 0
          by_cases h100 : k < 100
          · have t100 : decide ((k : Int) < 100) = true := decide_eq_true (by omega)
            have HAL := Lib.hid (alike13_any (c := c1) HPz.out.tx.tab HPz.out.row HPz.out.rel)
            clear h100
            go_wp2_with fail
            (with_reducible refine HAL.out.mono ?_); rintro e wy ⟨rfl, hby⟩
            have HPy := Lib.hid (HPz.out.below hby)
            have HBy : Hid (Below w.heap.size w wy) := Lib.hid (HBz.out.trans (hby.mono HBz.out.size))
            clear hby mz HPz HBz
            go_wp2_with fail
            go_roundw
            case rel => exact ⟨k + 1, t1, its1, A1, c1, HLT.out, by go_num, HPy.out, HBy.out⟩
            case measure => simp [RowKit.intOf]; have := HLT.out; omega
          · have t100 : decide ((k : Int) < 100) = false := decide_eq_false (by omega)
            clear h100
            go_wp2_with fail
            go_roundw
            case rel => exact ⟨k + 1, t1, its1, A1, c1, HLT.out, by go_num, HPz.out, HBz.out⟩
            case measure => simp [RowKit.intOf]; have := HLT.out; omega
        · go_simp
          have HNG := Lib.hid HBX.out.size
          have HNB := Lib.hid (newB HBX.out 44 #[.slice none 0 0])
          try have HBXF := Lib.hid (HBX.out.alloc HBX.out.size (.cells #[.slice A1 its1.length c1] 44))
          try have HNBF := Lib.hid (newB HBX.out 44 #[.slice A1 its1.length c1])
          try have HS1F := Lib.hid (HS1.out.below ((Below.refl _ _).alloc (Nat.le_refl _) (.cells #[.slice A1 its1.length c1] 44)))
          try replace HS1 := Lib.hid (HS1.out.below ((Below.refl _ _).alloc (Nat.le_refl _) (.cells #[.slice none 0 0] 44)))
          replace HBX := Lib.hid (HBX.out.alloc HBX.out.size (.cells #[.slice none 0 0] 44))
          refine hK.out _ _ ?_ (fun hHeld => ?_)
          · exact ⟨(HMq.out.below HBX.out HMq.out.lt).cell 0, (HYq.out.below HBX.out HYq.out.lt).cell 0, (HYq.out.below HBX.out HYq.out.lt).cell 1, (HYq.out.below HBX.out HYq.out.lt).cell 2, (HYq.out.below HBX.out HYq.out.lt).cell 3⟩
          clear hK K
          try simp only [Act.put, List.getElem_toArray, List.getElem_cons_succ, List.getElem_cons_zero, List.setIfInBounds_toArray, List.set_cons_zero, List.set_cons_succ]
          refine AnyZ.ready (rs := [3]) (by kernel_rfl) (by simp) ?_
          refine AllZ.cons rfl (fun K hK => ?_) AllZ.nil
          go_simp
          (with_reducible refine (HRP.out _ (HRq.out.below HBX.out)).mono ?_); rintro e wj ⟨A1, c1, rfl, hs1, ha1, hbj⟩
          have HS1 := Lib.hid hs1
          have HA1 := Lib.hid (chg_at ha1 HBX.out.size)
          try have HNR := Lib.hid (ne_row (row_at HRq.out ha1) HNG.out HNB.out rfl)
          replace HBX := Lib.hid (HBX.out.trans (hbj.mono HBX.out.size))
          try (replace HNB := Lib.hid (HNB.out.below hbj HNB.out.lt); first | (have n0 : wj.cell? ⟨wq.heap.size, 0, none⟩ = some (.slice none 0 0) := HNB.out.cell 0; have nf : wj.frozen? ⟨wq.heap.size, 0, none⟩ = false := HNB.out.free 0) | (have n0 : wj.cell? ⟨wi.heap.size, 0, none⟩ = some (.slice none 0 0) := HNB.out.cell 0; have nf : wj.frozen? ⟨wi.heap.size, 0, none⟩ = false := HNB.out.free 0))
          clear hs1 ha1 hbj
          refine hK.out _ _ ?_ (fun hHeld => ?_)
          · exact ⟨(HMq.out.below HBX.out HMq.out.lt).cell 0, (HYq.out.below HBX.out HYq.out.lt).cell 0, (HYq.out.below HBX.out HYq.out.lt).cell 1, (HYq.out.below HBX.out HYq.out.lt).cell 2, (HYq.out.below HBX.out HYq.out.lt).cell 3⟩
          clear hK K
          try simp only [Act.put, List.getElem_toArray, List.getElem_cons_succ, List.getElem_cons_zero, List.setIfInBounds_toArray, List.set_cons_zero, List.set_cons_succ]
          refine AnyZ.take (i := 4) (v := ?_) rfl (by kernel_rfl) (by kernel_rfl) (by kernel_rfl) (by kernel_rfl) (fun _ _ _ h => h) (Or.inl ⟨by kernel_rfl, ?_⟩) (by assumption) ?_
          rotate_left
          · intro w hSw; (try dsimp only at hSw); go_simp; try with_reducible rfl
          try simp only [Act.put, List.getElem_toArray, List.getElem_cons_succ, List.getElem_cons_zero, List.setIfInBounds_toArray, List.set_cons_zero, List.set_cons_succ]
          refine AnyZ.take (i := 5) (v := ?_) rfl (by kernel_rfl) (by kernel_rfl) (by kernel_rfl) (by kernel_rfl) (fun _ _ _ h => h) (Or.inl ⟨by kernel_rfl, ?_⟩) (by assumption) ?_
          rotate_left
          · intro w hSw; (try dsimp only at hSw); go_simp; try with_reducible rfl
          try simp only [Act.put, List.getElem_toArray, List.getElem_cons_succ, List.getElem_cons_zero, List.setIfInBounds_toArray, List.set_cons_zero, List.set_cons_succ]
          refine AnyZ.take (i := 6) (v := ?_) rfl (by kernel_rfl) (by kernel_rfl) (by kernel_rfl) (by kernel_rfl) (fun _ _ _ h => h) (Or.inl ⟨by kernel_rfl, ?_⟩) (by assumption) ?_
          rotate_left
          · intro w hSw; (try dsimp only at hSw); go_simp; try with_reducible rfl
          try simp only [Act.put, List.getElem_toArray, List.getElem_cons_succ, List.getElem_cons_zero, List.setIfInBounds_toArray, List.set_cons_zero, List.set_cons_succ]
          refine AnyZ.ready (rs := [8]) (by kernel_rfl) (by simp) ?_
          refine AllZ.cons rfl (fun K hK => ?_) AllZ.nil
          go_simp
          first
            | (replace HBX := HBXF; replace HS1 := HS1F; replace HNB := HNBF; clear HBXF HS1F HNBF)
            | (replace HBX := Lib.hid (setB HBX.out HNB.out HNG.out (.slice A1 its1.length c1)); replace HS1 := Lib.hid (set_row HS1.out HNR.out (.slice A1 its1.length c1)); replace HNB := Lib.hid (HNB.out.set_ 0 (.slice A1 its1.length c1)))
          refine hK.out _ _ ?_ (fun hHeld => ?_)
          · exact ⟨(HMq.out.below HBX.out HMq.out.lt).cell 0, (HYq.out.below HBX.out HYq.out.lt).cell 0, (HYq.out.below HBX.out HYq.out.lt).cell 1, (HYq.out.below HBX.out HYq.out.lt).cell 2, (HYq.out.below HBX.out HYq.out.lt).cell 3⟩
          clear hK K
          try simp only [Act.put, List.getElem_toArray, List.getElem_cons_succ, List.getElem_cons_zero, List.setIfInBounds_toArray, List.set_cons_zero, List.set_cons_succ]
          refine AnyZ.take (i := 9) (v := ?_) rfl (by kernel_rfl) (by kernel_rfl) (by kernel_rfl) (by kernel_rfl) (fun _ _ _ h => h) (Or.inl ⟨by kernel_rfl, ?_⟩) (by assumption) ?_
          rotate_left
          · intro w hSw; (try dsimp only at hSw); go_simp; try with_reducible rfl
          try simp only [Act.put, List.getElem_toArray, List.getElem_cons_succ, List.getElem_cons_zero, List.setIfInBounds_toArray, List.set_cons_zero, List.set_cons_succ]
          refine AnyZ.done (by kernel_rfl) ?_ _
          first
            | (obtain ⟨N, wf, HB9, HS9, HN9⟩ : ∃ N wf, Hid (wf = wj.alloc (.cells #[.slice A1 its1.length c1] 44) ∧ N = wj.heap.size) ∧ True ∧ True := ⟨_, _, Lib.hid ⟨rfl, rfl⟩, trivial, trivial⟩
               rw [← HB9.out.1, ← HB9.out.2] at HNB ⊢
               rw [← HB9.out.1] at HBX HS1)
            | (obtain ⟨N, wf, HB9, HS9, HN9⟩ : ∃ N wf, Hid (wf = wj.setCell ⟨wi.heap.size, 0, none⟩ (.slice A1 its1.length c1) ∧ N = wi.heap.size) ∧ True ∧ True := ⟨_, _, Lib.hid ⟨rfl, rfl⟩, trivial, trivial⟩
               change Hid (Blk (wj.setCell ⟨wi.heap.size, 0, none⟩ (.slice A1 its1.length c1)) wi.heap.size 44 #[.slice A1 its1.length c1]) at HNB
               rw [← HB9.out.1, ← HB9.out.2] at HNB ⊢
               rw [← HB9.out.1] at HBX HS1)
            | (obtain ⟨N, wf, HB9, HS9, HN9⟩ : ∃ N wf, Hid (wf = wj.setCell ⟨wq.heap.size, 0, none⟩ (.slice A1 its1.length c1) ∧ N = wq.heap.size) ∧ True ∧ True := ⟨_, _, Lib.hid ⟨rfl, rfl⟩, trivial, trivial⟩
               change Hid (Blk (wj.setCell ⟨wq.heap.size, 0, none⟩ (.slice A1 its1.length c1)) wq.heap.size 44 #[.slice A1 its1.length c1]) at HNB
               change Hid (Below wq.heap.size wq (wj.setCell ⟨wq.heap.size, 0, none⟩ (.slice A1 its1.length c1))) at HBX
               change Hid (SlC 4 riN (wj.setCell ⟨wq.heap.size, 0, none⟩ (.slice A1 its1.length c1)) A1 its1) at HS1
               rw [← HB9.out.1, ← HB9.out.2] at HNB ⊢
               rw [← HB9.out.1] at HBX HS1)
          clear HB9 HS9 HN9
          have HPz := Lib.hid (PlS.put (c' := c1) HPe.out (HTq.out.less (fun g h => .inl h)) HFq.out HBX.out HS1.out HA1.out HRR.out)
          have HBz : Hid (Below w.heap.size w (wf.setCell ⟨bm, 0, none⟩ (.slice A1 its1.length c1))) := Lib.hid (((HBe.out.trans (HFq.out.to_below (fun k _ h1 h => h (.inl h1)) HBe.out.size)).trans (HBX.out.mono (Nat.le_trans HBe.out.size HFq.out.size))).setCell (p := ⟨bm, 0, none⟩) HPe.out.big _)
          have m1 : wf.cell? ⟨N, 0, none⟩ = some (.slice A1 its1.length c1) := HNB.out.cell 0
          have hmf : Blk wf bm 44 #[.slice A its.length c] := HMq.out.below HBX.out HMq.out.lt
          have m2 : wf.cell? ⟨bm, 0, none⟩ = some (.slice A its.length c) := hmf.cell 0
          have m3 := hmf.free 0
          clear hmf HBX HS1 HNB HA1 HMq HRq HYq HTq HFq HPe HBe HRP HRR
          go_upto_region 15 with fail
          obtain ⟨wz, hwz⟩ : ∃ z, z = wf.setCell ⟨bm, 0, none⟩ (.slice A1 its1.length c1) := ⟨_, rfl⟩
          rw [← hwz] at HPz HBz ⊢
          clear hwz m1 m2 m3
          have mz : wz.cell? ⟨bm, 0, none⟩ = some (.slice A1 its1.length c1) := HPz.out.box.cell 0
          by_cases h100 : k < 100
          · have t100 : decide ((k : Int) < 100) = true := decide_eq_true (by omega)
            have HAL := Lib.hid (alike13_any (c := c1) HPz.out.tx.tab HPz.out.row HPz.out.rel)
            clear h100
            go_wp2_with fail
            (with_reducible refine HAL.out.mono ?_); rintro e wy ⟨rfl, hby⟩
            have HPy := Lib.hid (HPz.out.below hby)
            have HBy : Hid (Below w.heap.size w wy) := Lib.hid (HBz.out.trans (hby.mono HBz.out.size))
            clear hby mz HPz HBz
            go_wp2_with fail
            go_roundw
            case rel => exact ⟨k + 1, t1, its1, A1, c1, HLT.out, by go_num, HPy.out, HBy.out⟩
            case measure => simp [RowKit.intOf]; have := HLT.out; omega
          · have t100 : decide ((k : Int) < 100) = false := decide_eq_false (by omega)
            clear h100
            go_wp2_with fail
            go_roundw
            case rel => exact ⟨k + 1, t1, its1, A1, c1, HLT.out, by go_num, HPz.out, HBz.out⟩
            case measure => simp [RowKit.intOf]; have := HLT.out; omega
      · go_simp
        have HNG := Lib.hid HBX.out.size
        have HNB := Lib.hid (newB HBX.out 44 #[.slice none 0 0])
        try have HBXF := Lib.hid (HBX.out.alloc HBX.out.size (.cells #[.slice A1 its1.length c1] 44))
        try have HNBF := Lib.hid (newB HBX.out 44 #[.slice A1 its1.length c1])
        try have HS1F := Lib.hid (HS1.out.below ((Below.refl _ _).alloc (Nat.le_refl _) (.cells #[.slice A1 its1.length c1] 44)))
        try replace HS1 := Lib.hid (HS1.out.below ((Below.refl _ _).alloc (Nat.le_refl _) (.cells #[.slice none 0 0] 44)))
        replace HBX := Lib.hid (HBX.out.alloc HBX.out.size (.cells #[.slice none 0 0] 44))
        refine hK.out _ _ ?_ (fun hHeld => ?_)
        · exact ⟨(HMq.out.below HBX.out HMq.out.lt).cell 0, (HYq.out.below HBX.out HYq.out.lt).cell 0, (HYq.out.below HBX.out HYq.out.lt).cell 1, (HYq.out.below HBX.out HYq.out.lt).cell 2, (HYq.out.below HBX.out HYq.out.lt).cell 3⟩
        clear hK K
        try simp only [Act.put, List.getElem_toArray, List.getElem_cons_succ, List.getElem_cons_zero, List.setIfInBounds_toArray, List.set_cons_zero, List.set_cons_succ]
        refine AnyZ.ready (rs := [2]) (by kernel_rfl) (by simp) ?_
        refine AllZ.cons rfl (fun K hK => ?_) AllZ.nil
        go_simp
        (with_reducible refine (item_any _ _ _ _ _).mono ?_); rintro e wi ⟨rfl, hbi⟩
        replace HBX := Lib.hid (HBX.out.trans (hbi.mono HBX.out.size))
        try replace HNB := Lib.hid (HNB.out.below hbi HNB.out.lt)
        clear hbi
        refine hK.out _ _ ?_ (fun hHeld => ?_)
        · exact ⟨(HMq.out.below HBX.out HMq.out.lt).cell 0, (HYq.out.below HBX.out HYq.out.lt).cell 0, (HYq.out.below HBX.out HYq.out.lt).cell 1, (HYq.out.below HBX.out HYq.out.lt).cell 2, (HYq.out.below HBX.out HYq.out.lt).cell 3⟩
        clear hK K
        try simp only [Act.put, List.getElem_toArray, List.getElem_cons_succ, List.getElem_cons_zero, List.setIfInBounds_toArray, List.set_cons_zero, List.set_cons_succ]
        refine AnyZ.ready (rs := [3]) (by kernel_rfl) (by simp) ?_
        refine AllZ.cons rfl (fun K hK => ?_) AllZ.nil
        go_simp
        (with_reducible refine (HRP.out _ (HRq.out.below HBX.out)).mono ?_); rintro e wj ⟨A1, c1, rfl, hs1, ha1, hbj⟩
        have HS1 := Lib.hid hs1
        have HA1 := Lib.hid (chg_at ha1 HBX.out.size)
        try have HNR := Lib.hid (ne_row (row_at HRq.out ha1) HNG.out HNB.out rfl)
        replace HBX := Lib.hid (HBX.out.trans (hbj.mono HBX.out.size))
        try (replace HNB := Lib.hid (HNB.out.below hbj HNB.out.lt); first | (have n0 : wj.cell? ⟨wq.heap.size, 0, none⟩ = some (.slice none 0 0) := HNB.out.cell 0; have nf : wj.frozen? ⟨wq.heap.size, 0, none⟩ = false := HNB.out.free 0) | (have n0 : wj.cell? ⟨wi.heap.size, 0, none⟩ = some (.slice none 0 0) := HNB.out.cell 0; have nf : wj.frozen? ⟨wi.heap.size, 0, none⟩ = false := HNB.out.free 0))
        clear hs1 ha1 hbj
        refine hK.out _ _ ?_ (fun hHeld => ?_)
        · exact ⟨(HMq.out.below HBX.out HMq.out.lt).cell 0, (HYq.out.below HBX.out HYq.out.lt).cell 0, (HYq.out.below HBX.out HYq.out.lt).cell 1, (HYq.out.below HBX.out HYq.out.lt).cell 2, (HYq.out.below HBX.out HYq.out.lt).cell 3⟩
        clear hK K
        try simp only [Act.put, List.getElem_toArray, List.getElem_cons_succ, List.getElem_cons_zero, List.setIfInBounds_toArray, List.set_cons_zero, List.set_cons_succ]
        refine AnyZ.take (i := 4) (v := ?_) rfl (by kernel_rfl) (by kernel_rfl) (by kernel_rfl) (by kernel_rfl) (fun _ _ _ h => h) (Or.inl ⟨by kernel_rfl, ?_⟩) (by assumption) ?_
        rotate_left
        · intro w hSw; (try dsimp only at hSw); go_simp; try with_reducible rfl
        try simp only [Act.put, List.getElem_toArray, List.getElem_cons_succ, List.getElem_cons_zero, List.setIfInBounds_toArray, List.set_cons_zero, List.set_cons_succ]
        refine AnyZ.take (i := 5) (v := ?_) rfl (by kernel_rfl) (by kernel_rfl) (by kernel_rfl) (by kernel_rfl) (fun _ _ _ h => h) (Or.inl ⟨by kernel_rfl, ?_⟩) (by assumption) ?_
        rotate_left
        · intro w hSw; (try dsimp only at hSw); go_simp; try with_reducible rfl
        try simp only [Act.put, List.getElem_toArray, List.getElem_cons_succ, List.getElem_cons_zero, List.setIfInBounds_toArray, List.set_cons_zero, List.set_cons_succ]
        refine AnyZ.take (i := 6) (v := ?_) rfl (by kernel_rfl) (by kernel_rfl) (by kernel_rfl) (by kernel_rfl) (fun _ _ _ h => h) (Or.inl ⟨by kernel_rfl, ?_⟩) (by assumption) ?_
        rotate_left
        · intro w hSw; (try dsimp only at hSw); go_simp; try with_reducible rfl
        try simp only [Act.put, List.getElem_toArray, List.getElem_cons_succ, List.getElem_cons_zero, List.setIfInBounds_toArray, List.set_cons_zero, List.set_cons_succ]
        refine AnyZ.ready (rs := [8]) (by kernel_rfl) (by simp) ?_
        refine AllZ.cons rfl (fun K hK => ?_) AllZ.nil
        go_simp
        first
          | (replace HBX := HBXF; replace HS1 := HS1F; replace HNB := HNBF; clear HBXF HS1F HNBF)
          | (replace HBX := Lib.hid (setB HBX.out HNB.out HNG.out (.slice A1 its1.length c1)); replace HS1 := Lib.hid (set_row HS1.out HNR.out (.slice A1 its1.length c1)); replace HNB := Lib.hid (HNB.out.set_ 0 (.slice A1 its1.length c1)))
        refine hK.out _ _ ?_ (fun hHeld => ?_)
        · exact ⟨(HMq.out.below HBX.out HMq.out.lt).cell 0, (HYq.out.below HBX.out HYq.out.lt).cell 0, (HYq.out.below HBX.out HYq.out.lt).cell 1, (HYq.out.below HBX.out HYq.out.lt).cell 2, (HYq.out.below HBX.out HYq.out.lt).cell 3⟩
        clear hK K
        try simp only [Act.put, List.getElem_toArray, List.getElem_cons_succ, List.getElem_cons_zero, List.setIfInBounds_toArray, List.set_cons_zero, List.set_cons_succ]
        refine AnyZ.take (i := 9) (v := ?_) rfl (by kernel_rfl) (by kernel_rfl) (by kernel_rfl) (by kernel_rfl) (fun _ _ _ h => h) (Or.inl ⟨by kernel_rfl, ?_⟩) (by assumption) ?_
        rotate_left
        · intro w hSw; (try dsimp only at hSw); go_simp; try with_reducible rfl
        try simp only [Act.put, List.getElem_toArray, List.getElem_cons_succ, List.getElem_cons_zero, List.setIfInBounds_toArray, List.set_cons_zero, List.set_cons_succ]
        refine AnyZ.done (by kernel_rfl) ?_ _
        first
          | (obtain ⟨N, wf, HB9, HS9, HN9⟩ : ∃ N wf, Hid (wf = wj.alloc (.cells #[.slice A1 its1.length c1] 44) ∧ N = wj.heap.size) ∧ True ∧ True := ⟨_, _, Lib.hid ⟨rfl, rfl⟩, trivial, trivial⟩
             rw [← HB9.out.1, ← HB9.out.2] at HNB ⊢
             rw [← HB9.out.1] at HBX HS1)
          | (obtain ⟨N, wf, HB9, HS9, HN9⟩ : ∃ N wf, Hid (wf = wj.setCell ⟨wi.heap.size, 0, none⟩ (.slice A1 its1.length c1) ∧ N = wi.heap.size) ∧ True ∧ True := ⟨_, _, Lib.hid ⟨rfl, rfl⟩, trivial, trivial⟩
             change Hid (Blk (wj.setCell ⟨wi.heap.size, 0, none⟩ (.slice A1 its1.length c1)) wi.heap.size 44 #[.slice A1 its1.length c1]) at HNB
             rw [← HB9.out.1, ← HB9.out.2] at HNB ⊢
             rw [← HB9.out.1] at HBX HS1)
          | (obtain ⟨N, wf, HB9, HS9, HN9⟩ : ∃ N wf, Hid (wf = wj.setCell ⟨wq.heap.size, 0, none⟩ (.slice A1 its1.length c1) ∧ N = wq.heap.size) ∧ True ∧ True := ⟨_, _, Lib.hid ⟨rfl, rfl⟩, trivial, trivial⟩
             change Hid (Blk (wj.setCell ⟨wq.heap.size, 0, none⟩ (.slice A1 its1.length c1)) wq.heap.size 44 #[.slice A1 its1.length c1]) at HNB
             change Hid (Below wq.heap.size wq (wj.setCell ⟨wq.heap.size, 0, none⟩ (.slice A1 its1.length c1))) at HBX
             change Hid (SlC 4 riN (wj.setCell ⟨wq.heap.size, 0, none⟩ (.slice A1 its1.length c1)) A1 its1) at HS1
             rw [← HB9.out.1, ← HB9.out.2] at HNB ⊢
             rw [← HB9.out.1] at HBX HS1)
        clear HB9 HS9 HN9
        have HPz := Lib.hid (PlS.put (c' := c1) HPe.out (HTq.out.less (fun g h => .inl h)) HFq.out HBX.out HS1.out HA1.out HRR.out)
        have HBz : Hid (Below w.heap.size w (wf.setCell ⟨bm, 0, none⟩ (.slice A1 its1.length c1))) := Lib.hid (((HBe.out.trans (HFq.out.to_below (fun k _ h1 h => h (.inl h1)) HBe.out.size)).trans (HBX.out.mono (Nat.le_trans HBe.out.size HFq.out.size))).setCell (p := ⟨bm, 0, none⟩) HPe.out.big _)
        have m1 : wf.cell? ⟨N, 0, none⟩ = some (.slice A1 its1.length c1) := HNB.out.cell 0
        have hmf : Blk wf bm 44 #[.slice A its.length c] := HMq.out.below HBX.out HMq.out.lt
        have m2 : wf.cell? ⟨bm, 0, none⟩ = some (.slice A its.length c) := hmf.cell 0
        have m3 := hmf.free 0
        clear hmf HBX HS1 HNB HA1 HMq HRq HYq HTq HFq HPe HBe HRP HRR
        go_upto_region 15 with fail
        obtain ⟨wz, hwz⟩ : ∃ z, z = wf.setCell ⟨bm, 0, none⟩ (.slice A1 its1.length c1) := ⟨_, rfl⟩
        rw [← hwz] at HPz HBz ⊢
        clear hwz m1 m2 m3
        have mz : wz.cell? ⟨bm, 0, none⟩ = some (.slice A1 its1.length c1) := HPz.out.box.cell 0
        by_cases h100 : k < 100
        · have t100 : decide ((k : Int) < 100) = true := decide_eq_true (by omega)
          have HAL := Lib.hid (alike13_any (c := c1) HPz.out.tx.tab HPz.out.row HPz.out.rel)
          clear h100
          go_wp2_with fail
          (with_reducible refine HAL.out.mono ?_); rintro e wy ⟨rfl, hby⟩
          have HPy := Lib.hid (HPz.out.below hby)
          have HBy : Hid (Below w.heap.size w wy) := Lib.hid (HBz.out.trans (hby.mono HBz.out.size))
          clear hby mz HPz HBz
          go_wp2_with fail
          go_roundw
          case rel => exact ⟨k + 1, t1, its1, A1, c1, HLT.out, by go_num, HPy.out, HBy.out⟩
          case measure => simp [RowKit.intOf]; have := HLT.out; omega
        · have t100 : decide ((k : Int) < 100) = false := decide_eq_false (by omega)
          clear h100
          go_wp2_with fail
          go_roundw
          case rel => exact ⟨k + 1, t1, its1, A1, c1, HLT.out, by go_num, HPz.out, HBz.out⟩
          case measure => simp [RowKit.intOf]; have := HLT.out; omega
    · have hlk := Look_any HPL.out.tx.tab aid aseq HAID.out
      have hlk2 : ∀ (W : World) (_ : SlC 4 riN W A its), Calls Try.prog 16 #[.agg #[.slice A its.length c], .int .i64 aid, .int .i64 aseq] W (RLkP t aid aseq W) := fun W h => RLook_any h HPL.out.rel aid aseq
      unfold LkP at hlk
      unfold RLkP at hlk2
      obtain ⟨la, hla⟩ : ∃ z, z = (lookI t aid aseq).1 := ⟨_, rfl⟩
      obtain ⟨lb, hlb⟩ : ∃ z, z = (lookI t aid aseq).2 := ⟨_, rfl⟩
      obtain ⟨lc, hlc⟩ : ∃ z, z = lookC t aid aseq := ⟨_, rfl⟩
      rw [← hla, ← hlb, ← hlc] at hlk
      simp only [← hla, ← hlb, ← hlc] at hlk2
      have HLK := Lib.hid hlk
      have HLK2 := Lib.hid hlk2
      clear hlk hlk2 hla hlb hlc
      go_wp2_with fail
      (with_reducible refine HLK.out.mono ?_); rintro e wb ⟨rfl, hbb⟩
      go_upto_region 19 with fail
      obtain ⟨wc, hwc⟩ : ∃ z, z = wb.alloc (.cells #[.int .i64 la, .int .i64 lb] 25) := ⟨_, rfl⟩
      have HPc := Lib.hid (HPL.out.below (show Below wo.heap.size wo wc by rw [hwc]; exact hbb.alloc hbb.size _))
      have HBc : Hid (Below w.heap.size w wc) := Lib.hid (by rw [hwc]; exact (HB.out.trans (hbb.mono HB.out.size)).alloc (by have := HB.out.size; have := hbb.size; omega) _)
      rw [← hwc]
      clear hwc hbb HLK HPL HB
      have m0 : wc.cell? ⟨bm, 0, none⟩ = some (.slice A its.length c) := HPc.out.box.cell 0
      go_wp2_with fail
      (with_reducible refine (HLK2.out _ HPc.out.row).mono ?_); rintro e wd ⟨ia, ib, rfl, hbd⟩
      go_upto_region 20 with fail
      obtain ⟨we, hwe⟩ : ∃ z, z = wd.alloc (.cells #[.int .i64 ia, .int .i64 ib, .int .i64 la, .int .i64 lb] 46) := ⟨_, rfl⟩
      have HPe := Lib.hid (HPc.out.below (show Below wc.heap.size wc we by rw [hwe]; exact hbd.alloc hbd.size _))
      have HBe : Hid (Below w.heap.size w we) := Lib.hid (by rw [hwe]; exact (HBc.out.trans (hbd.mono HBc.out.size)).alloc (by have := HBc.out.size; have := hbd.size; omega) _)
      rw [← hwe]
      clear hwe hbd HLK2 HPc HBc m0
      have HK3 : Hid (∀ W, TabAt 0 W p t → Calls Try.prog 14 #[.pointer (some ⟨p, 0, none⟩), .int .i64 aid] W (HiP (highT t aid) W)) := Lib.hid fun W h => Highest_any h aid HAID.out
      have HK4 : Hid (∀ W, SlC 4 riN W A its → Calls Try.prog 20 #[.agg #[.slice A its.length c], .int .i64 aid] W (IntB (highT t aid) W)) := Lib.hid fun W h => by
        have := RHighest_any (c := c) h aid
        rw [HPe.out.rel.high] at this
        exact this
      unfold HiP at HK3
      unfold IntB at HK4
      obtain ⟨hi, hhi⟩ : ∃ z, z = highT t aid := ⟨_, rfl⟩
      rw [← hhi] at HK3 HK4
      have HK5 : Hid (∀ W, TabAt 0 W p t → Calls Try.prog 22 #[.pointer (some ⟨p, 0, none⟩)] W (BytP (numsB (tbNs t)) W)) := Lib.hid fun W h => Bytes_any h
      have HK6 : Hid (∀ W, SlC 4 riN W A its → Calls Try.prog 23 #[.agg #[.slice A its.length c]] W (BytP (numsB (tbNs t)) W)) := Lib.hid fun W h => RBytes13_any h HPe.out.rel
      unfold BytP at HK5 HK6
      obtain ⟨bs, hbs⟩ : ∃ z, z = numsB (tbNs t) := ⟨_, rfl⟩
      rw [← hbs] at HK5 HK6
      clear hhi hbs
      have HX : Hid (Below we.heap.size we we.drew) := Lib.hid (Below.refl _ _).drew
      refine AnyZ.start (S := (fun W => W.cell? ⟨bm, 0, none⟩ = some (.slice A its.length c))) (z := 1020) (by kernel_rfl) ?_ (fun hHeld => ?_)
      · exact HPe.out.box.cell 0
      refine AnyZ.take (i := 0) (v := ?_) rfl (by kernel_rfl) (by kernel_rfl) (by kernel_rfl) (by kernel_rfl) (fun _ _ _ h => h) (Or.inl ⟨by kernel_rfl, ?_⟩) (by assumption) ?_
      rotate_left
      · intro w hSw; (try dsimp only at hSw); go_simp; try with_reducible rfl
      try simp only [Act.put, List.getElem_toArray, List.getElem_cons_succ, List.getElem_cons_zero, List.setIfInBounds_toArray, List.set_cons_zero, List.set_cons_succ]
      refine AnyZ.take (i := 1) (v := ?_) rfl (by kernel_rfl) (by kernel_rfl) (by kernel_rfl) (by kernel_rfl) (fun _ _ _ h => h) (Or.inl ⟨by kernel_rfl, ?_⟩) (by assumption) ?_
      rotate_left
      · intro w hSw; (try dsimp only at hSw); go_simp; try with_reducible rfl
      try simp only [Act.put, List.getElem_toArray, List.getElem_cons_succ, List.getElem_cons_zero, List.setIfInBounds_toArray, List.set_cons_zero, List.set_cons_succ]
      refine AnyZ.take (i := 2) (v := ?_) rfl (by kernel_rfl) (by kernel_rfl) (by kernel_rfl) (by kernel_rfl) (fun _ _ _ h => h) (Or.inl ⟨by kernel_rfl, ?_⟩) (by assumption) ?_
      rotate_left
      · intro w hSw; (try dsimp only at hSw); go_simp; try with_reducible rfl
      try simp only [Act.put, List.getElem_toArray, List.getElem_cons_succ, List.getElem_cons_zero, List.setIfInBounds_toArray, List.set_cons_zero, List.set_cons_succ]
      refine AnyZ.take (i := 3) (v := ?_) rfl (by kernel_rfl) (by kernel_rfl) (by kernel_rfl) (by kernel_rfl) (fun _ _ _ h => h) (Or.inl ⟨by kernel_rfl, ?_⟩) (by assumption) ?_
      rotate_left
      · intro w hSw; (try dsimp only at hSw); go_simp; try with_reducible rfl
      try simp only [Act.put, List.getElem_toArray, List.getElem_cons_succ, List.getElem_cons_zero, List.setIfInBounds_toArray, List.set_cons_zero, List.set_cons_succ]
      refine AnyZ.take (i := 4) (v := ?_) rfl (by kernel_rfl) (by kernel_rfl) (by kernel_rfl) (by kernel_rfl) (fun _ _ _ h => h) (Or.inl ⟨by kernel_rfl, ?_⟩) (by assumption) ?_
      rotate_left
      · intro w hSw; (try dsimp only at hSw); go_simp; try with_reducible rfl
      try simp only [Act.put, List.getElem_toArray, List.getElem_cons_succ, List.getElem_cons_zero, List.setIfInBounds_toArray, List.set_cons_zero, List.set_cons_succ]
      refine AnyZ.take (i := 5) (v := ?_) rfl (by kernel_rfl) (by kernel_rfl) (by kernel_rfl) (by kernel_rfl) (fun _ _ _ h => h) (Or.inl ⟨by kernel_rfl, ?_⟩) (by assumption) ?_
      rotate_left
      · intro w hSw; (try dsimp only at hSw); go_simp; try with_reducible rfl
      try simp only [Act.put, List.getElem_toArray, List.getElem_cons_succ, List.getElem_cons_zero, List.setIfInBounds_toArray, List.set_cons_zero, List.set_cons_succ]
      refine AnyZ.take (i := 7) (v := ?_) rfl (by kernel_rfl) (by kernel_rfl) (by kernel_rfl) (by kernel_rfl) (fun _ _ _ h => h) (Or.inl ⟨by kernel_rfl, ?_⟩) (by assumption) ?_
      rotate_left
      · intro w hSw; (try dsimp only at hSw); go_simp; try with_reducible rfl
      try simp only [Act.put, List.getElem_toArray, List.getElem_cons_succ, List.getElem_cons_zero, List.setIfInBounds_toArray, List.set_cons_zero, List.set_cons_succ]
      refine AnyZ.take (i := 8) (v := ?_) rfl (by kernel_rfl) (by kernel_rfl) (by kernel_rfl) (by kernel_rfl) (fun _ _ _ h => h) (Or.inl ⟨by kernel_rfl, ?_⟩) (by assumption) ?_
      rotate_left
      · intro w hSw; (try dsimp only at hSw); go_simp; try with_reducible rfl
      try simp only [Act.put, List.getElem_toArray, List.getElem_cons_succ, List.getElem_cons_zero, List.setIfInBounds_toArray, List.set_cons_zero, List.set_cons_succ]
      refine AnyZ.ready (rs := [6]) (by kernel_rfl) (by simp) ?_
      refine AllZ.cons rfl (fun K hK => ?_) AllZ.nil
      go_simp
      (with_reducible refine (HK3.out _ (HPe.out.tx.tab.below HX.out)).mono ?_); rintro e wf ⟨rfl, rfl⟩
      refine hK.out _ _ ?_ (fun hHeld => ?_)
      · exact (HPe.out.box.below HX.out HPe.out.box.lt).cell 0
      clear hK K
      try simp only [Act.put, List.getElem_toArray, List.getElem_cons_succ, List.getElem_cons_zero, List.setIfInBounds_toArray, List.set_cons_zero, List.set_cons_succ]
      refine AnyZ.ready (rs := [9]) (by kernel_rfl) (by simp) ?_
      refine AllZ.cons rfl (fun K hK => ?_) AllZ.nil
      go_simp
      (with_reducible refine (HK4.out _ (HPe.out.row.below HX.out)).mono ?_); rintro e wf ⟨rfl, hbf⟩
      replace HX := Lib.hid (HX.out.trans (hbf.mono HX.out.size))
      clear hbf
      refine hK.out _ _ ?_ (fun hHeld => ?_)
      · exact (HPe.out.box.below HX.out HPe.out.box.lt).cell 0
      clear hK K
      try simp only [Act.put, List.getElem_toArray, List.getElem_cons_succ, List.getElem_cons_zero, List.setIfInBounds_toArray, List.set_cons_zero, List.set_cons_succ]
      refine AnyZ.take (i := 10) (v := ?_) rfl (by kernel_rfl) (by kernel_rfl) (by kernel_rfl) (by kernel_rfl) (fun _ _ _ h => h) (Or.inl ⟨by kernel_rfl, ?_⟩) (by assumption) ?_
      rotate_left
      · intro w hSw; (try dsimp only at hSw); go_simp; try with_reducible rfl
      try simp only [Act.put, List.getElem_toArray, List.getElem_cons_succ, List.getElem_cons_zero, List.setIfInBounds_toArray, List.set_cons_zero, List.set_cons_succ]
      refine AnyZ.take (i := 11) (v := ?_) rfl (by kernel_rfl) (by kernel_rfl) (by kernel_rfl) (by kernel_rfl) (fun _ _ _ h => h) (Or.inl ⟨by kernel_rfl, ?_⟩) (by assumption) ?_
      rotate_left
      · intro w hSw; (try dsimp only at hSw); go_simp; try with_reducible rfl
      try simp only [Act.put, List.getElem_toArray, List.getElem_cons_succ, List.getElem_cons_zero, List.setIfInBounds_toArray, List.set_cons_zero, List.set_cons_succ]
      refine AnyZ.take (i := 12) (v := ?_) rfl (by kernel_rfl) (by kernel_rfl) (by kernel_rfl) (by kernel_rfl) (fun _ _ _ h => h) (Or.inl ⟨by kernel_rfl, ?_⟩) (by assumption) ?_
      rotate_left
      · intro w hSw; (try dsimp only at hSw); go_simp; try with_reducible rfl
      try simp only [Act.put, List.getElem_toArray, List.getElem_cons_succ, List.getElem_cons_zero, List.setIfInBounds_toArray, List.set_cons_zero, List.set_cons_succ]
      refine AnyZ.take (i := 13) (v := ?_) rfl (by kernel_rfl) (by kernel_rfl) (by kernel_rfl) (by kernel_rfl) (fun _ _ _ h => h) (Or.inl ⟨by kernel_rfl, ?_⟩) (by assumption) ?_
      rotate_left
      · intro w hSw; (try dsimp only at hSw); go_simp; try with_reducible rfl
      try simp only [Act.put, List.getElem_toArray, List.getElem_cons_succ, List.getElem_cons_zero, List.setIfInBounds_toArray, List.set_cons_zero, List.set_cons_succ]
      refine AnyZ.take (i := 15) (v := ?_) rfl (by kernel_rfl) (by kernel_rfl) (by kernel_rfl) (by kernel_rfl) (fun _ _ _ h => h) (Or.inl ⟨by kernel_rfl, ?_⟩) (by assumption) ?_
      rotate_left
      · intro w hSw; (try dsimp only at hSw); go_simp; try with_reducible rfl
      try simp only [Act.put, List.getElem_toArray, List.getElem_cons_succ, List.getElem_cons_zero, List.setIfInBounds_toArray, List.set_cons_zero, List.set_cons_succ]
      refine AnyZ.ready (rs := [14]) (by kernel_rfl) (by simp) ?_
      refine AllZ.cons rfl (fun K hK => ?_) AllZ.nil
      go_simp
      (with_reducible refine (HK5.out _ (HPe.out.tx.tab.below HX.out)).mono ?_); rintro e wg ⟨A7, c7, rfl, ho7, hbg⟩
      have HO7 := Lib.hid ho7
      replace HX := Lib.hid (HX.out.trans (hbg.mono HX.out.size))
      clear ho7 hbg
      refine hK.out _ _ ?_ (fun hHeld => ?_)
      · exact (HPe.out.box.below HX.out HPe.out.box.lt).cell 0
      clear hK K
      try simp only [Act.put, List.getElem_toArray, List.getElem_cons_succ, List.getElem_cons_zero, List.setIfInBounds_toArray, List.set_cons_zero, List.set_cons_succ]
      refine AnyZ.ready (rs := [16]) (by kernel_rfl) (by simp) ?_
      refine AllZ.cons rfl (fun K hK => ?_) AllZ.nil
      go_simp
      (with_reducible refine (HK6.out _ (HPe.out.row.below HX.out)).mono ?_); rintro e wh ⟨A8, c8, rfl, ho8, hbh⟩
      have HS7 : Hid (Sl fB wh A7 bs) := Lib.hid (HO7.out.sl.2.below hbh)
      have HS8 : Hid (Sl fB wh A8 bs) := Lib.hid ho8.sl.2
      have HSB := Lib.hid (SameBytes_any A7 A8 c7 c8 bs bs wh HS7.out HS8.out)
      rw [decide_eq_true rfl] at HSB
      replace HX := Lib.hid (HX.out.trans (hbh.mono HX.out.size))
      clear ho8 hbh
      refine hK.out _ _ ?_ (fun hHeld => ?_)
      · exact (HPe.out.box.below HX.out HPe.out.box.lt).cell 0
      clear hK K
      try simp only [Act.put, List.getElem_toArray, List.getElem_cons_succ, List.getElem_cons_zero, List.setIfInBounds_toArray, List.set_cons_zero, List.set_cons_succ]
      refine AnyZ.ready (rs := [17]) (by kernel_rfl) (by simp) ?_
      refine AllZ.cons rfl (fun K hK => ?_) AllZ.nil
      go_simp
      (with_reducible refine HSB.out.mono ?_); rintro e wi ⟨rfl, n9, rfl⟩
      replace HX := Lib.hid (below_drewN HX.out n9)
      refine hK.out _ _ ?_ (fun hHeld => ?_)
      · exact (HPe.out.box.below HX.out HPe.out.box.lt).cell 0
      clear hK K
      try simp only [Act.put, List.getElem_toArray, List.getElem_cons_succ, List.getElem_cons_zero, List.setIfInBounds_toArray, List.set_cons_zero, List.set_cons_succ]
      refine AnyZ.take (i := 18) (v := ?_) rfl (by kernel_rfl) (by kernel_rfl) (by kernel_rfl) (by kernel_rfl) (fun _ _ _ h => h) (Or.inl ⟨by kernel_rfl, ?_⟩) (by assumption) ?_
      rotate_left
      · intro w hSw; (try dsimp only at hSw); go_simp; try with_reducible rfl
      try simp only [Act.put, List.getElem_toArray, List.getElem_cons_succ, List.getElem_cons_zero, List.setIfInBounds_toArray, List.set_cons_zero, List.set_cons_succ]
      refine AnyZ.take (i := 19) (v := ?_) rfl (by kernel_rfl) (by kernel_rfl) (by kernel_rfl) (by kernel_rfl) (fun _ _ _ h => h) (Or.inl ⟨by kernel_rfl, ?_⟩) (by assumption) ?_
      rotate_left
      · intro w hSw; (try dsimp only at hSw); go_simp; try with_reducible rfl
      try simp only [Act.put, List.getElem_toArray, List.getElem_cons_succ, List.getElem_cons_zero, List.setIfInBounds_toArray, List.set_cons_zero, List.set_cons_succ]
      refine AnyZ.done (by kernel_rfl) ?_ _
      go_wp2_with fail
      go_ret
      exact ⟨rfl, HBe.out.trans (HX.out.mono HBe.out.size)⟩
end Go.Proofs.Ytakebmbdcjbbgaa
