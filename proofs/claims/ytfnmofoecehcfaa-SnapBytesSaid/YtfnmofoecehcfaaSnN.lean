/- Layer 8: the document's Read of a snapshot (printed by gen_rr.py). -/
import Derived.Test.YtfnmofoecehcfaaSnM
import Derived.Test.YtfnmofoecehcfaaGn
import Derived.Test.YtfnmofoecehcfaaUnfR
namespace Go.Proofs.Ytfnmofoecehcfaa
open Go Go.RowKit Go.Maps Go.Lib Mem Pk Cf

theorem i64T : SliceT Try.prog 72 2 (.int .i64 0) 8 := sliceT_mk Try.underlying72 rfl (by kernel_rfl)
/-- what the document's Read leaves -/
def RRPost (res : Option SnT) (w : World) (e : Ending) (w' : World) : Prop :=
  Below w.heap.size w w' ∧ (res = none → e = .returned (.tuple #[.agg zeroSn, .bool false])) ∧
  ∀ s, res = some s → ∃ A B D a b d, e = .returned (.tuple #[.agg #[.int .i64 s.x, .int .i64 s.t, .slice A s.vs.length a, .slice B s.ls.length b, .slice D s.ds.length d], .bool true]) ∧ SnIn w' A s.vs B s.ls D s.ds ∧ s.ds.length ≤ d
theorem RRPost.no {res : Option SnT} {w w' : World} {e : Ending} (h : res = none) (hb : Below w.heap.size w w') (he : e = .returned (.tuple #[.agg zeroSn, .bool false])) : RRPost res w e w' :=
  ⟨hb, fun _ => he, fun s hs => by rw [h] at hs; cases hs⟩
/-- two rows in a snapshot's block, the numbers beside them -/
structure RSt (w1 : World) (sb : Nat) (nv : Value) (ns : List Int) (x t : Int) (i : Nat) (xs ys : List Int) (xv yv : Value) (W : World) : Prop where
  blk : Blk W sb 33 (five x t i xv yv)
  own : Mem.Own fI (sb + 1) 3 W xv xs
  oth : Mem.Own fI (sb + 1) 3 W yv ys
  apart : Apart xv yv
  nums : Mem.Own fI w1.heap.size 2 W nv ns
  bel : Below w1.heap.size w1 W
theorem RSt.swap {w1 : World} {sb : Nat} {nv : Value} {ns : List Int} {x t : Int} {xs ys : List Int} {xv yv : Value} {W : World} (h : RSt w1 sb nv ns x t 0 xs ys xv yv W) : RSt w1 sb nv ns x t 1 ys xs yv xv W :=
  ⟨h.blk, h.oth, h.own, h.apart.symm, h.nums, h.bel⟩
theorem RSt.b7 {w1 : World} {sb : Nat} {nv : Value} {ns : List Int} {x t : Int} {i : Nat} {xs ys : List Int} {xv yv : Value} {W W' : World} {u : Int} (h : RSt w1 sb nv ns x t i xs ys xv yv W) (hg : (W.alloc (.cells #[fI u] 3)).grownBy W' xv.ownBlock) : Below (sb + 1) W W' :=
  ((Below.refl _ _).alloc h.blk.lt _).trans ((h.own.alloc _).below_ (by rw [World.size_alloc]; have := h.blk.lt; omega) hg)
theorem RSt.mid {w1 : World} {sb : Nat} {nv : Value} {ns : List Int} {x t : Int} {i : Nat} {xs ys : List Int} {xv yv : Value} {W W' : World} {u : Int} (h : RSt w1 sb nv ns x t i xs ys xv yv W) (hi : i < 2)
    (hg : (W.alloc (.cells #[fI u] 3)).grownBy W' xv.ownBlock) : W'.cell? ⟨sb, i + 2, none⟩ = some xv ∧ W'.frozen? ⟨sb, i + 2, none⟩ = false := by
  have hblk := h.blk.below (h.b7 hg) (Nat.lt_succ_self _)
  exact ⟨five_cell hi hblk, hblk.free (i + 2)⟩
theorem RSt.put {w1 : World} {sb : Nat} {nv : Value} {ns : List Int} {x t : Int} {i : Nat} {xs ys zs : List Int} {xv yv v' : Value} {W W' : World} {u : Int} (hz : zs = xs ++ [u]) (h : RSt w1 sb nv ns x t i xs ys xv yv W) (hi : i < 2) (hsb : w1.heap.size ≤ sb)
    (ho : Mem.Own fI (sb + 1) 3 W' v' (xs ++ [u])) (hg : (W.alloc (.cells #[fI u] 3)).grownBy W' xv.ownBlock) (hat : v'.ownBlock = xv.ownBlock ∨ v'.ownBlock = some (W.heap.size + 1)) :
    RSt w1 sb nv ns x t i zs ys v' yv (W'.setCell ⟨sb, i + 2, none⟩ v') := by
  subst hz
  have hb := h.b7 hg
  have hblk := h.blk.below hb (Nat.lt_succ_self _)
  have hset : Frm (fun g => g = sb) W' (W'.setCell ⟨sb, i + 2, none⟩ v') := (Frm.refl (fun g => g = sb) W').setCell (p := ⟨sb, i + 2, none⟩) (fun _ => rfl) _
  refine ⟨five_set hi hblk v', ho.frm hset (fun g h1 h2 => by omega), ((h.oth.alloc _).other h.apart.symm hg).frm hset (fun g h1 h2 => by omega), h.apart.grown h.oth hat, ?_, ?_⟩
  · exact own_frmT (Mem.Own.apartT (h.nums.alloc _) (h.own.alloc _) (by decide) hg) hblk (by decide) hset
  · exact (h.bel.trans (hb.mono (by omega))).setCell (p := ⟨sb, i + 2, none⟩) hsb _
theorem step_append1g {P : Program} {α : Type} {f : α → Value} {W : World} {ops : Array Oper} {o : Oper} {a : Act} {K : Act → World → Prop} {Q : Exit → Act → World → Prop} {E : Prop} (hgd : o.guard = none) (s x : Operand) (t : TypeId)
    (ho : o.op = .call { callee := .builtin .append, args := #[s, x], argTypes := #[t, t] })
    {base : Nat} {e : TypeId} {z : Value} {bytes : Nat} (ht : SliceT P t e z bytes)
    {v : Value} {xs : List α} (u : α) (h1 : (f u).oneCell' = true) (hs : a.eval s = v) (hown : Mem.Own f base e W v xs)
    {g c : Nat} (hx : a.eval x = .slice (some ⟨g, 0, none⟩) 1 c) (hcell : W.cell? ⟨g, 0, none⟩ = some (f u))
    (h63 : xs.length + 1 ≤ maxLen) (hbytes : (xs.length + 1) * bytes ≤ 140737488355328) (hbase : base ≤ W.heap.size)
    (h : ∀ v' w', Mem.Own f base e w' v' (xs ++ [u]) → W.grownBy w' v.ownBlock → (v'.ownBlock = v.ownBlock ∨ v'.ownBlock = some W.heap.size) → K (a.put o.dst v') w') :
    if Region.wanted o (yielded ops a.tmps) = true then Oper.wp P o a W K Q else E := by
  have hw : Region.wanted o (yielded ops a.tmps) = true := by simp [Region.wanted, hgd]
  rw [if_pos hw]
  obtain ⟨ht, hz1, i, hi, hz, hsz, hby⟩ := ht
  obtain ⟨v', w', hr, h2, h3, _, hat⟩ := run_append_own_at (P := P) W base t o.type e i z 1 bytes ht hi hz hsz hby hz1 (by decide) v xs.length (xs.map f) hown ⟨g, 0, none⟩ 1 c [f u] rfl (by
    intro j y hy
    match j, hy with
    | 0, hy => simp at hy; subst hy; exact hcell
    | j + 1, hy => simp at hy) (by intro y hy; simp at hy; subst hy; exact h1) h63 hbytes hbase
  unfold Oper.wp execOp
  simp only [ho, resolve, invoke, builtin, Sem.run_bind, Sem.run_pure, Result.andThen_ok, List.map_toArray, List.map_cons, List.map_nil, hs, hx, hr]
  refine h v' w' ?_ h3 hat
  unfold Mem.Own; rw [List.length_append, List.map_append]; exact h2
theorem RSt.step {w1 : World} {sb : Nat} {nv : Value} {ns : List Int} {x t : Int} {i : Nat} {xs ys zs : List Int} {xv yv v7 : Value} {wi w7 : World} {y : Int} (h : RSt w1 sb nv ns x t i xs ys xv yv wi) (hi : i < 2) (hsb : w1.heap.size ≤ sb) (hz : zs = xs ++ [y])
    (ho7 : Mem.Own fI (sb + 1) 3 w7 v7 (xs ++ [y])) (hg7 : ((wi.alloc (.cells #[fI y] 3)).drew).grownBy w7 xv.ownBlock) (hat7 : v7.ownBlock = xv.ownBlock ∨ v7.ownBlock = some ((wi.alloc (.cells #[fI y] 3)).drew).heap.size) :
    ∃ A e, v7 = .slice A zs.length e ∧ RSt w1 sb nv ns x t i zs ys v7 yv (w7.setCell ⟨sb, i + 2, none⟩ v7) ∧ w7.cell? ⟨sb, i + 2, none⟩ = some xv ∧ w7.frozen? ⟨sb, i + 2, none⟩ = false := by
  have hg : (wi.alloc (.cells #[fI y] 3)).grownBy w7 xv.ownBlock := ⟨hg7.os, hg7.tape, hg7.output, hg7.size, hg7.block⟩
  have hat : v7.ownBlock = xv.ownBlock ∨ v7.ownBlock = some (wi.heap.size + 1) := by
    rcases hat7 with h | h
    · exact .inl h
    · right; rw [h]; exact congrArg some (World.size_alloc ..)
  have ho := ho7
  rw [← hz] at ho
  obtain ⟨A, e, rfl⟩ := ho.form
  exact ⟨A, e, rfl, h.put hz hi hsb ho7 hg hat, (h.mid hi hg).1, (h.mid hi hg).2⟩
theorem RSt.ownD {w1 : World} {sb : Nat} {nv : Value} {ns : List Int} {x t : Int} {i : Nat} {xs ys : List Int} {xv yv : Value} {wi : World} (y : Int) (h : RSt w1 sb nv ns x t i xs ys xv yv wi) :
    Mem.Own fI (sb + 1) 3 ((wi.alloc (.cells #[.int .i64 y] 3)).drew) xv xs ∧ ((wi.alloc (.cells #[.int .i64 y] 3)).drew).cell? ⟨wi.heap.size, 0, none⟩ = some (fI y) ∧ sb + 1 ≤ ((wi.alloc (.cells #[.int .i64 y] 3)).drew).heap.size := by
  refine ⟨Own.drew (h.own.alloc _), ?_, ?_⟩
  · exact (Blk.drew (Blk.new_ wi 3 #[.int .i64 y])).cell 0
  · show sb + 1 ≤ (wi.alloc _).heap.size
    rw [World.size_alloc]
    have := h.blk.lt
    omega
theorem held6 {wz W : World} {g gN j : Nat} {t : TypeId} {a b c d e y : Value} (h : Blk wz g t #[a, b, c, d, e]) (hc : wz.cell? ⟨gN, j, none⟩ = some y) (hb : Below wz.heap.size wz W) : W.cell? ⟨g, 0, none⟩ = some a ∧ W.cell? ⟨g, 1, none⟩ = some b ∧ W.cell? ⟨g, 2, none⟩ = some c ∧ W.cell? ⟨g, 3, none⟩ = some d ∧ W.cell? ⟨g, 4, none⟩ = some e ∧ W.cell? ⟨gN, j, none⟩ = some y :=
  ⟨(h.below hb h.lt).cell 0, (h.below hb h.lt).cell 1, (h.below hb h.lt).cell 2, (h.below hb h.lt).cell 3, (h.below hb h.lt).cell 4, (hb.cell (p := ⟨gN, j, none⟩) (lt_of_cell hc)).trans hc⟩
theorem grown_drewL {W w' : World} {row : Option Nat} (h : W.drew.grownBy w' row) : W.grownBy w' row := ⟨h.os, h.tape, h.output, h.size, h.block⟩
theorem frames_flat (ps : List (List UInt8)) : ps.flatten.length ≤ (framesB ps).length := by
  induction ps with
  | nil => exact Nat.zero_le _
  | cons p ps ih =>
    unfold framesB at ih ⊢
    rw [List.flatMap_cons, List.flatten_cons, List.length_append, List.length_append, frameB_len]
    omega
def BoolW (b : Bool) (wl : World) (e : Ending) (w' : World) : Prop := e = .returned (.bool b) ∧ Below wl.heap.size wl w'
def BtW (ys : List UInt8) (wl : World) (e : Ending) (w' : World) : Prop := ∃ A c, e = .returned (.slice A ys.length c) ∧ Sl fB w' A ys ∧ Below wl.heap.size wl w'
/-- do the last tests fail? -/
def tstB (b1 b2 b3 : Bool) : Bool := !(b1 && (b2 && b3))
def R1L (w1 : World) (p : List UInt8) (hv nv : Value) (wr : World) : Prop :=
  ∃ (ns : List Int) (rest : List UInt8) (A : Option Addr) (c : Nat), hv = .slice A rest.length c ∧ Sl fB w1 A rest ∧ rest.length ≤ c ∧ c ≤ maxLen ∧ Mem.Own fI w1.heap.size 2 wr nv ns ∧ Below w1.heap.size w1 wr ∧ p = numsB ns ++ rest ∧ ∀ n ∈ ns, i64ok n
def R2L (w1 : World) (sb : Nat) (nv : Value) (ns : List Int) (x t : Int) (i s0 s1 : Nat) (ys : List Int) (yv : Value) (jv : Value) (wr : World) : Prop :=
  ∃ (j : Nat) (xs : List Int) (xv : Value), s0 ≤ j ∧ j ≤ s1 ∧ jv = .int .i64 (j : Int) ∧ RSt w1 sb nv ns x t i xs ys xv yv wr ∧ xs = (ns.drop s0).take (j - s0)
def R4L (w w1 : World) (sb : Nat) (nv : Value) (ns : List Int) (x t : Int) (vs ls : List Int) (vv lv : Value) (b0 : List UInt8) (hv : Value) (wr : World) : Prop :=
  ∃ (ps : List (List UInt8)) (acc rest : List UInt8) (A : Option Addr) (c : Nat) (dv : Value), hv = .slice A rest.length c ∧ Sl fB w A rest ∧ rest.length ≤ c ∧ c ≤ maxLen ∧
    Blk wr sb 33 #[.int .i64 x, .int .i64 t, vv, lv, dv] ∧ Mem.Own fI (sb + 1) 3 wr vv vs ∧ Mem.Own fI (sb + 1) 3 wr lv ls ∧ Mem.Own fB (sb + 1) 5 wr dv acc ∧ Mem.Own fI w1.heap.size 2 wr nv ns ∧ Below w1.heap.size w1 wr ∧
    b0 = framesB ps ++ rest ∧ (∀ p ∈ ps, p.length ≤ 4096) ∧ acc.length ≤ b0.length ∧ acc = ps.flatten
theorem blk_frmO {base : Nat} {w w' : World} {v : Value} {xs : List UInt8} {g : Nat} {t : TypeId} {cs : Array Value} (hb : Blk w g t cs) (h : Mem.Own fB base 5 w v xs) (hne : t ≠ 5) (hf : Frm (fun g => v.ownBlock = some g) w w') : Blk w' g t cs :=
  hb.frm hf (fun e => by
    rcases h.2 with ⟨rfl, -⟩ | ⟨g', cap, cur, rfl, -, hh, -⟩
    · cases e
    · have e2 : g' = g := Option.some.inj e
      subst e2
      unfold Blk at hb; rw [hh] at hb; injection hb with hb; injection hb with _ h3
      exact hne h3.symm)
theorem own_frmO {α : Type} {f : α → Value} {base base' : Nat} {w w' : World} {v v' : Value} {xs : List UInt8} {ys : List α} {e : TypeId} (h' : Mem.Own f base' e w v' ys) (h : Mem.Own fB base 5 w v xs) (hne : e ≠ 5) (hf : Frm (fun g => v.ownBlock = some g) w w') : Mem.Own f base' e w' v' ys := by
  obtain ⟨h1, h2⟩ := h'
  refine ⟨h1, ?_⟩
  rcases h2 with h2 | ⟨g, cap, cur, a, b, hh, c⟩
  · exact .inl h2
  · exact .inr ⟨g, cap, cur, a, b, blk_frmO (t := e) (g := g) hh h hne hf, c⟩
set_option maxRecDepth 100000 in
set_option maxHeartbeats 16000000 in
theorem RRead_any {w : World} {A : Option Addr} {c : Nat} {bs : List UInt8} (hs : Sl fB w A bs) (hc : bs.length ≤ c) (hm : c ≤ maxLen) (hroom : bs.length ≤ 140737488351232) :
    Calls Try.prog 13 #[.slice A bs.length c] w (RRPost (readS bs) w) := by
  obtain ⟨w0, hw0⟩ : ∃ x, x = w.alloc (.cells zeroSn 33) := ⟨_, rfl⟩
  have hb0 : Below w.heap.size w w0 := by rw [hw0]; exact (Below.refl _ _).alloc (Nat.le_refl _) _
  have hx0 : Blk w0 w.heap.size 33 zeroSn := by rw [hw0]; exact Blk.new_ w _ _
  obtain ⟨res, hres⟩ : ∃ r, r = readS bs := ⟨_, rfl⟩
  rw [← hres]
  have HRES := Lib.hid hres; clear hres
  obtain ⟨⟨p, n, u⟩, hu⟩ : ∃ z, z = unframe bs := ⟨_, rfl⟩
  have HUF : Hid (Calls Try.prog 29 #[.slice A bs.length c] w0 (UfPost (p, n, u) w0)) := Lib.hid (by rw [hu]; exact RUnframe_any (hs.below hb0) hc hm)
  have HU := Lib.hid hu; clear hu
  have HC := Lib.hid hc; clear hc
  have HM := Lib.hid hm; clear hm
  have HROOM := Lib.hid hroom; clear hroom
  have HS := Lib.hid hs; clear hs
  have HB0 := Lib.hid hb0; clear hb0
  have HX0 := Lib.hid hx0; clear hx0
  have HW0 := Lib.hid hw0; clear hw0
  go_enter Try.func13, Try.ntmps13
  go_upto_region 1 with fail
  have hzz := HW0.out
  unfold zeroSn at hzz
  rw [← hzz]
  clear hzz HW0
  go_wp2_with fail
  (with_reducible refine HUF.out.mono ?_); rintro e w1 ⟨P, cp, rfl, ho1, hb1⟩
  simp only at ho1 ⊢
  have HB1 : Hid (Below w.heap.size w w1) := Lib.hid (HB0.out.trans (hb1.mono HB0.out.size))
  have HX1 : Hid (Blk w1 w.heap.size 33 zeroSn) := Lib.hid (HX0.out.below hb1 HX0.out.lt)
  have HO1 := Lib.hid ho1; clear ho1 hb1
  have hsz1 : w.heap.size < w1.heap.size := HX1.out.lt
  have HZ1 := Lib.hid hsz1; clear hsz1
  have HXW : Hid (∀ W, Below w1.heap.size w1 W → Blk W w.heap.size 33 zeroSn) := Lib.hid fun W hb => HX1.out.below hb HX1.out.lt
  have HBB : Hid (∀ W, Below w1.heap.size w1 W → Below w.heap.size w W) := Lib.hid fun W hb => HB1.out.trans (hb.mono HB1.out.size)
  by_cases hu0 : u = 0
  · subst hu0
    have hpl4 : p.length ≤ 4096 := (unframe_ok HU.out.symm).2.2.2.1
    have HPL4 := Lib.hid hpl4; clear hpl4
    go_wp2_with fail
    go_loopw [4, 7] (fun hv nv wr => R1L w1 p hv nv wr) (fun hv _ _ => lenV hv)
    case atStart => exact ⟨[], p, P, cp, rfl, HO1.out.sl.2, HO1.out.cap.1, HO1.out.cap.2, Own.mk_ (Nat.le_refl _), (Below.refl _ _).alloc (Nat.le_refl _) _, rfl, by simp⟩
    case round =>
      obtain ⟨ns, rest, A2, c2, rfl, hsl, hrc, hcm, hown, hbw, hpe, hio⟩ := hrel
      have HSL := Lib.hid hsl; clear hsl
      have HRC := Lib.hid hrc; clear hrc
      have HCM := Lib.hid hcm; clear hcm
      have HOWN := Lib.hid hown; clear hown
      have HBW := Lib.hid hbw; clear hbw
      have HPE := Lib.hid hpe; clear hpe
      have HIO := Lib.hid hio; clear hio
      have HXR := Lib.hid (HXW.out _ HBW.out)
      have HBR := Lib.hid (HBB.out _ HBW.out)
      have HNL : Hid (ns.length ≤ 4096) := Lib.hid (by have h1 := nums_lenS ns; have h2 := congrArg List.length HPE.out; rw [List.length_append] at h2; have := HPL4.out; omega)
      obtain ⟨wo, rfl⟩ : ∃ wo, wo = wr := ⟨_, rfl⟩
      by_cases h0 : 0 < rest.length
      · have t1 : (0 : Int) < (rest.length : Int) := by omega
        have HGN := Lib.hid (RGetNum_any (c := c2) (HSL.out.below HBW.out))
        cases hg : getNum rest with
        | none =>
          have HN : Hid (res = none) := Lib.hid (by rw [HRES.out]; exact sn_stuck HU.out.symm HPE.out HIO.out (fun e => by rw [e] at h0; exact Nat.lt_irrefl 0 h0) hg)
          have HG := Lib.hid hg; clear hg
          go_wp2_with fail
          (with_reducible refine HGN.out.mono ?_); rintro e w6 ⟨-, hno, rfl⟩
          obtain rfl := hno HG.out
          unfold numV
          clear hno
          have q0 := HXR.out.free 0
          have q1 := HXR.out.free 1
          have q2 := HXR.out.free 2
          have q3 := HXR.out.free 3
          have q4 := HXR.out.free 4
          obtain ⟨d0, d1, d2, d3, d4⟩ := held5 (HXR.out) (Below.refl _ _)
          go_wp2_with fail
          obtain ⟨W9, hW9⟩ : ∃ z, z = put5 wo w.heap.size (.int .i64 0) (.int .i64 0) (.slice none 0 0) (.slice none 0 0) (.slice none 0 0) := ⟨_, rfl⟩
          have hx9 : Blk W9 w.heap.size 33 #[.int .i64 0, .int .i64 0, .slice none 0 0, .slice none 0 0, .slice none 0 0] := by rw [hW9]; exact put5_blk HXR.out
          have hf9 : Frm (fun g => g = w.heap.size) wo W9 := by rw [hW9]; exact put5_frm _ _ _ _ _ _ _
          unfold put5 at hW9
          rw [← hW9]
          obtain ⟨r0, r1, r2, r3, r4⟩ := held5 hx9 (Below.refl _ _)
          refine bodyPost_ret (v := .tuple #[.agg #[.int .i64 0, .int .i64 0, .slice none 0 0, .slice none 0 0, .slice none 0 0], .bool false]) (by simp [results, Try.results13, go_sem, r0, r1, r2, r3, r4]) rfl ?_
          exact RRPost.no HN.out (HBR.out.trans (hf9.to_below (fun k _ h1 h2 => by omega) HBR.out.size)) rfl
        | some q =>
          obtain ⟨y, k⟩ := q
          obtain ⟨g1, g2⟩ := num_split hg
          obtain ⟨-, f2, f3, -, -, -⟩ := getNum_inv hg
          have hdl : (rest.drop k).length = rest.length - k := List.length_drop
          have ck := cutB A2 rest.length c2 k f3
          have HSR2 : Hid (Sl fB w1 (partA A2 c2 k) (rest.drop k)) := Lib.hid (by
            have h9 := HSL.out.part (c := c2) (k := k) (m := rest.length - k) (by omega) HRC.out
            rw [List.take_of_length_le (by rw [List.length_drop]; omega)] at h9
            exact h9)
          have hcc : rest.length - k ≤ c2 - k := by have := HRC.out; omega
          have hcm : c2 - k ≤ maxLen := Nat.le_trans (Nat.sub_le _ _) HCM.out
          have hlow : rest.length - k < rest.length := by omega
          have hpe2 : p = numsB (ns ++ [y]) ++ rest.drop k := by rw [numsB_snoc, List.append_assoc, ← g1]; exact HPE.out
          have hio2 : ∀ n ∈ ns ++ [y], i64ok n := fun n hn => by rcases List.mem_append.1 hn with h | h; exact HIO.out n h; rw [List.mem_singleton] at h; subst h; exact g2
          have HPE2 := Lib.hid hpe2
          have HIO2 := Lib.hid hio2
          have HLOW := Lib.hid hlow
          have HCC2 := Lib.hid hcc
          have HCM2 := Lib.hid hcm
          obtain ⟨rest2, hrest2⟩ : ∃ z, z = rest.drop k := ⟨_, rfl⟩
          rw [← hrest2] at HPE2 HSR2 hdl
          obtain ⟨A8, hA8⟩ : ∃ z, z = partA A2 c2 k := ⟨_, rfl⟩
          obtain ⟨c8, hc8⟩ : ∃ z, z = c2 - k := ⟨_, rfl⟩
          rw [← hA8] at ck HSR2
          rw [← hc8] at ck HCC2 HCM2
          rw [← hdl] at ck HCC2 HLOW
          have H63 : Hid (ns.length + 1 ≤ maxLen) := Lib.hid (by have := HNL.out; unfold maxLen; omega)
          have HBY : Hid ((ns.length + 1) * 8 ≤ 140737488355328) := Lib.hid (by have := HNL.out; omega)
          have t2 : ((k : Int) == 0) = false := by rw [beq_eq_false_iff_ne]; omega
          have HG := Lib.hid hg
          clear hg g1 g2 f2 f3 hcc hcm hlow hpe2 hio2 hrest2 hA8 hc8 hdl
          go_wp2_with fail
          (with_reducible refine HGN.out.mono ?_); rintro e w6 ⟨hys, -, rfl⟩
          obtain rfl := hys y k HG.out
          unfold numV
          clear hys
          go_wp2_with (at_builtin; refine wpList_append1 (f := fI) rfl (.tmp 39) (.tmp 41) 72 rfl i64T y (fI_oneI _) rfl HOWN.out rfl rfl H63.out HBY.out HBW.out.size ?_; intro v7 w7 ho7 hb7)
          go_roundw
          case rel => exact ⟨ns ++ [y], rest2, A8, c8, rfl, HSR2.out, HCC2.out, HCM2.out, ho7, HBW.out.trans hb7, HPE2.out, HIO2.out⟩
          case measure => exact HLOW.out
      · have t1 : ¬ (0 : Int) < (rest.length : Int) := by omega
        obtain rfl : rest = [] := List.eq_nil_of_length_eq_zero (by omega)
        have HPN : Hid (p = numsB ns) := Lib.hid (by rw [HPE.out, List.append_nil])
        have HUS := Lib.hid HU.out.symm
        clear HPE h0
        obtain ⟨N, cN, rfl⟩ := HOWN.out.form
        obtain ⟨w3, hw3⟩ : ∃ x, x = wo.alloc (.cells zeroSn 33) := ⟨_, rfl⟩
        obtain ⟨sb, hsb⟩ : ∃ x, x = wo.heap.size := ⟨_, rfl⟩
        have hb3 : Below wo.heap.size wo w3 := by rw [hw3]; exact (Below.refl _ _).alloc (Nat.le_refl _) _
        have hx3 : Blk w3 sb 33 zeroSn := by rw [hw3, hsb]; exact Blk.new_ wo _ _
        have hsz3 : w3.heap.size = sb + 1 := by rw [hw3, hsb]; exact World.size_alloc ..
        have HSB1 : Hid (w1.heap.size ≤ sb) := Lib.hid (by rw [hsb]; exact HBW.out.size)
        have HB3 : Hid (Below w1.heap.size w1 w3) := Lib.hid (HBW.out.trans (hb3.mono HBW.out.size))
        have HO3 : Hid (Mem.Own fI w1.heap.size 2 w3 (.slice N ns.length cN) ns) := Lib.hid (HOWN.out.frm (Frm.below hb3) (fun _ _ e => e))
        have HST0 : Hid (RSt w1 sb (.slice N ns.length cN) ns 0 0 0 [] [] (.slice none 0 0) (.slice none 0 0) w3) := Lib.hid ⟨hx3, Own.nil, Own.nil, (fun g hg => by simp [Value.ownBlock] at hg), HO3.out, HB3.out⟩
        have HX3 := Lib.hid (HXW.out _ HB3.out)
        have HBR3 := Lib.hid (HBB.out _ HB3.out)
        have HW3 := Lib.hid hw3; clear hw3
        have HSB := Lib.hid hsb; clear hsb
        clear hb3 hx3
        have HSZ3 := Lib.hid hsz3; clear hsz3
        go_upto_region 12 with fail
        have hzz := HW3.out
        unfold zeroSn at hzz
        rw [← hzz, ← HSB.out]
        clear hzz
        obtain ⟨s0, s1, s2, s3, s4⟩ := held5 HST0.out.blk (Below.refl _ _)
        by_cases h5 : ns.length < 5
        · have t2 : (ns.length : Int) < 5 := by omega
          have HN : Hid (res = none) := Lib.hid (by rw [HRES.out]; exact sn_no HUS.out HPN.out HIO.out (fun a c h1 h2 e1 e2 e3 => by omega))
          clear h5
          have q0 := HX3.out.free 0
          have q1 := HX3.out.free 1
          have q2 := HX3.out.free 2
          have q3 := HX3.out.free 3
          have q4 := HX3.out.free 4
          obtain ⟨d0, d1, d2, d3, d4⟩ := held5 (HX3.out) (Below.refl _ _)
          go_wp2_with fail
          obtain ⟨W9, hW9⟩ : ∃ z, z = put5 w3 w.heap.size (.int .i64 0) (.int .i64 0) (.slice none 0 0) (.slice none 0 0) (.slice none 0 0) := ⟨_, rfl⟩
          have hx9 : Blk W9 w.heap.size 33 #[.int .i64 0, .int .i64 0, .slice none 0 0, .slice none 0 0, .slice none 0 0] := by rw [hW9]; exact put5_blk HX3.out
          have hf9 : Frm (fun g => g = w.heap.size) w3 W9 := by rw [hW9]; exact put5_frm _ _ _ _ _ _ _
          unfold put5 at hW9
          rw [← hW9]
          obtain ⟨r0, r1, r2, r3, r4⟩ := held5 hx9 (Below.refl _ _)
          refine bodyPost_ret (v := .tuple #[.agg #[.int .i64 0, .int .i64 0, .slice none 0 0, .slice none 0 0, .slice none 0 0], .bool false]) (by simp [results, Try.results13, go_sem, r0, r1, r2, r3, r4]) rfl ?_
          exact RRPost.no HN.out (HBR3.out.trans (hf9.to_below (fun k _ h1 h2 => by omega) HBR3.out.size)) rfl
        · have t2 : ¬ (ns.length : Int) < 5 := by omega
          obtain ⟨gN, hgN, -⟩ := HO3.out.addr (by omega)
          subst hgN
          have hcN : ∀ (W : World), Mem.Own fI w1.heap.size 2 W (.slice (some ⟨gN, 0, none⟩) ns.length cN) ns → ∀ j, j < ns.length → W.cell? ⟨gN, j, none⟩ = some (.int .i64 (ns.getD j 0)) := fun W ho j hj => by
            have h9 := ho.sl.2.cell hj
            rw [Nat.zero_add] at h9
            rw [h9, getD_get hj]; rfl
          have HCN := Lib.hid hcN; clear hcN
          obtain ⟨n2, hn2⟩ : ∃ z, z = ns.getD 2 0 := ⟨_, rfl⟩
          have c2 : w3.cell? ⟨gN, 2, none⟩ = some (.int .i64 n2) := by rw [hn2]; exact HCN.out w3 HO3.out 2 (by omega)
          have HN2 := Lib.hid hn2; clear hn2
          by_cases hneg : n2 < 0
          · have HN : Hid (res = none) := Lib.hid (by rw [HRES.out]; exact sn_no HUS.out HPN.out HIO.out (fun a c h1 h2 e1 e2 e3 => by rw [← HN2.out] at e1; omega))
            have q0 := HX3.out.free 0
            have q1 := HX3.out.free 1
            have q2 := HX3.out.free 2
            have q3 := HX3.out.free 3
            have q4 := HX3.out.free 4
            obtain ⟨d0, d1, d2, d3, d4⟩ := held5 (HX3.out) (Below.refl _ _)
            go_wp2_with fail
            obtain ⟨W9, hW9⟩ : ∃ z, z = put5 w3 w.heap.size (.int .i64 0) (.int .i64 0) (.slice none 0 0) (.slice none 0 0) (.slice none 0 0) := ⟨_, rfl⟩
            have hx9 : Blk W9 w.heap.size 33 #[.int .i64 0, .int .i64 0, .slice none 0 0, .slice none 0 0, .slice none 0 0] := by rw [hW9]; exact put5_blk HX3.out
            have hf9 : Frm (fun g => g = w.heap.size) w3 W9 := by rw [hW9]; exact put5_frm _ _ _ _ _ _ _
            unfold put5 at hW9
            rw [← hW9]
            obtain ⟨r0, r1, r2, r3, r4⟩ := held5 hx9 (Below.refl _ _)
            refine bodyPost_ret (v := .tuple #[.agg #[.int .i64 0, .int .i64 0, .slice none 0 0, .slice none 0 0, .slice none 0 0], .bool false]) (by simp [results, Try.results13, go_sem, r0, r1, r2, r3, r4]) rfl ?_
            exact RRPost.no HN.out (HBR3.out.trans (hf9.to_below (fun k _ h1 h2 => by omega) HBR3.out.size)) rfl
          by_cases hbig : 7 < n2
          · have HN : Hid (res = none) := Lib.hid (by rw [HRES.out]; exact sn_no HUS.out HPN.out HIO.out (fun a c h1 h2 e1 e2 e3 => by rw [← HN2.out] at e1; omega))
            have q0 := HX3.out.free 0
            have q1 := HX3.out.free 1
            have q2 := HX3.out.free 2
            have q3 := HX3.out.free 3
            have q4 := HX3.out.free 4
            obtain ⟨d0, d1, d2, d3, d4⟩ := held5 (HX3.out) (Below.refl _ _)
            go_wp2_with fail
            obtain ⟨W9, hW9⟩ : ∃ z, z = put5 w3 w.heap.size (.int .i64 0) (.int .i64 0) (.slice none 0 0) (.slice none 0 0) (.slice none 0 0) := ⟨_, rfl⟩
            have hx9 : Blk W9 w.heap.size 33 #[.int .i64 0, .int .i64 0, .slice none 0 0, .slice none 0 0, .slice none 0 0] := by rw [hW9]; exact put5_blk HX3.out
            have hf9 : Frm (fun g => g = w.heap.size) w3 W9 := by rw [hW9]; exact put5_frm _ _ _ _ _ _ _
            unfold put5 at hW9
            rw [← hW9]
            obtain ⟨r0, r1, r2, r3, r4⟩ := held5 hx9 (Below.refl _ _)
            refine bodyPost_ret (v := .tuple #[.agg #[.int .i64 0, .int .i64 0, .slice none 0 0, .slice none 0 0, .slice none 0 0], .bool false]) (by simp [results, Try.results13, go_sem, r0, r1, r2, r3, r4]) rfl ?_
            exact RRPost.no HN.out (HBR3.out.trans (hf9.to_below (fun k _ h1 h2 => by omega) HBR3.out.size)) rfl
          obtain ⟨a, rfl⟩ : ∃ a : Nat, n2 = (a : Int) := ⟨n2.toNat, by omega⟩
          have ha7 : a ≤ 7 := by omega
          clear hneg hbig
          by_cases hsh : ns.length < a + 5
          · have t3 : (ns.length : Int) < (a : Int) + 5 := by omega
            have HN : Hid (res = none) := Lib.hid (by rw [HRES.out]; exact sn_no HUS.out HPN.out HIO.out (fun a' c h1 h2 e1 e2 e3 => by rw [← HN2.out] at e1; omega))
            clear hsh
            have q0 := HX3.out.free 0
            have q1 := HX3.out.free 1
            have q2 := HX3.out.free 2
            have q3 := HX3.out.free 3
            have q4 := HX3.out.free 4
            obtain ⟨d0, d1, d2, d3, d4⟩ := held5 (HX3.out) (Below.refl _ _)
            go_wp2_with fail
            obtain ⟨W9, hW9⟩ : ∃ z, z = put5 w3 w.heap.size (.int .i64 0) (.int .i64 0) (.slice none 0 0) (.slice none 0 0) (.slice none 0 0) := ⟨_, rfl⟩
            have hx9 : Blk W9 w.heap.size 33 #[.int .i64 0, .int .i64 0, .slice none 0 0, .slice none 0 0, .slice none 0 0] := by rw [hW9]; exact put5_blk HX3.out
            have hf9 : Frm (fun g => g = w.heap.size) w3 W9 := by rw [hW9]; exact put5_frm _ _ _ _ _ _ _
            unfold put5 at hW9
            rw [← hW9]
            obtain ⟨r0, r1, r2, r3, r4⟩ := held5 hx9 (Below.refl _ _)
            refine bodyPost_ret (v := .tuple #[.agg #[.int .i64 0, .int .i64 0, .slice none 0 0, .slice none 0 0, .slice none 0 0], .bool false]) (by simp [results, Try.results13, go_sem, r0, r1, r2, r3, r4]) rfl ?_
            exact RRPost.no HN.out (HBR3.out.trans (hf9.to_below (fun k _ h1 h2 => by omega) HBR3.out.size)) rfl
          have t3 : ¬ (ns.length : Int) < (a : Int) + 5 := by omega
          obtain ⟨x, hx⟩ : ∃ z, z = ns.getD 0 0 := ⟨_, rfl⟩
          obtain ⟨t, ht⟩ : ∃ z, z = ns.getD 1 0 := ⟨_, rfl⟩
          have c0 : w3.cell? ⟨gN, 0, none⟩ = some (.int .i64 x) := by rw [hx]; exact HCN.out w3 HO3.out 0 (by omega)
          have HXE := Lib.hid hx; clear hx
          have HTE := Lib.hid ht; clear ht
          have hset0 : Frm (fun g => g = sb) w3 (w3.setCell ⟨sb, 0, none⟩ (.int .i64 x)) := (Frm.refl (fun g => g = sb) w3).setCell (p := ⟨sb, 0, none⟩) (fun _ => rfl) _
          have ho4 := own_frmT HO3.out HST0.out.blk (by decide) hset0
          have hb4 : Blk (w3.setCell ⟨sb, 0, none⟩ (.int .i64 x)) sb 33 (five x 0 0 (.slice none 0 0) (.slice none 0 0)) := HST0.out.blk.set_ 0 _
          have hset1 : Frm (fun g => g = sb) (w3.setCell ⟨sb, 0, none⟩ (.int .i64 x)) ((w3.setCell ⟨sb, 0, none⟩ (.int .i64 x)).setCell ⟨sb, 1, none⟩ (.int .i64 t)) := (Frm.refl (fun g => g = sb) _).setCell (p := ⟨sb, 1, none⟩) (fun _ => rfl) _
          have ho5 := own_frmT ho4 hb4 (by decide) hset1
          have hb5 : Blk ((w3.setCell ⟨sb, 0, none⟩ (.int .i64 x)).setCell ⟨sb, 1, none⟩ (.int .i64 t)) sb 33 (five x t 0 (.slice none 0 0) (.slice none 0 0)) := hb4.set_ 1 _
          have c1 : (w3.setCell ⟨sb, 0, none⟩ (.int .i64 x)).cell? ⟨gN, 1, none⟩ = some (.int .i64 t) := by rw [HTE.out]; exact HCN.out _ ho4 1 (by omega)
          have c3 : ((w3.setCell ⟨sb, 0, none⟩ (.int .i64 x)).setCell ⟨sb, 1, none⟩ (.int .i64 t)).cell? ⟨gN, 2, none⟩ = some (.int .i64 (a : Int)) := by rw [HN2.out]; exact HCN.out _ ho5 2 (by omega)
          have q0 := HST0.out.blk.free 0
          have q1 := hb4.free 1
          have s1' : (w3.setCell ⟨sb, 0, none⟩ (.int .i64 x)).cell? ⟨sb, 1, none⟩ = some (.int .i64 0) := hb4.cell 1
          have HO5 := Lib.hid ho5
          have HBK5 := Lib.hid hb5
          have HS01 : Hid (Frm (fun g => g = sb) w3 ((w3.setCell ⟨sb, 0, none⟩ (.int .i64 x)).setCell ⟨sb, 1, none⟩ (.int .i64 t))) := Lib.hid (hset0.trans hset1)
          clear hset0 ho4 hb4 hset1 ho5 hb5
          have hA3 : ns.length ≤ 4096 := HNL.out
          go_upto_region 17 with fail
          obtain ⟨w4, hw4⟩ : ∃ z, z = (w3.setCell ⟨sb, 0, none⟩ (.int .i64 x)).setCell ⟨sb, 1, none⟩ (.int .i64 t) := ⟨_, rfl⟩
          rw [← hw4] at HO5 HBK5 HS01 ⊢
          obtain ⟨m, hm⟩ : ∃ m, m = 3 + a := ⟨_, rfl⟩
          rw [show (3 : Int) + (a : Int) = (m : Int) by omega]
          have HB4 : Hid (Below w1.heap.size w1 w4) := Lib.hid (HB3.out.trans (HS01.out.to_below (fun k _ h1 h2 => by have := HSB1.out; omega) HB3.out.size))
          have HST : Hid (RSt w1 sb (.slice (some ⟨gN, 0, none⟩) ns.length cN) ns x t 0 [] [] (.slice none 0 0) (.slice none 0 0) w4) := Lib.hid ⟨HBK5.out, Own.nil, Own.nil, (fun g hg => by simp [Value.ownBlock] at hg), HO5.out, HB4.out⟩
          have HM2 := Lib.hid hm
          clear hw4 hm c0 c1 c2 c3 q0 q1 s0 s1 s2 s3 s4 s1' HS01 HBK5 HO5 HST0 hsh h5
          go_wp2_with fail
          go_loopw [12] (fun jv wr => R2L w1 sb (.slice (some ⟨gN, 0, none⟩) ns.length cN) ns x t 0 3 m [] (.slice none 0 0) jv wr) (fun jv _ => m - (intOf jv).toNat)
          case atStart => exact ⟨3, [], _, Nat.le_refl _, by have := HM2.out; omega, rfl, HST.out, by simp⟩
          case round =>
            obtain ⟨j, xs, xv, hj0, hj1, rfl, hst, hxs⟩ := hrel
            have HST2 := Lib.hid hst; clear hst HST
            have HXS := Lib.hid hxs; clear hxs
            obtain ⟨wi, rfl⟩ : ∃ wi, wi = wr := ⟨_, rfl⟩
            by_cases hlt : j < m
            · obtain ⟨y, hy⟩ : ∃ z, z = ns.getD j 0 := ⟨_, rfl⟩
              have hjn : j < ns.length := by have := HM2.out; omega
              have cy : wi.cell? ⟨gN, j, none⟩ = some (.int .i64 y) := by rw [hy]; exact HCN.out wi HST2.out.nums j hjn
              have cx : wi.cell? ⟨sb, 2, none⟩ = some xv := five_cell (i := 0) (by decide) HST2.out.blk
              have cxo : ∀ o, (wi.alloc o).cell? ⟨sb, 2, none⟩ = some xv := fun o => five_cell (i := 0) (by decide) (HST2.out.blk.alloc o)
              have t4 : (j : Int) < (m : Int) := by omega
              have t5 : (0 : Int) ≤ (j : Int) := by omega
              have t6 : (j : Int) < (ns.length : Int) := by omega
              have hxl : xs.length ≤ 4096 := by rw [HXS.out, List.length_take, List.length_drop]; have := HNL.out; omega
              obtain ⟨zs, hzs⟩ : ∃ zs, zs = xs ++ [y] := ⟨_, rfl⟩
              have HZT : Hid (zs = (ns.drop (3)).take (j + 1 - (3))) := Lib.hid (by
                rw [hzs, HXS.out, show j + 1 - (3) = (j - (3)) + 1 by omega, List.take_succ_eq_append_getElem (by rw [List.length_drop]; omega), List.getElem_drop, hy, getD_get hjn]
                congr 2; congr 1; omega)
              have HZS := Lib.hid hzs; clear hzs
              have H63 : Hid (xs.length + 1 ≤ maxLen) := by show _ ≤ _; unfold maxLen; omega
              have HBY : Hid ((xs.length + 1) * 8 ≤ 140737488355328) := by show _ ≤ _; omega
              obtain ⟨hoa, hce, hbs⟩ := RSt.ownD y HST2.out
              have HOA := Lib.hid hoa
              have HCE := Lib.hid hce
              have HBS := Lib.hid hbs
              clear hy hxl hoa hce hbs
              go_wp2_with fail
              go_region_law (refine step_append1g (f := fI) (W := (wi.alloc (.cells #[.int .i64 y] 3)).drew) (v := xv) (xs := xs) (g := wi.heap.size) (c := 1) (base := sb + 1) (e := 3) ?_ (.tmp 91) (.tmp 96) 22 ?_ intTI y (fI_oneI _) ?_ HOA.out ?_ HCE.out H63.out HBY.out HBS.out ?_; rfl; rfl; rfl; rfl; intro v7 w7 ho7 hg7 hat7; obtain ⟨A7, e7, rfl, hs7, c7, q7⟩ := HST2.out.step (by decide) HSB1.out HZS.out ho7 hg7 hat7; have c8 : w7.cell? ⟨sb, 2, none⟩ = some xv := c7; have q8 : w7.frozen? ⟨sb, 2, none⟩ = false := q7; have HS7 : Hid (RSt w1 sb (.slice (some ⟨gN, 0, none⟩) ns.length cN) ns x t 0 zs [] (.slice A7 zs.length e7) (.slice none 0 0) (w7.setCell ⟨sb, 2, none⟩ (.slice A7 zs.length e7))) := Lib.hid hs7; clear hs7 c7 q7 ho7 hg7 hat7)
              all_goals (go_wp2_with fail; go_roundw; (case rel => exact ⟨j + 1, zs, _, by omega, by omega, by go_num, HS7.out, HZT.out⟩); (case measure => simp [intOf]; omega))
            · obtain rfl : j = m := by omega
              have HVS : Hid (xs = (ns.drop 3).take (ns.getD 2 0).toNat) := Lib.hid (by rw [HXS.out, ← HN2.out, Int.toNat_natCast]; congr 1; have := HM2.out; omega)
              have HXI := Lib.hid (HXW.out _ HST2.out.bel)
              have HBI := Lib.hid (HBB.out _ HST2.out.bel)
              obtain ⟨VA, ca, rfl⟩ := HST2.out.own.form
              clear HXS hlt
              have t4 : ¬ (j : Int) < (j : Int) := by omega
              have hjn : j < ns.length := by have := HM2.out; omega
              obtain ⟨n3, hn3⟩ : ∃ z, z = ns.getD j 0 := ⟨_, rfl⟩
              have cj : wi.cell? ⟨gN, j, none⟩ = some (.int .i64 n3) := by rw [hn3]; exact HCN.out wi HST2.out.nums j hjn
              have hn3' : n3 = ns.getD (3 + a) 0 := by rw [hn3, HM2.out]
              have HN3 := Lib.hid hn3'; clear hn3 hn3'
              have t5 : (0 : Int) ≤ (j : Int) := by omega
              have t6 : (j : Int) < (ns.length : Int) := by omega
              by_cases hneg : n3 < 0
              · have HN : Hid (res = none) := Lib.hid (by rw [HRES.out]; exact sn_no HUS.out HPN.out HIO.out (fun a' c h1 h2 e1 e2 e3 => by rw [← HN2.out] at e1; obtain rfl : a = a' := (by omega); rw [← HN3.out] at e2; omega))
                have q0 := HXI.out.free 0
                have q1 := HXI.out.free 1
                have q2 := HXI.out.free 2
                have q3 := HXI.out.free 3
                have q4 := HXI.out.free 4
                obtain ⟨d0, d1, d2, d3, d4⟩ := held5 (HXI.out) (Below.refl _ _)
                go_wp2_with fail
                obtain ⟨W9, hW9⟩ : ∃ z, z = put5 wi w.heap.size (.int .i64 0) (.int .i64 0) (.slice none 0 0) (.slice none 0 0) (.slice none 0 0) := ⟨_, rfl⟩
                have hx9 : Blk W9 w.heap.size 33 #[.int .i64 0, .int .i64 0, .slice none 0 0, .slice none 0 0, .slice none 0 0] := by rw [hW9]; exact put5_blk HXI.out
                have hf9 : Frm (fun g => g = w.heap.size) wi W9 := by rw [hW9]; exact put5_frm _ _ _ _ _ _ _
                unfold put5 at hW9
                rw [← hW9]
                obtain ⟨r0, r1, r2, r3, r4⟩ := held5 hx9 (Below.refl _ _)
                refine bodyPost_ret (v := .tuple #[.agg #[.int .i64 0, .int .i64 0, .slice none 0 0, .slice none 0 0, .slice none 0 0], .bool false]) (by simp [results, Try.results13, go_sem, r0, r1, r2, r3, r4]) rfl ?_
                exact RRPost.no HN.out (HBI.out.trans (hf9.to_below (fun k _ h1 h2 => by omega) HBI.out.size)) rfl
              by_cases hbig : 7 < n3
              · have HN : Hid (res = none) := Lib.hid (by rw [HRES.out]; exact sn_no HUS.out HPN.out HIO.out (fun a' c h1 h2 e1 e2 e3 => by rw [← HN2.out] at e1; obtain rfl : a = a' := (by omega); rw [← HN3.out] at e2; omega))
                have q0 := HXI.out.free 0
                have q1 := HXI.out.free 1
                have q2 := HXI.out.free 2
                have q3 := HXI.out.free 3
                have q4 := HXI.out.free 4
                obtain ⟨d0, d1, d2, d3, d4⟩ := held5 (HXI.out) (Below.refl _ _)
                go_wp2_with fail
                obtain ⟨W9, hW9⟩ : ∃ z, z = put5 wi w.heap.size (.int .i64 0) (.int .i64 0) (.slice none 0 0) (.slice none 0 0) (.slice none 0 0) := ⟨_, rfl⟩
                have hx9 : Blk W9 w.heap.size 33 #[.int .i64 0, .int .i64 0, .slice none 0 0, .slice none 0 0, .slice none 0 0] := by rw [hW9]; exact put5_blk HXI.out
                have hf9 : Frm (fun g => g = w.heap.size) wi W9 := by rw [hW9]; exact put5_frm _ _ _ _ _ _ _
                unfold put5 at hW9
                rw [← hW9]
                obtain ⟨r0, r1, r2, r3, r4⟩ := held5 hx9 (Below.refl _ _)
                refine bodyPost_ret (v := .tuple #[.agg #[.int .i64 0, .int .i64 0, .slice none 0 0, .slice none 0 0, .slice none 0 0], .bool false]) (by simp [results, Try.results13, go_sem, r0, r1, r2, r3, r4]) rfl ?_
                exact RRPost.no HN.out (HBI.out.trans (hf9.to_below (fun k _ h1 h2 => by omega) HBI.out.size)) rfl
              obtain ⟨b, rfl⟩ : ∃ b : Nat, n3 = (b : Int) := ⟨n3.toNat, by omega⟩
              have hb7 : b ≤ 7 := by omega
              clear hneg hbig
              by_cases hshp : ns.length = j + b + 2
              · have t7 : ((ns.length : Int) != (j : Int) + (b : Int) + 2) = false := by rw [bne_eq_false_iff_eq]; omega
                have HSHP := Lib.hid hshp; clear hshp
                have HSW := Lib.hid HST2.out.swap
                have hjm : j + 1 ≤ ns.length - 1 := by have := HSHP.out; omega
                have HJM := Lib.hid hjm; clear hjm
                go_wp2_with fail
                clear t7 cj t4 t5 t6
                go_loopw [13] (fun jv wr => R2L w1 sb (.slice (some ⟨gN, 0, none⟩) ns.length cN) ns x t 1 (j + 1) (ns.length - 1) xs (.slice VA xs.length ca) jv wr) (fun jv _ => ns.length - (intOf jv).toNat)
                case atStart => exact ⟨j + 1, [], _, Nat.le_refl _, HJM.out, by go_num, HSW.out, by simp⟩
                case round =>
                  obtain ⟨j', xs', xv', hj0', hj1', hjv, hst3, hxs'⟩ := hrel
                  subst hjv
                  have HST3 := Lib.hid hst3; clear hst3
                  have HXS' := Lib.hid hxs'; clear hxs'
                  obtain ⟨wk, rfl⟩ : ∃ wk, wk = wr := ⟨_, rfl⟩
                  by_cases hlt : j' < ns.length - 1
                  · obtain ⟨y, hy⟩ : ∃ z, z = ns.getD j' 0 := ⟨_, rfl⟩
                    have hjn : j' < ns.length := by have := HM2.out; omega
                    have cy : wk.cell? ⟨gN, j', none⟩ = some (.int .i64 y) := by rw [hy]; exact HCN.out wk HST3.out.nums j' hjn
                    have cx : wk.cell? ⟨sb, 3, none⟩ = some xv' := five_cell (i := 1) (by decide) HST3.out.blk
                    have cxo : ∀ o, (wk.alloc o).cell? ⟨sb, 3, none⟩ = some xv' := fun o => five_cell (i := 1) (by decide) (HST3.out.blk.alloc o)
                    have t4 : (j' : Int) < (ns.length : Int) - 1 := by omega
                    have t5 : (0 : Int) ≤ (j' : Int) := by omega
                    have t6 : (j' : Int) < (ns.length : Int) := by omega
                    have hxl : xs'.length ≤ 4096 := by rw [HXS'.out, List.length_take, List.length_drop]; have := HNL.out; omega
                    obtain ⟨zs, hzs⟩ : ∃ zs, zs = xs' ++ [y] := ⟨_, rfl⟩
                    have HZT : Hid (zs = (ns.drop (j + 1)).take (j' + 1 - (j + 1))) := Lib.hid (by
                      rw [hzs, HXS'.out, show j' + 1 - (j + 1) = (j' - (j + 1)) + 1 by omega, List.take_succ_eq_append_getElem (by rw [List.length_drop]; omega), List.getElem_drop, hy, getD_get hjn]
                      congr 2; congr 1; omega)
                    have HZS := Lib.hid hzs; clear hzs
                    have H63 : Hid (xs'.length + 1 ≤ maxLen) := by show _ ≤ _; unfold maxLen; omega
                    have HBY : Hid ((xs'.length + 1) * 8 ≤ 140737488355328) := by show _ ≤ _; omega
                    obtain ⟨hoa, hce, hbs⟩ := RSt.ownD y HST3.out
                    have HOA := Lib.hid hoa
                    have HCE := Lib.hid hce
                    have HBS := Lib.hid hbs
                    clear hy hxl hoa hce hbs
                    go_wp2_with fail
                    go_region_law (refine step_append1g (f := fI) (W := (wk.alloc (.cells #[.int .i64 y] 3)).drew) (v := xv') (xs := xs') (g := wk.heap.size) (c := 1) (base := sb + 1) (e := 3) ?_ (.tmp 136) (.tmp 141) 22 ?_ intTI y (fI_oneI _) ?_ HOA.out ?_ HCE.out H63.out HBY.out HBS.out ?_; rfl; rfl; rfl; rfl; intro v7 w7 ho7 hg7 hat7; obtain ⟨A7, e7, rfl, hs7, c7, q7⟩ := HST3.out.step (by decide) HSB1.out HZS.out ho7 hg7 hat7; have c8 : w7.cell? ⟨sb, 3, none⟩ = some xv' := c7; have q8 : w7.frozen? ⟨sb, 3, none⟩ = false := q7; have HS7 : Hid (RSt w1 sb (.slice (some ⟨gN, 0, none⟩) ns.length cN) ns x t 1 zs xs (.slice A7 zs.length e7) (.slice VA xs.length ca) (w7.setCell ⟨sb, 3, none⟩ (.slice A7 zs.length e7))) := Lib.hid hs7; clear hs7 c7 q7 ho7 hg7 hat7)
                    all_goals (go_wp2_with fail; go_roundw; (case rel => exact ⟨j' + 1, zs, _, by omega, by omega, by go_num, HS7.out, HZT.out⟩); (case measure => simp [intOf]; omega))
                  · obtain rfl : j' = ns.length - 1 := by omega
                    have HLS : Hid (xs' = (ns.drop (3 + (ns.getD 2 0).toNat + 1)).take (ns.length - 1 - (3 + (ns.getD 2 0).toNat + 1))) := Lib.hid (by rw [HXS'.out, ← HN2.out, Int.toNat_natCast]; have := HM2.out; rw [show 3 + a = j by omega])
                    have HBK := Lib.hid HST3.out.bel
                    obtain ⟨LA, cl, rfl⟩ := HST3.out.own.form
                    have t4 : ¬ ((ns.length - 1 : Nat) : Int) < (ns.length : Int) - 1 := by omega
                    have hnb : n ≤ bs.length := (unframe_ok HUS.out).2.2.1
                    have ck := cutB A bs.length c n hnb
                    have HSR : Hid (Sl fB w (partA A c n) (bs.drop n)) := Lib.hid (by
                      have h9 := HS.out.part (c := c) (k := n) (m := bs.length - n) (by omega) HC.out
                      rw [List.take_of_length_le (by rw [List.length_drop]; omega)] at h9
                      exact h9)
                    have hdl : (bs.drop n).length = bs.length - n := List.length_drop
                    have hcc : bs.length - n ≤ c - n := by have := HC.out; omega
                    have hcm : c - n ≤ maxLen := Nat.le_trans (Nat.sub_le _ _) HM.out
                    obtain ⟨A6, hA6⟩ : ∃ z, z = partA A c n := ⟨_, rfl⟩
                    obtain ⟨b0, hb0⟩ : ∃ z, z = bs.drop n := ⟨_, rfl⟩
                    obtain ⟨c6, hc6⟩ : ∃ z, z = c - n := ⟨_, rfl⟩
                    have hbl : b0.length ≤ 140737488351232 := by rw [hb0, hdl]; have := HROOM.out; omega
                    rw [← hb0] at hdl HSR
                    rw [← hA6] at HSR ck
                    rw [← hc6] at ck hcc hcm
                    rw [← hdl] at ck hcc
                    have HCC := Lib.hid hcc
                    have HCM2 := Lib.hid hcm
                    have HBL := Lib.hid hbl
                    have HB0E := Lib.hid hb0
                    clear hdl hcc hcm hA6 hb0 hc6 hnb hbl hlt HXS'
                    go_wp2_with fail
                    clear ck t4
                    go_loopw [14] (fun hv wr => R4L w w1 sb (.slice (some ⟨gN, 0, none⟩) ns.length cN) ns x t xs xs' (.slice VA xs.length ca) (.slice LA xs'.length cl) b0 hv wr) (fun hv _ => lenV hv)
                    case atStart => exact ⟨[], [], b0, A6, c6, _, rfl, HSR.out, HCC.out, HCM2.out, HST3.out.blk, HST3.out.oth, HST3.out.own, Own.nil, HST3.out.nums, HST3.out.bel, rfl, by simp, by simp, rfl⟩
                    case round =>
                      obtain ⟨ps, acc, rest, A7, c7, dv, hhv, hsl, hrc, hcm, hsb, hva, hla, hdv, hnum, hbw, hbe, hps, hpl, hac⟩ := hrel
                      have HAC := Lib.hid hac; clear hac
                      subst hhv
                      obtain ⟨DV, dc, rfl⟩ := hdv.form
                      have HSL := Lib.hid hsl; clear hsl
                      have HRC := Lib.hid hrc; clear hrc
                      have HCM7 := Lib.hid hcm; clear hcm
                      have HSB7 := Lib.hid hsb; clear hsb
                      have HVA7 := Lib.hid hva; clear hva
                      have HLA7 := Lib.hid hla; clear hla
                      have HDV := Lib.hid hdv; clear hdv
                      have HNUM := Lib.hid hnum; clear hnum
                      have HBW7 := Lib.hid hbw; clear hbw
                      have HBE := Lib.hid hbe; clear hbe
                      have HPS := Lib.hid hps; clear hps
                      have HPL := Lib.hid hpl; clear hpl
                      have HXL := Lib.hid (HXW.out _ HBW7.out)
                      have HBR7 := Lib.hid (HBB.out _ HBW7.out)
                      have HBD : Hid (bs.drop n = framesB ps ++ rest) := Lib.hid (by rw [← HB0E.out]; exact HBE.out)
                      obtain ⟨wl, rfl⟩ : ∃ wl, wl = wr := ⟨_, rfl⟩
                      by_cases h0 : 0 < rest.length
                      · have t4 : (0 : Int) < (rest.length : Int) := by omega
                        have hrl : rest.length ≤ b0.length := by rw [HBE.out, List.length_append]; omega
                        obtain ⟨⟨pt, kn, un⟩, hu2⟩ : ∃ z, z = unframe rest := ⟨_, rfl⟩
                        have HUF2 : Hid (Calls Try.prog 29 #[.slice A7 rest.length c7] wl (UfPost (pt, kn, un) wl)) := Lib.hid (by rw [hu2]; exact RUnframe_any (HSL.out.below HBR7.out) HRC.out HCM7.out)
                        have HU2 := Lib.hid hu2; clear hu2
                        go_wp2_with fail
                        (with_reducible refine HUF2.out.mono ?_); rintro e w6 ⟨P6, cp6, rfl, ho6, hb6⟩
                        simp only at ho6 ⊢
                        have HB6 : Hid (Below w1.heap.size w1 w6) := Lib.hid (HBW7.out.trans (hb6.mono HBW7.out.size))
                        have HXM := Lib.hid (HXW.out _ HB6.out)
                        have HBM := Lib.hid (HBB.out _ HB6.out)
                        by_cases hun : un = 0
                        · subst hun
                          obtain ⟨f1, f2, f3, f4, f5⟩ := unframe_ok HU2.out.symm
                          have hsb6 := HSB7.out.below hb6 HSB7.out.lt
                          have hva6 := Mem.Own.frm HVA7.out (Frm.below hb6) (fun _ _ e => e)
                          have hla6 := Mem.Own.frm HLA7.out (Frm.below hb6) (fun _ _ e => e)
                          have hdv6 := Mem.Own.frm HDV.out (Frm.below hb6) (fun _ _ e => e)
                          have hnum6 := Mem.Own.frm HNUM.out (Frm.below hb6) (fun _ _ e => e)
                          obtain ⟨s0, s1, s2, s3, s4⟩ := held5 hsb6 (Below.refl _ _)
                          have hfl : (ps ++ [pt]).flatten.length ≤ b0.length := by
                            rw [List.flatten_append, List.length_append]
                            have h1 := frames_flat ps
                            have h2 := congrArg List.length HBE.out
                            rw [List.length_append] at h2
                            have h3 : ([pt].flatten).length = pt.length := by simp
                            omega
                          have hfe : acc ++ pt = (ps ++ [pt]).flatten := by rw [HAC.out]; simp
                          have HJN := Lib.hid (Join_f hdv6 ho6 ((frs_of ho6).apart HDV.out) (Nat.le_trans hsb6.lt (Nat.le_refl _)) (by have := HBL.out; have h4 := congrArg List.length hfe; rw [List.length_append] at h4; omega))
                          rw [hfe] at HJN
                          obtain ⟨nd, hnd⟩ : ∃ z, z = (ps ++ [pt]).flatten := ⟨_, rfl⟩
                          rw [← hnd] at HJN
                          have ck := cutB A7 rest.length c7 kn f3
                          have HSR2 : Hid (Sl fB w (partA A7 c7 kn) (rest.drop kn)) := Lib.hid (by
                            have h9 := HSL.out.part (c := c7) (k := kn) (m := rest.length - kn) (by omega) HRC.out
                            rw [List.take_of_length_le (by rw [List.length_drop]; omega)] at h9
                            exact h9)
                          have hdl : (rest.drop kn).length = rest.length - kn := List.length_drop
                          have hcc : rest.length - kn ≤ c7 - kn := by have := HRC.out; omega
                          have hcm : c7 - kn ≤ maxLen := Nat.le_trans (Nat.sub_le _ _) HCM7.out
                          have hlow : rest.length - kn < rest.length := by omega
                          have hbe2 : b0 = framesB (ps ++ [pt]) ++ rest.drop kn := by
                            rw [HBE.out]
                            unfold framesB
                            rw [List.flatMap_append, List.flatMap_singleton, List.append_assoc, ← f1, List.take_append_drop]
                          have hps2 : ∀ p ∈ ps ++ [pt], p.length ≤ 4096 := fun p hp => by rcases List.mem_append.1 hp with h | h; exact HPS.out p h; rw [List.mem_singleton] at h; subst h; exact f4
                          have HBE2 := Lib.hid hbe2
                          have HPS2 := Lib.hid hps2
                          have HFL2 := Lib.hid hfl
                          have HLOW := Lib.hid hlow
                          have HCC2 := Lib.hid hcc
                          have HCM3 := Lib.hid hcm
                          obtain ⟨rest2, hrest2⟩ : ∃ z, z = rest.drop kn := ⟨_, rfl⟩
                          rw [← hrest2] at HBE2 HSR2 hdl
                          obtain ⟨A8, hA8⟩ : ∃ z, z = partA A7 c7 kn := ⟨_, rfl⟩
                          obtain ⟨c8, hc8⟩ : ∃ z, z = c7 - kn := ⟨_, rfl⟩
                          rw [← hA8] at ck HSR2
                          rw [← hc8] at ck HCC2 HCM3
                          rw [← hdl] at ck HCC2 HLOW
                          have HND := Lib.hid hnd
                          have HSB6 := Lib.hid hsb6
                          have HVA6 := Lib.hid hva6
                          have HLA6 := Lib.hid hla6
                          have HDV6 := Lib.hid hdv6
                          have HNUM6 := Lib.hid hnum6
                          clear f1 f2 f3 f4 f5 hfl hfe hnd hcc hcm hlow hbe2 hps2 hrest2 hA8 hc8 hdl hsb6 hva6 hla6 hdv6 hnum6 ho6 hb6 hrl
                          go_wp2_with fail
                          (with_reducible refine HJN.out.mono ?_); rintro e w8 ⟨v8, rfl, ho8, hat8, hf8⟩
                          obtain ⟨A9, e9, rfl⟩ := ho8.form
                          have hsb8 := blk_frmO HSB6.out HDV6.out (by decide) hf8
                          have y4 := hsb8.free 4
                          have y5 : w8.cell? ⟨sb, 4, none⟩ = some (.slice DV acc.length dc) := hsb8.cell 4
                          have HSB8 := Lib.hid hsb8
                          have HVA8 := Lib.hid (own_frmO HVA6.out HDV6.out (by decide) hf8)
                          have HLA8 := Lib.hid (own_frmO HLA6.out HDV6.out (by decide) hf8)
                          have HNUM8 := Lib.hid (own_frmO HNUM6.out HDV6.out (by decide) hf8)
                          have HO8 := Lib.hid ho8
                          have HB8 : Hid (Below w1.heap.size w1 w8) := Lib.hid (HB6.out.trans (hf8.to_below (fun k _ h1 h2 => by have := (HDV6.out.lt k h2).1; have := HSB1.out; omega) HB6.out.size))
                          clear hsb8 ho8 hat8 hf8 s0 s1 s2 s3 s4
                          go_wp2_with fail
                          go_roundw
                          case rel =>
                            have hf9 : Frm (fun k => k = sb) w8 (w8.setCell ⟨sb, 4, none⟩ (.slice A9 nd.length e9)) := (Frm.refl (fun k => k = sb) w8).setCell (p := ⟨sb, 4, none⟩) (fun _ => rfl) _
                            exact ⟨ps ++ [pt], nd, rest2, A8, c8, _, rfl, HSR2.out, HCC2.out, HCM3.out, HSB8.out.set_ 4 _, HVA8.out.frm hf9 (fun _ h1 h2 => by omega), HLA8.out.frm hf9 (fun _ h1 h2 => by omega), HO8.out.frm hf9 (fun _ h1 h2 => by omega), own_frmT HNUM8.out HSB8.out (by decide) hf9, HB8.out.setCell (p := ⟨sb, 4, none⟩) HSB1.out _, HBE2.out, HPS2.out, by rw [HND.out]; exact HFL2.out, HND.out⟩
                          case measure => exact HLOW.out
                        · have t5 : (un != 0) = true := by rw [bne_iff_ne]; exact hun
                          have HN : Hid (res = none) := Lib.hid (by rw [HRES.out]; exact sn_cut HUS.out HBD.out HPS.out (fun e => by rw [e] at h0; exact Nat.lt_irrefl 0 h0) (by rw [← HU2.out]; exact hun))
                          clear hun
                          have q0 := HXM.out.free 0
                          have q1 := HXM.out.free 1
                          have q2 := HXM.out.free 2
                          have q3 := HXM.out.free 3
                          have q4 := HXM.out.free 4
                          obtain ⟨d0, d1, d2, d3, d4⟩ := held5 (HXM.out) (Below.refl _ _)
                          go_wp2_with fail
                          obtain ⟨W9, hW9⟩ : ∃ z, z = put5 w6 w.heap.size (.int .i64 0) (.int .i64 0) (.slice none 0 0) (.slice none 0 0) (.slice none 0 0) := ⟨_, rfl⟩
                          have hx9 : Blk W9 w.heap.size 33 #[.int .i64 0, .int .i64 0, .slice none 0 0, .slice none 0 0, .slice none 0 0] := by rw [hW9]; exact put5_blk HXM.out
                          have hf9 : Frm (fun g => g = w.heap.size) w6 W9 := by rw [hW9]; exact put5_frm _ _ _ _ _ _ _
                          unfold put5 at hW9
                          rw [← hW9]
                          obtain ⟨r0, r1, r2, r3, r4⟩ := held5 hx9 (Below.refl _ _)
                          refine bodyPost_ret (v := .tuple #[.agg #[.int .i64 0, .int .i64 0, .slice none 0 0, .slice none 0 0, .slice none 0 0], .bool false]) (by simp [results, Try.results13, go_sem, r0, r1, r2, r3, r4]) rfl ?_
                          exact RRPost.no HN.out (HBM.out.trans (hf9.to_below (fun k _ h1 h2 => by omega) HBM.out.size)) rfl
                      · have t4 : ¬ (0 : Int) < (rest.length : Int) := by omega
                        obtain rfl : rest = [] := List.eq_nil_of_length_eq_zero (by omega)
                        have HBF : Hid (bs.drop n = framesB ps) := Lib.hid (by rw [HBD.out, List.append_nil])
                        clear h0
                        obtain ⟨l, hl⟩ : ∃ l, l = ns.length - 1 := ⟨_, rfl⟩
                        obtain ⟨last, hlast⟩ : ∃ z, z = ns.getD (ns.length - 1) 0 := ⟨_, rfl⟩
                        have hcl : wl.cell? ⟨gN, l, none⟩ = some (.int .i64 last) := by rw [hlast, hl]; exact HCN.out wl HNUM.out _ (by have := HSHP.out; omega)
                        have HCL := Lib.hid hcl; clear hcl
                        have e1 : IntKind.i64.wrap ((ns.length : Int) - 1) = (l : Int) := by rw [IntKind.wrap_i64]; have := HSHP.out; have := HNL.out; omega
                        have t5 : (0 : Int) ≤ (l : Int) := by omega
                        have t6 : (l : Int) < (ns.length : Int) := by have := HSHP.out; omega
                        have HLE : Hid (last = ns.getD (ns.length - 1) 0) := Lib.hid hlast
                        clear hl hlast
                        obtain ⟨pR, hpR⟩ : ∃ z, z = snapB x t xs xs' acc := ⟨_, rfl⟩
                        obtain ⟨pL, hpL⟩ : ∃ z, z = decide ((acc.length : Int) = last) := ⟨_, rfl⟩
                        obtain ⟨pB, hpB⟩ : ∃ z, z = decide (snB x t xs xs' acc = bs) := ⟨_, rfl⟩
                        have hall : ∀ s', isSn bs s' → s' = ⟨x, t, xs, xs', acc⟩ := fun s' h => sn_all (s := ⟨x, t, xs, xs', acc⟩) HUS.out HPN.out HIO.out HBF.out HPS.out HXE.out HTE.out HVS.out HLS.out HAC.out h
                        have HYN : Hid ((tstB pR pL pB = true → res = none) ∧ (tstB pR pL pB = false → res = some ⟨x, t, xs, xs', acc⟩)) := Lib.hid (by
                          refine ⟨fun h => ?_, fun h => ?_⟩
                          · rw [HRES.out]
                            refine readS_none fun s' hs' => ?_
                            have he := hall s' hs'
                            have h3 := sn_last HUS.out HPN.out HIO.out hs'
                            subst he
                            have h1 : pR = true := by rw [hpR]; exact hs'.1
                            have h2 : pB = true := by rw [hpB]; exact decide_eq_true hs'.2.symm
                            have h4 : pL = true := by rw [hpL, HLE.out]; exact decide_eq_true h3
                            rw [h1, h2, h4] at h; cases h
                          · rw [HRES.out]
                            unfold tstB at h
                            simp only [Bool.not_eq_false', Bool.and_eq_true] at h
                            obtain ⟨h1, h2, h3⟩ := h
                            refine readS_iff.2 ⟨by rw [← hpR]; exact h1, ?_⟩
                            rw [hpB] at h3
                            exact (of_decide_eq_true h3).symm)
                        have hin : ∀ W, Below wl.heap.size wl W → SnIn W VA xs LA xs' DV acc := fun W hb => ⟨HVA7.out.sl.2.below hb, HLA7.out.sl.2.below hb, HDV.out.sl.2.below hb⟩
                        have HRG : Hid (∀ W, Below wl.heap.size wl W → Calls Try.prog 7 #[.agg #[.int .i64 x, .int .i64 t, .slice VA xs.length ca, .slice LA xs'.length cl, .slice DV acc.length dc]] W (BoolW pR wl)) := Lib.hid fun W hb => (RSnRight_any (a := ca) (b := cl) (d := dc) (x := x) (t := t) (hin W hb)).mono fun e w' hh => ⟨by rw [hpR]; exact hh.1, hb.trans (hh.2.mono hb.size)⟩
                        have HBT : Hid (pR = true → ∀ W, Below wl.heap.size wl W → Calls Try.prog 11 #[.agg #[.int .i64 x, .int .i64 t, .slice VA xs.length ca, .slice LA xs'.length cl, .slice DV acc.length dc]] W (BtW (snB x t xs xs' acc) wl)) := Lib.hid fun hp W hb => by
                          rw [hpR] at hp
                          obtain ⟨h1, h2, h3, h4⟩ := snap_parts hp
                          obtain ⟨hv, hl'⟩ := rconf_rise h3
                          refine (RSnBytes_any (a := ca) (b := cl) (d := dc) (hin W hb) HDV.out.cap.1 ⟨by omega, by omega⟩ ⟨by omega, by omega⟩ (rise_small hv) (rise_small hl') (fun n hn => by have := rise_mem hv hn; omega) (fun n hn => by have := rise_mem hl' hn; omega) h4).mono fun e w' hh => ?_
                          obtain ⟨v, he, ho, hb2⟩ := hh
                          obtain ⟨AB, cB, rfl⟩ := ho.form
                          exact ⟨AB, cB, he, ho.sl.2, hb.trans (hb2.mono hb.size)⟩
                        have HSM : Hid (∀ W AB cB, Below wl.heap.size wl W → Sl fB W AB (snB x t xs xs' acc) → Calls Try.prog 10 #[.slice AB (snB x t xs xs' acc).length cB, .slice A bs.length c] W (Quiet (.bool pB) W)) := Lib.hid fun W AB cB hb hs => by
                          rw [hpB]; exact SameBytes_any AB A cB c _ _ W hs (HS.out.below (HBR7.out.trans (hb.mono HBR7.out.size)))
                        have HPL2 := Lib.hid hpL
                        have hdr := below_drew0 wl
                        clear hpR hpL hpB hall hin
                        go_wp2_with fail
                        go_cut [189] (fun v wx => v = .bool (tstB pR pL pB) ∧ Below wl.heap.size wl wx)
                        case first =>
                          cases pR with
                          | false =>
                            refine wp_region_held_drew (S := (fun W => W.cell? ⟨sb, 0, none⟩ = some (.int .i64 x) ∧ W.cell? ⟨sb, 1, none⟩ = some (.int .i64 t) ∧ W.cell? ⟨sb, 2, none⟩ = some (.slice VA xs.length ca) ∧ W.cell? ⟨sb, 3, none⟩ = some (.slice LA xs'.length cl) ∧ W.cell? ⟨sb, 4, none⟩ = some (.slice DV acc.length dc) ∧ W.cell? ⟨gN, l, none⟩ = some (.int .i64 last))) (by kernel_rfl) ?_ (fun hHeld => ?_)
                            · exact held6 HSB7.out HCL.out hdr
                            refine wpAnyH_take (i := 0) (v := ?_) rfl (by kernel_rfl) (by kernel_rfl) (by kernel_rfl) (fun _ _ _ h => h) (Or.inl ⟨by kernel_rfl, ?_⟩) (by assumption) ?_
                            rotate_left
                            · intro w hSw; (try dsimp only at hSw); go_simp; try with_reducible rfl
                            try simp only [Act.put, List.getElem_toArray, List.getElem_cons_succ, List.getElem_cons_zero, List.setIfInBounds_toArray, List.set_cons_zero, List.set_cons_succ]
                            refine wpAnyH_ready (rs := [1]) (by kernel_rfl) (by simp) ?_
                            refine AllReadyH.cons rfl (fun K hK => ?_) AllReadyH.nil
                            go_simp
                            (with_reducible refine (HRG.out _ hdr).mono ?_); rintro e wR ⟨rfl, hBR⟩
                            refine hK.out _ _ ?_ (fun hHeld => ?_)
                            · exact held6 HSB7.out HCL.out hBR
                            clear hK K
                            try simp only [Act.put, List.getElem_toArray, List.getElem_cons_succ, List.getElem_cons_zero, List.setIfInBounds_toArray, List.set_cons_zero, List.set_cons_succ]
                            refine wpAnyH_take (i := 2) (v := ?_) rfl (by kernel_rfl) (by kernel_rfl) (by kernel_rfl) (fun _ _ _ h => h) (Or.inl ⟨by kernel_rfl, ?_⟩) (by assumption) ?_
                            rotate_left
                            · intro w hSw; (try dsimp only at hSw); go_simp; try with_reducible rfl
                            try simp only [Act.put, List.getElem_toArray, List.getElem_cons_succ, List.getElem_cons_zero, List.setIfInBounds_toArray, List.set_cons_zero, List.set_cons_succ]
                            refine wpAnyH_take (i := 3) (v := ?_) rfl (by kernel_rfl) (by kernel_rfl) (by kernel_rfl) (fun _ _ _ h => h) (Or.inl ⟨by kernel_rfl, ?_⟩) (by assumption) ?_
                            rotate_left
                            · intro w hSw; (try dsimp only at hSw); go_simp; try with_reducible rfl
                            try simp only [Act.put, List.getElem_toArray, List.getElem_cons_succ, List.getElem_cons_zero, List.setIfInBounds_toArray, List.set_cons_zero, List.set_cons_succ]
                            refine wpAnyH_take (i := 4) (v := undef) rfl (by kernel_rfl) (by kernel_rfl) (by kernel_rfl) (fun _ _ _ h => h) (Or.inr ⟨by kernel_rfl, rfl⟩) (by assumption) ?_
                            try simp only [Act.put, List.getElem_toArray, List.getElem_cons_succ, List.getElem_cons_zero, List.setIfInBounds_toArray, List.set_cons_zero, List.set_cons_succ]
                            refine wpAnyH_take (i := 5) (v := undef) rfl (by kernel_rfl) (by kernel_rfl) (by kernel_rfl) (fun _ _ _ h => h) (Or.inr ⟨by kernel_rfl, rfl⟩) (by assumption) ?_
                            try simp only [Act.put, List.getElem_toArray, List.getElem_cons_succ, List.getElem_cons_zero, List.setIfInBounds_toArray, List.set_cons_zero, List.set_cons_succ]
                            refine wpAnyH_take (i := 6) (v := undef) rfl (by kernel_rfl) (by kernel_rfl) (by kernel_rfl) (fun _ _ _ h => h) (Or.inr ⟨by kernel_rfl, rfl⟩) (by assumption) ?_
                            try simp only [Act.put, List.getElem_toArray, List.getElem_cons_succ, List.getElem_cons_zero, List.setIfInBounds_toArray, List.set_cons_zero, List.set_cons_succ]
                            refine wpAnyH_take (i := 7) (v := undef) rfl (by kernel_rfl) (by kernel_rfl) (by kernel_rfl) (fun _ _ _ h => h) (Or.inr ⟨by kernel_rfl, rfl⟩) (by assumption) ?_
                            try simp only [Act.put, List.getElem_toArray, List.getElem_cons_succ, List.getElem_cons_zero, List.setIfInBounds_toArray, List.set_cons_zero, List.set_cons_succ]
                            refine wpAnyH_take (i := 8) (v := undef) rfl (by kernel_rfl) (by kernel_rfl) (by kernel_rfl) (fun _ _ _ h => h) (Or.inr ⟨by kernel_rfl, rfl⟩) (by assumption) ?_
                            try simp only [Act.put, List.getElem_toArray, List.getElem_cons_succ, List.getElem_cons_zero, List.setIfInBounds_toArray, List.set_cons_zero, List.set_cons_succ]
                            refine wpAnyH_take (i := 9) (v := undef) rfl (by kernel_rfl) (by kernel_rfl) (by kernel_rfl) (fun _ _ _ h => h) (Or.inr ⟨by kernel_rfl, rfl⟩) (by assumption) ?_
                            try simp only [Act.put, List.getElem_toArray, List.getElem_cons_succ, List.getElem_cons_zero, List.setIfInBounds_toArray, List.set_cons_zero, List.set_cons_succ]
                            refine wpAnyH_take (i := 10) (v := undef) rfl (by kernel_rfl) (by kernel_rfl) (by kernel_rfl) (fun _ _ _ h => h) (Or.inr ⟨by kernel_rfl, rfl⟩) (by assumption) ?_
                            try simp only [Act.put, List.getElem_toArray, List.getElem_cons_succ, List.getElem_cons_zero, List.setIfInBounds_toArray, List.set_cons_zero, List.set_cons_succ]
                            refine wpAnyH_take (i := 11) (v := undef) rfl (by kernel_rfl) (by kernel_rfl) (by kernel_rfl) (fun _ _ _ h => h) (Or.inr ⟨by kernel_rfl, rfl⟩) (by assumption) ?_
                            try simp only [Act.put, List.getElem_toArray, List.getElem_cons_succ, List.getElem_cons_zero, List.setIfInBounds_toArray, List.set_cons_zero, List.set_cons_succ]
                            refine wpAnyH_take (i := 12) (v := undef) rfl (by kernel_rfl) (by kernel_rfl) (by kernel_rfl) (fun _ _ _ h => h) (Or.inr ⟨by kernel_rfl, rfl⟩) (by assumption) ?_
                            try simp only [Act.put, List.getElem_toArray, List.getElem_cons_succ, List.getElem_cons_zero, List.setIfInBounds_toArray, List.set_cons_zero, List.set_cons_succ]
                            refine wpAnyH_take (i := 13) (v := undef) rfl (by kernel_rfl) (by kernel_rfl) (by kernel_rfl) (fun _ _ _ h => h) (Or.inr ⟨by kernel_rfl, rfl⟩) (by assumption) ?_
                            try simp only [Act.put, List.getElem_toArray, List.getElem_cons_succ, List.getElem_cons_zero, List.setIfInBounds_toArray, List.set_cons_zero, List.set_cons_succ]
                            refine wpAnyH_take (i := 14) (v := ?_) rfl (by kernel_rfl) (by kernel_rfl) (by kernel_rfl) (fun _ _ _ h => h) (Or.inl ⟨by kernel_rfl, ?_⟩) (by assumption) ?_
                            rotate_left
                            · intro w hSw; (try dsimp only at hSw); go_simp; try with_reducible rfl
                            try simp only [Act.put, List.getElem_toArray, List.getElem_cons_succ, List.getElem_cons_zero, List.setIfInBounds_toArray, List.set_cons_zero, List.set_cons_succ]
                            refine wpAnyH_take (i := 15) (v := ?_) rfl (by kernel_rfl) (by kernel_rfl) (by kernel_rfl) (fun _ _ _ h => h) (Or.inl ⟨by kernel_rfl, ?_⟩) (by assumption) ?_
                            rotate_left
                            · intro w hSw; (try dsimp only at hSw); go_simp; try with_reducible rfl
                            try simp only [Act.put, List.getElem_toArray, List.getElem_cons_succ, List.getElem_cons_zero, List.setIfInBounds_toArray, List.set_cons_zero, List.set_cons_succ]
                            refine wpAnyH_take (i := 16) (v := undef) rfl (by kernel_rfl) (by kernel_rfl) (by kernel_rfl) (fun _ _ _ h => h) (Or.inr ⟨by kernel_rfl, rfl⟩) (by assumption) ?_
                            try simp only [Act.put, List.getElem_toArray, List.getElem_cons_succ, List.getElem_cons_zero, List.setIfInBounds_toArray, List.set_cons_zero, List.set_cons_succ]
                            refine wpAnyH_take (i := 17) (v := undef) rfl (by kernel_rfl) (by kernel_rfl) (by kernel_rfl) (fun _ _ _ h => h) (Or.inr ⟨by kernel_rfl, rfl⟩) (by assumption) ?_
                            try simp only [Act.put, List.getElem_toArray, List.getElem_cons_succ, List.getElem_cons_zero, List.setIfInBounds_toArray, List.set_cons_zero, List.set_cons_succ]
                            refine wpAnyH_take (i := 18) (v := undef) rfl (by kernel_rfl) (by kernel_rfl) (by kernel_rfl) (fun _ _ _ h => h) (Or.inr ⟨by kernel_rfl, rfl⟩) (by assumption) ?_
                            try simp only [Act.put, List.getElem_toArray, List.getElem_cons_succ, List.getElem_cons_zero, List.setIfInBounds_toArray, List.set_cons_zero, List.set_cons_succ]
                            refine wpAnyH_take (i := 19) (v := undef) rfl (by kernel_rfl) (by kernel_rfl) (by kernel_rfl) (fun _ _ _ h => h) (Or.inr ⟨by kernel_rfl, rfl⟩) (by assumption) ?_
                            try simp only [Act.put, List.getElem_toArray, List.getElem_cons_succ, List.getElem_cons_zero, List.setIfInBounds_toArray, List.set_cons_zero, List.set_cons_succ]
                            refine wpAnyH_take (i := 20) (v := undef) rfl (by kernel_rfl) (by kernel_rfl) (by kernel_rfl) (fun _ _ _ h => h) (Or.inr ⟨by kernel_rfl, rfl⟩) (by assumption) ?_
                            try simp only [Act.put, List.getElem_toArray, List.getElem_cons_succ, List.getElem_cons_zero, List.setIfInBounds_toArray, List.set_cons_zero, List.set_cons_succ]
                            refine wpAnyH_take (i := 21) (v := ?_) rfl (by kernel_rfl) (by kernel_rfl) (by kernel_rfl) (fun _ _ _ h => h) (Or.inl ⟨by kernel_rfl, ?_⟩) (by assumption) ?_
                            rotate_left
                            · intro w hSw; (try dsimp only at hSw); go_simp; try with_reducible rfl
                            try simp only [Act.put, List.getElem_toArray, List.getElem_cons_succ, List.getElem_cons_zero, List.setIfInBounds_toArray, List.set_cons_zero, List.set_cons_succ]
                            refine wpAnyH_done (by kernel_rfl) ?_ _
                            go_wp2_with fail
                            go_meet
                            exact ⟨rfl, hBR⟩
                          | true =>
                            have HBT := Lib.hid (HBT.out rfl)
                            obtain ⟨sn, hsn⟩ : ∃ z, z = snB x t xs xs' acc := ⟨_, rfl⟩
                            rw [← hsn] at HBT HSM
                            clear hsn
                            cases pL with
                            | false =>
                              have t8 : ((acc.length : Int) != last) = true := by rw [bne_iff_ne]; exact of_decide_eq_false HPL2.out.symm
                              refine wp_region_held_drew (S := (fun W => W.cell? ⟨sb, 0, none⟩ = some (.int .i64 x) ∧ W.cell? ⟨sb, 1, none⟩ = some (.int .i64 t) ∧ W.cell? ⟨sb, 2, none⟩ = some (.slice VA xs.length ca) ∧ W.cell? ⟨sb, 3, none⟩ = some (.slice LA xs'.length cl) ∧ W.cell? ⟨sb, 4, none⟩ = some (.slice DV acc.length dc) ∧ W.cell? ⟨gN, l, none⟩ = some (.int .i64 last))) (by kernel_rfl) ?_ (fun hHeld => ?_)
                              · exact held6 HSB7.out HCL.out hdr
                              refine wpAnyH_take (i := 0) (v := ?_) rfl (by kernel_rfl) (by kernel_rfl) (by kernel_rfl) (fun _ _ _ h => h) (Or.inl ⟨by kernel_rfl, ?_⟩) (by assumption) ?_
                              rotate_left
                              · intro w hSw; (try dsimp only at hSw); go_simp; try with_reducible rfl
                              try simp only [Act.put, List.getElem_toArray, List.getElem_cons_succ, List.getElem_cons_zero, List.setIfInBounds_toArray, List.set_cons_zero, List.set_cons_succ]
                              refine wpAnyH_ready (rs := [1]) (by kernel_rfl) (by simp) ?_
                              refine AllReadyH.cons rfl (fun K hK => ?_) AllReadyH.nil
                              go_simp
                              (with_reducible refine (HRG.out _ hdr).mono ?_); rintro e wR ⟨rfl, hBR⟩
                              refine hK.out _ _ ?_ (fun hHeld => ?_)
                              · exact held6 HSB7.out HCL.out hBR
                              clear hK K
                              try simp only [Act.put, List.getElem_toArray, List.getElem_cons_succ, List.getElem_cons_zero, List.setIfInBounds_toArray, List.set_cons_zero, List.set_cons_succ]
                              refine wpAnyH_take (i := 2) (v := ?_) rfl (by kernel_rfl) (by kernel_rfl) (by kernel_rfl) (fun _ _ _ h => h) (Or.inl ⟨by kernel_rfl, ?_⟩) (by assumption) ?_
                              rotate_left
                              · intro w hSw; (try dsimp only at hSw); go_simp; try with_reducible rfl
                              try simp only [Act.put, List.getElem_toArray, List.getElem_cons_succ, List.getElem_cons_zero, List.setIfInBounds_toArray, List.set_cons_zero, List.set_cons_succ]
                              refine wpAnyH_take (i := 3) (v := ?_) rfl (by kernel_rfl) (by kernel_rfl) (by kernel_rfl) (fun _ _ _ h => h) (Or.inl ⟨by kernel_rfl, ?_⟩) (by assumption) ?_
                              rotate_left
                              · intro w hSw; (try dsimp only at hSw); go_simp; try with_reducible rfl
                              try simp only [Act.put, List.getElem_toArray, List.getElem_cons_succ, List.getElem_cons_zero, List.setIfInBounds_toArray, List.set_cons_zero, List.set_cons_succ]
                              refine wpAnyH_take (i := 4) (v := ?_) rfl (by kernel_rfl) (by kernel_rfl) (by kernel_rfl) (fun _ _ _ h => h) (Or.inl ⟨by kernel_rfl, ?_⟩) (by assumption) ?_
                              rotate_left
                              · intro w hSw; (try dsimp only at hSw); go_simp; try with_reducible rfl
                              try simp only [Act.put, List.getElem_toArray, List.getElem_cons_succ, List.getElem_cons_zero, List.setIfInBounds_toArray, List.set_cons_zero, List.set_cons_succ]
                              refine wpAnyH_take (i := 5) (v := ?_) rfl (by kernel_rfl) (by kernel_rfl) (by kernel_rfl) (fun _ _ _ h => h) (Or.inl ⟨by kernel_rfl, ?_⟩) (by assumption) ?_
                              rotate_left
                              · intro w hSw; (try dsimp only at hSw); go_simp; try with_reducible rfl
                              try simp only [Act.put, List.getElem_toArray, List.getElem_cons_succ, List.getElem_cons_zero, List.setIfInBounds_toArray, List.set_cons_zero, List.set_cons_succ]
                              refine wpAnyH_take (i := 6) (v := ?_) rfl (by kernel_rfl) (by kernel_rfl) (by kernel_rfl) (fun _ _ _ h => h) (Or.inl ⟨by kernel_rfl, ?_⟩) (by assumption) ?_
                              rotate_left
                              · intro w hSw; (try dsimp only at hSw); go_simp; try with_reducible rfl
                              try simp only [Act.put, List.getElem_toArray, List.getElem_cons_succ, List.getElem_cons_zero, List.setIfInBounds_toArray, List.set_cons_zero, List.set_cons_succ]
                              refine wpAnyH_take (i := 7) (v := ?_) rfl (by kernel_rfl) (by kernel_rfl) (by kernel_rfl) (fun _ _ _ h => h) (Or.inl ⟨by kernel_rfl, ?_⟩) (by assumption) ?_
                              rotate_left
                              · intro w hSw; (try dsimp only at hSw); go_simp; try with_reducible rfl
                              try simp only [Act.put, List.getElem_toArray, List.getElem_cons_succ, List.getElem_cons_zero, List.setIfInBounds_toArray, List.set_cons_zero, List.set_cons_succ]
                              refine wpAnyH_take (i := 8) (v := ?_) rfl (by kernel_rfl) (by kernel_rfl) (by kernel_rfl) (fun _ _ _ h => h) (Or.inl ⟨by kernel_rfl, ?_⟩) (by assumption) ?_
                              rotate_left
                              · intro w hSw; (try dsimp only at hSw); go_simp; try with_reducible rfl
                              try simp only [Act.put, List.getElem_toArray, List.getElem_cons_succ, List.getElem_cons_zero, List.setIfInBounds_toArray, List.set_cons_zero, List.set_cons_succ]
                              refine wpAnyH_take (i := 9) (v := ?_) rfl (by kernel_rfl) (by kernel_rfl) (by kernel_rfl) (fun _ _ _ h => h) (Or.inl ⟨by kernel_rfl, ?_⟩) (by assumption) ?_
                              rotate_left
                              · intro w hSw; (try dsimp only at hSw); go_simp; try with_reducible rfl
                              try simp only [Act.put, List.getElem_toArray, List.getElem_cons_succ, List.getElem_cons_zero, List.setIfInBounds_toArray, List.set_cons_zero, List.set_cons_succ]
                              refine wpAnyH_take (i := 10) (v := ?_) rfl (by kernel_rfl) (by kernel_rfl) (by kernel_rfl) (fun _ _ _ h => h) (Or.inl ⟨by kernel_rfl, ?_⟩) (by assumption) ?_
                              rotate_left
                              · intro w hSw; (try dsimp only at hSw); go_simp; try with_reducible rfl
                              try simp only [Act.put, List.getElem_toArray, List.getElem_cons_succ, List.getElem_cons_zero, List.setIfInBounds_toArray, List.set_cons_zero, List.set_cons_succ]
                              refine wpAnyH_take (i := 11) (v := ?_) rfl (by kernel_rfl) (by kernel_rfl) (by kernel_rfl) (fun _ _ _ h => h) (Or.inl ⟨by kernel_rfl, ?_⟩) (by assumption) ?_
                              rotate_left
                              · intro w hSw; (try dsimp only at hSw); go_simp; try with_reducible rfl
                              try simp only [Act.put, List.getElem_toArray, List.getElem_cons_succ, List.getElem_cons_zero, List.setIfInBounds_toArray, List.set_cons_zero, List.set_cons_succ]
                              refine wpAnyH_take (i := 12) (v := ?_) rfl (by kernel_rfl) (by kernel_rfl) (by kernel_rfl) (fun _ _ _ h => h) (Or.inl ⟨by kernel_rfl, ?_⟩) (by assumption) ?_
                              rotate_left
                              · intro w hSw; (try dsimp only at hSw); go_simp; try with_reducible rfl
                              try simp only [Act.put, List.getElem_toArray, List.getElem_cons_succ, List.getElem_cons_zero, List.setIfInBounds_toArray, List.set_cons_zero, List.set_cons_succ]
                              refine wpAnyH_take (i := 13) (v := ?_) rfl (by kernel_rfl) (by kernel_rfl) (by kernel_rfl) (fun _ _ _ h => h) (Or.inl ⟨by kernel_rfl, ?_⟩) (by assumption) ?_
                              rotate_left
                              · intro w hSw; (try dsimp only at hSw); go_simp; try with_reducible rfl
                              try simp only [Act.put, List.getElem_toArray, List.getElem_cons_succ, List.getElem_cons_zero, List.setIfInBounds_toArray, List.set_cons_zero, List.set_cons_succ]
                              refine wpAnyH_take (i := 14) (v := ?_) rfl (by kernel_rfl) (by kernel_rfl) (by kernel_rfl) (fun _ _ _ h => h) (Or.inl ⟨by kernel_rfl, ?_⟩) (by assumption) ?_
                              rotate_left
                              · intro w hSw; (try dsimp only at hSw); go_simp; try with_reducible rfl
                              try simp only [Act.put, List.getElem_toArray, List.getElem_cons_succ, List.getElem_cons_zero, List.setIfInBounds_toArray, List.set_cons_zero, List.set_cons_succ]
                              refine wpAnyH_take (i := 15) (v := ?_) rfl (by kernel_rfl) (by kernel_rfl) (by kernel_rfl) (fun _ _ _ h => h) (Or.inl ⟨by kernel_rfl, ?_⟩) (by assumption) ?_
                              rotate_left
                              · intro w hSw; (try dsimp only at hSw); go_simp; try with_reducible rfl
                              try simp only [Act.put, List.getElem_toArray, List.getElem_cons_succ, List.getElem_cons_zero, List.setIfInBounds_toArray, List.set_cons_zero, List.set_cons_succ]
                              refine wpAnyH_take (i := 16) (v := undef) rfl (by kernel_rfl) (by kernel_rfl) (by kernel_rfl) (fun _ _ _ h => h) (Or.inr ⟨by kernel_rfl, rfl⟩) (by assumption) ?_
                              try simp only [Act.put, List.getElem_toArray, List.getElem_cons_succ, List.getElem_cons_zero, List.setIfInBounds_toArray, List.set_cons_zero, List.set_cons_succ]
                              refine wpAnyH_take (i := 17) (v := undef) rfl (by kernel_rfl) (by kernel_rfl) (by kernel_rfl) (fun _ _ _ h => h) (Or.inr ⟨by kernel_rfl, rfl⟩) (by assumption) ?_
                              try simp only [Act.put, List.getElem_toArray, List.getElem_cons_succ, List.getElem_cons_zero, List.setIfInBounds_toArray, List.set_cons_zero, List.set_cons_succ]
                              refine wpAnyH_take (i := 18) (v := undef) rfl (by kernel_rfl) (by kernel_rfl) (by kernel_rfl) (fun _ _ _ h => h) (Or.inr ⟨by kernel_rfl, rfl⟩) (by assumption) ?_
                              try simp only [Act.put, List.getElem_toArray, List.getElem_cons_succ, List.getElem_cons_zero, List.setIfInBounds_toArray, List.set_cons_zero, List.set_cons_succ]
                              refine wpAnyH_take (i := 19) (v := undef) rfl (by kernel_rfl) (by kernel_rfl) (by kernel_rfl) (fun _ _ _ h => h) (Or.inr ⟨by kernel_rfl, rfl⟩) (by assumption) ?_
                              try simp only [Act.put, List.getElem_toArray, List.getElem_cons_succ, List.getElem_cons_zero, List.setIfInBounds_toArray, List.set_cons_zero, List.set_cons_succ]
                              refine wpAnyH_take (i := 20) (v := undef) rfl (by kernel_rfl) (by kernel_rfl) (by kernel_rfl) (fun _ _ _ h => h) (Or.inr ⟨by kernel_rfl, rfl⟩) (by assumption) ?_
                              try simp only [Act.put, List.getElem_toArray, List.getElem_cons_succ, List.getElem_cons_zero, List.setIfInBounds_toArray, List.set_cons_zero, List.set_cons_succ]
                              refine wpAnyH_take (i := 21) (v := ?_) rfl (by kernel_rfl) (by kernel_rfl) (by kernel_rfl) (fun _ _ _ h => h) (Or.inl ⟨by kernel_rfl, ?_⟩) (by assumption) ?_
                              rotate_left
                              · intro w hSw; (try dsimp only at hSw); go_simp; try with_reducible rfl
                              try simp only [Act.put, List.getElem_toArray, List.getElem_cons_succ, List.getElem_cons_zero, List.setIfInBounds_toArray, List.set_cons_zero, List.set_cons_succ]
                              refine wpAnyH_done (by kernel_rfl) ?_ _
                              go_wp2_with fail
                              go_meet
                              exact ⟨rfl, hBR⟩
                            | true =>
                              have t8 : ((acc.length : Int) != last) = false := by rw [bne_eq_false_iff_eq]; exact of_decide_eq_true HPL2.out.symm
                              cases pB with
                              | false =>
                                refine wp_region_held_drew (S := (fun W => W.cell? ⟨sb, 0, none⟩ = some (.int .i64 x) ∧ W.cell? ⟨sb, 1, none⟩ = some (.int .i64 t) ∧ W.cell? ⟨sb, 2, none⟩ = some (.slice VA xs.length ca) ∧ W.cell? ⟨sb, 3, none⟩ = some (.slice LA xs'.length cl) ∧ W.cell? ⟨sb, 4, none⟩ = some (.slice DV acc.length dc) ∧ W.cell? ⟨gN, l, none⟩ = some (.int .i64 last))) (by kernel_rfl) ?_ (fun hHeld => ?_)
                                · exact held6 HSB7.out HCL.out hdr
                                refine wpAnyH_take (i := 0) (v := ?_) rfl (by kernel_rfl) (by kernel_rfl) (by kernel_rfl) (fun _ _ _ h => h) (Or.inl ⟨by kernel_rfl, ?_⟩) (by assumption) ?_
                                rotate_left
                                · intro w hSw; (try dsimp only at hSw); go_simp; try with_reducible rfl
                                try simp only [Act.put, List.getElem_toArray, List.getElem_cons_succ, List.getElem_cons_zero, List.setIfInBounds_toArray, List.set_cons_zero, List.set_cons_succ]
                                refine wpAnyH_ready (rs := [1]) (by kernel_rfl) (by simp) ?_
                                refine AllReadyH.cons rfl (fun K hK => ?_) AllReadyH.nil
                                go_simp
                                (with_reducible refine (HRG.out _ hdr).mono ?_); rintro e wR ⟨rfl, hBR⟩
                                refine hK.out _ _ ?_ (fun hHeld => ?_)
                                · exact held6 HSB7.out HCL.out hBR
                                clear hK K
                                try simp only [Act.put, List.getElem_toArray, List.getElem_cons_succ, List.getElem_cons_zero, List.setIfInBounds_toArray, List.set_cons_zero, List.set_cons_succ]
                                refine wpAnyH_take (i := 2) (v := ?_) rfl (by kernel_rfl) (by kernel_rfl) (by kernel_rfl) (fun _ _ _ h => h) (Or.inl ⟨by kernel_rfl, ?_⟩) (by assumption) ?_
                                rotate_left
                                · intro w hSw; (try dsimp only at hSw); go_simp; try with_reducible rfl
                                try simp only [Act.put, List.getElem_toArray, List.getElem_cons_succ, List.getElem_cons_zero, List.setIfInBounds_toArray, List.set_cons_zero, List.set_cons_succ]
                                refine wpAnyH_take (i := 3) (v := ?_) rfl (by kernel_rfl) (by kernel_rfl) (by kernel_rfl) (fun _ _ _ h => h) (Or.inl ⟨by kernel_rfl, ?_⟩) (by assumption) ?_
                                rotate_left
                                · intro w hSw; (try dsimp only at hSw); go_simp; try with_reducible rfl
                                try simp only [Act.put, List.getElem_toArray, List.getElem_cons_succ, List.getElem_cons_zero, List.setIfInBounds_toArray, List.set_cons_zero, List.set_cons_succ]
                                refine wpAnyH_take (i := 4) (v := ?_) rfl (by kernel_rfl) (by kernel_rfl) (by kernel_rfl) (fun _ _ _ h => h) (Or.inl ⟨by kernel_rfl, ?_⟩) (by assumption) ?_
                                rotate_left
                                · intro w hSw; (try dsimp only at hSw); go_simp; try with_reducible rfl
                                try simp only [Act.put, List.getElem_toArray, List.getElem_cons_succ, List.getElem_cons_zero, List.setIfInBounds_toArray, List.set_cons_zero, List.set_cons_succ]
                                refine wpAnyH_take (i := 5) (v := ?_) rfl (by kernel_rfl) (by kernel_rfl) (by kernel_rfl) (fun _ _ _ h => h) (Or.inl ⟨by kernel_rfl, ?_⟩) (by assumption) ?_
                                rotate_left
                                · intro w hSw; (try dsimp only at hSw); go_simp; try with_reducible rfl
                                try simp only [Act.put, List.getElem_toArray, List.getElem_cons_succ, List.getElem_cons_zero, List.setIfInBounds_toArray, List.set_cons_zero, List.set_cons_succ]
                                refine wpAnyH_take (i := 6) (v := ?_) rfl (by kernel_rfl) (by kernel_rfl) (by kernel_rfl) (fun _ _ _ h => h) (Or.inl ⟨by kernel_rfl, ?_⟩) (by assumption) ?_
                                rotate_left
                                · intro w hSw; (try dsimp only at hSw); go_simp; try with_reducible rfl
                                try simp only [Act.put, List.getElem_toArray, List.getElem_cons_succ, List.getElem_cons_zero, List.setIfInBounds_toArray, List.set_cons_zero, List.set_cons_succ]
                                refine wpAnyH_take (i := 7) (v := ?_) rfl (by kernel_rfl) (by kernel_rfl) (by kernel_rfl) (fun _ _ _ h => h) (Or.inl ⟨by kernel_rfl, ?_⟩) (by assumption) ?_
                                rotate_left
                                · intro w hSw; (try dsimp only at hSw); go_simp; try with_reducible rfl
                                try simp only [Act.put, List.getElem_toArray, List.getElem_cons_succ, List.getElem_cons_zero, List.setIfInBounds_toArray, List.set_cons_zero, List.set_cons_succ]
                                refine wpAnyH_take (i := 8) (v := ?_) rfl (by kernel_rfl) (by kernel_rfl) (by kernel_rfl) (fun _ _ _ h => h) (Or.inl ⟨by kernel_rfl, ?_⟩) (by assumption) ?_
                                rotate_left
                                · intro w hSw; (try dsimp only at hSw); go_simp; try with_reducible rfl
                                try simp only [Act.put, List.getElem_toArray, List.getElem_cons_succ, List.getElem_cons_zero, List.setIfInBounds_toArray, List.set_cons_zero, List.set_cons_succ]
                                refine wpAnyH_take (i := 9) (v := ?_) rfl (by kernel_rfl) (by kernel_rfl) (by kernel_rfl) (fun _ _ _ h => h) (Or.inl ⟨by kernel_rfl, ?_⟩) (by assumption) ?_
                                rotate_left
                                · intro w hSw; (try dsimp only at hSw); go_simp; try with_reducible rfl
                                try simp only [Act.put, List.getElem_toArray, List.getElem_cons_succ, List.getElem_cons_zero, List.setIfInBounds_toArray, List.set_cons_zero, List.set_cons_succ]
                                refine wpAnyH_take (i := 10) (v := ?_) rfl (by kernel_rfl) (by kernel_rfl) (by kernel_rfl) (fun _ _ _ h => h) (Or.inl ⟨by kernel_rfl, ?_⟩) (by assumption) ?_
                                rotate_left
                                · intro w hSw; (try dsimp only at hSw); go_simp; try with_reducible rfl
                                try simp only [Act.put, List.getElem_toArray, List.getElem_cons_succ, List.getElem_cons_zero, List.setIfInBounds_toArray, List.set_cons_zero, List.set_cons_succ]
                                refine wpAnyH_take (i := 11) (v := ?_) rfl (by kernel_rfl) (by kernel_rfl) (by kernel_rfl) (fun _ _ _ h => h) (Or.inl ⟨by kernel_rfl, ?_⟩) (by assumption) ?_
                                rotate_left
                                · intro w hSw; (try dsimp only at hSw); go_simp; try with_reducible rfl
                                try simp only [Act.put, List.getElem_toArray, List.getElem_cons_succ, List.getElem_cons_zero, List.setIfInBounds_toArray, List.set_cons_zero, List.set_cons_succ]
                                refine wpAnyH_take (i := 12) (v := ?_) rfl (by kernel_rfl) (by kernel_rfl) (by kernel_rfl) (fun _ _ _ h => h) (Or.inl ⟨by kernel_rfl, ?_⟩) (by assumption) ?_
                                rotate_left
                                · intro w hSw; (try dsimp only at hSw); go_simp; try with_reducible rfl
                                try simp only [Act.put, List.getElem_toArray, List.getElem_cons_succ, List.getElem_cons_zero, List.setIfInBounds_toArray, List.set_cons_zero, List.set_cons_succ]
                                refine wpAnyH_take (i := 13) (v := ?_) rfl (by kernel_rfl) (by kernel_rfl) (by kernel_rfl) (fun _ _ _ h => h) (Or.inl ⟨by kernel_rfl, ?_⟩) (by assumption) ?_
                                rotate_left
                                · intro w hSw; (try dsimp only at hSw); go_simp; try with_reducible rfl
                                try simp only [Act.put, List.getElem_toArray, List.getElem_cons_succ, List.getElem_cons_zero, List.setIfInBounds_toArray, List.set_cons_zero, List.set_cons_succ]
                                refine wpAnyH_take (i := 14) (v := ?_) rfl (by kernel_rfl) (by kernel_rfl) (by kernel_rfl) (fun _ _ _ h => h) (Or.inl ⟨by kernel_rfl, ?_⟩) (by assumption) ?_
                                rotate_left
                                · intro w hSw; (try dsimp only at hSw); go_simp; try with_reducible rfl
                                try simp only [Act.put, List.getElem_toArray, List.getElem_cons_succ, List.getElem_cons_zero, List.setIfInBounds_toArray, List.set_cons_zero, List.set_cons_succ]
                                refine wpAnyH_take (i := 15) (v := ?_) rfl (by kernel_rfl) (by kernel_rfl) (by kernel_rfl) (fun _ _ _ h => h) (Or.inl ⟨by kernel_rfl, ?_⟩) (by assumption) ?_
                                rotate_left
                                · intro w hSw; (try dsimp only at hSw); go_simp; try with_reducible rfl
                                try simp only [Act.put, List.getElem_toArray, List.getElem_cons_succ, List.getElem_cons_zero, List.setIfInBounds_toArray, List.set_cons_zero, List.set_cons_succ]
                                refine wpAnyH_take (i := 16) (v := ?_) rfl (by kernel_rfl) (by kernel_rfl) (by kernel_rfl) (fun _ _ _ h => h) (Or.inl ⟨by kernel_rfl, ?_⟩) (by assumption) ?_
                                rotate_left
                                · intro w hSw; (try dsimp only at hSw); go_simp; try with_reducible rfl
                                try simp only [Act.put, List.getElem_toArray, List.getElem_cons_succ, List.getElem_cons_zero, List.setIfInBounds_toArray, List.set_cons_zero, List.set_cons_succ]
                                refine wpAnyH_take (i := 18) (v := ?_) rfl (by kernel_rfl) (by kernel_rfl) (by kernel_rfl) (fun _ _ _ h => h) (Or.inl ⟨by kernel_rfl, ?_⟩) (by assumption) ?_
                                rotate_left
                                · intro w hSw; (try dsimp only at hSw); go_simp; try with_reducible rfl
                                try simp only [Act.put, List.getElem_toArray, List.getElem_cons_succ, List.getElem_cons_zero, List.setIfInBounds_toArray, List.set_cons_zero, List.set_cons_succ]
                                refine wpAnyH_ready (rs := [17]) (by kernel_rfl) (by simp) ?_
                                refine AllReadyH.cons rfl (fun K hK => ?_) AllReadyH.nil
                                go_simp
                                (with_reducible refine (HBT.out _ hBR).mono ?_); rintro e wB ⟨AB, cB, rfl, hslB, hBB⟩
                                refine hK.out _ _ ?_ (fun hHeld => ?_)
                                · exact held6 HSB7.out HCL.out hBB
                                clear hK K
                                try simp only [Act.put, List.getElem_toArray, List.getElem_cons_succ, List.getElem_cons_zero, List.setIfInBounds_toArray, List.set_cons_zero, List.set_cons_succ]
                                refine wpAnyH_ready (rs := [19]) (by kernel_rfl) (by simp) ?_
                                refine AllReadyH.cons rfl (fun K hK => ?_) AllReadyH.nil
                                go_simp
                                (with_reducible refine (HSM.out _ _ _ hBB hslB).mono ?_); rintro e wS ⟨rfl, mS, rfl⟩
                                refine hK.out _ _ ?_ (fun hHeld => ?_)
                                · exact held6 HSB7.out HCL.out (below_drewN hBB mS)
                                clear hK K
                                try simp only [Act.put, List.getElem_toArray, List.getElem_cons_succ, List.getElem_cons_zero, List.setIfInBounds_toArray, List.set_cons_zero, List.set_cons_succ]
                                refine wpAnyH_take (i := 20) (v := ?_) rfl (by kernel_rfl) (by kernel_rfl) (by kernel_rfl) (fun _ _ _ h => h) (Or.inl ⟨by kernel_rfl, ?_⟩) (by assumption) ?_
                                rotate_left
                                · intro w hSw; (try dsimp only at hSw); go_simp; try with_reducible rfl
                                try simp only [Act.put, List.getElem_toArray, List.getElem_cons_succ, List.getElem_cons_zero, List.setIfInBounds_toArray, List.set_cons_zero, List.set_cons_succ]
                                refine wpAnyH_take (i := 21) (v := ?_) rfl (by kernel_rfl) (by kernel_rfl) (by kernel_rfl) (fun _ _ _ h => h) (Or.inl ⟨by kernel_rfl, ?_⟩) (by assumption) ?_
                                rotate_left
                                · intro w hSw; (try dsimp only at hSw); go_simp; try with_reducible rfl
                                try simp only [Act.put, List.getElem_toArray, List.getElem_cons_succ, List.getElem_cons_zero, List.setIfInBounds_toArray, List.set_cons_zero, List.set_cons_succ]
                                refine wpAnyH_done (by kernel_rfl) ?_ _
                                go_wp2_with fail
                                go_meet
                                exact ⟨rfl, below_drewN hBB mS⟩
                              | true =>
                                refine wp_region_held_drew (S := (fun W => W.cell? ⟨sb, 0, none⟩ = some (.int .i64 x) ∧ W.cell? ⟨sb, 1, none⟩ = some (.int .i64 t) ∧ W.cell? ⟨sb, 2, none⟩ = some (.slice VA xs.length ca) ∧ W.cell? ⟨sb, 3, none⟩ = some (.slice LA xs'.length cl) ∧ W.cell? ⟨sb, 4, none⟩ = some (.slice DV acc.length dc) ∧ W.cell? ⟨gN, l, none⟩ = some (.int .i64 last))) (by kernel_rfl) ?_ (fun hHeld => ?_)
                                · exact held6 HSB7.out HCL.out hdr
                                refine wpAnyH_take (i := 0) (v := ?_) rfl (by kernel_rfl) (by kernel_rfl) (by kernel_rfl) (fun _ _ _ h => h) (Or.inl ⟨by kernel_rfl, ?_⟩) (by assumption) ?_
                                rotate_left
                                · intro w hSw; (try dsimp only at hSw); go_simp; try with_reducible rfl
                                try simp only [Act.put, List.getElem_toArray, List.getElem_cons_succ, List.getElem_cons_zero, List.setIfInBounds_toArray, List.set_cons_zero, List.set_cons_succ]
                                refine wpAnyH_ready (rs := [1]) (by kernel_rfl) (by simp) ?_
                                refine AllReadyH.cons rfl (fun K hK => ?_) AllReadyH.nil
                                go_simp
                                (with_reducible refine (HRG.out _ hdr).mono ?_); rintro e wR ⟨rfl, hBR⟩
                                refine hK.out _ _ ?_ (fun hHeld => ?_)
                                · exact held6 HSB7.out HCL.out hBR
                                clear hK K
                                try simp only [Act.put, List.getElem_toArray, List.getElem_cons_succ, List.getElem_cons_zero, List.setIfInBounds_toArray, List.set_cons_zero, List.set_cons_succ]
                                refine wpAnyH_take (i := 2) (v := ?_) rfl (by kernel_rfl) (by kernel_rfl) (by kernel_rfl) (fun _ _ _ h => h) (Or.inl ⟨by kernel_rfl, ?_⟩) (by assumption) ?_
                                rotate_left
                                · intro w hSw; (try dsimp only at hSw); go_simp; try with_reducible rfl
                                try simp only [Act.put, List.getElem_toArray, List.getElem_cons_succ, List.getElem_cons_zero, List.setIfInBounds_toArray, List.set_cons_zero, List.set_cons_succ]
                                refine wpAnyH_take (i := 3) (v := ?_) rfl (by kernel_rfl) (by kernel_rfl) (by kernel_rfl) (fun _ _ _ h => h) (Or.inl ⟨by kernel_rfl, ?_⟩) (by assumption) ?_
                                rotate_left
                                · intro w hSw; (try dsimp only at hSw); go_simp; try with_reducible rfl
                                try simp only [Act.put, List.getElem_toArray, List.getElem_cons_succ, List.getElem_cons_zero, List.setIfInBounds_toArray, List.set_cons_zero, List.set_cons_succ]
                                refine wpAnyH_take (i := 4) (v := ?_) rfl (by kernel_rfl) (by kernel_rfl) (by kernel_rfl) (fun _ _ _ h => h) (Or.inl ⟨by kernel_rfl, ?_⟩) (by assumption) ?_
                                rotate_left
                                · intro w hSw; (try dsimp only at hSw); go_simp; try with_reducible rfl
                                try simp only [Act.put, List.getElem_toArray, List.getElem_cons_succ, List.getElem_cons_zero, List.setIfInBounds_toArray, List.set_cons_zero, List.set_cons_succ]
                                refine wpAnyH_take (i := 5) (v := ?_) rfl (by kernel_rfl) (by kernel_rfl) (by kernel_rfl) (fun _ _ _ h => h) (Or.inl ⟨by kernel_rfl, ?_⟩) (by assumption) ?_
                                rotate_left
                                · intro w hSw; (try dsimp only at hSw); go_simp; try with_reducible rfl
                                try simp only [Act.put, List.getElem_toArray, List.getElem_cons_succ, List.getElem_cons_zero, List.setIfInBounds_toArray, List.set_cons_zero, List.set_cons_succ]
                                refine wpAnyH_take (i := 6) (v := ?_) rfl (by kernel_rfl) (by kernel_rfl) (by kernel_rfl) (fun _ _ _ h => h) (Or.inl ⟨by kernel_rfl, ?_⟩) (by assumption) ?_
                                rotate_left
                                · intro w hSw; (try dsimp only at hSw); go_simp; try with_reducible rfl
                                try simp only [Act.put, List.getElem_toArray, List.getElem_cons_succ, List.getElem_cons_zero, List.setIfInBounds_toArray, List.set_cons_zero, List.set_cons_succ]
                                refine wpAnyH_take (i := 7) (v := ?_) rfl (by kernel_rfl) (by kernel_rfl) (by kernel_rfl) (fun _ _ _ h => h) (Or.inl ⟨by kernel_rfl, ?_⟩) (by assumption) ?_
                                rotate_left
                                · intro w hSw; (try dsimp only at hSw); go_simp; try with_reducible rfl
                                try simp only [Act.put, List.getElem_toArray, List.getElem_cons_succ, List.getElem_cons_zero, List.setIfInBounds_toArray, List.set_cons_zero, List.set_cons_succ]
                                refine wpAnyH_take (i := 8) (v := ?_) rfl (by kernel_rfl) (by kernel_rfl) (by kernel_rfl) (fun _ _ _ h => h) (Or.inl ⟨by kernel_rfl, ?_⟩) (by assumption) ?_
                                rotate_left
                                · intro w hSw; (try dsimp only at hSw); go_simp; try with_reducible rfl
                                try simp only [Act.put, List.getElem_toArray, List.getElem_cons_succ, List.getElem_cons_zero, List.setIfInBounds_toArray, List.set_cons_zero, List.set_cons_succ]
                                refine wpAnyH_take (i := 9) (v := ?_) rfl (by kernel_rfl) (by kernel_rfl) (by kernel_rfl) (fun _ _ _ h => h) (Or.inl ⟨by kernel_rfl, ?_⟩) (by assumption) ?_
                                rotate_left
                                · intro w hSw; (try dsimp only at hSw); go_simp; try with_reducible rfl
                                try simp only [Act.put, List.getElem_toArray, List.getElem_cons_succ, List.getElem_cons_zero, List.setIfInBounds_toArray, List.set_cons_zero, List.set_cons_succ]
                                refine wpAnyH_take (i := 10) (v := ?_) rfl (by kernel_rfl) (by kernel_rfl) (by kernel_rfl) (fun _ _ _ h => h) (Or.inl ⟨by kernel_rfl, ?_⟩) (by assumption) ?_
                                rotate_left
                                · intro w hSw; (try dsimp only at hSw); go_simp; try with_reducible rfl
                                try simp only [Act.put, List.getElem_toArray, List.getElem_cons_succ, List.getElem_cons_zero, List.setIfInBounds_toArray, List.set_cons_zero, List.set_cons_succ]
                                refine wpAnyH_take (i := 11) (v := ?_) rfl (by kernel_rfl) (by kernel_rfl) (by kernel_rfl) (fun _ _ _ h => h) (Or.inl ⟨by kernel_rfl, ?_⟩) (by assumption) ?_
                                rotate_left
                                · intro w hSw; (try dsimp only at hSw); go_simp; try with_reducible rfl
                                try simp only [Act.put, List.getElem_toArray, List.getElem_cons_succ, List.getElem_cons_zero, List.setIfInBounds_toArray, List.set_cons_zero, List.set_cons_succ]
                                refine wpAnyH_take (i := 12) (v := ?_) rfl (by kernel_rfl) (by kernel_rfl) (by kernel_rfl) (fun _ _ _ h => h) (Or.inl ⟨by kernel_rfl, ?_⟩) (by assumption) ?_
                                rotate_left
                                · intro w hSw; (try dsimp only at hSw); go_simp; try with_reducible rfl
                                try simp only [Act.put, List.getElem_toArray, List.getElem_cons_succ, List.getElem_cons_zero, List.setIfInBounds_toArray, List.set_cons_zero, List.set_cons_succ]
                                refine wpAnyH_take (i := 13) (v := ?_) rfl (by kernel_rfl) (by kernel_rfl) (by kernel_rfl) (fun _ _ _ h => h) (Or.inl ⟨by kernel_rfl, ?_⟩) (by assumption) ?_
                                rotate_left
                                · intro w hSw; (try dsimp only at hSw); go_simp; try with_reducible rfl
                                try simp only [Act.put, List.getElem_toArray, List.getElem_cons_succ, List.getElem_cons_zero, List.setIfInBounds_toArray, List.set_cons_zero, List.set_cons_succ]
                                refine wpAnyH_take (i := 14) (v := ?_) rfl (by kernel_rfl) (by kernel_rfl) (by kernel_rfl) (fun _ _ _ h => h) (Or.inl ⟨by kernel_rfl, ?_⟩) (by assumption) ?_
                                rotate_left
                                · intro w hSw; (try dsimp only at hSw); go_simp; try with_reducible rfl
                                try simp only [Act.put, List.getElem_toArray, List.getElem_cons_succ, List.getElem_cons_zero, List.setIfInBounds_toArray, List.set_cons_zero, List.set_cons_succ]
                                refine wpAnyH_take (i := 15) (v := ?_) rfl (by kernel_rfl) (by kernel_rfl) (by kernel_rfl) (fun _ _ _ h => h) (Or.inl ⟨by kernel_rfl, ?_⟩) (by assumption) ?_
                                rotate_left
                                · intro w hSw; (try dsimp only at hSw); go_simp; try with_reducible rfl
                                try simp only [Act.put, List.getElem_toArray, List.getElem_cons_succ, List.getElem_cons_zero, List.setIfInBounds_toArray, List.set_cons_zero, List.set_cons_succ]
                                refine wpAnyH_take (i := 16) (v := ?_) rfl (by kernel_rfl) (by kernel_rfl) (by kernel_rfl) (fun _ _ _ h => h) (Or.inl ⟨by kernel_rfl, ?_⟩) (by assumption) ?_
                                rotate_left
                                · intro w hSw; (try dsimp only at hSw); go_simp; try with_reducible rfl
                                try simp only [Act.put, List.getElem_toArray, List.getElem_cons_succ, List.getElem_cons_zero, List.setIfInBounds_toArray, List.set_cons_zero, List.set_cons_succ]
                                refine wpAnyH_take (i := 18) (v := ?_) rfl (by kernel_rfl) (by kernel_rfl) (by kernel_rfl) (fun _ _ _ h => h) (Or.inl ⟨by kernel_rfl, ?_⟩) (by assumption) ?_
                                rotate_left
                                · intro w hSw; (try dsimp only at hSw); go_simp; try with_reducible rfl
                                try simp only [Act.put, List.getElem_toArray, List.getElem_cons_succ, List.getElem_cons_zero, List.setIfInBounds_toArray, List.set_cons_zero, List.set_cons_succ]
                                refine wpAnyH_ready (rs := [17]) (by kernel_rfl) (by simp) ?_
                                refine AllReadyH.cons rfl (fun K hK => ?_) AllReadyH.nil
                                go_simp
                                (with_reducible refine (HBT.out _ hBR).mono ?_); rintro e wB ⟨AB, cB, rfl, hslB, hBB⟩
                                refine hK.out _ _ ?_ (fun hHeld => ?_)
                                · exact held6 HSB7.out HCL.out hBB
                                clear hK K
                                try simp only [Act.put, List.getElem_toArray, List.getElem_cons_succ, List.getElem_cons_zero, List.setIfInBounds_toArray, List.set_cons_zero, List.set_cons_succ]
                                refine wpAnyH_ready (rs := [19]) (by kernel_rfl) (by simp) ?_
                                refine AllReadyH.cons rfl (fun K hK => ?_) AllReadyH.nil
                                go_simp
                                (with_reducible refine (HSM.out _ _ _ hBB hslB).mono ?_); rintro e wS ⟨rfl, mS, rfl⟩
                                refine hK.out _ _ ?_ (fun hHeld => ?_)
                                · exact held6 HSB7.out HCL.out (below_drewN hBB mS)
                                clear hK K
                                try simp only [Act.put, List.getElem_toArray, List.getElem_cons_succ, List.getElem_cons_zero, List.setIfInBounds_toArray, List.set_cons_zero, List.set_cons_succ]
                                refine wpAnyH_take (i := 20) (v := ?_) rfl (by kernel_rfl) (by kernel_rfl) (by kernel_rfl) (fun _ _ _ h => h) (Or.inl ⟨by kernel_rfl, ?_⟩) (by assumption) ?_
                                rotate_left
                                · intro w hSw; (try dsimp only at hSw); go_simp; try with_reducible rfl
                                try simp only [Act.put, List.getElem_toArray, List.getElem_cons_succ, List.getElem_cons_zero, List.setIfInBounds_toArray, List.set_cons_zero, List.set_cons_succ]
                                refine wpAnyH_take (i := 21) (v := ?_) rfl (by kernel_rfl) (by kernel_rfl) (by kernel_rfl) (fun _ _ _ h => h) (Or.inl ⟨by kernel_rfl, ?_⟩) (by assumption) ?_
                                rotate_left
                                · intro w hSw; (try dsimp only at hSw); go_simp; try with_reducible rfl
                                try simp only [Act.put, List.getElem_toArray, List.getElem_cons_succ, List.getElem_cons_zero, List.setIfInBounds_toArray, List.set_cons_zero, List.set_cons_succ]
                                refine wpAnyH_done (by kernel_rfl) ?_ _
                                go_wp2_with fail
                                go_meet
                                exact ⟨rfl, below_drewN hBB mS⟩
                        case rest =>
                          obtain ⟨hv9, hb9⟩ := hcut
                          subst hv9
                          have HBC : Hid (Below w.heap.size w wc) := Lib.hid (HBR7.out.trans (hb9.mono HBR7.out.size))
                          have HXC : Hid (Blk wc w.heap.size 33 zeroSn) := Lib.hid (HXL.out.below hb9 HXL.out.lt)
                          have HSBC := Lib.hid (HSB7.out.below hb9 HSB7.out.lt)
                          have HVAC := Lib.hid (Mem.Own.frm HVA7.out (Frm.below hb9) (fun _ _ e => e))
                          have HLAC := Lib.hid (Mem.Own.frm HLA7.out (Frm.below hb9) (fun _ _ e => e))
                          have HDVC := Lib.hid (Mem.Own.frm HDV.out (Frm.below hb9) (fun _ _ e => e))
                          clear hb9 hdr t5 t6 e1
                          cases htst : tstB pR pL pB with
                          | true =>
                            have HN : Hid (res = none) := Lib.hid (HYN.out.1 htst)
                            clear htst
                            have q0 := HXC.out.free 0
                            have q1 := HXC.out.free 1
                            have q2 := HXC.out.free 2
                            have q3 := HXC.out.free 3
                            have q4 := HXC.out.free 4
                            obtain ⟨d0, d1, d2, d3, d4⟩ := held5 (HXC.out) (Below.refl _ _)
                            go_wp2_with fail
                            obtain ⟨W9, hW9⟩ : ∃ z, z = put5 wc w.heap.size (.int .i64 0) (.int .i64 0) (.slice none 0 0) (.slice none 0 0) (.slice none 0 0) := ⟨_, rfl⟩
                            have hx9 : Blk W9 w.heap.size 33 #[.int .i64 0, .int .i64 0, .slice none 0 0, .slice none 0 0, .slice none 0 0] := by rw [hW9]; exact put5_blk HXC.out
                            have hf9 : Frm (fun g => g = w.heap.size) wc W9 := by rw [hW9]; exact put5_frm _ _ _ _ _ _ _
                            unfold put5 at hW9
                            rw [← hW9]
                            obtain ⟨r0, r1, r2, r3, r4⟩ := held5 hx9 (Below.refl _ _)
                            refine bodyPost_ret (v := .tuple #[.agg #[.int .i64 0, .int .i64 0, .slice none 0 0, .slice none 0 0, .slice none 0 0], .bool false]) (by simp [results, Try.results13, go_sem, r0, r1, r2, r3, r4]) rfl ?_
                            exact RRPost.no HN.out (HBC.out.trans (hf9.to_below (fun k _ h1 h2 => by omega) HBC.out.size)) rfl
                          | false =>
                            have HYS : Hid (res = some ⟨x, t, xs, xs', acc⟩) := Lib.hid (HYN.out.2 htst)
                            clear htst
                            obtain ⟨s0, s1, s2, s3, s4⟩ := held5 HSBC.out (Below.refl _ _)
                            have q0 := HXC.out.free 0
                            have q1 := HXC.out.free 1
                            have q2 := HXC.out.free 2
                            have q3 := HXC.out.free 3
                            have q4 := HXC.out.free 4
                            obtain ⟨d0, d1, d2, d3, d4⟩ := held5 (HXC.out) (Below.refl _ _)
                            go_wp2_with fail
                            obtain ⟨W9, hW9⟩ : ∃ z, z = put5 wc w.heap.size (.int .i64 x) (.int .i64 t) (.slice VA xs.length ca) (.slice LA xs'.length cl) (.slice DV acc.length dc) := ⟨_, rfl⟩
                            have hx9 : Blk W9 w.heap.size 33 #[.int .i64 x, .int .i64 t, .slice VA xs.length ca, .slice LA xs'.length cl, .slice DV acc.length dc] := by rw [hW9]; exact put5_blk HXC.out
                            have hf9 : Frm (fun g => g = w.heap.size) wc W9 := by rw [hW9]; exact put5_frm _ _ _ _ _ _ _
                            unfold put5 at hW9
                            rw [← hW9]
                            obtain ⟨r0, r1, r2, r3, r4⟩ := held5 hx9 (Below.refl _ _)
                            refine bodyPost_ret (v := .tuple #[.agg #[.int .i64 x, .int .i64 t, .slice VA xs.length ca, .slice LA xs'.length cl, .slice DV acc.length dc], .bool true]) (by simp [results, Try.results13, go_sem, r0, r1, r2, r3, r4]) rfl ?_
                            have hfar : ∀ {α : Type} {f : α → Value} {e : TypeId} {v : Value} {xs : List α}, e ≠ 33 → Mem.Own f (sb + 1) e wc v xs → Mem.Own f (sb + 1) e W9 v xs := fun hne ho => own_frmT ho HXC.out hne hf9
                            refine ⟨HBC.out.trans (hf9.to_below (fun k _ h1 h2 => by omega) HBC.out.size), (fun h => by rw [HYS.out] at h; cases h), fun s hs => ?_⟩
                            rw [HYS.out] at hs
                            have hs := Option.some.inj hs
                            subst hs
                            exact ⟨VA, LA, DV, ca, cl, dc, rfl, ⟨(hfar (by decide) HVAC.out).sl.2, (hfar (by decide) HLAC.out).sl.2, (hfar (by decide) HDVC.out).sl.2⟩, HDVC.out.cap.1⟩
              · have t7 : ((ns.length : Int) != (j : Int) + (b : Int) + 2) = true := by rw [bne_iff_ne]; omega
                have HN : Hid (res = none) := Lib.hid (by rw [HRES.out]; exact sn_no HUS.out HPN.out HIO.out (fun a' c h1 h2 e1 e2 e3 => by rw [← HN2.out] at e1; obtain rfl : a = a' := (by omega); rw [← HN3.out] at e2; have := HM2.out; omega))
                clear hshp
                have q0 := HXI.out.free 0
                have q1 := HXI.out.free 1
                have q2 := HXI.out.free 2
                have q3 := HXI.out.free 3
                have q4 := HXI.out.free 4
                obtain ⟨d0, d1, d2, d3, d4⟩ := held5 (HXI.out) (Below.refl _ _)
                go_wp2_with fail
                obtain ⟨W9, hW9⟩ : ∃ z, z = put5 wi w.heap.size (.int .i64 0) (.int .i64 0) (.slice none 0 0) (.slice none 0 0) (.slice none 0 0) := ⟨_, rfl⟩
                have hx9 : Blk W9 w.heap.size 33 #[.int .i64 0, .int .i64 0, .slice none 0 0, .slice none 0 0, .slice none 0 0] := by rw [hW9]; exact put5_blk HXI.out
                have hf9 : Frm (fun g => g = w.heap.size) wi W9 := by rw [hW9]; exact put5_frm _ _ _ _ _ _ _
                unfold put5 at hW9
                rw [← hW9]
                obtain ⟨r0, r1, r2, r3, r4⟩ := held5 hx9 (Below.refl _ _)
                refine bodyPost_ret (v := .tuple #[.agg #[.int .i64 0, .int .i64 0, .slice none 0 0, .slice none 0 0, .slice none 0 0], .bool false]) (by simp [results, Try.results13, go_sem, r0, r1, r2, r3, r4]) rfl ?_
                exact RRPost.no HN.out (HBI.out.trans (hf9.to_below (fun k _ h1 h2 => by omega) HBI.out.size)) rfl
  · have t1 : (u != 0) = true := by rw [bne_iff_ne]; exact hu0
    have HN : Hid (res = none) := Lib.hid (by rw [HRES.out]; exact readS_no1 (by rw [← HU.out]; exact hu0))
    clear hu0
    have q0 := HX1.out.free 0
    have q1 := HX1.out.free 1
    have q2 := HX1.out.free 2
    have q3 := HX1.out.free 3
    have q4 := HX1.out.free 4
    obtain ⟨d0, d1, d2, d3, d4⟩ := held5 (HX1.out) (Below.refl _ _)
    go_wp2_with fail
    obtain ⟨W9, hW9⟩ : ∃ z, z = put5 w1 w.heap.size (.int .i64 0) (.int .i64 0) (.slice none 0 0) (.slice none 0 0) (.slice none 0 0) := ⟨_, rfl⟩
    have hx9 : Blk W9 w.heap.size 33 #[.int .i64 0, .int .i64 0, .slice none 0 0, .slice none 0 0, .slice none 0 0] := by rw [hW9]; exact put5_blk HX1.out
    have hf9 : Frm (fun g => g = w.heap.size) w1 W9 := by rw [hW9]; exact put5_frm _ _ _ _ _ _ _
    unfold put5 at hW9
    rw [← hW9]
    obtain ⟨r0, r1, r2, r3, r4⟩ := held5 hx9 (Below.refl _ _)
    refine bodyPost_ret (v := .tuple #[.agg #[.int .i64 0, .int .i64 0, .slice none 0 0, .slice none 0 0, .slice none 0 0], .bool false]) (by simp [results, Try.results13, go_sem, r0, r1, r2, r3, r4]) rfl ?_
    exact RRPost.no HN.out (HB1.out.trans (hf9.to_below (fun k _ h1 h2 => by omega) HB1.out.size)) rfl
end Go.Proofs.Ytfnmofoecehcfaa
