/- Layer 8: snap.Bytes. -/
import Derived.Test.YtfpomllhkbbipaaGreatDoorGAm
import Derived.Test.YtfpomllhkbbipaaGreatDoorGAj
namespace Go.Proofs.YtfpomllhkbbipaaGreatDoor
open Go Go.RowKit Go.Shelf Go.Maps Go.Lib Mem Pk Cf
attribute [local go_sem] Oper.semAt_some
theorem valT : SliceTK Tryz.prog 133 132 (.agg #[.int .i64 0, .int .i64 0, .float .f64 0, .slice none 0 0, .bool false]) 5 56 := sliceTK_mk Tryz.underlying133 rfl (by decide) (by kernel_rfl)
theorem valN_one (n : Int) : ∀ y ∈ valN n, y.oneCell' = true := by
 intro y hy
 simp only [valN, List.mem_cons, List.not_mem_nil, or_false] at hy
 rcases hy with rfl | rfl | rfl | rfl | rfl <;> rfl
theorem val2_own {w : World} (x t : Int) : OwnK 5 valN w.heap.size 132 (w.alloc (.cells #[.int .i64 1, .int .i64 x, .float .f64 0, .slice none 0 0, .bool false, .int .i64 1, .int .i64 t, .float .f64 0, .slice none 0 0, .bool false] 132)) (.slice (some ⟨w.heap.size, 0, none⟩) 2 2) [x, t] := by
 unfold OwnK
 exact ⟨by simp [valN], .inr ⟨w.heap.size, 2, _, rfl, Nat.le_refl _, heap_alloc_new w _, Nat.le_refl _, by unfold maxLen; decide, by simp, by simp [valN]⟩⟩
theorem Mem.Blk.apartK {α : Type} {k : Nat} {f : α → List Value} {base : Nat} {e : TypeId} {w w' : World} {v : Value} {xs : List α} {g : Nat} {t : TypeId} {cs : Array Value} (h : Blk w g t cs) (ho : OwnK k f base e w v xs) (hne : t ≠ e) (hg : w.grownBy w' v.ownBlock) : Blk w' g t cs :=
 (hg.block g h.lt (fun e' => by
  obtain ⟨-, h2⟩ := ho
  rcases h2 with ⟨rfl, -⟩ | ⟨g', cap, cur, rfl, -, hh, -⟩
  ·cases e'
  ·have e2 : g = g' := Option.some.inj e'
   subst e2
   unfold Blk at h
   rw [h] at hh
   injection hh with hh
   injection hh with _ hh
   exact hne hh)).trans h
def SbIn (pre ns : List Int) (w2 : World) (g : Nat) (cs : Array Value) (ov iv : Value) (wr : World) : Prop :=
 ∃ k : Nat, k ≤ ns.length ∧ iv = .int .i64 k ∧ OwnK 5 valN w2.heap.size 132 wr ov (pre ++ ns.take k) ∧ Below w2.heap.size w2 wr ∧ Blk wr g 33 cs
def pre (x t : Int) (vs ls : List Int) : Nat → List Int
 | 0 => [x, t]
 | 1 => [x, t] ++ [(vs.length : Int)] ++ vs
 | _ => [x, t] ++ [(vs.length : Int)] ++ vs ++ [(ls.length : Int)] ++ ls
def SbOut (x t : Int) (vs ls : List Int) (w2 : World) (g : Nat) (cs : Array Value) (ov iv : Value) (wr : World) : Prop :=
 ∃ i : Nat, i ≤ 2 ∧ iv = .int .i64 i ∧ OwnK 5 valN w2.heap.size 132 wr ov (pre x t vs ls i) ∧ Below w2.heap.size w2 wr ∧ Blk wr g 33 cs
theorem rise_pair {xs : List Int} (h : riseB xs = true) : xs.Pairwise (· < ·) := by
 rw [rise_iff] at h
 rw [List.pairwise_iff_getElem]
 intro i j hi hj hij
 induction j with
 | zero => omega
 | succ j ih =>
   have h1 := h (j + 1) hj
   unfold okAt at h1
   rw [getD_get hj, Nat.add_sub_cancel, getD_get (show j < xs.length by omega)] at h1
   have h2 : xs[j] < xs[j + 1] := by simp at h1; exact h1.2.2
   rcases Nat.lt_or_ge i j with h3 | h3
   ·have := ih (by omega) h3; omega
   ·have : i = j := by omega
    subst this; exact h2
theorem rise_small {xs : List Int} (h : riseB xs = true) : xs.length ≤ 7 := by
 have hp := rise_pair h
 rw [rise_iff] at h
 have key : ∀ k (hk : k < xs.length), (k : Int) + 1 ≤ xs[k] := by
  intro k
  induction k with
  | zero => intro hk; have := h 0 hk; unfold okAt at this; rw [getD_get hk] at this; simp at this; omega
  | succ k ih =>
    intro hk
    have h1 := ih (by omega)
    have h2 := List.pairwise_iff_getElem.1 hp k (k + 1) (by omega) hk (by omega)
    omega
 rcases Nat.lt_or_ge xs.length 8 with h1 | h1
 ·omega
 ·have h2 := key 7 (by omega)
  have h3 := h 7 (by omega)
  unfold okAt at h3
  rw [getD_get (show 7 < xs.length by omega)] at h3
  simp at h3
  omega
theorem rconf_rise {vs ls : List Int} (h : rconfB vs ls = true) : riseB vs = true ∧ riseB ls = true := by
 unfold rconfB at h
 simp only [Bool.and_eq_true] at h
 exact ⟨h.1, h.2.1⟩
theorem snap_parts {x t : Int} {vs ls : List Int} {ds : List UInt8} (h : snapB x t vs ls ds = true) : (1 ≤ x ∧ x ≤ 1099511627776) ∧ (0 ≤ t ∧ t ≤ 1099511627776) ∧ rconfB vs ls = true ∧ ds.length ≤ 32768 := by
 unfold snapB okNum at h
 simp only [Bool.and_eq_true, decide_eq_true_eq] at h
 obtain ⟨h1, h2, h3, h4, h5, h6⟩ := h
 exact ⟨⟨h1, by omega⟩, ⟨h3, by omega⟩, h5, h6⟩
theorem rise_mem {xs : List Int} (h : riseB xs = true) {n : Int} (hn : n ∈ xs) : 1 ≤ n ∧ n ≤ 7 := by
 rw [rise_iff] at h
 obtain ⟨j, hj, rfl⟩ := List.getElem_of_mem hn
 have h1 := h j hj
 unfold okAt at h1
 rw [getD_get hj] at h1
 simp only [Bool.and_eq_true, decide_eq_true_eq] at h1
 exact ⟨h1.1, h1.2.1⟩
theorem pre_ok {x t : Int} {vs ls : List Int} {ds : List UInt8} (h : snapB x t vs ls ds = true) : ∀ n ∈ ([x, t] ++ [(vs.length : Int)] ++ vs ++ [(ls.length : Int)] ++ ls) ++ [(ds.length : Int)], i64ok n := by
 obtain ⟨hx, ht, hc, hd⟩ := snap_parts h
 obtain ⟨hv, hl⟩ := rconf_rise hc
 have h7 := rise_small hv
 have h8 := rise_small hl
 intro n hn
 unfold i64ok
 simp only [List.mem_append, List.mem_cons, List.not_mem_nil, or_false] at hn
 rcases hn with ((((((rfl | rfl) | rfl) | hn) | rfl) | hn) | rfl)
 ·omega
 ·omega
 ·omega
 ·have := rise_mem hv hn; omega
 ·omega
 ·have := rise_mem hl hn; omega
 ·omega
theorem pre_head (x t : Int) (vs ls : List Int) (n : Nat) : numsB (([x, t] ++ [(vs.length : Int)] ++ vs ++ [(ls.length : Int)] ++ ls) ++ [(n : Int)]) = headN x t vs ls n := by
 unfold numsB headN
 simp [numsB, List.flatMap_append, List.append_assoc]
theorem piece_sl {W : World} {D : Option Addr} {ds : List UInt8} {bD oD : Nat} (h : Sl fB W D ds) (hA : ds.length = 0 ∨ D = some ⟨bD, oD, none⟩) (x' : Nat) :
 (piece ds x').length = min 2048 (ds.length - 2048 * x') ∧ Sl fB W (some ⟨bD, oD + 2048 * x', none⟩) (piece ds x') := by
 have hl : (piece ds x').length = min 2048 (ds.length - 2048 * x') := by unfold piece; rw [List.length_take, List.length_drop]; omega
 refine ⟨hl, Nat.le_trans (piece_len ds x') (by unfold maxLen; decide), fun h0 => ⟨_, _, rfl, fun j hj => ?_⟩⟩
 have hne : ds.length ≠ 0 := by rw [hl] at h0; omega
 obtain rfl := hA.resolve_left hne
 have hk : x' * 2048 + j < ds.length := by rw [hl] at hj; omega
 have hc := h.cell hk
 have e1 : (piece ds x')[j] = ds[x' * 2048 + j] := by simp only [piece, List.getElem_take, List.getElem_drop]
 have e2 : oD + 2048 * x' + j = oD + (x' * 2048 + j) := by omega
 rw [e1, e2, hc]
theorem blk_turn {W W' : World} {row : Option Nat} {g : Nat} {t : TypeId} {cs : Array Value} (h : Blk W g t cs) (hg : W.grownBy W' row) (hr : ∀ r, row = some r → ∃ o : Obj, W.heap[r]? = some o ∧ o.isCells = false) : Blk W' g t cs :=
 (hg.block g h.lt (fun e => by
  obtain ⟨o, h1, h2⟩ := hr g e.symm
  unfold Blk at h
  rw [h] at h1
  cases h1
  cases h2)).trans h
theorem own_turn {α : Type} {f : α → Value} {base : Nat} {e : TypeId} {W W' : World} {v : Value} {xs : List α} {row : Option Nat} (h : Mem.Own f base e W v xs) (hg : W.grownBy W' row) (hr : ∀ r, row = some r → ∃ o : Obj, W.heap[r]? = some o ∧ o.isCells = false) : Mem.Own f base e W' v xs := by
 obtain ⟨h1, h2⟩ := h
 refine ⟨h1, ?_⟩
 rcases h2 with h2 | ⟨g, cap, cur, a, b, hh, c⟩
 ·exact .inl h2
 ·exact .inr ⟨g, cap, cur, a, b, blk_turn (g := g) (t := e) (cs := cur) hh hg hr, c⟩
set_option maxRecDepth 100000 in
set_option maxHeartbeats 4000000 in
theorem SBytes_no {w : World} {x t : Int} {A B D : Option Addr} {a b d : Nat} {vs ls : List Int} {ds : List UInt8} (h : SnIn w A vs B ls D ds) (hr : snapB x t vs ls ds = false) :
 Calls Tryz.prog 36 #[.agg #[.int .i64 x, .int .i64 t, .slice A vs.length a, .slice B ls.length b, .slice D ds.length d]] w (FrPost ([], 1) w) := by
 have HRT := Lib.hid hr; clear hr
 obtain ⟨p, hp⟩ : ∃ p, p = snapB x t vs ls ds := ⟨_, rfl⟩
 have HP := Lib.hid hp; clear hp
 have H := Lib.hid h; clear h
 go_enter Tryz.func36, Tryz.ntmps36
 go_upto_region 1 with fail
 obtain ⟨w1, hw1⟩ : ∃ y, y = w.alloc (.cells #[.int .i64 x, .int .i64 t, .slice A vs.length a, .slice B ls.length b, .slice D ds.length d] 43) := ⟨_, rfl⟩
 rw [← hw1]
 have hb1 : Below w.heap.size w w1 := by rw [hw1]; exact (Below.refl _ _).alloc (Nat.le_refl _) _
 have hx1 : Blk w1 w.heap.size 43 #[.int .i64 x, .int .i64 t, .slice A vs.length a, .slice B ls.length b, .slice D ds.length d] := by rw [hw1]; exact Blk.new_ w _ _
 have H1 := Lib.hid (H.out.below hb1)
 have HB1 := Lib.hid hb1
 obtain ⟨d0, d1, d2, d3, d4⟩ := held5 hx1 (Below.refl _ _)
 clear hw1 hb1 hx1 H
 have hrg := snright_any (a := a) (b := b) (d := d) (x := x) (t := t) H1.out
 rw [← HP.out] at hrg
 have HRG := Lib.hid hrg; clear hrg
 go_wp2_with fail
 (with_reducible refine HRG.out.mono ?_); rintro e w2 ⟨rfl, hb2⟩
 have HB2 : Hid (Below w.heap.size w w2) := HB1.out.trans (hb2.mono HB1.out.size)
 clear hb2 d0 d1 d2 d3 d4
 have hp : p = false := by rw [HP.out, HRT.out]
 subst hp
 go_wp2_with fail
 refine bodyPost_ret (v := .tuple #[.slice none 0 0, .int .i64 1]) (by simp [results, Tryz.results36, go_sem]) rfl ?_
 exact ⟨none, 0, rfl, Own.nil, HB2.out⟩
theorem own_far {α : Type} {f : α → Value} {base : Nat} {e : TypeId} {w : World} {v : Value} {xs : List α} {g : Nat} {t : TypeId} {cs : Array Value} (h : Mem.Own f base e w v xs) (hb : Blk w g t cs) (hne : t ≠ e) (u : Value) : Mem.Own f base e (w.setCell ⟨g, 0, none⟩ u) v xs := by
 obtain ⟨h1, h2⟩ := h
 refine ⟨h1, ?_⟩
 rcases h2 with h2 | ⟨g', cap, cur, a, b, hh, c⟩
 ·exact .inl h2
 ·refine .inr ⟨g', cap, cur, a, b, ?_, c⟩
  have hn : g' ≠ g := fun e2 => by subst e2; unfold Blk at hb; rw [hh] at hb; injection hb with hb; injection hb with _ h3; exact hne h3.symm
  exact (Below.heap_setCell w _ u g' hn).trans hh
theorem keeps_below {W W1 : World} (hb : Below W.heap.size W W1) : KeepsOthers W W1 := ⟨hb.size, fun k _o hk _ => (hb.block k (Array.getElem?_eq_some_iff.1 hk).1).trans hk⟩
theorem own_keeps {α : Type} {f : α → Value} {base : Nat} {e : TypeId} {w w' : World} {v : Value} {xs : List α} (h : Mem.Own f base e w v xs) (hg : w.grownBy w' v.ownBlock) : KeepsOthers w w' :=
 .of_grownBy hg (fun j o e' hj => by
  rcases h.2 with ⟨rfl, -⟩ | ⟨g', cap, cur, rfl, -, hh, -⟩
  ·cases e'
  ·have e2 : g' = j := Option.some.inj e'
   subst e2
   rw [hj] at hh
   cases hh
   rfl)
def FrSome (p : List UInt8) (w : World) (e : Ending) (w' : World) : Prop :=
 ∃ g c, e = .returned (.tuple #[.slice (some ⟨g, 0, none⟩) p.length c, .int .i64 0]) ∧ Mem.Own fB w.heap.size 5 w' (.slice (some ⟨g, 0, none⟩) p.length c) p ∧ Below w.heap.size w w'
theorem Frame_some {w : World} {A : Option Addr} {c : Nat} {p : List UInt8} (h : Sl fB w A p) (h4 : p.length ≤ 4096) :
 Calls Tryz.prog 66 #[.slice A p.length c] w (FrSome (frameB p) w) := by
 have hfr := Frame_any (c := c) h
 have h2 : frameR p = (frameB p, 0) := by unfold frameR; rw [if_pos h4]
 rw [h2] at hfr
 refine hfr.mono ?_
 rintro e w' ⟨A1, c1, rfl, ho, hb⟩
 obtain ⟨g, hg, -⟩ := ho.addr (by show 0 < (frameB p).length; rw [frameB_len]; omega)
 subst hg
 exact ⟨g, c1, rfl, ho, hb⟩
theorem frames_len (ds : List UInt8) (xs : List Nat) : (xs.flatMap fun k => frameB (piece ds k)).length ≤ xs.length * 2056 := by
 induction xs with
 | nil => simp
 | cons x xs ih =>
   rw [List.flatMap_cons, List.length_append, frameB_len, List.length_cons]
   have := piece_len ds x
   omega
theorem wpListIn_appendNt {F : Fence} {n : Nat} {P : Program} {α : Type} {f : α → Value} {ops : Array Oper} {rest : List Oper} {o : Oper} {a : Act} {Q : Exit → Act → World → Prop} {w : World} (hgd : o.guard = none) (s x : Operand) (t : TypeId)
 (ho : o.op = .call { callee := .builtin .append, args := #[s, x], argTypes := #[t, t] })
 {base : Nat} {e : TypeId} {z : Value} {bytes : Nat} (ht : SliceT P t e z bytes)
 {v : Value} {xs : List α} (hs : a.eval s = v) (hown : Mem.Own f base e w v xs)
 {ad : Addr} {c : Nat} {ys : List α} (hx : a.eval x = .slice (some ad) ys.length c) (hys : Sl f w (some ad) ys) (h1 : ∀ u, (f u).oneCell' = true)
 (h63 : xs.length + ys.length ≤ maxLen) (hbytes : (xs.length + ys.length) * bytes ≤ 140737488355328) (hbase : base ≤ w.heap.size)
 (h : ∀ v' w', Mem.Own f base e w' v' (xs ++ ys) → w.grownBy w' v.ownBlock → wpListIn F n P ops Q rest (a.put o.dst v') w') : wpListIn F n P ops Q (o :: rest) a w := by
 obtain ⟨ht, hz1, i, hi, hz, hsz, hby⟩ := ht
 refine wpListIn_append_own (P := P) _ hgd s x t ho base e i z 1 bytes ht hi hz hsz hby hz1 (by decide) v xs.length (xs.map f) hs hown ad ys.length c (ys.map f) hx (by simp) ?_ ?_ h63 hbytes hbase ?_
 ·intro j y hy
  have hj : j < ys.length := by
   rcases Nat.lt_or_ge j ys.length with h | h
   ·exact h
   ·rw [List.getElem?_eq_none (by simpa using h)] at hy; cases hy
  obtain ⟨b, o, e, hc⟩ := hys.2 (by omega)
  injection e with e
  subst e
  have e2 : (⟨b, o, none⟩ : Addr).add j = ⟨b, o + j, none⟩ := by
   unfold Addr.add; split
   ·rename_i h0; subst h0; rfl
   ·rfl
  rw [e2, hc j hj]
  simp [hj] at hy; rw [← hy]
 ·intro y hy
  obtain ⟨u, _, rfl⟩ := List.mem_map.1 hy
  exact h1 u
 ·intro v' w' ho' hgr _
  refine h v' w' ?_ hgr
  unfold Mem.Own; rw [List.length_append, List.map_append]; exact ho'
set_option maxRecDepth 100000 in
set_option maxHeartbeats 2000000 in
theorem SBytes_yes {w : World} {x t : Int} {A B D : Option Addr} {a b d : Nat} {vs ls : List Int} {ds : List UInt8} (h : SnIn w A vs B ls D ds) (hdc : ds.length ≤ d) (hr : snapB x t vs ls ds = true) :
 Calls Tryz.prog 36 #[.agg #[.int .i64 x, .int .i64 t, .slice A vs.length a, .slice B ls.length b, .slice D ds.length d]] w (FrPost (snB x t vs ls ds, 0) w) := by
 have HRT := Lib.hid hr; clear hr
 have HDC := Lib.hid hdc; clear hdc
 obtain ⟨p, hp⟩ : ∃ p, p = snapB x t vs ls ds := ⟨_, rfl⟩
 have HP := Lib.hid hp; clear hp
 have H := Lib.hid h; clear h
 refine (callsIn_wide (n := 9)).1 (callsIn_of_wp_marks Tryz.func36 rfl trivial (wpIn_wide.2 ?_) rfl)
 simp only [Tryz.ntmps36, List.size_toArray, List.length_cons, List.length_nil, Nat.reduceAdd, Nat.reduceSub, Array.replicate_succ, Array.replicate_zero, List.push_toArray, List.append_toArray, List.nil_append, List.cons_append]
 obtain ⟨QQ, hQQ⟩ : ∃ q, q = bodyPostM Fence.wide 9 Tryz.prog Tryz.f36 (FrPost (snB x t vs ls ds, 0) w) := ⟨_, rfl⟩
 rw [← hQQ]
 have HQQ := Lib.hid hQQ; clear hQQ
 go_upto_region 1 with fail
 obtain ⟨w1, hw1⟩ : ∃ y, y = w.alloc (.cells #[.int .i64 x, .int .i64 t, .slice A vs.length a, .slice B ls.length b, .slice D ds.length d] 43) := ⟨_, rfl⟩
 rw [← hw1]
 have hb1 : Below w.heap.size w w1 := by rw [hw1]; exact (Below.refl _ _).alloc (Nat.le_refl _) _
 have hx1 : Blk w1 w.heap.size 43 #[.int .i64 x, .int .i64 t, .slice A vs.length a, .slice B ls.length b, .slice D ds.length d] := by rw [hw1]; exact Blk.new_ w _ _
 have H1 := Lib.hid (H.out.below hb1)
 have HB1 := Lib.hid hb1
 have HX1 := Lib.hid hx1
 obtain ⟨d0, d1, d2, d3, d4⟩ := held5 hx1 (Below.refl _ _)
 clear hw1 hb1 hx1 H
 have hrg := snright_any (a := a) (b := b) (d := d) (x := x) (t := t) H1.out
 rw [← HP.out] at hrg
 have HRG := Lib.hid hrg; clear hrg
 go_wp2_with fail
 (with_reducible refine HRG.out.mono ?_); rintro e w2 ⟨rfl, hb2⟩
 have H2 := Lib.hid (H1.out.below hb2)
 have HX2 := Lib.hid (HX1.out.below hb2 HX1.out.lt)
 have HB12 := Lib.hid hb2
 clear hb2 d0 d1 d2 d3 d4
 obtain ⟨d0, d1, d2, d3, d4⟩ := held5 HX2.out (Below.refl _ _)
 have hp : p = true := by rw [HP.out, HRT.out]
 subst hp
 have HV7 := Lib.hid (rise_small (rconf_rise (snap_parts HRT.out).2.2.1).1)
 have HL7 := Lib.hid (rise_small (rconf_rise (snap_parts HRT.out).2.2.1).2)
 go_upto_region 4 with fail
 obtain ⟨w3, hw3⟩ : ∃ y, y = w2.alloc (.cells #[.int .i64 1, .int .i64 x, .float .f64 0, .slice none 0 0, .bool false, .int .i64 1, .int .i64 t, .float .f64 0, .slice none 0 0, .bool false] 132) := ⟨_, rfl⟩
 rw [← hw3]
 have ho3 : OwnK 5 valN w2.heap.size 132 w3 (.slice (some ⟨w2.heap.size, 0, none⟩) 2 2) [x, t] := by rw [hw3]; exact val2_own x t
 have h23 : Below w2.heap.size w2 w3 := by rw [hw3]; exact (Below.refl _ _).alloc (Nat.le_refl _) _
 have H3 := Lib.hid (H2.out.below h23)
 have HX3 := Lib.hid (HX2.out.below h23 HX2.out.lt)
 have HB13 : Hid (Below w1.heap.size w1 w3) := HB12.out.trans (h23.mono HB12.out.size)
 have HB23 := Lib.hid h23
 have HO3 := Lib.hid ho3
 clear hw3 ho3 h23 d0 d1 d2 d3 d4
 obtain ⟨d0, d1, d2, d3, d4⟩ := held5 HX3.out (Below.refl _ _)
 go_upto_region 5 with fail
 obtain ⟨w4, hw4⟩ : ∃ y, y = w3.alloc (.cells #[.slice A vs.length a, .slice B ls.length b] 33) := ⟨_, rfl⟩
 rw [← hw4]
 have hx4 : Blk w4 w3.heap.size 33 #[.slice A vs.length a, .slice B ls.length b] := by rw [hw4]; exact Blk.new_ w3 _ _
 have HO4 : Hid (OwnK 5 valN w2.heap.size 132 w4 (.slice (some ⟨w2.heap.size, 0, none⟩) 2 2) [x, t]) := by show OwnK _ _ _ _ _ _ _; rw [hw4]; exact HO3.out.alloc _
 have h24 : Below w2.heap.size w2 w4 := by rw [hw4]; exact HB23.out.alloc HB23.out.size _
 have HB24 := Lib.hid h24
 have HX4 := Lib.hid hx4
 clear hw4 hx4 h24 d0 d1 d2 d3 d4
 go_wp2_with fail
 go_loopw [4, 34] (fun ov iv wr => SbOut x t vs ls w2 w3.heap.size #[.slice A vs.length a, .slice B ls.length b] ov iv wr) (fun _ iv _ => 2 - (intOf iv).toNat)
 case atStart => exact ⟨0, by omega, rfl, HO4.out, HB24.out, HX4.out⟩
 case round =>
  obtain ⟨i, hi, rfl, hown, hbw, hxo⟩ := hrel
  have HOWN := Lib.hid hown; clear hown
  have HBW := Lib.hid hbw; clear hbw
  have HXO := Lib.hid hxo; clear hxo
  obtain ⟨wo, rfl⟩ : ∃ wo, wo = wr := ⟨_, rfl⟩
  rcases (show i = 0 ∨ i = 1 ∨ i = 2 by omega) with rfl | rfl | rfl
  ·-- vs
    have HTK0 : Hid ((pre x t vs ls 0 ++ [(vs.length : Int)]) ++ vs = pre x t vs ls 1) := rfl
    have HPL : Hid ((pre x t vs ls 0).length ≤ 12) := by show _ ≤ _; have h2 : vs.length ≤ 7 := HV7.out; unfold pre; simp
    have HNL : Hid (vs.length ≤ 7) := HV7
    obtain ⟨pr, hpr⟩ : ∃ pr, pr = pre x t vs ls 0 := ⟨_, rfl⟩
    rw [← hpr] at HOWN HTK0 HPL
    clear hpr
    have HBZ : Hid (w2.heap.size ≤ wo.heap.size) := Lib.hid HBW.out.size
    have a0 : wo.cell? ⟨w3.heap.size, 0, none⟩ = some (.slice A vs.length a) := HXO.out.cell 0
    go_upto_region 8 with (at_builtin; refine wpList_appendK1 (f := valN) rfl (.tmp 38) (.tmp 42) 133 rfl valT (vs.length : Int) rfl (valN_one _) rfl HOWN.out rfl rfl rfl (by have h9 := HPL.out; have h8 : pr.length ≤ 12 := h9; unfold maxLen; omega) (by have h9 := HPL.out; have h8 : pr.length ≤ 12 := h9; omega) HBZ.out ?_; intro v7 w7 hown7 hg7)
    have HX7 : Hid (Blk w7 w3.heap.size 33 #[.slice A vs.length a, .slice B ls.length b]) := Mem.Blk.apartK (HXO.out.alloc _) (HOWN.out.alloc _) (by decide) hg7
    have HB7 : Hid (Below w2.heap.size w2 w7) := (HBW.out.alloc HBZ.out _).trans ((HOWN.out.alloc _).below_ (by rw [World.size_alloc]; exact Nat.le_succ_of_le HBZ.out) hg7)
    have HO7 := Lib.hid hown7
    clear hown7 hg7 a0
    go_wp2_with fail
    go_loopw [4, 46] (fun ov jv wq => SbIn (pr ++ [(vs.length : Int)]) vs w2 w3.heap.size #[.slice A vs.length a, .slice B ls.length b] ov jv wq) (fun _ jv _ => vs.length - (intOf jv).toNat)
    case atStart => exact ⟨0, Nat.zero_le _, rfl, by rw [List.take_zero, List.append_nil]; exact HO7.out, HB7.out, HX7.out⟩
    case round =>
     obtain ⟨k, hk, rfl, hown, hbw, hxq⟩ := hrel
     have HXQ := Lib.hid hxq; clear hxq
     have HOWN2 := Lib.hid hown; clear hown
     have HBW2 := Lib.hid hbw; clear hbw
     by_cases hlt : k < vs.length
     ·obtain ⟨b', o, hA, _, hc⟩ := (H2.out.below HBW2.out).v.at hlt
      have c1 := hc k hlt
      obtain ⟨y, hy⟩ : ∃ y, y = vs[k] := ⟨_, rfl⟩
      rw [← hy] at c1; unfold fI at c1
      have HTK : Hid (vs.take (k + 1) = vs.take k ++ [y]) := by show _ = _; rw [hy]; exact List.take_succ_eq_append_getElem hlt
      clear hy hc
      have hpl : (pr ++ [(vs.length : Int)] ++ vs.take k).length ≤ 100 := by
       have h8 := HPL.out
       have h7 : pr.length ≤ 12 := h8
       have h9 := HNL.out
       have h6 : vs.length ≤ 7 := h9
       rw [List.length_append, List.length_append, List.length_singleton, List.length_take]; omega
      have HPL2 := Lib.hid hpl; clear hpl
      have hlq : vs.length ≤ 7 := HNL.out
      have hk0 : (0 : Int) ≤ (k : Int) := by omega
      have hk1 : (k : Int) < (vs.length : Int) := by omega
      rw [hA]
      go_wp2_with (at_builtin; refine wpList_appendK1 (f := valN) rfl (.tmp 50) (.tmp 53) 133 rfl valT y rfl (valN_one _) rfl HOWN2.out rfl rfl rfl (by have h9 := HPL2.out; unfold maxLen; exact Nat.le_trans (Nat.succ_le_succ h9) (by decide)) (by have h9 := HPL2.out; exact Nat.le_trans (Nat.mul_le_mul_right 56 (Nat.succ_le_succ h9)) (by decide)) HBW2.out.size ?_; intro v8 w8 hown8 hg8)
      go_roundw
      case rel => exact ⟨k + 1, by omega, by go_num, by rw [HTK.out, ← List.append_assoc]; exact hown8, (HBW2.out.alloc HBW2.out.size _).trans ((HOWN2.out.alloc _).below_ (by rw [World.size_alloc]; exact Nat.le_succ_of_le HBW2.out.size) hg8), (by have hz := Mem.Blk.apartK (HXQ.out.alloc _) (HOWN2.out.alloc _) (by decide) hg8; rw [hA] at hz; exact hz)⟩
      case measure => simp [intOf]; omega
     ·have hk9 : k = vs.length := by omega
      subst hk9
      rw [List.take_length, HTK0.out] at HOWN2
      go_wp2_with fail
      go_roundw
      case rel => exact ⟨1, by omega, by go_num, HOWN2.out, HBW2.out, HXQ.out⟩
      case measure => simp [intOf]
  ·-- ls
    have HTK0 : Hid ((pre x t vs ls 1 ++ [(ls.length : Int)]) ++ ls = pre x t vs ls 2) := rfl
    have HPL : Hid ((pre x t vs ls 1).length ≤ 12) := by show _ ≤ _; have h2 : vs.length ≤ 7 := HV7.out; unfold pre; simp; omega
    have HNL : Hid (ls.length ≤ 7) := HL7
    obtain ⟨pr, hpr⟩ : ∃ pr, pr = pre x t vs ls 1 := ⟨_, rfl⟩
    rw [← hpr] at HOWN HTK0 HPL
    clear hpr
    have HBZ : Hid (w2.heap.size ≤ wo.heap.size) := Lib.hid HBW.out.size
    have a0 : wo.cell? ⟨w3.heap.size, 1, none⟩ = some (.slice B ls.length b) := HXO.out.cell 1
    go_upto_region 8 with (at_builtin; refine wpList_appendK1 (f := valN) rfl (.tmp 38) (.tmp 42) 133 rfl valT (ls.length : Int) rfl (valN_one _) rfl HOWN.out rfl rfl rfl (by have h9 := HPL.out; have h8 : pr.length ≤ 12 := h9; unfold maxLen; omega) (by have h9 := HPL.out; have h8 : pr.length ≤ 12 := h9; omega) HBZ.out ?_; intro v7 w7 hown7 hg7)
    have HX7 : Hid (Blk w7 w3.heap.size 33 #[.slice A vs.length a, .slice B ls.length b]) := Mem.Blk.apartK (HXO.out.alloc _) (HOWN.out.alloc _) (by decide) hg7
    have HB7 : Hid (Below w2.heap.size w2 w7) := (HBW.out.alloc HBZ.out _).trans ((HOWN.out.alloc _).below_ (by rw [World.size_alloc]; exact Nat.le_succ_of_le HBZ.out) hg7)
    have HO7 := Lib.hid hown7
    clear hown7 hg7 a0
    go_wp2_with fail
    go_loopw [4, 46] (fun ov jv wq => SbIn (pr ++ [(ls.length : Int)]) ls w2 w3.heap.size #[.slice A vs.length a, .slice B ls.length b] ov jv wq) (fun _ jv _ => ls.length - (intOf jv).toNat)
    case atStart => exact ⟨0, Nat.zero_le _, rfl, by rw [List.take_zero, List.append_nil]; exact HO7.out, HB7.out, HX7.out⟩
    case round =>
     obtain ⟨k, hk, rfl, hown, hbw, hxq⟩ := hrel
     have HXQ := Lib.hid hxq; clear hxq
     have HOWN2 := Lib.hid hown; clear hown
     have HBW2 := Lib.hid hbw; clear hbw
     by_cases hlt : k < ls.length
     ·obtain ⟨b', o, hA, _, hc⟩ := (H2.out.below HBW2.out).l.at hlt
      have c1 := hc k hlt
      obtain ⟨y, hy⟩ : ∃ y, y = ls[k] := ⟨_, rfl⟩
      rw [← hy] at c1; unfold fI at c1
      have HTK : Hid (ls.take (k + 1) = ls.take k ++ [y]) := by show _ = _; rw [hy]; exact List.take_succ_eq_append_getElem hlt
      clear hy hc
      have hpl : (pr ++ [(ls.length : Int)] ++ ls.take k).length ≤ 100 := by
       have h8 := HPL.out
       have h7 : pr.length ≤ 12 := h8
       have h9 := HNL.out
       have h6 : ls.length ≤ 7 := h9
       rw [List.length_append, List.length_append, List.length_singleton, List.length_take]; omega
      have HPL2 := Lib.hid hpl; clear hpl
      have hlq : ls.length ≤ 7 := HNL.out
      have hk0 : (0 : Int) ≤ (k : Int) := by omega
      have hk1 : (k : Int) < (ls.length : Int) := by omega
      rw [hA]
      go_wp2_with (at_builtin; refine wpList_appendK1 (f := valN) rfl (.tmp 50) (.tmp 53) 133 rfl valT y rfl (valN_one _) rfl HOWN2.out rfl rfl rfl (by have h9 := HPL2.out; unfold maxLen; exact Nat.le_trans (Nat.succ_le_succ h9) (by decide)) (by have h9 := HPL2.out; exact Nat.le_trans (Nat.mul_le_mul_right 56 (Nat.succ_le_succ h9)) (by decide)) HBW2.out.size ?_; intro v8 w8 hown8 hg8)
      go_roundw
      case rel => exact ⟨k + 1, by omega, by go_num, by rw [HTK.out, ← List.append_assoc]; exact hown8, (HBW2.out.alloc HBW2.out.size _).trans ((HOWN2.out.alloc _).below_ (by rw [World.size_alloc]; exact Nat.le_succ_of_le HBW2.out.size) hg8), (by have hz := Mem.Blk.apartK (HXQ.out.alloc _) (HOWN2.out.alloc _) (by decide) hg8; rw [hA] at hz; exact hz)⟩
      case measure => simp [intOf]; omega
     ·have hk9 : k = ls.length := by omega
      subst hk9
      rw [List.take_length, HTK0.out] at HOWN2
      go_wp2_with fail
      go_roundw
      case rel => exact ⟨2, by omega, by go_num, HOWN2.out, HBW2.out, HXQ.out⟩
      case measure => simp [intOf]
  ·have hpn : pre x t vs ls 2 = [x, t] ++ [(vs.length : Int)] ++ vs ++ [(ls.length : Int)] ++ ls := rfl
   have HX5 := Lib.hid (HX2.out.below HBW.out HX2.out.lt)
   obtain ⟨d0, d1, d2, d3, d4⟩ := held5 HX5.out (Below.refl _ _)
   have HPL : Hid ((pre x t vs ls 2).length ≤ 20) := by show _ ≤ _; have h2 : vs.length ≤ 7 := HV7.out; have h3 : ls.length ≤ 7 := HL7.out; rw [hpn]; simp; omega
   obtain ⟨pr, hpr⟩ : ∃ pr, pr = pre x t vs ls 2 := ⟨_, rfl⟩
   rw [← hpr] at HOWN HPL hpn
   have HPN := Lib.hid hpn; clear hpn hpr
   have HNK := Lib.hid (pre_ok HRT.out)
   obtain ⟨hd, hhd⟩ : ∃ z, z = headN x t vs ls ds.length := ⟨_, rfl⟩
   have HHD : Hid (numsB (pr ++ [(ds.length : Int)]) = hd) := by show _ = _; rw [hhd, HPN.out]; exact pre_head x t vs ls ds.length
   have HSN : Hid (snB x t vs ls ds = frameB hd ++ piecesN ((ds.length + 2047) / 2048) ds) := by show _ = _; rw [hhd]; rfl
   have HHL : Hid (hd.length ≤ 1000) := by show _ ≤ _; rw [← HHD.out]; have h1 := numsB_len (pr ++ [(ds.length : Int)]); rw [List.length_append, List.length_singleton] at h1; have h9 := HPL.out; have h8 : pr.length ≤ 20 := h9; omega
   clear hhd
   go_upto_region 15 with (first
    | (at_builtin; refine wpList_appendK1 (f := valN) rfl (.tmp 58) (.tmp 63) 133 rfl valT (ds.length : Int) rfl (valN_one _) rfl HOWN.out rfl rfl rfl (by have h9 := HPL.out; have h8 : pr.length ≤ 20 := h9; unfold maxLen; omega) (by have h9 := HPL.out; have h8 : pr.length ≤ 20 := h9; omega) HBW.out.size ?_; intro v7 w7 hown7 hg7; obtain ⟨A7, c7, rfl⟩ := hown7.form; have hput := Put_nums A7 c7 (pr ++ [(ds.length : Int)]) (OwnK.slK (f := valN) (k := 5) (fun _ => rfl) hown7).2 (by have h9 := HPL.out; have h8 : pr.length ≤ 20 := h9; rw [List.length_append, List.length_singleton]; omega) (by rw [HPN.out]; exact HNK.out); rw [List.length_append, List.length_singleton, HHD.out] at hput; have HB7 : Hid (Below w2.heap.size w2 w7) := (HBW.out.alloc HBW.out.size _).trans ((HOWN.out.alloc _).below_ (by rw [World.size_alloc]; exact Nat.le_succ_of_le HBW.out.size) hg7); have HPUT := Lib.hid hput; clear hput hown7 hg7)
    | ((with_reducible refine HPUT.out.mono ?_); rintro e w8 ⟨A8, c8, rfl, ho8, hb8⟩)
    | fail)
   have HB8 : Hid (Below w2.heap.size w2 w8) := HB7.out.trans (hb8.mono HB7.out.size)
   have HO8 := Lib.hid ho8
   clear ho8 hb8 d0 d1 d2 d3 d4
   have HFR : Hid (Calls Tryz.prog 66 #[.slice A8 hd.length c8] w8 (FrPost (frameB hd, 0) w8)) := by
    have h1 := Frame_any (c := c8) HO8.out.sl.2
    have h2 : frameR hd = (frameB hd, 0) := by unfold frameR; rw [if_pos (Nat.le_trans HHL.out (by decide))]
    rw [h2] at h1
    exact h1
   obtain ⟨fh, hfh⟩ : ∃ z, z = frameB hd := ⟨_, rfl⟩
   rw [← hfh] at HFR HSN
   have HFH := Lib.hid hfh; clear hfh
   go_upto_region 16 with (first
    | ((with_reducible refine HFR.out.mono ?_); rintro e w9 ⟨A9, c9, rfl, ho9, hb9⟩)
    | fail)
   have HB9 : Hid (Below w2.heap.size w2 w9) := HB8.out.trans (hb9.mono HB8.out.size)
   have HO9 : Hid (Mem.Own fB w2.heap.size 5 w9 (.slice A9 fh.length c9) fh) := Lib.hid (Own.lowerS ho9 HB8.out.size)
   clear ho9 hb9
   obtain ⟨w10, hw10⟩ : ∃ y, y = w9.alloc (.cells #[.slice A9 fh.length c9] 36) := ⟨_, rfl⟩
   rw [← hw10]
   have hx10 : Blk w10 w9.heap.size 36 #[.slice A9 fh.length c9] := by rw [hw10]; exact Blk.new_ w9 _ _
   have HO10 : Hid (Mem.Own fB w2.heap.size 5 w10 (.slice A9 fh.length c9) fh) := by show Mem.Own _ _ _ _ _ _; rw [hw10]; exact HO9.out.alloc _
   have h210 : Below w2.heap.size w2 w10 := by rw [hw10]; exact HB9.out.alloc HB9.out.size _
   have hsz : w9.heap.size < w10.heap.size := hx10.lt
   have HB10 := Lib.hid h210
   have HX10 := Lib.hid hx10
   have HX5 := Lib.hid (HX2.out.below h210 HX2.out.lt)
   have HD10 := Lib.hid (H2.out.below h210).d
   clear hw10 hx10 h210
   have HSZ := Lib.hid hsz; clear hsz
   obtain ⟨d0, d1, d2, d3, d4⟩ := held5 HX5.out (Below.refl _ _)
   go_wp2_with (first
    | ((with_reducible refine (Chunk_any (w := w10) (A := D) (len := ds.length) (cap := d)).mono ?_); rintro e w11 ⟨rfl, rfl⟩)
    | fail)
   obtain ⟨w11, hw11⟩ : ∃ y, y = (w10.alloc (.cells #[.slice D ds.length d] 36)).alloc (.cells #[.int .i64 2048] 3) := ⟨_, rfl⟩
   rw [← hw11]
   have hm0 : Below w10.heap.size w10 w11 := by rw [hw11]; exact ((Below.refl _ _).alloc (Nat.le_refl _) _).alloc (by simp) _
   have hs11 : w11.heap.size = w10.heap.size + 2 := by rw [hw11]; simp
   have hbS : Blk w11 w10.heap.size 36 #[.slice D ds.length d] := by rw [hw11]; exact (Blk.new_ w10 36 #[.slice D ds.length d]).alloc _
   have hbN : Blk w11 (w10.heap.size + 1) 3 #[.int .i64 2048] := by
    rw [hw11]
    have h1 := Blk.new_ (w10.alloc (.cells #[.slice D ds.length d] 36)) 3 #[.int .i64 2048]
    rw [World.size_alloc] at h1
    exact h1
   have hbs : w11.cell? ⟨w10.heap.size, 0, none⟩ = some (.slice D ds.length d) := hbS.cell 0
   have hbn : w11.cell? ⟨w10.heap.size + 1, 0, none⟩ = some (.int .i64 2048) := hbN.cell 0
   clear hw11 d0 d1 d2 d3 d4
   obtain ⟨bD, oD, hA⟩ : ∃ b o, ds.length = 0 ∨ D = some ⟨b, o, none⟩ := by
    by_cases h0 : 0 < ds.length
    ·obtain ⟨b', o', e', -⟩ := HD10.out.at h0
     exact ⟨b', o', .inr e'⟩
    ·exact ⟨0, 0, .inl (by omega)⟩
   have hd8 : ds.length ≤ 32768 := (snap_parts HRT.out).2.2.2
   have hstops := chunk_stops Fence.wide 8 trivial rfl (by decide) w10.heap.size (w10.heap.size + 1) bD oD ds.length d D hA HDC.out (by omega) w11 (by omega) (by omega) hbs hbn
   refine (wpIn_wide (n := 9)).1 ?_
   refine' wpIn_rangeFunc_ownF (a₁ := _) rfl (by decide) (gf := 109) (lb := #[.pointer (some ⟨w10.heap.size, 0, none⟩), .pointer (some ⟨w10.heap.size + 1, 0, none⟩)]) rfl trivial (enters_of Tryz.func109 (by kernel_rfl) rfl)
    hstops KpC.trans (KpC.put (by omega) (by omega)) (Below.refl _ _) (fun _ => rfl)
    (fun pr' W => ∃ v, Blk W w9.heap.size 36 #[v] ∧ Mem.Own fB w2.heap.size 5 W v (fh ++ pr'.flatMap fun k => frameB (piece ds k)) ∧ Below w2.heap.size w2 W ∧ Blk W w10.heap.size 36 #[.slice D ds.length d] ∧ Blk W (w10.heap.size + 1) 3 #[.int .i64 2048])
    (fun _ _ _ => False) ?hI (fun _ _ _ _ _ hs _ _ => hs) ?h0 ?assign ?body ?done ?stop
   case assign =>
    intro l x' W K hK
    unfold pcE
    gi_wp2
    exact hK
   case hI =>
    rintro pre' W W' row ⟨v, hb, ho, hw, hbs', hbn'⟩ hg hr
    refine ⟨v, blk_turn hb hg (fun r e => (hr r e).2), own_turn ho hg (fun r e => (hr r e).2), hw.grown hg hw.size (fun k e => ?_), blk_turn hbs' hg (fun r e => (hr r e).2), blk_turn hbn' hg (fun r e => (hr r e).2)⟩
    have h1 := (hr k e).1
    have h2 := HB10.out.size
    omega
   case h0 => exact ⟨_, HX10.out.below hm0 HX10.out.lt, by rw [List.flatMap_nil, List.append_nil]; exact HO10.out.below hm0, HB10.out.trans (hm0.mono HB10.out.size), hbS, hbN⟩
   case stop =>
    rintro D' c pre' W _ _ h _
    exact h.elim
   case done =>
    rintro D' xs W hD rfl ⟨v, hb, ho, hw, -, -⟩ hK
    obtain ⟨rs, hrs⟩ : ∃ z, z = fh ++ (List.range (pieces ds.length)).flatMap fun k => frameB (piece ds k) := ⟨_, rfl⟩
    rw [← hrs] at ho
    have HRS : Hid (snB x t vs ls ds = rs) := by show _ = _; rw [hrs]; exact HSN.out
    clear hrs
    obtain ⟨AF, cF, rfl⟩ := ho.form
    have hcv := hb.cell 0
    have HW := Lib.hid (HB1.out.trans ((HB12.out.trans (hw.mono HB12.out.size)).mono HB1.out.size))
    have HRES := Lib.hid (Own.lowerS ho (base' := w.heap.size) (Nat.le_trans HB1.out.size HB12.out.size))
    have hDw : w.heap.size ≤ D' := by
     have h1 := HB1.out.size
     have h2 := HB12.out.size
     have h3 := HB10.out.size
     omega
    have HDW := Lib.hid hDw
    clear hb ho hw hDw
    go_wp2_with fail
    rw [HQQ.out]
    refine ⟨by simp, .inl ⟨_, _, rfl, run_takeDeferred hK, ?_⟩⟩
    refine ⟨.tuple #[.slice AF rs.length cF, .int .i64 0], by simp [results, Tryz.results36, go_sem], ?_⟩
    rw [HRS.out]
    exact ⟨AF, cF, rfl, own_turn HRES.out (grownBy_putObj' W D' (.deferred none)) (fun r e => by cases e; exact ⟨_, hK, rfl⟩), HW.out.grown (grownBy_putObj' W D' (.deferred none)) HW.out.size (fun k e => by cases e; exact HDW.out)⟩
   case body =>
    rintro l pre' x' W ⟨v, hb, ho, hw, hbS', hbN'⟩ hlen
    obtain ⟨AV, cV, rfl⟩ := ho.form
    obtain ⟨hpl, hps⟩ := piece_sl ((H2.out.below hw).d) hA x'
    obtain ⟨pc, hpc⟩ : ∃ z, z = piece ds x' := ⟨_, rfl⟩
    have hp2 : pc.length ≤ 2048 := by rw [hpc]; exact piece_len ds x'
    have hfr := Frame_some (c := pc.length) (hpc ▸ hps) (Nat.le_trans hp2 (by decide))
    obtain ⟨rs, hrs⟩ : ∃ z, z = fh ++ pre'.flatMap fun k => frameB (piece ds k) := ⟨_, rfl⟩
    obtain ⟨fp, hfp⟩ : ∃ z, z = frameB pc := ⟨_, rfl⟩
    have hfl : fp.length = 8 + pc.length := by rw [hfp, frameB_len]
    rw [← hrs] at ho hb
    rw [← hfp] at hfr
    have HNX : Hid (fh ++ (pre' ++ [x']).flatMap (fun k => frameB (piece ds k)) = rs ++ fp) := by show _ = _; rw [hrs, hfp, hpc, List.flatMap_append, List.flatMap_singleton, List.append_assoc]
    have HRL : Hid (rs.length + fp.length ≤ 1000000) := by
     show _ ≤ _
     have h1 := frames_len ds pre'
     have h3 : pre'.length ≤ 16 := by have h4 := hlen; unfold pieces at h4; omega
     have h5 : fh.length ≤ 1008 := by rw [HFH.out, frameB_len]; have h9 := HHL.out; have h8 : hd.length ≤ 1000 := h9; omega
     have h6 : pre'.length * 2056 ≤ 16 * 2056 := Nat.mul_le_mul_right _ h3
     rw [hrs, List.length_append, hfl]
     omega
    rw [← hpc] at hpl
    rw [← hpl]
    clear hpl hpc hps hrs hfp
    have HFR := Lib.hid hfr; clear hfr
    have HB' := Lib.hid hb
    have HO' := Lib.hid ho
    have HW' := Lib.hid hw
    have HS' := Lib.hid hbS'
    have HN' := Lib.hid hbN'
    have HFL := Lib.hid hfl
    have HP2 := Lib.hid hp2
    clear hb ho hw hbS' hbN' hfl hp2 hbs hbn hstops hlen
    gi_wp2_with fail
    refine ⟨trivial, ?_⟩
    refine (CallsIn.inRound l (callsIn_wide.2 HFR.out)).mono ?_
    rintro e W1 ⟨g1, c1, rfl, ho1, hb1⟩
    have HB1' := Lib.hid (HB'.out.below hb1 HB'.out.lt)
    have HO1' := Lib.hid (HO'.out.below hb1)
    have HS1' := Lib.hid (HS'.out.below hb1 HS'.out.lt)
    have HN1' := Lib.hid (HN'.out.below hb1 HN'.out.lt)
    have HW1' := Lib.hid (HW'.out.trans (hb1.mono HW'.out.size))
    have HSL := Lib.hid ho1.sl.2
    have hcv : W1.cell? ⟨w9.heap.size, 0, none⟩ = some (.slice AV rs.length cV) := HB1'.out.cell 0
    have HBH : Hid (w2.heap.size ≤ W1.heap.size) := Lib.hid HW1'.out.size
    have H63 : Hid (rs.length + fp.length ≤ maxLen) := Lib.hid (Nat.le_trans HRL.out (by unfold maxLen; decide))
    have HBY : Hid ((rs.length + fp.length) * 1 ≤ 140737488355328) := Lib.hid (by rw [Nat.mul_one]; exact Nat.le_trans HRL.out (by decide))
    clear ho1
    gi_wp2_with (gi_at_builtin; refine wpListIn_appendNt (f := fB) rfl (.tmp 82) (.tmp 83) 36 rfl u8T rfl HO1'.out rfl HSL.out fB_oneJ H63.out HBY.out HBH.out ?_; intro v2 W2 ho2 hg2; obtain ⟨A2, c2, rfl⟩ := ho2.form; have HG2 : Hid (W1.grownBy W2 (Value.slice AV rs.length cV).ownBlock) := Lib.hid hg2; have HO2 := Lib.hid ho2; have HBX : Hid (Blk W2 w9.heap.size 36 #[.slice AV rs.length cV]) := Lib.hid (HB1'.out.apart HO1'.out (by decide) HG2.out); have hcx : W2.cell? ⟨w9.heap.size, 0, none⟩ = some (.slice AV rs.length cV) := HBX.out.cell 0; have hfx := HBX.out.free 0; clear ho2 hg2)
    rw [show rs.length + fp.length = (rs ++ fp).length by rw [List.length_append]]
    obtain ⟨W3, hW3⟩ : ∃ z, z = W2.setCell ⟨w9.heap.size, 0, none⟩ (.slice A2 (rs ++ fp).length c2) := ⟨_, rfl⟩
    rw [← hW3]
    have hlt9 := HSZ.out
    have hS3 : Blk W3 w10.heap.size 36 #[.slice D ds.length d] := by rw [hW3]; exact (HS1'.out.apart HO1'.out (by decide) HG2.out).far (by show w10.heap.size ≠ w9.heap.size; omega) _
    have hN3 : Blk W3 (w10.heap.size + 1) 3 #[.int .i64 2048] := by rw [hW3]; exact (HN1'.out.apart HO1'.out (by decide) HG2.out).far (by show w10.heap.size + 1 ≠ w9.heap.size; omega) _
    have hB3 : Blk W3 w9.heap.size 36 #[.slice A2 (rs ++ fp).length c2] := by rw [hW3]; exact HBX.out.set_ 0 _
    have hO3 : Mem.Own fB w2.heap.size 5 W3 (.slice A2 (rs ++ fp).length c2) (rs ++ fp) := by rw [hW3]; exact own_far HO2.out HBX.out (by decide) _
    have hW3b : Below w2.heap.size w2 W3 := by
     rw [hW3]
     exact (HW1'.out.trans (HO1'.out.below_ HBH.out HG2.out)).setCell (p := ⟨w9.heap.size, 0, none⟩) (show w2.heap.size ≤ w9.heap.size from HB9.out.size) _
    refine ⟨(keeps_below hb1).trans ((own_keeps HO1'.out HG2.out).trans (by rw [hW3]; exact KeepsOthers.setCell _ _ _)), ⟨hS3.trans HS'.out.symm, hN3.trans HN'.out.symm⟩, _, hB3, ?_, hW3b, hS3, hN3⟩
    rw [HNX.out]
    exact hO3
end Go.Proofs.YtfpomllhkbbipaaGreatDoor
