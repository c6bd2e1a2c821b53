/- Layer 6: an entry's record: the walk. -/
import Derived.Test.YtifgajinfcihmaaGreatDoorJAk
import Derived.Test.YtifgajinfcihmaaGreatDoorJAn
import Derived.Test.YtifgajinfcihmaaGreatDoorJAx
import Derived.Test.YtifgajinfcihmaaGreatDoorJAy
namespace Go.Proofs.YtifgajinfcihmaaGreatDoor
open Go Go.RowKit Go.Shelf Go.Maps Go.Lib Mem Pk Wl
attribute [local go_sem] Oper.semAt_some
section
variable {F : Fence} {n : Nat} {P : Program} {ops : Array Oper} {rest : List Oper} {o : Oper} {a : Act} {Q : Exit → Act → World → Prop}
theorem wpListIn_append_run {w : World} (hg : o.guard = none) (s x : Operand) (t tx : TypeId) (hop : o.op = .call { callee := .builtin .append, args := #[s, x], argTypes := #[t, tx] })
 (v xv : Value) (hs : a.eval s = v) (hx : a.eval x = xv) (v' : Value) (w' : World) (hrun : (Builtin.append_ #[t, tx] o.type #[v, xv]).run P w = .ok v' w') (h : wpListIn F n P ops Q rest (a.put o.dst v') w') : wpListIn F n P ops Q (o :: rest) a w := by
 refine wpListIn_plain hg fun K hK' => ?_
 unfold Oper.wpIn
 refine ⟨?_, ?_⟩
 ·simp [Oper.about, hop, resolve, Target.leads, Sem.run_pure]
 ·rw [Oper.semAt_plain F _ _ (by rw [hop]; intro c hc'; cases hc')]
  simp [execOp, hop, resolve, invoke, builtin, hs, hx, hrun, Result.andThen]
  exact hK' _ _ h
theorem wpListIn_append1t {α : Type} {f : α → Value} {w0 : World} (hgd : o.guard = none) (s x : Operand) (t : TypeId)
 (ho : o.op = .call { callee := .builtin .append, args := #[s, x], argTypes := #[t, t] })
 {base : Nat} {e : TypeId} {z : Value} {bytes : Nat} (ht : SliceT P t e z bytes)
 {v : Value} {xs : List α} (u : α) (h1 : (f u).oneCell' = true) (hs : a.eval s = v) (hown : Mem.Own f base e w0 v xs)
 {g c : Nat} (hx : a.eval x = .slice (some ⟨g, 0, none⟩) 1 c) (hg : g = w0.heap.size)
 (h63 : xs.length + 1 ≤ maxLen) (hbytes : (xs.length + 1) * bytes ≤ 140737488355328) (hbase : base ≤ w0.heap.size)
 (h : ∀ v' w', Mem.Own f base e w' v' (xs ++ [u]) → (w0.alloc (.cells #[f u] e)).grownBy w' v.ownBlock → wpListIn F n P ops Q rest (a.put o.dst v') w') : wpListIn F n P ops Q (o :: rest) a (w0.alloc (.cells #[f u] e)) := by
 obtain ⟨ht, hz1, i, hi, hz, hsz, hby⟩ := ht
 subst hg
 have hcell : (w0.alloc (.cells #[f u] e)).cell? ⟨w0.heap.size, 0, none⟩ = some (f u) := by
  have := heap_alloc_new w0 (.cells #[f u] e)
  unfold World.cell?
  simp only [this]; rfl
 refine wpListIn_append_own (P := P) _ hgd s x t ho base e i z 1 bytes ht hi hz hsz hby hz1 (by decide) v xs.length (xs.map f) hs (World.ownsRow.alloc hown _) ⟨w0.heap.size, 0, none⟩ 1 c [f u] hx rfl ?_ ?_ h63 hbytes ?_ ?_
 ·intro j y hy
  match j, hy with
  | 0, hy => simp at hy; subst hy; exact hcell
  | j + 1, hy => simp at hy
 ·intro y hy; simp at hy; subst hy; exact h1
 ·rw [World.size_alloc]; omega
 ·intro v' w' ho' hgr _
  refine h v' w' ?_ hgr
  unfold Mem.Own; rw [List.length_append, List.map_append]; exact ho'
theorem wpListIn_append0t {α : Type} {f : α → Value} {w : World} (hgd : o.guard = none) (s x : Operand) (t tn : TypeId)
 (ho : o.op = .call { callee := .builtin .append, args := #[s, x], argTypes := #[t, tn] })
 {base : Nat} {e : TypeId} {bytes : Nat} {kn kq : IntKind} (z : α) (ht : SliceT P t e (f z) bytes) (htn : P.underlying tn = some (.int kn)) (hz1 : (f z).cells = #[f z]) (h1 : (f z).oneCell' = true)
 {A : Option Addr} {m c : Nat} {xs : List α} (hs : a.eval s = .slice A m c) (hown : Mem.Own f base e w (.slice A m c) xs) (hpos : 0 < xs.length) {k : Nat} (hx : a.eval x = .int kq k)
 (h63 : xs.length + k ≤ maxLen) (hbytes : (xs.length + k) * bytes ≤ 140737488355328) (hbase : base ≤ w.heap.size)
 (h : ∀ v' w', Mem.Own f base e w' v' (xs ++ List.replicate k z) → w.grownBy w' (Value.slice A m c).ownBlock → wpListIn F n P ops Q rest (a.put o.dst v') w') : wpListIn F n P ops Q (o :: rest) a w := by
 rcases Nat.eq_zero_or_pos k with rfl | hk0
 ·obtain ⟨ht2, hz2, i, hi, hz, hsz, hby⟩ := ht
  obtain ⟨hm, -⟩ := hown.sl
  obtain ⟨g, rfl, -⟩ := hown.addr (by omega)
  have hc := hown.cap.1
  refine wpListIn_append_run hgd s x t tn ho _ _ hs hx (.slice (some ⟨g, 0, none⟩) m c) w ?_ (h _ _ (by rw [List.replicate_zero, List.append_nil]; exact hown) (World.grownBy.refl _ _))
  have hw0 : IntKind.i64.wrap ((0 : Nat) : Int) = 0 := by rw [IntKind.wrap_i64]; omega
  have hw1 : IntKind.i64.wrap 0 = 0 := by rw [IntKind.wrap_i64]; omega
  simp [Builtin.append_, run_underlying ht2, run_underlying htn, sizeOf, typeInfo, zeroValue, hi, hz, hc, asInt, asIntOf, hw0, hw1, hsz, storeCells]
 ·obtain ⟨v', w', hr, h2, h3⟩ := run_append_zeros_own (P := P) w base t tn o.type e z kq kn ht htn hz1 h1 _ xs hown k hk0 h63 hbytes hbase
  exact wpListIn_append_run hgd s x t tn ho _ _ hs hx v' w' hr (h v' w' h2 h3)
end
theorem Mem.Blk.low {α : Type} {f : α → Value} {base : Nat} {e : TypeId} {w w' : World} {v : Value} {xs : List α} {g : Nat} {t : TypeId} {cs : Array Value} (h : Blk w g t cs) (ho : Mem.Own f base e w v xs) (hgb : g < base) (hg : w.grownBy w' v.ownBlock) : Blk w' g t cs :=
 (hg.block g h.lt (fun e => by have := (ho.lt g e.symm).1; omega)).trans h
theorem own_setLow {α : Type} {f : α → Value} {base : Nat} {e : TypeId} {w : World} {v : Value} {xs : List α} {g : Nat} (h : Mem.Own f base e w v xs) (hg : g < base) (i : Nat) (u : Value) : Mem.Own f base e (w.setCell ⟨g, i, none⟩ u) v xs := by
 obtain ⟨h1, h2⟩ := h
 refine ⟨h1, ?_⟩
 rcases h2 with h2 | ⟨g', cap, cur, a, b, hh, c⟩
 ·exact .inl h2
 ·exact .inr ⟨g', cap, cur, a, b, (Below.heap_setCell w _ u g' (fun e2 => by have e2 : g' = g := e2; omega)).trans hh, c⟩
namespace Wl
def pcW (f : List UInt8) (x : Nat) : List UInt8 := (f.drop (31 * x)).take 31
def secF (s : UInt8) (x : List UInt8) : List UInt8 := (s :: x) ++ List.replicate (31 - x.length) 0
def accP (f : List UInt8) (pre : List Nat) : List UInt8 × UInt8 := pre.foldl (fun a x => (a.1 ++ secF a.2 (pcW f x), 2)) ([], 1)
theorem accP_snoc (f : List UInt8) (pre : List Nat) (x : Nat) : accP f (pre ++ [x]) = ((accP f pre).1 ++ secF (accP f pre).2 (pcW f x), 2) := by unfold accP; simp
theorem accP_two (f : List UInt8) (pre : List Nat) : (accP f pre).2 = 1 ∨ (accP f pre).2 = 2 := by
 rcases List.eq_nil_or_concat pre with rfl | ⟨r, x, rfl⟩
 ·exact .inl rfl
 ·rw [List.concat_eq_append, accP_snoc]; exact .inr rfl
theorem pcW_len (f : List UInt8) (x : Nat) : (pcW f x).length = min 31 (f.length - 31 * x) := by unfold pcW; rw [List.length_take, List.length_drop]
theorem secF_len {s : UInt8} {x : List UInt8} (h : x.length ≤ 31) : (secF s x).length = 32 := by unfold secF; rw [List.length_append, List.length_cons, List.length_replicate]; omega
theorem accP_len (f : List UInt8) (pre : List Nat) : (accP f pre).1.length = 32 * pre.length := by
 obtain ⟨n, hn⟩ : ∃ n, n = pre.length := ⟨_, rfl⟩
 induction n generalizing pre with
 | zero => rw [List.eq_nil_of_length_eq_zero hn.symm]; rfl
 | succ n ih =>
   rcases List.eq_nil_or_concat pre with rfl | ⟨r, x, rfl⟩
   ·cases hn
   ·rw [List.concat_eq_append] at hn ⊢
    rw [List.length_append, List.length_singleton] at hn
    rw [accP_snoc, List.length_append, ih r (by omega), secF_len (by rw [pcW_len]; omega), List.length_append, List.length_singleton]; omega
theorem sig_snoc : ∀ (m : Nat) (s : UInt8) (x : List UInt8), x.length = 31 * (m + 1) → sig (m + 1) s x = sig m s (x.take (31 * m)) ++ (sg s m :: x.drop (31 * m))
 | 0, s, x, h => by
   unfold sig sig sg
   rw [List.take_of_length_le (by omega)]; simp
 | m + 1, s, x, h => by
   have ih := sig_snoc m 2 (x.drop 31) (by rw [List.length_drop]; omega)
   rw [sig, ih, sig, List.take_take, show min 31 (31 * (m + 1)) = 31 by omega, List.drop_take, show 31 * (m + 1) - 31 = 31 * m by omega, List.drop_drop, show 31 + 31 * m = 31 * (m + 1) by omega, sg_succ]
   simp
theorem accP_range (f : List UInt8) : ∀ m, m ≤ nSec f.length → accP f (List.range m) = (sig m 1 ((pad31 f).take (31 * m)), sg 1 m)
 | 0, _ => by simp [accP, sig, sg]
 | m + 1, h => by
   rw [List.range_succ, accP_snoc, accP_range f m (by omega)]
   have hpl := pad31_len f
   have hl : ((pad31 f).take (31 * (m + 1))).length = 31 * (m + 1) := by rw [List.length_take, hpl]; omega
   rw [sig_snoc m 1 _ hl, List.take_take, show min (31 * m) (31 * (m + 1)) = 31 * m by omega]
   refine Prod.ext ?_ (by show (2 : UInt8) = sg 1 (m + 1); unfold sg; rw [if_neg (by omega)])
   show _ ++ _ = _ ++ _
   congr 1
   unfold secF
   rw [List.cons_append]
   congr 1
   rw [List.drop_take, show 31 * (m + 1) - 31 * m = 31 by omega]
   have hm : 31 * m ≤ f.length := by unfold nSec at h; omega
   unfold pad31
   rw [List.drop_append_of_le_length hm, List.take_append]
   have e1 : (pcW f m) = (f.drop (31 * m)).take 31 := rfl
   rw [← e1]
   congr 1
   rw [List.take_replicate, pcW_len, List.length_drop]
   congr 1
   unfold nSec at h ⊢; omega
theorem acc_all (e : En) : (accP (recF e) (List.range (pieces31 (recF e).length))).1 = recB e := by
 have h := accP_range (recF e) (nSec (recF e).length) (Nat.le_refl _)
 show (accP (recF e) (List.range (nSec (recF e).length))).1 = _
 rw [h]
 show sig _ 1 _ = _
 rw [List.take_of_length_le (by rw [pad31_len]; exact Nat.le_refl _)]
 rfl
end Wl
theorem pc31_sl {W : World} {D : Option Addr} {ds : List UInt8} {bD oD : Nat} (h : Sl fB W D ds) (hA : ds.length = 0 ∨ D = some ⟨bD, oD, none⟩) (x' : Nat) :
 (pcW ds x').length = min 31 (ds.length - 31 * x') ∧ Sl fB W (some ⟨bD, oD + 31 * x', none⟩) (pcW ds x') := by
 have hl := pcW_len ds x'
 refine ⟨hl, Nat.le_trans (show (pcW ds x').length ≤ 31 by omega) (by unfold maxLen; decide), fun h0 => ⟨_, _, rfl, fun j hj => ?_⟩⟩
 have hne : ds.length ≠ 0 := by rw [hl] at h0; omega
 obtain rfl := hA.resolve_left hne
 have hk : x' * 31 + j < ds.length := by rw [hl] at hj; omega
 have hc := h.cell hk
 have e1 : (pcW ds x')[j] = ds[x' * 31 + j] := by simp only [pcW, List.getElem_take, List.getElem_drop]; congr 1; omega
 have e2 : oD + 31 * x' + j = oD + (x' * 31 + j) := by omega
 rw [e1, e2, hc]
def RecP (bs : List UInt8) (w : World) (e : Ending) (w' : World) : Prop :=
 ∃ A c, e = .returned (.slice A bs.length c) ∧ Mem.Own fB w.heap.size 5 w' (.slice A bs.length c) bs ∧ Below w.heap.size w w'
def RcJ (f : List UInt8) (gO gS gB gN b4 b8 : Nat) (w4 : World) (cB : Value) (pr : List Nat) (W : World) : Prop :=
 ∃ v, Blk W gO 28 #[v] ∧ Blk W gS 5 #[.int .u8 ((accP f pr).2.toNat : Int)] ∧ Mem.Own fB b8 5 W v (accP f pr).1 ∧ Below b4 w4 W ∧ b8 ≤ W.heap.size ∧ Blk W gB 28 #[cB] ∧ Blk W gN 3 #[.int .i64 31]
theorem pay_vals {e : En} (A : Option Addr) (c : Nat) : pvsB [⟨⟨1, e.ix, []⟩, none, 0⟩, ⟨⟨1, e.tm, []⟩, none, 0⟩, ⟨⟨1, e.kd, []⟩, none, 0⟩, ⟨⟨3, 0, e.ds⟩, A, c⟩] = payB e := by
 unfold pvsB payB
 simp [pvB]
def entC (e : En) (A : Option Addr) (c : Nat) : Array Value := #[.int .i64 e.ix, .int .i64 e.tm, .int .i64 e.kd, .slice A e.ds.length c]
set_option maxRecDepth 100000 in
set_option maxHeartbeats 4000000 in
theorem record_any {G : Nat → Prop} {w : World} {e : En} {A : Option Addr} {c : Nat} {te : TypeId} (he : rightE e = true) (hs : SlB fB te G w A e.ds) :
 Calls Tryz.prog 82 #[.agg (entC e A c)] w (RecP (recB e) w) := by
 obtain ⟨r1, r2, r3, r4, r5, r6, r7⟩ := rightE_iff.1 he
 have hpl := payB_len he
 have hpv := pay_vals (e := e) A c
 have hfl := recF_len e
 have hall := acc_all e
 have hml : (recB e).length = 32 * pieces31 (recF e).length := by rw [recB_len, ← recF_len]; rfl
 have hrf : frameB (payB e) = recF e := rfl
 obtain ⟨ix, tm, kd, ds⟩ := e
 simp only at r1 r2 r3 r4 r5 r6 r7 hs hpv
 obtain ⟨pb, hpb⟩ : ∃ z, z = payB ⟨ix, tm, kd, ds⟩ := ⟨_, rfl⟩
 obtain ⟨fr, hfr⟩ : ∃ z, z = recF ⟨ix, tm, kd, ds⟩ := ⟨_, rfl⟩
 obtain ⟨rb, hrb⟩ : ∃ z, z = recB ⟨ix, tm, kd, ds⟩ := ⟨_, rfl⟩
 rw [← hpb] at hpl hpv hfl hrf
 rw [← hfr] at hfl hall hml hrf
 rw [← hrb] at hall hml ⊢
 have HPL := Lib.hid hpl
 have HPV := Lib.hid hpv
 have HFL := Lib.hid hfl
 have HALL := Lib.hid hall
 have HRF := Lib.hid hrf
 have HML := Lib.hid hml
 have HS := Lib.hid hs
 have HR : Hid (i64ok ix ∧ i64ok tm ∧ i64ok kd ∧ ds.length ≤ 4096) := Lib.hid (by unfold i64ok; omega)
 clear hpb hfr hrb hpl hpv hfl hall hml hrf hs he r1 r2 r3 r4 r5 r6 r7
 have hst := fun (a : Addr) (r : Nat) (w : World) => run_store Tryz.prog w a (.float .f64 r) .plain rfl
 unfold entC
 refine (callsIn_wide (n := 9)).1 (callsIn_of_wp_marks Tryz.func82 rfl trivial (wpIn_wide.2 ?_) rfl)
 simp only [Tryz.ntmps82, List.size_toArray, List.length_cons, List.length_nil, Nat.reduceAdd, Nat.reduceSub, Array.replicate_succ, Array.replicate_zero, List.push_toArray, List.append_toArray, List.nil_append, List.cons_append]
 obtain ⟨QQ, hQQ⟩ : ∃ q, q = bodyPostM Fence.wide 9 Tryz.prog Tryz.f82 (RecP rb w) := ⟨_, rfl⟩
 rw [← hQQ]
 have HQQ := Lib.hid hQQ; clear hQQ
 go_upto_region 1 with fail
 obtain ⟨w1, hw1⟩ : ∃ y, y = w.alloc (.cells #[.int .i64 ix, .int .i64 tm, .int .i64 kd, .slice A ds.length c] 40) := ⟨_, rfl⟩
 rw [← hw1]
 have hb1 : Below w.heap.size w w1 := by rw [hw1]; exact (Below.refl _ _).alloc (Nat.le_refl _) _
 have hx1 : Blk w1 w.heap.size 40 #[.int .i64 ix, .int .i64 tm, .int .i64 kd, .slice A ds.length c] := by rw [hw1]; exact Blk.new_ w _ _
 have d0 : w1.cell? ⟨w.heap.size, 0, none⟩ = some (.int .i64 ix) := hx1.cell 0
 have d1 : w1.cell? ⟨w.heap.size, 1, none⟩ = some (.int .i64 tm) := hx1.cell 1
 have d2 : w1.cell? ⟨w.heap.size, 2, none⟩ = some (.int .i64 kd) := hx1.cell 2
 have d3 : w1.cell? ⟨w.heap.size, 3, none⟩ = some (.slice A ds.length c) := hx1.cell 3
 have HB1 := Lib.hid hb1
 clear hw1 hb1 hx1
 obtain ⟨w2, hw2⟩ : ∃ y, y = w1.alloc (.cells #[.int .i64 1, .int .i64 ix, .float .f64 0, .slice none 0 0, .bool false, .int .i64 1, .int .i64 tm, .float .f64 0, .slice none 0 0, .bool false, .int .i64 1, .int .i64 kd, .float .f64 0, .slice none 0 0, .bool false, .int .i64 3, .int .i64 0, .float .f64 0, .slice A ds.length c, .bool false] 155) := ⟨_, rfl⟩
 have hown2 : OwnK 5 prN w1.heap.size 155 w2 (.slice (some ⟨w1.heap.size, 0, none⟩) 4 4) [⟨⟨1, ix, []⟩, none, 0⟩, ⟨⟨1, tm, []⟩, none, 0⟩, ⟨⟨1, kd, []⟩, none, 0⟩, ⟨⟨3, 0, ds⟩, A, c⟩] := by
  unfold OwnK
  rw [hw2]
  exact ⟨by simp [prN], .inr ⟨w1.heap.size, 4, _, rfl, Nat.le_refl _, heap_alloc_new w1 _, Nat.le_refl _, by unfold maxLen; decide, by simp, by simp [prN]⟩⟩
 have hb2 : Below w.heap.size w w2 := by rw [hw2]; exact HB1.out.alloc HB1.out.size _
 have hput := Put_vals (G := G) (some ⟨w1.heap.size, 0, none⟩) 4 _ (OwnK.slK (f := prN) (k := 5) (fun _ => rfl) hown2).2 (by show 4 ≤ 100000; omega) (fun x hx => by
  have h1 := HR.out
  simp only [List.mem_cons, List.not_mem_nil, or_false] at hx
  rcases hx with rfl | rfl | rfl | rfl
  ·exact ⟨.inl ⟨rfl, h1.1⟩, ⟨5, SlB.nil⟩, Nat.zero_le _⟩
  ·exact ⟨.inl ⟨rfl, h1.2.1⟩, ⟨5, SlB.nil⟩, Nat.zero_le _⟩
  ·exact ⟨.inl ⟨rfl, h1.2.2.1⟩, ⟨5, SlB.nil⟩, Nat.zero_le _⟩
  ·exact ⟨.inr rfl, ⟨_, HS.out.below hb2⟩, h1.2.2.2⟩)
 rw [HPV.out] at hput
 have HPUT : Hid (Calls Tryz.prog 103 #[.slice (some ⟨w1.heap.size, 0, none⟩) 4 4] w2 (PutPost pb w2)) := Lib.hid hput
 have HB2 := Lib.hid hb2
 have HW2 := Lib.hid hw2
 clear hput hown2 hb2 hw2
 go_wp2_with ((with_reducible rw [← HW2.out]); (with_reducible refine HPUT.out.mono ?_); rintro e w3 ⟨A3, c3, rfl, ho3, hb3⟩; have HB3 : Hid (Below w.heap.size w w3) := Lib.hid (HB2.out.trans (hb3.mono HB2.out.size)); have HFRM : Hid (Calls Tryz.prog 104 #[.slice A3 pb.length c3] w3 (FrSome fr w3)) := Lib.hid (by have h1 := Frame_some (c := c3) ho3.sl.2 (Nat.le_trans HPL.out (by decide)); rw [HRF.out] at h1; exact h1); clear ho3 hb3)
 (with_reducible refine HFRM.out.mono ?_); rintro e w4 ⟨gF, cF, rfl, ho4, hb4⟩
 have HB4 : Hid (Below w.heap.size w w4) := Lib.hid (HB3.out.trans (hb4.mono HB3.out.size))
 have hl4 := ho4.cap.1
 have HO4 := Lib.hid ho4
 have HFL4 := Lib.hid (ho4.lt gF rfl).2
 clear ho4 hb4 d0 d1 d2 d3
 go_upto_region 5 with fail
 obtain ⟨w6, hw6⟩ : ∃ y, y = (w4.alloc (.cells #[.slice none 0 0] 28)).alloc (.cells #[.int .u8 1] 5) := ⟨_, rfl⟩
 rw [← hw6]
 have h46 : Below w4.heap.size w4 w6 := by rw [hw6]; exact ((Below.refl _ _).alloc (Nat.le_refl _) _).alloc (by simp) _
 have hs6 : w6.heap.size = w4.heap.size + 2 := by rw [hw6]; simp
 have hbO : Blk w6 w4.heap.size 28 #[.slice none 0 0] := by rw [hw6]; exact (Blk.new_ w4 28 #[.slice none 0 0]).alloc _
 have hbG : Blk w6 (w4.heap.size + 1) 5 #[.int .u8 1] := by
  rw [hw6]
  have h1 := Blk.new_ (w4.alloc (.cells #[.slice none 0 0] 28)) 5 #[.int .u8 1]
  rw [World.size_alloc] at h1
  exact h1
 have H46 := Lib.hid h46
 have HBO := Lib.hid hbO
 have HBG := Lib.hid hbG
 have HS6 := Lib.hid hs6
 clear hw6 h46 hbO hbG hs6
 go_wp2_with (first
  | ((with_reducible refine (Chunk_any31 (w := w6) (A := some ⟨gF, 0, none⟩) (len := fr.length) (cap := cF)).mono ?_); rintro e w7 ⟨rfl, rfl⟩)
  | fail)
 obtain ⟨w8, hw8⟩ : ∃ y, y = (w6.alloc (.cells #[.slice (some ⟨gF, 0, none⟩) fr.length cF] 28)).alloc (.cells #[.int .i64 31] 3) := ⟨_, rfl⟩
 rw [← hw8]
 have hm0 : Below w6.heap.size w6 w8 := by rw [hw8]; exact ((Below.refl _ _).alloc (Nat.le_refl _) _).alloc (by simp) _
 have hs8 : w8.heap.size = w6.heap.size + 2 := by rw [hw8]; simp
 have hbS : Blk w8 w6.heap.size 28 #[.slice (some ⟨gF, 0, none⟩) fr.length cF] := by rw [hw8]; exact (Blk.new_ w6 28 #[.slice (some ⟨gF, 0, none⟩) fr.length cF]).alloc _
 have hbN : Blk w8 (w6.heap.size + 1) 3 #[.int .i64 31] := by
  rw [hw8]
  have h1 := Blk.new_ (w6.alloc (.cells #[.slice (some ⟨gF, 0, none⟩) fr.length cF] 28)) 3 #[.int .i64 31]
  rw [World.size_alloc] at h1
  exact h1
 have hbs : w8.cell? ⟨w6.heap.size, 0, none⟩ = some (.slice (some ⟨gF, 0, none⟩) fr.length cF) := hbS.cell 0
 have hbn : w8.cell? ⟨w6.heap.size + 1, 0, none⟩ = some (.int .i64 31) := hbN.cell 0
 have hs6 := HS6.out
 have HBO8 := Lib.hid (HBO.out.below hm0 (by omega))
 have HBG8 := Lib.hid (HBG.out.below hm0 (by omega))
 have H48 : Hid (Below w4.heap.size w4 w8) := Lib.hid (H46.out.trans (hm0.mono H46.out.size))
 have HSZ : Hid (w6.heap.size = w4.heap.size + 2 ∧ w8.heap.size = w6.heap.size + 2) := Lib.hid ⟨hs6, hs8⟩
 have hfr3 : fr.length ≤ 3000 := by have hfl := HFL.out; have hfl2 := HPL.out; omega
 have hlF := HFL4.out
 have hz1 : w6.heap.size < w8.heap.size := by omega
 have hz2 : w6.heap.size + 1 < w8.heap.size := by omega
 clear hs6 hs8 hst
 have hA : fr.length = 0 ∨ (some ⟨gF, 0, none⟩ : Option Addr) = some ⟨gF, 0, none⟩ := .inr rfl
 have hstops := chunk_stops31 Fence.wide 8 trivial rfl (by decide) w6.heap.size (w6.heap.size + 1) gF 0 fr.length cF (some ⟨gF, 0, none⟩) hA hl4 (by omega) w8 hz1 hz2 hbs hbn
 have HHS := Lib.hid hstops
 have HKP := Lib.hid (@KpC.put w6.heap.size (w6.heap.size + 1) w8 hz1 hz2)
 have HBS := Lib.hid hbS
 have HBN := Lib.hid hbN
 have HM0 := Lib.hid hm0
 have HLF := Lib.hid hlF
 clear hw8 hstops hA hfr3 hl4 hbs hbn hz1 hz2 hbS hbN hm0 hlF
 refine (wpIn_wide (n := 9)).1 ?_
 refine' wpIn_rangeFunc_ownF (a₁ := _) rfl (by decide) (gf := 136) (lb := #[.pointer (some ⟨w6.heap.size, 0, none⟩), .pointer (some ⟨w6.heap.size + 1, 0, none⟩)]) rfl trivial (enters_of Tryz.func136 (by kernel_rfl) rfl)
  HHS.out KpC.trans HKP.out (Below.refl _ _) (fun _ => rfl)
  (RcJ fr w4.heap.size (w4.heap.size + 1) w6.heap.size (w6.heap.size + 1) w4.heap.size w8.heap.size w4 (.slice (some ⟨gF, 0, none⟩) fr.length cF))
  (fun _ _ _ => False) ?hI (fun _ _ _ _ _ hs _ _ => hs) ?h0 ?assign ?body ?done ?stop
 case assign =>
  intro l x' W K hK
  unfold pcE31
  gi_wp2
  exact hK
 case hI =>
  rintro pre' W W' row ⟨v, hb, hg, ho, hw, hz, hbs', hbn'⟩ hgr hr
  have hz4 := H48.out.size
  refine ⟨v, blk_turn hb hgr (fun r e => (hr r e).2), blk_turn hg hgr (fun r e => (hr r e).2), own_turn ho hgr (fun r e => (hr r e).2), hw.grown hgr hw.size (fun k e => ?_), Nat.le_trans hz hgr.size, blk_turn hbs' hgr (fun r e => (hr r e).2), blk_turn hbn' hgr (fun r e => (hr r e).2)⟩
  have h1 := (hr k e).1
  omega
 case h0 => exact ⟨_, HBO8.out, HBG8.out, Own.nil, H48.out, Nat.le_refl _, HBS.out, HBN.out⟩
 case stop =>
  rintro D' c pre' W _ _ h _
  exact h.elim
 case done =>
  rintro D' xs W hD rfl ⟨v, hb, hg, ho, hw, hz, -, -⟩ hK
  rw [HALL.out] at ho
  obtain ⟨AF, cF2, rfl⟩ := ho.form
  have hcv := hb.cell 0
  have HW : Hid (Below w.heap.size w W) := Lib.hid (HB4.out.trans (hw.mono HB4.out.size))
  have HRES := Lib.hid (Own.lowerS ho (base' := w.heap.size) (Nat.le_trans HB4.out.size H48.out.size))
  have hDw : w.heap.size ≤ D' := by
   have h1 := HB4.out.size
   have h2 := H48.out.size
   omega
  have HDW := Lib.hid hDw
  clear hb ho hw hDw hg
  go_wp2_with fail
  rw [HQQ.out]
  refine ⟨by simp, .inl ⟨_, _, rfl, run_takeDeferred hK, ?_⟩⟩
  refine ⟨.slice AF rb.length cF2, by simp [results, Tryz.results82, go_sem], ?_⟩
  exact ⟨AF, cF2, rfl, own_turn HRES.out (grownBy_putObj' W D' (.deferred none)) (fun r e => by cases e; exact ⟨_, hK, rfl⟩), HW.out.grown (grownBy_putObj' W D' (.deferred none)) HW.out.size (fun k e => by cases e; exact HDW.out)⟩
 case body =>
  rintro l pre' x' W ⟨v, hb, hg, ho, hw, hz, hbS', hbN'⟩ hlen
  obtain ⟨AV, cV, rfl⟩ := ho.form
  have h4W : w4.heap.size ≤ W.heap.size := hw.size
  obtain ⟨hpl, hps⟩ := pc31_sl (HO4.out.sl.2.below hw) (.inr rfl) x'
  have htw := accP_two fr pre'
  have HSNC := Lib.hid (accP_snoc fr pre' x')
  have hal := accP_len fr pre'
  obtain ⟨pc, hpc⟩ : ∃ z, z = pcW fr x' := ⟨_, rfl⟩
  obtain ⟨acc, hacc⟩ : ∃ z, z = (accP fr pre').1 := ⟨_, rfl⟩
  obtain ⟨sg0, hsg⟩ : ∃ z, z = (accP fr pre').2 := ⟨_, rfl⟩
  rw [← hpc] at hpl hps HSNC
  have HPC := Lib.hid hpc
  rw [← hacc] at ho hb hal HSNC
  rw [← hsg] at hg htw HSNC
  rw [← hpl]
  have hp31 : pc.length ≤ 31 := by omega
  have hacl : acc.length ≤ 10000 := by have h4 := hlen; have := HFL.out; have := HPL.out; unfold pieces31 at h4; omega
  have hs2 : sg0.toNat < 256 := sg0.toNat_lt
  have hsub : IntKind.i64.wrap (31 - (pc.length : Int)) = ((31 - pc.length : Nat) : Int) := by rw [IntKind.wrap_i64]; omega
  obtain ⟨k0, hk0⟩ : ∃ k, k = 31 - pc.length := ⟨_, rfl⟩
  rw [← hk0] at hsub
  have hks : (31 : Int) - (pc.length : Int) = (k0 : Int) := by omega
  have HKS := Lib.hid hk0
  have HSEC : Hid (secF sg0 pc = ((([sg0] : List UInt8) ++ pc) ++ List.replicate k0 0)) := Lib.hid (by unfold secF; rw [hk0]; rfl)
  have HPS := Lib.hid hps
  have HB' := Lib.hid hb
  have HG' := Lib.hid hg
  have HO' := Lib.hid ho
  have HW' := Lib.hid hw
  have HS' := Lib.hid hbS'
  have HN' := Lib.hid hbN'
  have HP31 := Lib.hid hp31
  have HACL := Lib.hid hacl
  have HZ8 := Lib.hid hz
  have hcO : W.cell? ⟨w4.heap.size, 0, none⟩ = some (.slice AV acc.length cV) := hb.cell 0
  have hcS : W.cell? ⟨w4.heap.size + 1, 0, none⟩ = some (.int .u8 (sg0.toNat : Int)) := hg.cell 0
  have HFK : Hid (w4.heap.size < w8.heap.size ∧ w4.heap.size + 1 < w8.heap.size ∧ w6.heap.size < w8.heap.size ∧ w6.heap.size + 1 < w8.heap.size ∧ w4.heap.size ≠ w6.heap.size ∧ w4.heap.size + 1 ≠ w6.heap.size ∧ w4.heap.size ≠ w6.heap.size + 1 ∧ w4.heap.size + 1 ≠ w6.heap.size + 1 ∧ w4.heap.size ≠ w4.heap.size + 1) := Lib.hid (by have := HSZ.out; omega)
  clear hb hg ho hw hbS' hbN' hp31 hacl hlen hpl hps hpc hacc hsg hal htw hz h4W hk0
  have hz8 := HZ8.out
  gi_wp2_with (first
   | (gi_at_builtin; refine wpListIn_append1t (f := fB) rfl (.tmp 35) (.tmp 37) 28 rfl u8T sg0 rfl rfl HO'.out rfl rfl (by have := HACL.out; unfold maxLen; omega) (by have := HACL.out; omega) HZ8.out ?_; intro v1 W1 ho1 hg1; obtain ⟨A1, c1, rfl⟩ := ho1.form; rw [List.length_append, List.length_singleton] at ho1 ⊢; have HG1 := Lib.hid hg1; have HO1 := Lib.hid ho1; have HB1' := Lib.hid (Mem.Blk.low (HB'.out.alloc _) (HO'.out.alloc _) HFK.out.1 hg1); have HS1 := Lib.hid (Mem.Blk.low (HG'.out.alloc _) (HO'.out.alloc _) HFK.out.2.1 hg1); have HW1 : Hid (Below w4.heap.size w4 W1) := Lib.hid ((HW'.out.alloc HW'.out.size _).grown hg1 (by rw [World.size_alloc]; have := HW'.out.size; omega) (fun k e => by have := (HO'.out.lt k e).1; have := H48.out.size; omega)); have HP1 : Hid (Sl fB W1 (some ⟨gF, 31 * x', none⟩) pc) := Lib.hid (by have h9 := (pc31_sl (HO4.out.sl.2.below HW1.out) (.inr rfl) x').2; rw [Nat.zero_add, ← HPC.out] at h9; exact h9); have HZ1 : Hid (w8.heap.size ≤ W1.heap.size) := Lib.hid (Nat.le_trans HZ8.out (by have := hg1.size; rw [World.size_alloc] at this; omega)); clear ho1 hg1)
   | (gi_at_builtin; refine wpListIn_appendNt (f := fB) rfl (.tmp 38) (.tmp 39) 28 rfl u8T rfl HO1.out rfl HP1.out fB_oneJ (by have := HACL.out; have := HP31.out; rw [List.length_append, List.length_singleton]; unfold maxLen; omega) (by have := HACL.out; have := HP31.out; rw [List.length_append, List.length_singleton]; omega) HZ1.out ?_; intro v2 W2 ho2 hg2; obtain ⟨A2, c2, rfl⟩ := ho2.form; have HG2 := Lib.hid hg2; have HO2 := Lib.hid ho2; have HB2' := Lib.hid (Mem.Blk.low HB1'.out HO1.out HFK.out.1 hg2); have HS2 := Lib.hid (Mem.Blk.low HS1.out HO1.out HFK.out.2.1 hg2); have HZ2 : Hid (w8.heap.size ≤ W2.heap.size) := Lib.hid (Nat.le_trans HZ1.out hg2.size); have q2 : W2.cell? ⟨w4.heap.size, 0, none⟩ = some (.slice AV acc.length cV) := HB2'.out.cell 0; have q2f := HB2'.out.free 0; clear ho2 hg2)
   | (gi_at_builtin
      go_loud (
      have HL3 : Hid (((acc ++ [sg0]) ++ pc).length = acc.length + (pc.length + 1)) := Lib.hid (by simp only [List.length_append, List.length_singleton]; omega)
      have HO2b : Hid (Mem.Own fB w8.heap.size 5 (W2.setCell ⟨w4.heap.size, 0, none⟩ (.slice A2 (acc.length + (pc.length + 1)) c2)) (.slice A2 (acc.length + (pc.length + 1)) c2) ((acc ++ [sg0]) ++ pc)) := Lib.hid (by rw [← HL3.out]; exact own_far HO2.out HB2'.out (by decide) _)
      refine wpListIn_append0t (f := fB) rfl (.tmp 41) (.tmp 44) 28 3 rfl (0 : UInt8) u8T Tryz.underlying3 rfl rfl rfl HO2b.out (by rw [HL3.out]; omega) (k := k0) rfl (by rw [HL3.out]; have := HACL.out; have := HP31.out; have := HKS.out; unfold maxLen; omega) (by rw [HL3.out]; have := HACL.out; have := HP31.out; have := HKS.out; omega) (by rw [World.size_setCell]; exact HZ2.out) ?_
      intro v3 W3 ho3 hg3
      obtain ⟨A3x, c3x, rfl⟩ := ho3.form
      have HG3 := Lib.hid hg3
      have HO3 := Lib.hid ho3
      have HB3' := Lib.hid (Mem.Blk.low (HB2'.out.set_ 0 (.slice A2 (acc.length + (pc.length + 1)) c2)) HO2b.out HFK.out.1 hg3)
      have HS3 := Lib.hid (Mem.Blk.low (HS2.out.far (p := ⟨w4.heap.size, 0, none⟩) (fun e => HFK.out.2.2.2.2.2.2.2.2 e.symm) (.slice A2 (acc.length + (pc.length + 1)) c2)) HO2b.out HFK.out.2.1 hg3)
      have q3 : W3.cell? ⟨w4.heap.size, 0, none⟩ = some (.slice A2 (acc.length + (pc.length + 1)) c2) := HB3'.out.cell 0
      have q3f := HB3'.out.free 0
      have q4 : W3.cell? ⟨w4.heap.size + 1, 0, none⟩ = some (.int .u8 (sg0.toNat : Int)) := HS3.out.cell 0
      have q4f := HS3.out.free 0
      clear ho3 hg3))
   | fail)
  have HACC : Hid (accP fr (pre' ++ [x']) = (((acc ++ [sg0]) ++ pc) ++ List.replicate k0 0, 2)) := Lib.hid (by rw [HSNC.out, HSEC.out]; simp)
  have hlen3 : (((acc ++ [sg0]) ++ pc) ++ List.replicate k0 0).length = acc.length + (pc.length + k0 + 1) := by simp only [List.length_append, List.length_singleton, List.length_replicate]; omega
  have ho3 := HO3.out
  rw [hlen3] at ho3
  obtain ⟨f1, f2, f3, f4, f5, f6, f7, f8, f9⟩ := HFK.out
  have chain : ∀ g t cs, Blk W g t cs → g < w8.heap.size → g ≠ w4.heap.size → g ≠ w4.heap.size + 1 → Blk ((W3.setCell ⟨w4.heap.size, 0, none⟩ (.slice A3x (acc.length + (pc.length + k0 + 1)) c3x)).setCell ⟨w4.heap.size + 1, 0, none⟩ (.int .u8 2)) g t cs := fun g t cs hb hl n1 n2 =>
   ((Mem.Blk.low ((Mem.Blk.low (Mem.Blk.low (hb.alloc _) (HO'.out.alloc _) hl HG1.out) HO1.out hl HG2.out).far (p := ⟨w4.heap.size, 0, none⟩) n1 (.slice A2 (acc.length + (pc.length + 1)) c2)) HO2b.out hl HG3.out).far (p := ⟨w4.heap.size, 0, none⟩) n1 _).far (p := ⟨w4.heap.size + 1, 0, none⟩) n2 _
  have hS3 := chain _ _ _ HS'.out f3 (fun e => f5 e.symm) (fun e => f6 e.symm)
  have hN3 := chain _ _ _ HN'.out f4 (fun e => f7 e.symm) (fun e => f8 e.symm)
  refine ⟨(keeps_below ((Below.refl _ _).alloc (Nat.le_refl _) _)).trans ((own_keeps (HO'.out.alloc _) HG1.out).trans ((own_keeps HO1.out HG2.out).trans ((KeepsOthers.setCell _ _ _).trans ((own_keeps HO2b.out HG3.out).trans ((KeepsOthers.setCell _ _ _).trans (KeepsOthers.setCell _ _ _)))))), ⟨hS3.trans HS'.out.symm, hN3.trans HN'.out.symm⟩, ?_⟩
  unfold RcJ
  rw [HACC.out]
  refine ⟨.slice A3x (acc.length + (pc.length + k0 + 1)) c3x, (HB3'.out.set_ 0 _).far (p := ⟨w4.heap.size + 1, 0, none⟩) f9 _, (HS3.out.far (p := ⟨w4.heap.size, 0, none⟩) (fun e => f9 e.symm) _).set_ 0 _, own_setLow (own_setLow ho3 f1 0 _) f2 0 _, ?_, ?_, hS3, hN3⟩
  ·have b1 : w4.heap.size ≤ w8.heap.size := H48.out.size
   exact ((((HW1.out.grown HG2.out HW1.out.size (fun k e => Nat.le_trans b1 (HO1.out.lt k e).1)).setCell (p := ⟨w4.heap.size, 0, none⟩) (Nat.le_refl _) _).grown HG3.out (by rw [World.size_setCell]; exact Nat.le_trans b1 HZ2.out) (fun k e => Nat.le_trans b1 (HO2b.out.lt k e).1)).setCell (p := ⟨w4.heap.size, 0, none⟩) (Nat.le_refl _) _).setCell (p := ⟨w4.heap.size + 1, 0, none⟩) (Nat.le_succ _) _
  ·rw [World.size_setCell, World.size_setCell]
   have := HG3.out.size
   rw [World.size_setCell] at this
   exact Nat.le_trans HZ2.out this
end Go.Proofs.YtifgajinfcihmaaGreatDoor
namespace Go.Proofs.YtifgajinfcihmaaGreatDoor
open Go Go.RowKit Go.Shelf Go.Maps Go.Lib Mem Pk Wl
set_option maxRecDepth 100000 in
set_option maxHeartbeats 2000000 in
theorem wright_any (e : En) (A : Option Addr) (c : Nat) (w : World) (hl : e.ds.length ≤ maxLen) : Calls Tryz.prog 57 #[.agg (entC e A c)] w (BoolB (rightE e) w) := by
 obtain ⟨ix, tm, kd, ds⟩ := e
 unfold maxLen at hl
 have hl : ds.length ≤ 9223372036854775807 := hl
 obtain ⟨b1, h1⟩ : ∃ p, p = decide (1 ≤ ix) := ⟨_, rfl⟩
 obtain ⟨b2, h2⟩ : ∃ p, p = decide (ix ≤ 1099511627776) := ⟨_, rfl⟩
 obtain ⟨b3, h3⟩ : ∃ p, p = decide (0 ≤ tm) := ⟨_, rfl⟩
 obtain ⟨b4, h4⟩ : ∃ p, p = decide (tm ≤ 1099511627776) := ⟨_, rfl⟩
 obtain ⟨b5, h5⟩ : ∃ p, p = decide (0 ≤ kd) := ⟨_, rfl⟩
 obtain ⟨b6, h6⟩ : ∃ p, p = decide (kd ≤ 2) := ⟨_, rfl⟩
 obtain ⟨b7, h7⟩ : ∃ p, p = decide ((ds.length : Int) ≤ 2048) := ⟨_, rfl⟩
 have h7' : b7 = decide (ds.length ≤ 2048) := by rw [h7, decide_eq_decide]; omega
 have e0 : rightE ⟨ix, tm, kd, ds⟩ = (b1 && (b2 && (b3 && (b4 && (b5 && (b6 && b7)))))) := by
  unfold rightE top
  rw [h1, h2, h3, h4, h5, h6, h7']
  simp only [Bool.decide_and]
 rw [e0]
 have t1 := h1.symm
 have t2 := h2.symm
 have t3 := h3.symm
 have t4 := h4.symm
 have t5 := h5.symm
 have t6 := h6.symm
 have t7 := h7.symm
 have t8 := h7'.symm
 unfold entC
 simp only
 clear h1 h2 h3 h4 h5 h6 h7 h7' e0
 have key : ∀ b : Bool, b = false ∨ b = true := by decide
 have fin : Below w.heap.size w (w.alloc (.cells #[.int .i64 ix, .int .i64 tm, .int .i64 kd, .slice A ds.length c] 40)) := (Below.refl _ _).alloc (Nat.le_refl _) _
 have FIN := Lib.hid fin
 clear fin
 rcases key b1 with rfl | rfl
 ·clear key t2 t3 t4 t5 t6 t7 t8
  go_enter Tryz.func57, Tryz.ntmps57
  go_wp2_with fail
  go_ret
  exact ⟨rfl, FIN.out⟩
 ·skip
  rcases key b2 with rfl | rfl
  ·clear key t3 t4 t5 t6 t7 t8
   go_enter Tryz.func57, Tryz.ntmps57
   go_wp2_with fail
   go_ret
   exact ⟨rfl, FIN.out⟩
  ·skip
   rcases key b3 with rfl | rfl
   ·clear key t4 t5 t6 t7 t8
    go_enter Tryz.func57, Tryz.ntmps57
    go_wp2_with fail
    go_ret
    exact ⟨rfl, FIN.out⟩
   ·skip
    rcases key b4 with rfl | rfl
    ·clear key t5 t6 t7 t8
     go_enter Tryz.func57, Tryz.ntmps57
     go_wp2_with fail
     go_ret
     exact ⟨rfl, FIN.out⟩
    ·skip
     rcases key b5 with rfl | rfl
     ·clear key t6 t7 t8
      go_enter Tryz.func57, Tryz.ntmps57
      go_wp2_with fail
      go_ret
      exact ⟨rfl, FIN.out⟩
     ·skip
      rcases key b6 with rfl | rfl
      ·clear key t7 t8
       go_enter Tryz.func57, Tryz.ntmps57
       go_wp2_with fail
       go_ret
       exact ⟨rfl, FIN.out⟩
      ·skip
       rcases key b7 with rfl | rfl
       ·clear key 
        go_enter Tryz.func57, Tryz.ntmps57
        go_wp2_with fail
        go_ret
        exact ⟨rfl, FIN.out⟩
       ·clear key
        go_enter Tryz.func57, Tryz.ntmps57
        go_wp2_with fail
        go_ret
        exact ⟨rfl, FIN.out⟩
theorem nz_any (x : UInt8) (w : World) : Calls Tryz.prog 128 #[fB x] w fun e w' => e = .returned (.bool (x != 0)) ∧ w = w' := by
 have hx := x.toNat_lt
 have e0 : (((x.toNat : Int) != 0)) = (x != 0) := by
  by_cases h : x = 0
  ·subst h; rfl
  ·have h2 : x.toNat ≠ 0 := fun e => h (UInt8.toNat_inj.1 e)
   have : ((x.toNat : Int) != 0) = true := by rw [bne_iff_ne]; omega
   rw [this]; symm; rw [bne_iff_ne]; exact h
 obtain ⟨q, hq⟩ : ∃ q, q = (x != 0) := ⟨_, rfl⟩
 rw [← hq] at e0 ⊢
 unfold fB
 clear hq
 go_enter Tryz.func128, Tryz.ntmps128
 go_wp2_with fail
 go_ret
 exact ⟨rfl, rfl⟩
theorem zeros_take {xs : List UInt8} {k : Nat} (hk : k < xs.length) (h : zeros (xs.take k) = true) (hx : xs[k] = 0) : zeros (xs.take (k + 1)) = true := by
 rw [List.take_succ_eq_append_getElem hk]
 unfold zeros at *
 rw [List.all_append, h, hx]; rfl
def ZrRel (xs : List UInt8) (w : World) (iv : Value) (wr : World) : Prop := ∃ k : Nat, k ≤ xs.length ∧ iv = .int .i64 k ∧ Hid (zeros (xs.take k) = true) ∧ wr = w
def IdxZ (b : Bool) (w : World) (e : Ending) (w' : World) : Prop := ∃ i : Int, e = .returned (.int .i64 i) ∧ decide (0 ≤ i) = b ∧ w = w'
set_option maxRecDepth 100000 in
set_option maxHeartbeats 1000000 in
theorem IndexFunc_nz (A : Option Addr) (c : Nat) (xs : List UInt8) (w : World) (hs : Sl fB w A xs) :
 Calls Tryz.prog 162 #[.slice A xs.length c, .func (.func 128) #[] #[]] w (IdxZ (!zeros xs) w) := by
 have hl := hs.len
 have HS := Lib.hid hs
 clear hs
 go_enter Tryz.func162, Tryz.ntmps162
 go_wp2_with fail
 go_loopw [8] (fun i wr => ZrRel xs w i wr) (fun i _ => xs.length - (intOf i).toNat)
 case atStart => exact ⟨0, Nat.zero_le _, rfl, Lib.hid rfl, rfl⟩
 case round =>
  obtain ⟨k, hk, rfl, HZ, rfl⟩ := hrel
  by_cases hlt : k < xs.length
  ·obtain ⟨b, o, rfl, _, hc⟩ := HS.out.at hlt
   have hck := hc k hlt
   obtain ⟨x, hx⟩ : ∃ x, x = xs[k] := ⟨_, rfl⟩
   rw [← hx] at hck
   have HX := Lib.hid hx
   have HLT := Lib.hid hlt
   have HC : Hid (∀ W, Calls Tryz.prog 128 #[fB x] W fun e w' => e = .returned (.bool (x != 0)) ∧ W = w') := Lib.hid fun W => nz_any x W
   clear hc hx
   have hk0 : (0 : Int) ≤ (k : Int) := by omega
   have hk1 : (k : Int) < (xs.length : Int) := by omega
   obtain ⟨v, hv⟩ : ∃ v, v = fB x := ⟨_, rfl⟩
   rw [← hv] at hck HC
   clear hv
   by_cases h0 : x = 0
   ·have e0 : (x != 0) = false := by rw [h0]; rfl
    rw [e0] at HC
    have HZ2 := Lib.hid (zeros_take HLT.out HZ.out (by rw [← HX.out]; exact h0))
    clear e0 h0
    go_wp2_with ((with_reducible refine (HC.out _).mono ?_); rintro e wx ⟨rfl, rfl⟩)
    go_roundw
    case rel => exact ⟨k + 1, by omega, by go_num, HZ2, rfl⟩
    case measure => simp [intOf]; omega
   ·have e0 : (x != 0) = true := by rw [bne_iff_ne]; exact h0
    rw [e0] at HC
    have HF : Hid (zeros xs = false) := Lib.hid (by
     unfold zeros
     rw [List.all_eq_false]
     exact ⟨x, by rw [HX.out]; exact List.getElem_mem HLT.out, by simpa using h0⟩)
    clear e0 h0
    go_wp2_with ((with_reducible refine (HC.out _).mono ?_); rintro e wx ⟨rfl, rfl⟩)
    go_ret
    exact ⟨(k : Int), rfl, by rw [HF.out]; exact decide_eq_true (by omega), rfl⟩
  ·have HF : Hid (zeros xs = true) := Lib.hid (by have h1 := HZ.out; rw [List.take_of_length_le (by omega)] at h1; exact h1)
   go_wp2_with fail
   go_ret
   exact ⟨-1, rfl, by rw [HF.out]; rfl, rfl⟩
set_option maxRecDepth 100000 in
theorem ContainsFunc_nz (A : Option Addr) (c : Nat) (xs : List UInt8) (w : World) (hs : Sl fB w A xs) :
 Calls Tryz.prog 127 #[.slice A xs.length c, .func (.func 128) #[] #[]] w fun e w' => e = .returned (.bool (!zeros xs)) ∧ w = w' := by
 obtain ⟨q, hq⟩ : ∃ q, q = !zeros xs := ⟨_, rfl⟩
 have HI := Lib.hid (IndexFunc_nz A c xs w hs)
 rw [← hq] at HI ⊢
 clear hs hq
 go_enter Tryz.func127, Tryz.ntmps127
 go_wp2_with ((with_reducible refine HI.out.mono ?_); rintro e wx ⟨i, rfl, hi, rfl⟩)
 go_ret
 exact ⟨rfl, rfl⟩
end Go.Proofs.YtifgajinfcihmaaGreatDoor
namespace Go.Proofs.YtifgajinfcihmaaGreatDoor
open Go Go.RowKit Go.Shelf Go.Maps Go.Lib Mem Pk Wl
def zEC : Array Value := #[.int .i64 0, .int .i64 0, .int .i64 0, .slice none 0 0]
def EntP (res : Option (En × Nat)) (w : World) (e : Ending) (w' : World) : Prop :=
 Below w.heap.size w w' ∧ (res = none → e = .returned (.tuple #[.agg zEC, .int .i64 0])) ∧
 ∀ x n, res = some (x, n) → ∃ A c, e = .returned (.tuple #[.agg (entC x A c), .int .i64 (n : Int)]) ∧ SlB fB 5 (fun g => w.heap.size ≤ g) w' A x.ds ∧ x.ds.length ≤ c ∧ c ≤ maxLen
theorem EntP.no {res : Option (En × Nat)} {w w' : World} (h : res = none) (hb : Below w.heap.size w w') : EntP res w (.returned (.tuple #[.agg #[.int .i64 0, .int .i64 0, .int .i64 0, .slice none 0 0], .int .i64 0])) w' :=
 ⟨hb, fun _ => rfl, fun x n h2 => by rw [h] at h2; cases h2⟩
theorem EntP.yes {res : Option (En × Nat)} {x : En} {n : Nat} {w w' : World} {A : Option Addr} {c : Nat} (h : res = some (x, n)) (hb : Below w.heap.size w w') (hs : SlB fB 5 (fun g => w.heap.size ≤ g) w' A x.ds) (hc : x.ds.length ≤ c) (hm : c ≤ maxLen) : EntP res w (.returned (.tuple #[.agg (entC x A c), .int .i64 (n : Int)])) w' :=
 ⟨hb, (fun h2 => by rw [h] at h2; cases h2), fun y m h2 => by
  rw [h] at h2; injection h2 with h2; injection h2 with h3 h4; subst h3; subst h4
  exact ⟨A, c, rfl, hs, hc, hm⟩⟩
def put4 (W : World) (g : Nat) (a b c d : Value) : World := (((W.setCell ⟨g, 0, none⟩ a).setCell ⟨g, 1, none⟩ b).setCell ⟨g, 2, none⟩ c).setCell ⟨g, 3, none⟩ d
theorem put4_blk {W : World} {g : Nat} {t : TypeId} {a b c d a' b' c' d' : Value} (h : Blk W g t #[a', b', c', d']) : Blk (put4 W g a b c d) g t #[a, b, c, d] := (((h.set_ 0 a).set_ 1 b).set_ 2 c).set_ 3 d
theorem put4_frm (W : World) (g : Nat) (a b c d : Value) : Frm (fun k => k = g) W (put4 W g a b c d) :=
 ((((Frm.refl (fun k => k = g) W).setCell (p := ⟨g, 0, none⟩) (fun _ => rfl) a).setCell (p := ⟨g, 1, none⟩) (fun _ => rfl) b).setCell (p := ⟨g, 2, none⟩) (fun _ => rfl) c).setCell (p := ⟨g, 3, none⟩) (fun _ => rfl) d
def sgI (i : Nat) : Int := if i = 0 then 1 else 2
structure EnSt (w : World) (b : List UInt8) (i m : Nat) (A' : Option Addr) (c' : Nat) (fv : Value) (wr : World) : Prop where
 hm : m + 32 * i = b.length
 sl : Sl fB w A' (b.drop (32 * i))
 hc : m ≤ c'
 hx : c' ≤ maxLen
 own : Mem.Own fB w.heap.size 5 wr fv (unsig i b)
 blk : Blk wr w.heap.size 40 #[.int .i64 0, .int .i64 0, .int .i64 0, .slice none 0 0]
 bel : Below w.heap.size w wr
 ent : entA b (b.length / 32 + 1 - i) i = entryS b
def EnRel (w : World) (b : List UInt8) (bv nv fv sv : Value) (wr : World) : Prop :=
 ∃ i m A' c', bv = .slice A' m c' ∧ nv = .int .i64 ((32 * i : Nat) : Int) ∧ sv = .int .u8 (sgI i) ∧ EnSt w b i m A' c' fv wr
theorem entA_stop {b : List UInt8} {n i : Nat} (h : ¬ secOK 1 b i) : entA b n i = none := by
 cases n with
 | zero => rfl
 | succ n => unfold entA; rw [if_neg h]
theorem entA_step {b : List UInt8} {i : Nat} (h : secOK 1 b i) : entA b (b.length / 32 + 1 - i) i = if (unframe (unsig (i + 1) b)).2.2 = 31 then entA b (b.length / 32 + 1 - (i + 1)) (i + 1) else finE (unsig (i + 1) b) (i + 1) := by
 have h1 := h.1
 have : b.length / 32 + 1 - i = (b.length / 32 + 1 - (i + 1)) + 1 := by omega
 rw [this, entA, if_pos h]
theorem finE_a {f : List UInt8} {k : Nat} (h : (unframe f).2.2 ≠ 0) : finE f k = none := by unfold finE; rw [if_neg (fun e => h e.1)]
theorem finE_b {f : List UInt8} {k : Nat} (h : zeros (f.drop (unframe f).2.1) = false) : finE f k = none := by unfold finE; rw [if_neg (fun e => by rw [h] at e; exact absurd e.2 (by decide))]
theorem finE_c {f : List UInt8} {k : Nat} (h0 : (unframe f).2.2 = 0) (hz : zeros (f.drop (unframe f).2.1) = true) : finE f k = (getE (unframe f).1).map (fun e => (e, 32 * k)) := by unfold finE; rw [if_pos ⟨h0, hz⟩]
theorem getE_none {p : List UInt8} (h : getV kinds p = none) : getE p = none := by unfold getE; rw [h]
theorem getE_vs {p : List UInt8} {vs : List PV} (h : getV kinds p = some vs) : getE p = if rightE (enOf vs) = true then some (enOf vs) else none := by unfold getE; rw [h]
theorem getV_four {p : List UInt8} {vs : List PV} (h : getV kinds p = some vs) : ∃ a b c d : PV, vs = [a, b, c, d] := by
 unfold getV at h
 cases hw : valsV kinds p with
 | none => rw [hw] at h; cases h
 | some x =>
   obtain ⟨xs, rest⟩ := x
   rw [hw] at h
   cases rest with
   | cons a b => cases h
   | nil =>
     injection h with h
     subst h
     unfold kinds valsV at hw
     cases h1 : oneV 1 p with
     | none => rw [h1] at hw; cases hw
     | some y1 =>
       obtain ⟨v1, r1⟩ := y1
       rw [h1] at hw; simp only at hw
       unfold valsV at hw
       cases h2 : oneV 1 r1 with
       | none => rw [h2] at hw; cases hw
       | some y2 =>
         obtain ⟨v2, r2⟩ := y2
         rw [h2] at hw; simp only at hw
         unfold valsV at hw
         cases h3 : oneV 1 r2 with
         | none => rw [h3] at hw; cases hw
         | some y3 =>
           obtain ⟨v3, r3⟩ := y3
           rw [h3] at hw; simp only at hw
           unfold valsV at hw
           cases h4 : oneV 3 r3 with
           | none => rw [h4] at hw; cases hw
           | some y4 =>
             obtain ⟨v4, r4⟩ := y4
             rw [h4] at hw
             simp only [valsV, Option.some.injEq, Prod.mk.injEq] at hw
             exact ⟨v1, v2, v3, v4, hw.1.symm⟩
set_option maxRecDepth 100000 in
set_option maxHeartbeats 4000000 in
theorem entry_any {w : World} {A : Option Addr} {c : Nat} {b : List UInt8} (h : Sl fB w A b) (hc : b.length ≤ c) (hm : c ≤ maxLen) (hl : b.length ≤ 100000000) :
 Calls Tryz.prog 98 #[.slice A b.length c] w (EntP (entryS b) w) := by
 obtain ⟨res, hres⟩ : ∃ z, z = entryS b := ⟨_, rfl⟩
 rw [← hres]
 have HRES := Lib.hid hres
 have H := Lib.hid h
 have HC := Lib.hid hc
 have HM := Lib.hid hm
 have HL := Lib.hid hl
 clear h hc hm hl hres
 have hmf : ∀ (fn : Fn) (first cap : Array Value) (w : World), (Instr.makeFunc fn first cap).run Tryz.prog w = .ok (.func fn first cap) w := fun _ _ _ _ => rfl
 go_enter Tryz.func98, Tryz.ntmps98
 go_wp2_with fail
 go_loopw [0, 3, 4, 5] (fun bv nv fv sv wr => EnRel w b bv nv fv sv wr) (fun _ nv _ _ _ => b.length + 32 - (RowKit.intOf nv).toNat)
 case atStart =>
  refine ⟨0, b.length, A, c, rfl, rfl, rfl, ⟨by omega, H.out, HC.out, HM.out, Mem.Own.nil, ?_, ?_, rfl⟩⟩
  ·exact Blk.new_ w _ _
  ·exact (Below.refl _ _).alloc (Nat.le_refl _) _
 case round =>
  obtain ⟨i, m, A', c', rfl, rfl, rfl, hst⟩ := hrel
  have HST := Lib.hid hst
  have hmi := hst.hm
  have hblk := hst.blk
  have z0 : wr.cell? ⟨w.heap.size, 0, none⟩ = some (.int .i64 0) := hblk.cell 0
  have z1 : wr.cell? ⟨w.heap.size, 1, none⟩ = some (.int .i64 0) := hblk.cell 1
  have z2 : wr.cell? ⟨w.heap.size, 2, none⟩ = some (.int .i64 0) := hblk.cell 2
  have z3 : wr.cell? ⟨w.heap.size, 3, none⟩ = some (.slice none 0 0) := hblk.cell 3
  have f0 := hblk.free 0
  have f1 := hblk.free 1
  have f2 := hblk.free 2
  have f3 := hblk.free 3
  by_cases h32 : 32 ≤ m
  ·have hdl : (b.drop (32 * i)).length = m := by rw [List.length_drop]; omega
   obtain ⟨bb, oo, rfl, hcl⟩ := hst.sl.2 (by rw [hdl]; omega)
   have hbb : bb < w.heap.size := lt_of_cell (hcl 0 (by rw [hdl]; omega))
   obtain ⟨x, hx⟩ : ∃ x, x = (b.drop (32 * i))[0]'(by rw [hdl]; omega) := ⟨_, rfl⟩
   have hgx : b.getD (32 * i) 0 = x := by
    rw [hx, List.getElem_drop, List.getD_eq_getElem?_getD, List.getElem?_eq_getElem (by omega)]; rfl
   have cx : wr.cell? ⟨bb, oo, none⟩ = some (.int .u8 (x.toNat : Int)) := by
    have h1 := hcl 0 (by rw [hdl]; omega)
    rw [← hx] at h1
    exact (hst.bel.cell (p := ⟨bb, oo, none⟩) hbb).trans h1
   have hsl := hst.sl
   have HSL := Lib.hid hsl
   have t1 : decide ((m : Int) ≥ 32) = true := by simp; omega
   have hm0 : (0 : Int) < (m : Int) := by omega
   have hsi : sgI i = ((sg 1 i).toNat : Int) := by unfold sgI sg; split <;> rfl
   obtain ⟨s, hs⟩ : ∃ s, s = sgI i := ⟨_, rfl⟩
   rw [← hs] at hsi ⊢
   have HSI := Lib.hid hs
   by_cases hq : x = sg 1 i
   ·have t2 : (((x.toNat : Int)) == s) = true := by rw [hsi, hq]; simp
    have HOK : Hid (secOK 1 b i) := Lib.hid ⟨by omega, by rw [hgx, hq]⟩
    have HEN : Hid (res = if (unframe (unsig (i + 1) b)).2.2 = 31 then entA b (b.length / 32 + 1 - (i + 1)) (i + 1) else finE (unsig (i + 1) b) (i + 1)) := Lib.hid (by rw [HRES.out, ← hst.ent]; exact entA_step HOK.out)
    have hus := unsig_succ i b
    have hpcl : ((b.drop (32 * i + 1)).take 31).length = 31 := by rw [List.length_take, List.length_drop]; omega
    have hul : (unsig i b).length = 31 * i := unsig_len i b (by omega)
    have hps : Sl fB w (partA (some ⟨bb, oo, none⟩) c' 1) ((b.drop (32 * i + 1)).take 31) := by
     have h1 := hsl.part (c := c') (k := 1) (m := 31) (by rw [hdl]; omega) (by rw [hdl]; exact hst.hc)
     rw [List.drop_drop] at h1; exact h1
    have hcut1 : ∀ W, (Instr.slice 28 (.slice (some ⟨bb, oo, none⟩) m c') (some (.int .i64 1)) (some (.int .i64 32)) none).run Tryz.prog W = .ok (.slice (partA (some ⟨bb, oo, none⟩) c' 1) 31 (c' - 1)) W := fun W => cut_lh Tryz.underlying28 sizeU8 _ m c' 1 32 1 32 rfl rfl (by omega) (by have := hst.hc; omega) W
    have hcut2 : ∀ W, (Instr.slice 28 (.slice (some ⟨bb, oo, none⟩) m c') (some (.int .i64 32)) none none).run Tryz.prog W = .ok (.slice (partA (some ⟨bb, oo, none⟩) c' 32) (m - 32) (c' - 32)) W := fun W => cutB _ m c' 32 (by omega) W
    have hsl2 : Sl fB w (partA (some ⟨bb, oo, none⟩) c' 32) (b.drop (32 * (i + 1))) := by
     have h1 := hsl.part (c := c') (k := 32) (m := m - 32) (by rw [hdl]; omega) (by rw [hdl]; exact hst.hc)
     rw [List.take_of_length_le (by rw [List.length_drop, hdl]; exact Nat.le_refl _), List.drop_drop] at h1
     rw [show 32 * (i + 1) = 32 * i + 32 by omega]; exact h1
    obtain ⟨P1, hP1⟩ : ∃ z, z = partA (some ⟨bb, oo, none⟩) c' 1 := ⟨_, rfl⟩
    obtain ⟨P2, hP2⟩ : ∃ z, z = partA (some ⟨bb, oo, none⟩) c' 32 := ⟨_, rfl⟩
    obtain ⟨pc, hpc⟩ : ∃ z, z = (b.drop (32 * i + 1)).take 31 := ⟨_, rfl⟩
    obtain ⟨fa, hfa⟩ : ∃ z, z = unsig i b := ⟨_, rfl⟩
    obtain ⟨fb, hfb⟩ : ∃ z, z = unsig (i + 1) b := ⟨_, rfl⟩
    obtain ⟨fv, hfv⟩ : ∃ z, z = u4 := ⟨_, rfl⟩
    have HFA : Hid (Mem.Own fB w.heap.size 5 wr u4 fa) := Lib.hid (by rw [hfa]; exact hst.own)
    rw [← hpc] at hps hus hpcl
    rw [← hfa] at hus hul
    rw [← hfb] at HEN hus
    rw [← hP1] at hcut1 hps
    rw [← hP2] at hcut2 hsl2
    rw [← hpcl] at hcut1
    have HFB := Lib.hid hus
    have HFBD := Lib.hid hfb
    have HPS := Lib.hid hps
    have HSL2 := Lib.hid hsl2
    have HPL := Lib.hid hpcl
    have HUL := Lib.hid hul
    have HMI := Lib.hid hmi
    have hn32 : ((32 * i : Nat) : Int) + 32 = ((32 * (i + 1) : Nat) : Int) := by omega
    have hn0 : ((32 * i : Nat) : Int) ≤ 100000000 := by have := HL.out; omega
    obtain ⟨ni, hni⟩ : ∃ z, z = 32 * i := ⟨_, rfl⟩
    obtain ⟨nj, hnj⟩ : ∃ z, z = 32 * (i + 1) := ⟨_, rfl⟩
    rw [← hni] at hn32 hn0 ⊢
    rw [← hnj] at hn32
    have HNI := Lib.hid hni
    have HNJ := Lib.hid hnj
    clear hst hdl hcl hx hgx hsl hsi hs hq hus hpcl hul hps hsl2 hP1 hP2 hpc hfa hfb hfv hmi hni hnj
    go_wp2_with (first
     | (at_builtin; refine wpList_appendXg (f := fB) rfl (.tmp 20) (.tmp 22) 28 rfl u8T rfl HFA.out rfl (HPS.out.below HST.out.bel) fB_one (by have h1 := HUL.out; have h2 := HPL.out; have h3 := HMI.out; have h4 := HL.out; unfold maxLen; omega) (by have h1 := HUL.out; have h2 := HPL.out; have h3 := HMI.out; have h4 := HL.out; omega) HST.out.bel.size ?_; intro v5 w5 ho5 hg5; rw [← HFB.out] at ho5; obtain ⟨A5, c5, rfl⟩ := ho5.form; have HO5 := Lib.hid ho5; have HB5 : Hid (Blk w5 w.heap.size 40 #[.int .i64 0, .int .i64 0, .int .i64 0, .slice none 0 0]) := Lib.hid (HST.out.blk.apart HFA.out (by decide) hg5); have HW5 : Hid (Below w.heap.size w w5) := Lib.hid (HST.out.bel.trans (HFA.out.below_ HST.out.bel.size hg5)); have HU := Lib.hid (Unframe_any ho5.sl.2 ho5.cap.1 ho5.cap.2); clear ho5 hg5)
     | fail)
    (with_reducible refine HU.out.mono ?_); rintro e w6 ⟨A6, c6, rfl, ho6, hb6⟩
    have HO5b : Hid (Mem.Own fB w.heap.size 5 w6 (.slice A5 fb.length c5) fb) := Lib.hid (HO5.out.below hb6)
    have HB6 := Lib.hid (HB5.out.below hb6 HB5.out.lt)
    have HW6 : Hid (Below w.heap.size w w6) := Lib.hid (HW5.out.trans (hb6.mono HW5.out.size))
    have HFL : Hid (fb.length ≤ 200000000) := Lib.hid (by rw [HFB.out, List.length_append]; have h1 := HUL.out; have h2 := HPL.out; have h3 := HMI.out; have h4 := HL.out; omega)
    obtain ⟨p, hp⟩ : ∃ z, z = (unframe fb).1 := ⟨_, rfl⟩
    obtain ⟨n, hn⟩ : ∃ z, z = (unframe fb).2.1 := ⟨_, rfl⟩
    obtain ⟨k, hk⟩ : ∃ z, z = (unframe fb).2.2 := ⟨_, rfl⟩
    rw [← hp, ← hn, ← hk]
    have HO6 : Hid (Mem.Own fB w5.heap.size 5 w6 (.slice A6 p.length c6) p) := Lib.hid (by rw [hp]; exact ho6)
    have HP := Lib.hid hp
    have HN := Lib.hid hn
    have HK := Lib.hid hk
    clear ho6 hb6 HU hp hn hk z0 z1 z2 z3 f0 f1 f2 f3 hblk hcut1 hcut2 hn32 hn0 hm0 cx hbb t1 t2 h32
    have hblk := HB6.out
    have z0 : w6.cell? ⟨w.heap.size, 0, none⟩ = some (.int .i64 0) := hblk.cell 0
    have z1 : w6.cell? ⟨w.heap.size, 1, none⟩ = some (.int .i64 0) := hblk.cell 1
    have z2 : w6.cell? ⟨w.heap.size, 2, none⟩ = some (.int .i64 0) := hblk.cell 2
    have z3 : w6.cell? ⟨w.heap.size, 3, none⟩ = some (.slice none 0 0) := hblk.cell 3
    have f0 := hblk.free 0
    have f1 := hblk.free 1
    have f2 := hblk.free 2
    have f3 := hblk.free 3
    clear hblk
    by_cases hk31 : k = 31
    ·have tk : (k == 31) = true := by rw [hk31]; rfl
     have HEN2 : Hid (entA b (b.length / 32 + 1 - (i + 1)) (i + 1) = entryS b) := Lib.hid (by rw [← HRES.out, HEN.out, if_pos (by rw [← HK.out]; exact hk31)])
     clear hk31
     go_wp2_with fail
     go_roundw
     case rel =>
      refine ⟨i + 1, m - 32, P2, c' - 32, rfl, by rw [HNJ.out], rfl, ⟨?_, HSL2.out, ?_, ?_, ?_, HB6.out, HW6.out, HEN2.out⟩⟩
      ·have := HOK.out.1; have := HMI.out; omega
      ·have := HST.out.hc; omega
      ·have := HST.out.hx; omega
      ·rw [← HFBD.out]; exact HO5b.out
     case measure => rw [HNI.out, HNJ.out]; have := HMI.out; have := HOK.out.1; simp [RowKit.intOf]; omega
    ·have tk : (k == 31) = false := by rw [beq_eq_false_iff_ne]; exact hk31
     have HEN2 : Hid (res = finE fb (i + 1)) := Lib.hid (by rw [HEN.out, if_neg (by rw [← HK.out]; exact hk31)])
     clear hk31
     by_cases hk0 : k = 0
     ·have tk0 : (k != 0) = false := by rw [hk0]; rfl
      have huf : unframe fb = (p, n, 0) := by rw [HP.out, HN.out, ← hk0, HK.out]
      obtain ⟨u1, u2, u3, u4x, -⟩ := unframe_ok huf
      have hnl : (n : Int) ≤ (fb.length : Int) := by omega
      have hcut3 : ∀ W, (Instr.slice 28 (.slice A5 fb.length c5) (some (.int .i64 (n : Int))) none none).run Tryz.prog W = .ok (.slice (partA A5 c5 n) (fb.length - n) (c5 - n)) W := fun W => cutB _ _ c5 n (by omega) W
      have hsz : Sl fB w6 (partA A5 c5 n) (fb.drop n) := by
       have h1 := HO5b.out.sl.2.part (c := c5) (k := n) (m := fb.length - n) (by omega) HO5b.out.cap.1
       rw [List.take_of_length_le (by rw [List.length_drop]; exact Nat.le_refl _)] at h1; exact h1
      have hzl : (fb.drop n).length = fb.length - n := List.length_drop
      obtain ⟨zs, hzs⟩ : ∃ z, z = fb.drop n := ⟨_, rfl⟩
      obtain ⟨P3, hP3⟩ : ∃ z, z = partA A5 c5 n := ⟨_, rfl⟩
      rw [← hzs] at hsz hzl
      rw [← hP3] at hsz hcut3
      rw [← hzl] at hcut3
      have HCZ : Hid (∀ c W, Below w6.heap.size w6 W → Calls Tryz.prog 127 #[.slice P3 zs.length c, .func (.func 128) #[] #[]] W fun e w' => e = .returned (.bool (!zeros zs)) ∧ W = w') := Lib.hid (fun c W hb => ContainsFunc_nz P3 c zs W (hsz.below hb))
      have HUF : Hid ((unframe fb).2.2 = 0 ∧ (unframe fb).2.1 = n ∧ (unframe fb).1 = p) := Lib.hid (by rw [huf]; exact ⟨rfl, rfl, rfl⟩)
      have HZS := Lib.hid hzs
      have HPL2 : Hid (p.length ≤ 4096) := Lib.hid u4x
      obtain ⟨qz, hqz⟩ : ∃ z, z = !zeros zs := ⟨_, rfl⟩
      rw [← hqz] at HCZ
      have HQZ := Lib.hid hqz
      clear hk0 huf u1 u2 u3 u4x hsz hzl hzs hP3 hqz
      cases qz with
      | true =>
        have HNO : Hid (res = none) := Lib.hid (by rw [HEN2.out]; exact finE_b (by rw [HUF.out.2.1, ← HZS.out]; have := HQZ.out; simpa using this.symm))
        go_wp2_with ((with_reducible refine (HCZ.out _ _ (Below.refl _ _)).mono ?_); rintro e w7 ⟨rfl, rfl⟩)
        go_wp2_with fail
        obtain ⟨W, hW⟩ : ∃ z, z = put4 w6 w.heap.size (.int .i64 0) (.int .i64 0) (.int .i64 0) (.slice none 0 0) := ⟨_, rfl⟩
        have hWb : Blk W w.heap.size 40 #[.int .i64 0, .int .i64 0, .int .i64 0, .slice none 0 0] := by rw [hW]; exact put4_blk (HB6.out)
        have hWl : Below w.heap.size w W := by rw [hW]; exact ((Frm.below HW6.out).trans ((put4_frm _ _ _ _ _ _).mono (G := fun k => w.heap.size ≤ k) (fun k _ e => Nat.le_of_eq e.symm))).to_below (fun k _ h1 h2 => absurd h1 (Nat.not_lt.2 h2)) (Nat.le_refl _)
        unfold put4 at hW
        rw [← hW]
        have x0 : W.cell? ⟨w.heap.size, 0, none⟩ = some (.int .i64 0) := hWb.cell 0
        have x1 : W.cell? ⟨w.heap.size, 1, none⟩ = some (.int .i64 0) := hWb.cell 1
        have x2 : W.cell? ⟨w.heap.size, 2, none⟩ = some (.int .i64 0) := hWb.cell 2
        have x3 : W.cell? ⟨w.heap.size, 3, none⟩ = some (.slice none 0 0) := hWb.cell 3
        exact bodyPost_ret (v := .tuple #[.agg #[.int .i64 0, .int .i64 0, .int .i64 0, .slice none 0 0], .int .i64 0]) (by simp [results, Tryz.results98, go_sem, x0, x1, x2, x3]) rfl (EntP.no HNO.out hWl)
      | false =>
        have HEN3 : Hid (res = (getE p).map (fun e => (e, 32 * (i + 1)))) := Lib.hid (by rw [HEN2.out, finE_c HUF.out.1 (by rw [HUF.out.2.1, ← HZS.out]; have := HQZ.out; simpa using this.symm), HUF.out.2.2])
        go_upto_region 11 with ((with_reducible refine (HCZ.out _ _ (Below.refl _ _)).mono ?_); rintro e w7 ⟨rfl, rfl⟩)
        clear z0 z1 z2 z3 f0 f1 f2 f3
        have hk2 : SlB (Value.int .i64) 3 (fun g => g = w6.heap.size) (w6.alloc (.cells #[.int .i64 1, .int .i64 1, .int .i64 1, .int .i64 3] 3)) (some ⟨w6.heap.size, 0, none⟩) kinds := ⟨by unfold maxLen; decide, fun _ => ⟨_, 0, _, _, rfl, rfl, heap_alloc_new w6 _, fun j hj => by match j, hj with | 0, _ => rfl | 1, _ => rfl | 2, _ => rfl | 3, _ => rfl⟩⟩
        have HG := Lib.hid (Get_any (kc := 4) ((HO6.out.alloc (.cells #[.int .i64 1, .int .i64 1, .int .i64 1, .int .i64 3] 3)).sl.2) HO6.out.cap.1 HO6.out.cap.2 hk2 (by intro k hk; simp [kinds] at hk; rcases hk with rfl | rfl <;> simp) (by decide))
        have HW7 : Hid (Below w.heap.size w (w6.alloc (.cells #[.int .i64 1, .int .i64 1, .int .i64 1, .int .i64 3] 3))) := Lib.hid (HW6.out.alloc HW6.out.size _)
        have HB7 := Lib.hid (HB6.out.alloc (.cells #[.int .i64 1, .int .i64 1, .int .i64 1, .int .i64 3] 3))
        clear hk2
        rw [show kinds.length = 4 from rfl] at HG
        go_wp2_with fail
        (with_reducible refine HG.out.mono ?_); rintro e w8 ⟨hb8, hno, hyes⟩
        have HW8 : Hid (Below w.heap.size w w8) := Lib.hid (HW7.out.trans (hb8.mono HW7.out.size))
        have HB8 := Lib.hid (HB7.out.below hb8 HB7.out.lt)
        clear hb8
        have hblk := HB8.out
        have z0 : w8.cell? ⟨w.heap.size, 0, none⟩ = some (.int .i64 0) := hblk.cell 0
        have z1 : w8.cell? ⟨w.heap.size, 1, none⟩ = some (.int .i64 0) := hblk.cell 1
        have z2 : w8.cell? ⟨w.heap.size, 2, none⟩ = some (.int .i64 0) := hblk.cell 2
        have z3 : w8.cell? ⟨w.heap.size, 3, none⟩ = some (.slice none 0 0) := hblk.cell 3
        have f0 := hblk.free 0
        have f1 := hblk.free 1
        have f2 := hblk.free 2
        have f3 := hblk.free 3
        clear hblk
        cases ht : getV kinds p with
        | none =>
          rw [ht] at hno hyes
          obtain rfl := hno rfl
          have HNO : Hid (res = none) := Lib.hid (by rw [HEN3.out, getE_none ht]; rfl)
          clear ht hno hyes
          go_wp2_with fail
          obtain ⟨W, hW⟩ : ∃ z, z = put4 w8 w.heap.size (.int .i64 0) (.int .i64 0) (.int .i64 0) (.slice none 0 0) := ⟨_, rfl⟩
          have hWb : Blk W w.heap.size 40 #[.int .i64 0, .int .i64 0, .int .i64 0, .slice none 0 0] := by rw [hW]; exact put4_blk (HB8.out)
          have hWl : Below w.heap.size w W := by rw [hW]; exact ((Frm.below HW8.out).trans ((put4_frm _ _ _ _ _ _).mono (G := fun k => w.heap.size ≤ k) (fun k _ e => Nat.le_of_eq e.symm))).to_below (fun k _ h1 h2 => absurd h1 (Nat.not_lt.2 h2)) (Nat.le_refl _)
          unfold put4 at hW
          rw [← hW]
          have x0 : W.cell? ⟨w.heap.size, 0, none⟩ = some (.int .i64 0) := hWb.cell 0
          have x1 : W.cell? ⟨w.heap.size, 1, none⟩ = some (.int .i64 0) := hWb.cell 1
          have x2 : W.cell? ⟨w.heap.size, 2, none⟩ = some (.int .i64 0) := hWb.cell 2
          have x3 : W.cell? ⟨w.heap.size, 3, none⟩ = some (.slice none 0 0) := hWb.cell 3
          exact bodyPost_ret (v := .tuple #[.agg #[.int .i64 0, .int .i64 0, .int .i64 0, .slice none 0 0], .int .i64 0]) (by simp [results, Tryz.results98, go_sem, x0, x1, x2, x3]) rfl (EntP.no HNO.out hWl)
        | some vs =>
          obtain ⟨a, b', c'', d, rfl⟩ := getV_four ht
          rw [ht] at hno hyes
          obtain ⟨A2, c2, done, rfl, ho2, hd2, hok2⟩ := hyes [a, b', c'', d] rfl
          obtain ⟨xa, xb, xc, xd, rfl⟩ : ∃ xa xb xc xd, done = [xa, xb, xc, xd] := by
           match done, hd2 with
           | [xa, xb, xc, xd], _ => exact ⟨xa, xb, xc, xd, rfl⟩
          simp only [List.map_cons, List.map_nil, List.cons.injEq, and_true] at hd2
          obtain ⟨rfl, rfl, rfl, rfl⟩ := hd2
          obtain ⟨b2, o2, rfl, -, -, hc0⟩ := (ho2.slK prN_len).2.at (j := 0) (by simp)
          obtain ⟨b3, o3, he3, -, -, hc1⟩ := (ho2.slK prN_len).2.at (j := 1) (by simp)
          injection he3 with he3; injection he3 with e1 e2
          subst e1; subst e2
          obtain ⟨b3, o3, he3, -, -, hc2⟩ := (ho2.slK prN_len).2.at (j := 2) (by simp)
          injection he3 with he3; injection he3 with e1 e2
          subst e1; subst e2
          obtain ⟨b3, o3, he3, -, -, hc3⟩ := (ho2.slK prN_len).2.at (j := 3) (by simp)
          injection he3 with he3; injection he3 with e1 e2
          subst e1; subst e2
          have d0 : w8.cell? ⟨b2, o2 + 1, none⟩ = some (.int .i64 xa.v.n) := by
           have h1 := hc0 1 (by decide); rw [Nat.zero_mul, Nat.add_zero] at h1; exact h1
          have d1 : w8.cell? ⟨b2, o2 + 5 + 1, none⟩ = some (.int .i64 xb.v.n) := by
           have h1 := hc1 1 (by decide); rw [Nat.one_mul] at h1; exact h1
          have d2 : w8.cell? ⟨b2, o2 + 10 + 1, none⟩ = some (.int .i64 xc.v.n) := hc2 1 (by decide)
          have d3 : w8.cell? ⟨b2, o2 + 15 + 3, none⟩ = some (.slice xd.A xd.v.b.length xd.c) := hc3 3 (by decide)
          have hod := hok2 xd (by simp)
          have HSD : Hid (SlB fB 5 (fun g => w.heap.size ≤ g) w8 xd.A xd.v.b ∧ xd.v.b.length ≤ xd.c ∧ xd.c ≤ maxLen) := Lib.hid ⟨hod.sl.mono (fun g _ hg => Nat.le_trans HW7.out.size hg), hod.len, hod.cap⟩
          obtain ⟨y, hy⟩ : ∃ y : En, y = ⟨xa.v.n, xb.v.n, xc.v.n, xd.v.b⟩ := ⟨_, rfl⟩
          have HEN4 : Hid (res = if rightE y = true then some (y, 32 * (i + 1)) else none) := Lib.hid (by
           rw [HEN3.out, getE_vs ht]
           have he : enOf [xa.v, xb.v, xc.v, xd.v] = y := by rw [hy]; rfl
           rw [he]
           split <;> rfl)
          have HYR : Hid (rightE y = true → 0 ≤ xc.v.n ∧ xc.v.n ≤ 2) := Lib.hid (fun h => by have h1 := rightE_iff.1 h; rw [hy] at h1; exact ⟨h1.2.2.2.2.1, h1.2.2.2.2.2.1⟩)
          have HRT : Hid (∀ W, Calls Tryz.prog 57 #[.agg #[.int .i64 xa.v.n, .int .i64 xb.v.n, .int .i64 xc.v.n, .slice xd.A xd.v.b.length xd.c]] W (BoolB (rightE y) W)) := Lib.hid (fun W => by
           have h1 := wright_any y xd.A xd.c W (by rw [hy]; exact Nat.le_trans hod.len hod.cap)
           unfold entC at h1
           rw [hy] at h1 ⊢; exact h1)
          obtain ⟨va, hva⟩ : ∃ z, z = xa.v.n := ⟨_, rfl⟩
          obtain ⟨vb, hvb⟩ : ∃ z, z = xb.v.n := ⟨_, rfl⟩
          obtain ⟨vc, hvc⟩ : ∃ z, z = xc.v.n := ⟨_, rfl⟩
          obtain ⟨vd, hvd⟩ : ∃ z, z = xd.v.b := ⟨_, rfl⟩
          obtain ⟨Ad, hAd⟩ : ∃ z, z = xd.A := ⟨_, rfl⟩
          obtain ⟨cd, hcd⟩ : ∃ z, z = xd.c := ⟨_, rfl⟩
          rw [← hva] at d0 HRT
          rw [← hvb] at d1 HRT
          rw [← hvc] at d2 HRT HYR
          rw [← hvd, ← hAd, ← hcd] at d3 HRT HSD
          rw [← hva, ← hvb, ← hvc, ← hvd] at hy
          obtain ⟨q, hq⟩ : ∃ q, q = rightE y := ⟨_, rfl⟩
          rw [← hq] at HRT HEN4 HYR
          have HY := Lib.hid hy
          have HBX : Hid (b2 ≠ w.heap.size) := Lib.hid (by
           rcases ho2.2 with ⟨h1, -⟩ | ⟨g9, cp9, cur9, h1, h2, h3, -⟩
           ·cases h1
           ·injection h1 with h1; injection h1 with h1; injection h1 with h1
            subst h1
            have := HB7.out.lt
            omega)
          clear ht hno hyes ho2 hok2 hod hc0 hc1 hc2 hc3 hva hvb hvc hvd hAd hcd hq hy
          by_cases hlo : vc < 0
          ·have HNO : Hid (res = none) := Lib.hid (by
            rw [HEN4.out, if_neg]
            intro h9
            have := (HYR.out h9).1; omega)
           go_wp2_with fail
           obtain ⟨W, hW⟩ : ∃ z, z = put4 w8 w.heap.size (.int .i64 0) (.int .i64 0) (.int .i64 0) (.slice none 0 0) := ⟨_, rfl⟩
           have hWb : Blk W w.heap.size 40 #[.int .i64 0, .int .i64 0, .int .i64 0, .slice none 0 0] := by rw [hW]; exact put4_blk (HB8.out)
           have hWl : Below w.heap.size w W := by rw [hW]; exact ((Frm.below HW8.out).trans ((put4_frm _ _ _ _ _ _).mono (G := fun k => w.heap.size ≤ k) (fun k _ e => Nat.le_of_eq e.symm))).to_below (fun k _ h1 h2 => absurd h1 (Nat.not_lt.2 h2)) (Nat.le_refl _)
           unfold put4 at hW
           rw [← hW]
           have x0 : W.cell? ⟨w.heap.size, 0, none⟩ = some (.int .i64 0) := hWb.cell 0
           have x1 : W.cell? ⟨w.heap.size, 1, none⟩ = some (.int .i64 0) := hWb.cell 1
           have x2 : W.cell? ⟨w.heap.size, 2, none⟩ = some (.int .i64 0) := hWb.cell 2
           have x3 : W.cell? ⟨w.heap.size, 3, none⟩ = some (.slice none 0 0) := hWb.cell 3
           exact bodyPost_ret (v := .tuple #[.agg #[.int .i64 0, .int .i64 0, .int .i64 0, .slice none 0 0], .int .i64 0]) (by simp [results, Tryz.results98, go_sem, x0, x1, x2, x3]) rfl (EntP.no HNO.out hWl)
          ·have tlo : decide (vc < 0) = false := by simpa using hlo
           by_cases hhi : vc > 2
           ·have thi : decide (vc > 2) = true := by simpa using hhi
            have HNO : Hid (res = none) := Lib.hid (by
             rw [HEN4.out, if_neg]
             intro h9
             have := (HYR.out h9).2; omega)
            clear hlo hhi
            go_wp2_with fail
            obtain ⟨W, hW⟩ : ∃ z, z = put4 w8 w.heap.size (.int .i64 0) (.int .i64 0) (.int .i64 0) (.slice none 0 0) := ⟨_, rfl⟩
            have hWb : Blk W w.heap.size 40 #[.int .i64 0, .int .i64 0, .int .i64 0, .slice none 0 0] := by rw [hW]; exact put4_blk (HB8.out)
            have hWl : Below w.heap.size w W := by rw [hW]; exact ((Frm.below HW8.out).trans ((put4_frm _ _ _ _ _ _).mono (G := fun k => w.heap.size ≤ k) (fun k _ e => Nat.le_of_eq e.symm))).to_below (fun k _ h1 h2 => absurd h1 (Nat.not_lt.2 h2)) (Nat.le_refl _)
            unfold put4 at hW
            rw [← hW]
            have x0 : W.cell? ⟨w.heap.size, 0, none⟩ = some (.int .i64 0) := hWb.cell 0
            have x1 : W.cell? ⟨w.heap.size, 1, none⟩ = some (.int .i64 0) := hWb.cell 1
            have x2 : W.cell? ⟨w.heap.size, 2, none⟩ = some (.int .i64 0) := hWb.cell 2
            have x3 : W.cell? ⟨w.heap.size, 3, none⟩ = some (.slice none 0 0) := hWb.cell 3
            exact bodyPost_ret (v := .tuple #[.agg #[.int .i64 0, .int .i64 0, .int .i64 0, .slice none 0 0], .int .i64 0]) (by simp [results, Tryz.results98, go_sem, x0, x1, x2, x3]) rfl (EntP.no HNO.out hWl)
           ·have thi : decide (vc > 2) = false := by simpa using hhi
            clear hlo hhi
            go_upto_region 13 with fail
            refine AnyZ.start (S := (fun W => W.cell? ⟨b2, o2 + 1, none⟩ = some (.int .i64 va) ∧ W.cell? ⟨b2, o2 + 5 + 1, none⟩ = some (.int .i64 vb) ∧ W.cell? ⟨b2, o2 + 10 + 1, none⟩ = some (.int .i64 vc) ∧ W.cell? ⟨b2, o2 + 15 + 3, none⟩ = some (.slice Ad vd.length cd))) (z := 17) (by kernel_rfl) ?_ (fun hHeld => ?_)
            ·exact ⟨d0, d1, d2, d3⟩
            refine AnyZ.take (i := 0) (v := ?_) rfl (by kernel_rfl) (by kernel_rfl) (by kernel_rfl) (by kernel_rfl) (fun _ _ _ h => h) (Or.inl ⟨by kernel_rfl, ?_⟩) (by assumption) ?_
            rotate_left
            ·intro w hSw; (try dsimp only at hSw); go_simp; try with_reducible rfl
            try simp only [Act.put, List.getElem_toArray, List.getElem_cons_succ, List.getElem_cons_zero, List.setIfInBounds_toArray, List.set_cons_zero, List.set_cons_succ]
            refine AnyZ.take (i := 1) (v := ?_) rfl (by kernel_rfl) (by kernel_rfl) (by kernel_rfl) (by kernel_rfl) (fun _ _ _ h => h) (Or.inl ⟨by kernel_rfl, ?_⟩) (by assumption) ?_
            rotate_left
            ·intro w hSw; (try dsimp only at hSw); go_simp; try with_reducible rfl
            try simp only [Act.put, List.getElem_toArray, List.getElem_cons_succ, List.getElem_cons_zero, List.setIfInBounds_toArray, List.set_cons_zero, List.set_cons_succ]
            refine AnyZ.take (i := 2) (v := ?_) rfl (by kernel_rfl) (by kernel_rfl) (by kernel_rfl) (by kernel_rfl) (fun _ _ _ h => h) (Or.inl ⟨by kernel_rfl, ?_⟩) (by assumption) ?_
            rotate_left
            ·intro w hSw; (try dsimp only at hSw); go_simp; try with_reducible rfl
            try simp only [Act.put, List.getElem_toArray, List.getElem_cons_succ, List.getElem_cons_zero, List.setIfInBounds_toArray, List.set_cons_zero, List.set_cons_succ]
            refine AnyZ.take (i := 3) (v := ?_) rfl (by kernel_rfl) (by kernel_rfl) (by kernel_rfl) (by kernel_rfl) (fun _ _ _ h => h) (Or.inl ⟨by kernel_rfl, ?_⟩) (by assumption) ?_
            rotate_left
            ·intro w hSw; (try dsimp only at hSw); go_simp; try with_reducible rfl
            try simp only [Act.put, List.getElem_toArray, List.getElem_cons_succ, List.getElem_cons_zero, List.setIfInBounds_toArray, List.set_cons_zero, List.set_cons_succ]
            refine AnyZ.take (i := 4) (v := ?_) rfl (by kernel_rfl) (by kernel_rfl) (by kernel_rfl) (by kernel_rfl) (fun _ _ _ h => h) (Or.inl ⟨by kernel_rfl, ?_⟩) (by assumption) ?_
            rotate_left
            ·intro w hSw; (try dsimp only at hSw); go_simp; try with_reducible rfl
            try simp only [Act.put, List.getElem_toArray, List.getElem_cons_succ, List.getElem_cons_zero, List.setIfInBounds_toArray, List.set_cons_zero, List.set_cons_succ]
            refine AnyZ.take (i := 5) (v := ?_) rfl (by kernel_rfl) (by kernel_rfl) (by kernel_rfl) (by kernel_rfl) (fun _ _ _ h => h) (Or.inl ⟨by kernel_rfl, ?_⟩) (by assumption) ?_
            rotate_left
            ·intro w hSw; (try dsimp only at hSw); go_simp; try with_reducible rfl
            try simp only [Act.put, List.getElem_toArray, List.getElem_cons_succ, List.getElem_cons_zero, List.setIfInBounds_toArray, List.set_cons_zero, List.set_cons_succ]
            refine AnyZ.take (i := 6) (v := ?_) rfl (by kernel_rfl) (by kernel_rfl) (by kernel_rfl) (by kernel_rfl) (fun _ _ _ h => h) (Or.inl ⟨by kernel_rfl, ?_⟩) (by assumption) ?_
            rotate_left
            ·intro w hSw; (try dsimp only at hSw); go_simp; try with_reducible rfl
            try simp only [Act.put, List.getElem_toArray, List.getElem_cons_succ, List.getElem_cons_zero, List.setIfInBounds_toArray, List.set_cons_zero, List.set_cons_succ]
            refine AnyZ.take (i := 7) (v := ?_) rfl (by kernel_rfl) (by kernel_rfl) (by kernel_rfl) (by kernel_rfl) (fun _ _ _ h => h) (Or.inl ⟨by kernel_rfl, ?_⟩) (by assumption) ?_
            rotate_left
            ·intro w hSw; (try dsimp only at hSw); go_simp; try with_reducible rfl
            try simp only [Act.put, List.getElem_toArray, List.getElem_cons_succ, List.getElem_cons_zero, List.setIfInBounds_toArray, List.set_cons_zero, List.set_cons_succ]
            refine AnyZ.take (i := 8) (v := ?_) rfl (by kernel_rfl) (by kernel_rfl) (by kernel_rfl) (by kernel_rfl) (fun _ _ _ h => h) (Or.inl ⟨by kernel_rfl, ?_⟩) (by assumption) ?_
            rotate_left
            ·intro w hSw; (try dsimp only at hSw); go_simp; try with_reducible rfl
            try simp only [Act.put, List.getElem_toArray, List.getElem_cons_succ, List.getElem_cons_zero, List.setIfInBounds_toArray, List.set_cons_zero, List.set_cons_succ]
            refine AnyZ.take (i := 9) (v := ?_) rfl (by kernel_rfl) (by kernel_rfl) (by kernel_rfl) (by kernel_rfl) (fun _ _ _ h => h) (Or.inl ⟨by kernel_rfl, ?_⟩) (by assumption) ?_
            rotate_left
            ·intro w hSw; (try dsimp only at hSw); go_simp; try with_reducible rfl
            try simp only [Act.put, List.getElem_toArray, List.getElem_cons_succ, List.getElem_cons_zero, List.setIfInBounds_toArray, List.set_cons_zero, List.set_cons_succ]
            refine AnyZ.take (i := 10) (v := ?_) rfl (by kernel_rfl) (by kernel_rfl) (by kernel_rfl) (by kernel_rfl) (fun _ _ _ h => h) (Or.inl ⟨by kernel_rfl, ?_⟩) (by assumption) ?_
            rotate_left
            ·intro w hSw; (try dsimp only at hSw); go_simp; try with_reducible rfl
            try simp only [Act.put, List.getElem_toArray, List.getElem_cons_succ, List.getElem_cons_zero, List.setIfInBounds_toArray, List.set_cons_zero, List.set_cons_succ]
            refine AnyZ.take (i := 11) (v := ?_) rfl (by kernel_rfl) (by kernel_rfl) (by kernel_rfl) (by kernel_rfl) (fun _ _ _ h => h) (Or.inl ⟨by kernel_rfl, ?_⟩) (by assumption) ?_
            rotate_left
            ·intro w hSw; (try dsimp only at hSw); go_simp; try with_reducible rfl
            try simp only [Act.put, List.getElem_toArray, List.getElem_cons_succ, List.getElem_cons_zero, List.setIfInBounds_toArray, List.set_cons_zero, List.set_cons_succ]
            refine AnyZ.take (i := 12) (v := ?_) rfl (by kernel_rfl) (by kernel_rfl) (by kernel_rfl) (by kernel_rfl) (fun _ _ _ h => h) (Or.inl ⟨by kernel_rfl, ?_⟩) (by assumption) ?_
            rotate_left
            ·intro w hSw; (try dsimp only at hSw); go_simp; try with_reducible rfl
            try simp only [Act.put, List.getElem_toArray, List.getElem_cons_succ, List.getElem_cons_zero, List.setIfInBounds_toArray, List.set_cons_zero, List.set_cons_succ]
            refine AnyZ.take (i := 13) (v := ?_) rfl (by kernel_rfl) (by kernel_rfl) (by kernel_rfl) (by kernel_rfl) (fun _ _ _ h => h) (Or.inl ⟨by kernel_rfl, ?_⟩) (by assumption) ?_
            rotate_left
            ·intro w hSw; (try dsimp only at hSw); go_simp; try with_reducible rfl
            try simp only [Act.put, List.getElem_toArray, List.getElem_cons_succ, List.getElem_cons_zero, List.setIfInBounds_toArray, List.set_cons_zero, List.set_cons_succ]
            refine AnyZ.take (i := 14) (v := ?_) rfl (by kernel_rfl) (by kernel_rfl) (by kernel_rfl) (by kernel_rfl) (fun _ _ _ h => h) (Or.inl ⟨by kernel_rfl, ?_⟩) (by assumption) ?_
            rotate_left
            ·intro w hSw; (try dsimp only at hSw); go_simp; try with_reducible rfl
            try simp only [Act.put, List.getElem_toArray, List.getElem_cons_succ, List.getElem_cons_zero, List.setIfInBounds_toArray, List.set_cons_zero, List.set_cons_succ]
            refine AnyZ.take (i := 15) (v := ?_) rfl (by kernel_rfl) (by kernel_rfl) (by kernel_rfl) (by kernel_rfl) (fun _ _ _ h => h) (Or.inl ⟨by kernel_rfl, ?_⟩) (by assumption) ?_
            rotate_left
            ·intro w hSw; (try dsimp only at hSw); go_simp; try with_reducible rfl
            try simp only [Act.put, List.getElem_toArray, List.getElem_cons_succ, List.getElem_cons_zero, List.setIfInBounds_toArray, List.set_cons_zero, List.set_cons_succ]
            refine AnyZ.take (i := 16) (v := ?_) rfl (by kernel_rfl) (by kernel_rfl) (by kernel_rfl) (by kernel_rfl) (fun _ _ _ h => h) (Or.inl ⟨by kernel_rfl, ?_⟩) (by assumption) ?_
            rotate_left
            ·intro w hSw; (try dsimp only at hSw); go_simp; try with_reducible rfl
            try simp only [Act.put, List.getElem_toArray, List.getElem_cons_succ, List.getElem_cons_zero, List.setIfInBounds_toArray, List.set_cons_zero, List.set_cons_succ]
            refine AnyZ.ready (rs := [17]) (by kernel_rfl) (by simp) ?_
            refine AllZ.last rfl (by kernel_rfl) (fun K hK => ?_) AllZ.nil
            go_simp
            refine hK.out _ _ ?_
            clear hK K
            try simp only [Act.put, List.getElem_toArray, List.getElem_cons_succ, List.getElem_cons_zero, List.setIfInBounds_toArray, List.set_cons_zero, List.set_cons_succ]
            refine AnyZ.done (by kernel_rfl) ?_ _
            skip
            obtain ⟨W9, hW9⟩ : ∃ z, z = (put4 w8 w.heap.size (.int .i64 va) (.int .i64 vb) (.int .i64 vc) (.slice Ad vd.length cd)).drew := ⟨_, rfl⟩
            have hf9 : Frm (fun k => k = w.heap.size) w8 W9 := by rw [hW9]; exact (put4_frm _ _ _ _ _ _).drew
            have hb9 : Blk W9 w.heap.size 40 #[.int .i64 va, .int .i64 vb, .int .i64 vc, .slice Ad vd.length cd] := by rw [hW9]; exact (put4_blk HB8.out).drew
            have HL9 : Hid (Below w.heap.size w W9) := Lib.hid (((Frm.below HW8.out).trans (hf9.mono (G := fun k => w.heap.size ≤ k) (fun k _ e => Nat.le_of_eq e.symm))).to_below (fun k _ h1 h2 => absurd h1 (Nat.not_lt.2 h2)) (Nat.le_refl _))
            have HS9 : Hid (SlB fB 5 (fun g => w.heap.size ≤ g) W9 Ad vd) := Lib.hid (by
             rw [hW9]
             exact (((HSD.out.1.far HB8.out (by decide) 0 _).far (HB8.out.set_ 0 _) (by decide) 1 _).far ((HB8.out.set_ 0 _).set_ 1 _) (by decide) 2 _).far (((HB8.out.set_ 0 _).set_ 1 _).set_ 2 _) (by decide) 3 _)
            have HB9 := Lib.hid hb9
            unfold put4 at hW9
            rw [← hW9]
            clear hW9 hf9 z0 z1 z2 z3 f0 f1 f2 f3 d0 d1 d2 d3
            have z0 : W9.cell? ⟨w.heap.size, 0, none⟩ = some (.int .i64 va) := hb9.cell 0
            have z1 : W9.cell? ⟨w.heap.size, 1, none⟩ = some (.int .i64 vb) := hb9.cell 1
            have z2 : W9.cell? ⟨w.heap.size, 2, none⟩ = some (.int .i64 vc) := hb9.cell 2
            have z3 : W9.cell? ⟨w.heap.size, 3, none⟩ = some (.slice Ad vd.length cd) := hb9.cell 3
            clear hb9
            go_wp2_with fail
            (with_reducible refine (HRT.out _).mono ?_); rintro e w10 ⟨rfl, hb10⟩
            have HB10 := Lib.hid (HB9.out.below hb10 HB9.out.lt)
            have HL10 : Hid (Below w.heap.size w w10) := Lib.hid (HL9.out.trans (hb10.mono HL9.out.size))
            have HS10 := Lib.hid (HS9.out.below hb10)
            clear hb10 z0 z1 z2 z3
            have hblk := HB10.out
            have z0 : w10.cell? ⟨w.heap.size, 0, none⟩ = some (.int .i64 va) := hblk.cell 0
            have z1 : w10.cell? ⟨w.heap.size, 1, none⟩ = some (.int .i64 vb) := hblk.cell 1
            have z2 : w10.cell? ⟨w.heap.size, 2, none⟩ = some (.int .i64 vc) := hblk.cell 2
            have z3 : w10.cell? ⟨w.heap.size, 3, none⟩ = some (.slice Ad vd.length cd) := hblk.cell 3
            have f0 := hblk.free 0
            have f1 := hblk.free 1
            have f2 := hblk.free 2
            have f3 := hblk.free 3
            clear hblk
            cases q with
            | false =>
              have HNO : Hid (res = none) := Lib.hid (by rw [HEN4.out, if_neg (by decide)])
              go_wp2_with fail
              obtain ⟨W, hW⟩ : ∃ z, z = put4 w10 w.heap.size (.int .i64 0) (.int .i64 0) (.int .i64 0) (.slice none 0 0) := ⟨_, rfl⟩
              have hWb : Blk W w.heap.size 40 #[.int .i64 0, .int .i64 0, .int .i64 0, .slice none 0 0] := by rw [hW]; exact put4_blk (HB10.out)
              have hWl : Below w.heap.size w W := by rw [hW]; exact ((Frm.below HL10.out).trans ((put4_frm _ _ _ _ _ _).mono (G := fun k => w.heap.size ≤ k) (fun k _ e => Nat.le_of_eq e.symm))).to_below (fun k _ h1 h2 => absurd h1 (Nat.not_lt.2 h2)) (Nat.le_refl _)
              unfold put4 at hW
              rw [← hW]
              have x0 : W.cell? ⟨w.heap.size, 0, none⟩ = some (.int .i64 0) := hWb.cell 0
              have x1 : W.cell? ⟨w.heap.size, 1, none⟩ = some (.int .i64 0) := hWb.cell 1
              have x2 : W.cell? ⟨w.heap.size, 2, none⟩ = some (.int .i64 0) := hWb.cell 2
              have x3 : W.cell? ⟨w.heap.size, 3, none⟩ = some (.slice none 0 0) := hWb.cell 3
              exact bodyPost_ret (v := .tuple #[.agg #[.int .i64 0, .int .i64 0, .int .i64 0, .slice none 0 0], .int .i64 0]) (by simp [results, Tryz.results98, go_sem, x0, x1, x2, x3]) rfl (EntP.no HNO.out hWl)
            | true =>
              have HYES : Hid (res = some (y, 32 * (i + 1))) := Lib.hid (by rw [HEN4.out, if_pos rfl])
              go_wp2_with fail
              obtain ⟨W, hW⟩ : ∃ z, z = put4 w10 w.heap.size (.int .i64 va) (.int .i64 vb) (.int .i64 vc) (.slice Ad vd.length cd) := ⟨_, rfl⟩
              have hWb : Blk W w.heap.size 40 #[.int .i64 va, .int .i64 vb, .int .i64 vc, .slice Ad vd.length cd] := by rw [hW]; exact put4_blk HB10.out
              have hWl : Below w.heap.size w W := by rw [hW]; exact ((Frm.below HL10.out).trans ((put4_frm _ _ _ _ _ _).mono (G := fun k => w.heap.size ≤ k) (fun k _ e => Nat.le_of_eq e.symm))).to_below (fun k _ h1 h2 => absurd h1 (Nat.not_lt.2 h2)) (Nat.le_refl _)
              have hWs : SlB fB 5 (fun g => w.heap.size ≤ g) W Ad vd := by
               rw [hW]
               exact (((HS10.out.far HB10.out (by decide) 0 _).far (HB10.out.set_ 0 _) (by decide) 1 _).far ((HB10.out.set_ 0 _).set_ 1 _) (by decide) 2 _).far (((HB10.out.set_ 0 _).set_ 1 _).set_ 2 _) (by decide) 3 _
              unfold put4 at hW
              rw [← hW]
              have x0 : W.cell? ⟨w.heap.size, 0, none⟩ = some (.int .i64 va) := hWb.cell 0
              have x1 : W.cell? ⟨w.heap.size, 1, none⟩ = some (.int .i64 vb) := hWb.cell 1
              have x2 : W.cell? ⟨w.heap.size, 2, none⟩ = some (.int .i64 vc) := hWb.cell 2
              have x3 : W.cell? ⟨w.heap.size, 3, none⟩ = some (.slice Ad vd.length cd) := hWb.cell 3
              have hfin := EntP.yes (A := Ad) (c := cd) HYES.out hWl (by rw [HY.out]; exact hWs) (by rw [HY.out]; exact HSD.out.2.1) HSD.out.2.2
              unfold entC at hfin
              rw [HY.out, ← HNJ.out] at hfin
              exact bodyPost_ret (v := .tuple #[.agg #[.int .i64 va, .int .i64 vb, .int .i64 vc, .slice Ad vd.length cd], .int .i64 (nj : Int)]) (by simp [results, Tryz.results98, go_sem, x0, x1, x2, x3]) rfl hfin
     ·have tk0 : (k != 0) = true := by rw [bne_iff_ne]; exact hk0
      have HNO : Hid (res = none) := Lib.hid (by rw [HEN2.out]; exact finE_a (by rw [← HK.out]; exact hk0))
      clear hk0
      go_wp2_with fail
      obtain ⟨W, hW⟩ : ∃ z, z = put4 w6 w.heap.size (.int .i64 0) (.int .i64 0) (.int .i64 0) (.slice none 0 0) := ⟨_, rfl⟩
      have hWb : Blk W w.heap.size 40 #[.int .i64 0, .int .i64 0, .int .i64 0, .slice none 0 0] := by rw [hW]; exact put4_blk (HB6.out)
      have hWl : Below w.heap.size w W := by rw [hW]; exact ((Frm.below HW6.out).trans ((put4_frm _ _ _ _ _ _).mono (G := fun k => w.heap.size ≤ k) (fun k _ e => Nat.le_of_eq e.symm))).to_below (fun k _ h1 h2 => absurd h1 (Nat.not_lt.2 h2)) (Nat.le_refl _)
      unfold put4 at hW
      rw [← hW]
      have x0 : W.cell? ⟨w.heap.size, 0, none⟩ = some (.int .i64 0) := hWb.cell 0
      have x1 : W.cell? ⟨w.heap.size, 1, none⟩ = some (.int .i64 0) := hWb.cell 1
      have x2 : W.cell? ⟨w.heap.size, 2, none⟩ = some (.int .i64 0) := hWb.cell 2
      have x3 : W.cell? ⟨w.heap.size, 3, none⟩ = some (.slice none 0 0) := hWb.cell 3
      exact bodyPost_ret (v := .tuple #[.agg #[.int .i64 0, .int .i64 0, .int .i64 0, .slice none 0 0], .int .i64 0]) (by simp [results, Tryz.results98, go_sem, x0, x1, x2, x3]) rfl (EntP.no HNO.out hWl)
   ·have t2 : (((x.toNat : Int)) == s) = false := by
     rw [beq_eq_false_iff_ne, hsi]
     intro e
     exact hq (UInt8.toNat_inj.1 (by omega))
    have HNO : Hid (res = none) := Lib.hid (by rw [HRES.out, ← hst.ent]; exact entA_stop (fun e => hq (by rw [← hgx]; exact e.2)))
    clear hst hmi hblk h32 hdl hcl hx hgx hsl hsi hs hq
    go_wp2_with fail
    obtain ⟨W, hW⟩ : ∃ z, z = put4 wr w.heap.size (.int .i64 0) (.int .i64 0) (.int .i64 0) (.slice none 0 0) := ⟨_, rfl⟩
    have hWb : Blk W w.heap.size 40 #[.int .i64 0, .int .i64 0, .int .i64 0, .slice none 0 0] := by rw [hW]; exact put4_blk (HST.out.blk)
    have hWl : Below w.heap.size w W := by rw [hW]; exact ((Frm.below HST.out.bel).trans ((put4_frm _ _ _ _ _ _).mono (G := fun k => w.heap.size ≤ k) (fun k _ e => Nat.le_of_eq e.symm))).to_below (fun k _ h1 h2 => absurd h1 (Nat.not_lt.2 h2)) (Nat.le_refl _)
    unfold put4 at hW
    rw [← hW]
    have x0 : W.cell? ⟨w.heap.size, 0, none⟩ = some (.int .i64 0) := hWb.cell 0
    have x1 : W.cell? ⟨w.heap.size, 1, none⟩ = some (.int .i64 0) := hWb.cell 1
    have x2 : W.cell? ⟨w.heap.size, 2, none⟩ = some (.int .i64 0) := hWb.cell 2
    have x3 : W.cell? ⟨w.heap.size, 3, none⟩ = some (.slice none 0 0) := hWb.cell 3
    exact bodyPost_ret (v := .tuple #[.agg #[.int .i64 0, .int .i64 0, .int .i64 0, .slice none 0 0], .int .i64 0]) (by simp [results, Tryz.results98, go_sem, x0, x1, x2, x3]) rfl (EntP.no HNO.out hWl)
  ·have t1 : decide ((m : Int) ≥ 32) = false := by simp; omega
   have HNO : Hid (res = none) := Lib.hid (by rw [HRES.out, ← hst.ent]; exact entA_stop (fun e => by have := e.1; omega))
   clear hst hmi hblk h32
   go_wp2_with fail
   obtain ⟨W, hW⟩ : ∃ z, z = put4 wr w.heap.size (.int .i64 0) (.int .i64 0) (.int .i64 0) (.slice none 0 0) := ⟨_, rfl⟩
   have hWb : Blk W w.heap.size 40 #[.int .i64 0, .int .i64 0, .int .i64 0, .slice none 0 0] := by rw [hW]; exact put4_blk (HST.out.blk)
   have hWl : Below w.heap.size w W := by rw [hW]; exact ((Frm.below HST.out.bel).trans ((put4_frm _ _ _ _ _ _).mono (G := fun k => w.heap.size ≤ k) (fun k _ e => Nat.le_of_eq e.symm))).to_below (fun k _ h1 h2 => absurd h1 (Nat.not_lt.2 h2)) (Nat.le_refl _)
   unfold put4 at hW
   rw [← hW]
   have x0 : W.cell? ⟨w.heap.size, 0, none⟩ = some (.int .i64 0) := hWb.cell 0
   have x1 : W.cell? ⟨w.heap.size, 1, none⟩ = some (.int .i64 0) := hWb.cell 1
   have x2 : W.cell? ⟨w.heap.size, 2, none⟩ = some (.int .i64 0) := hWb.cell 2
   have x3 : W.cell? ⟨w.heap.size, 3, none⟩ = some (.slice none 0 0) := hWb.cell 3
   exact bodyPost_ret (v := .tuple #[.agg #[.int .i64 0, .int .i64 0, .int .i64 0, .slice none 0 0], .int .i64 0]) (by simp [results, Tryz.results98, go_sem, x0, x1, x2, x3]) rfl (EntP.no HNO.out hWl)
end Go.Proofs.YtifgajinfcihmaaGreatDoor
