/- Layer 6: a script of calls, as it lies in memory. -/
import Derived.Lib.SmallJoins
import Derived.Test.YtifgajinfcihmaaGreatDoorJBk
import Derived.Test.YtifgajinfcihmaaGreatDoorJBj
import Derived.Test.YtifgajinfcihmaaGreatDoorJBn
import Derived.Test.YtifgajinfcihmaaGreatDoorJAt
namespace Go.Proofs.YtifgajinfcihmaaGreatDoor
open Go Go.RowKit Go.Joins Go.ChangeShapes Go.WideShapes Go.Deep Go.Maps Mem Pk Dsk Wl
theorem weightsAll_mem {H : Type} {P : Program} {e : TypeId} : ∀ {l : List (DataW H)} {d : DataW H}, d ∈ l → ∀ x ∈ d.weights P e, x ∈ DataW.weightsAll P e l
 | a :: r, d, h, x, hx => by
   simp only [DataW.weightsAll, List.mem_append]
   rcases List.mem_cons.1 h with rfl | h
   ·exact .inl hx
   ·exact .inr (weightsAll_mem h x hx)
theorem sized_parts {H : Type} {P : Program} {t : TypeId} {fs : Array Field} {parts : List (DataW H)} (h : ∀ x ∈ (DataW.agg parts).weights P t, x ≤ reachBytes) (hu : P.underlying t = some (.struct fs)) : (DataW.weightsEach P (fs.toList.map (·.type)) parts).all (· ≤ reachBytes) = true := by
 rw [List.all_eq_true]
 intro x hx
 exact decide_eq_true (h x (by simp [DataW.weights, hu]; simpa using hx))
theorem open_rowsW {H : Type} {enc : TypeId × Value → H} {P : Program} {w : World} {α : Type} {k : Nat} (f : α → List Value) (Q : α → Prop) {t e : TypeId} {A : Option Addr} {len cap : Nat} {d : DataW H} {ps : List MemPlace} (ht : P.underlying t = some (.slice e)) (hC : P.cellsOf e = k) (hk : 0 < k)
 (h : DataW.Trod enc P w 0 (fun _ => true) true t (.slice A len cap) d ps) {ts : List TypeId} {ds : List (DataW H)} (hsz : (DataW.weightsEach P ts ds).all (· ≤ reachBytes) = true) {j : Nat} (htj : ts[j]? = some t) (hdj : ds[j]? = some d)
 (hx : ∀ (cs : List Value) (n : Nat) y, DataW.trod enc P w 0 (fun _ => true) true n e cs = some y → cs.length = k → (∀ x ∈ y.1.weights P e, x ≤ reachBytes) → ∃ z, cs = f z ∧ Q z) :
 ∃ xs : List α, len = xs.length ∧ len ≤ cap ∧ cap ≤ maxLen ∧ SlC k f w A xs ∧ (∀ x ∈ xs, Q x) := by
 have hall : ∀ x ∈ d.weights P t, x ≤ reachBytes := fun x hx => by
  have h1 := List.all_eq_true.1 hsz x (DataW.weights_mem_each htj hdj x hx)
  exact of_decide_eq_true h1
 obtain ⟨fuel, hf⟩ := h
 have hf : DataW.trod enc P w 0 (fun _ => true) true fuel t [.slice A len cap] = some (d, ps) := hf
 rcases open_slice ht hf with ⟨e1, e2⟩ | ⟨a, len', cap', m, n, D, Pl, hcs, hb, hl, hm, hmm, hd, hi⟩
 ·simp only [List.cons.injEq, and_true] at e1
  injection e1 with e1 e3 e4
  subst e1; subst e3; subst e4
  exact ⟨[], rfl, Nat.le_refl _, Nat.zero_le _, ⟨Nat.zero_le _, fun h => absurd h (by simp)⟩, by simp⟩
 ·simp only [List.cons.injEq, and_true] at hcs
  injection hcs with e1 e3 e4
  subst e1; subst e3; subst e4
  rw [if_pos rfl] at hmm
  subst hmm
  rw [hC] at hi
  injection hd with hd _
  have hD : ∀ i, i < len → ∀ x ∈ (D i).weights P e, x ≤ reachBytes := fun i hi9 x hx9 => by
   refine hall x ?_
   rw [hd]
   simp only [DataW.weights, ht, List.mem_cons, List.mem_append]
   exact .inr (.inl (weightsAll_mem (List.mem_map_of_mem (List.mem_range.2 hi9)) x hx9))
  have key : ∀ m, m ≤ len → ∃ xs : List α, xs.length = m ∧ (∀ j (h : j < xs.length) i, i < k → w.cell? (a.add (j * k + i)) = (f xs[j])[i]?) ∧ (∀ x ∈ xs, (f x).length = k ∧ Q x) := by
   intro m
   induction m with
   | zero => intro _; exact ⟨[], rfl, fun j h => by simp at h, by simp⟩
   | succ m ih =>
     intro hm'
     obtain ⟨xs, h1, h2, h3⟩ := ih (by omega)
     obtain ⟨cs, hc, htr⟩ := hi m (by omega)
     obtain ⟨_, hcl, hat⟩ := World.cells?_some hc
     obtain ⟨z, rfl, hq⟩ := hx cs n _ htr hcl (hD m (by omega))
     refine ⟨xs ++ [z], by simp [h1], fun j hj i hi' => ?_, fun x hx => ?_⟩
     ·by_cases e : j < xs.length
      ·rw [h2 j e i hi', List.getElem_append_left e]
      ·have : j = m := by simp at hj; omega
       subst this
       have h5 := hat i hi'
       rw [Go.Deep.add_add] at h5
       rw [h5, List.getElem_append_right (by omega)]
       simp
     ·rcases List.mem_append.1 hx with hx | hx
      ·exact h3 x hx
      ·simp only [List.mem_singleton] at hx; subst hx; exact ⟨hcl, hq⟩
  obtain ⟨xs, h1, h2, h3⟩ := key len (Nat.le_refl _)
  refine ⟨xs, h1.symm, hl, hm, ⟨by omega, fun h0 => ?_⟩, fun x hx => (h3 x hx).2⟩
  have h00 := h2 0 h0 0 hk
  have hlen0 := (h3 xs[0] (List.getElem_mem h0)).1
  rw [List.getElem?_eq_getElem (by omega)] at h00
  have hspot : a.spot = none := by
   cases hs : a.spot with
   | none => rfl
   | some s => exfalso; simp only [World.cell?, Addr.add, hs, Nat.zero_mul, Nat.zero_add, if_true, Option.isSome_some] at h00; split at h00 <;> simp at h00
  obtain ⟨ab, ao, sp⟩ := a
  simp only at hspot
  subst hspot
  refine ⟨ab, ao, rfl, ?_, fun j hj i hi' => ?_⟩
  ·have := lt_of_cell h00
   simp [Addr.add] at this; exact this
  ·rw [← h2 j hj i hi']
   congr 1
   unfold Addr.add; split
   ·rename_i h0'; simp <;> omega
   ·simp <;> omega
structure WopR where
 kind : Int
 n : Int
 E : Option Addr
 ec : Nat
 es : List EnM
 K : Option Addr
 kc : Nat
 keep : List Bool
def WopR.cells (o : WopR) : List Value := [.int .i64 o.kind, .int .i64 o.n, .slice o.E o.es.length o.ec, .slice o.K o.keep.length o.kc]
structure WopOK (w : World) (o : WopR) : Prop where
 rows : SlC 4 emC w o.E o.es
 ents : ∀ x ∈ o.es, EmD (fun g => g < w.heap.size) w x
 room : o.es.length * 48 ≤ 140737488351232
 keep : ∃ te, SlB fBool te (fun g => g < w.heap.size) w o.K o.keep
 n : (Lit.int .i64 o.n).wf = true
def WopsIn (w : World) (A : Option Addr) (ops : List WopR) : Prop := SlC 4 WopR.cells w A ops ∧ ∀ o ∈ ops, WopOK w o
theorem open_wop {H : Type} {enc : TypeId × Value → H} {w : World} {cs : List Value} {n : Nat} {y : DataW H × List MemPlace} (h : DataW.trod enc Tryz.prog w 0 (fun _ => true) true n 65 cs = some y) (hl : cs.length = 4) (hw : ∀ x ∈ y.1.weights Tryz.prog 65, x ≤ reachBytes) : ∃ z : WopR, cs = z.cells ∧ WopOK w z := by
 match cs, hl with
 | [v0, v1, v2, v3], _ =>
   obtain ⟨y0, y1, y2, y3, n1, hx, -, t0, t1, t2, t3⟩ := trod_struct4 Tryz.underlying65 h
   have kI : Tryz.prog.cellsOf 3 = 1 := by kernel_rfl
   have k2 : Tryz.prog.cellsOf 2 = 1 := by kernel_rfl
   have kE : Tryz.prog.cellsOf 37 = 1 := by kernel_rfl
   have kB : Tryz.prog.cellsOf 24 = 1 := by kernel_rfl
   simp [kI, k2, kE, kB] at t0 t1 t2 t3
   obtain ⟨k, rfl, w0⟩ := op_int Tryz.underlying3 t0
   obtain ⟨m, rfl, w3⟩ := op_int Tryz.underlying2 t1
   obtain ⟨K, kc, ks, rfl, -, -, hK, -⟩ := op_slice fBool (fun _ => True) Tryz.underlying24 (by kernel_rfl) t3 (fun v n y h => op_bool Tryz.underlying4 h)
   subst hx
   have hs2 := sized_parts hw Tryz.underlying65
   have hv : ∃ A len cap, v2 = .slice A len cap := by
    rcases DataW.trod_slice Tryz.underlying37 t2 with ⟨e, _⟩ | ⟨a, len, cap, _, _, _, _, e, _, _, _, hm, _⟩
    ·simp only [List.cons.injEq, and_true] at e
     exact ⟨none, 0, 0, e⟩
    ·simp only [List.cons.injEq, and_true] at e
     exact ⟨_, _, _, e⟩
   obtain ⟨E, len, cap, rfl⟩ := hv
   obtain ⟨es, e, h1, h2, h3, h4, h5⟩ := open_rows emC (EmD (fun g => g < w.heap.size) w) Tryz.underlying37 (k := 4) (by kernel_rfl) (by decide) (d := y2.1) (ps := y2.2) ⟨n1, t2⟩ (fun cs n y h hl => by
    match cs, hl with
    | [v0, v1, v2, v3], _ =>
      obtain ⟨z0, z1, z2, z3, n2, -, -, u0, u1, u2, u3⟩ := trod_struct4 Tryz.underlying40 h
      have kD : Tryz.prog.cellsOf 28 = 1 := by kernel_rfl
      simp [kI, k2, kD] at u0 u1 u2 u3
      obtain ⟨i, rfl, -⟩ := op_int Tryz.underlying2 u0
      obtain ⟨t, rfl, -⟩ := op_int Tryz.underlying2 u1
      obtain ⟨q, rfl, -⟩ := op_int Tryz.underlying3 u2
      obtain ⟨D, d, bs, rfl, hcd, hcm, hD, -⟩ := op_slice fB (fun _ => True) Tryz.underlying28 (by kernel_rfl) u3 (fun v n y h => op_byte Tryz.underlying5 h)
      exact ⟨⟨⟨i, t, q, bs⟩, D, d⟩, rfl, ⟨SlB.any hD (fun _ h => h), hcd, hcm⟩⟩)
   subst e
   have hR : Room 48 es.length := by
    rcases h5 with ⟨_, rfl⟩ | ⟨a, -, D, E, e9, hD⟩
    ·unfold Room; simp
    ·exact room_of hs2 (j := 2) rfl rfl Tryz.underlying37 (by kernel_rfl) (.inr ⟨D, E, e9, hD⟩)
   exact ⟨⟨k, m, E, cap, es, K, kc, ks⟩, rfl, ⟨h3, h4, by unfold Room at hR; omega, SlB.any hK (fun _ h => h), w3⟩⟩
theorem open_wops {H : Type} {enc : TypeId × Value → H} {w : World} {A : Option Addr} {len cap : Nat} {d : DataW H} {ps : List MemPlace} (h : DataW.Trod enc Tryz.prog w 0 (fun _ => true) true 63 (.slice A len cap) d ps)
 {ts : List TypeId} {ds : List (DataW H)} (hsz : (DataW.weightsEach Tryz.prog ts ds).all (· ≤ reachBytes) = true) {j : Nat} (htj : ts[j]? = some 63) (hdj : ds[j]? = some d) : ∃ xs, len = xs.length ∧ WopsIn w A xs := by
 obtain ⟨xs, e, h1, h2, h3, h4⟩ := open_rowsW WopR.cells (WopOK w) Tryz.underlying63 (k := 4) (by kernel_rfl) (by decide) h hsz htj hdj (fun cs n y h hl hw => open_wop h hl hw)
 exact ⟨xs, e, h3, h4⟩
end Go.Proofs.YtifgajinfcihmaaGreatDoor
namespace Go.Proofs.YtifgajinfcihmaaGreatDoor
open Go Go.RowKit Go.Shelf Go.Maps Go.Lib Mem Pk Dsk Wl Go.Proofs.YtifgajinfcihmaaGreatDoor.Nm
def KpRel (n B p wb : Nat) (w : World) (sv uv iv : Value) (wr : World) : Prop :=
 ∃ (j : Nat) (t i u : Int) (xs : List SegK), j ≤ n ∧ iv = .int .i64 j ∧ sv = .int .i64 t ∧ uv = .int .i64 u ∧ Hid (WlAt (fun g => g < B) B p wb (diskK xs) (segsK xs) wr) ∧ Hid (KpOK t i xs) ∧ Hid (Below B w wr)
def KpRel2 (n : Nat) (w9 : World) (uv iv : Value) (W : World) : Prop := ∃ (k : Nat) (u : Int), k ≤ n ∧ iv = .int .i64 k ∧ uv = .int .i64 u ∧ Hid (Below w9.heap.size w9 W)
theorem kp_inv_m {t i : Int} {xs : List SegK} (h : KpOK t i xs) (ps : List EnM) (ha : ∀ x ∈ ps, rightE x.e = true) (hg : gapB (lastE (allE (segsK xs))) (ps.map EnM.e) = false) : ∃ P : Nat → S → List Sg → Prop, P 0 (diskK xs) (segsK xs) ∧
 (∀ k dk sk d2 s2, P k dk sk → ∀ hk : k < ps.length, write1 dk sk ps[k].e = (d2, s2, 0) → P (k + 1) d2 s2) ∧ ∀ k dk sk, P k dk sk → k < ps.length → sk.length + 1 ≤ 900000 ∧ (allE sk).length + 1 ≤ 900000 := by
 obtain ⟨P, h1, h2, h3⟩ := kp_inv h (es := ps.map EnM.e) (fun e he => by obtain ⟨x, hx, rfl⟩ := List.mem_map.1 he; exact ha x hx) hg
 exact ⟨P, h1, fun k dk sk d2 s2 hp hk hw => h2 k dk sk d2 s2 hp (by rw [List.length_map]; exact hk) (by rw [List.getElem_map]; exact hw), fun k dk sk hp _ => h3 k dk sk hp⟩
theorem EnIn.take {w : World} {A : Option Addr} {xs : List EnM} (h : EnIn w A xs) (n : Nat) : EnIn w A (xs.take n) :=
 ⟨by rw [List.length_take]; have := h.len; omega, fun k hk => by
  rw [List.length_take] at hk
  obtain ⟨b, o, h1, h2, h3⟩ := h.at_ k (by omega)
  exact ⟨b, o, h1, h2, fun i hi => by rw [List.getElem_take]; exact h3 i hi⟩, fun x hx => h.ds x (List.mem_of_mem_take hx)⟩
set_option maxRecDepth 100000 in
set_option maxHeartbeats 16000000 in
theorem walKeeps_walk {w : World} (hla : LaidS w) (A0 : Option Addr) (c0 : Nat) (ops : List WopR) (hops : WopsIn w A0 ops) (K : Option Addr) (ck : Nat) (keep : List Bool) (_ : keep.length ≤ ck) (_ : ck ≤ maxLen) (hkeep : Sl fBool w K keep) (_ : ∀ x ∈ keep, True) (_ : Room 1 keep.length) :
 Calls Tryz.prog 7 #[.slice A0 ops.length c0, .slice K keep.length ck] w fun e w' => e = .returned (.bool true) ∧ Below w.heap.size w w' := by
 obtain ⟨te, hke⟩ := SlB.any hkeep (G := fun g => g < w.heap.size) (fun _ h => h)
 have HLA := Lib.hid (LaidB.of hla)
 have HOPS := Lib.hid hops
 have HKE := Lib.hid hke
 have hln2 : ops.length ≤ 9223372036854775807 := Nat.le_trans hops.1.1 (by unfold maxLen; decide)
 clear hla hke hkeep hops
 go_enter Tryz.func7, Tryz.ntmps7
 go_wp2_with fail
 (with_reducible refine (L_New w w.heap.size (Nat.le_refl _)).mono ?_); rintro e w1 ⟨p, rfl, hd1, -, hb1⟩
 have HD1 : Hid (D w.heap.size p (diskK []) w1) := Lib.hid hd1
 have HB1 := Lib.hid hb1
 have HAL := Lib.hid (alive6_any (w := w1) (LaidB.of (HLA.out.on hb1).here))
 clear hd1 hb1
 go_wp2_with fail
 (with_reducible refine HAL.out.mono ?_); rintro e w2 ⟨rfl, hb2⟩
 have HD2 := Lib.hid (HD1.out.below hb2)
 have HB2 : Hid (Below w.heap.size w w2) := Lib.hid (HB1.out.trans (hb2.mono HB1.out.size))
 clear hb2 HB1 HD1 HAL
 go_wp2_with fail
 (with_reducible refine (X_wOpen (G := fun _ => False) HD2.out.toW (HLA.out.on HB2.out) xo0).mono ?_); rintro e w3 ⟨wb, rfl, ha3, hb3, -⟩
 have HA3 : Hid (WlAt (fun g => g < w.heap.size) w.heap.size p wb (diskK []) (segsK []) w3) := Lib.hid (WlE.weaken (WlE.elder ha3) (fun g hg => .inl hg))
 have HB3 : Hid (Below w.heap.size w w3) := Lib.hid (HB2.out.trans hb3)
 clear ha3 hb3 HD2 HB2
 go_wp2_with fail
 go_loopw [8, 9, 40] (fun sv uv iv wr => KpRel ops.length w.heap.size p wb w sv uv iv wr) (fun _ _ iv _ => ops.length - (RowKit.intOf iv).toNat)
 case atStart => exact ⟨0, 0, 0, 0, [], Nat.zero_le _, rfl, rfl, rfl, HA3, Lib.hid (KpOK.nil 0), HB3⟩
 case round =>
  obtain ⟨j, t, i, u, xs, hj, rfl, rfl, rfl, HA, HKP, HB⟩ := hrel
  clear HA3 HB3
  by_cases hlt : j < ops.length
  ·have HLT := Lib.hid hlt
   have hj0 : (0 : Int) ≤ (j : Int) := by omega
   have hj1 : (j : Int) < (ops.length : Int) := by omega
   obtain ⟨b, o, hA0, hbb, hc9⟩ := HOPS.out.1.at hlt
   subst hA0
   obtain ⟨op, hop⟩ : ∃ z, z = ops[j] := ⟨_, rfl⟩
   have HOK : Hid (WopOK w op) := Lib.hid (by rw [hop]; exact HOPS.out.2 _ (List.getElem_mem hlt))
   have hc : ∀ i, i < 4 → w.cell? ⟨b, o + j * 4 + i, none⟩ = (op.cells)[i]? := by rw [hop]; exact hc9
   obtain ⟨kd, hkd⟩ : ∃ z, z = op.kind := ⟨_, rfl⟩
   obtain ⟨nn, hnn⟩ : ∃ z, z = op.n := ⟨_, rfl⟩
   obtain ⟨L, hL⟩ : ∃ z, z = op.es.length := ⟨_, rfl⟩
   have c0' : wr.cell? ⟨b, o + j * 4, none⟩ = some (.int .i64 kd) := by rw [hkd]; exact (HB.out.cell (p := ⟨b, o + j * 4, none⟩) hbb).trans (hc 0 (by decide))
   have c1' : wr.cell? ⟨b, o + j * 4 + 1, none⟩ = some (.int .i64 nn) := by rw [hnn]; exact (HB.out.cell (p := ⟨b, o + j * 4 + 1, none⟩) hbb).trans (hc 1 (by decide))
   have c2' : wr.cell? ⟨b, o + j * 4 + 2, none⟩ = some (.slice op.E L op.ec) := by rw [hL]; exact (HB.out.cell (p := ⟨b, o + j * 4 + 2, none⟩) hbb).trans (hc 2 (by decide))
   have c3' : wr.cell? ⟨b, o + j * 4 + 3, none⟩ = some (.slice op.K op.keep.length op.kc) := (HB.out.cell (p := ⟨b, o + j * 4 + 3, none⟩) hbb).trans (hc 3 (by decide))
   obtain ⟨wa, hwa⟩ : ∃ z, z = wr.alloc (.cells #[.int .i64 kd, .int .i64 nn, .slice op.E L op.ec, .slice op.K op.keep.length op.kc] 65) := ⟨_, rfl⟩
   have hba : Below wr.heap.size wr wa := by rw [hwa]; exact (Below.refl _ _).alloc (Nat.le_refl _) _
   have hxa : Blk wa wr.heap.size 65 #[.int .i64 kd, .int .i64 nn, .slice op.E L op.ec, .slice op.K op.keep.length op.kc] := by rw [hwa]; exact Blk.new_ wr _ _
   have HXA := Lib.hid hxa
   have HWA := Lib.hid hwa
   have HAA := Lib.hid (HA.out.below hba)
   have HBA : Hid (Below w.heap.size w wa) := Lib.hid (HB.out.trans (hba.mono HA.out.le))
   have HL := Lib.hid hL
   have hLm : L ≤ 9223372036854775807 := by rw [hL]; have := HOK.out.room; omega
   clear hc hc9 hop hkd hnn hL hwa hba hxa hlt HA HB
   go_upto_region 12 with fail
   rw [← HWA.out]
   clear HWA c0' c1' c2' c3'
   have x0 : wa.cell? ⟨wr.heap.size, 0, none⟩ = some (.int .i64 kd) := HXA.out.cell 0
   by_cases h1 : kd = 1
   ·subst h1
    have HLS := Lib.hid (wLast_any (HAA.out.below (Below.refl wa.heap.size wa).drew))
    have HPU : Hid (∀ (l : Int) V, Below w.heap.size w V → Calls Tryz.prog 28 #[.slice op.E L op.ec, .int .i64 l] V (PutP op.es V)) := Lib.hid (fun l V hb => by rw [HL.out]; exact put6_any (HOK.out.rows.below hb) HOK.out.room l)
    obtain ⟨la, hla⟩ : ∃ z, z = lastE (allE (segsK xs)) := ⟨_, rfl⟩
    rw [← hla] at HLS
    clear hla
    go_upto_region 14 with fail
    clear x0
    refine AnyZ.start (S := (fun V => V.cell? ⟨wr.heap.size, 2, none⟩ = some (.slice op.E L op.ec))) (z := 1006) (by kernel_rfl) ?_ (fun hHeld => ?_)
    ·exact HXA.out.cell 2
    refine AnyZ.take (i := 0) (v := ?_) rfl (by kernel_rfl) (by kernel_rfl) (by kernel_rfl) (by kernel_rfl) (fun _ _ _ h => h) (Or.inl ⟨by kernel_rfl, ?_⟩) (by assumption) ?_
    rotate_left
    ·intro w hSw; (try dsimp only at hSw); go_simp; try with_reducible rfl
    try simp only [Act.put, List.getElem_toArray, List.setIfInBounds_toArray]
    refine AnyZ.take (i := 1) (v := ?_) rfl (by kernel_rfl) (by kernel_rfl) (by kernel_rfl) (by kernel_rfl) (fun _ _ _ h => h) (Or.inl ⟨by kernel_rfl, ?_⟩) (by assumption) ?_
    rotate_left
    ·intro w hSw; (try dsimp only at hSw); go_simp; try with_reducible rfl
    try simp only [Act.put, List.getElem_toArray, List.getElem_cons_succ, List.getElem_cons_zero, List.setIfInBounds_toArray, List.set_cons_zero, List.set_cons_succ]
    refine AnyZ.take (i := 2) (v := ?_) rfl (by kernel_rfl) (by kernel_rfl) (by kernel_rfl) (by kernel_rfl) (fun _ _ _ h => h) (Or.inl ⟨by kernel_rfl, ?_⟩) (by assumption) ?_
    rotate_left
    ·intro w hSw; (try dsimp only at hSw); go_simp; try with_reducible rfl
    try simp only [Act.put, List.getElem_toArray, List.getElem_cons_succ, List.getElem_cons_zero, List.setIfInBounds_toArray, List.set_cons_zero, List.set_cons_succ]
    refine AnyZ.ready (rs := [3]) (by kernel_rfl) (by simp) ?_
    refine AllZ.cons rfl (fun K hK => ?_) AllZ.nil
    go_simp
    (with_reducible refine HLS.out.mono ?_); rintro e' wl ⟨rfl, ml, hwl⟩
    have hbl : Below wa.heap.size wa wl := by rw [hwl]; exact below_drewN (Below.refl _ _).drew ml
    have HXL := Lib.hid (HXA.out.below hbl HXA.out.lt)
    have HABL := Lib.hid hbl
    have HBL : Hid (Below w.heap.size w wl) := Lib.hid (HBA.out.trans (hbl.mono HBA.out.size))
    clear hwl hbl
    refine hK.out _ _ ?_ (fun hHeld => ?_)
    ·exact HXL.out.cell 2
    clear hK K
    try simp only [Act.put, List.getElem_toArray, List.getElem_cons_succ, List.getElem_cons_zero, List.setIfInBounds_toArray, List.set_cons_zero, List.set_cons_succ]
    refine AnyZ.ready (rs := [4]) (by kernel_rfl) (by simp) ?_
    refine AllZ.cons rfl (fun K hK => ?_) AllZ.nil
    go_simp
    (with_reducible refine (HPU.out _ _ HBL.out).mono ?_); rintro e' wp ⟨PA, pc, ps, rfl, hpl, hpr, hpo, hpb⟩
    have HXP := Lib.hid (HXL.out.below hpb HXL.out.lt)
    have HPL : Hid (ps.length = L) := Lib.hid (by rw [hpl, HL.out])
    have HPR : Hid (Rw 4 emC 40 (fun g => wa.heap.size ≤ g) wp PA pc ps) := Lib.hid (hpr.mono (fun g _ hg => Nat.le_trans HABL.out.size hg))
    have HPO := Lib.hid hpo
    have HAP : Hid (Below wa.heap.size wa wp) := Lib.hid (HABL.out.trans (hpb.mono HABL.out.size))
    have HBP : Hid (Below w.heap.size w wp) := Lib.hid (HBL.out.trans (hpb.mono HBL.out.size))
    clear hpl hpr hpo hpb
    refine hK.out _ _ ?_ (fun hHeld => ?_)
    ·exact HXP.out.cell 2
    clear hK K
    try simp only [Act.put, List.getElem_toArray, List.getElem_cons_succ, List.getElem_cons_zero, List.setIfInBounds_toArray, List.set_cons_zero, List.set_cons_succ]
    refine AnyZ.take (i := 5) (v := ?_) rfl (by kernel_rfl) (by kernel_rfl) (by kernel_rfl) (by kernel_rfl) (fun _ _ _ h => h) (Or.inl ⟨by kernel_rfl, ?_⟩) (by assumption) ?_
    rotate_left
    ·intro w hSw; (try dsimp only at hSw); go_simp; try with_reducible rfl
    try simp only [Act.put, List.getElem_toArray, List.getElem_cons_succ, List.getElem_cons_zero, List.setIfInBounds_toArray, List.set_cons_zero, List.set_cons_succ]
    refine AnyZ.done (by kernel_rfl) ?_ _
    skip
    rw [← HL.out]
    clear HXA HXL HXP HLS HPU HABL HBL
    go_wp2_with fail
    go_loopw [9, 55] (fun uv iv wr => KpRel2 L wp uv iv wr) (fun _ iv _ => L - (RowKit.intOf iv).toNat)
    case atStart => exact ⟨0, u, Nat.zero_le _, rfl, rfl, Lib.hid (Below.refl _ _)⟩
    case round =>
     obtain ⟨k, u2, hk, rfl, rfl, HBQ⟩ := hrel
     by_cases hkl : k < L
     ·obtain ⟨b2, o2, hPA, -, -, -, hc⟩ := (HPR.out.below HBQ.out).at (j := k) (by rw [HPL.out]; exact hkl)
      subst hPA
      obtain ⟨x, hx⟩ : ∃ x, x = ps[k]'(by rw [HPL.out]; exact hkl) := ⟨_, rfl⟩
      rw [← hx] at hc
      have k0 : wr.cell? ⟨b2, o2 + k * 4, none⟩ = some (.int .i64 x.e.ix) := hc 0 (by decide)
      have k1 : wr.cell? ⟨b2, o2 + k * 4 + 1, none⟩ = some (.int .i64 x.e.tm) := hc 1 (by decide)
      have k2 : wr.cell? ⟨b2, o2 + k * 4 + 2, none⟩ = some (.int .i64 x.e.kd) := hc 2 (by decide)
      have k3 : wr.cell? ⟨b2, o2 + k * 4 + 3, none⟩ = some (.slice x.A x.e.ds.length x.c) := hc 3 (by decide)
      obtain ⟨W9, hW9⟩ : ∃ z, z = wr.alloc (.cells #[.int .i64 x.e.ix, .int .i64 x.e.tm, .int .i64 x.e.kd, .slice x.A x.e.ds.length x.c] 40) := ⟨_, rfl⟩
      have hb9 : Below wr.heap.size wr W9 := by rw [hW9]; exact (Below.refl _ _).alloc (Nat.le_refl _) _
      have hx9 : Blk W9 wr.heap.size 40 #[.int .i64 x.e.ix, .int .i64 x.e.tm, .int .i64 x.e.kd, .slice x.A x.e.ds.length x.c] := by rw [hW9]; exact Blk.new_ wr _ _
      have HB9 : Hid (Below wp.heap.size wp W9) := Lib.hid (HBQ.out.trans (hb9.mono HBQ.out.size))
      have HW9 := Lib.hid hW9
      have HKL := Lib.hid hkl
      have q0 : (0 : Int) ≤ (k : Int) := by omega
      have q1 : (k : Int) < (L : Int) := by omega
      have a3 : W9.cell? ⟨wr.heap.size, 3, none⟩ = some (.slice x.A x.e.ds.length x.c) := hx9.cell 3
      clear hc hx hW9 hb9 hx9 hkl
      go_upto_region 18 with fail
      rw [← HW9.out]
      clear HW9
      go_wp2_with fail
      go_roundw
      case rel => exact ⟨k + 1, _, HKL.out, by go_num, rfl, HB9⟩
      case measure => simp [RowKit.intOf]; have := HKL.out; omega
     ·have hkn : ¬ ((k : Int) < (L : Int)) := by omega
      have HBR : Hid (Below w.heap.size w wr) := Lib.hid (HBP.out.trans (HBQ.out.mono HBP.out.size))
      clear hkl
      by_cases h12 : 12000 < u2
      ·go_wp2_with fail
       go_ret
       exact ⟨rfl, HBR.out⟩
      ·have hbr : Below wa.heap.size wa wr := HAP.out.trans (HBQ.out.mono HAP.out.size)
       have hat := WlE.protect (G2 := fun q => wa.heap.size ≤ q ∧ q < wr.heap.size) HAA.out hbr (fun _ hq => hq)
       have hro : Rw 4 emC 40 (fun q => q < w.heap.size ∨ (wa.heap.size ≤ q ∧ q < wr.heap.size)) wr PA pc ps := (HPR.out.below HBQ.out).mono (fun g hl hg => .inr ⟨hg, hl⟩)
       have hds : ∀ x ∈ ps, EmD (fun q => q < w.heap.size ∨ (wa.heap.size ≤ q ∧ q < wr.heap.size)) wr x := HPO.out.d (fun x hx => by
        obtain ⟨d1, d2, d3⟩ := HOK.out.ents x hx
        exact ⟨SlB.ex_mono (SlB.ex_under d1 HBR.out) (fun _ _ hg => .inl hg), d2, d3⟩)
       have hAP := wAppend_inv hat (HLA.out.on HBR.out) hro (fun _ hg => hg) hds (fun ha hg => kp_inv_m HKP.out ps ha hg) HKP.out.right
       rw [HPL.out] at hAP
       have HAPP := Lib.hid hAP
       clear hbr hat hro hds hAP
       rcases kp_append HKP.out (ps.map EnM.e) with h3 | ⟨j', ys, cd, he, hcd, hk2⟩
       ·have HA3 : Hid (Calls Tryz.prog 23 #[.pointer (some ⟨wb, 0, none⟩), .slice PA L pc] wr fun e w' => e = .returned (.int .i64 3) ∧ Below w.heap.size wr w') := Lib.hid (HAPP.out.mono fun e w' hp => by
         unfold LdP at hp
         rw [h3] at hp
         exact ⟨hp.1, hp.2.2.1⟩)
        clear h3 HAPP
        go_wp2_with fail
        (with_reducible refine HA3.out.mono ?_); rintro e w6 ⟨rfl, hb6⟩
        have HB6 := Lib.hid (HBR.out.trans hb6)
        clear hb6
        go_wp2_with fail
        go_ret
        exact ⟨rfl, HB6.out⟩
       ·have HA3 : Hid (Calls Tryz.prog 23 #[.pointer (some ⟨wb, 0, none⟩), .slice PA L pc] wr fun e w' => e = .returned (.int .i64 (cd : Int)) ∧ WlAt (fun g => g < w.heap.size) w.heap.size p wb (diskK ys) (segsK ys) w' ∧ Below w.heap.size wr w') := Lib.hid (HAPP.out.mono fun e w' hp => by
         obtain ⟨p1, p2, p3, -⟩ := hp.to he (ki := (cd : Int)) rfl
         exact ⟨p1, WlE.weaken p2 (fun g hg => .inl hg), p3⟩)
        have HK2 := Lib.hid hk2
        have hcd2 : (((cd : Int) == 51) = false) ∧ (((cd : Int) == 3) = false) := by rcases hcd with rfl | rfl | rfl <;> exact ⟨rfl, rfl⟩
        obtain ⟨t51, t3⟩ := hcd2
        clear he hk2 hcd HAPP
        go_wp2_with fail
        (with_reducible refine HA3.out.mono ?_); rintro e w6 ⟨rfl, ha6, hb6⟩
        have HA6 := Lib.hid ha6
        have HB6 := Lib.hid (HBR.out.trans hb6)
        clear ha6 hb6
        go_wp2_with fail
        go_roundw
        case rel => exact ⟨j + 1, t, j', u2, ys, HLT.out, by go_num, rfl, rfl, HA6, HK2, HB6⟩
        case measure => simp [RowKit.intOf]; have := HLT.out; omega
   ·have t1 : (kd == 1) = false := by rw [beq_eq_false_iff_ne]; exact h1
    by_cases h2 : kd = 2
    ·subst h2
     have HSY := Lib.hid (X_wSync HAA.out (syncW_ok HKP.out.run) (ki := 0) rfl)
     clear h1
     go_wp2_with fail
     (with_reducible refine HSY.out.mono ?_); rintro e w6 ⟨rfl, ha6, hb6, -⟩
     have HA6 := Lib.hid ha6
     have HB6 : Hid (Below w.heap.size w w6) := Lib.hid (HBA.out.trans hb6)
     have HLS := Lib.hid (wLast_any ha6)
     clear ha6 hb6 HSY
     go_wp2_with fail
     (with_reducible refine HLS.out.mono ?_); rintro e w7 ⟨rfl, m7, hw7⟩
     have hb7 : Below w6.heap.size w6 w7 := by rw [hw7]; exact below_drewN (Below.refl _ _) m7
     have HA7 := Lib.hid (HA6.out.below hb7)
     have HB7 : Hid (Below w.heap.size w w7) := Lib.hid (HB6.out.trans (hb7.mono HB6.out.size))
     clear hw7 hb7 HLS HA6 HB6
     go_wp2_with fail
     go_roundw
     case rel => exact ⟨j + 1, _, i, u, xs.map dryK, HLT.out, by go_num, rfl, rfl, HA7, Lib.hid (kp_sync HKP.out), HB7⟩
     case measure => simp [RowKit.intOf]; have := HLT.out; omega
    ·have t2 : (kd == 2) = false := by rw [beq_eq_false_iff_ne]; exact h2
     by_cases h3 : kd = 3
     ·subst h3
      have x1 : wa.cell? ⟨wr.heap.size, 1, none⟩ = some (.int .i64 nn) := HXA.out.cell 1
      obtain ⟨ys, u1, u2⟩ := kp_cut (c := nn) HKP.out
      have HCU := Lib.hid (X_wCut HAA.out ⟨i, HKP.out.run.chain⟩ (by have := HKP.out.count; omega) nn u1 (ki := 0) rfl)
      have HK2 := Lib.hid u2
      clear h1 h2 u1 u2
      go_wp2_with fail
      (with_reducible refine HCU.out.mono ?_); rintro e w6 ⟨rfl, ha6, hb6, -⟩
      have HA6 := Lib.hid ha6
      have HB6 : Hid (Below w.heap.size w w6) := Lib.hid (HBA.out.trans hb6)
      have HLS := Lib.hid (wLast_any ha6)
      obtain ⟨la, hla⟩ : ∃ z, z = lastE (allE (segsK ys)) := ⟨_, rfl⟩
      rw [← hla] at HLS HK2
      clear ha6 hb6 HCU hla x1
      go_wp2_with fail
      (with_reducible refine HLS.out.mono ?_); rintro e w7 ⟨rfl, m7, hw7⟩
      have hb7 : Below w6.heap.size w6 w7 := by rw [hw7]; exact below_drewN (Below.refl _ _) m7
      have HA7 := Lib.hid (HA6.out.below hb7)
      have HB7 : Hid (Below w.heap.size w w7) := Lib.hid (HB6.out.trans (hb7.mono HB6.out.size))
      clear hw7 hb7 HLS HA6 HB6
      go_wp2_with fail
      go_roundw
      case rel => exact ⟨j + 1, _, i, u, ys, HLT.out, by go_num, rfl, rfl, HA7, HK2, HB7⟩
      case measure => simp [RowKit.intOf]; have := HLT.out; omega
     ·have t3 : (kd == 3) = false := by rw [beq_eq_false_iff_ne]; exact h3
      by_cases h4 : kd = 4
      ·subst h4
       have x1 : wa.cell? ⟨wr.heap.size, 1, none⟩ = some (.int .i64 nn) := HXA.out.cell 1
       obtain ⟨j', ys, u1, u2⟩ := kp_drop (c := nn) HKP.out
       have HCU := Lib.hid (X_wDrop HAA.out HKP.out.ne nn u1 (ki := 0) rfl)
       have HK2 := Lib.hid u2
       clear h1 h2 h3 u1 u2
       go_wp2_with fail
       (with_reducible refine HCU.out.mono ?_); rintro e w6 ⟨rfl, ha6, hb6, -⟩
       have HA6 := Lib.hid ha6
       have HB6 : Hid (Below w.heap.size w w6) := Lib.hid (HBA.out.trans hb6)
       have HFI := Lib.hid (wFirst_any ha6)
       obtain ⟨fi, hfi⟩ : ∃ z, z = firstE (allE (segsK ys)) := ⟨_, rfl⟩
       obtain ⟨la, hla⟩ : ∃ z, z = lastE (allE (segsK ys)) := ⟨_, rfl⟩
       rw [← hfi] at HFI HK2
       rw [← hla] at HK2
       have HLA9 := Lib.hid hla
       clear ha6 hb6 HCU hfi hla x1
       by_cases h5 : t < fi
       ·rw [if_pos (.inl h5)] at HK2
        go_wp2_with fail
        (with_reducible refine HFI.out.mono ?_); rintro e w7 ⟨rfl, m7, hw7⟩
        have hb7 : Below w6.heap.size w6 w7 := by rw [hw7]; exact below_drewN (Below.refl _ _) m7
        have HA7 := Lib.hid (HA6.out.below hb7)
        have HB7 : Hid (Below w.heap.size w w7) := Lib.hid (HB6.out.trans (hb7.mono HB6.out.size))
        clear hw7 hb7 HFI HA6 HB6
        go_wp2_with fail
        go_roundw
        case rel => exact ⟨j + 1, _, j', u, ys, HLT.out, by go_num, rfl, rfl, HA7, HK2, HB7⟩
        case measure => simp [RowKit.intOf]; have := HLT.out; omega
       ·go_wp2_with fail
        (with_reducible refine HFI.out.mono ?_); rintro e w7 ⟨rfl, m7, hw7⟩
        have hb7 : Below w6.heap.size w6 w7 := by rw [hw7]; exact below_drewN (Below.refl _ _) m7
        have HA7 := Lib.hid (HA6.out.below hb7)
        have HB7 : Hid (Below w.heap.size w w7) := Lib.hid (HB6.out.trans (hb7.mono HB6.out.size))
        have HLS := Lib.hid (wLast_any HA7.out)
        rw [← HLA9.out] at HLS
        clear hw7 hb7 HFI HA6 HB6
        go_wp2_with fail
        (with_reducible refine HLS.out.mono ?_); rintro e w8 ⟨rfl, m8, hw8⟩
        have hb8 : Below w7.heap.size w7 w8 := by rw [hw8]; exact below_drewN (Below.refl _ _) m8
        have HA8 := Lib.hid (HA7.out.below hb8)
        have HB8 : Hid (Below w.heap.size w w8) := Lib.hid (HB7.out.trans (hb8.mono HB7.out.size))
        clear hw8 hb8 HLS HA7 HB7
        by_cases h6 : la = 0
        ·rw [if_pos (.inr h6)] at HK2
         have t6 : (la == 0) = true := by rw [h6]; rfl
         go_wp2_with fail
         go_roundw
         case rel => exact ⟨j + 1, _, j', u, ys, HLT.out, by go_num, rfl, rfl, HA8, HK2, HB8⟩
         case measure => simp [RowKit.intOf]; have := HLT.out; omega
        ·rw [if_neg (show ¬ (t < fi ∨ la = 0) by omega)] at HK2
         have t6 : (la == 0) = false := by rw [beq_eq_false_iff_ne]; exact h6
         go_wp2_with fail
         go_roundw
         case rel => exact ⟨j + 1, _, j', u, ys, HLT.out, by go_num, rfl, rfl, HA8, HK2, HB8⟩
         case measure => simp [RowKit.intOf]; have := HLT.out; omega
      ·have t4 : (kd == 4) = false := by rw [beq_eq_false_iff_ne]; exact h4
       go_wp2_with fail
       go_roundw
       case rel => exact ⟨j + 1, t, i, u, xs, HLT.out, by go_num, rfl, rfl, HAA, HKP, HBA⟩
       case measure => simp [RowKit.intOf]; have := HLT.out; omega
  ·have hj1 : ¬ (j : Int) < (ops.length : Int) := by omega
   have hcnt := HKP.out.count
   have HE1 := Lib.hid (wEntries_any HA.out (by omega) HKP.out.right)
   obtain ⟨i', T, n, k1, k2, k3, k4, k5⟩ := kp_crash HKP.out keep
   obtain ⟨m9, hm9⟩ : ∃ z, z = (allE (segsK xs)).length := ⟨_, rfl⟩
   rw [← hm9] at k4 hcnt
   have hTl : (allE T).length = n := by rw [k3, List.length_take]; omega
   have HOP := Lib.hid k1
   have HCH := Lib.hid k2
   have HT := Lib.hid k3
   have HTL := Lib.hid hTl
   have HM9 := Lib.hid hm9
   have HSF := Lib.hid k5
   clear hlt hj k1 k2 k3 k5 hTl hm9
   go_wp2_with fail
   (with_reducible refine HE1.out.mono ?_); rintro e w9 ⟨A9, c9, xs9, rfl, hr9, he9, hdd9, hb9⟩
   rw [← HM9.out]
   have hl9 : xs9.length = m9 := by rw [HM9.out, ← he9, List.length_map]
   have HA9 := Lib.hid (WlE.protect (G2 := fun q => wr.heap.size ≤ q ∧ q < w9.heap.size) HA.out hb9 (fun _ hq => hq))
   have HB9 : Hid (Below w.heap.size w w9) := Lib.hid (HB.out.trans (hb9.mono HB.out.size))
   have HR9 : Hid (Rw 4 emC 40 (fun q => wr.heap.size ≤ q ∧ q < w9.heap.size) w9 A9 c9 xs9) := Lib.hid (hr9.mono (fun g hl hg => ⟨hg, hl⟩))
   have HDD9 : Hid (∀ x ∈ xs9, EmOK (fun q => wr.heap.size ≤ q ∧ q < w9.heap.size) w9 x) := Lib.hid (fun x hx => (hdd9 x hx).mono (fun g hl hg => ⟨hg, hl⟩))
   have HE9 := Lib.hid he9
   have HL9 := Lib.hid hl9
   have hmc : m9 ≤ c9 := by rw [← hl9]; exact hr9.1
   have hcm : c9 ≤ 9223372036854775807 := Nat.le_trans hr9.2.1 (by unfold maxLen; decide)
   obtain ⟨R, SA, sc, sm, EA, ec, em, h0, -, -⟩ := HA9.out
   have HCR := Lib.hid (X_Crash (h0.dx.weaken (F := fun q => False ∨ (wr.heap.size ≤ q ∧ q < w9.heap.size)) (fun g hg => .inl (.inl (hg.elim (fun e => e.elim) .inr)))) (c := ck) (HKE.out.under HB9.out) (.inr fun g h => h) rfl)
   clear hr9 he9 hdd9 hb9 hl9 HE1 h0
   go_wp2_with fail
   (with_reducible refine HCR.out.mono ?_); rintro e w10 ⟨rfl, hd10, hb10, hk10⟩
   have HB10 : Hid (Below w.heap.size w w10) := Lib.hid (HB9.out.trans hb10)
   have HK10 := Lib.hid hk10
   have HOPN := Lib.hid (X_wOpen hd10 (HLA.out.on HB10.out) HOP.out)
   clear hd10 hb10 hk10 HCR
   go_wp2_with fail
   (with_reducible refine HOPN.out.mono ?_); rintro e w11 ⟨wb2, rfl, ha11, hb11, hk11⟩
   have HB11 : Hid (Below w.heap.size w w11) := Lib.hid (HB10.out.trans hb11)
   have hk : Kept (fun q => False ∨ (wr.heap.size ≤ q ∧ q < w9.heap.size)) w9 w11 := fun g hg => (hk11 g hg).trans (HK10.out g hg)
   have HI11 : Hid (EnIn w11 A9 xs9) := Lib.hid (EnIn.of_rw (HR9.out.keep (fun g _ hg hb => (hk g (.inr hg)).trans hb)) (F' := fun q => wr.heap.size ≤ q ∧ q < w9.heap.size) (fun x hx => ⟨(HDD9.out x hx).sl.kept hk (fun g hg => .inr hg), (HDD9.out x hx).len, (HDD9.out x hx).cap⟩))
   have HA11 := Lib.hid ha11
   have HE1 := Lib.hid (wEntries_any ha11 (by rw [HTL.out]; omega) (chain_follow HCH.out).2)
   clear ha11 hb11 hk11 hk HB10 HK10 HOPN HR9 HDD9
   go_wp2_with fail
   (with_reducible refine HE1.out.mono ?_); rintro e w12 ⟨A12, c12, xs12, rfl, hr12, he12, hd12, hb12⟩
   rw [HTL.out]
   have hl12 : xs12.length = n := by rw [← HTL.out, ← he12, List.length_map]
   have hs12 := Same6_any (c := c12) (d := c9) (EnIn.of_rw hr12 hd12) ((HI11.out.below hb12).take n)
   have htk : (xs9.take n).length = n := by rw [List.length_take, HL9.out]; omega
   rw [he12, List.map_take, HE9.out, HT.out, eqEs_self, hl12, htk] at hs12
   have HS12 := Lib.hid hs12
   have HA12 := Lib.hid (HA11.out.below hb12)
   have HB12 : Hid (Below w.heap.size w w12) := Lib.hid (HB11.out.trans (hb12.mono HB11.out.size))
   have hn1 : ¬ (m9 : Int) < (n : Int) := by omega
   clear hr12 he12 hd12 hb12 hs12 hl12 htk HE1 HB11 HI11 HA11
   go_wp2_with fail
   (with_reducible refine HS12.out.mono ?_); rintro e w13 ⟨rfl, m13, hw13⟩
   have hb13 : Below w12.heap.size w12 w13 := by rw [hw13]; exact below_drewN (Below.refl _ _) m13
   have HB13 : Hid (Below w.heap.size w w13) := Lib.hid (HB12.out.trans (hb13.mono HB12.out.size))
   have HLS := Lib.hid (wLast_any (HA12.out.below hb13))
   obtain ⟨la, hla⟩ : ∃ z, z = lastE (allE T) := ⟨_, rfl⟩
   rw [← hla] at HLS HSF
   clear hw13 hb13 HS12 HB12 HA12 hla
   by_cases h0 : t = 0
   ·subst h0
    go_wp2_with fail
    go_ret
    exact ⟨rfl, HB13.out⟩
   ·have t0 : (t == 0) = false := by rw [beq_eq_false_iff_ne]; exact h0
    have t1 : t ≤ la := HSF.out.elim (fun h => absurd h h0) id
    go_wp2_with fail
    (with_reducible refine HLS.out.mono ?_); rintro e w14 ⟨rfl, m14, hw14⟩
    have HB14 : Hid (Below w.heap.size w w14) := Lib.hid (by rw [hw14]; exact below_drewN HB13.out m14)
    clear hw14 HLS
    go_wp2_with fail
    go_ret
    exact ⟨rfl, HB14.out⟩
end Go.Proofs.YtifgajinfcihmaaGreatDoor
