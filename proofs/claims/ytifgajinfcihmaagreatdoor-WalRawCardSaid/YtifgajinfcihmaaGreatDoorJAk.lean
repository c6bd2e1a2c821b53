/- Layer 3: Get: values of kinds 1 and 3 read. -/
import Derived.Shelf.Abstract
import Derived.Test.YtifgajinfcihmaaGreatDoorJAg
import Derived.Test.YtifgajinfcihmaaGreatDoorJAj
import Derived.Test.YtifgajinfcihmaaGreatDoorJAf
namespace Go.Proofs.YtifgajinfcihmaaGreatDoor
open Go Go.RowKit Go.Maps Go.Lib Mem Pk
theorem step_appendK1at {P : Program} {α : Type} {k : Nat} {f : α → List Value} {w0 : World} {ops : Array Oper} {o : Oper} {a : Act} {K : Act → World → Prop} {Q : Exit → Act → World → Prop} {E : Prop} (hgd : o.guard = none) (s x : Operand) (t : TypeId)
 (ho : o.op = .call { callee := .builtin .append, args := #[s, x], argTypes := #[t, t] })
 {base : Nat} {e : TypeId} {z : Value} {bytes : Nat} (ht : SliceTK P t e z k bytes)
 {v : Value} {xs : List α} (u : α) (hk : (f u).length = k) (h1 : ∀ y ∈ f u, y.oneCell' = true) (hs : a.eval s = v) (hown : OwnK k f base e w0 v xs) {cs : Array Value} (hcs : cs = (f u).toArray)
 {g c : Nat} (hx : a.eval x = .slice (some ⟨g, 0, none⟩) 1 c) (hg : g = w0.heap.size)
 (h63 : xs.length + 1 ≤ maxLen) (hbytes : (xs.length + 1) * bytes ≤ 140737488355328) (hbase : base ≤ w0.heap.size)
 (h : ∀ v' w', OwnK k f base e w' v' (xs ++ [u]) → (w0.alloc (.cells cs e)).grownBy w' v.ownBlock → (v'.ownBlock = v.ownBlock ∨ v'.ownBlock = some (w0.heap.size + 1)) → K (a.put o.dst v') w') :
 if Region.wanted o (yielded ops a.tmps) = true then Oper.wp P o a (w0.alloc (.cells cs e)) K Q else E := by
 have hw : Region.wanted o (yielded ops a.tmps) = true := by simp [Region.wanted, hgd]
 rw [if_pos hw]
 obtain ⟨ht, hz1, hk0, i, hi, hz, hsz, hby⟩ := ht
 subst hg; subst hcs
 have hcell : ∀ j y, (f u)[j]? = some y → (w0.alloc (.cells (f u).toArray e)).cell? ((⟨w0.heap.size, 0, none⟩ : Addr).add j) = some y := by
  intro j y hy
  have e2 : (⟨w0.heap.size, 0, none⟩ : Addr).add j = ⟨w0.heap.size, j, none⟩ := by
   unfold Addr.add; split
   ·rename_i h0; subst h0; rfl
   ·simp
  rw [e2]
  have := heap_alloc_new w0 (.cells (f u).toArray e)
  unfold World.cell?
  simp only [this]
  simpa using hy
 obtain ⟨v', w', hr, h2, h3, _, hat⟩ := run_append_own_at (P := P) (w0.alloc (.cells (f u).toArray e)) base t o.type e i z k bytes ht hi hz hsz hby hz1 hk0 v xs.length (xs.flatMap f) (hown.alloc _) ⟨w0.heap.size, 0, none⟩ 1 c (f u) (by rw [hk]; omega) hcell h1 h63 hbytes (by rw [World.size_alloc]; omega)
 unfold Oper.wp execOp
 simp only [ho, resolve, invoke, builtin, Sem.run_bind, Sem.run_pure, Result.andThen_ok, List.map_toArray, List.map_cons, List.map_nil, hs, hx, hr]
 refine h v' w' ?_ h3 (by rw [World.size_alloc] at hat; exact hat)
 unfold OwnK; rw [List.length_append, List.flatMap_append]; simpa using h2
def valsV : List Int → List UInt8 → Option (List PV × List UInt8)
 | [], bs => some ([], bs)
 | k :: ks, bs =>
   match oneV k bs with
   | none => none
   | some (v, r) =>
     match valsV ks r with
     | none => none
     | some (vs, r') => some (v :: vs, r')
structure PR where
 v : PV
 A : Option Addr
 c : Nat
def prN (x : PR) : List Value := [.int .i64 x.v.k, .int .i64 x.v.n, .float .f64 0, .slice x.A x.v.b.length x.c, .bool false]
theorem prN_len (x : PR) : (prN x).length = 5 := rfl
theorem prN_one (x : PR) : ∀ y ∈ prN x, y.oneCell' = true := by
 intro y hy
 simp only [prN, List.mem_cons, List.not_mem_nil, or_false] at hy
 rcases hy with rfl | rfl | rfl | rfl | rfl <;> rfl
structure PRok (base : Nat) (W : World) (x : PR) : Prop where
 sl : SlB fB 5 (fun g => base ≤ g) W x.A x.v.b
 len : x.v.b.length ≤ x.c
 cap : x.c ≤ maxLen
theorem PRok.frm {base : Nat} {W W' : World} {x : PR} {G : Nat → Prop} (h : PRok base W x) (hf : Frm G W W') (hG : ∀ g, base ≤ g → ¬ G g) : PRok base W' x := ⟨h.sl.frm hf hG, h.len, h.cap⟩
theorem slB_apart {α β : Type} {k : Nat} {f : α → List Value} {f' : β → Value} {e e' : TypeId} {G : Nat → Prop} {w w' : World} {v : Value} {A : Option Addr} {xs : List α} {ys : List β} {base : Nat} (h : SlB f' e' G w A ys) (ho : OwnK k f base e w v xs) (hne : e' ≠ e) (hg : w.grownBy w' v.ownBlock) : SlB f' e' G w' A ys :=
 h.keep fun g cur fr _ hh => by
  have hf := (Frm.refl (fun k => v.ownBlock = some k) w).grown hg (fun _ hk _ => hk)
  refine hf.block g (lt_of_block hh) (fun hk => ?_)
  rcases ho.2 with ⟨h1, -⟩ | ⟨g', cap, cur', hv, -, hh', -⟩
  ·rw [h1] at hk; cases hk
  ·rw [hv] at hk
   have : g' = g := by simpa [Value.ownBlock] using hk
   subst this
   rw [hh'] at hh; injection hh with hh; injection hh with _ hh
   exact hne hh.symm
theorem valT5 : SliceTK Tryz.prog 156 155 (.agg #[.int .i64 0, .int .i64 0, .float .f64 0, .slice none 0 0, .bool false]) 5 56 := sliceTK_mk Tryz.underlying156 rfl (by decide) (by kernel_rfl)
theorem _root_.Go.Proofs.YtifgajinfcihmaaGreatDoor.Mem.SlB.cutB {α : Type} {f : α → Value} {e : TypeId} {F : Nat → Prop} {w : World} {A : Option Addr} {xs : List α} (h : SlB f e F w A xs) : SlB f e (fun g => g < w.heap.size) w A xs := h.mono fun _g hg _ => hg
theorem ownKFrm {α : Type} {k : Nat} {f : α → List Value} {base : Nat} {e : TypeId} {w w' : World} {v : Value} {xs : List α} {G : Nat → Prop} (h : OwnK k f base e w v xs) (hf : Frm G w w') (hG : ∀ g, base ≤ g → ¬ G g) : OwnK k f base e w' v xs := by
 obtain ⟨h1, h2⟩ := h
 refine ⟨h1, ?_⟩
 rcases h2 with h2 | ⟨g, cap, cur, a, b, hh, c⟩
 ·exact .inl h2
 ·exact .inr ⟨g, cap, cur, a, b, (hf.block g (lt_of_block hh) (hG g b)).trans hh, c⟩
theorem blkG {α : Type} {k : Nat} {f : α → List Value} {base : Nat} {e t : TypeId} {w w' : World} {v : Value} {xs : List α} {g : Nat} {cs : Array Value} (h : Blk w g t cs) (ho : OwnK k f base e w v xs) (hb : g < base) (hg : w.grownBy w' v.ownBlock) : Blk w' g t cs :=
 h.frm ((Frm.refl (fun g => v.ownBlock = some g) w).grown hg (fun _ hk _ => hk)) (fun hk => by have := (ho.lt g hk).1; omega)
structure GtS (F : Nat → Prop) (r ob base : Nat) (w W : World) (done : List PR) (bs : List UInt8) : Prop where
 rd : Rd F W r bs
 box : ∃ ov, Blk W ob 156 #[ov] ∧ OwnK 5 prN base 155 W ov done
 ok : ∀ x ∈ done, PRok base W x
 frm : Frm (fun g => g = r ∨ g = ob ∨ base ≤ g) w W
def GtRel (F : Nat → Prop) (r ob base : Nat) (ks : List Int) (bs : List UInt8) (w : World) (iv : Value) (W : World) : Prop :=
 ∃ (i : Nat) (done : List PR) (bs' : List UInt8), i ≤ ks.length ∧ iv = .int .i64 i ∧ done.length = i ∧ GtS F r ob base w W done bs' ∧
   Hid (valsV ks bs = (valsV (ks.drop i) bs').map fun x => (done.map PR.v ++ x.1, x.2))
def Gt2P (F : Nat → Prop) (r ob base : Nat) (res : Option (List PV × List UInt8)) (w : World) (e : Ending) (w' : World) : Prop :=
 (res = none → e = .panicked [{ v := wrongV 30, recovered := false }] ∧ Frm (fun g => g = r ∨ g = ob ∨ base ≤ g) w w') ∧
 ∀ vs rest, res = some (vs, rest) → e = .returned (.tuple #[]) ∧ ∃ done, done.map PR.v = vs ∧ GtS F r ob base w w' done rest
theorem Gt2P.no {F : Nat → Prop} {r ob base : Nat} {res : Option (List PV × List UInt8)} {w w' : World} (h : res = none) (hf : Frm (fun g => g = r ∨ g = ob ∨ base ≤ g) w w') : Gt2P F r ob base res w (.panicked [{ v := wrongV 30, recovered := false }]) w' :=
 ⟨fun _ => ⟨rfl, hf⟩, fun vs rest e => by rw [h] at e; cases e⟩
set_option maxRecDepth 100000 in
set_option maxHeartbeats 4000000 in
theorem Get2_any {F : Nat → Prop} {w : World} {r ob kb base : Nat} {ks : List Int} {bs : List UInt8} {K : Option Addr} {kc : Nat} (hr : Rd F w r bs) (hkb : Blk w kb 87 #[.slice K ks.length kc]) (hk : SlB (Value.int .i64) 3 (fun g => g < base ∧ g ≠ r ∧ g ≠ ob) w K ks) (hks : ∀ k ∈ ks, k = 1 ∨ k = 3)
 (hob : Blk w ob 156 #[.slice none 0 0]) (hne : r ≠ ob ∧ kb ≠ r ∧ kb ≠ ob) (hF : ∀ g, F g → g < base ∧ g ≠ ob) (hb : r < base ∧ ob < base ∧ kb < base ∧ base ≤ w.heap.size) (hl : ks.length ≤ 1000) :
 Calls Tryz.prog 166 #[.pointer (some ⟨r, 0, none⟩), .pointer (some ⟨kb, 0, none⟩), .pointer (some ⟨ob, 0, none⟩)] w (Gt2P F r ob base (valsV ks bs) w) := by
 have HS0 : Hid (GtS F r ob base w w [] bs) := Lib.hid ⟨hr, ⟨_, hob, OwnK.nil⟩, (fun x hx => by cases hx), Frm.refl _ _⟩
 obtain ⟨res, hres⟩ : ∃ z, z = valsV ks bs := ⟨_, rfl⟩
 have HRES := Lib.hid hres
 have HKS := Lib.hid hks
 have HF := Lib.hid hF
 have HBB := Lib.hid hb
 have HNE := Lib.hid hne
 have k0 : w.cell? ⟨kb, 0, none⟩ = some (.slice K ks.length kc) := hkb.cell 0
 have HK := Lib.hid hk
 rw [← hres]
 clear hr hkb hk hks hob hne hF hb hres
 go_enter Tryz.func166, Tryz.ntmps166
 go_wp2_with fail
 go_loopw [8] (fun iv wr => GtRel F r ob base ks bs w iv wr) (fun iv _ => ks.length - (RowKit.intOf iv).toNat)
 case atStart => exact ⟨0, [], bs, Nat.zero_le _, rfl, rfl, HS0.out, by rw [List.drop_zero]; show valsV ks bs = _; cases valsV ks bs <;> simp⟩
 case round =>
  obtain ⟨i, done, bs', hi, rfl, hdl, hst, hv⟩ := hrel
  obtain ⟨wo, rfl⟩ : ∃ wo, wo = wr := ⟨_, rfl⟩
  have HST := Lib.hid hst
  have HDL := Lib.hid hdl
  have HV : Hid (res = (valsV (ks.drop i) bs').map fun x => (done.map PR.v ++ x.1, x.2)) := Lib.hid (by rw [HRES.out]; exact hv.out)
  obtain ⟨ov, hbox, hown⟩ := hst.box
  obtain ⟨Ao, co, rfl⟩ := hown.form
  have HBX := Lib.hid hbox
  have HO := Lib.hid hown
  have hsl : SlB (Value.int .i64) 3 (fun g => g < base ∧ g ≠ r ∧ g ≠ ob) wo K ks := HK.out.frm hst.frm (fun g hg e => by rcases e with e | e | e <;> omega)
  have hbz := hst.frm.size
  have HBZ := Lib.hid hbz
  clear hst hv hdl hbox hown hbz
  by_cases hlt : i < ks.length
  ·obtain ⟨b, o, rfl, -, hc⟩ := hsl.sl.at hlt
   have hkk := HKS.out _ (List.getElem_mem hlt)
   have hck := hc i hlt
   obtain ⟨x, hx⟩ : ∃ z, z = ks[i] := ⟨_, rfl⟩
   rw [← hx] at hkk hck
   have hdr : ks.drop i = x :: ks.drop (i + 1) := by rw [List.drop_eq_getElem_cons hlt, hx]
   have hv := HV.out
   rw [hdr] at hv
   unfold valsV at hv
   have hi0 : (0 : Int) ≤ (i : Int) := by omega
   have hi1 : (i : Int) < (ks.length : Int) := by omega
   have HLT := Lib.hid hlt
   have HKK := Lib.hid hkk
   clear hsl hc hdr hx hkk hlt
   cases hq : oneV x bs' with
   | none =>
     rw [hq] at hv
     have HNO : Hid (res = none) := Lib.hid hv
     have HC : Hid (∀ W, Rd F W r bs' → Calls Tryz.prog 167 #[.pointer (some ⟨r, 0, none⟩), .int .i64 x] W (RdNo r 30 W)) := Lib.hid fun W h => value_no h HKK.out hq
     clear hv hq
     go_upto_region 3 with fail
     refine AnyZ.start (S := (fun W => W.cell? ⟨ob, 0, none⟩ = some (.slice Ao done.length co))) (z := 1007) (by kernel_rfl) ?_ (fun hHeld => ?_)
     ·exact HBX.out.cell 0
     refine AnyZ.take (i := 0) (v := ?_) rfl (by kernel_rfl) (by kernel_rfl) (by kernel_rfl) (by kernel_rfl) (fun _ _ _ h => h) (Or.inl ⟨by kernel_rfl, ?_⟩) (by assumption) ?_
     rotate_left
     ·intro w hSw; (try dsimp only at hSw); go_simp; try with_reducible rfl
     try simp only [Act.put, List.getElem_toArray, List.getElem_cons_zero, List.setIfInBounds_toArray, List.set_cons_zero, List.set_cons_succ]
     refine AnyZ.take (i := 1) (v := ?_) rfl (by kernel_rfl) (by kernel_rfl) (by kernel_rfl) (by kernel_rfl) (fun _ _ _ h => h) (Or.inl ⟨by kernel_rfl, ?_⟩) (by assumption) ?_
     rotate_left
     ·intro w hSw; (try dsimp only at hSw); go_simp; try with_reducible rfl
     try simp only [Act.put, List.getElem_toArray, List.getElem_cons_succ, List.getElem_cons_zero, List.setIfInBounds_toArray, List.set_cons_zero, List.set_cons_succ]
     refine AnyZ.take (i := 2) (v := ?_) rfl (by kernel_rfl) (by kernel_rfl) (by kernel_rfl) (by kernel_rfl) (fun _ _ _ h => h) (Or.inl ⟨by kernel_rfl, ?_⟩) (by assumption) ?_
     rotate_left
     ·intro w hSw; (try dsimp only at hSw); go_simp; try with_reducible rfl
     try simp only [Act.put, List.getElem_toArray, List.getElem_cons_succ, List.getElem_cons_zero, List.setIfInBounds_toArray, List.set_cons_zero, List.set_cons_succ]
     refine AnyZ.ready (rs := [3]) (by kernel_rfl) (by simp) ?_
     refine AllZ.cons rfl (fun K hK => ?_) AllZ.nil
     go_simp
     (with_reducible refine (HC.out _ (HST.out.rd.below_ (Below.refl wo.heap.size wo).drew)).mono ?_); rintro e wz ⟨rfl, hfz⟩
     exact ⟨rfl, Gt2P.no HNO.out ((HST.out.frm.drew).trans (hfz.mono fun _ _ e => .inl e))⟩
   | some q =>
     obtain ⟨v, rest⟩ := q
     rw [hq] at hv
     simp only at hv
     have HV2 := Lib.hid hv
     have HC : Hid (∀ W, Rd F W r bs' → Calls Tryz.prog 167 #[.pointer (some ⟨r, 0, none⟩), .int .i64 x] W (ValOk F r v rest W)) := Lib.hid fun W h => value_yes h HKK.out hq
     clear hv hq
     go_upto_region 3 with fail
     refine AnyZ.start (S := (fun W => W.cell? ⟨ob, 0, none⟩ = some (.slice Ao done.length co))) (z := 6) (by kernel_rfl) ?_ (fun hHeld => ?_)
     ·exact HBX.out.cell 0
     refine AnyZ.take (i := 0) (v := ?_) rfl (by kernel_rfl) (by kernel_rfl) (by kernel_rfl) (by kernel_rfl) (fun _ _ _ h => h) (Or.inl ⟨by kernel_rfl, ?_⟩) (by assumption) ?_
     rotate_left
     ·intro w hSw; (try dsimp only at hSw); go_simp; try with_reducible rfl
     try simp only [Act.put, List.getElem_toArray, List.getElem_cons_zero, List.setIfInBounds_toArray, List.set_cons_zero, List.set_cons_succ]
     refine AnyZ.take (i := 1) (v := ?_) rfl (by kernel_rfl) (by kernel_rfl) (by kernel_rfl) (by kernel_rfl) (fun _ _ _ h => h) (Or.inl ⟨by kernel_rfl, ?_⟩) (by assumption) ?_
     rotate_left
     ·intro w hSw; (try dsimp only at hSw); go_simp; try with_reducible rfl
     try simp only [Act.put, List.getElem_toArray, List.getElem_cons_succ, List.getElem_cons_zero, List.setIfInBounds_toArray, List.set_cons_zero, List.set_cons_succ]
     refine AnyZ.take (i := 2) (v := ?_) rfl (by kernel_rfl) (by kernel_rfl) (by kernel_rfl) (by kernel_rfl) (fun _ _ _ h => h) (Or.inl ⟨by kernel_rfl, ?_⟩) (by assumption) ?_
     rotate_left
     ·intro w hSw; (try dsimp only at hSw); go_simp; try with_reducible rfl
     try simp only [Act.put, List.getElem_toArray, List.getElem_cons_succ, List.getElem_cons_zero, List.setIfInBounds_toArray, List.set_cons_zero, List.set_cons_succ]
     refine AnyZ.ready (rs := [3]) (by kernel_rfl) (by simp) ?_
     refine AllZ.cons rfl (fun K hK => ?_) AllZ.nil
     go_simp
     (with_reducible refine (HC.out _ (HST.out.rd.below_ (Below.refl wo.heap.size wo).drew)).mono ?_); rintro e w4 ⟨A4, c4, rfl, ho4, hr4, hf4⟩
     have HO4 := Lib.hid ho4
     have HR4 := Lib.hid hr4
     have HF4 := Lib.hid hf4
     have HBX4 := Lib.hid (HBX.out.drew.frm hf4 (fun e => HNE.out.1 e.symm))
     unfold pvC
     clear ho4 hr4 hf4
     refine hK.out _ _ ?_ (fun hHeld => ?_)
     ·exact HBX4.out.cell 0
     clear hK K
     try simp only [Act.put, List.getElem_toArray, List.getElem_cons_succ, List.getElem_cons_zero, List.setIfInBounds_toArray, List.set_cons_zero, List.set_cons_succ]
     refine AnyZ.ready (rs := [4]) (by kernel_rfl) (by simp) ?_
     refine AllZ.cons rfl (fun K hK => ?_) AllZ.nil
     go_simp
     refine hK.out _ _ ?_ (fun hHeld => ?_)
     ·exact (HBX4.out.alloc _).cell 0
     clear hK K
     try simp only [Act.put, List.getElem_toArray, List.getElem_cons_succ, List.getElem_cons_zero, List.setIfInBounds_toArray, List.set_cons_zero, List.set_cons_succ]
     refine AnyZ.ready (rs := [5]) (by kernel_rfl) (by simp) ?_
     refine AllZ.cons rfl (fun K hK => ?_) AllZ.nil
     have HO5 : Hid (OwnK 5 prN base 155 w4 (.slice Ao done.length co) done) := Lib.hid (ownKFrm (HO.out.drewN 1) HF4.out (fun g hg e => by have := HBB.out; omega))
     have HZ4 : Hid (base ≤ w4.heap.size) := Lib.hid (by have h1 := HBB.out; have h2 := HBZ.out; have h3 : wo.heap.size ≤ w4.heap.size := HF4.out.size; omega)
     refine step_appendK1at (f := prN) (v := .slice Ao done.length co) rfl _ _ _ rfl valT5 ⟨v, A4, c4⟩ rfl (prN_one _) rfl HO5.out rfl rfl rfl (by unfold maxLen; have := HDL.out; omega) (by have := HDL.out; omega) HZ4.out ?_
     intro v9 w9 hown9 hg9 hat9
     obtain ⟨A9, c9, rfl⟩ := hown9.form
     rw [show (done ++ [(⟨v, A4, c4⟩ : PR)]).length = done.length + 1 by simp] at hown9 ⊢
     have HBX9 := Lib.hid (blkG (HBX4.out.alloc _) (HO5.out.alloc _) HBB.out.2.1 hg9)
     have HO9 := Lib.hid hown9
     have HG9 := Lib.hid hg9
     have q0 : w9.cell? ⟨ob, 0, none⟩ = some (.slice Ao done.length co) := HBX9.out.cell 0
     have qf := HBX9.out.free 0
     clear hown9 hg9 hat9
     refine hK.out _ _ ?_ (fun hHeld => ?_)
     ·exact q0
     clear hK K
     try simp only [Act.put, List.getElem_toArray, List.getElem_cons_succ, List.getElem_cons_zero, List.setIfInBounds_toArray, List.set_cons_zero, List.set_cons_succ]
     refine AnyZ.ready (rs := [6]) (by kernel_rfl) (by simp) ?_
     refine AllZ.last rfl (by kernel_rfl) (fun K hK => ?_) AllZ.nil
     go_simp
     refine hK.out _ _ ?_
     clear hK K
     try simp only [Act.put, List.getElem_toArray, List.getElem_cons_succ, List.getElem_cons_zero, List.setIfInBounds_toArray, List.set_cons_zero, List.set_cons_succ]
     refine AnyZ.done (by kernel_rfl) ?_ _
     go_wp2_with fail
     obtain ⟨W, hW⟩ : ∃ z, z = w9.setCell ⟨ob, 0, none⟩ (.slice A9 (done.length + 1) c9) := ⟨_, rfl⟩
     have hset : Frm (fun g => g = ob) w9 W := by rw [hW]; exact (Frm.refl (fun g => g = ob) w9).setCell (p := ⟨ob, 0, none⟩) (fun _ => rfl) _
     have hfW : Frm (fun g => g = ob ∨ base ≤ g) w4 W := (((Frm.refl (fun g => g = ob ∨ base ≤ g) w4).alloc _).grown HG9.out (fun k hk _ => .inr (HO5.out.lt k hk).1)).trans (hset.mono fun _ _ e => .inl e)
     have hbW : Blk W ob 156 #[.slice A9 (done.length + 1) c9] := by rw [hW]; exact HBX9.out.set_ 0 _
     have hstW : GtS F r ob base w W (done ++ [⟨v, A4, c4⟩]) rest := by
      have hbb := HBB.out
      refine ⟨HR4.out.frmG hfW (by have := HNE.out.1; omega) (fun g hg e => by have := HF.out g hg; omega), ⟨_, hbW, ownKFrm HO9.out hset (fun g hg e => by omega)⟩, fun x hx => ?_, ?_⟩
      ·rcases List.mem_append.1 hx with hx | hx
       ·have h1 := (HST.out.ok x hx)
        have h2 : SlB fB 5 (fun g => base ≤ g) w4 x.A x.v.b := (h1.sl.drewN 1).frm HF4.out (fun g hg e => by omega)
        exact ⟨(slB_apart (h2.below ((Below.refl _ _).alloc (Nat.le_refl _) _)) (HO5.out.alloc _) (by decide) HG9.out).frm hset (fun g hg e => by omega), h1.len, h1.cap⟩
       ·rw [List.mem_singleton.1 hx]
        have h1 := (SlB.of_own HO4.out).2.mono (G := fun g => base ≤ g) (fun g _ hg => by have h2 := HBZ.out; have h3 : wo.heap.size ≤ g := hg; omega)
        exact ⟨(slB_apart (h1.below ((Below.refl _ _).alloc (Nat.le_refl _) _)) (HO5.out.alloc _) (by decide) HG9.out).frm hset (fun g hg e => by omega), HO4.out.cap.1, HO4.out.cap.2⟩
      ·exact ((HST.out.frm.drew).trans (HF4.out.mono fun _ _ e => .inl e)).trans (hfW.mono fun _ _ e => .inr e)
     have HSTW := Lib.hid hstW
     have hv9 : valsV ks bs = (valsV (ks.drop (i + 1)) rest).map fun x => ((done ++ [(⟨v, A4, c4⟩ : PR)]).map PR.v ++ x.1, x.2) := by
      rw [← HRES.out, HV2.out]
      cases valsV (ks.drop (i + 1)) rest with
      | none => rfl
      | some y => obtain ⟨ys, y2⟩ := y; simp
     have HV9 := Lib.hid hv9
     rw [← hW]
     clear hset hfW hbW hstW hv9 hW q0 qf
     go_roundw
     case rel => exact ⟨i + 1, done ++ [⟨v, A4, c4⟩], rest, HLT.out, by go_num, by rw [List.length_append, HDL.out]; rfl, HSTW.out, HV9⟩
     case measure => simp [RowKit.intOf]; have := HLT.out; omega
  ·have hie : i = ks.length := by omega
   have hv := HV.out
   rw [List.drop_of_length_le (by omega)] at hv
   have HV2 : Hid (res = some (done.map PR.v, bs')) := Lib.hid (by rw [hv]; simp [valsV])
   clear hv hsl
   go_wp2_with fail
   go_end0
   refine ⟨fun h => (by rw [HV2.out] at h; cases h), fun vs rest h => ?_⟩
   rw [HV2.out] at h
   injection h with h; injection h with h1 h2
   subst h1; subst h2
   exact ⟨rfl, done, rfl, HST.out⟩
def badK (n : Int) : Bool := decide (n < 1) || decide (4 < n)
theorem badK_any (n : Int) (W : World) : Calls Tryz.prog 164 #[.int .i64 n] W fun e w' => e = .returned (.bool (badK n)) ∧ W = w' := by
 obtain ⟨p, hp⟩ : ∃ p, p = decide (n < 1) := ⟨_, rfl⟩
 obtain ⟨q, hq⟩ : ∃ q, q = decide (4 < n) := ⟨_, rfl⟩
 have e : badK n = (p || q) := by unfold badK; rw [hp, hq]
 have t1 : decide (n < 1) = p := hp.symm
 have t2 : decide (4 < n) = q := hq.symm
 rw [e]
 clear hp hq e
 cases p <;> cases q <;>
 ·go_enter Tryz.func164, Tryz.ntmps164
  go_wp2_with fail
  go_ret
  exact ⟨rfl, rfl⟩
def BkRelK (ks : List Int) (w : World) (iv : Value) (wr : World) : Prop := ∃ k : Nat, k ≤ ks.length ∧ iv = .int .i64 k ∧ wr = w
theorem IndexFunc_kinds (A : Option Addr) (c : Nat) (ks : List Int) (w : World) (hs : Sl (Value.int .i64) w A ks) (hk : ∀ k ∈ ks, badK k = false) :
 Calls Tryz.prog 186 #[.slice A ks.length c, .func (.func 164) #[] #[]] w fun e w' => e = .returned (.int .i64 (-1)) ∧ w = w' := by
 have hl := hs.len
 have HK := Lib.hid hk
 clear hk
 go_enter Tryz.func186, Tryz.ntmps186
 go_wp2_with fail
 go_loopw [8] (fun i wr => BkRelK ks w i wr) (fun i _ => ks.length - (intOf i).toNat)
 case atStart => exact ⟨0, Nat.zero_le _, rfl, rfl⟩
 case round =>
  obtain ⟨k, hk, rfl, rfl⟩ := hrel
  by_cases hlt : k < ks.length
  ·obtain ⟨b, o, rfl, _, hc⟩ := hs.at hlt
   have hck := hc k hlt
   have hcall : ∀ W, Calls Tryz.prog 164 #[.int .i64 ks[k]] W fun e w' => e = .returned (.bool false) ∧ W = w' := fun W => by
    have := badK_any ks[k] W
    rw [HK.out _ (List.getElem_mem hlt)] at this
    exact this
   obtain ⟨x, hx⟩ : ∃ x, x = ks[k] := ⟨_, rfl⟩
   rw [← hx] at hck hcall
   have HCALL := Lib.hid hcall
   clear hcall hc hx
   go_wp2_with fail
   (with_reducible refine (HCALL.out _).mono ?_); rintro e w' ⟨rfl, rfl⟩
   go_wp2_with fail
   go_roundw
   case rel => exact ⟨k + 1, hlt, by go_num, rfl⟩
   case measure => simp [intOf]; omega
  ·go_wp2_with fail
   go_ret
   exact ⟨rfl, rfl⟩
theorem ContainsFunc_kinds (A : Option Addr) (c : Nat) (ks : List Int) (w : World) (hs : Sl (Value.int .i64) w A ks) (hk : ∀ k ∈ ks, badK k = false) :
 Calls Tryz.prog 163 #[.slice A ks.length c, .func (.func 164) #[] #[]] w fun e w' => e = .returned (.bool false) ∧ w = w' := by
 have HI := Lib.hid (IndexFunc_kinds A c ks w hs hk)
 clear hs hk
 go_enter Tryz.func163, Tryz.ntmps163
 go_wp2_with fail
 (with_reducible refine HI.out.mono ?_); rintro e w' ⟨rfl, rfl⟩
 go_wp2_with fail
 go_ret
 exact ⟨rfl, rfl⟩
def getV (ks : List Int) (p : List UInt8) : Option (List PV) := match valsV ks p with | some (vs, []) => some vs | _ => none
def GetP (base : Nat) (res : Option (List PV)) (w : World) (e : Ending) (w' : World) : Prop :=
 Below w.heap.size w w' ∧ (res = none → e = .returned (.tuple #[.slice none 0 0, .int .i64 30])) ∧
 ∀ vs, res = some vs → ∃ A c done, e = .returned (.tuple #[.slice A vs.length c, .int .i64 0]) ∧ OwnK 5 prN base 155 w' (.slice A vs.length c) done ∧ done.map PR.v = vs ∧ ∀ x ∈ done, PRok base w' x
theorem PRok.low {base base' : Nat} {W : World} {x : PR} (h : PRok base W x) (hb : base' ≤ base) : PRok base' W x := ⟨h.sl.mono fun _g _ hg => Nat.le_trans hb hg, h.len, h.cap⟩
def RvP (ob B base : Nat) (res : Option (List PV)) (w : World) (e : Ending) (w' : World) : Prop :=
 ∃ code : Int, e = .returned (.int .i64 code) ∧ Below B w w' ∧ (res = none → code = 30) ∧
 ∀ vs, res = some vs → code = 0 ∧ ∃ ov done, Blk w' ob 156 #[ov] ∧ OwnK 5 prN base 155 w' ov done ∧ done.map PR.v = vs ∧ ∀ x ∈ done, PRok base w' x
theorem getV_none {ks : List Int} {p : List UInt8} (h : valsV ks p = none) : getV ks p = none := by unfold getV; rw [h]
theorem getV_some {ks : List Int} {p : List UInt8} {vs : List PV} {rest : List UInt8} (h : valsV ks p = some (vs, rest)) : getV ks p = if rest = [] then some vs else none := by
 unfold getV; rw [h]
 cases rest with
 | nil => rfl
 | cons b r => rfl
theorem read_vals {w2 : World} {A K : Option Addr} {c kc b0 : Nat} {p : List UInt8} {ks : List Int} (hs : SlF (fun g => g < b0) w2 A p) (hc : p.length ≤ c) (hm : c ≤ maxLen) (hks : ∀ k ∈ ks, k = 1 ∨ k = 3) (hl : ks.length ≤ 1000) (hz : w2.heap.size = b0 + 2)
 (hkb : Blk w2 b0 87 #[.slice K ks.length kc]) (hk : SlB (Value.int .i64) 3 (fun g => g < b0) w2 K ks) (hob : Blk w2 (b0 + 1) 156 #[.slice none 0 0]) :
 Calls Tryz.prog 165 #[.slice A p.length c, .func (.func 166) #[] #[.pointer (some ⟨b0, 0, none⟩), .pointer (some ⟨b0 + 1, 0, none⟩)]] w2 (RvP (b0 + 1) b0 b0 (getV ks p) w2) := by
 have hrz : (rdW w2 A p.length c).heap.size = b0 + 4 := by rw [rdW_size, hz]
 have hbr := rdW_below w2 A p.length c
 have hrd : Rd (fun g => g < b0) (rdW w2 A p.length c) (w2.heap.size + 1) p := rdW_rd hs (by omega) hc hm
 have hcd := rdW_code w2 A p.length c
 have hkr : SlB (Value.int .i64) 3 (fun g => g < b0 + 4 ∧ g ≠ w2.heap.size + 1 ∧ g ≠ b0 + 1) (rdW w2 A p.length c) K ks := (hk.below hbr).mono (fun g _ hg => by omega)
 have hg2 := Get2_any (w := rdW w2 A p.length c) (base := b0 + 4) (ob := b0 + 1) (kb := b0) (K := K) (kc := kc) (ks := ks) hrd (hkb.below hbr (by omega)) hkr hks (hob.below hbr (by omega)) (by omega) (fun g hg => by omega) (by omega) hl
 have hcW : ∀ {W : World}, Frm (fun g => g = w2.heap.size + 1 ∨ g = b0 + 1 ∨ b0 + 4 ≤ g) (rdW w2 A p.length c) W → Blk W w2.heap.size 30 #[.int .i64 0] := fun h => hcd.frm h (by omega)
 have hfin : ∀ {W w' : World}, Frm (fun g => g = w2.heap.size + 1 ∨ g = b0 + 1 ∨ b0 + 4 ≤ g) (rdW w2 A p.length c) W → Frm (fun g => g = w2.heap.size) W w' → Below b0 w2 w' := fun {W w'} ha hb =>
  (hbr.mono (by omega)).trans ((ha.to_below (fun k _ hk e => by omega) (by omega)).trans (hb.to_below (fun k _ hk e => by omega) (by have := ha.size; omega)))
 cases hv : valsV ks p with
 | none =>
   refine (Read_no (_F := fun g => g < b0) hc hm 166 #[.pointer (some ⟨b0, 0, none⟩), .pointer (some ⟨b0 + 1, 0, none⟩)] (fun W => Frm (fun g => g = w2.heap.size + 1 ∨ g = b0 + 1 ∨ b0 + 4 ≤ g) (rdW w2 A p.length c) W)
    (Go.Proofs.enters_of Tryz.func166 (by kernel_rfl) rfl) 30 (hg2.mono fun e W hh => ?_)).mono fun e w' hh => ?_
   ·obtain ⟨h1, h2⟩ := hh.1 hv
    exact ⟨h1, hcW h2, h2⟩
   ·obtain ⟨he, W, h4, hf2, -⟩ := hh
    exact ⟨30, he, hfin h4 hf2, fun _ => rfl, fun vs h => by rw [getV_none hv] at h; cases h⟩
 | some q =>
   obtain ⟨vs, rest⟩ := q
   refine (Read_yes (rest := rest) hs hc hm 166 #[.pointer (some ⟨b0, 0, none⟩), .pointer (some ⟨b0 + 1, 0, none⟩)] (fun W => ∃ done, done.map PR.v = vs ∧ GtS (fun g => g < b0) (w2.heap.size + 1) (b0 + 1) (b0 + 4) (rdW w2 A p.length c) W done rest)
    (Go.Proofs.enters_of Tryz.func166 (by kernel_rfl) rfl) (hg2.mono fun e W hh => ?_) (if rest = [] then 0 else 30) rfl).mono fun e w' hh => ?_
   ·obtain ⟨h1, done, h2, h3⟩ := hh.2 vs rest hv
    exact ⟨h1, h3.rd, hcW h3.frm, done, h2, h3⟩
   ·obtain ⟨he, W, ⟨done, h2, h3⟩, hf2, -⟩ := hh
    refine ⟨_, he, hfin h3.frm hf2, fun h => ?_, fun vs' h => ?_⟩
    ·rw [getV_some hv] at h
     by_cases h0 : rest = []
     ·rw [if_pos h0] at h; cases h
     ·rw [if_neg h0]
    ·rw [getV_some hv] at h
     by_cases h0 : rest = []
     ·rw [if_pos h0] at h ⊢
      injection h with h; subst h
      obtain ⟨ov, hb, ho⟩ := h3.box
      refine ⟨rfl, ov, done, hb.frm hf2 (by omega), (ownKFrm ho hf2 (fun g hg e => by omega)).base_ (by omega), h2, fun x hx => (PRok.frm (h3.ok x hx) hf2 (fun g hg e => by omega)).low (by omega)⟩
     ·rw [if_neg h0] at h; cases h
set_option maxRecDepth 100000 in
set_option maxHeartbeats 4000000 in
theorem Get_any {w : World} {A : Option Addr} {c : Nat} {p : List UInt8} (hs : Sl fB w A p) (hc : p.length ≤ c) (hm : c ≤ maxLen) {K : Option Addr} {kc : Nat} {ks : List Int} {G : Nat → Prop} (hk : SlB (Value.int .i64) 3 G w K ks) (hks : ∀ k ∈ ks, k = 1 ∨ k = 3) (hl : ks.length ≤ 1000) :
 Calls Tryz.prog 129 #[.slice A p.length c, .slice K ks.length kc] w (GetP w.heap.size (getV ks p) w) := by
 obtain ⟨res, hres⟩ : ∃ z, z = getV ks p := ⟨_, rfl⟩
 rw [← hres]
 have hmf : ∀ (fn : Fn) (first cap : Array Value) (w : World), (Instr.makeFunc fn first cap).run Tryz.prog w = .ok (.func fn first cap) w := fun _ _ _ _ => rfl
 obtain ⟨w1, hw1⟩ : ∃ z, z = w.alloc (.cells #[.slice K ks.length kc] 87) := ⟨_, rfl⟩
 have hb1 : Below w.heap.size w w1 := by rw [hw1]; exact (Below.refl _ _).alloc (Nat.le_refl _) _
 have hkb : Blk w1 w.heap.size 87 #[.slice K ks.length kc] := by rw [hw1]; exact Blk.new_ w _ _
 have hz1 : w1.heap.size = w.heap.size + 1 := by rw [hw1, World.size_alloc]
 obtain ⟨w2, hw2⟩ : ∃ z, z = w1.alloc (.cells #[.slice none 0 0] 156) := ⟨_, rfl⟩
 have hb2 : Below w1.heap.size w1 w2 := by rw [hw2]; exact (Below.refl _ _).alloc (Nat.le_refl _) _
 have hob : Blk w2 (w.heap.size + 1) 156 #[.slice none 0 0] := by rw [hw2, ← hz1]; exact Blk.new_ w1 _ _
 have hz2 : w2.heap.size = w.heap.size + 2 := by rw [hw2, World.size_alloc, hz1]
 have hb12 : Below w.heap.size w w2 := hb1.trans (hb2.mono hb1.size)
 have hs2 : SlF (fun g => g < w.heap.size) w2 A p := (SlF.of_sl hs).below hb12
 have hbad : ∀ k ∈ ks, badK k = false := fun k h => by rcases hks k h with rfl | rfl <;> rfl
 have HCF := Lib.hid (ContainsFunc_kinds K kc ks w1 (hk.sl.below hb1) hbad)
 have hkc : SlB (Value.int .i64) 3 (fun g => g < w.heap.size) w2 K ks := hk.cutB.below hb12
 have HRV := Lib.hid (read_vals (kc := kc) hs2 hc hm hks hl hz2 (hkb.below hb2 hkb.lt) hkc hob)
 rw [← hres] at HRV
 have k0 : w1.cell? ⟨w.heap.size, 0, none⟩ = some (.slice K ks.length kc) := hkb.cell 0
 have HW1 := Lib.hid hw1
 have HW2 : Hid (w1.alloc (.cells #[.slice none 0 0] 156) = w2) := Lib.hid hw2.symm
 have HZ1 := Lib.hid hz1
 have HB12 := Lib.hid hb12
 clear hw1 hw2 hb1 hkb hz1 hb2 hob hz2 hb12 hs2 hbad hkc hres hs hk hks
 go_enter Tryz.func129, Tryz.ntmps129
 go_upto_region 1 with fail
 rw [← HW1.out]
 clear HW1
 go_wp2_with fail
 (with_reducible refine HCF.out.mono ?_); rintro e wx ⟨rfl, rfl⟩
 go_upto_region 4 with fail
 rw [HW2.out, HZ1.out]
 clear HW2 HZ1 k0 HCF
 go_wp2_with fail
 (with_reducible refine HRV.out.mono ?_); rintro e w3 ⟨code, rfl, hb3, hno, hyes⟩
 have HB3 : Hid (Below w.heap.size w w3) := Lib.hid (HB12.out.trans hb3)
 clear hb3 HRV HB12
 cases res with
 | none =>
   have h30 := hno rfl
   subst h30
   clear hno hyes
   go_wp2_with fail
   go_ret2
   exact ⟨HB3.out, fun _ => rfl, fun vs h => by cases h⟩
 | some vs =>
   obtain ⟨h0, ov, done, hb, ho, hd, hok⟩ := hyes vs rfl
   subst h0
   obtain ⟨A3, c3, rfl⟩ := ho.form
   have hdl : done.length = vs.length := by rw [← hd, List.length_map]
   rw [hdl] at hb ho
   have o0 : w3.cell? ⟨w.heap.size + 1, 0, none⟩ = some (.slice A3 vs.length c3) := hb.cell 0
   have HO := Lib.hid ho
   have HD := Lib.hid hd
   have HOK := Lib.hid hok
   clear hno hyes hb ho hd hok hdl
   go_wp2_with fail
   go_ret2
   refine ⟨HB3.out, fun h => (by cases h), fun vs' h => ?_⟩
   injection h with h; subst h
   exact ⟨A3, c3, done, rfl, HO.out, HD.out, HOK.out⟩
end Go.Proofs.YtifgajinfcihmaaGreatDoor
namespace Go.Proofs.YtifgajinfcihmaaGreatDoor
open Go Go.RowKit Go.Maps Go.Lib Mem Pk
namespace Pk
def pvB (v : PV) : List UInt8 := if v.k = 1 then numB v.n else numB v.b.length ++ v.b
def pvsB (xs : List PR) : List UInt8 := xs.flatMap fun x => pvB x.v
theorem pvsB_snoc (xs : List PR) (x : PR) : pvsB (xs ++ [x]) = pvsB xs ++ pvB x.v := by unfold pvsB; simp
theorem pvB_len {v : PV} (h : v.b.length ≤ 4096) : (pvB v).length ≤ 4106 := by
 unfold pvB
 split
 ·have := (numB_len v.n).2; omega
 ·have := (numB_len (v.b.length : Int)).2; rw [List.length_append]; omega
theorem pvsB_len : ∀ {xs : List PR}, (∀ x ∈ xs, x.v.b.length ≤ 4096) → (pvsB xs).length ≤ 4106 * xs.length
 | [], _ => by simp [pvsB]
 | x :: r, h => by
   have h1 := pvsB_len (xs := r) (fun y hy => h y (List.mem_cons_of_mem _ hy))
   have h2 := pvB_len (h x (by simp))
   have : pvsB (x :: r) = pvB x.v ++ pvsB r := by unfold pvsB; simp
   rw [this, List.length_append, List.length_cons]; omega
end Pk
structure PVok (G : Nat → Prop) (w : World) (x : PR) : Prop where
 kind : (x.v.k = 1 ∧ i64ok x.v.n) ∨ x.v.k = 3
 sl : ∃ te, SlB fB te G w x.A x.v.b
 len : x.v.b.length ≤ 4096
def PvRel (xs : List PR) (w : World) (ov iv : Value) (wr : World) : Prop :=
 ∃ k : Nat, k ≤ xs.length ∧ iv = .int .i64 k ∧ Mem.Own fB w.heap.size 5 wr ov (pvsB (xs.take k)) ∧ Below w.heap.size w wr
set_option maxRecDepth 100000 in
set_option maxHeartbeats 4000000 in
theorem Put_vals {F G : Nat → Prop} {w : World} (A : Option Addr) (c : Nat) (xs : List PR) (h : SlK 5 prN 155 F w A xs) (hl : xs.length ≤ 100000) (hn : ∀ x ∈ xs, PVok G w x) :
 Calls Tryz.prog 103 #[.slice A xs.length c] w (PutPost (pvsB xs) w) := by
 have H := Lib.hid h; clear h
 have HN := Lib.hid hn; clear hn
 have hst := fun (a : Addr) (r : Nat) (w : World) => run_store Tryz.prog w a (.float .f64 r) .plain rfl
 go_enter Tryz.func103, Tryz.ntmps103
 go_wp2_with fail
 go_loopw [4, 12] (fun ov iv wr => PvRel xs w ov iv wr) (fun _ iv _ => xs.length - (intOf iv).toNat)
 case atStart => exact ⟨0, Nat.zero_le _, rfl, Own.nil, Below.refl _ _⟩
 case round =>
  obtain ⟨k, hk, rfl, hown, hbw⟩ := hrel
  have HOWN := Lib.hid hown; clear hown
  have HBW := Lib.hid hbw; clear hbw
  by_cases hlt : k < xs.length
  ·obtain ⟨b, o, rfl, _, _, hc⟩ := (H.out.below HBW.out).at hlt
   obtain ⟨x, hxk⟩ : ∃ x, x = xs[k] := ⟨_, rfl⟩
   have HNS : Hid (pvsB (xs.take (k + 1)) = pvsB (xs.take k) ++ pvB x.v) := by show _ = _; rw [List.take_succ_eq_append_getElem hlt, pvsB_snoc, hxk]
   have hok : PVok G w x := by rw [hxk]; exact HN.out _ (List.getElem_mem hlt)
   have hML : (pvsB (xs.take k)).length ≤ 4106 * 100000 := by
    have := pvsB_len (xs := xs.take k) (fun y hy => (HN.out y (List.mem_of_mem_take hy)).len)
    rw [List.length_take] at this; omega
   rw [← hxk] at hc
   clear hxk
   obtain ⟨⟨vk, n, bs⟩, A', c'⟩ := x
   have c0 : wr.cell? ⟨b, o + k * 5, none⟩ = some (.int .i64 vk) := hc 0 (by decide)
   have c1 : wr.cell? ⟨b, o + k * 5 + 1, none⟩ = some (.int .i64 n) := hc 1 (by decide)
   have c2 : wr.cell? ⟨b, o + k * 5 + 2, none⟩ = some (.float .f64 0) := hc 2 (by decide)
   have c3 : wr.cell? ⟨b, o + k * 5 + 3, none⟩ = some (.slice A' bs.length c') := hc 3 (by decide)
   have c4 : wr.cell? ⟨b, o + k * 5 + 4, none⟩ = some (.bool false) := hc 4 (by decide)
   clear hc
   obtain ⟨M, hM⟩ : ∃ M, M = pvsB (xs.take k) := ⟨_, rfl⟩
   rw [← hM] at HOWN HNS hML
   clear hM
   have HOK := Lib.hid hok; clear hok
   have HML := Lib.hid hML; clear hML
   go_upto_region 5 with fail
   obtain ⟨w1, hw1⟩ : ∃ x, x = wr.alloc (.cells #[.int .i64 vk, .int .i64 n, .float .f64 0, .slice A' bs.length c', .bool false] 155) := ⟨_, rfl⟩
   rw [← hw1]
   have hx1 : Blk w1 wr.heap.size 155 #[.int .i64 vk, .int .i64 n, .float .f64 0, .slice A' bs.length c', .bool false] := by rw [hw1]; exact Blk.new_ wr _ _
   have hown1 := HOWN.out.alloc (.cells #[.int .i64 vk, .int .i64 n, .float .f64 0, .slice A' bs.length c', .bool false] 155)
   rw [← hw1] at hown1
   have HB1 : Hid (Below w.heap.size w w1) := by rw [hw1]; exact HBW.out.alloc HBW.out.size _
   clear hw1 c0 c1 c2 c3 c4
   have d0 : w1.cell? ⟨wr.heap.size, 0, none⟩ = some (.int .i64 vk) := hx1.cell 0
   have d1 : w1.cell? ⟨wr.heap.size, 1, none⟩ = some (.int .i64 n) := hx1.cell 1
   have d3 : w1.cell? ⟨wr.heap.size, 3, none⟩ = some (.slice A' bs.length c') := hx1.cell 3
   have HX1 := Lib.hid hx1
   have HO1 := Lib.hid hown1
   clear hx1 hown1
   rcases HOK.out.kind with ⟨e1, h2⟩ | e1
   ·replace e1 : vk = 1 := e1
    subst e1
    have HAP := Lib.hid (appendNum_keep HO1.out HB1.out.size n h2.1 h2.2 (by have := HML.out; omega))
    have HNS2 : Hid (pvsB (xs.take (k + 1)) = M ++ numB n) := Lib.hid (by rw [HNS.out]; rfl)
    clear h2
    go_wp2_with fail
    (with_reducible refine HAP.out.mono ?_); rintro e w2 ⟨v2, rfl, hown2, hb2, hk2⟩
    go_wp2_with fail
    go_roundw
    case rel => exact ⟨k + 1, hlt, by go_num, by rw [HNS2.out]; exact hown2, HB1.out.trans hb2⟩
    case measure => simp [intOf]; omega
   ·replace e1 : vk = 3 := e1
    subst e1
    have hbl : bs.length ≤ 4096 := HOK.out.len
    have hbl2 : ((bs.length : Int) > 4096) = False := by simp; omega
    have HNS2 : Hid (pvsB (xs.take (k + 1)) = (M ++ numB bs.length) ++ bs) := Lib.hid (by rw [HNS.out, List.append_assoc]; rfl)
    have hap := appendNum_keep (HO1.out.drewN 1) (show w.heap.size ≤ (w1.drewN 1).heap.size from HB1.out.size) (bs.length : Int) (by omega) (by omega) (by have := HML.out; omega)
    have HAP : Hid (Calls Tryz.prog 132 #[u4, .int .i64 (bs.length : Int)] w1.drew (AppPostK w.heap.size (M ++ numB bs.length) w1.drew)) := Lib.hid hap
    have HMN : Hid ((M ++ numB (bs.length : Int)).length ≤ 500000000) := Lib.hid (by have := HML.out; have := (numB_len (bs.length : Int)).2; rw [List.length_append]; omega)
    have HBL := Lib.hid hbl
    obtain ⟨te9, hsl9⟩ := HOK.out.sl
    have HSL : Hid (SlB fB te9 G w A' bs) := Lib.hid hsl9
    clear hsl9
    obtain ⟨M2, hM2⟩ : ∃ z, z = M ++ numB (bs.length : Int) := ⟨_, rfl⟩
    rw [← hM2] at HAP HMN HNS2
    clear hap hM2 hbl
    go_upto_region 18 with fail
    refine AnyZ.start (S := (fun W => W.cell? ⟨wr.heap.size, 3, none⟩ = some (.slice A' bs.length c'))) (z := 1009) (by kernel_rfl) ?_ (fun hHeld => ?_)
    ·exact d3
    refine AnyZ.take (i := 0) (v := ?_) rfl (by kernel_rfl) (by kernel_rfl) (by kernel_rfl) (by kernel_rfl) (fun _ _ _ h => h) (Or.inl ⟨by kernel_rfl, ?_⟩) (by assumption) ?_
    rotate_left
    ·intro w hSw; (try dsimp only at hSw); go_simp; try with_reducible rfl
    try simp only [Act.put, List.getElem_toArray, List.getElem_cons_zero, List.setIfInBounds_toArray, List.set_cons_zero, List.set_cons_succ]
    refine AnyZ.take (i := 1) (v := ?_) rfl (by kernel_rfl) (by kernel_rfl) (by kernel_rfl) (by kernel_rfl) (fun _ _ _ h => h) (Or.inl ⟨by kernel_rfl, ?_⟩) (by assumption) ?_
    rotate_left
    ·intro w hSw; (try dsimp only at hSw); go_simp; try with_reducible rfl
    try simp only [Act.put, List.getElem_toArray, List.getElem_cons_succ, List.getElem_cons_zero, List.setIfInBounds_toArray, List.set_cons_zero, List.set_cons_succ]
    refine AnyZ.take (i := 2) (v := ?_) rfl (by kernel_rfl) (by kernel_rfl) (by kernel_rfl) (by kernel_rfl) (fun _ _ _ h => h) (Or.inl ⟨by kernel_rfl, ?_⟩) (by assumption) ?_
    rotate_left
    ·intro w hSw; (try dsimp only at hSw); go_simp; try with_reducible rfl
    try simp only [Act.put, List.getElem_toArray, List.getElem_cons_succ, List.getElem_cons_zero, List.setIfInBounds_toArray, List.set_cons_zero, List.set_cons_succ]
    refine AnyZ.take (i := 3) (v := ?_) rfl (by kernel_rfl) (by kernel_rfl) (by kernel_rfl) (by kernel_rfl) (fun _ _ _ h => h) (Or.inl ⟨by kernel_rfl, ?_⟩) (by assumption) ?_
    rotate_left
    ·intro w hSw; (try dsimp only at hSw); go_simp; try with_reducible rfl
    try simp only [Act.put, List.getElem_toArray, List.getElem_cons_succ, List.getElem_cons_zero, List.setIfInBounds_toArray, List.set_cons_zero, List.set_cons_succ]
    refine AnyZ.take (i := 5) (v := ?_) rfl (by kernel_rfl) (by kernel_rfl) (by kernel_rfl) (by kernel_rfl) (fun _ _ _ h => h) (Or.inl ⟨by kernel_rfl, ?_⟩) (by assumption) ?_
    rotate_left
    ·intro w hSw; (try dsimp only at hSw); go_simp; try with_reducible rfl
    try simp only [Act.put, List.getElem_toArray, List.getElem_cons_succ, List.getElem_cons_zero, List.setIfInBounds_toArray, List.set_cons_zero, List.set_cons_succ]
    refine AnyZ.take (i := 6) (v := ?_) rfl (by kernel_rfl) (by kernel_rfl) (by kernel_rfl) (by kernel_rfl) (fun _ _ _ h => h) (Or.inl ⟨by kernel_rfl, ?_⟩) (by assumption) ?_
    rotate_left
    ·intro w hSw; (try dsimp only at hSw); go_simp; try with_reducible rfl
    try simp only [Act.put, List.getElem_toArray, List.getElem_cons_succ, List.getElem_cons_zero, List.setIfInBounds_toArray, List.set_cons_zero, List.set_cons_succ]
    refine AnyZ.ready (rs := [4]) (by kernel_rfl) (by simp) ?_
    refine AllZ.cons rfl (fun K hK => ?_) AllZ.nil
    go_simp
    (with_reducible refine HAP.out.mono ?_); rintro e w2 ⟨v2, rfl, hown2, hb2, hk2⟩
    have HO2 := Lib.hid hown2
    have HB2 : Hid (Below w.heap.size w w2) := Lib.hid ((HB1.out.drew).trans hb2)
    have HX2 := Lib.hid (hk2 _ _ _ (by decide) HX1.out.drew)
    clear hown2 hb2 hk2
    refine hK.out _ _ ?_ (fun hHeld => ?_)
    ·exact HX2.out.cell 3
    clear hK K
    try simp only [Act.put, List.getElem_toArray, List.getElem_cons_succ, List.getElem_cons_zero, List.setIfInBounds_toArray, List.set_cons_zero, List.set_cons_succ]
    refine AnyZ.ready (rs := [7]) (by kernel_rfl) (by simp) ?_
    refine AllZ.cons rfl (fun K hK => ?_) AllZ.nil
    refine step_appendXg (f := fB) (by rfl) _ _ 28 (by rfl) u8T (by rfl) HO2.out (by rfl) (HSL.out.below HB2.out).sl fB_one (by have h1 := HMN.out; have h2 := HBL.out; unfold maxLen; omega) (by have h1 := HMN.out; have h2 := HBL.out; omega) HB2.out.size ?_
    intro v7 w7 ho7 hb7
    have HO7 := Lib.hid ho7
    have HB7 := Lib.hid (HB2.out.trans (HO2.out.below_ HB2.out.size hb7))
    have HX7 := Lib.hid (HX2.out.apart HO2.out (by decide) hb7)
    clear ho7 hb7
    refine hK.out _ _ ?_ (fun hHeld => ?_)
    ·exact HX7.out.cell 3
    clear hK K
    try simp only [Act.put, List.getElem_toArray, List.getElem_cons_succ, List.getElem_cons_zero, List.setIfInBounds_toArray, List.set_cons_zero, List.set_cons_succ]
    refine AnyZ.take (i := 8) (v := ?_) rfl (by kernel_rfl) (by kernel_rfl) (by kernel_rfl) (by kernel_rfl) (fun _ _ _ h => h) (Or.inl ⟨by kernel_rfl, ?_⟩) (by assumption) ?_
    rotate_left
    ·intro w hSw; (try dsimp only at hSw); go_simp; try with_reducible rfl
    try simp only [Act.put, List.getElem_toArray, List.getElem_cons_succ, List.getElem_cons_zero, List.setIfInBounds_toArray, List.set_cons_zero, List.set_cons_succ]
    refine AnyZ.done (by kernel_rfl) ?_ _
    go_wp2_with fail
    go_roundw
    case rel => exact ⟨k + 1, hlt, by go_num, by rw [HNS2.out]; exact HO7.out, HB7.out⟩
    case measure => simp [intOf]; omega
  ·have hkn : k = xs.length := by omega
   have HO : Hid (Mem.Own fB w.heap.size 5 wr u4 (pvsB xs)) := by have h1 := HOWN.out; rw [hkn, List.take_length] at h1; exact h1
   clear HOWN hkn
   obtain ⟨A4, c4, rfl⟩ := HO.out.form
   go_wp2_with fail
   go_ret2
   exact ⟨A4, c4, rfl, HO.out, HBW.out⟩
end Go.Proofs.YtifgajinfcihmaaGreatDoor
