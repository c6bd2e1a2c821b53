/- Layer 6: what DropTo does to the memory. -/
import Derived.Test.YtifgajinfcihmaaGreatDoorJBd
import Derived.Test.YtifgajinfcihmaaGreatDoorJAt
namespace Go.Proofs.YtifgajinfcihmaaGreatDoor
open Go Go.RowKit Go.Maps Go.Lib Mem Pk Dsk Wl Go.Proofs.YtifgajinfcihmaaGreatDoor.Nm
section
variable {G R : Nat → Prop} {B p wb : Nat} {d : S} {SA EA : Option Addr} {sc ec : Nat} {x : SgM} {r : List SgM} {em : List EnM} {w : World}
theorem Wl0.behead (h : Wl0 G R B p wb d SA sc (x :: r) EA ec em w) {l : Nat} (hl : l ≤ em.length) :
 Wl0 G R B p wb d (partK SA sc 1 4) (sc - 1) r (partK EA ec l 4) (ec - l) (em.drop l) ((w.setCell ⟨wb, 1, none⟩ (.slice (partK SA sc 1 4) r.length (sc - 1))).setCell ⟨wb, 2, none⟩ (.slice (partK EA ec l 4) (em.length - l) (ec - l))) ∧
 Frm (fun g => R g ∨ g = wb) w ((w.setCell ⟨wb, 1, none⟩ (.slice (partK SA sc 1 4) r.length (sc - 1))).setCell ⟨wb, 2, none⟩ (.slice (partK EA ec l 4) (em.length - l) (ec - l))) := by
 have hf : Frm (fun g => g = wb) w ((w.setCell ⟨wb, 1, none⟩ (.slice (partK SA sc 1 4) r.length (sc - 1))).setCell ⟨wb, 2, none⟩ (.slice (partK EA ec l 4) (em.length - l) (ec - l))) :=
  ((Frm.refl (fun g => g = wb) w).setCell (p := ⟨wb, 1, none⟩) (fun _ => rfl) _).setCell (p := ⟨wb, 2, none⟩) (fun _ => rfl) _
 have hno : ∀ g, R g → ¬ (g = wb) := fun g hg => (h.own g hg).2.2
 have h1 := h.segs.cut 1 (by simp)
 rw [List.drop_succ_cons, List.drop_zero] at h1
 refine ⟨⟨(dx_grow h.dx hf (fun g hg => .inr hg)).weaken (fun g hg => .inl hg), ?_, h1.frm hf hno, (h.ents.cut l hl).frm hf hno, fun z hz => Mem.Rw.frm (h.sok z (List.mem_cons_of_mem _ hz)) hf hno, fun z hz => (h.eok z (List.mem_of_mem_drop hz)).frm hf hno, (List.pairwise_cons.1 h.apart).2, h.big, h.notG, h.own⟩, hf.mono (fun g _ hg => .inr hg)⟩
 rw [List.length_drop]
 exact (h.blk.set_ 1 _).set_ 2 _
end
end Go.Proofs.YtifgajinfcihmaaGreatDoor
namespace Go.Proofs.YtifgajinfcihmaaGreatDoor
open Go Go.RowKit Go.Maps Go.Lib Mem Pk Dsk Wl Go.Proofs.YtifgajinfcihmaaGreatDoor.Nm
section
variable {α β : Type} {k : Nat} {f : α → List Value} {g : β → List Value} {e : TypeId} {F : Nat → Prop} {w : World} {A : Option Addr} {c : Nat} {xs : List α} {ys : List β}
theorem Mem.Rw.same (h : Rw k f e F w A c xs) (hm : ys.map g = xs.map f) : Rw k g e F w A c ys := by
 have hl : ys.length = xs.length := by have := congrArg List.length hm; simpa using this
 refine ⟨by rw [hl]; exact h.1, h.2.1, h.2.2.imp id fun ⟨b, o, cur, a1, a2, a3, a4, a5⟩ => ⟨b, o, cur, a1, a2, a3, a4, fun j hj i hi => ?_⟩⟩
 have h9 : g ys[j] = f (xs[j]'(by omega)) := by
  have h8 : (ys.map g)[j]'(by rw [List.length_map]; exact hj) = (xs.map f)[j]'(by rw [List.length_map]; omega) := by simp only [hm]
  rw [List.getElem_map, List.getElem_map] at h8
  exact h8
 rw [h9]
 exact a5 j (by omega) i hi
theorem Mem.Rw.set2_ {b o j i1 i2 : Nat} (h : Rw k f e F w (some ⟨b, o, none⟩) c xs) (hf : ∀ x, (f x).length = k) (hj : j < xs.length) (h1 : i1 < k) (h2 : i2 < k) (u1 u2 : Value) {y : α} (hy : f y = ((f xs[j]).set i1 u1).set i2 u2) :
 Rw k f e F ((w.setCell ⟨b, o + j * k + i1, none⟩ u1).setCell ⟨b, o + j * k + i2, none⟩ u2) (some ⟨b, o, none⟩) c (xs.set j y) := by
 obtain ⟨vs, hvs⟩ : ∃ vs : List {l : List Value // l.length = k}, vs = xs.map (fun x => ⟨f x, hf x⟩) := ⟨_, rfl⟩
 have hv : Rw k (Subtype.val : {l : List Value // l.length = k} → List Value) e F w (some ⟨b, o, none⟩) c vs := h.same (by rw [hvs, List.map_map]; rfl)
 have hjv : j < vs.length := by rw [hvs, List.length_map]; exact hj
 have hvj : vs[j].val = f xs[j] := by simp only [hvs, List.getElem_map]
 have s1 := hv.set_ (j := j) (i := i1) (fun x => x.2) hjv h1 u1 (y := ⟨(f xs[j]).set i1 u1, by rw [List.length_set]; exact hf _⟩) (by rw [hvj])
 have s2 := s1.set_ (j := j) (i := i2) (fun x => x.2) (by rw [List.length_set]; exact hjv) h2 u2 (y := ⟨((f xs[j]).set i1 u1).set i2 u2, by rw [List.length_set, List.length_set]; exact hf _⟩) (by rw [List.getElem_set_self])
 refine s2.same ?_
 rw [List.map_set, List.map_set, List.map_set, List.set_set, hvs, List.map_map, hy]
 rfl
end
section
variable {G R : Nat → Prop} {B p wb : Nat} {d : S} {SA EA : Option Addr} {sc ec : Nat} {x : SgM} {pre : List SgM} {em : List EnM} {w : World}
theorem Wl0.chop (h : Wl0 G R B p wb d SA sc (pre ++ [x]) EA ec em w) {l : Nat} (hl : l ≤ em.length) :
 Wl0 G R B p wb d SA sc pre EA ec (em.take l) ((w.setCell ⟨wb, 1, none⟩ (.slice SA pre.length sc)).setCell ⟨wb, 2, none⟩ (.slice EA l ec)) ∧
 Frm (fun g => R g ∨ g = wb) w ((w.setCell ⟨wb, 1, none⟩ (.slice SA pre.length sc)).setCell ⟨wb, 2, none⟩ (.slice EA l ec)) := by
 have hf : Frm (fun g => g = wb) w ((w.setCell ⟨wb, 1, none⟩ (.slice SA pre.length sc)).setCell ⟨wb, 2, none⟩ (.slice EA l ec)) :=
  ((Frm.refl (fun g => g = wb) w).setCell (p := ⟨wb, 1, none⟩) (fun _ => rfl) _).setCell (p := ⟨wb, 2, none⟩) (fun _ => rfl) _
 have hno : ∀ g, R g → ¬ (g = wb) := fun g hg => (h.own g hg).2.2
 have h1 := h.segs.pre pre.length
 rw [List.take_left] at h1
 refine ⟨⟨(dx_grow h.dx hf (fun g hg => .inr hg)).weaken (fun g hg => .inl hg), ?_, h1.frm hf hno, (h.ents.pre l).frm hf hno, fun z hz => Mem.Rw.frm (h.sok z (List.mem_append_left _ hz)) hf hno, fun z hz => (h.eok z (List.mem_of_mem_take hz)).frm hf hno, (List.pairwise_append.1 h.apart).1, h.big, h.notG, h.own⟩, hf.mono (fun g _ hg => .inr hg)⟩
 rw [List.length_take, Nat.min_eq_left hl]
 exact (h.blk.set_ 1 _).set_ 2 _
theorem Wl0.cutTo {b o : Nat} (h : Wl0 G R B p wb d (some ⟨b, o, none⟩) sc (pre ++ [x]) EA ec em w) {k0 l : Nat} (hl : l ≤ em.length) {y : SgM} (hy : y = ⟨⟨x.s.ix, x.s.es.take k0, x.s.wet⟩, x.A, x.c⟩) {w1 : World}
 (hs : Rw 4 smC 97 R w1 (some ⟨b, o, none⟩) sc (pre ++ [y])) (hf : Frm (fun g => R g ∧ atA (some ⟨b, o, none⟩) g) w w1) :
 Wl0 G R B p wb d (some ⟨b, o, none⟩) sc (pre ++ [y]) EA ec (em.take l) (w1.setCell ⟨wb, 2, none⟩ (.slice EA l ec)) ∧ Frm (fun g => R g ∨ g = wb) w (w1.setCell ⟨wb, 2, none⟩ (.slice EA l ec)) := by
 have hfr : Frm (fun g => R g ∨ g = wb) w (w1.setCell ⟨wb, 2, none⟩ (.slice EA l ec)) := (hf.mono (fun g _ hg => .inl hg.1)).setCell (p := ⟨wb, 2, none⟩) (fun _ => .inr rfl) _
 have hb := h.blk.frmA h.segs (by decide) hf
 refine ⟨⟨(dx_grow h.dx hfr (fun g hg => hg.elim (fun h9 => .inl (.inr h9)) .inr)).weaken (fun g hg => .inl hg), ?_, hs.far hb (.inl (by decide)) 2 _, ((h.ents.frmA h.segs (by decide) hf).far hb (.inl (by decide)) 2 _).pre l, fun z hz => ?_, fun z hz => ((h.eok z (List.mem_of_mem_take hz)).frmA h.segs (by decide) hf).far hb (by decide) 2 _, ?_, h.big, h.notG, h.own⟩, hfr⟩
 ·rw [List.length_take, Nat.min_eq_left hl, show (pre ++ [y]).length = (pre ++ [x]).length by simp]
  exact hb.set_ 2 _
 ·rcases List.mem_append.1 hz with hz | hz
  ·exact Mem.Rw.far (Mem.Rw.frmA (h.sok z (List.mem_append_left _ hz)) h.segs (by decide) hf) hb (.inl (by decide)) 2 _
  ·rw [List.mem_singleton.1 hz, hy]
   have h9 : Rw 1 iC 3 R w x.A x.c (ats x.s.es) := h.sok x (by simp)
   have h8 := Mem.Rw.far (Mem.Rw.frmA (h9.pre k0) h.segs (by decide) hf) hb (.inl (by decide)) 2 (.slice EA l ec)
   rw [← ats_take] at h8
   exact h8
 ·have h9 := h.apart
  rw [List.pairwise_append] at h9 ⊢
  refine ⟨h9.1, by simp, fun z hz u hu => ?_⟩
  rw [List.mem_singleton.1 hu, hy]
  exact h9.2.2 z hz x (by simp)
theorem smC_cut {k0 : Nat} {x y : SgM} (hk : k0 ≤ x.s.es.length) (hy : y = ⟨⟨x.s.ix, x.s.es.take k0, x.s.wet⟩, x.A, x.c⟩) :
 smC y = ((smC x).set 1 (.slice x.A k0 x.c)).set 2 (.int .i64 ((recsB (x.s.es.take k0)).length : Int)) ∧ smC y = ((smC x).set 2 (.int .i64 ((recsB (x.s.es.take k0)).length : Int))).set 1 (.slice x.A k0 x.c) := by
 rw [hy]
 unfold smC sgB
 simp only [List.length_take, Nat.min_eq_left hk]
 exact ⟨rfl, rfl⟩
end
end Go.Proofs.YtifgajinfcihmaaGreatDoor
namespace Go.Proofs.YtifgajinfcihmaaGreatDoor
open Go Go.RowKit Go.Maps Go.Lib Mem Pk Dsk Wl Go.Proofs.YtifgajinfcihmaaGreatDoor.Nm
theorem cutHK {P : Program} {t e : TypeId} {k : Nat} (hu : P.underlying t = some (.slice e)) (hs : ∀ w, (sizeOf e).run P w = .ok k w) (A : Option Addr) (len cap h : Nat) (h2 : h ≤ cap) (w : World) :
 (Instr.slice t (.slice A len cap) none (some (.int .i64 (h : Int))) none).run P w = .ok (.slice A h cap) w := by
 have he : P.elem t = e := by simp [Program.elem, hu]
 have hu' : P.underlying t = some (.slice (P.elem t)) := by rw [he]; exact hu
 rw [run_slice_h w t A len cap hu' .i64 (h : Int) (by omega) (by omega), he, hs]
 show Result.ok (sliced A 0 (h : Int).toNat cap k) w = _
 simp only [sliced, Int.toNat_natCast, Nat.sub_zero, Nat.zero_mul]
 split
 ·rfl
 ·cases A with
  | none => rfl
  | some a => simp [Addr.add]
def entN (wb : Nat) (w : World) : Nat := match w.cell? ⟨wb, 2, none⟩ with
 | some (.slice _ n _) => n
 | _ => 0
theorem cut_fuel {n : Nat} {d : S} {ss : List Sg} {c : Int} (h : ss.length < n ∨ lastE (allE ss) < c) (hg : ss = []) : cutF n d ss c = (d, [], 0) := by
 subst hg
 cases n <;> rfl
theorem wfN2 {n : Nat} (h : n ≤ 4000000000) : (Lit.int .i64 (n : Int)).wf = true := by
 have e1 : IntKind.i64.min = -9223372036854775808 := rfl
 have e2 : IntKind.i64.max = 9223372036854775807 := rfl
 simp [Lit.wf, e1, e2]
 omega
theorem recsB_le : ∀ {es : List En}, allR es → (recsB es).length ≤ 2200 * es.length
 | [], _ => by simp [recsB]
 | e :: r, h => by
   have h1 := recB_le (h e (by simp))
   have h2 := recsB_le (es := r) (fun x hx => h x (List.mem_cons_of_mem _ hx))
   rw [recsB_cons, List.length_append, List.length_cons]; omega
theorem cutF_A {f : Nat} {d : S} {ps : List Sg} {s : Sg} {c : Int} (hl : ¬ lastE (allE (ps ++ [s])) < c) (hk : keepN s (lastE (allE (ps ++ [s]))) c = 0) :
 cutF (f + 1) d (ps ++ [s]) c = if (remove d (sgN s)).2 = 0 then cutF f (remove d (sgN s)).1 ps c else ((remove d (sgN s)).1, ps ++ [s], (remove d (sgN s)).2) := by
 have hgl : (ps ++ [s]).getLast? = some s := by simp
 rw [cutF, hgl]
 simp only
 rw [if_neg hl, if_pos hk, List.dropLast_concat]
theorem cutF_B {f k : Nat} {d : S} {ps : List Sg} {s : Sg} {c : Int} (hl : ¬ lastE (allE (ps ++ [s])) < c) (hk : keepN s (lastE (allE (ps ++ [s]))) c = k) (h0 : k ≠ 0) :
 cutF (f + 1) d (ps ++ [s]) c = if (Dsk.cut d (sgN s) ((recsB (s.es.take k)).length : Int)).2 = 0 then cutF f (Dsk.cut d (sgN s) ((recsB (s.es.take k)).length : Int)).1 (ps ++ [⟨s.ix, s.es.take k, s.wet⟩]) c else ((Dsk.cut d (sgN s) ((recsB (s.es.take k)).length : Int)).1, ps ++ [s], (Dsk.cut d (sgN s) ((recsB (s.es.take k)).length : Int)).2) := by
 have hgl : (ps ++ [s]).getLast? = some s := by simp
 rw [cutF, hgl]
 simp only
 rw [if_neg hl, hk, if_neg h0, List.dropLast_concat]
def CtRel (G : Nat → Prop) (B p wb : Nat) (c : Int) (res : S × List Sg × Nat) (w wr : World) : Prop :=
 ∃ (dk : S) (sk : List Sg) (n : Nat), WlAt G B p wb dk sk wr ∧ Hid (res = cutF n dk sk c) ∧ Hid (sk.length < n ∨ lastE (allE sk) < c) ∧ Hid (∃ j, chainS j sk) ∧ Hid ((allE sk).length ≤ 900000) ∧ Hid (Below B w wr ∧ Kept G w wr)
set_option maxRecDepth 100000 in
set_option maxHeartbeats 8000000 in
theorem wCut_any {G : Nat → Prop} {B p wb : Nat} {d : S} {ss : List Sg} {w : World} (h : WlAt G B p wb d ss w) (hch : ∃ j, chainS j ss) (hn : (allE ss).length ≤ 900000) (c : Int) :
 Calls Tryz.prog 26 #[.pointer (some ⟨wb, 0, none⟩), .int .i64 c] w (LdP G B p wb (cutW d ss c) w) := by
 obtain ⟨res, hres⟩ : ∃ z, z = cutW d ss c := ⟨_, rfl⟩
 rw [← hres]
 have HRES := Lib.hid hres
 have H := Lib.hid h
 have HCH := Lib.hid hch
 have HNN := Lib.hid hn
 clear h hch hres hn
 go_enter Tryz.func26, Tryz.ntmps26
 go_wp2_with fail
 go_loopw [] (fun wr => CtRel G B p wb c res w wr) (fun wr => entN wb wr)
 case atStart => exact ⟨d, ss, ss.length + 1, H.out, HRES, Lib.hid (.inl (Nat.lt_succ_self _)), HCH, HNN, Lib.hid ⟨Below.refl _ _, fun _ _ => rfl⟩⟩
 case round =>
  obtain ⟨dk, sk, fu, hat, HDR, HFU, HCK, HNK, HBJ⟩ := hrel
  have HAT := Lib.hid hat
  obtain ⟨R, SA, sc, sm, EA, ec, em, h0, hsm, hem⟩ := hat
  rcases snoc_or sm with hs0 | ⟨pre, x, hs0⟩
  ·subst hs0
   have hsk : sk = [] := by rw [← hsm]; rfl
   have HRS : Hid (res = (dk, [], 0)) := Lib.hid (by rw [HDR.out]; exact cut_fuel HFU.out hsk)
   have H0 := Lib.hid h0
   have HEM : Hid (em.map EnM.e = allE []) := Lib.hid (by rw [hem, hsk])
   have v1 : wr.cell? ⟨wb, 1, none⟩ = some (.slice SA 0 sc) := h0.blk.cell 1
   clear h0 hsm hem hsk
   go_wp2_with fail
   go_ret
   rw [HRS.out]
   exact ⟨rfl, ⟨_, _, _, _, _, _, _, H0.out, rfl, HEM.out⟩, HBJ.out.1, HBJ.out.2⟩
  ·subst hs0
   have hsk : sk = pre.map SgM.s ++ [x.s] := by rw [← hsm, List.map_append]; rfl
   obtain ⟨j, hj⟩ := HCK.out
   have hj2 := hj
   rw [hsk, chain_append] at hj2
   obtain ⟨hcp, hx1, hx2, hx3, hx4, -⟩ := hj2
   obtain ⟨hb1, hb2⟩ := seg_bounds hx2 (by rw [hx1]; exact hx3) hx4
   have hal : allE sk = allE (pre.map SgM.s) ++ x.s.es := by rw [hsk, allE_snoc]
   have hlp := List.length_pos_iff.2 hx2
   have hla : lastE (allE sk) = x.s.ix + x.s.es.length - 1 := by
    rw [last_follow (chain_follow hj).1 (by rw [hal]; simp [hx2]), hal, List.length_append, hx1]; omega
   have hml : em.length = (allE (pre.map SgM.s)).length + x.s.es.length := by
    have h9 := congrArg List.length hem; rw [List.length_map, hal, List.length_append] at h9; exact h9
   have hl1 := h0.segs.len0
   have hl2 := h0.ents.len0
   have hl3 : (ats x.s.es).length ≤ x.c := (h0.sok x (by simp)).1
   have hl4 : em.length ≤ ec := h0.ents.1
   have hl5 : (pre ++ [x]).length ≤ sc := h0.segs.1
   unfold maxLen at hl1 hl2
   rw [List.length_append, List.length_singleton] at hl1 hl5
   rw [ats_len] at hl3
   have HLAST := Lib.hid (wLast_any HAT.out)
   have v1 : wr.cell? ⟨wb, 1, none⟩ = some (.slice SA (pre.length + 1) sc) := by have h9 := h0.blk.cell 1; rw [List.length_append] at h9; exact h9
   obtain ⟨la, hlae⟩ : ∃ z, z = lastE (allE sk) := ⟨_, rfl⟩
   rw [← hlae] at hla HLAST
   obtain ⟨fi, hfi⟩ : ∃ z, z = x.s.ix := ⟨_, rfl⟩
   obtain ⟨l, hll⟩ : ∃ z, z = x.s.es.length := ⟨_, rfl⟩
   obtain ⟨pn, hpn⟩ : ∃ z, z = pre.length := ⟨_, rfl⟩
   obtain ⟨n, hn⟩ : ∃ z, z = pn + 1 := ⟨_, rfl⟩
   obtain ⟨m, hm⟩ : ∃ z, z = em.length := ⟨_, rfl⟩
   obtain ⟨m0, hm0⟩ : ∃ z, z = (allE (pre.map SgM.s)).length := ⟨_, rfl⟩
   rw [← hpn, ← hn] at v1 hl1 hl5
   rw [← hll, ← hm0, ← hm] at hml
   rw [← hfi, ← hll] at hla hb2
   rw [← hfi] at hb1
   rw [← hll] at hlp hl3
   rw [← hm] at hl2 hl4
   have H0 := Lib.hid h0
   have HSM := Lib.hid hsm
   have HEM := Lib.hid hem
   have HSK := Lib.hid hsk
   have HAL := Lib.hid hal
   have HXC : Hid (chainS j (pre.map SgM.s) ∧ x.s.ix = j + ((allE (pre.map SgM.s)).length : Int) ∧ Wl.follow x.s.ix x.s.es ∧ allR x.s.es) := Lib.hid ⟨hcp, hx1, by rw [hx1]; exact hx3, hx4⟩
   have HEQ : Hid (la = lastE (allE sk) ∧ fi = x.s.ix ∧ l = x.s.es.length ∧ pn = pre.length ∧ n = pn + 1 ∧ m = em.length ∧ m0 = (allE (pre.map SgM.s)).length) := Lib.hid ⟨hlae, hfi, hll, hpn, hn, hm, hm0⟩
   have HML := Lib.hid hml
   have HLA := Lib.hid hla
   have hn0 : 0 < n := by omega
   clear h0 hsm hem hsk hal hcp hx1 hx2 hx3 hx4 hlae hfi hll hpn hm hm0 hj hml hla
   go_wp2_with fail
   (with_reducible refine HLAST.out.mono ?_); rintro e' w2 ⟨rfl, mm, hw2⟩
   have hb2' : Below wr.heap.size wr w2 := by rw [hw2]; exact below_drewN (Below.refl _ _) mm
   have H2 := Lib.hid (H0.out.below hb2')
   have HAT2 := Lib.hid (HAT.out.below hb2')
   have HB2 : Hid (Below B w w2 ∧ Kept G w w2) := Lib.hid ⟨HBJ.out.1.trans (hb2'.mono H0.out.dx.le), fun g hg => (hb2'.block g (H0.out.oldG g hg)).trans (HBJ.out.2 g hg)⟩
   clear hw2 hb2' mm HLAST v1
   by_cases hge : c ≤ la
   ·have tg : decide (la ≥ c) = true := decide_eq_true hge
    obtain ⟨b, o, hSA, hsg⟩ := H2.out.segAt
    subst hSA
    obtain ⟨nm, hnm⟩ : ∃ z, z = nmWA x.s.ix := ⟨_, rfl⟩
    obtain ⟨sz, hsz⟩ : ∃ z, z = (sgB x.s).length := ⟨_, rfl⟩
    obtain ⟨wt, hwt⟩ : ∃ z, z = x.s.wet := ⟨_, rfl⟩
    obtain ⟨xc, hxc⟩ : ∃ z, z = x.c := ⟨_, rfl⟩
    obtain ⟨xA, hxA⟩ : ∃ z, z = x.A := ⟨_, rfl⟩
    rw [ats_len, ← hnm, ← hsz, ← hwt, ← hxc, ← hxA, ← HEQ.out.2.2.1, ← HEQ.out.2.2.2.1, ← HEQ.out.2.2.2.2.1, ← HEQ.out.2.2.2.2.2.1] at hsg
    have HSG := Lib.hid hsg
    have HE2 : Hid (nm = nmWA x.s.ix ∧ sz = (sgB x.s).length ∧ wt = x.s.wet ∧ xc = x.c ∧ xA = x.A) := Lib.hid ⟨hnm, hsz, hwt, hxc, hxA⟩
    rw [← hxc] at hl3
    have v1 := hsg.v1
    have hw : IntKind.i64.wrap ((n : Int) - 1) = (pn : Int) := by rw [IntKind.wrap_i64]; omega
    have hw2 : IntKind.i64.wrap (pn : Int) = (pn : Int) := by rw [IntKind.wrap_i64]; omega
    have hjn : (pn : Int) < (n : Int) := by omega
    have hj0 : (0 : Int) ≤ (pn : Int) := by omega
    clear hsg hnm hsz hwt hxc hxA hn
    go_upto_region 2 with fail
    refine AnyZ.start (S := (fun V => V.cell? ⟨wb, 1, none⟩ = some (.slice (some ⟨b, o, none⟩) n sc))) (z := 1012) (by kernel_rfl) ?_ (fun hHeld => ?_)
    ·exact v1
    refine AnyZ.take (i := 0) (v := ?_) rfl (by kernel_rfl) (by kernel_rfl) (by kernel_rfl) (by kernel_rfl) (fun _ _ _ h => h) (Or.inl ⟨by kernel_rfl, ?_⟩) (by assumption) ?_
    rotate_left
    ·intro w hSw; (try dsimp only at hSw); go_simp; try with_reducible rfl
    try simp only [Act.put, List.getElem_toArray, List.setIfInBounds_toArray]
    refine AnyZ.take (i := 1) (v := ?_) rfl (by kernel_rfl) (by kernel_rfl) (by kernel_rfl) (by kernel_rfl) (fun _ _ _ h => h) (Or.inl ⟨by kernel_rfl, ?_⟩) (by assumption) ?_
    rotate_left
    ·intro w hSw; (try dsimp only at hSw); go_simp; try with_reducible rfl
    try simp only [Act.put, List.getElem_toArray, List.getElem_cons_succ, List.getElem_cons_zero, List.setIfInBounds_toArray, List.set_cons_zero, List.set_cons_succ]
    refine AnyZ.take (i := 2) (v := ?_) rfl (by kernel_rfl) (by kernel_rfl) (by kernel_rfl) (by kernel_rfl) (fun _ _ _ h => h) (Or.inl ⟨by kernel_rfl, ?_⟩) (by assumption) ?_
    rotate_left
    ·intro w hSw; (try dsimp only at hSw); go_simp; try with_reducible rfl
    try simp only [Act.put, List.getElem_toArray, List.getElem_cons_succ, List.getElem_cons_zero, List.setIfInBounds_toArray, List.set_cons_zero, List.set_cons_succ]
    refine AnyZ.take (i := 3) (v := ?_) rfl (by kernel_rfl) (by kernel_rfl) (by kernel_rfl) (by kernel_rfl) (fun _ _ _ h => h) (Or.inl ⟨by kernel_rfl, ?_⟩) (by assumption) ?_
    rotate_left
    ·intro w hSw; (try dsimp only at hSw); go_simp; try with_reducible rfl
    try simp only [Act.put, List.getElem_toArray, List.getElem_cons_succ, List.getElem_cons_zero, List.setIfInBounds_toArray, List.set_cons_zero, List.set_cons_succ]
    refine AnyZ.take (i := 4) (v := ?_) rfl (by kernel_rfl) (by kernel_rfl) (by kernel_rfl) (by kernel_rfl) (fun _ _ _ h => h) (Or.inl ⟨by kernel_rfl, ?_⟩) (by assumption) ?_
    rotate_left
    ·intro w hSw; (try dsimp only at hSw); go_simp; try with_reducible rfl
    try simp only [Act.put, List.getElem_toArray, List.getElem_cons_succ, List.getElem_cons_zero, List.setIfInBounds_toArray, List.set_cons_zero, List.set_cons_succ]
    refine AnyZ.take (i := 5) (v := ?_) rfl (by kernel_rfl) (by kernel_rfl) (by kernel_rfl) (by kernel_rfl) (fun _ _ _ h => h) (Or.inl ⟨by kernel_rfl, ?_⟩) (by assumption) ?_
    rotate_left
    ·intro w hSw; (try dsimp only at hSw); go_simp; try with_reducible rfl
    try simp only [Act.put, List.getElem_toArray, List.getElem_cons_succ, List.getElem_cons_zero, List.setIfInBounds_toArray, List.set_cons_zero, List.set_cons_succ]
    refine AnyZ.take (i := 6) (v := ?_) rfl (by kernel_rfl) (by kernel_rfl) (by kernel_rfl) (by kernel_rfl) (fun _ _ _ h => h) (Or.inl ⟨by kernel_rfl, ?_⟩) (by assumption) ?_
    rotate_left
    ·intro w hSw; (try dsimp only at hSw); go_simp; try with_reducible rfl
    try simp only [Act.put, List.getElem_toArray, List.getElem_cons_succ, List.getElem_cons_zero, List.setIfInBounds_toArray, List.set_cons_zero, List.set_cons_succ]
    refine AnyZ.take (i := 7) (v := ?_) rfl (by kernel_rfl) (by kernel_rfl) (by kernel_rfl) (by kernel_rfl) (fun _ _ _ h => h) (Or.inl ⟨by kernel_rfl, ?_⟩) (by assumption) ?_
    rotate_left
    ·intro w hSw; (try dsimp only at hSw); go_simp; try with_reducible rfl
    try simp only [Act.put, List.getElem_toArray, List.getElem_cons_succ, List.getElem_cons_zero, List.setIfInBounds_toArray, List.set_cons_zero, List.set_cons_succ]
    refine AnyZ.take (i := 8) (v := ?_) rfl (by kernel_rfl) (by kernel_rfl) (by kernel_rfl) (by kernel_rfl) (fun _ _ _ h => h) (Or.inl ⟨by kernel_rfl, ?_⟩) (by assumption) ?_
    rotate_left
    ·intro w hSw; (try dsimp only at hSw); go_simp; try with_reducible rfl
    try simp only [Act.put, List.getElem_toArray, List.getElem_cons_succ, List.getElem_cons_zero, List.setIfInBounds_toArray, List.set_cons_zero, List.set_cons_succ]
    refine AnyZ.take (i := 9) (v := ?_) rfl (by kernel_rfl) (by kernel_rfl) (by kernel_rfl) (by kernel_rfl) (fun _ _ _ h => h) (Or.inl ⟨by kernel_rfl, ?_⟩) (by assumption) ?_
    rotate_left
    ·intro w hSw; (try dsimp only at hSw); go_simp; try with_reducible rfl
    try simp only [Act.put, List.getElem_toArray, List.getElem_cons_succ, List.getElem_cons_zero, List.setIfInBounds_toArray, List.set_cons_zero, List.set_cons_succ]
    refine AnyZ.take (i := 10) (v := ?_) rfl (by kernel_rfl) (by kernel_rfl) (by kernel_rfl) (by kernel_rfl) (fun _ _ _ h => h) (Or.inl ⟨by kernel_rfl, ?_⟩) (by assumption) ?_
    rotate_left
    ·intro w hSw; (try dsimp only at hSw); go_simp; try with_reducible rfl
    try simp only [Act.put, List.getElem_toArray, List.getElem_cons_succ, List.getElem_cons_zero, List.setIfInBounds_toArray, List.set_cons_zero, List.set_cons_succ]
    refine AnyZ.take (i := 11) (v := ?_) rfl (by kernel_rfl) (by kernel_rfl) (by kernel_rfl) (by kernel_rfl) (fun _ _ _ h => h) (Or.inl ⟨by kernel_rfl, ?_⟩) (by assumption) ?_
    rotate_left
    ·intro w hSw; (try dsimp only at hSw); go_simp; try with_reducible rfl
    try simp only [Act.put, List.getElem_toArray, List.getElem_cons_succ, List.getElem_cons_zero, List.setIfInBounds_toArray, List.set_cons_zero, List.set_cons_succ]
    refine AnyZ.done (by kernel_rfl) ?_ _
    skip
    clear v1
    have HLAST := Lib.hid (wLast_any (HAT2.out.below (show Below w2.heap.size w2 w2.drew.drew from below_drewN (Below.refl _ _) 2)))
    rw [← HEQ.out.1] at HLAST
    have e1 := HSG.out.e1
    have hw3 : IntKind.i64.wrap (la - (l : Int)) = fi - 1 := by have := HLA.out; rw [IntKind.wrap_i64]; omega
    have hw4 : IntKind.i64.wrap (fi - 1 + 1) = fi := by rw [IntKind.wrap_i64]; omega
    have hw5 : IntKind.i64.wrap fi = fi := by rw [IntKind.wrap_i64]; omega
    have hw6 : IntKind.i64.wrap (fi - 1) = fi - 1 := by rw [IntKind.wrap_i64]; omega
    go_upto_region 3 with fail
    refine AnyZ.start (S := (fun V => V.cell? ⟨b, o + pn * 4 + 1, none⟩ = some (.slice xA l xc))) (z := 1010) (by kernel_rfl) ?_ (fun hHeld => ?_)
    ·exact e1
    refine AnyZ.take (i := 0) (v := ?_) rfl (by kernel_rfl) (by kernel_rfl) (by kernel_rfl) (by kernel_rfl) (fun _ _ _ h => h) (Or.inl ⟨by kernel_rfl, ?_⟩) (by assumption) ?_
    rotate_left
    ·intro w hSw; (try dsimp only at hSw); go_simp; try with_reducible rfl
    try simp only [Act.put, List.getElem_toArray, List.getElem_cons_zero, List.setIfInBounds_toArray, List.set_cons_zero, List.set_cons_succ]
    refine AnyZ.take (i := 2) (v := ?_) rfl (by kernel_rfl) (by kernel_rfl) (by kernel_rfl) (by kernel_rfl) (fun _ _ _ h => h) (Or.inl ⟨by kernel_rfl, ?_⟩) (by assumption) ?_
    rotate_left
    ·intro w hSw; (try dsimp only at hSw); go_simp; try with_reducible rfl
    try simp only [Act.put, List.getElem_toArray, List.getElem_cons_succ, List.getElem_cons_zero, List.setIfInBounds_toArray, List.set_cons_zero, List.set_cons_succ]
    refine AnyZ.take (i := 3) (v := ?_) rfl (by kernel_rfl) (by kernel_rfl) (by kernel_rfl) (by kernel_rfl) (fun _ _ _ h => h) (Or.inl ⟨by kernel_rfl, ?_⟩) (by assumption) ?_
    rotate_left
    ·intro w hSw; (try dsimp only at hSw); go_simp; try with_reducible rfl
    try simp only [Act.put, List.getElem_toArray, List.getElem_cons_succ, List.getElem_cons_zero, List.setIfInBounds_toArray, List.set_cons_zero, List.set_cons_succ]
    refine AnyZ.take (i := 4) (v := ?_) rfl (by kernel_rfl) (by kernel_rfl) (by kernel_rfl) (by kernel_rfl) (fun _ _ _ h => h) (Or.inl ⟨by kernel_rfl, ?_⟩) (by assumption) ?_
    rotate_left
    ·intro w hSw; (try dsimp only at hSw); go_simp; try with_reducible rfl
    try simp only [Act.put, List.getElem_toArray, List.getElem_cons_succ, List.getElem_cons_zero, List.setIfInBounds_toArray, List.set_cons_zero, List.set_cons_succ]
    refine AnyZ.take (i := 5) (v := ?_) rfl (by kernel_rfl) (by kernel_rfl) (by kernel_rfl) (by kernel_rfl) (fun _ _ _ h => h) (Or.inl ⟨by kernel_rfl, ?_⟩) (by assumption) ?_
    rotate_left
    ·intro w hSw; (try dsimp only at hSw); go_simp; try with_reducible rfl
    try simp only [Act.put, List.getElem_toArray, List.getElem_cons_succ, List.getElem_cons_zero, List.setIfInBounds_toArray, List.set_cons_zero, List.set_cons_succ]
    refine AnyZ.take (i := 6) (v := ?_) rfl (by kernel_rfl) (by kernel_rfl) (by kernel_rfl) (by kernel_rfl) (fun _ _ _ h => h) (Or.inl ⟨by kernel_rfl, ?_⟩) (by assumption) ?_
    rotate_left
    ·intro w hSw; (try dsimp only at hSw); go_simp; try with_reducible rfl
    try simp only [Act.put, List.getElem_toArray, List.getElem_cons_succ, List.getElem_cons_zero, List.setIfInBounds_toArray, List.set_cons_zero, List.set_cons_succ]
    refine AnyZ.ready (rs := [1]) (by kernel_rfl) (by simp) ?_
    refine AllZ.cons rfl (fun K hK => ?_) AllZ.nil
    go_simp
    (with_reducible refine (HLAST.out).mono ?_); rintro e' w3 ⟨rfl, mm, hw3⟩
    have e1 : w3.cell? ⟨b, o + pn * 4 + 1, none⟩ = some (.slice xA l xc) := by rw [hw3]; exact HSG.out.e1
    have HW3 : Hid (∃ k, w3 = w2.drewN k) := Lib.hid ⟨2 + mm, by rw [hw3]; exact World.drewN_drewN w2 2 mm⟩
    clear hw3
    refine hK.out _ _ ?_ (fun hHeld => ?_)
    ·exact e1
    clear hK K
    try simp only [Act.put, List.getElem_toArray, List.getElem_cons_succ, List.getElem_cons_zero, List.setIfInBounds_toArray, List.set_cons_zero, List.set_cons_succ]
    refine AnyZ.take (i := 7) (v := ?_) rfl (by kernel_rfl) (by kernel_rfl) (by kernel_rfl) (by kernel_rfl) (fun _ _ _ h => h) (Or.inl ⟨by kernel_rfl, ?_⟩) (by assumption) ?_
    rotate_left
    ·intro w hSw; (try dsimp only at hSw); go_simp; try with_reducible rfl
    try simp only [Act.put, List.getElem_toArray, List.getElem_cons_succ, List.getElem_cons_zero, List.setIfInBounds_toArray, List.set_cons_zero, List.set_cons_succ]
    refine AnyZ.take (i := 8) (v := ?_) rfl (by kernel_rfl) (by kernel_rfl) (by kernel_rfl) (by kernel_rfl) (fun _ _ _ h => h) (Or.inl ⟨by kernel_rfl, ?_⟩) (by assumption) ?_
    rotate_left
    ·intro w hSw; (try dsimp only at hSw); go_simp; try with_reducible rfl
    try simp only [Act.put, List.getElem_toArray, List.getElem_cons_succ, List.getElem_cons_zero, List.setIfInBounds_toArray, List.set_cons_zero, List.set_cons_succ]
    refine AnyZ.take (i := 9) (v := ?_) rfl (by kernel_rfl) (by kernel_rfl) (by kernel_rfl) (by kernel_rfl) (fun _ _ _ h => h) (Or.inl ⟨by kernel_rfl, ?_⟩) (by assumption) ?_
    rotate_left
    ·intro w hSw; (try dsimp only at hSw); go_simp; try with_reducible rfl
    try simp only [Act.put, List.getElem_toArray, List.getElem_cons_succ, List.getElem_cons_zero, List.setIfInBounds_toArray, List.set_cons_zero, List.set_cons_succ]
    refine AnyZ.done (by kernel_rfl) ?_ _
    skip
    clear HLAST hHeld
    have hb3 : Below w2.heap.size w2 w3 := by obtain ⟨k, hk⟩ := HW3.out; rw [hk]; exact below_drewN (Below.refl _ _) k
    have H3 := Lib.hid (H2.out.below hb3)
    have HB3 : Hid (Below B w w3 ∧ Kept G w w3) := Lib.hid ⟨HB2.out.1.trans (hb3.mono H2.out.dx.le), fun g hg => (hb3.block g (H2.out.oldG g hg)).trans (HB2.out.2 g hg)⟩
    clear hb3 HW3 HSG H2 HAT2 HB2 e1 tg
    obtain ⟨f, hf⟩ : ∃ f, fu = f + 1 := by
     rcases HFU.out with h9 | h9
     ·exact ⟨fu - 1, by omega⟩
     ·rw [← HEQ.out.1] at h9; omega
    have HFE := Lib.hid hf
    have HLE : Hid (¬ lastE (allE (pre.map SgM.s ++ [x.s])) < c) := Lib.hid (by rw [← HSK.out, ← HEQ.out.1]; omega)
    have HKP : Hid (keepN x.s (lastE (allE (pre.map SgM.s ++ [x.s]))) c = (c - fi).toNat) := Lib.hid (by
     rw [← HSK.out, ← HEQ.out.1]
     unfold keepN
     have := HLA.out
     rw [← HEQ.out.2.2.1]
     congr 1; omega)
    have hwl : IntKind.i64.wrap (l : Int) = (l : Int) := by rw [IntKind.wrap_i64]; omega
    have hbd : Below w3.heap.size w3 w3.drew := below_drewN (Below.refl _ _) 1
    have HWD := Lib.hid (H3.out.below hbd)
    have HBD : Hid (Below B w w3.drew ∧ Kept G w w3.drew) := Lib.hid ⟨HB3.out.1.trans (hbd.mono H3.out.dx.le), fun g hg => (hbd.block g (H3.out.oldG g hg)).trans (HB3.out.2 g hg)⟩
    obtain ⟨b3, o3, hS3, hsg3⟩ := H3.out.segAt
    injection hS3 with hS3; injection hS3 with hS3 hS4; subst hS3; subst hS4
    rw [ats_len, ← HE2.out.1, ← HE2.out.2.1, ← HE2.out.2.2.1, ← HE2.out.2.2.2.1, ← HE2.out.2.2.2.2, ← HEQ.out.2.2.1, ← HEQ.out.2.2.2.1, ← HEQ.out.2.2.2.2.1, ← HEQ.out.2.2.2.2.2.1] at hsg3
    have e0 := hsg3.e0
    have e1 := hsg3.e1
    have v0 := hsg3.v0
    have hcS : ∀ V, (Instr.slice 90 (.slice (some ⟨b, o, none⟩) n sc) none (some (.int .i64 (pn : Int))) none).run Tryz.prog V = .ok (.slice (some ⟨b, o, none⟩) pn sc) V := fun V =>
     cutHK (P := Tryz.prog) (k := 4) Tryz.underlying90 (by intro w; kernel_rfl) (some ⟨b, o, none⟩) n sc pn (by omega) V
    have HMM : Hid (em.map EnM.e = allE (pre.map SgM.s) ++ x.s.es) := Lib.hid (by rw [HEM.out, HAL.out])
    clear hbd hsg3 hf hge
    by_cases hgf : fi < c
    ·have t5 : decide (c > fi) = true := decide_eq_true hgf
     obtain ⟨kk, hkk⟩ : ∃ kk : Nat, (kk : Int) = c - fi := ⟨(c - fi).toNat, by omega⟩
     have hk1 : 0 < kk := by omega
     have hkl : kk < l := by have := HLE.out; rw [← HSK.out, ← HEQ.out.1] at this; have := HLA.out; omega
     have hw7 : IntKind.i64.wrap (c - fi) = (kk : Int) := by rw [IntKind.wrap_i64]; omega
     obtain ⟨g9, hg9⟩ : ∃ z, z = l - kk := ⟨_, rfl⟩
     have hw8 : IntKind.i64.wrap ((l : Int) - (kk : Int)) = (g9 : Int) := by rw [IntKind.wrap_i64]; omega
     have t8 : ((kk : Int) == 0) = false := by rw [beq_eq_false_iff_ne]; omega
     obtain ⟨z9, hz9⟩ : ∃ z, z = (recsB (x.s.es.take kk)).length := ⟨_, rfl⟩
     have hzl : z9 ≤ 4000000000 := by
      have h9 : allR (x.s.es.take kk) := fun e he => HXC.out.2.2.2 e (List.mem_of_mem_take he)
      have h8 := recsB_le h9
      have h7 := HNK.out
      rw [HAL.out, List.length_append] at h7
      rw [List.length_take] at h8
      omega
     obtain ⟨⟨d2, k2⟩, hrm⟩ : ∃ z, z = Dsk.cut dk (sgN x.s) (z9 : Int) := ⟨_, rfl⟩
     have HRM := Lib.hid (X_Cut (s' := d2) (k := k2) HWD.out.dx nm (by rw [HE2.out.1]; unfold nmWA; simp [ByteArray.size, nmOf_len]; unfold maxLen; decide) (z9 : Int) (wfN2 hzl) (by rw [HE2.out.1, sname_nmWA]; exact hrm.symm) (ki := (k2 : Int)) rfl)
     obtain ⟨y, hy⟩ : ∃ y : SgM, y = ⟨⟨x.s.ix, x.s.es.take kk, x.s.wet⟩, x.A, x.c⟩ := ⟨_, rfl⟩
     have HR2 : Hid (res = if k2 = 0 then cutF f d2 (pre.map SgM.s ++ [y.s]) c else (d2, sk, k2)) := Lib.hid (by
      rw [HDR.out, HFE.out, HSK.out, cutF_B (k := kk) HLE.out (by rw [HKP.out]; omega) (by omega), ← hz9, ← hrm, hy])
     obtain ⟨m1, hm1⟩ : ∃ z, z = m - g9 := ⟨_, rfl⟩
     have hwm : IntKind.i64.wrap ((m : Int) - (g9 : Int)) = (m1 : Int) := by have := HML.out; rw [IntKind.wrap_i64]; omega
     have hcE : ∀ V, (Instr.slice 37 (.slice EA m ec) none (some (.int .i64 (m1 : Int))) none).run Tryz.prog V = .ok (.slice EA m1 ec) V := fun V =>
      cutHK (P := Tryz.prog) (k := 4) Tryz.underlying37 (by intro w; kernel_rfl) EA m ec m1 (by omega) V
     have hrow : Rw 1 iC 3 R w3 x.A x.c (ats x.s.es) := H3.out.sok x (by simp)
     obtain ⟨ab, ao, hxA, hRa, -, -, hca⟩ := hrow.at (j := kk) (by rw [ats_len, ← HEQ.out.2.2.1]; exact hkl)
     rw [← HE2.out.2.2.2.2] at hxA
     subst hxA
     have ya : w3.cell? ⟨ab, ao + kk, none⟩ = some (.int .i64 (z9 : Int)) := by
      have h9 := hca 0 (by decide)
      rw [ats_get, Nat.mul_one, Nat.add_zero, ← hz9] at h9; exact h9
     have HCY : Hid (∀ W, Wl0 G R B p wb d2 (some ⟨b, o, none⟩) sc (pre ++ [x]) EA ec em W → W.cell? ⟨ab, ao + kk, none⟩ = some (.int .i64 (z9 : Int)) ∧ ab ≠ b) := Lib.hid (fun W hW => by
      have hr9 : Rw 1 iC 3 R W x.A x.c (ats x.s.es) := hW.sok x (by simp)
      obtain ⟨b9, o9, q1, -, -, -, q2⟩ := hr9.at (j := kk) (by rw [ats_len, ← HEQ.out.2.2.1]; exact hkl)
      have q3 := HE2.out.2.2.2.2
      rw [q1] at q3; injection q3 with q3; injection q3 with q3 q4
      subst q3; subst q4
      refine ⟨?_, fun e9 => ?_⟩
      ·have h9 := q2 0 (by decide)
       rw [ats_get, Nat.mul_one, Nat.add_zero, ← hz9] at h9; exact h9
      ·obtain ⟨c8, h8⟩ := hr9.typ (g := ab) ⟨ao, none, q1⟩
       obtain ⟨c7, h7⟩ := hW.segs.typ (g := b) ⟨o, none, rfl⟩
       rw [e9] at h8
       exact absurd (blk_type h8 h7) (by decide))
     have hcA : ∀ V, (Instr.slice 87 (.slice (some ⟨ab, ao, none⟩) l xc) none (some (.int .i64 (kk : Int))) none).run Tryz.prog V = .ok (.slice (some ⟨ab, ao, none⟩) kk xc) V := fun V =>
      cutHK (P := Tryz.prog) (k := 1) Tryz.underlying87 (by intro w; kernel_rfl) (some ⟨ab, ao, none⟩) l xc kk (by omega) V
     have HM1 : Hid (m1 = m0 + kk ∧ kk < l ∧ m1 < m ∧ z9 = (recsB (x.s.es.take kk)).length ∧ (kk : Int) = c - fi ∧ 0 < kk) := Lib.hid ⟨by have := HML.out; omega, hkl, by have := HML.out; omega, hz9, hkk, hk1⟩
     have HY := Lib.hid hy
     have hkk0 : (0 : Int) ≤ (kk : Int) := by omega
     have hkk1 : (kk : Int) < (l : Int) := by omega
     clear hgf hrm hm1 hkk hg9 hz9 hrow hca hy hzl hw hw2 hjn hj0
     go_upto_region 13 with fail
     refine AnyZ.start (S := (fun V => V.cell? ⟨wb, 0, none⟩ = some (.pointer (some ⟨p, 0, none⟩)) ∧ V.cell? ⟨b, o + pn * 4, none⟩ = some (.string nm) ∧ V.cell? ⟨b, o + pn * 4 + 1, none⟩ = some (.slice (some ⟨ab, ao, none⟩) l xc) ∧ V.cell? ⟨ab, ao + kk, none⟩ = some (.int .i64 (z9 : Int)))) (z := 1017) (by kernel_rfl) ?_ (fun hHeld => ?_)
     ·exact ⟨v0, e0, e1, ya⟩
     refine AnyZ.take (i := 0) (v := ?_) rfl (by kernel_rfl) (by kernel_rfl) (by kernel_rfl) (by kernel_rfl) (fun _ _ _ h => h) (Or.inl ⟨by kernel_rfl, ?_⟩) (by assumption) ?_
     rotate_left
     ·intro w hSw; (try dsimp only at hSw); go_simp; try with_reducible rfl
     try simp only [Act.put, List.getElem_toArray, List.getElem_cons_zero, List.setIfInBounds_toArray, List.set_cons_zero, List.set_cons_succ]
     refine AnyZ.take (i := 1) (v := ?_) rfl (by kernel_rfl) (by kernel_rfl) (by kernel_rfl) (by kernel_rfl) (fun _ _ _ h => h) (Or.inl ⟨by kernel_rfl, ?_⟩) (by assumption) ?_
     rotate_left
     ·intro w hSw; (try dsimp only at hSw); go_simp; try with_reducible rfl
     try simp only [Act.put, List.getElem_toArray, List.getElem_cons_succ, List.getElem_cons_zero, List.setIfInBounds_toArray, List.set_cons_zero, List.set_cons_succ]
     refine AnyZ.take (i := 2) (v := ?_) rfl (by kernel_rfl) (by kernel_rfl) (by kernel_rfl) (by kernel_rfl) (fun _ _ _ h => h) (Or.inl ⟨by kernel_rfl, ?_⟩) (by assumption) ?_
     rotate_left
     ·intro w hSw; (try dsimp only at hSw); go_simp; try with_reducible rfl
     try simp only [Act.put, List.getElem_toArray, List.getElem_cons_succ, List.getElem_cons_zero, List.setIfInBounds_toArray, List.set_cons_zero, List.set_cons_succ]
     refine AnyZ.take (i := 3) (v := ?_) rfl (by kernel_rfl) (by kernel_rfl) (by kernel_rfl) (by kernel_rfl) (fun _ _ _ h => h) (Or.inl ⟨by kernel_rfl, ?_⟩) (by assumption) ?_
     rotate_left
     ·intro w hSw; (try dsimp only at hSw); go_simp; try with_reducible rfl
     try simp only [Act.put, List.getElem_toArray, List.getElem_cons_succ, List.getElem_cons_zero, List.setIfInBounds_toArray, List.set_cons_zero, List.set_cons_succ]
     refine AnyZ.take (i := 4) (v := ?_) rfl (by kernel_rfl) (by kernel_rfl) (by kernel_rfl) (by kernel_rfl) (fun _ _ _ h => h) (Or.inl ⟨by kernel_rfl, ?_⟩) (by assumption) ?_
     rotate_left
     ·intro w hSw; (try dsimp only at hSw); go_simp; try with_reducible rfl
     try simp only [Act.put, List.getElem_toArray, List.getElem_cons_succ, List.getElem_cons_zero, List.setIfInBounds_toArray, List.set_cons_zero, List.set_cons_succ]
     refine AnyZ.take (i := 5) (v := ?_) rfl (by kernel_rfl) (by kernel_rfl) (by kernel_rfl) (by kernel_rfl) (fun _ _ _ h => h) (Or.inl ⟨by kernel_rfl, ?_⟩) (by assumption) ?_
     rotate_left
     ·intro w hSw; (try dsimp only at hSw); go_simp; try with_reducible rfl
     try simp only [Act.put, List.getElem_toArray, List.getElem_cons_succ, List.getElem_cons_zero, List.setIfInBounds_toArray, List.set_cons_zero, List.set_cons_succ]
     refine AnyZ.take (i := 6) (v := ?_) rfl (by kernel_rfl) (by kernel_rfl) (by kernel_rfl) (by kernel_rfl) (fun _ _ _ h => h) (Or.inl ⟨by kernel_rfl, ?_⟩) (by assumption) ?_
     rotate_left
     ·intro w hSw; (try dsimp only at hSw); go_simp; try with_reducible rfl
     try simp only [Act.put, List.getElem_toArray, List.getElem_cons_succ, List.getElem_cons_zero, List.setIfInBounds_toArray, List.set_cons_zero, List.set_cons_succ]
     refine AnyZ.take (i := 7) (v := ?_) rfl (by kernel_rfl) (by kernel_rfl) (by kernel_rfl) (by kernel_rfl) (fun _ _ _ h => h) (Or.inl ⟨by kernel_rfl, ?_⟩) (by assumption) ?_
     rotate_left
     ·intro w hSw; (try dsimp only at hSw); go_simp; try with_reducible rfl
     try simp only [Act.put, List.getElem_toArray, List.getElem_cons_succ, List.getElem_cons_zero, List.setIfInBounds_toArray, List.set_cons_zero, List.set_cons_succ]
     refine AnyZ.take (i := 8) (v := ?_) rfl (by kernel_rfl) (by kernel_rfl) (by kernel_rfl) (by kernel_rfl) (fun _ _ _ h => h) (Or.inl ⟨by kernel_rfl, ?_⟩) (by assumption) ?_
     rotate_left
     ·intro w hSw; (try dsimp only at hSw); go_simp; try with_reducible rfl
     try simp only [Act.put, List.getElem_toArray, List.getElem_cons_succ, List.getElem_cons_zero, List.setIfInBounds_toArray, List.set_cons_zero, List.set_cons_succ]
     refine AnyZ.take (i := 9) (v := ?_) rfl (by kernel_rfl) (by kernel_rfl) (by kernel_rfl) (by kernel_rfl) (fun _ _ _ h => h) (Or.inl ⟨by kernel_rfl, ?_⟩) (by assumption) ?_
     rotate_left
     ·intro w hSw; (try dsimp only at hSw); go_simp; try with_reducible rfl
     try simp only [Act.put, List.getElem_toArray, List.getElem_cons_succ, List.getElem_cons_zero, List.setIfInBounds_toArray, List.set_cons_zero, List.set_cons_succ]
     refine AnyZ.take (i := 10) (v := ?_) rfl (by kernel_rfl) (by kernel_rfl) (by kernel_rfl) (by kernel_rfl) (fun _ _ _ h => h) (Or.inl ⟨by kernel_rfl, ?_⟩) (by assumption) ?_
     rotate_left
     ·intro w hSw; (try dsimp only at hSw); go_simp; try with_reducible rfl
     try simp only [Act.put, List.getElem_toArray, List.getElem_cons_succ, List.getElem_cons_zero, List.setIfInBounds_toArray, List.set_cons_zero, List.set_cons_succ]
     refine AnyZ.take (i := 11) (v := ?_) rfl (by kernel_rfl) (by kernel_rfl) (by kernel_rfl) (by kernel_rfl) (fun _ _ _ h => h) (Or.inl ⟨by kernel_rfl, ?_⟩) (by assumption) ?_
     rotate_left
     ·intro w hSw; (try dsimp only at hSw); go_simp; try with_reducible rfl
     try simp only [Act.put, List.getElem_toArray, List.getElem_cons_succ, List.getElem_cons_zero, List.setIfInBounds_toArray, List.set_cons_zero, List.set_cons_succ]
     refine AnyZ.take (i := 12) (v := ?_) rfl (by kernel_rfl) (by kernel_rfl) (by kernel_rfl) (by kernel_rfl) (fun _ _ _ h => h) (Or.inl ⟨by kernel_rfl, ?_⟩) (by assumption) ?_
     rotate_left
     ·intro w hSw; (try dsimp only at hSw); go_simp; try with_reducible rfl
     try simp only [Act.put, List.getElem_toArray, List.getElem_cons_succ, List.getElem_cons_zero, List.setIfInBounds_toArray, List.set_cons_zero, List.set_cons_succ]
     refine AnyZ.take (i := 13) (v := ?_) rfl (by kernel_rfl) (by kernel_rfl) (by kernel_rfl) (by kernel_rfl) (fun _ _ _ h => h) (Or.inl ⟨by kernel_rfl, ?_⟩) (by assumption) ?_
     rotate_left
     ·intro w hSw; (try dsimp only at hSw); go_simp; try with_reducible rfl
     try simp only [Act.put, List.getElem_toArray, List.getElem_cons_succ, List.getElem_cons_zero, List.setIfInBounds_toArray, List.set_cons_zero, List.set_cons_succ]
     refine AnyZ.take (i := 14) (v := ?_) rfl (by kernel_rfl) (by kernel_rfl) (by kernel_rfl) (by kernel_rfl) (fun _ _ _ h => h) (Or.inl ⟨by kernel_rfl, ?_⟩) (by assumption) ?_
     rotate_left
     ·intro w hSw; (try dsimp only at hSw); go_simp; try with_reducible rfl
     try simp only [Act.put, List.getElem_toArray, List.getElem_cons_succ, List.getElem_cons_zero, List.setIfInBounds_toArray, List.set_cons_zero, List.set_cons_succ]
     refine AnyZ.ready (rs := [15]) (by kernel_rfl) (by simp) ?_
     refine AllZ.cons rfl (fun K hK => ?_) AllZ.nil
     go_simp
     (with_reducible refine (HRM.out).mono ?_); rintro e' w7 ⟨rfl, hd7, hb7, hk7⟩
     have H7 := Lib.hid (HWD.out.kept hd7 hk7)
     have HB7 : Hid (Below B w w7 ∧ Kept G w w7) := Lib.hid ⟨HBD.out.1.trans hb7, fun g hg => (hk7 g (.inl (.inl hg))).trans (HBD.out.2 g hg)⟩
     obtain ⟨b3, o3, hS3, hsg7⟩ := H7.out.segAt
     injection hS3 with hS3; injection hS3 with hS3 hS4; subst hS3; subst hS4
     rw [ats_len, ← HE2.out.1, ← HE2.out.2.1, ← HE2.out.2.2.1, ← HE2.out.2.2.2.1, ← HE2.out.2.2.2.2, ← HEQ.out.2.2.1, ← HEQ.out.2.2.2.1, ← HEQ.out.2.2.2.2.1, ← HEQ.out.2.2.2.2.2.1] at hsg7
     have HSG7 := Lib.hid hsg7
     have ya7 := (HCY.out w7 H7.out).1
     have hab := (HCY.out w7 H7.out).2
     clear hd7 hb7 hk7 hsg7 e0 e1 v0 ya
     refine hK.out _ _ ?_ (fun hHeld => ?_)
     ·exact ⟨HSG7.out.v0, HSG7.out.e0, HSG7.out.e1, ya7⟩
     clear hK K
     try simp only [Act.put, List.getElem_toArray, List.getElem_cons_succ, List.getElem_cons_zero, List.setIfInBounds_toArray, List.set_cons_zero, List.set_cons_succ]
     refine AnyZ.take (i := 16) (v := ?_) rfl (by kernel_rfl) (by kernel_rfl) (by kernel_rfl) (by kernel_rfl) (fun _ _ _ h => h) (Or.inl ⟨by kernel_rfl, ?_⟩) (by assumption) ?_
     rotate_left
     ·intro w hSw; (try dsimp only at hSw); go_simp; try with_reducible rfl
     try simp only [Act.put, List.getElem_toArray, List.getElem_cons_succ, List.getElem_cons_zero, List.setIfInBounds_toArray, List.set_cons_zero, List.set_cons_succ]
     refine AnyZ.done (by kernel_rfl) ?_ _
     skip
     clear hHeld HRM HCY
     by_cases hk0 : k2 = 0
     ·subst hk0
      have tk : ((((0 : Nat) : Int)) != 0) = false := rfl
      have y1 := HSG7.out.e1
      have y2 := HSG7.out.e2
      have yf := HSG7.out.fz
      have v2 := HSG7.out.v2
      have vf := HSG7.out.vf
      have HBW : Hid (b ≠ wb) := Lib.hid (fun e9 => (H7.out.own b (H7.out.segs.inF ⟨o, none, rfl⟩)).2.2 e9)
      go_upto_region 16 with fail
      refine AnyZ.start (S := (fun V => V.cell? ⟨b, o + pn * 4 + 1, none⟩ = some (.slice (some ⟨ab, ao, none⟩) l xc) ∧ V.cell? ⟨ab, ao + kk, none⟩ = some (.int .i64 (z9 : Int)))) (z := 20) (by kernel_rfl) ?_ (fun hHeld => ?_)
      ·exact ⟨y1, ya7⟩
      refine AnyZ.take (i := 0) (v := ?_) rfl (by kernel_rfl) (by kernel_rfl) (by kernel_rfl) (by kernel_rfl) (fun _ _ _ h => h) (Or.inl ⟨by kernel_rfl, ?_⟩) (by assumption) ?_
      rotate_left
      ·intro w hSw; (try dsimp only at hSw); go_simp; try with_reducible rfl
      try simp only [Act.put, List.getElem_toArray, List.getElem_cons_zero, List.setIfInBounds_toArray, List.set_cons_zero, List.set_cons_succ]
      refine AnyZ.take (i := 1) (v := ?_) rfl (by kernel_rfl) (by kernel_rfl) (by kernel_rfl) (by kernel_rfl) (fun _ _ _ h => h) (Or.inl ⟨by kernel_rfl, ?_⟩) (by assumption) ?_
      rotate_left
      ·intro w hSw; (try dsimp only at hSw); go_simp; try with_reducible rfl
      try simp only [Act.put, List.getElem_toArray, List.getElem_cons_succ, List.getElem_cons_zero, List.setIfInBounds_toArray, List.set_cons_zero, List.set_cons_succ]
      refine AnyZ.take (i := 2) (v := ?_) rfl (by kernel_rfl) (by kernel_rfl) (by kernel_rfl) (by kernel_rfl) (fun _ _ _ h => h) (Or.inl ⟨by kernel_rfl, ?_⟩) (by assumption) ?_
      rotate_left
      ·intro w hSw; (try dsimp only at hSw); go_simp; try with_reducible rfl
      try simp only [Act.put, List.getElem_toArray, List.getElem_cons_succ, List.getElem_cons_zero, List.setIfInBounds_toArray, List.set_cons_zero, List.set_cons_succ]
      refine AnyZ.take (i := 3) (v := ?_) rfl (by kernel_rfl) (by kernel_rfl) (by kernel_rfl) (by kernel_rfl) (fun _ _ _ h => h) (Or.inl ⟨by kernel_rfl, ?_⟩) (by assumption) ?_
      rotate_left
      ·intro w hSw; (try dsimp only at hSw); go_simp; try with_reducible rfl
      try simp only [Act.put, List.getElem_toArray, List.getElem_cons_succ, List.getElem_cons_zero, List.setIfInBounds_toArray, List.set_cons_zero, List.set_cons_succ]
      refine AnyZ.take (i := 4) (v := ?_) rfl (by kernel_rfl) (by kernel_rfl) (by kernel_rfl) (by kernel_rfl) (fun _ _ _ h => h) (Or.inl ⟨by kernel_rfl, ?_⟩) (by assumption) ?_
      rotate_left
      ·intro w hSw; (try dsimp only at hSw); go_simp; try with_reducible rfl
      try simp only [Act.put, List.getElem_toArray, List.getElem_cons_succ, List.getElem_cons_zero, List.setIfInBounds_toArray, List.set_cons_zero, List.set_cons_succ]
      refine AnyZ.take (i := 5) (v := ?_) rfl (by kernel_rfl) (by kernel_rfl) (by kernel_rfl) (by kernel_rfl) (fun _ _ _ h => h) (Or.inl ⟨by kernel_rfl, ?_⟩) (by assumption) ?_
      rotate_left
      ·intro w hSw; (try dsimp only at hSw); go_simp; try with_reducible rfl
      try simp only [Act.put, List.getElem_toArray, List.getElem_cons_succ, List.getElem_cons_zero, List.setIfInBounds_toArray, List.set_cons_zero, List.set_cons_succ]
      refine AnyZ.take (i := 6) (v := ?_) rfl (by kernel_rfl) (by kernel_rfl) (by kernel_rfl) (by kernel_rfl) (fun _ _ _ h => h) (Or.inl ⟨by kernel_rfl, ?_⟩) (by assumption) ?_
      rotate_left
      ·intro w hSw; (try dsimp only at hSw); go_simp; try with_reducible rfl
      try simp only [Act.put, List.getElem_toArray, List.getElem_cons_succ, List.getElem_cons_zero, List.setIfInBounds_toArray, List.set_cons_zero, List.set_cons_succ]
      refine AnyZ.take (i := 7) (v := ?_) rfl (by kernel_rfl) (by kernel_rfl) (by kernel_rfl) (by kernel_rfl) (fun _ _ _ h => h) (Or.inl ⟨by kernel_rfl, ?_⟩) (by assumption) ?_
      rotate_left
      ·intro w hSw; (try dsimp only at hSw); go_simp; try with_reducible rfl
      try simp only [Act.put, List.getElem_toArray, List.getElem_cons_succ, List.getElem_cons_zero, List.setIfInBounds_toArray, List.set_cons_zero, List.set_cons_succ]
      refine AnyZ.take (i := 8) (v := ?_) rfl (by kernel_rfl) (by kernel_rfl) (by kernel_rfl) (by kernel_rfl) (fun _ _ _ h => h) (Or.inl ⟨by kernel_rfl, ?_⟩) (by assumption) ?_
      rotate_left
      ·intro w hSw; (try dsimp only at hSw); go_simp; try with_reducible rfl
      try simp only [Act.put, List.getElem_toArray, List.getElem_cons_succ, List.getElem_cons_zero, List.setIfInBounds_toArray, List.set_cons_zero, List.set_cons_succ]
      refine AnyZ.take (i := 9) (v := ?_) rfl (by kernel_rfl) (by kernel_rfl) (by kernel_rfl) (by kernel_rfl) (fun _ _ _ h => h) (Or.inl ⟨by kernel_rfl, ?_⟩) (by assumption) ?_
      rotate_left
      ·intro w hSw; (try dsimp only at hSw); go_simp; try with_reducible rfl
      try simp only [Act.put, List.getElem_toArray, List.getElem_cons_succ, List.getElem_cons_zero, List.setIfInBounds_toArray, List.set_cons_zero, List.set_cons_succ]
      refine AnyZ.take (i := 10) (v := ?_) rfl (by kernel_rfl) (by kernel_rfl) (by kernel_rfl) (by kernel_rfl) (fun _ _ _ h => h) (Or.inl ⟨by kernel_rfl, ?_⟩) (by assumption) ?_
      rotate_left
      ·intro w hSw; (try dsimp only at hSw); go_simp; try with_reducible rfl
      try simp only [Act.put, List.getElem_toArray, List.getElem_cons_succ, List.getElem_cons_zero, List.setIfInBounds_toArray, List.set_cons_zero, List.set_cons_succ]
      refine AnyZ.take (i := 11) (v := ?_) rfl (by kernel_rfl) (by kernel_rfl) (by kernel_rfl) (by kernel_rfl) (fun _ _ _ h => h) (Or.inl ⟨by kernel_rfl, ?_⟩) (by assumption) ?_
      rotate_left
      ·intro w hSw; (try dsimp only at hSw); go_simp; try with_reducible rfl
      try simp only [Act.put, List.getElem_toArray, List.getElem_cons_succ, List.getElem_cons_zero, List.setIfInBounds_toArray, List.set_cons_zero, List.set_cons_succ]
      refine AnyZ.take (i := 12) (v := ?_) rfl (by kernel_rfl) (by kernel_rfl) (by kernel_rfl) (by kernel_rfl) (fun _ _ _ h => h) (Or.inl ⟨by kernel_rfl, ?_⟩) (by assumption) ?_
      rotate_left
      ·intro w hSw; (try dsimp only at hSw); go_simp; try with_reducible rfl
      try simp only [Act.put, List.getElem_toArray, List.getElem_cons_succ, List.getElem_cons_zero, List.setIfInBounds_toArray, List.set_cons_zero, List.set_cons_succ]
      refine AnyZ.take (i := 13) (v := ?_) rfl (by kernel_rfl) (by kernel_rfl) (by kernel_rfl) (by kernel_rfl) (fun _ _ _ h => h) (Or.inl ⟨by kernel_rfl, ?_⟩) (by assumption) ?_
      rotate_left
      ·intro w hSw; (try dsimp only at hSw); go_simp; try with_reducible rfl
      try simp only [Act.put, List.getElem_toArray, List.getElem_cons_succ, List.getElem_cons_zero, List.setIfInBounds_toArray, List.set_cons_zero, List.set_cons_succ]
      refine AnyZ.take (i := 14) (v := ?_) rfl (by kernel_rfl) (by kernel_rfl) (by kernel_rfl) (by kernel_rfl) (fun _ _ _ h => h) (Or.inl ⟨by kernel_rfl, ?_⟩) (by assumption) ?_
      rotate_left
      ·intro w hSw; (try dsimp only at hSw); go_simp; try with_reducible rfl
      try simp only [Act.put, List.getElem_toArray, List.getElem_cons_succ, List.getElem_cons_zero, List.setIfInBounds_toArray, List.set_cons_zero, List.set_cons_succ]
      refine AnyZ.take (i := 15) (v := ?_) rfl (by kernel_rfl) (by kernel_rfl) (by kernel_rfl) (by kernel_rfl) (fun _ _ _ h => h) (Or.inl ⟨by kernel_rfl, ?_⟩) (by assumption) ?_
      rotate_left
      ·intro w hSw; (try dsimp only at hSw); go_simp; try with_reducible rfl
      try simp only [Act.put, List.getElem_toArray, List.getElem_cons_succ, List.getElem_cons_zero, List.setIfInBounds_toArray, List.set_cons_zero, List.set_cons_succ]
      refine AnyZ.take (i := 16) (v := ?_) rfl (by kernel_rfl) (by kernel_rfl) (by kernel_rfl) (by kernel_rfl) (fun _ _ _ h => h) (Or.inl ⟨by kernel_rfl, ?_⟩) (by assumption) ?_
      rotate_left
      ·intro w hSw; (try dsimp only at hSw); go_simp; try with_reducible rfl
      try simp only [Act.put, List.getElem_toArray, List.getElem_cons_succ, List.getElem_cons_zero, List.setIfInBounds_toArray, List.set_cons_zero, List.set_cons_succ]
      refine AnyZ.ready (rs := [17]) (by kernel_rfl) (by simp) ?_
      refine AllZ.cons rfl (fun K hK => ?_) AllZ.nil
      go_simp
      refine hK.out _ _ ?_ (fun hHeld => ?_)
      ·exact ⟨by show (World.setCell w7 _ _).cell? _ = _; rw [World.cell?_setCell_other _ _ _ _ (by simp)]; exact y1, by show (World.setCell w7 _ _).cell? _ = _; rw [World.cell?_setCell_other _ _ _ _ (by intro e9; injection e9 with e9; exact absurd e9.symm hab)]; exact ya7⟩
      clear hK K
      try simp only [Act.put, List.getElem_toArray, List.getElem_cons_succ, List.getElem_cons_zero, List.setIfInBounds_toArray, List.set_cons_zero, List.set_cons_succ]
      refine AnyZ.takeAny (i := 18) (v := ?_) rfl (by kernel_rfl) (by kernel_rfl) (by kernel_rfl) (by kernel_rfl) (fun _ _ _ h => h) (Or.inl ⟨by kernel_rfl, ?_⟩) (by assumption) ?_
      rotate_left
      ·intro w hSw; (try dsimp only at hSw); go_simp; try with_reducible rfl
      try simp only [Act.put, List.getElem_toArray, List.getElem_cons_succ, List.getElem_cons_zero, List.setIfInBounds_toArray, List.set_cons_zero, List.set_cons_succ]
      refine AnyZ.take (i := 19) (v := ?_) rfl (by kernel_rfl) (by kernel_rfl) (by kernel_rfl) (by kernel_rfl) (fun _ _ _ h => h) (Or.inl ⟨by kernel_rfl, ?_⟩) (by assumption) ?_
      rotate_left
      ·intro w hSw; (try dsimp only at hSw); go_simp; try with_reducible rfl
      try simp only [Act.put, List.getElem_toArray, List.getElem_cons_succ, List.getElem_cons_zero, List.setIfInBounds_toArray, List.set_cons_zero, List.set_cons_succ]
      refine AnyZ.ready (rs := [20]) (by kernel_rfl) (by simp) ?_
      refine AllZ.last rfl (by kernel_rfl) (fun K hK => ?_) AllZ.nil
      go_simp
      refine hK.out _ _ ?_
      clear hK K
      try simp only [Act.put, List.getElem_toArray, List.getElem_cons_succ, List.getElem_cons_zero, List.setIfInBounds_toArray, List.set_cons_zero, List.set_cons_succ]
      refine AnyZ.done (by kernel_rfl) ?_ _
      skip
      clear hHeld
      have v2' : ((w7.drew.setCell ⟨b, o + pn * 4 + 2, none⟩ (.int .i64 (z9 : Int))).setCell ⟨b, o + pn * 4 + 1, none⟩ (.slice (some ⟨ab, ao, none⟩) kk xc)).cell? ⟨wb, 2, none⟩ = some (.slice EA m ec) := by
       rw [World.cell?_setCell_other _ _ _ _ (by simp; intro e9; exact absurd e9 HBW.out), World.cell?_setCell_other _ _ _ _ (by simp; intro e9; exact absurd e9 HBW.out)]; exact v2
      clear y1 y2 v2 ya7 hab
      go_upto_region 17 with fail
      refine AnyZ.start (S := (fun V => V.cell? ⟨wb, 2, none⟩ = some (.slice EA m ec))) (z := 15) (by kernel_rfl) ?_ (fun hHeld => ?_)
      ·exact v2'
      refine AnyZ.take (i := 0) (v := ?_) rfl (by kernel_rfl) (by kernel_rfl) (by kernel_rfl) (by kernel_rfl) (fun _ _ _ h => h) (Or.inl ⟨by kernel_rfl, ?_⟩) (by assumption) ?_
      rotate_left
      ·intro w hSw; (try dsimp only at hSw); go_simp; try with_reducible rfl
      try simp only [Act.put, List.getElem_toArray, List.getElem_cons_zero, List.setIfInBounds_toArray, List.set_cons_zero, List.set_cons_succ]
      refine AnyZ.take (i := 1) (v := ?_) rfl (by kernel_rfl) (by kernel_rfl) (by kernel_rfl) (by kernel_rfl) (fun _ _ _ h => h) (Or.inl ⟨by kernel_rfl, ?_⟩) (by assumption) ?_
      rotate_left
      ·intro w hSw; (try dsimp only at hSw); go_simp; try with_reducible rfl
      try simp only [Act.put, List.getElem_toArray, List.getElem_cons_succ, List.getElem_cons_zero, List.setIfInBounds_toArray, List.set_cons_zero, List.set_cons_succ]
      refine AnyZ.take (i := 2) (v := ?_) rfl (by kernel_rfl) (by kernel_rfl) (by kernel_rfl) (by kernel_rfl) (fun _ _ _ h => h) (Or.inl ⟨by kernel_rfl, ?_⟩) (by assumption) ?_
      rotate_left
      ·intro w hSw; (try dsimp only at hSw); go_simp; try with_reducible rfl
      try simp only [Act.put, List.getElem_toArray, List.getElem_cons_succ, List.getElem_cons_zero, List.setIfInBounds_toArray, List.set_cons_zero, List.set_cons_succ]
      refine AnyZ.take (i := 3) (v := ?_) rfl (by kernel_rfl) (by kernel_rfl) (by kernel_rfl) (by kernel_rfl) (fun _ _ _ h => h) (Or.inl ⟨by kernel_rfl, ?_⟩) (by assumption) ?_
      rotate_left
      ·intro w hSw; (try dsimp only at hSw); go_simp; try with_reducible rfl
      try simp only [Act.put, List.getElem_toArray, List.getElem_cons_succ, List.getElem_cons_zero, List.setIfInBounds_toArray, List.set_cons_zero, List.set_cons_succ]
      refine AnyZ.take (i := 4) (v := ?_) rfl (by kernel_rfl) (by kernel_rfl) (by kernel_rfl) (by kernel_rfl) (fun _ _ _ h => h) (Or.inl ⟨by kernel_rfl, ?_⟩) (by assumption) ?_
      rotate_left
      ·intro w hSw; (try dsimp only at hSw); go_simp; try with_reducible rfl
      try simp only [Act.put, List.getElem_toArray, List.getElem_cons_succ, List.getElem_cons_zero, List.setIfInBounds_toArray, List.set_cons_zero, List.set_cons_succ]
      refine AnyZ.take (i := 5) (v := ?_) rfl (by kernel_rfl) (by kernel_rfl) (by kernel_rfl) (by kernel_rfl) (fun _ _ _ h => h) (Or.inl ⟨by kernel_rfl, ?_⟩) (by assumption) ?_
      rotate_left
      ·intro w hSw; (try dsimp only at hSw); go_simp; try with_reducible rfl
      try simp only [Act.put, List.getElem_toArray, List.getElem_cons_succ, List.getElem_cons_zero, List.setIfInBounds_toArray, List.set_cons_zero, List.set_cons_succ]
      refine AnyZ.take (i := 6) (v := ?_) rfl (by kernel_rfl) (by kernel_rfl) (by kernel_rfl) (by kernel_rfl) (fun _ _ _ h => h) (Or.inl ⟨by kernel_rfl, ?_⟩) (by assumption) ?_
      rotate_left
      ·intro w hSw; (try dsimp only at hSw); go_simp; try with_reducible rfl
      try simp only [Act.put, List.getElem_toArray, List.getElem_cons_succ, List.getElem_cons_zero, List.setIfInBounds_toArray, List.set_cons_zero, List.set_cons_succ]
      refine AnyZ.take (i := 7) (v := ?_) rfl (by kernel_rfl) (by kernel_rfl) (by kernel_rfl) (by kernel_rfl) (fun _ _ _ h => h) (Or.inl ⟨by kernel_rfl, ?_⟩) (by assumption) ?_
      rotate_left
      ·intro w hSw; (try dsimp only at hSw); go_simp; try with_reducible rfl
      try simp only [Act.put, List.getElem_toArray, List.getElem_cons_succ, List.getElem_cons_zero, List.setIfInBounds_toArray, List.set_cons_zero, List.set_cons_succ]
      refine AnyZ.take (i := 8) (v := ?_) rfl (by kernel_rfl) (by kernel_rfl) (by kernel_rfl) (by kernel_rfl) (fun _ _ _ h => h) (Or.inl ⟨by kernel_rfl, ?_⟩) (by assumption) ?_
      rotate_left
      ·intro w hSw; (try dsimp only at hSw); go_simp; try with_reducible rfl
      try simp only [Act.put, List.getElem_toArray, List.getElem_cons_succ, List.getElem_cons_zero, List.setIfInBounds_toArray, List.set_cons_zero, List.set_cons_succ]
      refine AnyZ.take (i := 9) (v := ?_) rfl (by kernel_rfl) (by kernel_rfl) (by kernel_rfl) (by kernel_rfl) (fun _ _ _ h => h) (Or.inl ⟨by kernel_rfl, ?_⟩) (by assumption) ?_
      rotate_left
      ·intro w hSw; (try dsimp only at hSw); go_simp; try with_reducible rfl
      try simp only [Act.put, List.getElem_toArray, List.getElem_cons_succ, List.getElem_cons_zero, List.setIfInBounds_toArray, List.set_cons_zero, List.set_cons_succ]
      refine AnyZ.take (i := 10) (v := ?_) rfl (by kernel_rfl) (by kernel_rfl) (by kernel_rfl) (by kernel_rfl) (fun _ _ _ h => h) (Or.inl ⟨by kernel_rfl, ?_⟩) (by assumption) ?_
      rotate_left
      ·intro w hSw; (try dsimp only at hSw); go_simp; try with_reducible rfl
      try simp only [Act.put, List.getElem_toArray, List.getElem_cons_succ, List.getElem_cons_zero, List.setIfInBounds_toArray, List.set_cons_zero, List.set_cons_succ]
      refine AnyZ.take (i := 11) (v := ?_) rfl (by kernel_rfl) (by kernel_rfl) (by kernel_rfl) (by kernel_rfl) (fun _ _ _ h => h) (Or.inl ⟨by kernel_rfl, ?_⟩) (by assumption) ?_
      rotate_left
      ·intro w hSw; (try dsimp only at hSw); go_simp; try with_reducible rfl
      try simp only [Act.put, List.getElem_toArray, List.getElem_cons_succ, List.getElem_cons_zero, List.setIfInBounds_toArray, List.set_cons_zero, List.set_cons_succ]
      refine AnyZ.take (i := 12) (v := ?_) rfl (by kernel_rfl) (by kernel_rfl) (by kernel_rfl) (by kernel_rfl) (fun _ _ _ h => h) (Or.inl ⟨by kernel_rfl, ?_⟩) (by assumption) ?_
      rotate_left
      ·intro w hSw; (try dsimp only at hSw); go_simp; try with_reducible rfl
      try simp only [Act.put, List.getElem_toArray, List.getElem_cons_succ, List.getElem_cons_zero, List.setIfInBounds_toArray, List.set_cons_zero, List.set_cons_succ]
      refine AnyZ.takeAny (i := 13) (v := ?_) rfl (by kernel_rfl) (by kernel_rfl) (by kernel_rfl) (by kernel_rfl) (fun _ _ _ h => h) (Or.inl ⟨by kernel_rfl, ?_⟩) (by assumption) ?_
      rotate_left
      ·intro w hSw; (try dsimp only at hSw); go_simp; try with_reducible rfl
      try simp only [Act.put, List.getElem_toArray, List.getElem_cons_succ, List.getElem_cons_zero, List.setIfInBounds_toArray, List.set_cons_zero, List.set_cons_succ]
      refine AnyZ.take (i := 14) (v := ?_) rfl (by kernel_rfl) (by kernel_rfl) (by kernel_rfl) (by kernel_rfl) (fun _ _ _ h => h) (Or.inl ⟨by kernel_rfl, ?_⟩) (by assumption) ?_
      rotate_left
      ·intro w hSw; (try dsimp only at hSw); go_simp; try with_reducible rfl
      try simp only [Act.put, List.getElem_toArray, List.getElem_cons_succ, List.getElem_cons_zero, List.setIfInBounds_toArray, List.set_cons_zero, List.set_cons_succ]
      refine AnyZ.ready (rs := [15]) (by kernel_rfl) (by simp) ?_
      refine AllZ.last rfl (by kernel_rfl) (fun K hK => ?_) AllZ.nil
      go_simp
      refine hK.out _ _ ?_
      clear hK K
      try simp only [Act.put, List.getElem_toArray, List.getElem_cons_succ, List.getElem_cons_zero, List.setIfInBounds_toArray, List.set_cons_zero, List.set_cons_succ]
      refine AnyZ.done (by kernel_rfl) ?_ _
      skip
      have hbd7 : Below w7.heap.size w7 w7.drew.drew := below_drewN (Below.refl _ _) 2
      have H8 := Lib.hid (H7.out.below hbd7)
      have hgx : (pre ++ [x])[pre.length]'(by simp) = x := by simp
      have hs8 := Mem.Rw.set2_ (j := pre.length) (i1 := 2) (i2 := 1) H8.out.segs smC_len (by simp) (by decide) (by decide) (.int .i64 (z9 : Int)) (.slice (some ⟨ab, ao, none⟩) kk xc) (y := y) (by
       rw [hgx, (smC_cut (k0 := kk) (by rw [← HEQ.out.2.2.1]; exact Nat.le_of_lt HM1.out.2.1) HY.out).2, ← HM1.out.2.2.2.1, ← HE2.out.2.2.2.1, ← HE2.out.2.2.2.2])
      rw [show (pre ++ [x]).set pre.length y = pre ++ [y] by simp, ← HEQ.out.2.2.2.1] at hs8
      have hct := H8.out.cutTo (k0 := kk) (l := m1) (by rw [← HEQ.out.2.2.2.2.2.1]; exact Nat.le_of_lt HM1.out.2.2.1) HY.out hs8 (((Frm.refl _ _).setCell (p := ⟨b, o + pn * 4 + 2, none⟩) (fun _ => ⟨H7.out.segs.inF ⟨o, none, rfl⟩, o, none, rfl⟩) _).setCell (p := ⟨b, o + pn * 4 + 1, none⟩) (fun _ => ⟨H7.out.segs.inF ⟨o, none, rfl⟩, o, none, rfl⟩) _)
      have hwf := wl_frm H8.out hct.2
      have hys : y.s = ⟨x.s.ix, x.s.es.take kk, x.s.wet⟩ := by rw [HY.out]
      have hly : (x.s.es.take kk).length = kk := by rw [List.length_take, ← HEQ.out.2.2.1]; have := HM1.out.2.1; omega
      have hchy : chainS j (pre.map SgM.s ++ [y.s]) := by
       rw [chain_append, hys]
       refine ⟨HXC.out.1, HXC.out.2.1, fun e9 => ?_, ?_, fun e he => HXC.out.2.2.2 e (List.mem_of_mem_take he), trivial⟩
       ·have e9 : x.s.es.take kk = [] := e9
        rw [e9] at hly; have := HM1.out.2.2.2.2.2; simp at hly; omega
       ·have h9 := HXC.out.2.2.1
        rw [HXC.out.2.1, ← List.take_append_drop kk x.s.es] at h9
        exact (follow_append.1 h9).1
      have haly : allE (pre.map SgM.s ++ [y.s]) = allE (pre.map SgM.s) ++ x.s.es.take kk := by rw [allE_snoc, hys]
      go_wp2_with fail
      go_roundw
      case rel =>
       refine ⟨d2, pre.map SgM.s ++ [y.s], f, ⟨R, _, _, pre ++ [y], _, _, em.take m1, hct.1, by rw [List.map_append]; rfl, ?_⟩, Lib.hid (by rw [HR2.out, if_pos rfl]), Lib.hid (.inr ?_), Lib.hid ⟨j, hchy⟩, Lib.hid ?_, Lib.hid ⟨(HB7.out.1.trans (hbd7.mono H7.out.dx.le)).trans hwf.1, fun g hg => (hwf.2 g hg).trans ((hbd7.block g (H7.out.oldG g hg)).trans (HB7.out.2 g hg))⟩⟩
       ·rw [List.map_take, HMM.out, haly, HM1.out.1, HEQ.out.2.2.2.2.2.2, List.take_append, List.take_of_length_le (l := allE (pre.map SgM.s)) (by omega), Nat.add_sub_cancel_left]
       ·have hne : allE (pre.map SgM.s ++ [y.s]) ≠ [] := by
         rw [haly]
         intro e9
         have := (List.append_eq_nil_iff.1 e9).2
         rw [this] at hly; have := HM1.out.2.2.2.2.2; simp at hly; omega
        rw [last_follow (chain_follow hchy).1 hne, haly, List.length_append, hly]
        have h1 := HXC.out.2.1
        have h2 := HM1.out.2.2.2.2.1
        have h3 := HEQ.out.2.1
        omega
       ·have h9 := HNK.out
        rw [HAL.out, List.length_append] at h9
        rw [haly, List.length_append, hly]
        have := HM1.out.2.1; have := HEQ.out.2.2.1; omega
      case measure =>
       have e1 : entN wb wr = m := by unfold entN; rw [H0.out.blk.cell 2]; exact HEQ.out.2.2.2.2.2.1.symm
       have h9 : ((((w7.setCell ⟨b, o + pn * 4 + 2, none⟩ (.int .i64 (z9 : Int))).setCell ⟨b, o + pn * 4 + 1, none⟩ (.slice (some ⟨ab, ao, none⟩) kk xc)).setCell ⟨wb, 2, none⟩ (.slice EA m1 ec)).drewN 2).cell? ⟨wb, 2, none⟩ = some (.slice EA (em.take m1).length ec) := hct.1.blk.cell 2
       have e2 : entN wb ((((w7.setCell ⟨b, o + pn * 4 + 2, none⟩ (.int .i64 (z9 : Int))).setCell ⟨b, o + pn * 4 + 1, none⟩ (.slice (some ⟨ab, ao, none⟩) kk xc)).setCell ⟨wb, 2, none⟩ (.slice EA m1 ec)).drewN 2) < m := by
        unfold entN; rw [h9]
        show (em.take m1).length < m
        rw [List.length_take]
        have := HM1.out.2.2.1; omega
       rw [e1]; exact e2
     ·have tk : ((k2 : Int) != 0) = true := by rw [bne_iff_ne]; omega
      have HRS : Hid (res = (d2, sk, k2)) := Lib.hid (by rw [HR2.out, if_neg hk0])
      clear hk0
      go_wp2_with fail
      go_ret
      rw [HRS.out]
      exact ⟨rfl, ⟨_, _, _, _, _, _, _, H7.out, HSM.out, HEM.out⟩, HB7.out.1, HB7.out.2⟩
    ·have t5 : decide (c > fi) = false := decide_eq_false hgf
     obtain ⟨⟨d2, k2⟩, hrm⟩ : ∃ z, z = Dsk.remove dk (sgN x.s) := ⟨_, rfl⟩
     have HRM := Lib.hid (X_Remove (s' := d2) (k := k2) HWD.out.dx nm (by rw [HE2.out.1]; unfold nmWA; simp [ByteArray.size, nmOf_len]; unfold maxLen; decide) (by rw [HE2.out.1, sname_nmWA]; exact hrm.symm) (ki := (k2 : Int)) rfl)
     have HR2 : Hid (res = if k2 = 0 then cutF f d2 (pre.map SgM.s) c else (d2, sk, k2)) := Lib.hid (by
      rw [HDR.out, HFE.out, HSK.out, cutF_A HLE.out (by rw [HKP.out]; omega), ← hrm])
     obtain ⟨m1, hm1⟩ : ∃ z, z = m - l := ⟨_, rfl⟩
     have hwm : IntKind.i64.wrap ((m : Int) - (l : Int)) = (m1 : Int) := by have := HML.out; rw [IntKind.wrap_i64]; omega
     have hcE : ∀ V, (Instr.slice 37 (.slice EA m ec) none (some (.int .i64 (m1 : Int))) none).run Tryz.prog V = .ok (.slice EA m1 ec) V := fun V =>
      cutHK (P := Tryz.prog) (k := 4) Tryz.underlying37 (by intro w; kernel_rfl) EA m ec m1 (by omega) V
     have HM1 : Hid (m1 = m0) := Lib.hid (by have := HML.out; omega)
     clear hgf hrm hm1
     go_upto_region 9 with fail
     refine AnyZ.start (S := (fun V => V.cell? ⟨wb, 0, none⟩ = some (.pointer (some ⟨p, 0, none⟩)) ∧ V.cell? ⟨b, o + pn * 4, none⟩ = some (.string nm))) (z := 1010) (by kernel_rfl) ?_ (fun hHeld => ?_)
     ·exact ⟨v0, e0⟩
     refine AnyZ.take (i := 0) (v := ?_) rfl (by kernel_rfl) (by kernel_rfl) (by kernel_rfl) (by kernel_rfl) (fun _ _ _ h => h) (Or.inl ⟨by kernel_rfl, ?_⟩) (by assumption) ?_
     rotate_left
     ·intro w hSw; (try dsimp only at hSw); go_simp; try with_reducible rfl
     try simp only [Act.put, List.getElem_toArray, List.getElem_cons_zero, List.setIfInBounds_toArray, List.set_cons_zero, List.set_cons_succ]
     refine AnyZ.take (i := 1) (v := ?_) rfl (by kernel_rfl) (by kernel_rfl) (by kernel_rfl) (by kernel_rfl) (fun _ _ _ h => h) (Or.inl ⟨by kernel_rfl, ?_⟩) (by assumption) ?_
     rotate_left
     ·intro w hSw; (try dsimp only at hSw); go_simp; try with_reducible rfl
     try simp only [Act.put, List.getElem_toArray, List.getElem_cons_succ, List.getElem_cons_zero, List.setIfInBounds_toArray, List.set_cons_zero, List.set_cons_succ]
     refine AnyZ.take (i := 2) (v := ?_) rfl (by kernel_rfl) (by kernel_rfl) (by kernel_rfl) (by kernel_rfl) (fun _ _ _ h => h) (Or.inl ⟨by kernel_rfl, ?_⟩) (by assumption) ?_
     rotate_left
     ·intro w hSw; (try dsimp only at hSw); go_simp; try with_reducible rfl
     try simp only [Act.put, List.getElem_toArray, List.getElem_cons_succ, List.getElem_cons_zero, List.setIfInBounds_toArray, List.set_cons_zero, List.set_cons_succ]
     refine AnyZ.take (i := 3) (v := ?_) rfl (by kernel_rfl) (by kernel_rfl) (by kernel_rfl) (by kernel_rfl) (fun _ _ _ h => h) (Or.inl ⟨by kernel_rfl, ?_⟩) (by assumption) ?_
     rotate_left
     ·intro w hSw; (try dsimp only at hSw); go_simp; try with_reducible rfl
     try simp only [Act.put, List.getElem_toArray, List.getElem_cons_succ, List.getElem_cons_zero, List.setIfInBounds_toArray, List.set_cons_zero, List.set_cons_succ]
     refine AnyZ.take (i := 4) (v := ?_) rfl (by kernel_rfl) (by kernel_rfl) (by kernel_rfl) (by kernel_rfl) (fun _ _ _ h => h) (Or.inl ⟨by kernel_rfl, ?_⟩) (by assumption) ?_
     rotate_left
     ·intro w hSw; (try dsimp only at hSw); go_simp; try with_reducible rfl
     try simp only [Act.put, List.getElem_toArray, List.getElem_cons_succ, List.getElem_cons_zero, List.setIfInBounds_toArray, List.set_cons_zero, List.set_cons_succ]
     refine AnyZ.take (i := 5) (v := ?_) rfl (by kernel_rfl) (by kernel_rfl) (by kernel_rfl) (by kernel_rfl) (fun _ _ _ h => h) (Or.inl ⟨by kernel_rfl, ?_⟩) (by assumption) ?_
     rotate_left
     ·intro w hSw; (try dsimp only at hSw); go_simp; try with_reducible rfl
     try simp only [Act.put, List.getElem_toArray, List.getElem_cons_succ, List.getElem_cons_zero, List.setIfInBounds_toArray, List.set_cons_zero, List.set_cons_succ]
     refine AnyZ.take (i := 6) (v := ?_) rfl (by kernel_rfl) (by kernel_rfl) (by kernel_rfl) (by kernel_rfl) (fun _ _ _ h => h) (Or.inl ⟨by kernel_rfl, ?_⟩) (by assumption) ?_
     rotate_left
     ·intro w hSw; (try dsimp only at hSw); go_simp; try with_reducible rfl
     try simp only [Act.put, List.getElem_toArray, List.getElem_cons_succ, List.getElem_cons_zero, List.setIfInBounds_toArray, List.set_cons_zero, List.set_cons_succ]
     refine AnyZ.take (i := 7) (v := ?_) rfl (by kernel_rfl) (by kernel_rfl) (by kernel_rfl) (by kernel_rfl) (fun _ _ _ h => h) (Or.inl ⟨by kernel_rfl, ?_⟩) (by assumption) ?_
     rotate_left
     ·intro w hSw; (try dsimp only at hSw); go_simp; try with_reducible rfl
     try simp only [Act.put, List.getElem_toArray, List.getElem_cons_succ, List.getElem_cons_zero, List.setIfInBounds_toArray, List.set_cons_zero, List.set_cons_succ]
     refine AnyZ.ready (rs := [8]) (by kernel_rfl) (by simp) ?_
     refine AllZ.cons rfl (fun K hK => ?_) AllZ.nil
     go_simp
     (with_reducible refine (HRM.out).mono ?_); rintro e' w7 ⟨rfl, hd7, hb7, hk7⟩
     have H7 := Lib.hid (HWD.out.kept hd7 hk7)
     have HB7 : Hid (Below B w w7 ∧ Kept G w w7) := Lib.hid ⟨HBD.out.1.trans hb7, fun g hg => (hk7 g (.inl (.inl hg))).trans (HBD.out.2 g hg)⟩
     obtain ⟨b3, o3, hS3, hsg7⟩ := H7.out.segAt
     injection hS3 with hS3; injection hS3 with hS3 hS4; subst hS3; subst hS4
     rw [ats_len, ← HE2.out.1, ← HE2.out.2.1, ← HE2.out.2.2.1, ← HE2.out.2.2.2.1, ← HE2.out.2.2.2.2, ← HEQ.out.2.2.1, ← HEQ.out.2.2.2.1, ← HEQ.out.2.2.2.2.1, ← HEQ.out.2.2.2.2.2.1] at hsg7
     have HSG7 := Lib.hid hsg7
     clear hd7 hb7 hk7 hsg7 e0 e1 v0
     refine hK.out _ _ ?_ (fun hHeld => ?_)
     ·exact ⟨HSG7.out.v0, HSG7.out.e0⟩
     clear hK K
     try simp only [Act.put, List.getElem_toArray, List.getElem_cons_succ, List.getElem_cons_zero, List.setIfInBounds_toArray, List.set_cons_zero, List.set_cons_succ]
     refine AnyZ.take (i := 9) (v := ?_) rfl (by kernel_rfl) (by kernel_rfl) (by kernel_rfl) (by kernel_rfl) (fun _ _ _ h => h) (Or.inl ⟨by kernel_rfl, ?_⟩) (by assumption) ?_
     rotate_left
     ·intro w hSw; (try dsimp only at hSw); go_simp; try with_reducible rfl
     try simp only [Act.put, List.getElem_toArray, List.getElem_cons_succ, List.getElem_cons_zero, List.setIfInBounds_toArray, List.set_cons_zero, List.set_cons_succ]
     refine AnyZ.done (by kernel_rfl) ?_ _
     skip
     clear hHeld HRM
     by_cases hk0 : k2 = 0
     ·subst hk0
      have tk : ((((0 : Nat) : Int)) != 0) = false := rfl
      have v1 := HSG7.out.v1
      have vf := HSG7.out.vf
      have v2 := HSG7.out.v2
      go_upto_region 12 with fail
      refine AnyZ.start (S := (fun V => V.cell? ⟨wb, 1, none⟩ = some (.slice (some ⟨b, o, none⟩) n sc))) (z := 14) (by kernel_rfl) ?_ (fun hHeld => ?_)
      ·exact v1
      refine AnyZ.take (i := 0) (v := ?_) rfl (by kernel_rfl) (by kernel_rfl) (by kernel_rfl) (by kernel_rfl) (fun _ _ _ h => h) (Or.inl ⟨by kernel_rfl, ?_⟩) (by assumption) ?_
      rotate_left
      ·intro w hSw; (try dsimp only at hSw); go_simp; try with_reducible rfl
      try simp only [Act.put, List.getElem_toArray, List.getElem_cons_zero, List.setIfInBounds_toArray, List.set_cons_zero, List.set_cons_succ]
      refine AnyZ.take (i := 1) (v := ?_) rfl (by kernel_rfl) (by kernel_rfl) (by kernel_rfl) (by kernel_rfl) (fun _ _ _ h => h) (Or.inl ⟨by kernel_rfl, ?_⟩) (by assumption) ?_
      rotate_left
      ·intro w hSw; (try dsimp only at hSw); go_simp; try with_reducible rfl
      try simp only [Act.put, List.getElem_toArray, List.getElem_cons_succ, List.getElem_cons_zero, List.setIfInBounds_toArray, List.set_cons_zero, List.set_cons_succ]
      refine AnyZ.take (i := 2) (v := ?_) rfl (by kernel_rfl) (by kernel_rfl) (by kernel_rfl) (by kernel_rfl) (fun _ _ _ h => h) (Or.inl ⟨by kernel_rfl, ?_⟩) (by assumption) ?_
      rotate_left
      ·intro w hSw; (try dsimp only at hSw); go_simp; try with_reducible rfl
      try simp only [Act.put, List.getElem_toArray, List.getElem_cons_succ, List.getElem_cons_zero, List.setIfInBounds_toArray, List.set_cons_zero, List.set_cons_succ]
      refine AnyZ.take (i := 3) (v := ?_) rfl (by kernel_rfl) (by kernel_rfl) (by kernel_rfl) (by kernel_rfl) (fun _ _ _ h => h) (Or.inl ⟨by kernel_rfl, ?_⟩) (by assumption) ?_
      rotate_left
      ·intro w hSw; (try dsimp only at hSw); go_simp; try with_reducible rfl
      try simp only [Act.put, List.getElem_toArray, List.getElem_cons_succ, List.getElem_cons_zero, List.setIfInBounds_toArray, List.set_cons_zero, List.set_cons_succ]
      refine AnyZ.take (i := 4) (v := ?_) rfl (by kernel_rfl) (by kernel_rfl) (by kernel_rfl) (by kernel_rfl) (fun _ _ _ h => h) (Or.inl ⟨by kernel_rfl, ?_⟩) (by assumption) ?_
      rotate_left
      ·intro w hSw; (try dsimp only at hSw); go_simp; try with_reducible rfl
      try simp only [Act.put, List.getElem_toArray, List.getElem_cons_succ, List.getElem_cons_zero, List.setIfInBounds_toArray, List.set_cons_zero, List.set_cons_succ]
      refine AnyZ.take (i := 5) (v := ?_) rfl (by kernel_rfl) (by kernel_rfl) (by kernel_rfl) (by kernel_rfl) (fun _ _ _ h => h) (Or.inl ⟨by kernel_rfl, ?_⟩) (by assumption) ?_
      rotate_left
      ·intro w hSw; (try dsimp only at hSw); go_simp; try with_reducible rfl
      try simp only [Act.put, List.getElem_toArray, List.getElem_cons_succ, List.getElem_cons_zero, List.setIfInBounds_toArray, List.set_cons_zero, List.set_cons_succ]
      refine AnyZ.take (i := 6) (v := ?_) rfl (by kernel_rfl) (by kernel_rfl) (by kernel_rfl) (by kernel_rfl) (fun _ _ _ h => h) (Or.inl ⟨by kernel_rfl, ?_⟩) (by assumption) ?_
      rotate_left
      ·intro w hSw; (try dsimp only at hSw); go_simp; try with_reducible rfl
      try simp only [Act.put, List.getElem_toArray, List.getElem_cons_succ, List.getElem_cons_zero, List.setIfInBounds_toArray, List.set_cons_zero, List.set_cons_succ]
      refine AnyZ.take (i := 7) (v := ?_) rfl (by kernel_rfl) (by kernel_rfl) (by kernel_rfl) (by kernel_rfl) (fun _ _ _ h => h) (Or.inl ⟨by kernel_rfl, ?_⟩) (by assumption) ?_
      rotate_left
      ·intro w hSw; (try dsimp only at hSw); go_simp; try with_reducible rfl
      try simp only [Act.put, List.getElem_toArray, List.getElem_cons_succ, List.getElem_cons_zero, List.setIfInBounds_toArray, List.set_cons_zero, List.set_cons_succ]
      refine AnyZ.take (i := 8) (v := ?_) rfl (by kernel_rfl) (by kernel_rfl) (by kernel_rfl) (by kernel_rfl) (fun _ _ _ h => h) (Or.inl ⟨by kernel_rfl, ?_⟩) (by assumption) ?_
      rotate_left
      ·intro w hSw; (try dsimp only at hSw); go_simp; try with_reducible rfl
      try simp only [Act.put, List.getElem_toArray, List.getElem_cons_succ, List.getElem_cons_zero, List.setIfInBounds_toArray, List.set_cons_zero, List.set_cons_succ]
      refine AnyZ.take (i := 9) (v := ?_) rfl (by kernel_rfl) (by kernel_rfl) (by kernel_rfl) (by kernel_rfl) (fun _ _ _ h => h) (Or.inl ⟨by kernel_rfl, ?_⟩) (by assumption) ?_
      rotate_left
      ·intro w hSw; (try dsimp only at hSw); go_simp; try with_reducible rfl
      try simp only [Act.put, List.getElem_toArray, List.getElem_cons_succ, List.getElem_cons_zero, List.setIfInBounds_toArray, List.set_cons_zero, List.set_cons_succ]
      refine AnyZ.take (i := 10) (v := ?_) rfl (by kernel_rfl) (by kernel_rfl) (by kernel_rfl) (by kernel_rfl) (fun _ _ _ h => h) (Or.inl ⟨by kernel_rfl, ?_⟩) (by assumption) ?_
      rotate_left
      ·intro w hSw; (try dsimp only at hSw); go_simp; try with_reducible rfl
      try simp only [Act.put, List.getElem_toArray, List.getElem_cons_succ, List.getElem_cons_zero, List.setIfInBounds_toArray, List.set_cons_zero, List.set_cons_succ]
      refine AnyZ.take (i := 11) (v := ?_) rfl (by kernel_rfl) (by kernel_rfl) (by kernel_rfl) (by kernel_rfl) (fun _ _ _ h => h) (Or.inl ⟨by kernel_rfl, ?_⟩) (by assumption) ?_
      rotate_left
      ·intro w hSw; (try dsimp only at hSw); go_simp; try with_reducible rfl
      try simp only [Act.put, List.getElem_toArray, List.getElem_cons_succ, List.getElem_cons_zero, List.setIfInBounds_toArray, List.set_cons_zero, List.set_cons_succ]
      refine AnyZ.takeAny (i := 12) (v := ?_) rfl (by kernel_rfl) (by kernel_rfl) (by kernel_rfl) (by kernel_rfl) (fun _ _ _ h => h) (Or.inl ⟨by kernel_rfl, ?_⟩) (by assumption) ?_
      rotate_left
      ·intro w hSw; (try dsimp only at hSw); go_simp; try with_reducible rfl
      try simp only [Act.put, List.getElem_toArray, List.getElem_cons_succ, List.getElem_cons_zero, List.setIfInBounds_toArray, List.set_cons_zero, List.set_cons_succ]
      refine AnyZ.take (i := 13) (v := ?_) rfl (by kernel_rfl) (by kernel_rfl) (by kernel_rfl) (by kernel_rfl) (fun _ _ _ h => h) (Or.inl ⟨by kernel_rfl, ?_⟩) (by assumption) ?_
      rotate_left
      ·intro w hSw; (try dsimp only at hSw); go_simp; try with_reducible rfl
      try simp only [Act.put, List.getElem_toArray, List.getElem_cons_succ, List.getElem_cons_zero, List.setIfInBounds_toArray, List.set_cons_zero, List.set_cons_succ]
      refine AnyZ.ready (rs := [14]) (by kernel_rfl) (by simp) ?_
      refine AllZ.last rfl (by kernel_rfl) (fun K hK => ?_) AllZ.nil
      go_simp
      refine hK.out _ _ ?_
      clear hK K
      try simp only [Act.put, List.getElem_toArray, List.getElem_cons_succ, List.getElem_cons_zero, List.setIfInBounds_toArray, List.set_cons_zero, List.set_cons_succ]
      refine AnyZ.done (by kernel_rfl) ?_ _
      skip
      clear hHeld
      have v2' : (w7.drew.setCell ⟨wb, 1, none⟩ (.slice (some ⟨b, o, none⟩) pn sc)).cell? ⟨wb, 2, none⟩ = some (.slice EA m ec) := by rw [World.cell?_setCell_other _ _ _ _ (by simp)]; exact v2
      clear v1 v2
      go_upto_region 17 with fail
      refine AnyZ.start (S := (fun V => V.cell? ⟨wb, 2, none⟩ = some (.slice EA m ec))) (z := 15) (by kernel_rfl) ?_ (fun hHeld => ?_)
      ·exact v2'
      refine AnyZ.take (i := 0) (v := ?_) rfl (by kernel_rfl) (by kernel_rfl) (by kernel_rfl) (by kernel_rfl) (fun _ _ _ h => h) (Or.inl ⟨by kernel_rfl, ?_⟩) (by assumption) ?_
      rotate_left
      ·intro w hSw; (try dsimp only at hSw); go_simp; try with_reducible rfl
      try simp only [Act.put, List.getElem_toArray, List.getElem_cons_zero, List.setIfInBounds_toArray, List.set_cons_zero, List.set_cons_succ]
      refine AnyZ.take (i := 1) (v := ?_) rfl (by kernel_rfl) (by kernel_rfl) (by kernel_rfl) (by kernel_rfl) (fun _ _ _ h => h) (Or.inl ⟨by kernel_rfl, ?_⟩) (by assumption) ?_
      rotate_left
      ·intro w hSw; (try dsimp only at hSw); go_simp; try with_reducible rfl
      try simp only [Act.put, List.getElem_toArray, List.getElem_cons_succ, List.getElem_cons_zero, List.setIfInBounds_toArray, List.set_cons_zero, List.set_cons_succ]
      refine AnyZ.take (i := 2) (v := ?_) rfl (by kernel_rfl) (by kernel_rfl) (by kernel_rfl) (by kernel_rfl) (fun _ _ _ h => h) (Or.inl ⟨by kernel_rfl, ?_⟩) (by assumption) ?_
      rotate_left
      ·intro w hSw; (try dsimp only at hSw); go_simp; try with_reducible rfl
      try simp only [Act.put, List.getElem_toArray, List.getElem_cons_succ, List.getElem_cons_zero, List.setIfInBounds_toArray, List.set_cons_zero, List.set_cons_succ]
      refine AnyZ.take (i := 3) (v := ?_) rfl (by kernel_rfl) (by kernel_rfl) (by kernel_rfl) (by kernel_rfl) (fun _ _ _ h => h) (Or.inl ⟨by kernel_rfl, ?_⟩) (by assumption) ?_
      rotate_left
      ·intro w hSw; (try dsimp only at hSw); go_simp; try with_reducible rfl
      try simp only [Act.put, List.getElem_toArray, List.getElem_cons_succ, List.getElem_cons_zero, List.setIfInBounds_toArray, List.set_cons_zero, List.set_cons_succ]
      refine AnyZ.take (i := 4) (v := ?_) rfl (by kernel_rfl) (by kernel_rfl) (by kernel_rfl) (by kernel_rfl) (fun _ _ _ h => h) (Or.inl ⟨by kernel_rfl, ?_⟩) (by assumption) ?_
      rotate_left
      ·intro w hSw; (try dsimp only at hSw); go_simp; try with_reducible rfl
      try simp only [Act.put, List.getElem_toArray, List.getElem_cons_succ, List.getElem_cons_zero, List.setIfInBounds_toArray, List.set_cons_zero, List.set_cons_succ]
      refine AnyZ.take (i := 5) (v := ?_) rfl (by kernel_rfl) (by kernel_rfl) (by kernel_rfl) (by kernel_rfl) (fun _ _ _ h => h) (Or.inl ⟨by kernel_rfl, ?_⟩) (by assumption) ?_
      rotate_left
      ·intro w hSw; (try dsimp only at hSw); go_simp; try with_reducible rfl
      try simp only [Act.put, List.getElem_toArray, List.getElem_cons_succ, List.getElem_cons_zero, List.setIfInBounds_toArray, List.set_cons_zero, List.set_cons_succ]
      refine AnyZ.take (i := 6) (v := ?_) rfl (by kernel_rfl) (by kernel_rfl) (by kernel_rfl) (by kernel_rfl) (fun _ _ _ h => h) (Or.inl ⟨by kernel_rfl, ?_⟩) (by assumption) ?_
      rotate_left
      ·intro w hSw; (try dsimp only at hSw); go_simp; try with_reducible rfl
      try simp only [Act.put, List.getElem_toArray, List.getElem_cons_succ, List.getElem_cons_zero, List.setIfInBounds_toArray, List.set_cons_zero, List.set_cons_succ]
      refine AnyZ.take (i := 7) (v := ?_) rfl (by kernel_rfl) (by kernel_rfl) (by kernel_rfl) (by kernel_rfl) (fun _ _ _ h => h) (Or.inl ⟨by kernel_rfl, ?_⟩) (by assumption) ?_
      rotate_left
      ·intro w hSw; (try dsimp only at hSw); go_simp; try with_reducible rfl
      try simp only [Act.put, List.getElem_toArray, List.getElem_cons_succ, List.getElem_cons_zero, List.setIfInBounds_toArray, List.set_cons_zero, List.set_cons_succ]
      refine AnyZ.take (i := 8) (v := ?_) rfl (by kernel_rfl) (by kernel_rfl) (by kernel_rfl) (by kernel_rfl) (fun _ _ _ h => h) (Or.inl ⟨by kernel_rfl, ?_⟩) (by assumption) ?_
      rotate_left
      ·intro w hSw; (try dsimp only at hSw); go_simp; try with_reducible rfl
      try simp only [Act.put, List.getElem_toArray, List.getElem_cons_succ, List.getElem_cons_zero, List.setIfInBounds_toArray, List.set_cons_zero, List.set_cons_succ]
      refine AnyZ.take (i := 9) (v := ?_) rfl (by kernel_rfl) (by kernel_rfl) (by kernel_rfl) (by kernel_rfl) (fun _ _ _ h => h) (Or.inl ⟨by kernel_rfl, ?_⟩) (by assumption) ?_
      rotate_left
      ·intro w hSw; (try dsimp only at hSw); go_simp; try with_reducible rfl
      try simp only [Act.put, List.getElem_toArray, List.getElem_cons_succ, List.getElem_cons_zero, List.setIfInBounds_toArray, List.set_cons_zero, List.set_cons_succ]
      refine AnyZ.take (i := 10) (v := ?_) rfl (by kernel_rfl) (by kernel_rfl) (by kernel_rfl) (by kernel_rfl) (fun _ _ _ h => h) (Or.inl ⟨by kernel_rfl, ?_⟩) (by assumption) ?_
      rotate_left
      ·intro w hSw; (try dsimp only at hSw); go_simp; try with_reducible rfl
      try simp only [Act.put, List.getElem_toArray, List.getElem_cons_succ, List.getElem_cons_zero, List.setIfInBounds_toArray, List.set_cons_zero, List.set_cons_succ]
      refine AnyZ.take (i := 11) (v := ?_) rfl (by kernel_rfl) (by kernel_rfl) (by kernel_rfl) (by kernel_rfl) (fun _ _ _ h => h) (Or.inl ⟨by kernel_rfl, ?_⟩) (by assumption) ?_
      rotate_left
      ·intro w hSw; (try dsimp only at hSw); go_simp; try with_reducible rfl
      try simp only [Act.put, List.getElem_toArray, List.getElem_cons_succ, List.getElem_cons_zero, List.setIfInBounds_toArray, List.set_cons_zero, List.set_cons_succ]
      refine AnyZ.take (i := 12) (v := ?_) rfl (by kernel_rfl) (by kernel_rfl) (by kernel_rfl) (by kernel_rfl) (fun _ _ _ h => h) (Or.inl ⟨by kernel_rfl, ?_⟩) (by assumption) ?_
      rotate_left
      ·intro w hSw; (try dsimp only at hSw); go_simp; try with_reducible rfl
      try simp only [Act.put, List.getElem_toArray, List.getElem_cons_succ, List.getElem_cons_zero, List.setIfInBounds_toArray, List.set_cons_zero, List.set_cons_succ]
      refine AnyZ.takeAny (i := 13) (v := ?_) rfl (by kernel_rfl) (by kernel_rfl) (by kernel_rfl) (by kernel_rfl) (fun _ _ _ h => h) (Or.inl ⟨by kernel_rfl, ?_⟩) (by assumption) ?_
      rotate_left
      ·intro w hSw; (try dsimp only at hSw); go_simp; try with_reducible rfl
      try simp only [Act.put, List.getElem_toArray, List.getElem_cons_succ, List.getElem_cons_zero, List.setIfInBounds_toArray, List.set_cons_zero, List.set_cons_succ]
      refine AnyZ.take (i := 14) (v := ?_) rfl (by kernel_rfl) (by kernel_rfl) (by kernel_rfl) (by kernel_rfl) (fun _ _ _ h => h) (Or.inl ⟨by kernel_rfl, ?_⟩) (by assumption) ?_
      rotate_left
      ·intro w hSw; (try dsimp only at hSw); go_simp; try with_reducible rfl
      try simp only [Act.put, List.getElem_toArray, List.getElem_cons_succ, List.getElem_cons_zero, List.setIfInBounds_toArray, List.set_cons_zero, List.set_cons_succ]
      refine AnyZ.ready (rs := [15]) (by kernel_rfl) (by simp) ?_
      refine AllZ.last rfl (by kernel_rfl) (fun K hK => ?_) AllZ.nil
      go_simp
      refine hK.out _ _ ?_
      clear hK K
      try simp only [Act.put, List.getElem_toArray, List.getElem_cons_succ, List.getElem_cons_zero, List.setIfInBounds_toArray, List.set_cons_zero, List.set_cons_succ]
      refine AnyZ.done (by kernel_rfl) ?_ _
      skip
      have hbd7 : Below w7.heap.size w7 w7.drew.drew := below_drewN (Below.refl _ _) 2
      have H8 := Lib.hid (H7.out.below hbd7)
      have hch := H8.out.chop (l := m1) (by rw [← HEQ.out.2.2.2.2.2.1]; have := HML.out; have := HM1.out; omega)
      rw [← HEQ.out.2.2.2.1] at hch
      have hwf := wl_frm H8.out hch.2
      go_wp2_with fail
      go_roundw
      case rel =>
       refine ⟨d2, pre.map SgM.s, f, ⟨R, _, _, pre, _, _, em.take m1, hch.1, rfl, ?_⟩, Lib.hid (by rw [HR2.out, if_pos rfl]), Lib.hid (.inl ?_), Lib.hid ⟨j, HXC.out.1⟩, Lib.hid ?_, Lib.hid ⟨(HB7.out.1.trans (hbd7.mono H7.out.dx.le)).trans hwf.1, fun g hg => (hwf.2 g hg).trans ((hbd7.block g (H7.out.oldG g hg)).trans (HB7.out.2 g hg))⟩⟩
       ·rw [List.map_take, HMM.out, HM1.out, HEQ.out.2.2.2.2.2.2, List.take_left]
       ·rcases HFU.out with h9 | h9
        ·rw [HSK.out, List.length_append, List.length_singleton, HFE.out] at h9; omega
        ·have := HLE.out; rw [HSK.out] at h9; exact absurd h9 this
       ·have h9 := HNK.out
        rw [HAL.out, List.length_append] at h9; omega
      case measure =>
       have e1 : entN wb wr = m := by unfold entN; rw [H0.out.blk.cell 2]; exact HEQ.out.2.2.2.2.2.1.symm
       have h9 : (((w7.setCell ⟨wb, 1, none⟩ (.slice (some ⟨b, o, none⟩) pn sc)).setCell ⟨wb, 2, none⟩ (.slice EA m1 ec)).drewN 2).cell? ⟨wb, 2, none⟩ = some (.slice EA (em.take m1).length ec) := hch.1.blk.cell 2
       have e2 : entN wb (((w7.setCell ⟨wb, 1, none⟩ (.slice (some ⟨b, o, none⟩) pn sc)).setCell ⟨wb, 2, none⟩ (.slice EA m1 ec)).drewN 2) < m := by
        unfold entN; rw [h9]
        show (em.take m1).length < m
        rw [List.length_take]
        have := HML.out; have := HM1.out; omega
       rw [e1]; exact e2
     ·have tk : ((k2 : Int) != 0) = true := by rw [bne_iff_ne]; omega
      have HRS : Hid (res = (d2, sk, k2)) := Lib.hid (by rw [HR2.out, if_neg hk0])
      clear hk0
      go_wp2_with fail
      go_ret
      rw [HRS.out]
      exact ⟨rfl, ⟨_, _, _, _, _, _, _, H7.out, HSM.out, HEM.out⟩, HB7.out.1, HB7.out.2⟩
   ·have tg : decide (la ≥ c) = false := decide_eq_false hge
    have HRS : Hid (res = (dk, sk, 0)) := Lib.hid (by rw [HDR.out]; exact cutF_done (by rw [← HEQ.out.1]; omega))
    clear hge
    go_wp2_with fail
    go_ret
    rw [HRS.out]
    exact ⟨rfl, HAT2.out, HB2.out.1, HB2.out.2⟩
end Go.Proofs.YtifgajinfcihmaaGreatDoor
namespace Go.Proofs.YtifgajinfcihmaaGreatDoor
open Go Go.RowKit Go.Maps Go.Lib Mem Pk Dsk Wl Go.Proofs.YtifgajinfcihmaaGreatDoor.Nm
def segN (wb : Nat) (w : World) : Nat := match w.cell? ⟨wb, 1, none⟩ with
 | some (.slice _ n _) => n
 | _ => 0
def DtRel (G : Nat → Prop) (B p wb : Nat) (i : Int) (res : S × List Sg × Nat) (w wr : World) : Prop :=
 ∃ (dk : S) (sk : List Sg), WlAt G B p wb dk sk wr ∧ Hid (res = dropW dk sk i) ∧ Hid (∀ s ∈ sk, s.es ≠ []) ∧ Hid (Below B w wr ∧ Kept G w wr)
set_option maxRecDepth 100000 in
set_option maxHeartbeats 4000000 in
theorem wDrop_any {G : Nat → Prop} {B p wb : Nat} {d : S} {ss : List Sg} {w : World} (h : WlAt G B p wb d ss w) (hne : ∀ s ∈ ss, s.es ≠ []) (i : Int) :
 Calls Tryz.prog 29 #[.pointer (some ⟨wb, 0, none⟩), .int .i64 i] w (LdP G B p wb (dropW d ss i) w) := by
 obtain ⟨res, hres⟩ : ∃ z, z = dropW d ss i := ⟨_, rfl⟩
 rw [← hres]
 have HRES := Lib.hid hres
 have H := Lib.hid h
 have HNE := Lib.hid hne
 clear h hne hres
 go_enter Tryz.func29, Tryz.ntmps29
 go_wp2_with fail
 go_loopw [] (fun wr => DtRel G B p wb i res w wr) (fun wr => segN wb wr)
 case atStart => exact ⟨d, ss, H.out, HRES, HNE, Lib.hid ⟨Below.refl _ _, fun _ _ => rfl⟩⟩
 case round =>
  obtain ⟨dk, sk, hat, HDR, HNK, HBJ⟩ := hrel
  obtain ⟨R, SA, sc, sm, EA, ec, em, h0, hsm, hem⟩ := hat
  cases sm with
  | nil =>
    have hsk : sk = [] := by rw [← hsm]; rfl
    have HRS : Hid (res = (dk, [], 0)) := Lib.hid (by rw [HDR.out, hsk]; rfl)
    have H0 := Lib.hid h0
    have HEM : Hid (em.map EnM.e = allE []) := Lib.hid (by rw [hem, hsk])
    have v1 : wr.cell? ⟨wb, 1, none⟩ = some (.slice SA 0 sc) := h0.blk.cell 1
    clear h0 hsm hem hsk
    go_wp2_with fail
    go_ret
    rw [HRS.out]
    exact ⟨rfl, ⟨_, _, _, _, _, _, _, H0.out, rfl, HEM.out⟩, HBJ.out.1, HBJ.out.2⟩
  | cons x r =>
    have hsk : sk = x.s :: r.map SgM.s := by rw [← hsm]; rfl
    have hl : 0 < x.s.es.length := List.length_pos_iff.2 (HNK.out x.s (by rw [hsk]; simp))
    have hall : em.map EnM.e = x.s.es ++ allE (r.map SgM.s) := by rw [hem, hsk, allE_cons]
    have hml : x.s.es.length ≤ em.length := by have h9 := congrArg List.length hall; rw [List.length_map, List.length_append] at h9; omega
    obtain ⟨b, o, hSA, -, -, -, hc⟩ := h0.segs.at (j := 0) (by simp)
    obtain ⟨eb, eo, hEA, -, -, -, hce⟩ := h0.ents.at (j := x.s.es.length - 1) (by omega)
    subst hSA; subst hEA
    have e0 : wr.cell? ⟨b, o, none⟩ = some (.string (nmWA x.s.ix)) := by have h9 := hc 0 (by decide); rw [Nat.zero_mul, Nat.add_zero] at h9; exact h9
    have e1 : wr.cell? ⟨b, o + 1, none⟩ = some (.slice x.A x.s.es.length x.c) := by have h9 := hc 1 (by decide); rw [Nat.zero_mul, Nat.add_zero] at h9; exact h9
    have hix : em[x.s.es.length - 1].e.ix = lastE x.s.es := by
     rw [lastE_get hl]
     have h9 : (em.map EnM.e)[x.s.es.length - 1]'(by rw [List.length_map]; omega) = x.s.es[x.s.es.length - 1] := by
      simp only [hall]
      rw [List.getElem_append_left (by omega)]
     rw [List.getElem_map] at h9
     rw [h9]
    have e2 : wr.cell? ⟨eb, eo + (x.s.es.length - 1) * 4, none⟩ = some (.int .i64 (lastE x.s.es)) := by
     have h9 := hce 0 (by decide); rw [Nat.add_zero] at h9; rw [h9, ← hix]; rfl
    have v1 : wr.cell? ⟨wb, 1, none⟩ = some (.slice (some ⟨b, o, none⟩) (r.length + 1) sc) := h0.blk.cell 1
    have v2 : wr.cell? ⟨wb, 2, none⟩ = some (.slice (some ⟨eb, eo, none⟩) em.length ec) := h0.blk.cell 2
    have v0 : wr.cell? ⟨wb, 0, none⟩ = some (.pointer (some ⟨p, 0, none⟩)) := h0.blk.cell 0
    have hrl := h0.segs.len0
    have hel := h0.ents.len0
    unfold maxLen at hrl hel
    rw [List.length_cons] at hrl
    obtain ⟨la, hla⟩ : ∃ z, z = lastE x.s.es := ⟨_, rfl⟩
    obtain ⟨l, hll⟩ : ∃ z, z = x.s.es.length := ⟨_, rfl⟩
    obtain ⟨l1, hl1⟩ : ∃ z, z = l - 1 := ⟨_, rfl⟩
    obtain ⟨n, hn⟩ : ∃ z, z = r.length + 1 := ⟨_, rfl⟩
    obtain ⟨m, hm⟩ : ∃ z, z = em.length := ⟨_, rfl⟩
    rw [← hla, ← hll, ← hl1] at e2
    rw [← hll] at e1 hl hml
    rw [← hn] at v1 hrl
    rw [← hm] at v2 hml hel
    have H0 := Lib.hid h0
    have HEQ : Hid (la = lastE x.s.es ∧ l = x.s.es.length ∧ n = r.length + 1 ∧ m = em.length) := Lib.hid ⟨hla, hll, hn, hm⟩
    have HSK := Lib.hid hsk
    have HALL := Lib.hid hall
    have HEM := Lib.hid hem
    have HSMM := Lib.hid hsm
    have hw : IntKind.i64.wrap ((l : Int) - 1) = (l1 : Int) := by rw [IntKind.wrap_i64]; omega
    have hw2 : IntKind.i64.wrap (l1 : Int) = (l1 : Int) := by rw [IntKind.wrap_i64]; omega
    have hn0 : 0 < n := by omega
    have hlm : (l1 : Int) < (m : Int) := by omega
    have hl0 : (0 : Int) ≤ (l1 : Int) := by omega
    clear h0 hsm hem hsk hall hc hce hix hla hll hl1 hn hm
    by_cases hgt : i < la
    ·have tg : decide (la > i) = true := decide_eq_true hgt
     have HRS : Hid (res = (dk, sk, 0)) := Lib.hid (by
      rw [HDR.out, HSK.out]; unfold dropW
      rw [if_pos (by rw [← HEQ.out.1]; exact hgt)])
     clear hgt
     go_wp2_with fail
     go_ret
     rw [HRS.out]
     exact ⟨rfl, ⟨_, _, _, _, _, _, _, H0.out, HSMM.out, HEM.out⟩, HBJ.out.1, HBJ.out.2⟩
    ·have tg : decide (la > i) = false := decide_eq_false hgt
     have hbd : Below wr.heap.size wr wr.drew := below_drewN (Below.refl _ _) 1
     have HWD := Lib.hid (H0.out.below hbd)
     have HBD : Hid (Below B w wr.drew ∧ Kept G w wr.drew) := Lib.hid ⟨HBJ.out.1.trans (hbd.mono H0.out.dx.le), fun g hg => (hbd.block g (H0.out.oldG g hg)).trans (HBJ.out.2 g hg)⟩
     obtain ⟨⟨d2, k2⟩, hrm⟩ : ∃ z, z = Dsk.remove dk (sgN x.s) := ⟨_, rfl⟩
     have HRM := Lib.hid (X_Remove (s' := d2) (k := k2) HWD.out.dx (nmWA x.s.ix) (by unfold nmWA; simp [ByteArray.size, nmOf_len]; unfold maxLen; decide) (by rw [sname_nmWA]; exact hrm.symm) (ki := (k2 : Int)) rfl)
     have HR2 : Hid (res = if k2 = 0 then dropW d2 (r.map SgM.s) i else (d2, sk, k2)) := Lib.hid (by
      rw [HDR.out, HSK.out]
      conv => lhs; unfold dropW
      rw [if_neg (by rw [← HEQ.out.1]; exact hgt), ← hrm])
     obtain ⟨nm, hnm⟩ : ∃ z, z = nmWA x.s.ix := ⟨_, rfl⟩
     rw [← hnm] at e0 HRM
     clear hgt hbd hrm hnm
     go_upto_region 4 with fail
     refine AnyZ.start (S := (fun V => V.cell? ⟨wb, 0, none⟩ = some (.pointer (some ⟨p, 0, none⟩)) ∧ V.cell? ⟨wb, 1, none⟩ = some (.slice (some ⟨b, o, none⟩) n sc) ∧ V.cell? ⟨b, o, none⟩ = some (.string nm))) (z := 1013) (by kernel_rfl) ?_ (fun hHeld => ?_)
     ·exact ⟨v0, v1, e0⟩
     refine AnyZ.take (i := 0) (v := ?_) rfl (by kernel_rfl) (by kernel_rfl) (by kernel_rfl) (by kernel_rfl) (fun _ _ _ h => h) (Or.inl ⟨by kernel_rfl, ?_⟩) (by assumption) ?_
     rotate_left
     ·intro w hSw; (try dsimp only at hSw); go_simp; try with_reducible rfl
     try simp only [Act.put, List.getElem_toArray, List.getElem_cons_zero, List.setIfInBounds_toArray, List.set_cons_zero, List.set_cons_succ]
     refine AnyZ.take (i := 1) (v := ?_) rfl (by kernel_rfl) (by kernel_rfl) (by kernel_rfl) (by kernel_rfl) (fun _ _ _ h => h) (Or.inl ⟨by kernel_rfl, ?_⟩) (by assumption) ?_
     rotate_left
     ·intro w hSw; (try dsimp only at hSw); go_simp; try with_reducible rfl
     try simp only [Act.put, List.getElem_toArray, List.getElem_cons_succ, List.getElem_cons_zero, List.setIfInBounds_toArray, List.set_cons_zero, List.set_cons_succ]
     refine AnyZ.take (i := 2) (v := ?_) rfl (by kernel_rfl) (by kernel_rfl) (by kernel_rfl) (by kernel_rfl) (fun _ _ _ h => h) (Or.inl ⟨by kernel_rfl, ?_⟩) (by assumption) ?_
     rotate_left
     ·intro w hSw; (try dsimp only at hSw); go_simp; try with_reducible rfl
     try simp only [Act.put, List.getElem_toArray, List.getElem_cons_succ, List.getElem_cons_zero, List.setIfInBounds_toArray, List.set_cons_zero, List.set_cons_succ]
     refine AnyZ.take (i := 3) (v := ?_) rfl (by kernel_rfl) (by kernel_rfl) (by kernel_rfl) (by kernel_rfl) (fun _ _ _ h => h) (Or.inl ⟨by kernel_rfl, ?_⟩) (by assumption) ?_
     rotate_left
     ·intro w hSw; (try dsimp only at hSw); go_simp; try with_reducible rfl
     try simp only [Act.put, List.getElem_toArray, List.getElem_cons_succ, List.getElem_cons_zero, List.setIfInBounds_toArray, List.set_cons_zero, List.set_cons_succ]
     refine AnyZ.take (i := 4) (v := ?_) rfl (by kernel_rfl) (by kernel_rfl) (by kernel_rfl) (by kernel_rfl) (fun _ _ _ h => h) (Or.inl ⟨by kernel_rfl, ?_⟩) (by assumption) ?_
     rotate_left
     ·intro w hSw; (try dsimp only at hSw); go_simp; try with_reducible rfl
     try simp only [Act.put, List.getElem_toArray, List.getElem_cons_succ, List.getElem_cons_zero, List.setIfInBounds_toArray, List.set_cons_zero, List.set_cons_succ]
     refine AnyZ.take (i := 5) (v := ?_) rfl (by kernel_rfl) (by kernel_rfl) (by kernel_rfl) (by kernel_rfl) (fun _ _ _ h => h) (Or.inl ⟨by kernel_rfl, ?_⟩) (by assumption) ?_
     rotate_left
     ·intro w hSw; (try dsimp only at hSw); go_simp; try with_reducible rfl
     try simp only [Act.put, List.getElem_toArray, List.getElem_cons_succ, List.getElem_cons_zero, List.setIfInBounds_toArray, List.set_cons_zero, List.set_cons_succ]
     refine AnyZ.take (i := 6) (v := ?_) rfl (by kernel_rfl) (by kernel_rfl) (by kernel_rfl) (by kernel_rfl) (fun _ _ _ h => h) (Or.inl ⟨by kernel_rfl, ?_⟩) (by assumption) ?_
     rotate_left
     ·intro w hSw; (try dsimp only at hSw); go_simp; try with_reducible rfl
     try simp only [Act.put, List.getElem_toArray, List.getElem_cons_succ, List.getElem_cons_zero, List.setIfInBounds_toArray, List.set_cons_zero, List.set_cons_succ]
     refine AnyZ.take (i := 7) (v := ?_) rfl (by kernel_rfl) (by kernel_rfl) (by kernel_rfl) (by kernel_rfl) (fun _ _ _ h => h) (Or.inl ⟨by kernel_rfl, ?_⟩) (by assumption) ?_
     rotate_left
     ·intro w hSw; (try dsimp only at hSw); go_simp; try with_reducible rfl
     try simp only [Act.put, List.getElem_toArray, List.getElem_cons_succ, List.getElem_cons_zero, List.setIfInBounds_toArray, List.set_cons_zero, List.set_cons_succ]
     refine AnyZ.take (i := 8) (v := ?_) rfl (by kernel_rfl) (by kernel_rfl) (by kernel_rfl) (by kernel_rfl) (fun _ _ _ h => h) (Or.inl ⟨by kernel_rfl, ?_⟩) (by assumption) ?_
     rotate_left
     ·intro w hSw; (try dsimp only at hSw); go_simp; try with_reducible rfl
     try simp only [Act.put, List.getElem_toArray, List.getElem_cons_succ, List.getElem_cons_zero, List.setIfInBounds_toArray, List.set_cons_zero, List.set_cons_succ]
     refine AnyZ.take (i := 9) (v := ?_) rfl (by kernel_rfl) (by kernel_rfl) (by kernel_rfl) (by kernel_rfl) (fun _ _ _ h => h) (Or.inl ⟨by kernel_rfl, ?_⟩) (by assumption) ?_
     rotate_left
     ·intro w hSw; (try dsimp only at hSw); go_simp; try with_reducible rfl
     try simp only [Act.put, List.getElem_toArray, List.getElem_cons_succ, List.getElem_cons_zero, List.setIfInBounds_toArray, List.set_cons_zero, List.set_cons_succ]
     refine AnyZ.take (i := 10) (v := ?_) rfl (by kernel_rfl) (by kernel_rfl) (by kernel_rfl) (by kernel_rfl) (fun _ _ _ h => h) (Or.inl ⟨by kernel_rfl, ?_⟩) (by assumption) ?_
     rotate_left
     ·intro w hSw; (try dsimp only at hSw); go_simp; try with_reducible rfl
     try simp only [Act.put, List.getElem_toArray, List.getElem_cons_succ, List.getElem_cons_zero, List.setIfInBounds_toArray, List.set_cons_zero, List.set_cons_succ]
     refine AnyZ.ready (rs := [11]) (by kernel_rfl) (by simp) ?_
     refine AllZ.cons rfl (fun K hK => ?_) AllZ.nil
     go_simp
     (with_reducible refine (HRM.out).mono ?_); rintro e' w7 ⟨rfl, hd7, hb7, hk7⟩
     have H7 := Lib.hid (HWD.out.kept hd7 hk7)
     have HB7 : Hid (Below B w w7 ∧ Kept G w w7) := Lib.hid ⟨HBD.out.1.trans hb7, fun g hg => (hk7 g (.inl (.inl hg))).trans (HBD.out.2 g hg)⟩
     have a0 : w7.cell? ⟨wb, 0, none⟩ = some (.pointer (some ⟨p, 0, none⟩)) := H7.out.blk.cell 0
     have a1 : w7.cell? ⟨wb, 1, none⟩ = some (.slice (some ⟨b, o, none⟩) n sc) := by rw [HEQ.out.2.2.1]; exact H7.out.blk.cell 1
     have a2 : w7.cell? ⟨wb, 2, none⟩ = some (.slice (some ⟨eb, eo, none⟩) m ec) := by rw [HEQ.out.2.2.2]; exact H7.out.blk.cell 2
     have hkk : w7.heap[b]? = wr.heap[b]? := hk7 b (.inl (.inr (H0.out.segs.inF ⟨o, none, rfl⟩)))
     have a3 : w7.cell? ⟨b, o, none⟩ = some (.string nm) := by
      have e9 : w7.cell? ⟨b, o, none⟩ = wr.cell? ⟨b, o, none⟩ := by simp only [World.cell?, hkk]
      rw [e9]; exact e0
     clear hd7 hb7 hk7 hkk e0 e1 e2 v0 v1 v2
     refine hK.out _ _ ?_ (fun hHeld => ?_)
     ·exact ⟨a0, a1, a3⟩
     clear hK K
     try simp only [Act.put, List.getElem_toArray, List.getElem_cons_succ, List.getElem_cons_zero, List.setIfInBounds_toArray, List.set_cons_zero, List.set_cons_succ]
     refine AnyZ.take (i := 12) (v := ?_) rfl (by kernel_rfl) (by kernel_rfl) (by kernel_rfl) (by kernel_rfl) (fun _ _ _ h => h) (Or.inl ⟨by kernel_rfl, ?_⟩) (by assumption) ?_
     rotate_left
     ·intro w hSw; (try dsimp only at hSw); go_simp; try with_reducible rfl
     try simp only [Act.put, List.getElem_toArray, List.getElem_cons_succ, List.getElem_cons_zero, List.setIfInBounds_toArray, List.set_cons_zero, List.set_cons_succ]
     refine AnyZ.done (by kernel_rfl) ?_ _
     skip
     clear hHeld HRM
     by_cases hk0 : k2 = 0
     ·subst hk0
      have tk : ((((0 : Nat) : Int)) != 0) = false := rfl
      obtain ⟨pS, hpS⟩ : ∃ z, z = partK (some ⟨b, o, none⟩) sc 1 4 := ⟨_, rfl⟩
      obtain ⟨pE, hpE⟩ : ∃ z, z = partK (some ⟨eb, eo, none⟩) ec l 4 := ⟨_, rfl⟩
      obtain ⟨rn, hrn⟩ : ∃ z, z = r.length := ⟨_, rfl⟩
      have hnr : n - 1 = rn := by rw [HEQ.out.2.2.1, hrn]; omega
      have hcS : ∀ V, (Instr.slice 90 (.slice (some ⟨b, o, none⟩) n sc) (some (.int .i64 1)) none none).run Tryz.prog V = .ok (.slice pS rn (sc - 1)) V := fun V => by
       have h9 := cutRK (P := Tryz.prog) (k := 4) Tryz.underlying90 (by intro w; kernel_rfl) (some ⟨b, o, none⟩) n sc 1 (by omega) V
       rw [← hpS, hnr] at h9; exact h9
      have hcE : ∀ V, (Instr.slice 37 (.slice (some ⟨eb, eo, none⟩) m ec) (some (.int .i64 (l : Int))) none none).run Tryz.prog V = .ok (.slice pE (m - l) (ec - l)) V := fun V => by
       have h9 := cutRK (P := Tryz.prog) (k := 4) Tryz.underlying37 (by intro w; kernel_rfl) (some ⟨eb, eo, none⟩) m ec l hml V
       rw [← hpE] at h9; exact h9
      have HPE : Hid (pS = partK (some ⟨b, o, none⟩) sc 1 4 ∧ pE = partK (some ⟨eb, eo, none⟩) ec l 4 ∧ rn = r.length) := Lib.hid ⟨hpS, hpE, hrn⟩
      have af := H7.out.blk.free
      clear hpS hpE hrn hnr a3
      go_upto_region 7 with fail
      refine AnyZ.start (S := (fun V => V.cell? ⟨wb, 1, none⟩ = some (.slice (some ⟨b, o, none⟩) n sc) ∧ V.cell? ⟨wb, 2, none⟩ = some (.slice (some ⟨eb, eo, none⟩) m ec))) (z := 15) (by kernel_rfl) ?_ (fun hHeld => ?_)
      ·exact ⟨a1, a2⟩
      refine AnyZ.take (i := 0) (v := ?_) rfl (by kernel_rfl) (by kernel_rfl) (by kernel_rfl) (by kernel_rfl) (fun _ _ _ h => h) (Or.inl ⟨by kernel_rfl, ?_⟩) (by assumption) ?_
      rotate_left
      ·intro w hSw; (try dsimp only at hSw); go_simp; try with_reducible rfl
      try simp only [Act.put, List.getElem_toArray, List.getElem_cons_zero, List.setIfInBounds_toArray, List.set_cons_zero, List.set_cons_succ]
      refine AnyZ.takeAny (i := 1) (v := ?_) rfl (by kernel_rfl) (by kernel_rfl) (by kernel_rfl) (by kernel_rfl) (fun _ _ _ h => h) (Or.inl ⟨by kernel_rfl, ?_⟩) (by assumption) ?_
      rotate_left
      ·intro w hSw; (try dsimp only at hSw); go_simp; try with_reducible rfl
      try simp only [Act.put, List.getElem_toArray, List.getElem_cons_succ, List.getElem_cons_zero, List.setIfInBounds_toArray, List.set_cons_zero, List.set_cons_succ]
      refine AnyZ.take (i := 2) (v := ?_) rfl (by kernel_rfl) (by kernel_rfl) (by kernel_rfl) (by kernel_rfl) (fun _ _ _ h => h) (Or.inl ⟨by kernel_rfl, ?_⟩) (by assumption) ?_
      rotate_left
      ·intro w hSw; (try dsimp only at hSw); go_simp; try with_reducible rfl
      try simp only [Act.put, List.getElem_toArray, List.getElem_cons_succ, List.getElem_cons_zero, List.setIfInBounds_toArray, List.set_cons_zero, List.set_cons_succ]
      refine AnyZ.take (i := 3) (v := ?_) rfl (by kernel_rfl) (by kernel_rfl) (by kernel_rfl) (by kernel_rfl) (fun _ _ _ h => h) (Or.inl ⟨by kernel_rfl, ?_⟩) (by assumption) ?_
      rotate_left
      ·intro w hSw; (try dsimp only at hSw); go_simp; try with_reducible rfl
      try simp only [Act.put, List.getElem_toArray, List.getElem_cons_succ, List.getElem_cons_zero, List.setIfInBounds_toArray, List.set_cons_zero, List.set_cons_succ]
      refine AnyZ.take (i := 4) (v := ?_) rfl (by kernel_rfl) (by kernel_rfl) (by kernel_rfl) (by kernel_rfl) (fun _ _ _ h => h) (Or.inl ⟨by kernel_rfl, ?_⟩) (by assumption) ?_
      rotate_left
      ·intro w hSw; (try dsimp only at hSw); go_simp; try with_reducible rfl
      try simp only [Act.put, List.getElem_toArray, List.getElem_cons_succ, List.getElem_cons_zero, List.setIfInBounds_toArray, List.set_cons_zero, List.set_cons_succ]
      refine AnyZ.take (i := 5) (v := ?_) rfl (by kernel_rfl) (by kernel_rfl) (by kernel_rfl) (by kernel_rfl) (fun _ _ _ h => h) (Or.inl ⟨by kernel_rfl, ?_⟩) (by assumption) ?_
      rotate_left
      ·intro w hSw; (try dsimp only at hSw); go_simp; try with_reducible rfl
      try simp only [Act.put, List.getElem_toArray, List.getElem_cons_succ, List.getElem_cons_zero, List.setIfInBounds_toArray, List.set_cons_zero, List.set_cons_succ]
      refine AnyZ.take (i := 6) (v := ?_) rfl (by kernel_rfl) (by kernel_rfl) (by kernel_rfl) (by kernel_rfl) (fun _ _ _ h => h) (Or.inl ⟨by kernel_rfl, ?_⟩) (by assumption) ?_
      rotate_left
      ·intro w hSw; (try dsimp only at hSw); go_simp; try with_reducible rfl
      try simp only [Act.put, List.getElem_toArray, List.getElem_cons_succ, List.getElem_cons_zero, List.setIfInBounds_toArray, List.set_cons_zero, List.set_cons_succ]
      refine AnyZ.takeAny (i := 7) (v := ?_) rfl (by kernel_rfl) (by kernel_rfl) (by kernel_rfl) (by kernel_rfl) (fun _ _ _ h => h) (Or.inl ⟨by kernel_rfl, ?_⟩) (by assumption) ?_
      rotate_left
      ·intro w hSw; (try dsimp only at hSw); go_simp; try with_reducible rfl
      try simp only [Act.put, List.getElem_toArray, List.getElem_cons_succ, List.getElem_cons_zero, List.setIfInBounds_toArray, List.set_cons_zero, List.set_cons_succ]
      refine AnyZ.takeAny (i := 8) (v := ?_) rfl (by kernel_rfl) (by kernel_rfl) (by kernel_rfl) (by kernel_rfl) (fun _ _ _ h => h) (Or.inl ⟨by kernel_rfl, ?_⟩) (by assumption) ?_
      rotate_left
      ·intro w hSw; (try dsimp only at hSw); go_simp; try with_reducible rfl
      try simp only [Act.put, List.getElem_toArray, List.getElem_cons_succ, List.getElem_cons_zero, List.setIfInBounds_toArray, List.set_cons_zero, List.set_cons_succ]
      refine AnyZ.takeAny (i := 9) (v := ?_) rfl (by kernel_rfl) (by kernel_rfl) (by kernel_rfl) (by kernel_rfl) (fun _ _ _ h => h) (Or.inl ⟨by kernel_rfl, ?_⟩) (by assumption) ?_
      rotate_left
      ·intro w hSw; (try dsimp only at hSw); go_simp; try with_reducible rfl
      try simp only [Act.put, List.getElem_toArray, List.getElem_cons_succ, List.getElem_cons_zero, List.setIfInBounds_toArray, List.set_cons_zero, List.set_cons_succ]
      refine AnyZ.take (i := 10) (v := ?_) rfl (by kernel_rfl) (by kernel_rfl) (by kernel_rfl) (by kernel_rfl) (fun _ _ _ h => h) (Or.inl ⟨by kernel_rfl, ?_⟩) (by assumption) ?_
      rotate_left
      ·intro w hSw; (try dsimp only at hSw); go_simp; try with_reducible rfl
      try simp only [Act.put, List.getElem_toArray, List.getElem_cons_succ, List.getElem_cons_zero, List.setIfInBounds_toArray, List.set_cons_zero, List.set_cons_succ]
      refine AnyZ.takeAny (i := 11) (v := ?_) rfl (by kernel_rfl) (by kernel_rfl) (by kernel_rfl) (by kernel_rfl) (fun _ _ _ h => h) (Or.inl ⟨by kernel_rfl, ?_⟩) (by assumption) ?_
      rotate_left
      ·intro w hSw; (try dsimp only at hSw); go_simp; try with_reducible rfl
      try simp only [Act.put, List.getElem_toArray, List.getElem_cons_succ, List.getElem_cons_zero, List.setIfInBounds_toArray, List.set_cons_zero, List.set_cons_succ]
      refine AnyZ.takeAny (i := 12) (v := ?_) rfl (by kernel_rfl) (by kernel_rfl) (by kernel_rfl) (by kernel_rfl) (fun _ _ _ h => h) (Or.inl ⟨by kernel_rfl, ?_⟩) (by assumption) ?_
      rotate_left
      ·intro w hSw; (try dsimp only at hSw); go_simp; try with_reducible rfl
      try simp only [Act.put, List.getElem_toArray, List.getElem_cons_succ, List.getElem_cons_zero, List.setIfInBounds_toArray, List.set_cons_zero, List.set_cons_succ]
      refine AnyZ.takeAny (i := 13) (v := ?_) rfl (by kernel_rfl) (by kernel_rfl) (by kernel_rfl) (by kernel_rfl) (fun _ _ _ h => h) (Or.inl ⟨by kernel_rfl, ?_⟩) (by assumption) ?_
      rotate_left
      ·intro w hSw; (try dsimp only at hSw); go_simp; try with_reducible rfl
      try simp only [Act.put, List.getElem_toArray, List.getElem_cons_succ, List.getElem_cons_zero, List.setIfInBounds_toArray, List.set_cons_zero, List.set_cons_succ]
      refine AnyZ.take (i := 14) (v := ?_) rfl (by kernel_rfl) (by kernel_rfl) (by kernel_rfl) (by kernel_rfl) (fun _ _ _ h => h) (Or.inl ⟨by kernel_rfl, ?_⟩) (by assumption) ?_
      rotate_left
      ·intro w hSw; (try dsimp only at hSw); go_simp; try with_reducible rfl
      try simp only [Act.put, List.getElem_toArray, List.getElem_cons_succ, List.getElem_cons_zero, List.setIfInBounds_toArray, List.set_cons_zero, List.set_cons_succ]
      refine AnyZ.ready (rs := [15]) (by kernel_rfl) (by simp) ?_
      refine AllZ.last rfl (by kernel_rfl) (fun K hK => ?_) AllZ.nil
      go_simp
      refine hK.out _ _ ?_
      clear hK K
      try simp only [Act.put, List.getElem_toArray, List.getElem_cons_succ, List.getElem_cons_zero, List.setIfInBounds_toArray, List.set_cons_zero, List.set_cons_succ]
      refine AnyZ.takeFree (i := 16) (v := ?_) rfl (by kernel_rfl) (by kernel_rfl) (by kernel_rfl) (by kernel_rfl) (fun _ _ _ h => h) (Or.inl ⟨by kernel_rfl, ?_⟩) ?_
      rotate_left
      ·intro w hSw; (try dsimp only at hSw); go_simp; try with_reducible rfl
      try simp only [Act.put, List.getElem_toArray, List.getElem_cons_succ, List.getElem_cons_zero, List.setIfInBounds_toArray, List.set_cons_zero, List.set_cons_succ]
      refine AnyZ.takeFree (i := 17) (v := ?_) rfl (by kernel_rfl) (by kernel_rfl) (by kernel_rfl) (by kernel_rfl) (fun _ _ _ h => h) (Or.inl ⟨by kernel_rfl, ?_⟩) ?_
      rotate_left
      ·intro w hSw; (try dsimp only at hSw); go_simp; try with_reducible rfl
      try simp only [Act.put, List.getElem_toArray, List.getElem_cons_succ, List.getElem_cons_zero, List.setIfInBounds_toArray, List.set_cons_zero, List.set_cons_succ]
      refine AnyZ.ready (rs := [18]) (by kernel_rfl) (by simp) ?_
      refine AllZ.free rfl (by kernel_rfl) (fun K hK => ?_) AllZ.nil
      go_simp
      refine hK.out _ _ ?_
      clear hK K
      try simp only [Act.put, List.getElem_toArray, List.getElem_cons_succ, List.getElem_cons_zero, List.setIfInBounds_toArray, List.set_cons_zero, List.set_cons_succ]
      refine AnyZ.done (by kernel_rfl) ?_ _
      skip
      have H8 := Lib.hid (H7.out.below (below_drewN (Below.refl _ _) 1 : Below w7.heap.size w7 w7.drew))
      have hbh := H8.out.behead (l := l) (by rw [← HEQ.out.2.2.2]; exact hml)
      rw [← HPE.out.1, ← HPE.out.2.1, ← HPE.out.2.2, ← HEQ.out.2.2.2] at hbh
      have hwf := wl_frm H8.out hbh.2
      have hbd7 : Below w7.heap.size w7 w7.drew := below_drewN (Below.refl _ _) 1
      go_wp2_with fail
      go_roundw
      case rel =>
       refine ⟨d2, r.map SgM.s, ⟨R, _, _, r, _, _, em.drop l, hbh.1, rfl, ?_⟩, Lib.hid (by rw [HR2.out, if_pos rfl]), Lib.hid (fun s hs => HNK.out s (by rw [HSK.out]; exact List.mem_cons_of_mem _ hs)), Lib.hid ⟨(HB7.out.1.trans (hbd7.mono H7.out.dx.le)).trans hwf.1, fun g hg => (hwf.2 g hg).trans ((hbd7.block g (H7.out.oldG g hg)).trans (HB7.out.2 g hg))⟩⟩
       rw [List.map_drop, HALL.out, HEQ.out.2.1, List.drop_left]
      case measure =>
       have e1 : segN wb wr = r.length + 1 := by unfold segN; rw [H0.out.blk.cell 1]; rfl
       have h9 : ((w7.setCell ⟨wb, 1, none⟩ (.slice pS rn (sc - 1))).setCell ⟨wb, 2, none⟩ (.slice pE (m - l) (ec - l))).drew.cell? ⟨wb, 1, none⟩ = some (.slice pS r.length (sc - 1)) := hbh.1.blk.cell 1
       have e2 : segN wb ((w7.setCell ⟨wb, 1, none⟩ (.slice pS rn (sc - 1))).setCell ⟨wb, 2, none⟩ (.slice pE (m - l) (ec - l))).drew = r.length := by unfold segN; rw [h9]
       rw [e1, e2]; omega
     ·have tk : ((k2 : Int) != 0) = true := by rw [bne_iff_ne]; omega
      have HRS : Hid (res = (d2, sk, k2)) := Lib.hid (by rw [HR2.out, if_neg hk0])
      clear hk0
      go_wp2_with fail
      go_ret
      rw [HRS.out]
      exact ⟨rfl, ⟨_, _, _, _, _, _, _, H7.out, HSMM.out, HEM.out⟩, HB7.out.1, HB7.out.2⟩
end Go.Proofs.YtifgajinfcihmaaGreatDoor
namespace Go.Proofs.YtifgajinfcihmaaGreatDoor
open Go Go.RowKit Go.Maps Go.Lib Mem Pk Dsk Wl Go.Proofs.YtifgajinfcihmaaGreatDoor.Nm
def EnsP (es : List En) (w : World) (e : Ending) (w' : World) : Prop :=
 ∃ A c xs, e = .returned (.slice A es.length c) ∧ Rw 4 emC 40 (fun g => w.heap.size ≤ g) w' A c xs ∧ xs.map EnM.e = es ∧ (∀ x ∈ xs, EmOK (fun g => w.heap.size ≤ g) w' x) ∧ Below w.heap.size w w'
def EeRel (em : List EnM) (w : World) (ov iv : Value) (wr : World) : Prop :=
 ∃ (k : Nat) (xs : List EnM) (A : Option Addr) (c : Nat), k ≤ em.length ∧ iv = .int .i64 k ∧ xs.length = k ∧ ov = .slice A xs.length c ∧ Rw 4 emC 40 (fun g => w.heap.size ≤ g) wr A c xs ∧ Hid (xs.map EnM.e = (em.take k).map EnM.e) ∧ Hid (∀ x ∈ xs, EmOK (fun g => w.heap.size ≤ g) wr x) ∧ Hid (Below w.heap.size w wr)
set_option maxRecDepth 100000 in
set_option maxHeartbeats 4000000 in
theorem wEntries_any {G : Nat → Prop} {B p wb : Nat} {d : S} {ss : List Sg} {es : List En} {w : World} (h : WlE G B p wb d ss es w) (hn : es.length ≤ 900000) (hr : allR es) :
 Calls Tryz.prog 17 #[.pointer (some ⟨wb, 0, none⟩)] w (EnsP es w) := by
 obtain ⟨R, SA, sc, sm, EA, ec, em, h0, hsm, hem⟩ := h
 have hel : em.length = es.length := by rw [← hem, List.length_map]
 have v2 : w.cell? ⟨wb, 2, none⟩ = some (.slice EA em.length ec) := h0.blk.cell 2
 have hml : em.length ≤ 900000 := by omega
 have HEM := Lib.hid hem
 have HR := Lib.hid hr
 have HEN := Lib.hid h0.ents
 have HEK := Lib.hid h0.eok
 clear h0 hsm hem hr hn hel
 go_enter Tryz.func17, Tryz.ntmps17
 go_wp2_with fail
 go_loopw [3, 11] (fun ov iv wr => EeRel em w ov iv wr) (fun _ iv _ => em.length - (RowKit.intOf iv).toNat)
 case atStart => exact ⟨0, [], none, 0, Nat.zero_le _, rfl, rfl, rfl, Rw.nil, Lib.hid rfl, Lib.hid (fun _ h => by cases h), Lib.hid (Below.refl _ _)⟩
 case round =>
  obtain ⟨k, xs, A, c, hk, rfl, hxk, rfl, hrw, HXE, HOK, HBW⟩ := hrel
  have HRW := Lib.hid hrw
  have HXK := Lib.hid hxk
  by_cases hlt : k < em.length
  ·obtain ⟨b, o, hEA, -, -, -, hc⟩ := (HEN.out.below HBW.out).at hlt
   subst hEA
   obtain ⟨x, hx⟩ : ∃ x, x = em[k] := ⟨_, rfl⟩
   rw [← hx] at hc
   have c0 : wr.cell? ⟨b, o + k * 4, none⟩ = some (.int .i64 x.e.ix) := hc 0 (by decide)
   have c1 : wr.cell? ⟨b, o + k * 4 + 1, none⟩ = some (.int .i64 x.e.tm) := hc 1 (by decide)
   have c2 : wr.cell? ⟨b, o + k * 4 + 2, none⟩ = some (.int .i64 x.e.kd) := hc 2 (by decide)
   have c3 : wr.cell? ⟨b, o + k * 4 + 3, none⟩ = some (.slice x.A x.e.ds.length x.c) := hc 3 (by decide)
   have hk0 : (0 : Int) ≤ (k : Int) := by omega
   have hk1 : (k : Int) < (em.length : Int) := by omega
   have hxok := (HEK.out x (by rw [hx]; exact List.getElem_mem hlt)).below HBW.out
   have hxr := rightE_iff.1 (HR.out x.e (by rw [← HEM.out, hx]; exact List.mem_map_of_mem (List.getElem_mem hlt)))
   obtain ⟨wa, hwa⟩ : ∃ z, z = wr.alloc (.cells #[.int .i64 x.e.ix, .int .i64 x.e.tm, .int .i64 x.e.kd, .slice x.A x.e.ds.length x.c] 40) := ⟨_, rfl⟩
   have hba : Below wr.heap.size wr wa := by rw [hwa]; exact (Below.refl _ _).alloc (Nat.le_refl _) _
   have hxa : Blk wa wr.heap.size 40 #[.int .i64 x.e.ix, .int .i64 x.e.tm, .int .i64 x.e.kd, .slice x.A x.e.ds.length x.c] := by rw [hwa]; exact Blk.new_ wr _ _
   have HXA := Lib.hid hxa
   have HBA := Lib.hid hba
   have HWA := Lib.hid hwa
   have HCL := Lib.hid (CloneB_any x.A x.c x.e.ds (by omega) wa (hxok.below hba).sl.sl)
   have k3 : wa.cell? ⟨wr.heap.size, 3, none⟩ = some (.slice x.A x.e.ds.length x.c) := hxa.cell 3
   have HX := Lib.hid hx
   have HLT := Lib.hid hlt
   obtain ⟨gb, hgb⟩ : ∃ z, z = wr.heap.size := ⟨_, rfl⟩
   have HGB := Lib.hid hgb
   clear hc hx hxok hxr hwa hba hxa hrw hxk hgb
   go_upto_region 5 with fail
   rw [← HWA.out]
   clear HWA c0 c1 c2 c3
   go_wp2_with fail
   (with_reducible refine HCL.out.mono ?_); rintro e' w10 ⟨A10, c10, rfl, ho10, hb10⟩
   have HO10 := Lib.hid ho10
   have HB10 := Lib.hid hb10
   have bx10 := HXA.out.below hb10 HXA.out.lt
   have HBX10 := Lib.hid bx10
   have q3 : w10.cell? ⟨wr.heap.size, 3, none⟩ = some (.slice x.A x.e.ds.length x.c) := bx10.cell 3
   have qf3 := bx10.free 3
   clear ho10 hb10 bx10 k3 HCL
   go_upto_region 6 with fail
   obtain ⟨w11, hw11⟩ : ∃ z, z = w10.setCell ⟨wr.heap.size, 3, none⟩ (.slice A10 x.e.ds.length c10) := ⟨_, rfl⟩
   rw [← hw11]
   have HBX11 : Hid (Blk w11 wr.heap.size 40 #[.int .i64 x.e.ix, .int .i64 x.e.tm, .int .i64 x.e.kd, .slice A10 x.e.ds.length c10]) := Lib.hid (by rw [hw11]; exact HBX10.out.set_ 3 _)
   have hr10 : Rw 4 emC 40 (fun g => w.heap.size ≤ g ∧ g < wr.heap.size) w10 A c xs := ((HRW.out.mono (fun g hl hg => ⟨hg, hl⟩)).below HBA.out).frm (G := fun _ => False) (Frm.below HB10.out) (fun _ _ h => h)
   have HR11 : Hid (Rw 4 emC 40 (fun g => w.heap.size ≤ g ∧ g < wr.heap.size) w11 A c xs) := Lib.hid (by rw [hw11]; exact hr10.far HBX10.out (.inr (fun h9 => by omega)) 3 _)
   have HE11 : Hid (∀ x ∈ xs, EmOK (fun g => w.heap.size ≤ g) w11 x) := Lib.hid (fun z hz => by rw [hw11]; exact (((HOK.out z hz).below HBA.out).below HB10.out).far HBX10.out (by decide) 3 _)
   have hsn : SlB fB 5 (fun g => w.heap.size ≤ g) w10 A10 x.e.ds := (SlB.of_own HO10.out).2.mono (fun g _ hg => by have := HBW.out.size; have := HBA.out.size; omega)
   have HN11 : Hid (EmOK (fun g => w.heap.size ≤ g) w11 ⟨x.e, A10, c10⟩) := Lib.hid (by
    rw [hw11]
    exact EmOK.far (x := ⟨x.e, A10, c10⟩) ⟨hsn, (Mem.Own.cap HO10.out).1, (Mem.Own.cap HO10.out).2⟩ HBX10.out (by decide) 3 _)
   have HBL11 : Hid (Below w.heap.size w w11) := Lib.hid (by
    rw [hw11]
    exact ((HBW.out.trans (HBA.out.mono HBW.out.size)).trans (HB10.out.mono (Nat.le_trans HBW.out.size HBA.out.size))).setCell (by simp; exact HBW.out.size) _)
   have g0 : w11.cell? ⟨wr.heap.size, 0, none⟩ = some (.int .i64 x.e.ix) := HBX11.out.cell 0
   have g1 : w11.cell? ⟨wr.heap.size, 1, none⟩ = some (.int .i64 x.e.tm) := HBX11.out.cell 1
   have g2 : w11.cell? ⟨wr.heap.size, 2, none⟩ = some (.int .i64 x.e.kd) := HBX11.out.cell 2
   have g3 : w11.cell? ⟨wr.heap.size, 3, none⟩ = some (.slice A10 x.e.ds.length c10) := HBX11.out.cell 3
   clear hw11 hr10 hsn q3 qf3
   go_wp2_with (at_builtin; refine wpList_appendR1 (f := emC) rfl (.tmp 19) (.tmp 21) 37 rfl entT emC_len ⟨x.e, A10, c10⟩ (emC_one _) rfl rfl HR11.out rfl rfl (by have := HXK.out; unfold maxLen; omega) (by have := HXK.out; omega) ?_; intro A12 c12 w12 hr12 hf12; have HR12 := Lib.hid hr12; have HF12 := Lib.hid hf12; clear hr12 hf12)
   go_roundw
   case rel =>
    refine ⟨k + 1, xs ++ [⟨x.e, A10, c10⟩], A12, c12, HLT.out, by go_num, by rw [List.length_append, HXK.out]; rfl, by rw [List.length_append]; rfl, HR12.out.mono (fun g _ hg => by have := HBL11.out.size; omega), Lib.hid ?_, Lib.hid (fun z hz => ?_), Lib.hid (HBL11.out.trans (HF12.out.to_below (fun g _ h1 h2 => by omega) HBL11.out.size))⟩
    ·rw [List.map_append, HXE.out, List.take_succ_eq_append_getElem HLT.out, List.map_append, ← HX.out]; rfl
    ·rcases List.mem_append.1 hz with hz | hz
     ·exact (HE11.out z hz).frmA HR11.out (by decide) HF12.out
     ·rw [List.mem_singleton.1 hz]; exact HN11.out.frmA HR11.out (by decide) HF12.out
   case measure => simp [RowKit.intOf]; have := HLT.out; omega
  ·have hkm : k = em.length := by omega
   have hlt2 : ¬ ((k : Int) < (em.length : Int)) := by omega
   have HES : Hid (xs.map EnM.e = es ∧ xs.length = es.length) := Lib.hid (by
    have h9 : xs.map EnM.e = es := by rw [HXE.out, List.take_of_length_le (by omega), HEM.out]
    exact ⟨h9, by rw [← h9, List.length_map]⟩)
   clear hrw hxk hlt hkm
   go_wp2_with fail
   go_ret
   exact ⟨A, c, xs, by rw [HES.out.2]; rfl, HRW.out, HES.out.1, HOK.out, HBW.out⟩
structure EnIn (w : World) (A : Option Addr) (xs : List EnM) : Prop where
 len : xs.length ≤ maxLen
 at_ : ∀ k (h : k < xs.length), ∃ b o, A = some ⟨b, o, none⟩ ∧ b < w.heap.size ∧ ∀ i, i < 4 → w.cell? ⟨b, o + k * 4 + i, none⟩ = (emC xs[k])[i]?
 ds : ∀ x ∈ xs, Sl fB w x.A x.e.ds
theorem EnIn.of_rw {F F' : Nat → Prop} {w : World} {A : Option Addr} {c : Nat} {xs : List EnM} (h : Rw 4 emC 40 F w A c xs) (hd : ∀ x ∈ xs, EmOK F' w x) : EnIn w A xs :=
 ⟨h.len0, fun k hk => by obtain ⟨b, o, h1, -, h2, -, h3⟩ := h.at hk; exact ⟨b, o, h1, h2, h3⟩, fun x hx => (hd x hx).sl.sl⟩
theorem EnIn.below {w w' : World} {A : Option Addr} {xs : List EnM} (h : EnIn w A xs) (hb : Below w.heap.size w w') : EnIn w' A xs :=
 ⟨h.len, fun k hk => by
  obtain ⟨b, o, h1, h2, h3⟩ := h.at_ k hk
  exact ⟨b, o, h1, Nat.lt_of_lt_of_le h2 hb.size, fun i hi => (hb.cell (p := ⟨b, o + k * 4 + i, none⟩) h2).trans (h3 i hi)⟩, fun x hx => (h.ds x hx).below hb⟩
end Go.Proofs.YtifgajinfcihmaaGreatDoor
