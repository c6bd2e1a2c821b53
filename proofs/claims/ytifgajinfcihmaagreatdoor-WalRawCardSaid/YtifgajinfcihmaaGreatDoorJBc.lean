/- Layer 6: how a wal lies in memory. -/
import Derived.Test.YtifgajinfcihmaaGreatDoorJAi
import Derived.Test.YtifgajinfcihmaaGreatDoorJAt
import Derived.Test.YtifgajinfcihmaaGreatDoorJAv
import Derived.Test.YtifgajinfcihmaaGreatDoorJAz
import Derived.Test.YtifgajinfcihmaaGreatDoorJBb
namespace Go.Proofs.YtifgajinfcihmaaGreatDoor
open Go Go.RowKit Go.Maps Go.Lib Mem Pk Dsk Wl Go.Proofs.YtifgajinfcihmaaGreatDoor.Nm
section
variable {α β : Type} {k k' : Nat} {f : α → List Value} {f' : β → List Value} {e e' : TypeId} {F F' : Nat → Prop} {w w' : World} {A A' : Option Addr} {c c' : Nat} {xs : List α} {ys : List β}
theorem Mem.Rw.typ (h : Rw k f e F w A c xs) {g : Nat} (ha : atA A g) : ∃ cur, Blk w g e cur := by
 obtain ⟨o, q, hA⟩ := ha
 rcases h.2.2 with ⟨h0, _⟩ | ⟨b, o', cur, a1, a2, a3, _⟩
 ·rw [h0] at hA; cases hA
 ·rw [a1] at hA; injection hA with hA; injection hA with hb
  subst hb; exact ⟨cur, a3⟩
theorem Mem.Rw.inF (h : Rw k f e F w A c xs) {g : Nat} (ha : atA A g) : F g := by
 obtain ⟨o, q, hA⟩ := ha
 rcases h.2.2 with ⟨h0, _⟩ | ⟨b, o', cur, a1, a2, a3, _⟩
 ·rw [h0] at hA; cases hA
 ·rw [a1] at hA; injection hA with hA; injection hA with hb
  subst hb; exact a2
theorem blk_type {w : World} {g : Nat} {t t' : TypeId} {cs cs' : Array Value} (h : Blk w g t cs) (h' : Blk w g t' cs') : t = t' := by
 unfold Blk at h h'; rw [h] at h'; injection h' with h'; injection h' with _ h2
theorem Mem.Rw.frmA (h : Rw k f e F w A c xs) (h' : Rw k' f' e' F' w A' c' ys) (hne : e ≠ e') (hf : Frm (fun g => F' g ∧ atA A' g) w w') : Rw k f e F w' A c xs :=
 h.keep fun g cur _ hb => hb.frm hf (fun ⟨_, ha⟩ => by obtain ⟨cur', hb'⟩ := h'.typ ha; exact hne (blk_type hb hb'))
theorem Mem.Blk.frmA {g : Nat} {t : TypeId} {cs : Array Value} (hb : Blk w g t cs) (h' : Rw k' f' e' F' w A' c' ys) (hne : t ≠ e') (hf : Frm (fun g => F' g ∧ atA A' g) w w') : Blk w' g t cs :=
 hb.frm hf (fun ⟨_, ha⟩ => by obtain ⟨cur', hb'⟩ := h'.typ ha; exact hne (blk_type hb hb'))
theorem Mem.SlB.frmA {γ : Type} {fv : γ → Value} {zs : List γ} (h : SlB fv e F w A zs) (h' : Rw k' f' e' F' w A' c' ys) (hne : e ≠ e') (hf : Frm (fun g => F' g ∧ atA A' g) w w') : SlB fv e F w' A zs :=
 h.keep fun g cur fr _ hg => hf.block g (lt_of_block hg) (fun ⟨_, ha⟩ => by
  obtain ⟨cur', hb'⟩ := h'.typ ha
  unfold Blk at hb'
  rw [hg] at hb'; injection hb' with hb'; injection hb' with _ h2; exact hne h2)
end
structure EnM where
 e : En
 A : Option Addr
 c : Nat
def emC (x : EnM) : List Value := [.int .i64 x.e.ix, .int .i64 x.e.tm, .int .i64 x.e.kd, .slice x.A x.e.ds.length x.c]
theorem emC_len (x : EnM) : (emC x).length = 4 := rfl
theorem emC_one (x : EnM) : ∀ y ∈ emC x, y.oneCell' = true := by
 intro y hy
 simp only [emC, List.mem_cons, List.not_mem_nil, or_false] at hy
 rcases hy with rfl | rfl | rfl | rfl <;> rfl
structure EmOK (F : Nat → Prop) (w : World) (x : EnM) : Prop where
 sl : SlB fB 5 F w x.A x.e.ds
 len : x.e.ds.length ≤ x.c
 cap : x.c ≤ maxLen
structure EmD (F : Nat → Prop) (w : World) (x : EnM) : Prop where
 sl : ∃ te, SlB fB te F w x.A x.e.ds
 len : x.e.ds.length ≤ x.c
 cap : x.c ≤ maxLen
structure SgM where
 s : Sg
 A : Option Addr
 c : Nat
def ats (es : List En) : List Int := (List.range es.length).map fun k => ((recsB (es.take k)).length : Int)
theorem ats_len (es : List En) : (ats es).length = es.length := by unfold ats; simp
theorem ats_snoc (es : List En) (e : En) : ats (es ++ [e]) = ats es ++ [((recsB es).length : Int)] := by
 unfold ats
 rw [List.length_append, List.length_singleton, List.range_succ, List.map_append]
 congr 1
 ·apply List.map_congr_left
  intro k hk
  have := List.mem_range.1 hk
  rw [List.take_append_of_le_length (by omega)]
 ·simp
theorem ats_get {es : List En} {k : Nat} (h : k < (ats es).length) : (ats es)[k] = ((recsB (es.take k)).length : Int) := by simp [ats]
theorem ats_take (es : List En) (k : Nat) : ats (es.take k) = (ats es).take k := by
 refine List.ext_getElem (by rw [ats_len, List.length_take, List.length_take, ats_len]) (fun j h1 h2 => ?_)
 rw [ats_len, List.length_take] at h1
 rw [List.getElem_take, ats_get, ats_get, List.take_take, Nat.min_eq_left (by omega)]
def iC (n : Int) : List Value := [.int .i64 n]
theorem iC_len (n : Int) : (iC n).length = 1 := rfl
theorem iC_one (n : Int) : ∀ y ∈ iC n, y.oneCell' = true := by
 intro y hy
 simp only [iC, List.mem_cons, List.not_mem_nil, or_false] at hy
 rcases hy with rfl; rfl
def smC (x : SgM) : List Value := [.string (nmWA x.s.ix), .slice x.A x.s.es.length x.c, .int .i64 ((sgB x.s).length : Int), .bool x.s.wet]
theorem smC_len (x : SgM) : (smC x).length = 4 := rfl
theorem smC_one (x : SgM) : ∀ y ∈ smC x, y.oneCell' = true := by
 intro y hy
 simp only [smC, List.mem_cons, List.not_mem_nil, or_false] at hy
 rcases hy with rfl | rfl | rfl | rfl <;> rfl
def SmOK (F : Nat → Prop) (w : World) (x : SgM) : Prop := Rw 1 iC 3 F w x.A x.c (ats x.s.es)
theorem entT : SliceTK Tryz.prog 37 40 (.agg #[.int .i64 0, .int .i64 0, .int .i64 0, .slice none 0 0]) 4 48 := sliceTK_mk Tryz.underlying37 rfl (by decide) (by kernel_rfl)
theorem sgT : SliceTK Tryz.prog 90 97 (.agg #[.string ⟨#[]⟩, .slice none 0 0, .int .i64 0, .bool false]) 4 56 := sliceTK_mk Tryz.underlying90 rfl (by decide) (by kernel_rfl)
theorem intTK : SliceTK Tryz.prog 87 3 (.int .i64 0) 1 8 := sliceTK_mk Tryz.underlying87 rfl (by decide) (by kernel_rfl)
section
variable {F G : Nat → Prop} {w w' : World}
theorem EmOK.mono {x : EnM} (h : EmOK F w x) (hF : ∀ g, g < w.heap.size → F g → G g) : EmOK G w x := ⟨h.sl.mono hF, h.len, h.cap⟩
theorem EmOK.below {x : EnM} (h : EmOK F w x) (hb : Below w.heap.size w w') : EmOK F w' x := ⟨h.sl.below hb, h.len, h.cap⟩
theorem EmOK.frmA {β : Type} {k' : Nat} {f' : β → List Value} {e' : TypeId} {F' : Nat → Prop} {A' : Option Addr} {c' : Nat} {ys : List β} {x : EnM} (h : EmOK F w x) (h' : Rw k' f' e' F' w A' c' ys) (hne : 5 ≠ e') (hf : Frm (fun g => F' g ∧ atA A' g) w w') : EmOK F w' x := ⟨h.sl.frmA h' hne hf, h.len, h.cap⟩
theorem EmOK.frm {x : EnM} (h : EmOK F w x) (hf : Frm G w w') (hd : ∀ g, F g → ¬ G g) : EmOK F w' x := ⟨h.sl.frm hf hd, h.len, h.cap⟩
theorem EmOK.far {x : EnM} {g : Nat} {t : TypeId} {cs : Array Value} (h : EmOK F w x) (hb : Blk w g t cs) (hne : 5 ≠ t) (i : Nat) (u : Value) : EmOK F (w.setCell ⟨g, i, none⟩ u) x := ⟨h.sl.far hb hne i u, h.len, h.cap⟩
end
structure Wl0 (G R : Nat → Prop) (B p wb : Nat) (d : S) (SA : Option Addr) (sc : Nat) (sm : List SgM) (EA : Option Addr) (ec : Nat) (em : List EnM) (w : World) : Prop where
 dx : DX (fun g => (G g ∨ R g) ∨ g = wb) B p d w
 blk : Blk w wb 92 #[.pointer (some ⟨p, 0, none⟩), .slice SA sm.length sc, .slice EA em.length ec]
 segs : Rw 4 smC 97 R w SA sc sm
 ents : Rw 4 emC 40 R w EA ec em
 sok : ∀ x ∈ sm, SmOK R w x
 eok : ∀ x ∈ em, EmOK R w x
 apart : sm.Pairwise (fun x y => ∀ g, atA x.A g → ¬ atA y.A g)
 big : B ≤ wb
 notG : ¬ G wb
 own : ∀ g, R g → B ≤ g ∧ ¬ G g ∧ g ≠ wb
def WlE (G : Nat → Prop) (B p wb : Nat) (d : S) (ss : List Sg) (es : List En) (w : World) : Prop :=
 ∃ R SA sc sm EA ec em, Wl0 G R B p wb d SA sc sm EA ec em w ∧ sm.map SgM.s = ss ∧ em.map EnM.e = es
def WlAt (G : Nat → Prop) (B p wb : Nat) (d : S) (ss : List Sg) (w : World) : Prop := WlE G B p wb d ss (allE ss) w
section
variable {G R : Nat → Prop} {B p wb : Nat} {d : S} {SA EA : Option Addr} {sc ec : Nat} {sm : List SgM} {em : List EnM} {w w' : World}
theorem Wl0.below (h : Wl0 G R B p wb d SA sc sm EA ec em w) (hb : Below w.heap.size w w') : Wl0 G R B p wb d SA sc sm EA ec em w' :=
 ⟨h.dx.below hb, h.blk.below hb h.blk.lt, h.segs.below hb, h.ents.below hb, fun x hx => Mem.Rw.below (h.sok x hx) hb, fun x hx => (h.eok x hx).below hb, h.apart, h.big, h.notG, h.own⟩
theorem Wl0.old (h : Wl0 G R B p wb d SA sc sm EA ec em w) : ∀ g, R g → g < w.heap.size := fun g hg => h.dx.old g (.inl (.inr hg))
theorem Wl0.oldG (h : Wl0 G R B p wb d SA sc sm EA ec em w) : ∀ g, G g → g < w.heap.size := fun g hg => h.dx.old g (.inl (.inl hg))
theorem WlE.below {ss : List Sg} {es : List En} (h : WlE G B p wb d ss es w) (hb : Below w.heap.size w w') : WlE G B p wb d ss es w' := by
 obtain ⟨R, SA, sc, sm, EA, ec, em, h, h1, h2⟩ := h; exact ⟨R, SA, sc, sm, EA, ec, em, h.below hb, h1, h2⟩
theorem WlE.le {ss : List Sg} {es : List En} (h : WlE G B p wb d ss es w) : B ≤ w.heap.size := by obtain ⟨R, SA, sc, sm, EA, ec, em, h, h1, h2⟩ := h; exact h.dx.le
theorem WlE.oldG {ss : List Sg} {es : List En} (h : WlE G B p wb d ss es w) : ∀ g, G g → g < w.heap.size := by obtain ⟨R, SA, sc, sm, EA, ec, em, h, h1, h2⟩ := h; exact h.oldG
theorem dx_grow {K F : Nat → Prop} (h : DX K B p d w) (hf : Frm F w w') (hF : ∀ g, F g → K g) : DX (fun g => K g ∨ (w.heap.size ≤ g ∧ g < w'.heap.size)) B p d w' := by
 obtain ⟨mb, rs, h0⟩ := h.at_
 refine ⟨⟨mb, rs, (h0.mono (fun g hl hg => ?_)).frm hf (fun g hg e => hg.2 (.inl (hF g e)))⟩, Nat.le_trans h.le hf.size, fun g hg => ?_⟩
 ·exact ⟨hg.1, fun h2 => h2.elim hg.2 (fun h3 => by omega)⟩
 ·rcases hg with hg | hg
  ·exact Nat.lt_of_lt_of_le (h.old g hg) hf.size
  ·exact hg.2
theorem wl_frm (h : Wl0 G R B p wb d SA sc sm EA ec em w) (hf : Frm (fun g => R g ∨ g = wb) w w') : Below B w w' ∧ Kept G w w' :=
 ⟨hf.to_below (fun g _ h1 h2 => by
  rcases h2 with h2 | h2
  ·have := (h.own g h2).1; omega
  ·subst h2; have := h.big; omega) h.dx.le, fun g hg => hf.block g (h.oldG g hg) (fun h2 => by
  rcases h2 with h2 | h2
  ·exact (h.own g h2).2.1 hg
  ·subst h2; exact h.notG hg)⟩
theorem Wl0.mk_ {SA' EA' : Option Addr} {sc' ec' : Nat} {sm' : List SgM} {em' : List EnM} (h : Wl0 G R B p wb d SA sc sm EA ec em w) (hf : Frm (fun g => R g ∨ g = wb) w w')
 (hb : Blk w' wb 92 #[.pointer (some ⟨p, 0, none⟩), .slice SA' sm'.length sc', .slice EA' em'.length ec'])
 (h1 : Rw 4 smC 97 (fun g => R g ∨ w.heap.size ≤ g) w' SA' sc' sm') (h2 : Rw 4 emC 40 (fun g => R g ∨ w.heap.size ≤ g) w' EA' ec' em')
 (h3 : ∀ x ∈ sm', SmOK (fun g => R g ∨ w.heap.size ≤ g) w' x) (h4 : ∀ x ∈ em', EmOK (fun g => R g ∨ w.heap.size ≤ g) w' x) (h5 : sm'.Pairwise (fun x y => ∀ g, atA x.A g → ¬ atA y.A g)) :
 Wl0 G (fun g => R g ∨ (w.heap.size ≤ g ∧ g < w'.heap.size)) B p wb d SA' sc' sm' EA' ec' em' w' := by
 have cv : ∀ g, g < w'.heap.size → (R g ∨ w.heap.size ≤ g) → (R g ∨ (w.heap.size ≤ g ∧ g < w'.heap.size)) := fun g hl hg => hg.imp id (fun h => ⟨h, hl⟩)
 refine ⟨(dx_grow h.dx hf (fun g hg => ?_)).weaken (fun g hg => ?_), hb, h1.mono cv, h2.mono cv, fun x hx => Mem.Rw.mono (h3 x hx) cv, fun x hx => (h4 x hx).mono cv, h5, h.big, h.notG, fun g hg => ?_⟩
 ·exact hg.elim (fun h => .inl (.inr h)) .inr
 ·rcases hg with (hg | hg | hg) | hg
  ·exact .inl (.inl (.inl hg))
  ·exact .inl (.inl (.inr hg))
  ·exact .inr hg
  ·exact .inl (.inr hg)
 ·rcases hg with hg | hg
  ·exact h.own g hg
  ·refine ⟨Nat.le_trans h.dx.le hg.1, fun h9 => by have := h.oldG g h9; omega, fun h9 => by have := h.blk.lt; omega⟩
end
end Go.Proofs.YtifgajinfcihmaaGreatDoor
namespace Go.Proofs.YtifgajinfcihmaaGreatDoor
open Go Go.RowKit Go.Maps Go.Lib Mem Pk Dsk Wl Go.Proofs.YtifgajinfcihmaaGreatDoor.Nm
structure ScSt (G R : Nat → Prop) (B p wb : Nat) (SA : Option Addr) (sc : Nat) (sm : List SgM) (es0 done : List En) (nm : ByteArray) (w : World) (A : Option Addr) (c : Nat) (EA : Option Addr) (ec : Nat) (em : List EnM) (wr : World) : Prop where
 box : Blk wr w.heap.size 97 #[.string nm, .slice A done.length c, .int .i64 ((recsB done).length : Int), .bool false]
 rat : Rw 1 iC 3 (fun g => w.heap.size < g) wr A c (ats done)
 blk : Blk wr wb 92 #[.pointer (some ⟨p, 0, none⟩), .slice SA sm.length sc, .slice EA em.length ec]
 ents : Rw 4 emC 40 (fun g => R g ∨ w.heap.size < g) wr EA ec em
 eok : ∀ x ∈ em, EmOK (fun g => R g ∨ w.heap.size < g) wr x
 ems : em.map EnM.e = es0 ++ done
 segs : Rw 4 smC 97 R wr SA sc sm
 sok : ∀ x ∈ sm, SmOK R wr x
 frm : Frm (fun g => R g ∨ g = wb) w wr
section
variable {G R : Nat → Prop} {B p wb : Nat} {SA : Option Addr} {sc : Nat} {sm : List SgM} {es0 done : List En} {nm : ByteArray} {w : World} {A : Option Addr} {c : Nat} {EA : Option Addr} {ec : Nat} {em : List EnM} {wr wr' : World}
theorem ScSt.below (h : ScSt G R B p wb SA sc sm es0 done nm w A c EA ec em wr) (hb : Below wr.heap.size wr wr') : ScSt G R B p wb SA sc sm es0 done nm w A c EA ec em wr' :=
 ⟨h.box.below hb h.box.lt, h.rat.below hb, h.blk.below hb h.blk.lt, h.ents.below hb, fun x hx => (h.eok x hx).below hb, h.ems, h.segs.below hb, fun x hx => Mem.Rw.below (h.sok x hx) hb, h.frm.then_below hb⟩
theorem ScSt.at_ (h : ScSt G R B p wb SA sc sm es0 done nm w A c EA ec em wr) (hR : ∀ g, R g → g < w.heap.size) (hwb : wb < w.heap.size) {A' : Option Addr} {c' : Nat} {e : En} (hr : Rw 1 iC 3 (fun g => w.heap.size < g ∧ atA A g ∨ wr.heap.size < g) wr' A' c' (ats done ++ [((recsB done).length : Int)]))
 (hf : Frm (fun g => w.heap.size < g ∧ atA A g) wr wr') :
 let W := (wr'.setCell ⟨w.heap.size, 1, none⟩ (.slice A' (done.length + 1) c')).setCell ⟨w.heap.size, 2, none⟩ (.int .i64 ((recsB (done ++ [e])).length : Int))
 Blk W w.heap.size 97 #[.string nm, .slice A' (done.length + 1) c', .int .i64 ((recsB (done ++ [e])).length : Int), .bool false] ∧
 Rw 1 iC 3 (fun g => w.heap.size < g) W A' c' (ats (done ++ [e])) ∧
 Blk W wb 92 #[.pointer (some ⟨p, 0, none⟩), .slice SA sm.length sc, .slice EA em.length ec] ∧
 Rw 4 emC 40 (fun g => R g ∨ w.heap.size < g) W EA ec em ∧ (∀ x ∈ em, EmOK (fun g => R g ∨ w.heap.size < g) W x) ∧
 Rw 4 smC 97 R W SA sc sm ∧ (∀ x ∈ sm, SmOK R W x) ∧ Frm (fun g => R g ∨ g = wb) w W ∧ wr.heap.size ≤ W.heap.size := by
 have hbx : w.heap.size < wr.heap.size := h.box.lt
 have b1 : Blk wr' w.heap.size 97 #[.string nm, .slice A done.length c, .int .i64 ((recsB done).length : Int), .bool false] := h.box.frm hf (fun e => by omega)
 have b2 := b1.set_ 1 (.slice A' (done.length + 1) c')
 have nb : ¬ R w.heap.size := fun e => by have := hR _ e; omega
 refine ⟨b2.set_ 2 _, ?_, ?_, ?_, ?_, ?_, ?_, ?_, ?_⟩
 ·rw [ats_snoc]
  exact ((hr.mono (fun g _ hg => hg.elim (fun h => h.1) (fun h => by omega))).far b1 (.inl (by decide)) 1 _).far b2 (.inl (by decide)) 2 _
 ·exact ((h.blk.frm hf (fun e => by omega)).far (p := ⟨w.heap.size, 1, none⟩) (by show wb ≠ w.heap.size; omega) _).far (p := ⟨w.heap.size, 2, none⟩) (by show wb ≠ w.heap.size; omega) _
 ·exact ((h.ents.frmA h.rat (by decide) hf).far b1 (.inl (by decide)) 1 _).far b2 (.inl (by decide)) 2 _
 ·exact fun x hx => (((h.eok x hx).frmA h.rat (by decide) hf).far b1 (by decide) 1 _).far b2 (by decide) 2 _
 ·exact ((h.segs.frmA h.rat (by decide) hf).far b1 (.inr nb) 1 _).far b2 (.inr nb) 2 _
 ·exact fun x hx => Mem.Rw.far (Mem.Rw.far (Mem.Rw.frm (h.sok x hx) hf (fun g hg e => by have := hR g hg; omega)) b1 (.inl (by decide)) 1 _) b2 (.inl (by decide)) 2 _
 ·have hf2 : Frm (fun g => w.heap.size ≤ g) wr ((wr'.setCell ⟨w.heap.size, 1, none⟩ (.slice A' (done.length + 1) c')).setCell ⟨w.heap.size, 2, none⟩ (.int .i64 ((recsB (done ++ [e])).length : Int))) :=
   ((hf.mono (fun g _ hg => Nat.le_of_lt hg.1)).setCell (p := ⟨w.heap.size, 1, none⟩) (fun _ => Nat.le_refl _) _).setCell (p := ⟨w.heap.size, 2, none⟩) (fun _ => Nat.le_refl _) _
  exact h.frm.then_up (hf2.mono (fun g _ hg => .inr hg))
 ·rw [World.size_setCell, World.size_setCell]; exact hf.size
end
def ScRel (G R : Nat → Prop) (B p wb : Nat) (SA : Option Addr) (sc : Nat) (sm : List SgM) (es0 : List En) (ix : Int) (b : List UInt8) (nm : ByteArray) (w : World) (iv : Value) (wr : World) : Prop :=
 ∃ done A c EA ec em, iv = .int .i64 (ix + (done.length : Int)) ∧ ScSt G R B p wb SA sc sm es0 done nm w A c EA ec em wr ∧ Hid (scanS ix b = done ++ scanS (ix + (done.length : Int)) (b.drop (recsB done).length)) ∧ Hid ((recsB done).length ≤ b.length ∧ Wl.follow ix done)
def ScP (G : Nat → Prop) (B p wb : Nat) (d : S) (ss : List Sg) (es0 : List En) (ix : Int) (es : List En) (w : World) (e : Ending) (w' : World) : Prop :=
 e = .returned (.int .i64 ((recsB es).length : Int)) ∧ WlE G B p wb d (ss ++ if es = [] then [] else [⟨ix, es, false⟩]) (es0 ++ es) w' ∧ Below B w w' ∧ Kept G w w'
set_option maxRecDepth 100000 in
set_option maxHeartbeats 4000000 in
theorem scan_any {G R F : Nat → Prop} {B p wb : Nat} {d : S} {SA EA0 : Option Addr} {sc ec0 : Nat} {sm : List SgM} {em0 : List EnM} {w : World} (h : Wl0 G R B p wb d SA sc sm EA0 ec0 em0 w)
 {ix : Int} (_h0 : 0 ≤ ix) (_h1 : ix < 1000000000000000) {A : Option Addr} {c : Nat} {b : List UInt8} (hs : SlB fB 5 F w A b) (hF : ∀ g, F g → ¬ R g ∧ g ≠ wb) (hc : b.length ≤ c) (hm : c ≤ maxLen) (hl : b.length ≤ 1000000)
 (hlen : sm.length ≤ 1000000 ∧ em0.length ≤ 1000000) :
 Calls Tryz.prog 76 #[.pointer (some ⟨wb, 0, none⟩), .int .i64 ix, .string (nmWA ix), .slice A b.length c] w (ScP G B p wb d (sm.map SgM.s) (em0.map EnM.e) ix (scanS ix b) w) := by
 have H := Lib.hid h
 have HS := Lib.hid hs
 have HF := Lib.hid hF
 have HC := Lib.hid hc
 have HM := Lib.hid hm
 have HLN := Lib.hid hlen
 obtain ⟨nm, hnm⟩ : ∃ z, z = nmWA ix := ⟨_, rfl⟩
 rw [← hnm]
 have HNM := Lib.hid hnm
 obtain ⟨es0, hes0⟩ : ∃ z, z = em0.map EnM.e := ⟨_, rfl⟩
 rw [← hes0]
 have HES0 := Lib.hid hes0
 obtain ⟨res, hres⟩ : ∃ z, z = scanS ix b := ⟨_, rfl⟩
 rw [← hres]
 have HRES := Lib.hid hres
 have HSN := Lib.hid (show sm.length ≤ 1000000 from hlen.1)
 have HE0 : Hid (es0.length ≤ 1000000) := Lib.hid (by rw [hes0, List.length_map]; exact hlen.2)
 clear hs hF hc hm hlen hnm hes0 hres
 go_enter Tryz.func76, Tryz.ntmps76
 go_wp2_with fail
 go_loopw [1] (fun iv wr => ScRel G R B p wb SA sc sm es0 ix b nm w iv wr) (fun iv _ => (1000000000000000 + 2000000 - RowKit.intOf iv).toNat)
 case atStart =>
  have hb := (Below.refl w.heap.size w).alloc (Nat.le_refl _) (.cells #[.string nm, .slice none 0 0, .int .i64 0, .bool false] 97)
  have h2 := H.out.below hb
  refine ⟨[], none, 0, EA0, ec0, em0, by simp, ⟨Blk.new_ w _ _, Rw.nil, h2.blk, h2.ents.mono (fun g _ hg => .inl hg), fun x hx => (h2.eok x hx).mono (fun g _ hg => .inl hg), by rw [← HES0.out, List.append_nil], h2.segs, h2.sok, (Frm.refl _ _).alloc _⟩, Lib.hid ?_, Lib.hid ?_⟩
  ·simp [recsB]
  ·exact ⟨Nat.zero_le _, trivial⟩
 case round =>
  obtain ⟨done, Aa, ca, EA, ec, em, rfl, hst, HSC, HBD⟩ := hrel
  have HST := Lib.hid hst
  obtain ⟨si, hsi⟩ : ∃ z, z = (recsB done).length := ⟨_, rfl⟩
  have q2 : wr.cell? ⟨w.heap.size, 2, none⟩ = some (.int .i64 (si : Int)) := by rw [hsi]; exact hst.box.cell 2
  have q1 : wr.cell? ⟨w.heap.size, 1, none⟩ = some (.slice Aa done.length ca) := hst.box.cell 1
  have hsb : si ≤ b.length := by rw [hsi]; exact HBD.out.1
  rw [← hsi] at HSC
  have HSI := Lib.hid hsi
  have hsr : Sl fB wr A b := (HS.out.frm hst.frm (fun g hg e => by have h9 := HF.out g hg; exact e.elim h9.1 h9.2)).sl
  have hp1 := hsr.part (c := c) (k := si) (m := b.length - si) (by omega) HC.out
  rw [List.take_of_length_le (by rw [List.length_drop]; exact Nat.le_refl _)] at hp1
  obtain ⟨bd, hbd⟩ : ∃ z, z = b.drop si := ⟨_, rfl⟩
  have hbl : bd.length = b.length - si := by rw [hbd, List.length_drop]
  obtain ⟨PA, hPA⟩ : ∃ z, z = partA A c si := ⟨_, rfl⟩
  rw [← hbd, ← hPA] at hp1
  have hen := entry_any (c := c - si) hp1 (by have := HC.out; omega) (by have := HM.out; omega) (by omega)
  have hcut : ∀ W, (Instr.slice 28 (.slice A b.length c) (some (.int .i64 (si : Int))) none none).run Tryz.prog W = .ok (.slice PA bd.length (c - si)) W := fun W => by rw [hbl, hPA]; exact cutB A b.length c si hsb W
  have HEN := Lib.hid hen
  have HBDD := Lib.hid hbd
  have hsi0 : (0 : Int) ≤ (si : Int) := by omega
  have hsi1 : (si : Int) ≤ (b.length : Int) := by omega
  rw [← hbd] at HSC
  clear hsi hsr hp1 hbd hbl hPA hen hst hsb
  go_wp2_with fail
  (with_reducible refine HEN.out.mono ?_); rintro e w1 ⟨hb1, hno, hyes⟩
  have HST1 := Lib.hid (HST.out.below hb1)
  clear hb1 hcut q1 q2 HEN
  cases hq : entryS bd with
  | none =>
    rw [hq] at hno hyes
    obtain rfl := hno rfl
    have HRD : Hid (res = done) := Lib.hid (by rw [HRES.out, HSC.out, scanS_none hq, List.append_nil])
    clear hno hyes hq
    unfold zEC
    go_upto_region 8 with fail
    obtain ⟨W, hW⟩ : ∃ z, z = w1.alloc (.cells #[.int .i64 0, .int .i64 0, .int .i64 0, .slice none 0 0] 40) := ⟨_, rfl⟩
    rw [← hW]
    have HSTW := Lib.hid (HST1.out.below (by rw [hW]; exact (Below.refl _ _).alloc (Nat.le_refl _) _ : Below w1.heap.size w1 W))
    clear hW
    have hbW := HSTW.out.box
    have s0 : W.cell? ⟨w.heap.size, 0, none⟩ = some (.string nm) := hbW.cell 0
    have s1 : W.cell? ⟨w.heap.size, 1, none⟩ = some (.slice Aa done.length ca) := hbW.cell 1
    have s2 : W.cell? ⟨w.heap.size, 2, none⟩ = some (.int .i64 (si : Int)) := by rw [HSI.out]; exact hbW.cell 2
    have s3 : W.cell? ⟨w.heap.size, 3, none⟩ = some (.bool false) := hbW.cell 3
    clear hbW
    by_cases hz : si = 0
    ·have tz : ¬ (0 < si) := by omega
     have HD0 : Hid (done = []) := Lib.hid (by
      have h9 := recsB_len_ge done
      rw [← HSI.out, hz] at h9
      exact List.eq_nil_of_length_eq_zero (by omega))
     clear hz
     go_wp2_with fail
     go_ret
     have hst9 := HSTW.out
     have hf9 := wl_frm H.out hst9.frm
     have hems := hst9.ems
     refine ⟨by rw [HRD.out, ← HSI.out]; rfl, ⟨_, SA, sc, sm, EA, ec, em, Wl0.mk_ H.out hst9.frm hst9.blk (hst9.segs.mono fun g _ hg => .inl hg) (hst9.ents.mono fun g _ hg => hg.imp id Nat.le_of_lt) (fun x hx => Mem.Rw.mono (hst9.sok x hx) (fun g _ hg => .inl hg)) (fun x hx => (hst9.eok x hx).mono (fun g _ hg => hg.imp id Nat.le_of_lt)) H.out.apart, ?_, ?_⟩, hf9.1, hf9.2⟩
     ·rw [HRD.out, HD0.out]; simp
     ·rw [HRD.out]; exact hems
    ·have tz : 0 < si := by omega
     have HDN : Hid (done ≠ []) := Lib.hid (by
      intro e9
      rw [e9] at HSI
      exact hz HSI.out)
     have HWB := Lib.hid HSTW.out.blk
     have v1 : W.cell? ⟨wb, 1, none⟩ = some (.slice SA sm.length sc) := HWB.out.cell 1
     have vf := HWB.out.free 1
     have HNB : Hid (wb ≠ w.heap.size ∧ w.heap.size < W.heap.size ∧ ¬ R w.heap.size) := Lib.hid ⟨by have := H.out.blk.lt; omega, HSTW.out.box.lt, fun e9 => by have := H.out.old _ e9; omega⟩
     clear hz
     go_upto_region 9 with fail
     refine AnyZ.start (S := (fun V => V.cell? ⟨wb, 1, none⟩ = some (.slice SA sm.length sc) ∧ V.cell? ⟨w.heap.size, 0, none⟩ = some (.string nm) ∧ V.cell? ⟨w.heap.size, 1, none⟩ = some (.slice Aa done.length ca) ∧ V.cell? ⟨w.heap.size, 2, none⟩ = some (.int .i64 (si : Int)) ∧ V.cell? ⟨w.heap.size, 3, none⟩ = some (.bool false))) (z := 10) (by kernel_rfl) ?_ (fun hHeld => ?_)
     ·exact ⟨v1, s0, s1, s2, s3⟩
     refine AnyZ.take (i := 0) (v := ?_) rfl (by kernel_rfl) (by kernel_rfl) (by kernel_rfl) (by kernel_rfl) (fun _ _ _ h => h) (Or.inl ⟨by kernel_rfl, ?_⟩) (by assumption) ?_
     rotate_left
     ·intro w hSw; (try dsimp only at hSw); go_simp; try with_reducible rfl
     try simp only [Act.put, List.getElem_toArray, List.getElem_cons_zero, List.setIfInBounds_toArray, List.set_cons_zero, List.set_cons_succ]
     refine AnyZ.take (i := 1) (v := ?_) rfl (by kernel_rfl) (by kernel_rfl) (by kernel_rfl) (by kernel_rfl) (fun _ _ _ h => h) (Or.inl ⟨by kernel_rfl, ?_⟩) (by assumption) ?_
     rotate_left
     ·intro w hSw; (try dsimp only at hSw); go_simp; try with_reducible rfl
     try simp only [Act.put, List.getElem_toArray, List.getElem_cons_succ, List.getElem_cons_zero, List.setIfInBounds_toArray, List.set_cons_zero, List.set_cons_succ]
     refine AnyZ.take (i := 2) (v := ?_) rfl (by kernel_rfl) (by kernel_rfl) (by kernel_rfl) (by kernel_rfl) (fun _ _ _ h => h) (Or.inl ⟨by kernel_rfl, ?_⟩) (by assumption) ?_
     rotate_left
     ·intro w hSw; (try dsimp only at hSw); go_simp; try with_reducible rfl
     try simp only [Act.put, List.getElem_toArray, List.getElem_cons_succ, List.getElem_cons_zero, List.setIfInBounds_toArray, List.set_cons_zero, List.set_cons_succ]
     refine AnyZ.take (i := 3) (v := ?_) rfl (by kernel_rfl) (by kernel_rfl) (by kernel_rfl) (by kernel_rfl) (fun _ _ _ h => h) (Or.inl ⟨by kernel_rfl, ?_⟩) (by assumption) ?_
     rotate_left
     ·intro w hSw; (try dsimp only at hSw); go_simp; try with_reducible rfl
     try simp only [Act.put, List.getElem_toArray, List.getElem_cons_succ, List.getElem_cons_zero, List.setIfInBounds_toArray, List.set_cons_zero, List.set_cons_succ]
     refine AnyZ.take (i := 4) (v := ?_) rfl (by kernel_rfl) (by kernel_rfl) (by kernel_rfl) (by kernel_rfl) (fun _ _ _ h => h) (Or.inl ⟨by kernel_rfl, ?_⟩) (by assumption) ?_
     rotate_left
     ·intro w hSw; (try dsimp only at hSw); go_simp; try with_reducible rfl
     try simp only [Act.put, List.getElem_toArray, List.getElem_cons_succ, List.getElem_cons_zero, List.setIfInBounds_toArray, List.set_cons_zero, List.set_cons_succ]
     refine AnyZ.take (i := 5) (v := ?_) rfl (by kernel_rfl) (by kernel_rfl) (by kernel_rfl) (by kernel_rfl) (fun _ _ _ h => h) (Or.inl ⟨by kernel_rfl, ?_⟩) (by assumption) ?_
     rotate_left
     ·intro w hSw; (try dsimp only at hSw); go_simp; try with_reducible rfl
     try simp only [Act.put, List.getElem_toArray, List.getElem_cons_succ, List.getElem_cons_zero, List.setIfInBounds_toArray, List.set_cons_zero, List.set_cons_succ]
     refine AnyZ.ready (rs := [6]) (by kernel_rfl) (by simp) ?_
     refine AllZ.cons rfl (fun K hK => ?_) AllZ.nil
     go_simp
     refine hK.out _ _ ?_ (fun hHeld => ?_)
     ·exact ⟨(HWB.out.drew.alloc _).cell 1, (HSTW.out.box.drew.alloc _).cell 0, (HSTW.out.box.drew.alloc _).cell 1, by rw [HSI.out]; exact (HSTW.out.box.drew.alloc _).cell 2, (HSTW.out.box.drew.alloc _).cell 3⟩
     clear hK K
     try simp only [Act.put, List.getElem_toArray, List.getElem_cons_succ, List.getElem_cons_zero, List.setIfInBounds_toArray, List.set_cons_zero, List.set_cons_succ]
     refine AnyZ.ready (rs := [7]) (by kernel_rfl) (by simp) ?_
     refine AllZ.cons rfl (fun K hK => ?_) AllZ.nil
     refine step_appendR1 (f := smC) (w0 := W.drew) (F := R) rfl _ _ _ rfl sgT smC_len ⟨⟨ix, done, false⟩, Aa, ca⟩ (smC_one _) (by rw [HSI.out, HNM.out]; rfl) rfl (HSTW.out.segs.drewN 1) rfl rfl (by have := HSN.out; unfold maxLen; omega) (by have := HSN.out; omega) ?_
     intro A9 c9 w9 hr9 hf9
     have HR9 := Lib.hid hr9
     have HF9 := Lib.hid hf9
     have HX9 := Lib.hid (HSTW.out.box.drew.frm hf9 (fun e9 => HNB.out.2.2 e9.1))
     have HY9 := Lib.hid (HWB.out.drew.frm hf9 (fun e9 => (H.out.own _ e9.1).2.2 rfl))
     have v9 : w9.cell? ⟨wb, 1, none⟩ = some (.slice SA sm.length sc) := HY9.out.cell 1
     have vf9 := HY9.out.free 1
     have u2 : w9.cell? ⟨w.heap.size, 2, none⟩ = some (.int .i64 (si : Int)) := by rw [HSI.out]; exact HX9.out.cell 2
     clear hr9 hf9
     refine hK.out _ _ ?_ (fun hHeld => ?_)
     ·exact ⟨HY9.out.cell 1, HX9.out.cell 0, HX9.out.cell 1, u2, HX9.out.cell 3⟩
     clear hK K
     try simp only [Act.put, List.getElem_toArray, List.getElem_cons_succ, List.getElem_cons_zero, List.setIfInBounds_toArray, List.set_cons_zero, List.set_cons_succ]
     refine AnyZ.takeAny (i := 8) (v := ?_) rfl (by kernel_rfl) (by kernel_rfl) (by kernel_rfl) (by kernel_rfl) (fun _ _ _ h => h) (Or.inl ⟨by kernel_rfl, ?_⟩) (by assumption) ?_
     rotate_left
     ·intro w hSw; (try dsimp only at hSw); go_simp; try with_reducible rfl
     try simp only [Act.put, List.getElem_toArray, List.getElem_cons_succ, List.getElem_cons_zero, List.setIfInBounds_toArray, List.set_cons_zero, List.set_cons_succ]
     refine AnyZ.take (i := 9) (v := ?_) rfl (by kernel_rfl) (by kernel_rfl) (by kernel_rfl) (by kernel_rfl) (fun _ _ _ h => h) (Or.inl ⟨by kernel_rfl, ?_⟩) (by assumption) ?_
     rotate_left
     ·intro w hSw; (try dsimp only at hSw); go_simp; try with_reducible rfl
     try simp only [Act.put, List.getElem_toArray, List.getElem_cons_succ, List.getElem_cons_zero, List.setIfInBounds_toArray, List.set_cons_zero, List.set_cons_succ]
     refine AnyZ.ready (rs := [10]) (by kernel_rfl) (by simp) ?_
     refine AllZ.last rfl (by kernel_rfl) (fun K hK => ?_) AllZ.nil
     go_simp
     refine hK.out _ _ ?_
     clear hK K
     try simp only [Act.put, List.getElem_toArray, List.getElem_cons_succ, List.getElem_cons_zero, List.setIfInBounds_toArray, List.set_cons_zero, List.set_cons_succ]
     refine AnyZ.done (by kernel_rfl) ?_ _
     skip
     have u3 : (w9.setCell ⟨wb, 1, none⟩ (.slice A9 (sm.length + 1) c9)).cell? ⟨w.heap.size, 2, none⟩ = some (.int .i64 (si : Int)) := ((HX9.out.far (p := ⟨wb, 1, none⟩) (fun e9 => HNB.out.1 e9.symm) _).cell 2).trans (by rw [HSI.out]; rfl)
     go_wp2_with fail
     go_ret
     have hst9 := HSTW.out
     have hems := hst9.ems
     have hsg := hst9.segs.drewN 1
     have hY := HY9.out
     have hfr : Frm (fun g => R g ∨ g = wb) w (w9.setCell ⟨wb, 1, none⟩ (.slice A9 (sm.length + 1) c9)) :=
      ((hst9.frm.drew).trans (HF9.out.mono (fun g _ hg => .inl hg.1))).setCell (p := ⟨wb, 1, none⟩) (fun _ => .inr rfl) _
     have hfin := wl_frm H.out hfr
     have hlw : w.heap.size ≤ W.heap.size := Nat.le_of_lt HNB.out.2.1
     have hb9 := hY.set_ 1 (.slice A9 (sm.length + 1) c9)
     have hsm1 : (sm ++ [(⟨⟨ix, done, false⟩, Aa, ca⟩ : SgM)]).length = sm.length + 1 := by simp
     refine ⟨by rw [HRD.out, ← HSI.out]; rfl, ⟨_, A9, c9, sm ++ [⟨⟨ix, done, false⟩, Aa, ca⟩], EA, ec, em, Wl0.mk_ H.out hfr (by rw [hsm1]; exact hb9) ?_ ?_ ?_ ?_ ?_, ?_, ?_⟩, hfin.1, hfin.2⟩
     ·exact (HR9.out.mono (fun g _ hg => hg.elim (fun h9 => .inl h9.1) (fun h9 => .inr (by have h8 : W.heap.size < g := h9; omega)))).far hY (.inl (by decide)) 1 _
     ·exact (((hst9.ents.drewN 1).frmA hsg (by decide) HF9.out).far hY (.inl (by decide)) 1 _).mono (fun g _ hg => hg.imp id Nat.le_of_lt)
     ·intro x hx
      rcases List.mem_append.1 hx with hx | hx
      ·exact Mem.Rw.mono (Mem.Rw.far (Mem.Rw.frmA (Mem.Rw.drewN (hst9.sok x hx) 1) hsg (by decide) HF9.out) hY (.inl (by decide)) 1 _) (fun g _ hg => .inl hg)
      ·rw [List.mem_singleton.1 hx]
       exact Mem.Rw.mono (Mem.Rw.far (Mem.Rw.frmA (Mem.Rw.drewN hst9.rat 1) hsg (by decide) HF9.out) hY (.inl (by decide)) 1 _) (fun g _ hg => .inr (Nat.le_of_lt hg))
     ·intro x hx
      have h9 := hst9.eok x hx
      exact ((EmOK.frmA (w := W.drew) ⟨h9.sl.drewN 1, h9.len, h9.cap⟩ hsg (by decide) HF9.out).far hY (by decide) 1 _).mono (fun g _ hg => hg.imp id Nat.le_of_lt)
     ·rw [List.pairwise_append]
      refine ⟨H.out.apart, by simp, fun x hx y hy g hgx hgy => ?_⟩
      rw [List.mem_singleton.1 hy] at hgy
      have h8 := H.out.old g (Mem.Rw.inF (hst9.sok x hx) hgx)
      have h7 : w.heap.size < g := hst9.rat.inF hgy
      omega
     ·rw [HRD.out, if_neg HDN.out, List.map_append]; rfl
     ·rw [HRD.out]; exact hems
  | some y =>
    obtain ⟨x, n⟩ := y
    rw [hq] at hno hyes
    obtain ⟨Ad, cd, rfl, hsd, hdc, hdm⟩ := hyes x n rfl
    have hn32 := entryS_pos hq
    obtain ⟨hxr, hxn, hxb⟩ := entryS_iff.1 hq
    have hxi := rightE_iff.1 hxr
    have HSD : Hid (EmOK (fun g => wr.heap.size ≤ g) w1 ⟨x, Ad, cd⟩) := Lib.hid ⟨hsd, hdc, hdm⟩
    have HZ1 : Hid (w.heap.size < wr.heap.size) := Lib.hid HST.out.box.lt
    have tn : ((n : Int) == 0) = false := by rw [beq_eq_false_iff_ne]; omega
    have HN32 := Lib.hid hn32
    have HXN := Lib.hid hxn
    have HXI := Lib.hid hxi
    clear hno hyes hsd hdc hdm hn32 hxn hxb hxi hxr
    unfold entC
    obtain ⟨ii, hii⟩ : ∃ z, z = ix + (done.length : Int) := ⟨_, rfl⟩
    have HII := Lib.hid hii
    rw [← hii] at HSC ⊢
    clear hii
    by_cases hxx : x.ix = ii
    ·have tx : (x.ix != ii) = false := by rw [hxx]; simp
     have hii0 : 0 ≤ ii := by have := HXI.out.1; omega
     have hii1 : ii ≤ 1099511627776 := by have := HXI.out.2.1; omega
     have HSC2 : Hid (scanS ix b = (done ++ [x]) ++ scanS (ii + 1) (bd.drop n)) := Lib.hid (by rw [HSC.out, scanS_yes hq hxx, List.append_assoc]; rfl)
     have HJ : Hid ((recsB (done ++ [x])).length = si + n) := Lib.hid (by rw [recsB_snoc, List.length_append, ← HSI.out, HXN.out])
     have HFO : Hid (Wl.follow ix (done ++ [x])) := Lib.hid (by rw [Wl.follow_append]; exact ⟨HBD.out.2, by rw [← HII.out]; exact hxx, trivial⟩)
     have hsn : (si : Int) + (n : Int) ≤ 2000000 := by have h9 := HN32.out.2; rw [HBDD.out, List.length_drop] at h9; omega
     have hn0 : (0 : Int) ≤ (n : Int) := by omega
     have hsi2 : (si : Int) ≤ 1000000 := by omega
     clear hxx hq
     obtain ⟨W1, hW1⟩ : ∃ z, z = w1.alloc (.cells #[.int .i64 x.ix, .int .i64 x.tm, .int .i64 x.kd, .slice Ad x.ds.length cd] 40) := ⟨_, rfl⟩
     have hb1 : Below w1.heap.size w1 W1 := by rw [hW1]; exact (Below.refl _ _).alloc (Nat.le_refl _) _
     have HST2 := Lib.hid (HST1.out.below hb1)
     have HEB : Hid (Blk W1 w1.heap.size 40 #[.int .i64 x.ix, .int .i64 x.tm, .int .i64 x.kd, .slice Ad x.ds.length cd]) := Lib.hid (by rw [hW1]; exact Blk.new_ w1 _ _)
     have HED : Hid (EmOK (fun g => wr.heap.size ≤ g) W1 ⟨x, Ad, cd⟩) := Lib.hid (HSD.out.below hb1)
     go_upto_region 4 with fail
     rw [← hW1]
     clear hW1 hb1
     have hbx := HST2.out.box
     have a1 : W1.cell? ⟨w.heap.size, 1, none⟩ = some (.slice Aa done.length ca) := hbx.cell 1
     have a2 : W1.cell? ⟨w.heap.size, 2, none⟩ = some (.int .i64 (si : Int)) := by rw [HSI.out]; exact hbx.cell 2
     clear hbx
     have HDL : Hid (done.length ≤ 2000000) := Lib.hid (by have := recsB_len_ge done; rw [← HSI.out] at this; omega)
     go_upto_region 7 with (first
      | (at_builtin; refine wpList_appendR1 (f := iC) (F := fun g => w.heap.size < g) rfl (.tmp 31) (.tmp 34) 87 rfl intTK iC_len (si : Int) (iC_one _) rfl (by rw [ats_len]; rfl) HST2.out.rat rfl rfl (by rw [ats_len]; have := HDL.out; unfold maxLen; omega) (by rw [ats_len]; have := HDL.out; omega) ?_; intro A2 c2 w2 hr2 hf2; rw [ats_len]; have HR2 := Lib.hid hr2; have HF2 := Lib.hid hf2; have HX2 := Lib.hid (HST2.out.box.frm hf2 (fun e9 => absurd e9.1 (Nat.lt_irrefl _))); have a3 : w2.cell? ⟨w.heap.size, 1, none⟩ = some (.slice Aa done.length ca) := HX2.out.cell 1; have a4 : w2.cell? ⟨w.heap.size, 2, none⟩ = some (.int .i64 (si : Int)) := (by rw [HSI.out]; exact HX2.out.cell 2); have a3f := HX2.out.free 1; have a4f := HX2.out.free 2; clear hr2 hf2)
      | fail)
     have hat := HST2.out.at_ (e := x) H.out.old H.out.blk.lt (by rw [← HSI.out]; exact HR2.out) HF2.out
     dsimp only at hat
     rw [HJ.out, Int.natCast_add] at hat
     obtain ⟨W3, hW3⟩ : ∃ z, z = (w2.setCell ⟨w.heap.size, 1, none⟩ (.slice A2 (done.length + 1) c2)).setCell ⟨w.heap.size, 2, none⟩ (.int .i64 ((si : Int) + (n : Int))) := ⟨_, rfl⟩
     have hfe : Frm (fun g => w.heap.size ≤ g ∧ g ≠ w1.heap.size) W1 W3 := by
      rw [hW3]
      have hl1 : w.heap.size < w1.heap.size := HST1.out.box.lt
      refine ((HF2.out.mono (fun g _ hg => ⟨Nat.le_of_lt hg.1, fun e9 => ?_⟩)).setCell (p := ⟨w.heap.size, 1, none⟩) (fun _ => ⟨Nat.le_refl _, by show w.heap.size ≠ _; omega⟩) _).setCell (p := ⟨w.heap.size, 2, none⟩) (fun _ => ⟨Nat.le_refl _, by show w.heap.size ≠ _; omega⟩) _
      obtain ⟨cur, hcur⟩ := HST2.out.rat.typ hg.2
      rw [e9] at hcur
      exact absurd (blk_type hcur HEB.out) (by decide)
     rw [← hW3] at hat ⊢
     obtain ⟨t1, t2, t3, t4, t5, t6, t7, t8, t9⟩ := hat
     have HT1 := Lib.hid t1
     have HT2 := Lib.hid t2
     have HT3 := Lib.hid t3
     have HT4 := Lib.hid t4
     have HT5 := Lib.hid t5
     have HT6 := Lib.hid t6
     have HT7 := Lib.hid t7
     have HT8 := Lib.hid t8
     have HT9 := Lib.hid t9
     have HEB3 := Lib.hid (HEB.out.frm hfe (fun e9 => e9.2 rfl))
     have HED3 : Hid (EmOK (fun g => wr.heap.size ≤ g) W3 ⟨x, Ad, cd⟩) := Lib.hid ⟨HED.out.sl.keep (fun g cur fr hg hh => by
      have hw2 := HF2.out.block g (lt_of_block hh) (fun e9 => by
       obtain ⟨cur', hcur⟩ := HST2.out.rat.typ e9.2
       unfold Blk at hcur
       rw [hh] at hcur; injection hcur with hcur; injection hcur with _ h9; exact absurd h9 (by decide))
      have hne : g ≠ w.heap.size := by have := HZ1.out; omega
      rw [hW3]
      exact (Below.heap_setCell _ _ _ g hne).trans ((Below.heap_setCell _ _ _ g hne).trans hw2)), HED.out.len, HED.out.cap⟩
     have HEL : Hid (w.heap.size < w1.heap.size ∧ w1.heap.size < W3.heap.size) := Lib.hid ⟨HST1.out.box.lt, HEB3.out.lt⟩
     clear hW3 hfe t1 t2 t3 t4 t5 t6 t7 t8 t9 a1 a2 a3 a4 a3f a4f
     have v2 : W3.cell? ⟨wb, 2, none⟩ = some (.slice EA em.length ec) := HT3.out.cell 2
     have vf := HT3.out.free 2
     have e0 : W3.cell? ⟨w1.heap.size, 0, none⟩ = some (.int .i64 x.ix) := HEB3.out.cell 0
     have e1 : W3.cell? ⟨w1.heap.size, 1, none⟩ = some (.int .i64 x.tm) := HEB3.out.cell 1
     have e2 : W3.cell? ⟨w1.heap.size, 2, none⟩ = some (.int .i64 x.kd) := HEB3.out.cell 2
     have e3 : W3.cell? ⟨w1.heap.size, 3, none⟩ = some (.slice Ad x.ds.length cd) := HEB3.out.cell 3
     have HEM : Hid (em.length ≤ 3000000) := Lib.hid (by
      have h9 := congrArg List.length HST.out.ems
      rw [List.length_map, List.length_append] at h9
      have h8 := HE0.out
      have h7 := HDL.out
      omega)
     have HNE : Hid (¬ ((R w1.heap.size ∨ w.heap.size < w1.heap.size) ∧ atA EA w1.heap.size)) := Lib.hid (fun e9 => by
      obtain ⟨cur, hcur⟩ := HST1.out.ents.typ e9.2
      exact absurd hcur.lt (Nat.lt_irrefl _))
     refine AnyZ.start (S := (fun V => V.cell? ⟨wb, 2, none⟩ = some (.slice EA em.length ec) ∧ V.cell? ⟨w1.heap.size, 0, none⟩ = some (.int .i64 x.ix) ∧ V.cell? ⟨w1.heap.size, 1, none⟩ = some (.int .i64 x.tm) ∧ V.cell? ⟨w1.heap.size, 2, none⟩ = some (.int .i64 x.kd) ∧ V.cell? ⟨w1.heap.size, 3, none⟩ = some (.slice Ad x.ds.length cd))) (z := 10) (by kernel_rfl) ?_ (fun hHeld => ?_)
     ·exact ⟨v2, e0, e1, e2, e3⟩
     refine AnyZ.take (i := 0) (v := ?_) rfl (by kernel_rfl) (by kernel_rfl) (by kernel_rfl) (by kernel_rfl) (fun _ _ _ h => h) (Or.inl ⟨by kernel_rfl, ?_⟩) (by assumption) ?_
     rotate_left
     ·intro w hSw; (try dsimp only at hSw); go_simp; try with_reducible rfl
     try simp only [Act.put, List.getElem_toArray, List.getElem_cons_zero, List.setIfInBounds_toArray, List.set_cons_zero, List.set_cons_succ]
     refine AnyZ.take (i := 1) (v := ?_) rfl (by kernel_rfl) (by kernel_rfl) (by kernel_rfl) (by kernel_rfl) (fun _ _ _ h => h) (Or.inl ⟨by kernel_rfl, ?_⟩) (by assumption) ?_
     rotate_left
     ·intro w hSw; (try dsimp only at hSw); go_simp; try with_reducible rfl
     try simp only [Act.put, List.getElem_toArray, List.getElem_cons_succ, List.getElem_cons_zero, List.setIfInBounds_toArray, List.set_cons_zero, List.set_cons_succ]
     refine AnyZ.take (i := 2) (v := ?_) rfl (by kernel_rfl) (by kernel_rfl) (by kernel_rfl) (by kernel_rfl) (fun _ _ _ h => h) (Or.inl ⟨by kernel_rfl, ?_⟩) (by assumption) ?_
     rotate_left
     ·intro w hSw; (try dsimp only at hSw); go_simp; try with_reducible rfl
     try simp only [Act.put, List.getElem_toArray, List.getElem_cons_succ, List.getElem_cons_zero, List.setIfInBounds_toArray, List.set_cons_zero, List.set_cons_succ]
     refine AnyZ.take (i := 3) (v := ?_) rfl (by kernel_rfl) (by kernel_rfl) (by kernel_rfl) (by kernel_rfl) (fun _ _ _ h => h) (Or.inl ⟨by kernel_rfl, ?_⟩) (by assumption) ?_
     rotate_left
     ·intro w hSw; (try dsimp only at hSw); go_simp; try with_reducible rfl
     try simp only [Act.put, List.getElem_toArray, List.getElem_cons_succ, List.getElem_cons_zero, List.setIfInBounds_toArray, List.set_cons_zero, List.set_cons_succ]
     refine AnyZ.take (i := 4) (v := ?_) rfl (by kernel_rfl) (by kernel_rfl) (by kernel_rfl) (by kernel_rfl) (fun _ _ _ h => h) (Or.inl ⟨by kernel_rfl, ?_⟩) (by assumption) ?_
     rotate_left
     ·intro w hSw; (try dsimp only at hSw); go_simp; try with_reducible rfl
     try simp only [Act.put, List.getElem_toArray, List.getElem_cons_succ, List.getElem_cons_zero, List.setIfInBounds_toArray, List.set_cons_zero, List.set_cons_succ]
     refine AnyZ.take (i := 5) (v := ?_) rfl (by kernel_rfl) (by kernel_rfl) (by kernel_rfl) (by kernel_rfl) (fun _ _ _ h => h) (Or.inl ⟨by kernel_rfl, ?_⟩) (by assumption) ?_
     rotate_left
     ·intro w hSw; (try dsimp only at hSw); go_simp; try with_reducible rfl
     try simp only [Act.put, List.getElem_toArray, List.getElem_cons_succ, List.getElem_cons_zero, List.setIfInBounds_toArray, List.set_cons_zero, List.set_cons_succ]
     refine AnyZ.ready (rs := [6]) (by kernel_rfl) (by simp) ?_
     refine AllZ.cons rfl (fun K hK => ?_) AllZ.nil
     go_simp
     refine hK.out _ _ ?_ (fun hHeld => ?_)
     ·exact ⟨(HT3.out.drew.alloc _).cell 2, (HEB3.out.drew.alloc _).cell 0, (HEB3.out.drew.alloc _).cell 1, (HEB3.out.drew.alloc _).cell 2, (HEB3.out.drew.alloc _).cell 3⟩
     clear hK K
     try simp only [Act.put, List.getElem_toArray, List.getElem_cons_succ, List.getElem_cons_zero, List.setIfInBounds_toArray, List.set_cons_zero, List.set_cons_succ]
     refine AnyZ.ready (rs := [7]) (by kernel_rfl) (by simp) ?_
     refine AllZ.cons rfl (fun K hK => ?_) AllZ.nil
     refine step_appendR1 (f := emC) (w0 := W3.drew) (F := fun g => R g ∨ w.heap.size < g) rfl _ _ _ rfl entT emC_len ⟨x, Ad, cd⟩ (emC_one _) rfl rfl (HT4.out.drewN 1) rfl rfl (by have := HEM.out; unfold maxLen; omega) (by have := HEM.out; omega) ?_
     intro A9 c9 w9 hr9 hf9
     have HR9 := Lib.hid hr9
     have HF9 := Lib.hid hf9
     have HX9 := Lib.hid (HEB3.out.drew.frm hf9 HNE.out)
     have HY9 := Lib.hid (HT3.out.drew.frmA (HT4.out.drewN 1) (by decide) hf9)
     have v9 : w9.cell? ⟨wb, 2, none⟩ = some (.slice EA em.length ec) := HY9.out.cell 2
     have vf9 := HY9.out.free 2
     clear hr9 hf9
     refine hK.out _ _ ?_ (fun hHeld => ?_)
     ·exact ⟨HY9.out.cell 2, HX9.out.cell 0, HX9.out.cell 1, HX9.out.cell 2, HX9.out.cell 3⟩
     clear hK K
     try simp only [Act.put, List.getElem_toArray, List.getElem_cons_succ, List.getElem_cons_zero, List.setIfInBounds_toArray, List.set_cons_zero, List.set_cons_succ]
     refine AnyZ.takeAny (i := 8) (v := ?_) rfl (by kernel_rfl) (by kernel_rfl) (by kernel_rfl) (by kernel_rfl) (fun _ _ _ h => h) (Or.inl ⟨by kernel_rfl, ?_⟩) (by assumption) ?_
     rotate_left
     ·intro w hSw; (try dsimp only at hSw); go_simp; try with_reducible rfl
     try simp only [Act.put, List.getElem_toArray, List.getElem_cons_succ, List.getElem_cons_zero, List.setIfInBounds_toArray, List.set_cons_zero, List.set_cons_succ]
     refine AnyZ.take (i := 9) (v := ?_) rfl (by kernel_rfl) (by kernel_rfl) (by kernel_rfl) (by kernel_rfl) (fun _ _ _ h => h) (Or.inl ⟨by kernel_rfl, ?_⟩) (by assumption) ?_
     rotate_left
     ·intro w hSw; (try dsimp only at hSw); go_simp; try with_reducible rfl
     try simp only [Act.put, List.getElem_toArray, List.getElem_cons_succ, List.getElem_cons_zero, List.setIfInBounds_toArray, List.set_cons_zero, List.set_cons_succ]
     refine AnyZ.ready (rs := [10]) (by kernel_rfl) (by simp) ?_
     refine AllZ.last rfl (by kernel_rfl) (fun K hK => ?_) AllZ.nil
     go_simp
     refine hK.out _ _ ?_
     clear hK K
     try simp only [Act.put, List.getElem_toArray, List.getElem_cons_succ, List.getElem_cons_zero, List.setIfInBounds_toArray, List.set_cons_zero, List.set_cons_succ]
     refine AnyZ.done (by kernel_rfl) ?_ _
     skip
     go_wp2_with fail
     go_roundw
     case rel =>
      have hg9 := HT4.out.drewN 1
      have hY := HY9.out
      refine ⟨done ++ [x], A2, c2, A9, c9, em ++ [⟨x, Ad, cd⟩], ?_, ⟨?_, ?_, ?_, ?_, ?_, ?_, ?_, ?_, ?_⟩, ?_, ?_⟩
      ·rw [HII.out, List.length_append, List.length_singleton]; congr 1; omega
      ·rw [HJ.out, Int.natCast_add, List.length_append, List.length_singleton]
       exact (HT1.out.drew.frmA hg9 (by decide) HF9.out).far (p := ⟨wb, 2, none⟩) (by have := H.out.blk.lt; show w.heap.size ≠ wb; omega) _
      ·exact ((HT2.out.drewN 1).frmA hg9 (by decide) HF9.out).far hY (.inl (by decide)) 2 _
      ·rw [List.length_append, List.length_singleton]; exact hY.set_ 2 _
      ·exact (HR9.out.mono (fun g _ hg => hg.elim (fun h9 => h9.1) (fun h9 => .inr (by have h8 : W3.heap.size < g := h9; have := HEL.out; omega)))).far hY (.inl (by decide)) 2 _
      ·intro y hy
       rcases List.mem_append.1 hy with hy | hy
       ·have h9 := HT5.out y hy
        exact (EmOK.frmA (w := W3.drew) ⟨h9.sl.drewN 1, h9.len, h9.cap⟩ hg9 (by decide) HF9.out).far hY (by decide) 2 _
       ·rw [List.mem_singleton.1 hy]
        have h9 := HED3.out
        exact ((EmOK.frmA (w := W3.drew) ⟨h9.sl.drewN 1, h9.len, h9.cap⟩ hg9 (by decide) HF9.out).far hY (by decide) 2 _).mono (fun g _ hg => .inr (by have h8 : wr.heap.size ≤ g := hg; have := HZ1.out; omega))
      ·rw [List.map_append, HST.out.ems, List.append_assoc]; rfl
      ·exact ((HT6.out.drewN 1).frmA hg9 (by decide) HF9.out).far hY (.inl (by decide)) 2 _
      ·exact fun y hy => Mem.Rw.far (Mem.Rw.frmA (Mem.Rw.drewN (HT7.out y hy) 1) hg9 (by decide) HF9.out) hY (.inl (by decide)) 2 _
      ·refine ((HT8.out.drew).then_up (HF9.out.mono (fun g _ hg => ?_))).setCell (p := ⟨wb, 2, none⟩) (fun _ => .inr rfl) _
       rcases hg.1 with h9 | h9
       ·exact .inl (.inl h9)
       ·exact .inr (Nat.le_of_lt h9)
      ·refine Lib.hid ?_
       rw [HSC2.out, HJ.out, ← List.drop_drop, ← HBDD.out, HII.out, List.length_append, List.length_singleton]
       congr 2; omega
      ·refine Lib.hid ⟨?_, HFO.out⟩
       rw [HJ.out]
       have h9 := HN32.out.2
       rw [HBDD.out, List.length_drop] at h9
       have h8 := HBD.out.1
       rw [← HSI.out] at h8
       omega
     case measure => have h9 := HII.out; simp [RowKit.intOf]; omega
    ·have tx : (x.ix != ii) = true := by rw [bne_iff_ne]; exact hxx
     have HRD : Hid (res = done) := Lib.hid (by rw [HRES.out, HSC.out, scanS_no hq hxx, List.append_nil])
     clear hxx hq
     obtain ⟨W, hW⟩ : ∃ z, z = w1.alloc (.cells #[.int .i64 x.ix, .int .i64 x.tm, .int .i64 x.kd, .slice Ad x.ds.length cd] 40) := ⟨_, rfl⟩
     have HSTW := Lib.hid (HST1.out.below (by rw [hW]; exact (Below.refl _ _).alloc (Nat.le_refl _) _ : Below w1.heap.size w1 W))
     go_upto_region 8 with fail
     rw [← hW]
     clear hW
     have hbW := HSTW.out.box
     have s0 : W.cell? ⟨w.heap.size, 0, none⟩ = some (.string nm) := hbW.cell 0
     have s1 : W.cell? ⟨w.heap.size, 1, none⟩ = some (.slice Aa done.length ca) := hbW.cell 1
     have s2 : W.cell? ⟨w.heap.size, 2, none⟩ = some (.int .i64 (si : Int)) := by rw [HSI.out]; exact hbW.cell 2
     have s3 : W.cell? ⟨w.heap.size, 3, none⟩ = some (.bool false) := hbW.cell 3
     clear hbW
     by_cases hz : si = 0
     ·have tz : ¬ (0 < si) := by omega
      have HD0 : Hid (done = []) := Lib.hid (by
       have h9 := recsB_len_ge done
       rw [← HSI.out, hz] at h9
       exact List.eq_nil_of_length_eq_zero (by omega))
      clear hz
      go_wp2_with fail
      go_ret
      have hst9 := HSTW.out
      have hf9 := wl_frm H.out hst9.frm
      have hems := hst9.ems
      refine ⟨by rw [HRD.out, ← HSI.out]; rfl, ⟨_, SA, sc, sm, EA, ec, em, Wl0.mk_ H.out hst9.frm hst9.blk (hst9.segs.mono fun g _ hg => .inl hg) (hst9.ents.mono fun g _ hg => hg.imp id Nat.le_of_lt) (fun x hx => Mem.Rw.mono (hst9.sok x hx) (fun g _ hg => .inl hg)) (fun x hx => (hst9.eok x hx).mono (fun g _ hg => hg.imp id Nat.le_of_lt)) H.out.apart, ?_, ?_⟩, hf9.1, hf9.2⟩
      ·rw [HRD.out, HD0.out]; simp
      ·rw [HRD.out]; exact hems
     ·have tz : 0 < si := by omega
      have HDN : Hid (done ≠ []) := Lib.hid (by
       intro e9
       rw [e9] at HSI
       exact hz HSI.out)
      have HWB := Lib.hid HSTW.out.blk
      have v1 : W.cell? ⟨wb, 1, none⟩ = some (.slice SA sm.length sc) := HWB.out.cell 1
      have vf := HWB.out.free 1
      have HNB : Hid (wb ≠ w.heap.size ∧ w.heap.size < W.heap.size ∧ ¬ R w.heap.size) := Lib.hid ⟨by have := H.out.blk.lt; omega, HSTW.out.box.lt, fun e9 => by have := H.out.old _ e9; omega⟩
      clear hz
      go_upto_region 9 with fail
      refine AnyZ.start (S := (fun V => V.cell? ⟨wb, 1, none⟩ = some (.slice SA sm.length sc) ∧ V.cell? ⟨w.heap.size, 0, none⟩ = some (.string nm) ∧ V.cell? ⟨w.heap.size, 1, none⟩ = some (.slice Aa done.length ca) ∧ V.cell? ⟨w.heap.size, 2, none⟩ = some (.int .i64 (si : Int)) ∧ V.cell? ⟨w.heap.size, 3, none⟩ = some (.bool false))) (z := 10) (by kernel_rfl) ?_ (fun hHeld => ?_)
      ·exact ⟨v1, s0, s1, s2, s3⟩
      refine AnyZ.take (i := 0) (v := ?_) rfl (by kernel_rfl) (by kernel_rfl) (by kernel_rfl) (by kernel_rfl) (fun _ _ _ h => h) (Or.inl ⟨by kernel_rfl, ?_⟩) (by assumption) ?_
      rotate_left
      ·intro w hSw; (try dsimp only at hSw); go_simp; try with_reducible rfl
      try simp only [Act.put, List.getElem_toArray, List.getElem_cons_zero, List.setIfInBounds_toArray, List.set_cons_zero, List.set_cons_succ]
      refine AnyZ.take (i := 1) (v := ?_) rfl (by kernel_rfl) (by kernel_rfl) (by kernel_rfl) (by kernel_rfl) (fun _ _ _ h => h) (Or.inl ⟨by kernel_rfl, ?_⟩) (by assumption) ?_
      rotate_left
      ·intro w hSw; (try dsimp only at hSw); go_simp; try with_reducible rfl
      try simp only [Act.put, List.getElem_toArray, List.getElem_cons_succ, List.getElem_cons_zero, List.setIfInBounds_toArray, List.set_cons_zero, List.set_cons_succ]
      refine AnyZ.take (i := 2) (v := ?_) rfl (by kernel_rfl) (by kernel_rfl) (by kernel_rfl) (by kernel_rfl) (fun _ _ _ h => h) (Or.inl ⟨by kernel_rfl, ?_⟩) (by assumption) ?_
      rotate_left
      ·intro w hSw; (try dsimp only at hSw); go_simp; try with_reducible rfl
      try simp only [Act.put, List.getElem_toArray, List.getElem_cons_succ, List.getElem_cons_zero, List.setIfInBounds_toArray, List.set_cons_zero, List.set_cons_succ]
      refine AnyZ.take (i := 3) (v := ?_) rfl (by kernel_rfl) (by kernel_rfl) (by kernel_rfl) (by kernel_rfl) (fun _ _ _ h => h) (Or.inl ⟨by kernel_rfl, ?_⟩) (by assumption) ?_
      rotate_left
      ·intro w hSw; (try dsimp only at hSw); go_simp; try with_reducible rfl
      try simp only [Act.put, List.getElem_toArray, List.getElem_cons_succ, List.getElem_cons_zero, List.setIfInBounds_toArray, List.set_cons_zero, List.set_cons_succ]
      refine AnyZ.take (i := 4) (v := ?_) rfl (by kernel_rfl) (by kernel_rfl) (by kernel_rfl) (by kernel_rfl) (fun _ _ _ h => h) (Or.inl ⟨by kernel_rfl, ?_⟩) (by assumption) ?_
      rotate_left
      ·intro w hSw; (try dsimp only at hSw); go_simp; try with_reducible rfl
      try simp only [Act.put, List.getElem_toArray, List.getElem_cons_succ, List.getElem_cons_zero, List.setIfInBounds_toArray, List.set_cons_zero, List.set_cons_succ]
      refine AnyZ.take (i := 5) (v := ?_) rfl (by kernel_rfl) (by kernel_rfl) (by kernel_rfl) (by kernel_rfl) (fun _ _ _ h => h) (Or.inl ⟨by kernel_rfl, ?_⟩) (by assumption) ?_
      rotate_left
      ·intro w hSw; (try dsimp only at hSw); go_simp; try with_reducible rfl
      try simp only [Act.put, List.getElem_toArray, List.getElem_cons_succ, List.getElem_cons_zero, List.setIfInBounds_toArray, List.set_cons_zero, List.set_cons_succ]
      refine AnyZ.ready (rs := [6]) (by kernel_rfl) (by simp) ?_
      refine AllZ.cons rfl (fun K hK => ?_) AllZ.nil
      go_simp
      refine hK.out _ _ ?_ (fun hHeld => ?_)
      ·exact ⟨(HWB.out.drew.alloc _).cell 1, (HSTW.out.box.drew.alloc _).cell 0, (HSTW.out.box.drew.alloc _).cell 1, by rw [HSI.out]; exact (HSTW.out.box.drew.alloc _).cell 2, (HSTW.out.box.drew.alloc _).cell 3⟩
      clear hK K
      try simp only [Act.put, List.getElem_toArray, List.getElem_cons_succ, List.getElem_cons_zero, List.setIfInBounds_toArray, List.set_cons_zero, List.set_cons_succ]
      refine AnyZ.ready (rs := [7]) (by kernel_rfl) (by simp) ?_
      refine AllZ.cons rfl (fun K hK => ?_) AllZ.nil
      refine step_appendR1 (f := smC) (w0 := W.drew) (F := R) rfl _ _ _ rfl sgT smC_len ⟨⟨ix, done, false⟩, Aa, ca⟩ (smC_one _) (by rw [HSI.out, HNM.out]; rfl) rfl (HSTW.out.segs.drewN 1) rfl rfl (by have := HSN.out; unfold maxLen; omega) (by have := HSN.out; omega) ?_
      intro A9 c9 w9 hr9 hf9
      have HR9 := Lib.hid hr9
      have HF9 := Lib.hid hf9
      have HX9 := Lib.hid (HSTW.out.box.drew.frm hf9 (fun e9 => HNB.out.2.2 e9.1))
      have HY9 := Lib.hid (HWB.out.drew.frm hf9 (fun e9 => (H.out.own _ e9.1).2.2 rfl))
      have v9 : w9.cell? ⟨wb, 1, none⟩ = some (.slice SA sm.length sc) := HY9.out.cell 1
      have vf9 := HY9.out.free 1
      have u2 : w9.cell? ⟨w.heap.size, 2, none⟩ = some (.int .i64 (si : Int)) := by rw [HSI.out]; exact HX9.out.cell 2
      clear hr9 hf9
      refine hK.out _ _ ?_ (fun hHeld => ?_)
      ·exact ⟨HY9.out.cell 1, HX9.out.cell 0, HX9.out.cell 1, u2, HX9.out.cell 3⟩
      clear hK K
      try simp only [Act.put, List.getElem_toArray, List.getElem_cons_succ, List.getElem_cons_zero, List.setIfInBounds_toArray, List.set_cons_zero, List.set_cons_succ]
      refine AnyZ.takeAny (i := 8) (v := ?_) rfl (by kernel_rfl) (by kernel_rfl) (by kernel_rfl) (by kernel_rfl) (fun _ _ _ h => h) (Or.inl ⟨by kernel_rfl, ?_⟩) (by assumption) ?_
      rotate_left
      ·intro w hSw; (try dsimp only at hSw); go_simp; try with_reducible rfl
      try simp only [Act.put, List.getElem_toArray, List.getElem_cons_succ, List.getElem_cons_zero, List.setIfInBounds_toArray, List.set_cons_zero, List.set_cons_succ]
      refine AnyZ.take (i := 9) (v := ?_) rfl (by kernel_rfl) (by kernel_rfl) (by kernel_rfl) (by kernel_rfl) (fun _ _ _ h => h) (Or.inl ⟨by kernel_rfl, ?_⟩) (by assumption) ?_
      rotate_left
      ·intro w hSw; (try dsimp only at hSw); go_simp; try with_reducible rfl
      try simp only [Act.put, List.getElem_toArray, List.getElem_cons_succ, List.getElem_cons_zero, List.setIfInBounds_toArray, List.set_cons_zero, List.set_cons_succ]
      refine AnyZ.ready (rs := [10]) (by kernel_rfl) (by simp) ?_
      refine AllZ.last rfl (by kernel_rfl) (fun K hK => ?_) AllZ.nil
      go_simp
      refine hK.out _ _ ?_
      clear hK K
      try simp only [Act.put, List.getElem_toArray, List.getElem_cons_succ, List.getElem_cons_zero, List.setIfInBounds_toArray, List.set_cons_zero, List.set_cons_succ]
      refine AnyZ.done (by kernel_rfl) ?_ _
      skip
      have u3 : (w9.setCell ⟨wb, 1, none⟩ (.slice A9 (sm.length + 1) c9)).cell? ⟨w.heap.size, 2, none⟩ = some (.int .i64 (si : Int)) := ((HX9.out.far (p := ⟨wb, 1, none⟩) (fun e9 => HNB.out.1 e9.symm) _).cell 2).trans (by rw [HSI.out]; rfl)
      go_wp2_with fail
      go_ret
      have hst9 := HSTW.out
      have hems := hst9.ems
      have hsg := hst9.segs.drewN 1
      have hY := HY9.out
      have hfr : Frm (fun g => R g ∨ g = wb) w (w9.setCell ⟨wb, 1, none⟩ (.slice A9 (sm.length + 1) c9)) :=
       ((hst9.frm.drew).trans (HF9.out.mono (fun g _ hg => .inl hg.1))).setCell (p := ⟨wb, 1, none⟩) (fun _ => .inr rfl) _
      have hfin := wl_frm H.out hfr
      have hlw : w.heap.size ≤ W.heap.size := Nat.le_of_lt HNB.out.2.1
      have hb9 := hY.set_ 1 (.slice A9 (sm.length + 1) c9)
      have hsm1 : (sm ++ [(⟨⟨ix, done, false⟩, Aa, ca⟩ : SgM)]).length = sm.length + 1 := by simp
      refine ⟨by rw [HRD.out, ← HSI.out]; rfl, ⟨_, A9, c9, sm ++ [⟨⟨ix, done, false⟩, Aa, ca⟩], EA, ec, em, Wl0.mk_ H.out hfr (by rw [hsm1]; exact hb9) ?_ ?_ ?_ ?_ ?_, ?_, ?_⟩, hfin.1, hfin.2⟩
      ·exact (HR9.out.mono (fun g _ hg => hg.elim (fun h9 => .inl h9.1) (fun h9 => .inr (by have h8 : W.heap.size < g := h9; omega)))).far hY (.inl (by decide)) 1 _
      ·exact (((hst9.ents.drewN 1).frmA hsg (by decide) HF9.out).far hY (.inl (by decide)) 1 _).mono (fun g _ hg => hg.imp id Nat.le_of_lt)
      ·intro x hx
       rcases List.mem_append.1 hx with hx | hx
       ·exact Mem.Rw.mono (Mem.Rw.far (Mem.Rw.frmA (Mem.Rw.drewN (hst9.sok x hx) 1) hsg (by decide) HF9.out) hY (.inl (by decide)) 1 _) (fun g _ hg => .inl hg)
       ·rw [List.mem_singleton.1 hx]
        exact Mem.Rw.mono (Mem.Rw.far (Mem.Rw.frmA (Mem.Rw.drewN hst9.rat 1) hsg (by decide) HF9.out) hY (.inl (by decide)) 1 _) (fun g _ hg => .inr (Nat.le_of_lt hg))
      ·intro x hx
       have h9 := hst9.eok x hx
       exact ((EmOK.frmA (w := W.drew) ⟨h9.sl.drewN 1, h9.len, h9.cap⟩ hsg (by decide) HF9.out).far hY (by decide) 1 _).mono (fun g _ hg => hg.imp id Nat.le_of_lt)
      ·rw [List.pairwise_append]
       refine ⟨H.out.apart, by simp, fun x hx y hy g hgx hgy => ?_⟩
       rw [List.mem_singleton.1 hy] at hgy
       have h8 := H.out.old g (Mem.Rw.inF (hst9.sok x hx) hgx)
       have h7 : w.heap.size < g := hst9.rat.inF hgy
       omega
      ·rw [HRD.out, if_neg HDN.out, List.map_append]; rfl
      ·rw [HRD.out]; exact hems
end Go.Proofs.YtifgajinfcihmaaGreatDoor
namespace Go.Proofs.YtifgajinfcihmaaGreatDoor
open Go Go.RowKit Go.Shelf Go.Maps Go.Lib Mem Pk Dsk Wl Sto
attribute [local go_sem] Oper.semAt_some
set_option maxHeartbeats 1000000 in
theorem Remove_mb {F : Nat → Prop} {w : World} {p mb : Nat} {s : S} {rs : List Rec} (h : Rep F w p s mb rs) (n : ByteArray) (hn : n.size ≤ maxLen) :
 Calls Tryz.prog 59 #[.pointer (some ⟨p, 0, none⟩), .string n] w (OpPostM F p mb (Dsk.remove s (sname n)) w) := by
 have hlt := h.blk.lt
 have hFp := h.inP
 have hfiles := h.files
 rcases hlk : lookV (Dsk.step s) rs [n] with ⟨o, e⟩
 have hlo := look_one hfiles n hlk
 cases o with
 | some r =>
   obtain ⟨rfl, hfind⟩ := lookV_rec hlk
   have hres : Dsk.remove s (sname n) = ({ Dsk.step s with files := del (sname n) s.files }, 0) := by unfold Dsk.remove; simp only [hlo, step_files]; rfl
   have HRES := Lib.hid hres; clear hres hlo
   have HFI := Lib.hid hfind; clear hfind
   go_enter Tryz.func59, Tryz.ntmps59
   go_wp2_with fail
   (with_reducible refine (change_one h n hn hlk _ rfl).mono ?_); rintro x w1 ⟨rfl, h1, hf1⟩
   have HF := Lib.hid hf1; clear hf1
   have c0 : w1.cell? ⟨p, 0, none⟩ = some (.map (some mb)) := h1.blk.cell 0
   have hown := h1.map
   unfold ptrOf
   go_wp2_with (at_delete; refine wpList_delete_own _ rfl _ _ 76 9 rfl 79 tyKeys Tryz.underlying76 ptrR mb _ _ rfl hown _ (.string (sname n)) rfl (Go.WideMaps.keyOf_string_mk Tryz.underlying9 hn) ?_; intro w2 hown2 hturn)
   go_ret
   have hgr2 := hturn.grown
   have hnew : Frm (fun g => g = mb) w1 w2 := (Frm.refl _ _).grown hgr2 (fun k e _ => by injection e with e; exact e.symm)
   refine ⟨by rw [HRES.out]; rfl, ?_, (Frm.inP hFp HF.out).grown hgr2 (fun k e _ => by injection e with e; rw [← e]; exact h.inM)⟩
   rw [HRES.out]
   rw [del_entries] at hown2
   have h2 := h1.mono (G := up F w) (fun g _ => up_mono g)
   exact ⟨delR (sname n) rs, h2.remap hnew hown2 (by rw [delR_file, hfiles]) (fun r hr => h2.recs r (delR_mem hr).1) (delR_apart h.apart) (del_sorted h.sorted) (Nat.le_trans (del_len_le _ _) h.count)⟩
 | none =>
   have hne := lookV_none_ne hlk
   have hres : Dsk.remove s (sname n) = (Dsk.step s, e) := by unfold Dsk.remove; simp only [hlo]; rfl
   have HRES := Lib.hid hres; clear hres hlo
   have t1 := i64_eq_zero hne
   have HNE := Lib.hid hne; clear hne
   go_enter Tryz.func59, Tryz.ntmps59
   go_wp2_with fail
   (with_reducible refine (change_one h n hn hlk _ rfl).mono ?_); rintro x w1 ⟨rfl, h1, hf1⟩
   have HF := Lib.hid hf1; clear hf1
   unfold ptrOf
   go_wp2_with fail
   go_ret
   refine ⟨by rw [HRES.out]; rfl, ?_, Frm.inP hFp HF.out⟩
   rw [HRES.out]
   exact ⟨rs, h1.mono (fun g _ => up_mono g)⟩
theorem X_RemoveM {G : Nat → Prop} {B p mb : Nat} {s s' : S} {w : World} (h : DXM G B p mb s w) (n : ByteArray) (hn : n.size ≤ maxLen) {k : Nat} {ki : Int} (hr : Dsk.remove s (sname n) = (s', k)) (hk : (k : Int) = ki) :
 Calls Tryz.prog 59 #[.pointer (some ⟨p, 0, none⟩), .string n] w fun e w' => e = .returned (.int .i64 ki) ∧ DXM G B p mb s' w' ∧ Below B w w' ∧ Kept G w w' := by
 obtain ⟨rs, h0⟩ := h.at_
 refine (Remove_mb h0 n hn).mono fun e w' ⟨h1, ⟨rs', h2⟩, h3⟩ => ?_
 rw [hr] at h1 h2
 subst hk
 have h4 := frmX h.le h.old h3
 refine ⟨h1, ⟨⟨rs', h2.mono (fun g _ hg => hg.elim id (fun h5 => ⟨Nat.le_trans h.le h5, fun h6 => absurd (h.old g h6) (Nat.not_lt.2 h5)⟩))⟩, Nat.le_trans h.le h3.size, fun g hg => Nat.lt_of_lt_of_le (h.old g hg) h3.size⟩, h4.1, h4.2⟩
namespace Sto
theorem back_list (xs : List Name) : (List.range xs.length).map (backN xs) = xs.reverse := by
 apply List.ext_getElem
 ·simp
 ·intro i h1 h2
  have hi : i < xs.length := by simpa using h1
  rw [List.getElem_map, List.getElem_range, List.getElem_reverse]
  unfold backN
  rw [List.getD_eq_getElem?_getD, List.getElem?_eq_getElem (by omega)]
  rfl
end Sto
theorem back_mem {xs : List Name} (h : 0 < xs.length) (k : Nat) : backN xs k ∈ xs := by
 unfold backN
 rw [List.getD_eq_getElem?_getD, List.getElem?_eq_getElem (by omega)]
 exact List.getElem_mem _
theorem frm_put {w : World} {D : Nat} {o : Obj} : Frm (fun g => g = D) w (w.putObj D o) := by
 obtain ⟨a, b, c, d, e⟩ := grownBy_putObj' w D o
 exact ⟨a, b, c, d, fun g hl hn => e g hl (fun h => hn (by injection h))⟩
theorem DXM.turn {G : Nat → Prop} {B p mb Bl : Nat} {s : S} {w w' : World} {row : Option Nat} (h : DXM G B p mb s w) (hm : mb < Bl) (hg : w.grownBy w' row) (hr : ∀ r, row = some r → Bl ≤ r ∧ ∃ o : Obj, w.heap[r]? = some o ∧ o.isCells = false) : DXM G B p mb s w' :=
 ((h.nc hm).frm (F := fun g => row = some g) ⟨hg.os, hg.tape, hg.output, hg.size, fun k hk hn => hg.block k hk (fun e => hn e.symm)⟩ (fun g hg' => .inr (hr g hg'))).weaken (fun _ hg' => .inl hg')
theorem kept_turn {F : Nat → Prop} {Bl : Nat} {w W W' : World} {row : Option Nat} (h : Kept F w W) (hF : ∀ g, F g → g < Bl ∧ g < W.heap.size) (hg : W.grownBy W' row) (hr : ∀ r, row = some r → Bl ≤ r) : Kept F w W' := fun g hg' => (hg.block g (hF g hg').2 (fun e => by have := hr g e.symm; have := (hF g hg').1; omega)).trans (h g hg')
theorem post_end {G G2 : Nat → Prop} {B p k rb D' Bl : Nat} {s' : S} {w W0 Wf W9 : World} (hd : DX (fun g => G2 g ∨ nc Bl W0 g) B p s' Wf) (hGG : ∀ g, G g → G2 g) (hf9 : Frm (fun g => g = rb) Wf W9) (hrb : G2 rb) (hD : nc Bl W0 D') (hbr : B ≤ rb) (hbD : B ≤ D') (hnr : ¬ G rb) (hnD : ¬ G D')
 (hb : Below B w Wf) (hk : Kept G w Wf) : PostX G B p s' (k : Int) w (.returned (.int .i64 (k : Int))) (W9.putObj D' (.deferred none)) := by
 have hf : Frm (fun g => g = rb ∨ g = D') Wf (W9.putObj D' (.deferred none)) := (hf9.mono (fun _ _ e => .inl e)).trans (frm_put.mono (fun _ _ e => .inr e))
 have hlt : ∀ g, G g → g < Wf.heap.size := fun g hg => hd.old g (.inl (hGG g hg))
 refine ⟨rfl, (dx_in hd hf (fun g e => ?_)).weaken (fun g hg => .inl (hGG g hg)), hb.trans (hf.to_below (fun k' _ h1 h2 => ?_) hd.le), fun g hg => (hf.block g (hlt g hg) (fun e => ?_)).trans (hk g hg)⟩
 ·rcases e with rfl | rfl
  ·exact .inl hrb
  ·exact .inr hD
 ·rcases h2 with rfl | rfl <;> omega
 ·rcases e with rfl | rfl
  ·exact hnr hg
  ·exact hnD hg
namespace Wl
theorem rmW_stuck : ∀ (l r : List Name) (s s' : S) (k : Nat), rmW s l = (s', k) → k ≠ 0 → rmW s (l ++ r) = (s', k)
 | [], _, s, s', k, h, hk => by unfold rmW at h; injection h with h1 h2; exact absurd h2.symm hk
 | n :: l, r, s, s', k, h, hk => by
   rw [List.cons_append]
   unfold rmW at h ⊢
   by_cases h0 : (remove s n).2 = 0
   ·rw [if_pos h0] at h ⊢
    exact rmW_stuck l r _ _ _ h hk
   ·rw [if_neg h0] at h ⊢
    exact h
theorem rmW_on : ∀ (l r : List Name) (s s' : S), rmW s l = (s', 0) → rmW s (l ++ r) = rmW s' r
 | [], r, s, s', h => by unfold rmW at h; injection h with h1 h2; subst h1; rfl
 | n :: l, r, s, s', h => by
   rw [List.cons_append]
   unfold rmW at h
   rw [rmW]
   by_cases h0 : (remove s n).2 = 0
   ·rw [if_pos h0] at h ⊢
    exact rmW_on l r _ _ h
   ·rw [if_neg h0] at h
    rw [h] at h0; exact absurd rfl h0
theorem rmW_one (s : S) (n : Name) : rmW s [n] = remove s n := by
 unfold rmW
 by_cases h0 : (remove s n).2 = 0
 ·rw [if_pos h0]; unfold rmW; exact Prod.ext rfl h0.symm
 ·rw [if_neg h0]
end Wl
theorem rev_split {xs : List Name} {k : Nat} (hk : k < xs.length) : ∃ r, xs.reverse = (List.range k ++ [k]).map (backN xs) ++ r := by
 rw [← Sto.back_list]
 have e : List.range xs.length = (List.range k ++ [k]) ++ (List.range (xs.length - (k + 1))).map (fun i => k + 1 + i) := by
  have h1 : xs.length = (k + 1) + (xs.length - (k + 1)) := by omega
  rw [h1, List.range_add, List.range_succ]
  simp
 exact ⟨_, by rw [e, List.map_append]⟩
structure RmI (G2 : Nat → Prop) (B p mb : Nat) (w3 : World) (r : S × Nat) (W : World) : Prop where
 ok : r.2 = 0
 dx : DXM G2 B p mb r.1 W
 below : Below B w3 W
 kept : Kept G2 w3 W
structure RmX (G2 : Nat → Prop) (B p mb rb : Nat) (w3 : World) (r : S × Nat) (W : World) : Prop where
 bad : r.2 ≠ 0
 dx : DXM G2 B p mb r.1 W
 res : Blk W rb 30 #[.int .i64 (r.2 : Int)]
 below : Below B w3 W
 kept : Kept (fun g => G2 g ∧ g ≠ rb) w3 W
set_option maxRecDepth 100000 in
set_option maxHeartbeats 4000000 in
theorem wremove_any {K F : Nat → Prop} {B p wb : Nat} {d : S} {w : World} (hx : DX K B p d w) (hK : K wb) {v1 v2 : Value} (hwb : Blk w wb 92 #[.pointer (some ⟨p, 0, none⟩), v1, v2])
 {A : Option Addr} {c : Nat} {xs : List Name} {te : TypeId} (hs : SlB encStr te F w A xs) (hF : ∀ g, F g → K g) (hn : xs.length ≤ 1000) (hnl : ∀ n ∈ xs, n.length ≤ 1000) :
 Calls Tryz.prog 75 #[.pointer (some ⟨wb, 0, none⟩), .slice A xs.length c] w (PostX K B p (rmW d xs.reverse).1 ((rmW d xs.reverse).2 : Int) w) := by
 obtain ⟨w1, hw1⟩ : ∃ z, z = (w.alloc (.cells #[.pointer (some ⟨wb, 0, none⟩)] 34)).alloc (.cells #[.int .i64 0] 30) := ⟨_, rfl⟩
 have hz1 : w1.heap.size = w.heap.size + 2 := by rw [hw1]; simp
 have hb1 : Below w.heap.size w w1 := by rw [hw1]; exact ((Below.refl _ _).alloc (Nat.le_refl _) _).alloc (by simp) _
 have hS1 : Blk w1 w.heap.size 34 #[.pointer (some ⟨wb, 0, none⟩)] := by rw [hw1]; exact (Blk.new_ w _ _).alloc _
 have hR1 : Blk w1 (w.heap.size + 1) 30 #[.int .i64 0] := by
  have h1 := Blk.new_ (w.alloc (.cells #[.pointer (some ⟨wb, 0, none⟩)] 34)) 30 #[.int .i64 0]
  rw [World.size_alloc] at h1; rw [hw1]; exact h1
 obtain ⟨w3, hw3⟩ : ∃ z, z = w1.alloc (.cells #[.slice A xs.length c] 85) := ⟨_, rfl⟩
 have hz3 : w3.heap.size = w.heap.size + 3 := by rw [hw3, World.size_alloc, hz1]
 have hb13 : Below w1.heap.size w1 w3 := by rw [hw3]; exact (Below.refl _ _).alloc (Nat.le_refl _) _
 have hN3 : Blk w3 w1.heap.size 85 #[.slice A xs.length c] := by rw [hw3]; exact Blk.new_ w1 _ _
 have hb3 : Below w.heap.size w w3 := hb1.trans (hb13.mono hb1.size)
 have hS3 := hS1.below hb13 hS1.lt
 have hR3 := hR1.below hb13 hR1.lt
 have hB3 := hwb.below hb3 hwb.lt
 have hlw : wb < w.heap.size := hwb.lt
 obtain ⟨G2, hG2e⟩ : ∃ z : Nat → Prop, z = fun g => K g ∨ (w.heap.size ≤ g ∧ g < w3.heap.size) := ⟨_, rfl⟩
 have hG2 : ∀ g, (K g ∨ (w.heap.size ≤ g ∧ g < w3.heap.size)) → G2 g := fun g h => by rw [hG2e]; exact h
 have hx3 : DX G2 B p d w3 := by rw [hG2e]; exact hx.protect hb3 (fun g hg => hg)
 obtain ⟨mb, hm3, hmb⟩ := hx3.m
 have hs3 := (hs.below hb3).mono (fun g _ hg => hG2 g (.inl (hF g hg)))
 obtain ⟨bA, oA, hA, hbA, hcA, hgA⟩ : ∃ b o, (xs.length = 0 ∨ A = some ⟨b, o, none⟩) ∧ b < w3.heap.size ∧ (∀ j (hj : j < xs.length), w3.cell? ⟨b, o + j, none⟩ = some (.string ⟨(xs[j]).toArray⟩)) ∧ (xs.length = 0 ∨ G2 b) := by
  by_cases h0 : 0 < xs.length
  ·obtain ⟨b', o', e', hl', hc'⟩ := hs3.sl.at h0
   obtain ⟨b9, o9, cur, fr, e9, hg9, -⟩ := hs3.2 h0
   rw [e'] at e9; injection e9 with e9; injection e9 with e9
   exact ⟨b', o', .inr e', hl', fun j hj => hc' j hj, .inr (e9 ▸ hg9)⟩
  ·exact ⟨0, 0, .inl (by omega), by omega, fun j hj => absurd hj (by omega), .inl (by omega)⟩
 have hgN : G2 w1.heap.size := hG2 _ (.inr ⟨by omega, by omega⟩)
 have HGA := Lib.hid hgA
 have HGN := Lib.hid hgN
 have hstops := back_stops Fence.wide 8 trivial rfl (by decide) w1.heap.size bA oA c xs A hA (by omega) w3 (by omega) (.inr hbA) (hN3.cell 0) hcA
 have HST := Lib.hid hstops
 have HM3 := Lib.hid hm3
 have HMB := Lib.hid hmb
 have HS3 := Lib.hid hS3
 have HR3 := Lib.hid hR3
 have HB3 := Lib.hid hB3
 have HX := Lib.hid hx
 have HZ : Hid (w1.heap.size = w.heap.size + 2 ∧ w3.heap.size = w.heap.size + 3 ∧ wb < w.heap.size ∧ B ≤ w.heap.size) := Lib.hid ⟨hz1, hz3, hlw, hx.le⟩
 have HW1 := Lib.hid hw1
 have HW3 := Lib.hid hw3
 have HBA := Lib.hid hbA
 have HNL := Lib.hid hnl
 have HNN := Lib.hid hn
 have HGS : Hid (G2 (w.heap.size + 1) ∧ G2 w.heap.size ∧ G2 wb) := Lib.hid ⟨hG2 _ (.inr ⟨by omega, by omega⟩), hG2 _ (.inr ⟨by omega, by omega⟩), hG2 _ (.inl hK)⟩
 have HGG : Hid (∀ g, K g → G2 g) := Lib.hid fun g hg => hG2 g (.inl hg)
 have HB03 : Hid (Below B w w3) := Lib.hid (hb3.mono hx.le)
 have HK03 : Hid (Kept K w w3) := Lib.hid (kept_below hx.old hb3)
 clear hw1 hz1 hb1 hS1 hR1 hw3 hz3 hb13 hN3 hb3 hS3 hR3 hB3 hlw hG2e hG2 hx3 hm3 hmb hs3 hA hbA hcA hgA hgN hstops hx hK hwb hs hF hn hnl
 refine (callsIn_wide (n := 9)).1 (callsIn_of_wp_marks Tryz.func75 rfl trivial (wpIn_wide.2 ?_) rfl)
 simp only [Tryz.ntmps75, List.size_toArray, List.length_cons, List.length_nil, Nat.reduceAdd, Nat.reduceSub, Array.replicate_succ, Array.replicate_zero, List.push_toArray, List.append_toArray, List.nil_append, List.cons_append]
 obtain ⟨QQ, hQQ⟩ : ∃ q, q = bodyPostM Fence.wide 9 Tryz.prog Tryz.f75 (PostX K B p (rmW d xs.reverse).1 ((rmW d xs.reverse).2 : Int) w) := ⟨_, rfl⟩
 rw [← hQQ]
 have HQQ := Lib.hid hQQ; clear hQQ
 go_upto_region 1 with fail
 rw [← HW1.out]
 go_wp2_with fail
 (with_reducible refine (Backward_any (w := w1) (A := A) (len := xs.length) (cap := c)).mono ?_); rintro e w9 ⟨rfl, rfl⟩
 go_wp2_with fail
 rw [← HW3.out]
 refine (wpIn_wide (n := 9)).1 ?_
 refine' wpIn_rangeFunc_ownG (a₁ := _) rfl (by decide) (gf := 125) (lb := #[.pointer (some ⟨w1.heap.size, 0, none⟩)]) rfl trivial (enters_of Tryz.func125 (by kernel_rfl) rfl)
  HST.out KpC.trans (KpC.put (by have := HZ.out; omega) HBA.out) (Below.refl _ _) (fun _ => rfl)
  (fun pre W => RmI G2 B p mb w3 (rmW d (pre.map (backN xs))) W)
  (fun c' pre W => c' = .ret ∧ RmX G2 B p mb (w.heap.size + 1) w3 (rmW d (pre.map (backN xs))) W) ?hI ?hIx ?h0 ?assign ?body ?done ?stop
 case hI =>
  rintro pre' W W' row ⟨h1, h2, h4, h5⟩ hg hr
  exact ⟨h1, h2.turn HMB.out hg hr, h4.grown hg (Nat.le_trans HM3.out.le h4.size) (fun k e => Nat.le_trans HM3.out.le (hr k e).1), kept_turn h5 (fun g hg' => ⟨HM3.out.old g hg', h2.old g hg'⟩) hg (fun r e => (hr r e).1)⟩
 case hIx =>
  rintro c' pre' W W' row ⟨h0, h1, h2, h3, h4, h5⟩ hg hr
  exact ⟨h0, h1, h2.turn HMB.out hg hr, blk_turn h3 hg (fun r e => (hr r e).2), h4.grown hg (Nat.le_trans HM3.out.le h4.size) (fun k e => Nat.le_trans HM3.out.le (hr k e).1), kept_turn h5 (fun g hg' => ⟨HM3.out.old g hg'.1, h2.old g hg'.1⟩) hg (fun r e => (hr r e).1)⟩
 case h0 => exact ⟨rfl, HM3.out, Below.refl _ _, fun _ _ => rfl⟩
 case assign =>
  intro l x' W K hK
  unfold bkE
  gi_wp2
  exact hK
 case done =>
  rintro D' ys W hD rfl ⟨hok, hdm, hbw, hkp⟩ hK
  rw [Sto.back_list] at hok hdm
  have hrW := blk_kept HR3.out (hkp _ HGS.out.1)
  have q5 := hrW.free 0
  have d5 := hrW.cell 0
  have hdn := (hdm.nc HMB.out).x
  have hz := HZ.out
  go_wp2_with fail
  obtain ⟨W9, hW9⟩ : ∃ z, z = W.setCell ⟨w.heap.size + 1, 0, none⟩ (.int .i64 0) := ⟨_, rfl⟩
  have hf9 : Frm (fun g => g = w.heap.size + 1) W W9 := by rw [hW9]; exact (Frm.refl (fun g => g = w.heap.size + 1) W).setCell (p := ⟨w.heap.size + 1, 0, none⟩) (fun _ => rfl) _
  have hR9 : Blk W9 (w.heap.size + 1) 30 #[.int .i64 0] := by rw [hW9]; exact hrW.set_ 0 _
  rw [← hW9]
  have hK9 : W9.heap[D']? = some (.deferred (some [])) := (hf9.block D' (Array.getElem?_eq_some_iff.1 hK).1 (fun e => by omega)).trans hK
  have r0 := (blk_turn hR9 (grownBy_putObj' W9 D' (.deferred none)) (fun r e => by cases e; exact ⟨_, hK9, rfl⟩)).cell 0
  rw [HQQ.out]
  refine ⟨by simp, .inl ⟨_, _, rfl, run_takeDeferred hK9, ?_⟩⟩
  refine ⟨.int .i64 0, by simp [results, Tryz.results75, go_sem, r0], ?_⟩
  have hres := post_end (k := 0) (w := w) hdn HGG.out hf9 HGS.out.1 ⟨hD, _, hK, rfl⟩ (by omega) (by omega) (fun h => by have := HX.out.old _ h; omega) (fun h => by have := HX.out.old _ h; omega) (HB03.out.trans hbw) (kept_trans HK03.out (fun g hg => hkp g (HGG.out g hg)))
  rw [hok]
  exact hres
 case stop =>
  rintro D' c' pre' W hD ⟨k, hk, rfl⟩ ⟨rfl, hbad, hdm, hres, hbw, hkp⟩ hK
  obtain ⟨r9, hr9⟩ := rev_split hk
  obtain ⟨⟨s2, ck⟩, hst⟩ : ∃ z, z = rmW d ((List.range k ++ [k]).map (backN xs)) := ⟨_, rfl⟩
  rw [← hst] at hbad hdm hres
  have HFI : Hid (rmW d xs.reverse = (s2, ck)) := Lib.hid (by rw [hr9]; exact rmW_stuck _ _ _ _ _ hst.symm hbad)
  have hdn := (hdm.nc HMB.out).x
  have hz := HZ.out
  have hkk : Kept K w W := kept_trans HK03.out (fun g hg => hkp g ⟨HGG.out g hg, by have := HX.out.old g hg; omega⟩)
  gi_wp2_with fail
  have r0 := (blk_turn hres (grownBy_putObj' W D' (.deferred none)) (fun r e => by cases e; exact ⟨_, hK, rfl⟩)).cell 0
  rw [HQQ.out]
  refine ⟨by simp, .inl ⟨_, _, rfl, run_takeDeferred hK, ?_⟩⟩
  refine ⟨.int .i64 (ck : Int), by simp [results, Tryz.results75, go_sem, r0], ?_⟩
  rw [HFI.out]
  exact post_end hdn HGG.out (Frm.refl _ _) HGS.out.1 ⟨hD, _, hK, rfl⟩ (by omega) (by omega) (fun h => by have := HX.out.old _ h; omega) (fun h => by have := HX.out.old _ h; omega) (HB03.out.trans hbw) hkk
 case body =>
  rintro l pre' x' W ⟨hok, hdm, hbw, hkp⟩ hlen
  obtain ⟨⟨sk, ck⟩, hst⟩ : ∃ z, z = rmW d (pre'.map (backN xs)) := ⟨_, rfl⟩
  rw [← hst] at hok hdm
  obtain rfl : ck = 0 := hok
  obtain ⟨nm, hnm⟩ : ∃ z, z = backN xs x' := ⟨_, rfl⟩
  have hmem : nm ∈ xs := by rw [hnm]; exact back_mem (by omega) x'
  have hl16 := HNL.out nm hmem
  have hsn : sname ⟨nm.toArray⟩ = nm := by unfold sname; simp
  have hsz : (⟨nm.toArray⟩ : ByteArray).size = nm.length := by simp [ByteArray.size]
  obtain ⟨⟨sn, kn⟩, hwr⟩ : ∃ z, z = Dsk.remove sk nm := ⟨_, rfl⟩
  have HNX : Hid (rmW d ((pre' ++ [x']).map (backN xs)) = (sn, kn)) := Lib.hid (by rw [List.map_append, rmW_on _ _ _ _ hst.symm]; show rmW sk [backN xs x'] = _; rw [rmW_one, ← hnm, hwr])
  have hdn := hdm.nc HMB.out
  have HRM : Hid (Calls Tryz.prog 59 #[.pointer (some ⟨p, 0, none⟩), .string ⟨nm.toArray⟩] W fun e w' => e = .returned (.int .i64 (kn : Int)) ∧ DXM (fun g => G2 g ∨ nc w3.heap.size W g) B p mb sn w' ∧ Below B W w' ∧ Kept (fun g => G2 g ∨ nc w3.heap.size W g) W w') :=
   Lib.hid (X_RemoveM hdn ⟨nm.toArray⟩ (by rw [hsz]; exact Nat.le_trans hl16 (by unfold maxLen; decide)) (by rw [hsn]; exact hwr.symm) rfl)
  have hSW := blk_kept HS3.out (hkp _ HGS.out.2.1)
  have hBW := blk_kept HB3.out (hkp _ HGS.out.2.2)
  have x0 : W.cell? ⟨w.heap.size, 0, none⟩ = some (.pointer (some ⟨wb, 0, none⟩)) := hSW.cell 0
  have y0 : W.cell? ⟨wb, 0, none⟩ = some (.pointer (some ⟨p, 0, none⟩)) := hBW.cell 0
  have HBW := Lib.hid hbw
  have HKP := Lib.hid hkp
  have HDM := Lib.hid hdm
  rw [← hnm]
  have hbG : G2 bA := HGA.out.resolve_left (by omega)
  have HBG := Lib.hid hbG
  clear hbG hst hdm hbw hkp hlen hnm hmem hl16 hsn hsz hwr hdn hSW hBW
  gi_wp2_with fail
  refine ⟨trivial, ?_⟩
  refine (CallsIn.inRound l (callsIn_wide.2 HRM.out)).mono ?_
  rintro e W1 ⟨rfl, hd1, hb1, hk1⟩
  have HD1 := Lib.hid hd1
  have HB1' : Hid (Below B w3 W1) := Lib.hid (HBW.out.trans hb1)
  have HKF : Hid (KeepsFrom w3.heap.size W W1) := Lib.hid (keeps_nc (F := fun g => G2 g ∨ nc w3.heap.size W g) hb1.size (w := W) hk1 (fun g hg => .inr hg))
  have HKP1 : Hid (Kept G2 w3 W1) := Lib.hid (fun g hg => (hk1 g (.inl hg)).trans (HKP.out g hg))
  have HKC1 : Hid (KpC w1.heap.size bA W W1) := Lib.hid ⟨hk1 _ (.inl HGN.out), hk1 _ (.inl HBG.out)⟩
  have HRW1 := Lib.hid (blk_kept HR3.out (HKP1.out _ HGS.out.1))
  clear hd1 hb1 hk1 x0 y0 HRM
  by_cases hkn : kn = 0
  ·subst hkn
   have t0 : ((((0 : Nat) : Int)) != 0) = false := rfl
   gi_wp2_with fail
   refine ⟨HKF.out, HKC1.out, ?_⟩
   show RmI G2 B p mb w3 (rmW d ((pre' ++ [x']).map (backN xs))) _
   rw [HNX.out]
   exact ⟨rfl, HD1.out.weaken (fun g hg => .inl hg), HB1'.out, HKP1.out⟩
  ·have t0 : ((kn : Int) != 0) = true := by rw [bne_iff_ne]; omega
   have r1 := HRW1.out.cell 0
   have r2 := HRW1.out.free 0
   gi_wp2_with fail
   have hf2 : Frm (fun g => g = w.heap.size + 1) W1 (W1.setCell ⟨w.heap.size + 1, 0, none⟩ (.int .i64 (kn : Int))) := (Frm.refl (fun g => g = w.heap.size + 1) W1).setCell (p := ⟨w.heap.size + 1, 0, none⟩) (fun _ => rfl) _
   refine ⟨HKF.out.trans ((KeepsOthers.setCell _ _ _).from _), rfl, ?_⟩
   show RmX G2 B p mb (w.heap.size + 1) w3 (rmW d ((pre' ++ [x']).map (backN xs))) _
   rw [HNX.out]
   refine ⟨hkn, (HD1.out.frm hf2 (fun g e => .inl (by subst e; exact HGS.out.1))).weaken (fun g hg => .inl hg), HRW1.out.set_ 0 _, HB1'.out.trans (hf2.to_below (fun k' _ h1 h2 => by have := HZ.out; omega) HD1.out.le), fun g hg => (hf2.block g (Nat.lt_of_lt_of_le (HM3.out.old g hg.1) HB1'.out.size) hg.2).trans (HKP1.out g hg.1)⟩
end Go.Proofs.YtifgajinfcihmaaGreatDoor
namespace Go.Proofs.YtifgajinfcihmaaGreatDoor
open Go Go.RowKit Go.Maps Go.Lib Mem Pk Dsk Wl
theorem lastE_get {es : List En} (h : 0 < es.length) : lastE es = (es[es.length - 1]'(by omega)).ix := by
 unfold lastE
 rw [List.getLast?_eq_getElem?, List.getElem?_eq_getElem (by omega)]
theorem firstE_get {es : List En} (h : 0 < es.length) : firstE es = es[0].ix := by
 unfold firstE
 cases es with
 | nil => simp at h
 | cons e r => rfl
def NumD (v : Int) (w : World) (e : Ending) (w' : World) : Prop := e = .returned (.int .i64 v) ∧ ∃ n, w' = w.drewN n
theorem WlE.entAt {G : Nat → Prop} {B p wb : Nat} {d : S} {ss : List Sg} {es : List En} {w : World} (h : WlE G B p wb d ss es w) :
 ∃ A c, w.cell? ⟨wb, 2, none⟩ = some (.slice A es.length c) ∧ es.length ≤ maxLen ∧ ∀ k (hk : k < es.length), ∃ b o, A = some ⟨b, o, none⟩ ∧ w.cell? ⟨b, o + k * 4, none⟩ = some (.int .i64 es[k].ix) := by
 obtain ⟨R, SA, sc, sm, EA, ec, em, h, h1, h2⟩ := h
 have hl : em.length = es.length := by rw [← h2, List.length_map]
 refine ⟨EA, ec, by rw [← hl]; exact h.blk.cell 2, by rw [← hl]; exact h.ents.len0, fun k hk => ?_⟩
 obtain ⟨b, o, e1, -, -, -, hc⟩ := h.ents.at (j := k) (by omega)
 refine ⟨b, o, e1, ?_⟩
 have h3 := hc 0 (by decide)
 rw [Nat.add_zero] at h3
 rw [h3]
 have : em[k].e = es[k] := by simp only [← h2, List.getElem_map]
 rw [← this]; rfl
set_option maxRecDepth 100000 in
set_option maxHeartbeats 1000000 in
theorem wLast_any {G : Nat → Prop} {B p wb : Nat} {d : S} {ss : List Sg} {es : List En} {w : World} (h : WlE G B p wb d ss es w) :
 Calls Tryz.prog 27 #[.pointer (some ⟨wb, 0, none⟩)] w (NumD (lastE es) w) := by
 obtain ⟨A, c, hc, hm, hk⟩ := h.entAt
 unfold maxLen at hm
 obtain ⟨n, hn⟩ : ∃ n, n = es.length := ⟨_, rfl⟩
 by_cases h0 : 0 < es.length
 ·obtain ⟨b, o, rfl, hx⟩ := hk (es.length - 1) (by omega)
  have HL := Lib.hid (lastE_get h0)
  obtain ⟨v, hv⟩ : ∃ v, v = lastE es := ⟨_, rfl⟩
  rw [← HL.out, ← hv] at hx
  rw [← hv]
  rw [← hn] at hc hm hx h0
  clear hk hn HL h hv
  have hlt : (n : Int) - 1 = ((n - 1 : Nat) : Int) := by omega
  obtain ⟨j, hj⟩ : ∃ j, j = n - 1 := ⟨_, rfl⟩
  rw [← hj] at hx hlt
  have hw : IntKind.i64.wrap ((n : Int) - 1) = (j : Int) := by rw [IntKind.wrap_i64]; omega
  have hw2 : IntKind.i64.wrap (j : Int) = (j : Int) := by rw [IntKind.wrap_i64]; omega
  have hjn : (j : Int) < (n : Int) := by omega
  have hj0 : (0 : Int) ≤ (j : Int) := by omega
  have tz : ((n : Int) == 0) = false := by rw [beq_eq_false_iff_ne]; omega
  clear hj h0
  go_enter Tryz.func27, Tryz.ntmps27
  go_upto_region 3 with fail
  refine AnyZ.start (S := (fun W => W.cell? ⟨wb, 2, none⟩ = some (.slice (some ⟨b, o, none⟩) n c) ∧ W.cell? ⟨b, o + j * 4, none⟩ = some (.int .i64 v))) (z := 1014) (by kernel_rfl) ?_ (fun hHeld => ?_)
  ·exact ⟨hc, hx⟩
  refine AnyZ.take (i := 0) (v := ?_) rfl (by kernel_rfl) (by kernel_rfl) (by kernel_rfl) (by kernel_rfl) (fun _ _ _ h => h) (Or.inl ⟨by kernel_rfl, ?_⟩) (by assumption) ?_
  rotate_left
  ·intro w hSw; (try dsimp only at hSw); go_simp; try with_reducible rfl
  try simp only [Act.put, List.getElem_toArray, List.getElem_cons_zero, List.setIfInBounds_toArray, List.set_cons_zero, List.set_cons_succ]
  refine AnyZ.take (i := 1) (v := ?_) rfl (by kernel_rfl) (by kernel_rfl) (by kernel_rfl) (by kernel_rfl) (fun _ _ _ h => h) (Or.inl ⟨by kernel_rfl, ?_⟩) (by assumption) ?_
  rotate_left
  ·intro w hSw; (try dsimp only at hSw); go_simp; try with_reducible rfl
  try simp only [Act.put, List.getElem_toArray, List.getElem_cons_succ, List.getElem_cons_zero, List.setIfInBounds_toArray, List.set_cons_zero, List.set_cons_succ]
  refine AnyZ.take (i := 2) (v := ?_) rfl (by kernel_rfl) (by kernel_rfl) (by kernel_rfl) (by kernel_rfl) (fun _ _ _ h => h) (Or.inl ⟨by kernel_rfl, ?_⟩) (by assumption) ?_
  rotate_left
  ·intro w hSw; (try dsimp only at hSw); go_simp; try with_reducible rfl
  try simp only [Act.put, List.getElem_toArray, List.getElem_cons_succ, List.getElem_cons_zero, List.setIfInBounds_toArray, List.set_cons_zero, List.set_cons_succ]
  refine AnyZ.take (i := 3) (v := ?_) rfl (by kernel_rfl) (by kernel_rfl) (by kernel_rfl) (by kernel_rfl) (fun _ _ _ h => h) (Or.inl ⟨by kernel_rfl, ?_⟩) (by assumption) ?_
  rotate_left
  ·intro w hSw; (try dsimp only at hSw); go_simp; try with_reducible rfl
  try simp only [Act.put, List.getElem_toArray, List.getElem_cons_succ, List.getElem_cons_zero, List.setIfInBounds_toArray, List.set_cons_zero, List.set_cons_succ]
  refine AnyZ.take (i := 4) (v := ?_) rfl (by kernel_rfl) (by kernel_rfl) (by kernel_rfl) (by kernel_rfl) (fun _ _ _ h => h) (Or.inl ⟨by kernel_rfl, ?_⟩) (by assumption) ?_
  rotate_left
  ·intro w hSw; (try dsimp only at hSw); go_simp; try with_reducible rfl
  try simp only [Act.put, List.getElem_toArray, List.getElem_cons_succ, List.getElem_cons_zero, List.setIfInBounds_toArray, List.set_cons_zero, List.set_cons_succ]
  refine AnyZ.take (i := 5) (v := ?_) rfl (by kernel_rfl) (by kernel_rfl) (by kernel_rfl) (by kernel_rfl) (fun _ _ _ h => h) (Or.inl ⟨by kernel_rfl, ?_⟩) (by assumption) ?_
  rotate_left
  ·intro w hSw; (try dsimp only at hSw); go_simp; try with_reducible rfl
  try simp only [Act.put, List.getElem_toArray, List.getElem_cons_succ, List.getElem_cons_zero, List.setIfInBounds_toArray, List.set_cons_zero, List.set_cons_succ]
  refine AnyZ.take (i := 6) (v := ?_) rfl (by kernel_rfl) (by kernel_rfl) (by kernel_rfl) (by kernel_rfl) (fun _ _ _ h => h) (Or.inl ⟨by kernel_rfl, ?_⟩) (by assumption) ?_
  rotate_left
  ·intro w hSw; (try dsimp only at hSw); go_simp; try with_reducible rfl
  try simp only [Act.put, List.getElem_toArray, List.getElem_cons_succ, List.getElem_cons_zero, List.setIfInBounds_toArray, List.set_cons_zero, List.set_cons_succ]
  refine AnyZ.take (i := 7) (v := ?_) rfl (by kernel_rfl) (by kernel_rfl) (by kernel_rfl) (by kernel_rfl) (fun _ _ _ h => h) (Or.inl ⟨by kernel_rfl, ?_⟩) (by assumption) ?_
  rotate_left
  ·intro w hSw; (try dsimp only at hSw); go_simp; try with_reducible rfl
  try simp only [Act.put, List.getElem_toArray, List.getElem_cons_succ, List.getElem_cons_zero, List.setIfInBounds_toArray, List.set_cons_zero, List.set_cons_succ]
  refine AnyZ.take (i := 8) (v := ?_) rfl (by kernel_rfl) (by kernel_rfl) (by kernel_rfl) (by kernel_rfl) (fun _ _ _ h => h) (Or.inl ⟨by kernel_rfl, ?_⟩) (by assumption) ?_
  rotate_left
  ·intro w hSw; (try dsimp only at hSw); go_simp; try with_reducible rfl
  try simp only [Act.put, List.getElem_toArray, List.getElem_cons_succ, List.getElem_cons_zero, List.setIfInBounds_toArray, List.set_cons_zero, List.set_cons_succ]
  refine AnyZ.take (i := 9) (v := ?_) rfl (by kernel_rfl) (by kernel_rfl) (by kernel_rfl) (by kernel_rfl) (fun _ _ _ h => h) (Or.inl ⟨by kernel_rfl, ?_⟩) (by assumption) ?_
  rotate_left
  ·intro w hSw; (try dsimp only at hSw); go_simp; try with_reducible rfl
  try simp only [Act.put, List.getElem_toArray, List.getElem_cons_succ, List.getElem_cons_zero, List.setIfInBounds_toArray, List.set_cons_zero, List.set_cons_succ]
  refine AnyZ.take (i := 10) (v := ?_) rfl (by kernel_rfl) (by kernel_rfl) (by kernel_rfl) (by kernel_rfl) (fun _ _ _ h => h) (Or.inl ⟨by kernel_rfl, ?_⟩) (by assumption) ?_
  rotate_left
  ·intro w hSw; (try dsimp only at hSw); go_simp; try with_reducible rfl
  try simp only [Act.put, List.getElem_toArray, List.getElem_cons_succ, List.getElem_cons_zero, List.setIfInBounds_toArray, List.set_cons_zero, List.set_cons_succ]
  refine AnyZ.take (i := 11) (v := ?_) rfl (by kernel_rfl) (by kernel_rfl) (by kernel_rfl) (by kernel_rfl) (fun _ _ _ h => h) (Or.inl ⟨by kernel_rfl, ?_⟩) (by assumption) ?_
  rotate_left
  ·intro w hSw; (try dsimp only at hSw); go_simp; try with_reducible rfl
  try simp only [Act.put, List.getElem_toArray, List.getElem_cons_succ, List.getElem_cons_zero, List.setIfInBounds_toArray, List.set_cons_zero, List.set_cons_succ]
  refine AnyZ.take (i := 12) (v := ?_) rfl (by kernel_rfl) (by kernel_rfl) (by kernel_rfl) (by kernel_rfl) (fun _ _ _ h => h) (Or.inl ⟨by kernel_rfl, ?_⟩) (by assumption) ?_
  rotate_left
  ·intro w hSw; (try dsimp only at hSw); go_simp; try with_reducible rfl
  try simp only [Act.put, List.getElem_toArray, List.getElem_cons_succ, List.getElem_cons_zero, List.setIfInBounds_toArray, List.set_cons_zero, List.set_cons_succ]
  refine AnyZ.take (i := 13) (v := ?_) rfl (by kernel_rfl) (by kernel_rfl) (by kernel_rfl) (by kernel_rfl) (fun _ _ _ h => h) (Or.inl ⟨by kernel_rfl, ?_⟩) (by assumption) ?_
  rotate_left
  ·intro w hSw; (try dsimp only at hSw); go_simp; try with_reducible rfl
  try simp only [Act.put, List.getElem_toArray, List.getElem_cons_succ, List.getElem_cons_zero, List.setIfInBounds_toArray, List.set_cons_zero, List.set_cons_succ]
  refine AnyZ.done (by kernel_rfl) ?_ _
  skip
  go_wp2_with fail
  go_ret
  exact ⟨rfl, 1, rfl⟩
 ·have hl : es = [] := List.eq_nil_of_length_eq_zero (by omega)
  subst hl
  have HN : Hid (n = 0) := hn
  clear hk h0 hn
  go_enter Tryz.func27, Tryz.ntmps27
  go_wp2_with fail
  go_ret
  exact ⟨rfl, 0, rfl⟩
set_option maxRecDepth 100000 in
set_option maxHeartbeats 1000000 in
theorem wFirst_any {G : Nat → Prop} {B p wb : Nat} {d : S} {ss : List Sg} {es : List En} {w : World} (h : WlE G B p wb d ss es w) :
 Calls Tryz.prog 24 #[.pointer (some ⟨wb, 0, none⟩)] w (NumD (firstE es) w) := by
 obtain ⟨A, c, hc, hm, hk⟩ := h.entAt
 unfold maxLen at hm
 obtain ⟨n, hn⟩ : ∃ n, n = es.length := ⟨_, rfl⟩
 by_cases h0 : 0 < es.length
 ·obtain ⟨b, o, rfl, hx⟩ := hk 0 h0
  have HL := Lib.hid (firstE_get h0)
  obtain ⟨v, hv⟩ : ∃ v, v = firstE es := ⟨_, rfl⟩
  rw [← HL.out, ← hv, Nat.zero_mul, Nat.add_zero] at hx
  rw [← hv]
  rw [← hn] at hc hm h0
  clear hk hn HL h hv
  have tz : ((n : Int) == 0) = false := by rw [beq_eq_false_iff_ne]; omega
  go_enter Tryz.func24, Tryz.ntmps24
  go_wp2_with fail
  go_ret
  exact ⟨rfl, 0, rfl⟩
 ·have hl : es = [] := List.eq_nil_of_length_eq_zero (by omega)
  subst hl
  clear hk h0 hn
  go_enter Tryz.func24, Tryz.ntmps24
  go_wp2_with fail
  go_ret
  exact ⟨rfl, 0, rfl⟩
end Go.Proofs.YtifgajinfcihmaaGreatDoor
namespace Go.Proofs.YtifgajinfcihmaaGreatDoor
open Go Go.RowKit Go.Maps Go.Lib Mem Pk Dsk Wl Go.Proofs.YtifgajinfcihmaaGreatDoor.Nm
section
variable {G R : Nat → Prop} {B p wb : Nat} {d d' : S} {SA EA : Option Addr} {sc ec : Nat} {sm : List SgM} {em : List EnM} {w w' : World} {ss : List Sg} {es : List En}
theorem Wl0.kept (h : Wl0 G R B p wb d SA sc sm EA ec em w) (hd : DX (fun g => (G g ∨ R g) ∨ g = wb) B p d' w') (hk : Kept (fun g => (G g ∨ R g) ∨ g = wb) w w') : Wl0 G R B p wb d' SA sc sm EA ec em w' :=
 ⟨hd, (hk wb (.inr rfl)).trans h.blk, h.segs.keep (fun g _ hF hb => (hk g (.inl (.inr hF))).trans hb), h.ents.keep (fun g _ hF hb => (hk g (.inl (.inr hF))).trans hb),
  fun x hx => Mem.Rw.keep (h.sok x hx) (fun g _ hF hb => (hk g (.inl (.inr hF))).trans hb), fun x hx => ⟨(h.eok x hx).sl.kept hk (fun _g hg => .inl (.inr hg)), (h.eok x hx).len, (h.eok x hx).cap⟩, h.apart, h.big, h.notG, h.own⟩
def WkP (G : Nat → Prop) (B p wb : Nat) (d' : S) (k : Int) (ss : List Sg) (es : List En) (w : World) (e : Ending) (w' : World) : Prop :=
 e = .returned (.int .i64 k) ∧ WlE G B p wb d' ss es w' ∧ Below B w w' ∧ Kept G w w'
theorem WkP.of {k : Int} {e : Ending} (h : Wl0 G R B p wb d SA sc sm EA ec em w) (h1 : sm.map SgM.s = ss) (h2 : em.map EnM.e = es) (hp : PostX (fun g => (G g ∨ R g) ∨ g = wb) B p d' k w e w') : WkP G B p wb d' k ss es w e w' := by
 obtain ⟨he, hd, hb, hk⟩ := hp
 exact ⟨he, ⟨R, SA, sc, sm, EA, ec, em, h.kept hd hk, h1, h2⟩, hb, fun g hg => hk g (.inl (.inl hg))⟩
theorem W_Remove (h : WlE G B p wb d ss es w) {F : Nat → Prop} {A : Option Addr} {c : Nat} {xs : List Name} {te : TypeId} (hs : SlB encStr te F w A xs) (hF : ∀ g, F g → G g) (hn : xs.length ≤ 1000) (hnl : ∀ n ∈ xs, n.length ≤ 1000) {k : Nat} (hr : rmW d xs.reverse = (d', k)) :
 Calls Tryz.prog 75 #[.pointer (some ⟨wb, 0, none⟩), .slice A xs.length c] w (WkP G B p wb d' (k : Int) ss es w) := by
 obtain ⟨R, SA, sc, sm, EA, ec, em, h, h1, h2⟩ := h
 refine (wremove_any (c := c) h.dx (.inr rfl) h.blk hs (fun g hg => .inl (.inl (hF g hg))) hn hnl).mono fun e w' hp => WkP.of h h1 h2 ?_
 rw [hr] at hp; exact hp
theorem W_Cut (h : WlE G B p wb d ss es w) (n : ByteArray) (hn : n.size ≤ maxLen) (at_ : Int) (hat : (Lit.int .i64 at_).wf = true) {k : Nat} (hr : Dsk.cut d (sname n) at_ = (d', k)) :
 Calls Tryz.prog 60 #[.pointer (some ⟨p, 0, none⟩), .string n, .int .i64 at_] w (WkP G B p wb d' (k : Int) ss es w) := by
 obtain ⟨R, SA, sc, sm, EA, ec, em, h, h1, h2⟩ := h
 exact (X_Cut h.dx n hn at_ hat hr rfl).mono fun e w' hp => WkP.of h h1 h2 hp
theorem WlE.dd (h : WlE G B p wb d ss es w) : D B p d w := by obtain ⟨R, SA, sc, sm, EA, ec, em, h, h1, h2⟩ := h; exact h.dx.drop
theorem WlE.ptr (h : WlE G B p wb d ss es w) : w.cell? ⟨wb, 0, none⟩ = some (.pointer (some ⟨p, 0, none⟩)) := by obtain ⟨R, SA, sc, sm, EA, ec, em, h, h1, h2⟩ := h; exact h.blk.cell 0
theorem WlE.protect {G2 : Nat → Prop} (h : WlE G B p wb d ss es w) (hb : Below w.heap.size w w') (hG : ∀ g, G2 g → w.heap.size ≤ g ∧ g < w'.heap.size) : WlE (fun g => G g ∨ G2 g) B p wb d ss es w' := by
 obtain ⟨R, SA, sc, sm, EA, ec, em, h, e1, e2⟩ := h
 have h' := h.below hb
 refine ⟨R, SA, sc, sm, EA, ec, em, ⟨(h.dx.protect hb hG).weaken (fun g hg => ?_), h'.blk, h'.segs, h'.ents, h'.sok, h'.eok, h'.apart, h'.big, ?_, fun g hg => ⟨(h.own g hg).1, ?_, (h.own g hg).2.2⟩⟩, e1, e2⟩
 ·rcases hg with ((hg | hg) | hg) | hg
  ·exact .inl (.inl (.inl hg))
  ·exact .inr hg
  ·exact .inl (.inl (.inr hg))
  ·exact .inl (.inr hg)
 ·rintro (h9 | h9)
  ·exact h.notG h9
  ·have := (hG _ h9).1; have := h.blk.lt; omega
 ·rintro (h9 | h9)
  ·exact (h.own g hg).2.1 h9
  ·have := (hG _ h9).1; have := h.old g hg; omega
theorem WlE.weaken {G2 : Nat → Prop} (h : WlE G B p wb d ss es w) (hG : ∀ g, G2 g → G g) : WlE G2 B p wb d ss es w := by
 obtain ⟨R, SA, sc, sm, EA, ec, em, h, e1, e2⟩ := h
 exact ⟨R, SA, sc, sm, EA, ec, em, ⟨h.dx.weaken (fun g hg => hg.imp (fun h9 => h9.imp (hG g) id) id), h.blk, h.segs, h.ents, h.sok, h.eok, h.apart, h.big, fun h9 => h.notG (hG _ h9), fun g hg => ⟨(h.own g hg).1, fun h9 => (h.own g hg).2.1 (hG _ h9), (h.own g hg).2.2⟩⟩, e1, e2⟩
theorem W_Scan (h : WlE G B p wb d ss es w) {ix : Int} (h0 : 0 ≤ ix) (h1 : ix < 1000000000000000) {F : Nat → Prop} {A : Option Addr} {c : Nat} {b : List UInt8}
 (hs : SlB fB 5 F w A b) (hF : ∀ g, F g → G g) (hc : b.length ≤ c) (hm : c ≤ maxLen) (hl : b.length ≤ 1000000) (hlen : ss.length ≤ 1000000 ∧ es.length ≤ 1000000) :
 Calls Tryz.prog 76 #[.pointer (some ⟨wb, 0, none⟩), .int .i64 ix, .string (nmWA ix), .slice A b.length c] w (ScP G B p wb d ss es ix (scanS ix b) w) := by
 obtain ⟨R, SA, sc, sm, EA, ec, em, h, e1, e2⟩ := h
 have h9 := scan_any h h0 h1 (c := c) hs (fun g hg => ⟨fun hr => (h.own g hr).2.1 (hF g hg), fun e => h.notG (e ▸ hF g hg)⟩) hc hm hl ⟨by rw [← List.length_map (f := SgM.s), e1]; exact hlen.1, by rw [← List.length_map (f := EnM.e), e2]; exact hlen.2⟩
 rw [e1, e2] at h9
 exact h9
theorem d_read_len {n : Name} (h : D B p d w) : (Dsk.read d n).1.length ≤ 65536 := by
 obtain ⟨mb, rs, h0⟩ := h.at_
 unfold Dsk.read Dsk.look
 split
 ·rename_i f e he
  split at he
  ·cases he
  ·split at he
   ·cases he
   ·split at he
    ·rename_i f' hf
     injection he with he1 he2
     injection he1 with he1
     subst he1
     have hm := (find_name hf).2
     rw [← h0.files] at hm
     obtain ⟨r, hr, rfl⟩ := List.mem_map.1 hm
     exact (h0.recs r hr).2.2.2.2.2.2.2.2.1
    ·cases he
 ·simp
end
theorem cutS (A : Option Addr) (len cap l : Nat) (h1 : l ≤ len) (w : World) : (Instr.slice 85 (.slice A len cap) (some (.int .i64 (l : Int))) none none).run Tryz.prog w = .ok (.slice (partA A cap l) (len - l) (cap - l)) w :=
 cut_l Tryz.underlying85 (by intro w; kernel_rfl) A len cap l l rfl h1 w
def LdP (G : Nat → Prop) (B p wb : Nat) (r : S × List Sg × Nat) (w : World) (e : Ending) (w' : World) : Prop :=
 e = .returned (.int .i64 (r.2.2 : Int)) ∧ WlAt G B p wb r.1 r.2.1 w' ∧ Below B w w' ∧ Kept G w w'
theorem LdP.of {G : Nat → Prop} {B p wb : Nat} {r : S × List Sg × Nat} {d' : S} {ss : List Sg} {k : Nat} {w wr : World} {e : Ending} {w' : World} (h : r = (d', ss, k)) (hb : Below B w wr) (hk : Kept G w wr) (hp : WkP G B p wb d' (k : Int) ss (allE ss) wr e w') : LdP G B p wb r w e w' := by
 obtain ⟨h1, h2, h3, h4⟩ := hp
 subst h
 exact ⟨h1, h2, hb.trans h3, fun g hg => (h4 g hg).trans (hk g hg)⟩
theorem wfN {n : Nat} (h : n ≤ 1000000) : (Lit.int .i64 (n : Int)).wf = true := by
 have e1 : IntKind.i64.min = -9223372036854775808 := rfl
 have e2 : IntKind.i64.max = 9223372036854775807 := rfl
 simp [Lit.wf, e1, e2]
 omega
def allOK (ss : List Sg) (k : Nat) : Prop := allR (allE ss) ∧ ss.length ≤ k ∧ (allE ss).length ≤ 2048 * k
def LdRel (G : Nat → Prop) (B p wb : Nat) (d : S) (xs : List Name) (w : World) (iv : Value) (wr : World) : Prop :=
 ∃ (k : Nat) (ss : List Sg), k ≤ xs.length ∧ iv = .int .i64 k ∧ WlAt G B p wb d ss wr ∧ Hid (loadW d [] xs = loadW d ss (xs.drop k)) ∧ Hid (allOK ss k) ∧ Hid (Below B w wr ∧ Kept G w wr)
theorem lastE_right {es : List En} (h : allR es) : 0 ≤ lastE es ∧ lastE es ≤ 1099511627776 := by
 unfold lastE
 cases hl : es.getLast? with
 | none => exact ⟨Int.le_refl _, by decide⟩
 | some e =>
   have := rightE_iff.1 (h e (List.mem_of_getLast? hl))
   simp only; omega
set_option maxRecDepth 100000 in
set_option maxHeartbeats 4000000 in
theorem wload_any {G F : Nat → Prop} {B p wb : Nat} {d : S} {w : World} (h : WlAt G B p wb d [] w) (hla : LaidB B w) {A : Option Addr} {c : Nat} {xs : List Name} {te : TypeId} (hs : SlB encStr te F w A xs) (hF : ∀ g, F g → G g) (hc : xs.length ≤ c) (hn : xs.length ≤ 256) (hid : ∀ n ∈ xs, ∃ i, idxN 119 n = some i) :
 Calls Tryz.prog 45 #[.pointer (some ⟨wb, 0, none⟩), .slice A xs.length c] w (LdP G B p wb (loadW d [] xs) w) := by
 obtain ⟨res, hres⟩ : ∃ z, z = loadW d [] xs := ⟨_, rfl⟩
 rw [← hres]
 have HRES := Lib.hid hres
 have H := Lib.hid h
 have HLA := Lib.hid hla
 have HS := Lib.hid hs
 have HF := Lib.hid hF
 have HC := Lib.hid hc
 have HN := Lib.hid hn
 have HID := Lib.hid hid
 have hxl : xs.length ≤ 9223372036854775807 := by omega
 clear h hla hs hF hc hn hid hres
 go_enter Tryz.func45, Tryz.ntmps45
 go_wp2_with fail
 go_loopw [15] (fun iv wr => LdRel G B p wb d xs w iv wr) (fun iv _ => xs.length - (RowKit.intOf iv).toNat)
 case atStart => exact ⟨0, [], Nat.zero_le _, rfl, H.out, Lib.hid rfl, Lib.hid ⟨(fun _ h => by cases h), Nat.le_refl _, Nat.le_refl _⟩, Lib.hid ⟨Below.refl _ _, fun _ _ => rfl⟩⟩
 case round =>
  obtain ⟨k, ss, hk, rfl, hat, HLD, HOK, HBK⟩ := hrel
  have HAT := Lib.hid hat
  by_cases hlt : k < xs.length
  ·have hsr : SlB encStr te F wr A xs := HS.out.kept HBK.out.2 HF.out
   obtain ⟨b', o', rfl, _, hcl⟩ := hsr.sl.at hlt
   have hck := hcl k hlt
   obtain ⟨n, hnk⟩ : ∃ n, n = xs[k] := ⟨_, rfl⟩
   have hmem : n ∈ xs := by rw [hnk]; exact List.getElem_mem hlt
   obtain ⟨i, hi⟩ := HID.out n hmem
   obtain ⟨hi1, hi2⟩ := idxN_iff.1 hi
   rw [← hnk] at hck
   have hdr : xs.drop k = n :: xs.drop (k + 1) := by rw [hnk]; exact List.drop_eq_getElem_cons hlt
   have hwn : (⟨n.toArray⟩ : ByteArray) = nmWA (i : Int) := by unfold nmWA; rw [hi2]; simp
   replace hck : wr.cell? ⟨b', o' + k, none⟩ = some (.string (nmWA (i : Int))) := by rw [← hwn]; exact hck
   have hsn : sname (nmWA (i : Int)) = n := by rw [sname_nmWA, hi2]; simp
   have HIX := Lib.hid (WIndex_any (HLA.out.on HBK.out.1) hat.le (nmWA (i : Int)) (by rw [← hwn]; simp [ByteArray.size]; rw [hi2, nmOf_len]; decide))
   have HIDX : Hid (idxN 119 (sname (nmWA (i : Int))) = some i ∧ idxW n = (i : Int)) := Lib.hid ⟨by rw [hsn]; exact hi, by unfold idxW; rw [hi]⟩
   have HSNM := Lib.hid hsn
   have HDR := Lib.hid hdr
   have HSR := Lib.hid hsr
   have HI1 := Lib.hid hi1
   have hk0 : (0 : Int) ≤ (k : Int) := by omega
   have hk1 : (k : Int) < (xs.length : Int) := by omega
   obtain ⟨nm, hnm⟩ : ∃ z, z = nmWA (i : Int) := ⟨_, rfl⟩
   rw [← hnm] at hck HIX HIDX HSNM
   have HNM := Lib.hid hnm
   have HLT := Lib.hid hlt
   clear hat hsr hcl hnk hmem hi hi1 hi2 hdr hwn hsn hnm hlt
   go_wp2_with fail
   (with_reducible refine HIX.out.mono ?_); rintro e w1 ⟨⟨v, rfl, hv⟩, hb1⟩
   have hv2 : v = (i : Int) := hv i HIDX.out.1
   subst hv2
   rw [HIDX.out.1]
   have HAT1 := Lib.hid (HAT.out.below hb1)
   have HB1 : Hid (Below B w w1 ∧ Kept G w w1) := Lib.hid ⟨HBK.out.1.trans (hb1.mono HAT.out.le), fun g hg => (hb1.block g (HAT.out.oldG g hg)).trans (HBK.out.2 g hg)⟩
   have HSR1 := Lib.hid (HSR.out.below hb1)
   clear hb1 hv HIX hck
   obtain ⟨A5, c5, hc5, hm5, hx5⟩ := HAT1.out.entAt
   have HLR := Lib.hid (lastE_right HOK.out.1)
   have HLAST := Lib.hid (wLast_any HAT1.out)
   obtain ⟨la, hla⟩ : ∃ z, z = lastE (allE ss) := ⟨_, rfl⟩
   obtain ⟨ne, hne⟩ : ∃ z, z = (allE ss).length := ⟨_, rfl⟩
   rw [← hla] at HLAST HLR
   rw [← hne] at hc5 hm5
   have HLAE := Lib.hid hla
   have HNE := Lib.hid hne
   unfold maxLen at hm5
   clear hla hne hx5
   go_upto_region 5 with fail
   obtain ⟨q, hq⟩ : ∃ q : Bool, q = (decide (0 < ne) && ((i : Int) != la + 1)) := ⟨_, rfl⟩
   have HQ := Lib.hid hq
   have hla0 := HLR.out.1
   have hla1 := HLR.out.2
   go_cut [37] (fun v wx => v = .bool q ∧ Hid (∃ m, wx = w1.drewN m))
   case first =>
    by_cases hz : 0 < ne
    ·have tq : ((i : Int) != la + 1) = q := by rw [hq, decide_eq_true hz, Bool.true_and]
     clear hq
     go_wp2_with ((with_reducible refine HLAST.out.mono ?_); rintro e w2 ⟨rfl, m, rfl⟩)
     go_meet
     exact ⟨rfl, Lib.hid ⟨m, rfl⟩⟩
    ·have tq : q = false := by rw [hq, decide_eq_false hz, Bool.false_and]
     subst tq
     clear hq
     go_wp2_with fail
     go_meet
     exact ⟨rfl, Lib.hid ⟨0, rfl⟩⟩
   case rest =>
    obtain ⟨rfl, HWX⟩ := hcut
    obtain ⟨m, hm⟩ := HWX.out
    obtain ⟨w2, hw2⟩ : ∃ z, z = w1.drewN m := ⟨_, rfl⟩
    rw [hm, ← hw2]
    have hb12 : Below w1.heap.size w1 w2 := by rw [hw2]; exact below_drewN (Below.refl _ _) m
    have HAT2 := Lib.hid (HAT1.out.below hb12)
    have HB2 : Hid (Below B w w2 ∧ Kept G w w2) := Lib.hid ⟨HB1.out.1.trans (hb12.mono HAT1.out.le), fun g hg => (hb12.block g (HAT1.out.oldG g hg)).trans (HB1.out.2 g hg)⟩
    have HSR2 := Lib.hid (HSR1.out.below hb12)
    clear hm hw2 hb12 HWX hq hc5 hm5
    have hcut6 : ∀ W, (Instr.slice 85 (.slice (some ⟨b', o', none⟩) xs.length c) (some (.int .i64 (k : Int))) none none).run Tryz.prog W = .ok (.slice (partA (some ⟨b', o', none⟩) c k) (xs.length - k) (c - k)) W := fun W => cutS _ _ _ _ (by omega) W
    have hdl : (xs.drop k).length = xs.length - k := List.length_drop
    have hsk : SlB encStr te F w2 (partA (some ⟨b', o', none⟩) c k) (xs.drop k) := HSR2.out.cutL k (by omega) HC.out
    obtain ⟨PA, hPA⟩ : ∃ z, z = partA (some ⟨b', o', none⟩) c k := ⟨_, rfl⟩
    rw [← hPA] at hcut6 hsk
    rw [← hdl] at hcut6
    have hlen16 : ∀ y ∈ xs.drop k, y.length ≤ 1000 := fun y hy => by
     obtain ⟨i9, hi9⟩ := HID.out y (List.mem_of_mem_drop hy)
     rw [(idxN_iff.1 hi9).2, nmOf_len]; omega
    obtain ⟨⟨dr, kr⟩, hrm⟩ : ∃ z, z = rmW d (xs.drop k).reverse := ⟨_, rfl⟩
    have HRM := Lib.hid (W_Remove (c := c - k) HAT2.out hsk HF.out (by rw [hdl]; have := HN.out; omega) hlen16 hrm.symm)
    have HRME := Lib.hid hrm
    obtain ⟨xk, hxk⟩ : ∃ z, z = xs.drop k := ⟨_, rfl⟩
    rw [← hxk] at hcut6 HRM HRME
    have HXK := Lib.hid hxk
    clear hdl hsk hPA hlen16 hrm hxk
    cases q with
    | true =>
      have HRS : Hid (res = (dr, ss, kr)) := Lib.hid (by
       rw [HRES.out, HLD.out, HDR.out]
       have hq := HQ.out.symm
       simp only [Bool.and_eq_true, decide_eq_true_eq, bne_iff_ne] at hq
       unfold loadW
       rw [if_pos ⟨fun e9 => by have h9 := HNE.out; rw [e9] at h9; simp at h9; omega, by rw [HIDX.out.2, ← HLAE.out]; exact hq.2⟩, ← HDR.out, ← HXK.out, ← HRME.out])
      go_wp2_with ((with_reducible refine HRM.out.mono ?_); rintro e w3 ⟨rfl, h3⟩; have HP3 : Hid (WkP G B p wb dr (kr : Int) ss (allE ss) w2 (.returned (.int .i64 (kr : Int))) w3) := Lib.hid ⟨rfl, h3⟩; clear h3)
      go_ret
      exact LdP.of HRS.out HB2.out.1 HB2.out.2 HP3.out
    | false =>
      have HGO : Hid (loadW d ss (xs.drop k) = if (Dsk.read d n).2 ≠ 0 then (d, ss, (Dsk.read d n).2) else
       if scanS (i : Int) (Dsk.read d n).1 = [] then (dr, ss, kr)
       else if (recsB (scanS (i : Int) (Dsk.read d n).1)).length = (Dsk.read d n).1.length then loadW d (ss ++ [⟨(i : Int), scanS (i : Int) (Dsk.read d n).1, false⟩]) (xs.drop (k + 1))
       else if (rmW d (xs.drop (k + 1)).reverse).2 ≠ 0 then ((rmW d (xs.drop (k + 1)).reverse).1, ss ++ [⟨(i : Int), scanS (i : Int) (Dsk.read d n).1, false⟩], (rmW d (xs.drop (k + 1)).reverse).2)
       else ((cut (rmW d (xs.drop (k + 1)).reverse).1 n ((recsB (scanS (i : Int) (Dsk.read d n).1)).length : Int)).1, ss ++ [⟨(i : Int), scanS (i : Int) (Dsk.read d n).1, false⟩], (cut (rmW d (xs.drop (k + 1)).reverse).1 n ((recsB (scanS (i : Int) (Dsk.read d n).1)).length : Int)).2)) := Lib.hid (by
       have hq := HQ.out.symm
       rw [HXK.out, HDR.out] at HRME
       rw [HDR.out]
       conv => lhs; unfold loadW
       rw [if_neg (fun e9 => by
        rw [HIDX.out.2, ← HLAE.out] at e9
        have h0 : 0 < ne := by rw [HNE.out]; exact List.length_pos_iff.2 e9.1
        rw [decide_eq_true h0, Bool.true_and, bne_eq_false_iff_eq] at hq
        exact e9.2 hq)]
       simp only [HIDX.out.2, ← HRME.out])
      obtain ⟨⟨bs, kc⟩, hrd⟩ : ∃ z, z = Dsk.read d n := ⟨_, rfl⟩
      rw [← hrd] at HGO
      have hbl : bs.length ≤ 65536 := by have := d_read_len (n := n) HAT2.out.dd; rw [← hrd] at this; exact this
      have HRD := Lib.hid (L_Read HAT2.out.dd nm (by rw [HNM.out]; unfold nmWA; simp [ByteArray.size, nmOf_len]; unfold maxLen; decide) (by rw [HSNM.out]; exact hrd.symm) (ki := (kc : Int)) rfl)
      have hp0 := HAT2.out.ptr
      have HBL := Lib.hid hbl
      clear hrd hbl
      go_wp2_with fail
      (with_reducible refine HRD.out.mono ?_); rintro e w3 ⟨A3, c3, rfl, hs3, hc3, hm3, -, hb3⟩
      have HAT3 := Lib.hid (HAT2.out.protect (G2 := fun g => w2.heap.size ≤ g ∧ g < w3.heap.size) hb3 (fun g hg => hg))
      have HS3 := Lib.hid (hs3.mono (G := fun g => G g ∨ (w2.heap.size ≤ g ∧ g < w3.heap.size)) (fun g hl hg => .inr ⟨hg, hl⟩))
      have HC3 : Hid (bs.length ≤ c3 ∧ c3 ≤ maxLen) := Lib.hid ⟨hc3, hm3⟩
      have HB3 : Hid (Below B w w3 ∧ Kept G w w3) := Lib.hid ⟨HB2.out.1.trans (hb3.mono HAT2.out.le), fun g hg => (hb3.block g (HAT2.out.oldG g hg)).trans (HB2.out.2 g hg)⟩
      have HSR3 := Lib.hid (HSR2.out.below hb3)
      clear hs3 hc3 hm3 hb3 hp0 HRD
      by_cases hk0' : kc = 0
      ·subst hk0'
       have tk : ((((0 : Nat) : Int)) != 0) = false := rfl
       have HSCN := Lib.hid (W_Scan (c := c3) HAT3.out (ix := (i : Int)) (by omega) (by have := HI1.out; omega) HS3.out (fun g hg => hg) HC3.out.1 HC3.out.2 (by have := HBL.out; omega) ⟨by have := HOK.out.2.1; have := HN.out; omega, by have := HOK.out.2.2; have := HN.out; omega⟩)
       rw [← HNM.out] at HSCN
       obtain ⟨es, hes⟩ : ∃ z, z = scanS (i : Int) bs := ⟨_, rfl⟩
       simp only [← hes] at HGO
       rw [← hes] at HSCN
       have HES := Lib.hid hes
       clear hes
       go_wp2_with fail
       (with_reducible refine HSCN.out.mono ?_); rintro e w4 ⟨rfl, hat4, hb4, hk4⟩
       have hok := scanS_ok (i : Int) bs
       rw [← HES.out] at hok
       have hnb : (recsB es).length ≤ bs.length := by
        have h9 := congrArg List.length hok.2.2
        rw [List.length_take] at h9; omega
       have hel := recsB_len_ge es
       obtain ⟨n0, hn0⟩ : ∃ z, z = (recsB es).length := ⟨_, rfl⟩
       rw [← hn0] at hnb hel HGO ⊢
       have HEZ : Hid (n0 = 0 ↔ es = []) := Lib.hid ⟨fun e9 => List.eq_nil_of_length_eq_zero (by omega), fun e9 => by rw [hn0, e9]; rfl⟩
       have HES2 : Hid (Wl.follow (i : Int) es ∧ allR es ∧ es.length ≤ 2048) := Lib.hid ⟨hok.1, hok.2.1, by have := HBL.out; omega⟩
       have HN0 : Hid (n0 ≤ bs.length) := Lib.hid hnb
       have HAT4 := Lib.hid (hat4.weaken (G2 := G) (fun g hg => .inl hg))
       have HB4 : Hid (Below B w w4 ∧ Kept G w w4) := Lib.hid ⟨HB3.out.1.trans hb4, fun g hg => (hk4 g (.inl hg)).trans (HB3.out.2 g hg)⟩
       have HSR4 : Hid (SlB encStr te F w4 (some ⟨b', o', none⟩) xs) := Lib.hid (HSR3.out.kept hk4 (fun g hg => .inl (HF.out g hg)))
       clear hok hnb hel hn0 hat4 hb4 hk4 HSCN HRM
       by_cases hz : n0 = 0
       ·have he : es = [] := HEZ.out.1 hz
        have t1 : ((n0 : Int) == 0) = true := by rw [hz]; rfl
        have t2 : ¬ 0 < n0 := by omega
        have HRS : Hid (res = (dr, ss, kr)) := Lib.hid (by rw [HRES.out, HLD.out, HGO.out, if_neg (by simp), if_pos he])
        have hat5 := HAT4.out
        rw [if_pos he, List.append_nil, he, List.append_nil] at hat5
        have hsk : SlB encStr te F w4 PA xk := by
         have h9 := HSR4.out.cutL (c := c) k (by omega) HC.out
         rw [← HXK.out] at h9
         have h8 := hcut6 w4
         rw [cutS _ _ _ _ (by omega)] at h8
         injection h8 with h8; injection h8 with h8
         rw [h8] at h9; exact h9
        have hlen16 : ∀ y ∈ xk, y.length ≤ 1000 := fun y hy => by
         rw [HXK.out] at hy
         obtain ⟨i9, hi9⟩ := HID.out y (List.mem_of_mem_drop hy)
         rw [(idxN_iff.1 hi9).2, nmOf_len]; omega
        have HRM := Lib.hid (W_Remove (c := c - k) hat5 hsk HF.out (by rw [HXK.out, List.length_drop]; have := HN.out; omega) hlen16 HRME.out.symm)
        clear he hz hat5 hsk hlen16
        by_cases hbz : bs.length = n0
        ·have t3 : ((n0 : Int) == (bs.length : Int)) = true := by rw [hbz]; simp
         clear hbz
         go_wp2_with ((with_reducible refine HRM.out.mono ?_); rintro e w5 ⟨rfl, h5⟩; have HP5 : Hid (WkP G B p wb dr (kr : Int) ss (allE ss) w4 (.returned (.int .i64 (kr : Int))) w5) := Lib.hid ⟨rfl, h5⟩; clear h5)
         go_ret
         exact LdP.of HRS.out HB4.out.1 HB4.out.2 HP5.out
        ·have t3 : ((n0 : Int) == (bs.length : Int)) = false := by rw [beq_eq_false_iff_ne]; omega
         clear hbz
         go_wp2_with ((with_reducible refine HRM.out.mono ?_); rintro e w5 ⟨rfl, h5⟩; have HP5 : Hid (WkP G B p wb dr (kr : Int) ss (allE ss) w4 (.returned (.int .i64 (kr : Int))) w5) := Lib.hid ⟨rfl, h5⟩; clear h5)
         go_ret
         exact LdP.of HRS.out HB4.out.1 HB4.out.2 HP5.out
       ·have hne : es ≠ [] := fun e9 => hz (HEZ.out.2 e9)
        have t1 : ((n0 : Int) == 0) = false := by rw [beq_eq_false_iff_ne]; omega
        have t2 : 0 < n0 := by omega
        obtain ⟨ss2, hss2⟩ : ∃ z, z = ss ++ [(⟨(i : Int), es, false⟩ : Sg)] := ⟨_, rfl⟩
        have hall : allE ss2 = allE ss ++ es := by rw [hss2, allE_snoc]
        have hat5 : WlAt G B p wb d ss2 w4 := by
         have h9 := HAT4.out
         rw [if_neg hne, ← hss2, ← hall] at h9; exact h9
        have HAT5 := Lib.hid hat5
        have HSS2 := Lib.hid hss2
        have HALL := Lib.hid hall
        have HNE2 := Lib.hid hne
        clear hat5 hne hz
        by_cases hbz : n0 = bs.length
        ·have t3 : ((n0 : Int) == (bs.length : Int)) = true := by rw [hbz]; simp
         have HLD2 : Hid (loadW d [] xs = loadW d ss2 (xs.drop (k + 1))) := Lib.hid (by rw [HLD.out, HGO.out, if_neg (by simp), if_neg HNE2.out, if_pos hbz, ← HSS2.out])
         clear hbz hall hss2
         go_wp2_with fail
         go_roundw
         case rel =>
          refine ⟨k + 1, ss2, HLT.out, by go_num, HAT5.out, HLD2, Lib.hid ⟨?_, ?_, ?_⟩, HB4⟩
          ·rw [HALL.out]
           intro y hy
           rcases List.mem_append.1 hy with hy | hy
           ·exact HOK.out.1 y hy
           ·exact HES2.out.2.1 y hy
          ·rw [HSS2.out, List.length_append, List.length_singleton]; have := HOK.out.2.1; omega
          ·rw [HALL.out, List.length_append]; have := HOK.out.2.2; have := HES2.out.2.2; omega
         case measure => simp [RowKit.intOf]; omega
        ·have t3 : ((n0 : Int) == (bs.length : Int)) = false := by rw [beq_eq_false_iff_ne]; omega
         have hcut7 : ∀ W, (Instr.slice 85 (.slice (some ⟨b', o', none⟩) xs.length c) (some (.int .i64 ((k : Int) + 1))) none none).run Tryz.prog W = .ok (.slice (partA (some ⟨b', o', none⟩) c (k + 1)) (xs.length - (k + 1)) (c - (k + 1))) W := fun W => by
          have h9 := cutS (some ⟨b', o', none⟩) xs.length c (k + 1) (by omega) W
          rw [show ((k + 1 : Nat) : Int) = (k : Int) + 1 by omega] at h9; exact h9
         have hdl : (xs.drop (k + 1)).length = xs.length - (k + 1) := List.length_drop
         have hsk : SlB encStr te F w4 (partA (some ⟨b', o', none⟩) c (k + 1)) (xs.drop (k + 1)) := HSR4.out.cutL (k + 1) (by omega) HC.out
         have hlen16 : ∀ y ∈ xs.drop (k + 1), y.length ≤ 1000 := fun y hy => by
          obtain ⟨i9, hi9⟩ := HID.out y (List.mem_of_mem_drop hy)
          rw [(idxN_iff.1 hi9).2, nmOf_len]; omega
         obtain ⟨⟨d2, k2⟩, hrm⟩ : ∃ z, z = rmW d (xs.drop (k + 1)).reverse := ⟨_, rfl⟩
         have HRM := Lib.hid (W_Remove (c := c - (k + 1)) HAT5.out hsk HF.out (by rw [hdl]; have := HN.out; omega) hlen16 hrm.symm)
         have hgo := HGO.out
         rw [if_neg (by simp), if_neg HNE2.out, if_neg hbz, ← hss2, ← hrm] at hgo
         have HGO2 := Lib.hid hgo
         obtain ⟨PB, hPB⟩ : ∃ z, z = partA (some ⟨b', o', none⟩) c (k + 1) := ⟨_, rfl⟩
         obtain ⟨xk1, hxk1⟩ : ∃ z, z = xs.drop (k + 1) := ⟨_, rfl⟩
         rw [← hPB, ← hdl, ← hxk1] at hcut7
         rw [← hPB, ← hxk1] at HRM
         have hkk : (k : Int) + 1 ≤ (xs.length : Int) := by omega
         clear hbz hdl hsk hlen16 hrm hgo hPB hxk1 hss2 hall hcut6
         go_wp2_with fail
         (with_reducible refine HRM.out.mono ?_); rintro e w5 ⟨rfl, hat5, hb5, hk5⟩
         have HAT6 := Lib.hid hat5
         have HB5 : Hid (Below B w w5 ∧ Kept G w w5) := Lib.hid ⟨HB4.out.1.trans hb5, fun g hg => (hk5 g hg).trans (HB4.out.2 g hg)⟩
         clear hat5 hb5 hk5 HRM hcut7
         by_cases hk2 : k2 = 0
         ·subst hk2
          have tk2 : ((((0 : Nat) : Int)) != 0) = false := rfl
          have hp0 := HAT6.out.ptr
          obtain ⟨⟨d3, k3⟩, hct⟩ : ∃ z, z = cut d2 n (n0 : Int) := ⟨_, rfl⟩
          have HCT := Lib.hid (W_Cut (d' := d3) (k := k3) HAT6.out nm (by rw [HNM.out]; unfold nmWA; simp [ByteArray.size, nmOf_len]; unfold maxLen; decide) (n0 : Int) (wfN (by have := HN0.out; have := HBL.out; omega)) (by rw [HSNM.out]; exact hct.symm))
          have HRS : Hid (res = (d3, ss2, k3)) := Lib.hid (by
           rw [HRES.out, HLD.out, HGO2.out, if_neg (by simp)]
           simp only [← hct])
          clear hct
          go_wp2_with fail
          (with_reducible refine HCT.out.mono ?_); rintro e w6 ⟨rfl, h6⟩
          have HP6 : Hid (WkP G B p wb d3 (k3 : Int) ss2 (allE ss2) w5 (.returned (.int .i64 (k3 : Int))) w6) := Lib.hid ⟨rfl, h6⟩
          clear h6 hp0
          go_wp2_with fail
          go_ret
          exact LdP.of HRS.out HB5.out.1 HB5.out.2 HP6.out
         ·have tk2 : ((k2 : Int) != 0) = true := by rw [bne_iff_ne]; omega
          have HRS : Hid (res = (d2, ss2, k2)) := Lib.hid (by rw [HRES.out, HLD.out, HGO2.out, if_pos hk2])
          clear hk2
          go_wp2_with fail
          go_ret
          rw [HRS.out]
          exact ⟨rfl, HAT6.out, HB5.out.1, HB5.out.2⟩
      ·have tk : ((kc : Int) != 0) = true := by rw [bne_iff_ne]; omega
       have HRS : Hid (res = (d, ss, kc)) := Lib.hid (by rw [HRES.out, HLD.out, HGO.out, if_pos hk0'])
       clear hk0'
       go_wp2_with fail
       go_ret
       rw [HRS.out]
       exact ⟨rfl, HAT3.out.weaken (fun g hg => .inl hg), HB3.out.1, HB3.out.2⟩
  ·have HRS : Hid (res = (d, ss, 0)) := Lib.hid (by
    rw [HRES.out, HLD.out, List.drop_of_length_le (by omega)]; rfl)
   go_wp2_with fail
   go_ret
   rw [HRS.out]
   exact ⟨rfl, HAT.out, HBK.out.1, HBK.out.2⟩
end Go.Proofs.YtifgajinfcihmaaGreatDoor
namespace Go.Proofs.YtifgajinfcihmaaGreatDoor
open Go Go.RowKit Go.Maps Go.Lib Mem Pk Dsk Wl Go.Proofs.YtifgajinfcihmaaGreatDoor.Nm
theorem strTW : SliceT Tryz.prog 85 9 (.string ⟨#[]⟩) 16 := sliceT_mk Tryz.underlying85 rfl (by kernel_rfl)
def OpnP (G : Nat → Prop) (B p : Nat) (r : S × List Sg × Nat) (w : World) (e : Ending) (w' : World) : Prop :=
 Below B w w' ∧ Kept G w w' ∧ (r.2.2 ≠ 0 → e = .returned (.tuple #[.pointer none, .int .i64 (r.2.2 : Int)]) ∧ DX G B p r.1 w') ∧
 (r.2.2 = 0 → ∃ wb, e = .returned (.tuple #[.pointer (some ⟨wb, 0, none⟩), .int .i64 0]) ∧ WlAt G B p wb r.1 r.2.1 w')
theorem OpnP.bad {G : Nat → Prop} {B p : Nat} {r : S × List Sg × Nat} {d' : S} {ss : List Sg} {k : Nat} {w w' : World} (h : r = (d', ss, k)) (hk : k ≠ 0) (hb : Below B w w') (hg : Kept G w w') (hd : DX G B p d' w') : OpnP G B p r w (.returned (.tuple #[.pointer none, .int .i64 (k : Int)])) w' := by
 subst h; exact ⟨hb, hg, fun _ => ⟨rfl, hd⟩, fun h => absurd h hk⟩
theorem OpnP.good {G : Nat → Prop} {B p wb : Nat} {r : S × List Sg × Nat} {d' : S} {ss : List Sg} {w w' : World} (h : r = (d', ss, 0)) (hb : Below B w w') (hg : Kept G w w') (hd : WlAt G B p wb d' ss w') : OpnP G B p r w (.returned (.tuple #[.pointer (some ⟨wb, 0, none⟩), .int .i64 0])) w' := by
 subst h; exact ⟨hb, hg, fun h => absurd rfl h, fun _ => ⟨wb, rfl, hd⟩⟩
def okN (n : Name) : Bool := (idxN 119 n).isSome
def NmRelW (xs : List Name) (w2 : World) (nv iv : Value) (wr : World) : Prop :=
 ∃ k : Nat, k ≤ xs.length ∧ iv = .int .i64 k ∧ Mem.Own encStr w2.heap.size 9 wr nv ((xs.take k).filter okN) ∧ Hid (Below w2.heap.size w2 wr)
theorem dx_count {K : Nat → Prop} {B p : Nat} {d : S} {w : World} (h : DX K B p d w) : (snames d).length ≤ 256 ∧ ∀ n ∈ snames d, n.length ≤ 16 := by
 obtain ⟨mb, rs, h0⟩ := h.at_
 unfold snames
 refine ⟨by rw [List.length_map]; exact h0.count, fun n hn => ?_⟩
 obtain ⟨f, hf, rfl⟩ := List.mem_map.1 hn
 rw [← h0.files] at hf
 obtain ⟨r, hr, rfl⟩ := List.mem_map.1 hf
 have h9 := (h0.recs r hr).2.2.2.2.2.2.2.2.2.2
 unfold named at h9
 simp at h9; exact h9.2
def SyRel (G R : Nat → Prop) (B p wb : Nat) (SA : Option Addr) (sc : Nat) (sm : List SgM) (EA : Option Addr) (ec : Nat) (em : List EnM) (d1 : S) (w4 : World) (iv : Value) (wr : World) : Prop :=
 ∃ (k : Nat) (dk : S), k ≤ sm.length ∧ iv = .int .i64 k ∧ Wl0 G R B p wb dk SA sc sm EA ec em wr ∧ Hid (syncO d1 (sm.map SgM.s) = syncO dk ((sm.drop k).map SgM.s)) ∧ Hid (Below B w4 wr ∧ Kept G w4 wr)
set_option maxRecDepth 100000 in
set_option maxHeartbeats 4000000 in
theorem wOpen_any {G : Nat → Prop} {B p : Nat} {d : S} {w : World} (hx : DX G B p d w) (hla : LaidB B w) :
 Calls Tryz.prog 16 #[.pointer (some ⟨p, 0, none⟩)] w (OpnP G B p (openW d) w) := by
 obtain ⟨res, hres⟩ : ∃ z, z = openW d := ⟨_, rfl⟩
 rw [← hres]
 have HRES := Lib.hid hres
 have HX := Lib.hid hx
 have HLA := Lib.hid hla
 obtain ⟨dn, hdn⟩ : ∃ z, z = d.down := ⟨_, rfl⟩
 have HDN := Lib.hid hdn
 have HDW := Lib.hid (L_Down hx.drop hdn.symm)
 clear hx hla hres hdn
 cases dn with
 | true =>
   have HRS : Hid (res = (d, [], 50)) := Lib.hid (by rw [HRES.out]; unfold openW; rw [if_pos HDN.out.symm])
   go_enter Tryz.func16, Tryz.ntmps16
   go_wp2_with ((with_reducible refine HDW.out.mono ?_); rintro e w' ⟨rfl, rfl⟩)
   go_ret2
   exact OpnP.bad HRS.out (by decide) (Below.refl _ _) (fun _ _ => rfl) HX.out
 | false =>
   obtain ⟨w1, hw1⟩ : ∃ z, z = w.alloc (.cells #[.pointer (some ⟨p, 0, none⟩), .slice none 0 0, .slice none 0 0] 92) := ⟨_, rfl⟩
   have hb1 : Below w.heap.size w w1 := by rw [hw1]; exact (Below.refl _ _).alloc (Nat.le_refl _) _
   have hB1 : Blk w1 w.heap.size 92 #[.pointer (some ⟨p, 0, none⟩), .slice none 0 0, .slice none 0 0] := by rw [hw1]; exact Blk.new_ w _ _
   have HNM := Lib.hid (L_Names (HX.out.below hb1).drop)
   obtain ⟨hc1, hc2⟩ := dx_count HX.out
   obtain ⟨xs, hxs⟩ : ∃ z, z = snames d := ⟨_, rfl⟩
   rw [← hxs] at HNM hc1 hc2
   have HXS := Lib.hid hxs
   have HW1 := Lib.hid hw1
   have HB1 := Lib.hid hb1
   have HBK1 := Lib.hid hB1
   have HC2 := Lib.hid hc2
   have HC1 := Lib.hid hc1
   have hxl : xs.length ≤ 9223372036854775807 := by omega
   clear hw1 hb1 hB1 hc1 hc2 hxs
   go_enter Tryz.func16, Tryz.ntmps16
   go_upto_region 4 with ((with_reducible refine HDW.out.mono ?_); rintro e w' ⟨rfl, rfl⟩)
   rw [← HW1.out]
   go_wp2_with fail
   (with_reducible refine HNM.out.mono ?_); rintro e w2 ⟨An, cn, rfl, hsn, -, hb2⟩
   have HSN := Lib.hid hsn
   have HB2 : Hid (Below w.heap.size w w2) := Lib.hid (HB1.out.trans (hb2.mono HB1.out.size))
   have HBK2 := Lib.hid (HBK1.out.below hb2 HBK1.out.lt)
   clear hsn hb2 HNM
   go_wp2_with fail
   go_loopw [5, 22] (fun nv iv wr => NmRelW xs w2 nv iv wr) (fun _ iv _ => xs.length - (RowKit.intOf iv).toNat)
   case atStart => exact ⟨0, Nat.zero_le _, rfl, Mem.Own.nil, Lib.hid (Below.refl _ _)⟩
   case round =>
    obtain ⟨k, hk, rfl, hown, HBW⟩ := hrel
    have HOWN := Lib.hid hown
    by_cases hlt : k < xs.length
    ·obtain ⟨b', o', rfl, _, hcl⟩ := (HSN.out.below HBW.out).sl.at hlt
     have hck := hcl k hlt
     obtain ⟨n, hnk⟩ : ∃ n, n = xs[k] := ⟨_, rfl⟩
     rw [← hnk] at hck
     have hnl : n.length ≤ 16 := HC2.out n (by rw [hnk]; exact List.getElem_mem hlt)
     have HIX := Lib.hid (WIndex_any (B := B) (HLA.out.on (((HB2.out.mono HX.out.le)).trans (HBW.out.mono (Nat.le_trans HX.out.le HB2.out.size)))) (Nat.le_trans HX.out.le (Nat.le_trans HB2.out.size HBW.out.size)) ⟨n.toArray⟩ (by simp [ByteArray.size]; omega))
     have hsn : sname ⟨n.toArray⟩ = n := by unfold sname; simp
     have HTK : Hid ((xs.take (k + 1)).filter okN = (xs.take k).filter okN ++ if okN n = true then [n] else []) := Lib.hid (by
      rw [List.take_succ_eq_append_getElem hlt, ← hnk, List.filter_append]
      congr 1
      rw [List.filter_cons]; rfl)
     have hk0 : (0 : Int) ≤ (k : Int) := by omega
     have hk1 : (k : Int) < (xs.length : Int) := by omega
     obtain ⟨M, hM⟩ : ∃ M, M = (xs.take k).filter okN := ⟨_, rfl⟩
     have hML : M.length ≤ 256 := by
      have h1 := HC1.out
      rw [hM]; exact Nat.le_trans (List.length_filter_le _ _) (by rw [List.length_take]; omega)
     rw [← hM] at HOWN HTK
     have HML := Lib.hid hML
     have HSNN := Lib.hid hsn
     have HLT := Lib.hid hlt
     replace hck : wr.cell? ⟨b', o' + k, none⟩ = some (.string ⟨n.toArray⟩) := hck
     obtain ⟨q, hq⟩ : ∃ q, q = okN n := ⟨_, rfl⟩
     have HQ := Lib.hid hq
     clear hown hcl hnk hnl hsn hM hML hlt hq
     go_wp2_with fail
     (with_reducible refine HIX.out.mono ?_); rintro e w3 ⟨⟨v, rfl, -⟩, hb3⟩
     rw [HSNN.out, show (idxN 119 n).isSome = q from HQ.out.symm]
     have HOWN3 := Lib.hid (HOWN.out.below hb3)
     have HBW3 : Hid (Below w2.heap.size w2 w3) := Lib.hid (HBW.out.trans (hb3.mono HBW.out.size))
     clear hb3 hck HIX
     cases q with
     | true =>
       have HT2 : Hid ((xs.take (k + 1)).filter okN = M ++ [n]) := Lib.hid (by rw [HTK.out, if_pos HQ.out.symm])
       go_wp2_with (at_builtin; refine wpList_append1t (f := encStr) rfl (.tmp 32) (.tmp 34) 85 rfl strTW n rfl rfl HOWN3.out rfl rfl (by have := HML.out; unfold maxLen; omega) (by have := HML.out; omega) HBW3.out.size ?_; intro v7 w7 hown7 hg7)
       go_roundw
       case rel => exact ⟨k + 1, HLT.out, by go_num, by rw [HT2.out]; exact hown7, Lib.hid ((HBW3.out.alloc HBW3.out.size _).trans ((HOWN3.out.alloc _).below_ (by rw [World.size_alloc]; exact Nat.le_succ_of_le HBW3.out.size) hg7))⟩
       case measure => simp [RowKit.intOf]; omega
     | false =>
       have HT2 : Hid ((xs.take (k + 1)).filter okN = M) := Lib.hid (by rw [HTK.out, if_neg (by rw [← HQ.out]; decide), List.append_nil])
       go_wp2_with fail
       go_roundw
       case rel => exact ⟨k + 1, HLT.out, by go_num, by rw [HT2.out]; exact HOWN3.out, HBW3⟩
       case measure => simp [RowKit.intOf]; omega
    ·have hkn : k = xs.length := by omega
     rw [hkn, List.take_length] at hown
     obtain ⟨M, hM⟩ : ∃ M, M = xs.filter okN := ⟨_, rfl⟩
     rw [← hM] at hown
     obtain ⟨A4, c4, rfl⟩ := hown.form
     have hMX : M = namesW d := by rw [hM, HXS.out]; rfl
     have hML : M.length ≤ 256 := by rw [hM]; exact Nat.le_trans (List.length_filter_le _ _) HC1.out
     have hMI : ∀ n ∈ M, ∃ i, idxN 119 n = some i := fun n hn => by
      rw [hM] at hn
      have := (List.mem_filter.1 hn).2
      unfold okN at this
      exact Option.isSome_iff_exists.1 this
     have hb3 : Below w.heap.size w wr := HB2.out.trans (HBW.out.mono HB2.out.size)
     have hwb := HBK2.out.below HBW.out HBK2.out.lt
     have hl12 : w.heap.size < w2.heap.size := HBK2.out.lt
     have hold := HX.out.old
     have hBle := HX.out.le
     obtain ⟨G2, hG2⟩ : ∃ z : Nat → Prop, z = fun g => G g ∨ (w2.heap.size ≤ g ∧ g < wr.heap.size) := ⟨_, rfl⟩
     have hW0 : Wl0 G2 (fun _ => False) B p w.heap.size d none 0 [] none 0 [] wr := by
      rw [hG2]
      refine ⟨(HX.out.protect hb3 (G2 := fun g => w.heap.size ≤ g ∧ g < wr.heap.size) (fun g hg => hg)).weaken (fun g hg => ?_), hwb, Rw.nil, Rw.nil, (fun _ h => by cases h), (fun _ h => by cases h), List.Pairwise.nil, hBle, ?_, fun g hg => hg.elim⟩
      ·rcases hg with ((hg | hg) | hg) | hg
       ·exact .inl hg
       ·exact .inr ⟨by omega, hg.2⟩
       ·exact hg.elim
       ·exact .inr ⟨by omega, by have := HBW.out.size; omega⟩
      ·rintro (h9 | h9)
       ·have := hold _ h9; omega
       ·omega
     have hat : WlAt G2 B p w.heap.size d [] wr := ⟨_, _, _, _, _, _, _, hW0, rfl, rfl⟩
     have hnm : SlB encStr 9 G2 wr A4 M := by
      rw [hG2]
      exact (SlB.of_own hown).2.mono (fun g hl hg => .inr ⟨hg, hl⟩)
     have HLD := Lib.hid (wload_any hat (HLA.out.on (hb3.mono hBle)) (c := c4) hnm (fun g hg => hg) hown.cap.1 hML hMI)
     obtain ⟨⟨d1, ss, kl⟩, hld⟩ : ∃ z, z = loadW d [] M := ⟨_, rfl⟩
     rw [← hld] at HLD
     have HLDE : Hid (loadW d [] (namesW d) = (d1, ss, kl)) := Lib.hid (by rw [← hMX, ← hld])
     have HG2 : Hid (∀ g, G g → G2 g) := Lib.hid (fun g hg => by rw [hG2]; exact .inl hg)
     have HB3 : Hid (Below B w wr ∧ Kept G w wr) := Lib.hid ⟨hb3.mono hBle, fun g hg => hb3.block g (hold g hg)⟩
     clear hkn hown hM hMX hML hMI hb3 hwb hl12 hold hBle hG2 hW0 hat hnm hld hk
     go_wp2_with fail
     (with_reducible refine HLD.out.mono ?_); rintro e w4 ⟨rfl, hat4, hb4, hk4⟩
     have HB4 : Hid (Below B w w4 ∧ Kept G w w4) := Lib.hid ⟨HB3.out.1.trans hb4, fun g hg => (hk4 g (HG2.out g hg)).trans (HB3.out.2 g hg)⟩
     have HAT4 := Lib.hid hat4
     clear hat4 hb4 hk4 HLD
     by_cases hkl : kl = 0
     ·subst hkl
      have tk : ((((0 : Nat) : Int)) != 0) = false := rfl
      obtain ⟨R, SA, sc, sm, EA, ec, em, h0, hsm, hem⟩ := HAT4.out
      have HRS : Hid (res = ((syncO d1 (sm.map SgM.s)).1, ss, (syncO d1 (sm.map SgM.s)).2)) := Lib.hid (by
       rw [HRES.out]; unfold openW
       rw [if_neg (by rw [← HDN.out]; decide)]
       simp only [HLDE.out, hsm]
       rw [if_neg (by simp)])
      have v1 : w4.cell? ⟨w.heap.size, 1, none⟩ = some (.slice SA sm.length sc) := h0.blk.cell 1
      have hsl : sm.length ≤ 9223372036854775807 := h0.segs.len0
      have H0 := Lib.hid h0
      have HSM := Lib.hid hsm
      have HEM := Lib.hid hem
      clear h0 hsm hem
      go_wp2_with fail
      clear v1
      go_loopw [48] (fun iv wr => SyRel G2 R B p w.heap.size SA sc sm EA ec em d1 w4 iv wr) (fun iv _ => sm.length - (RowKit.intOf iv).toNat)
      case atStart => exact ⟨0, d1, Nat.zero_le _, rfl, H0.out, Lib.hid rfl, Lib.hid ⟨Below.refl _ _, fun _ _ => rfl⟩⟩
      case round =>
       obtain ⟨j, dk, hj, rfl, hw0, HSY, HBJ⟩ := hrel
       have HW0 := Lib.hid hw0
       by_cases hjl : j < sm.length
       ·obtain ⟨bb, oo, rfl, -, -, -, hc4⟩ := hw0.segs.at hjl
        obtain ⟨x, hx⟩ : ∃ x, x = sm[j] := ⟨_, rfl⟩
        rw [← hx] at hc4
        have e0 : wr.cell? ⟨bb, oo + j * 4, none⟩ = some (.string (nmWA x.s.ix)) := hc4 0 (by decide)
        have e1 : wr.cell? ⟨bb, oo + j * 4 + 1, none⟩ = some (.slice x.A x.s.es.length x.c) := hc4 1 (by decide)
        have e2 : wr.cell? ⟨bb, oo + j * 4 + 2, none⟩ = some (.int .i64 ((sgB x.s).length : Int)) := hc4 2 (by decide)
        have e3 : wr.cell? ⟨bb, oo + j * 4 + 3, none⟩ = some (.bool x.s.wet) := hc4 3 (by decide)
        have hdr : sm.drop j = x :: sm.drop (j + 1) := by rw [hx]; exact List.drop_eq_getElem_cons hjl
        obtain ⟨⟨d2, k2⟩, hsy⟩ : ∃ z, z = Dsk.sync dk (sgN x.s) := ⟨_, rfl⟩
        obtain ⟨w5, hw5⟩ : ∃ z, z = wr.alloc (.cells #[.string (nmWA x.s.ix), .slice x.A x.s.es.length x.c, .int .i64 ((sgB x.s).length : Int), .bool x.s.wet] 97) := ⟨_, rfl⟩
        have hb5 : Below wr.heap.size wr w5 := by rw [hw5]; exact (Below.refl _ _).alloc (Nat.le_refl _) _
        have hx5 : Blk w5 wr.heap.size 97 #[.string (nmWA x.s.ix), .slice x.A x.s.es.length x.c, .int .i64 ((sgB x.s).length : Int), .bool x.s.wet] := by rw [hw5]; exact Blk.new_ wr _ _
        have HW5 := Lib.hid (hw0.below hb5)
        have HSYN := Lib.hid (X_Sync (s' := d2) (k := k2) HW5.out.dx (nmWA x.s.ix) (by unfold nmWA; simp [ByteArray.size, nmOf_len]; unfold maxLen; decide) (by rw [sname_nmWA]; exact hsy.symm) (ki := (k2 : Int)) rfl)
        have HSE : Hid (syncO dk ((sm.drop j).map SgM.s) = if k2 = 0 then syncO d2 ((sm.drop (j + 1)).map SgM.s) else (d2, k2)) := Lib.hid (by
         rw [hdr, List.map_cons, syncO, ← hsy])
        have HB5 : Hid (Below B w4 w5 ∧ Kept G2 w4 w5) := Lib.hid ⟨HBJ.out.1.trans (hb5.mono hw0.dx.le), fun g hg => (hb5.block g (hw0.oldG g hg)).trans (HBJ.out.2 g hg)⟩
        have n0 : w5.cell? ⟨wr.heap.size, 0, none⟩ = some (.string (nmWA x.s.ix)) := hx5.cell 0
        have hj0 : (0 : Int) ≤ (j : Int) := by omega
        have hj1 : (j : Int) < (sm.length : Int) := by omega
        obtain ⟨nm, hnm⟩ : ∃ z, z = nmWA x.s.ix := ⟨_, rfl⟩
        obtain ⟨sz, hsz⟩ : ∃ z, z = (sgB x.s).length := ⟨_, rfl⟩
        obtain ⟨xA, hxA⟩ : ∃ z, z = x.A := ⟨_, rfl⟩
        obtain ⟨xn, hxn⟩ : ∃ z, z = x.s.es.length := ⟨_, rfl⟩
        obtain ⟨xc, hxc⟩ : ∃ z, z = x.c := ⟨_, rfl⟩
        obtain ⟨xw, hxw⟩ : ∃ z, z = x.s.wet := ⟨_, rfl⟩
        rw [← hnm, ← hsz, ← hxA, ← hxn, ← hxc, ← hxw] at hw5
        rw [← hnm] at e0 n0 HSYN
        rw [← hxA, ← hxn, ← hxc] at e1
        rw [← hsz] at e2
        rw [← hxw] at e3
        have HW5E := Lib.hid hw5
        clear hw0 hc4 hdr hsy hw5 hb5 hx5 hx hnm hsz hxA hxn hxc hxw
        go_upto_region 18 with fail
        rw [← HW5E.out]
        go_wp2_with fail
        (with_reducible refine HSYN.out.mono ?_); rintro e w6 ⟨rfl, hd6, hb6, hk6⟩
        have HW6 := Lib.hid (HW5.out.kept hd6 hk6)
        have HB6 : Hid (Below B w4 w6 ∧ Kept G2 w4 w6) := Lib.hid ⟨HB5.out.1.trans hb6, fun g hg => (hk6 g (.inl (.inl hg))).trans (HB5.out.2 g hg)⟩
        clear hd6 hb6 hk6 e0 e1 e2 e3 n0 HSYN
        by_cases hk2 : k2 = 0
        ·subst hk2
         have tk2 : ((((0 : Nat) : Int)) != 0) = false := rfl
         go_wp2_with fail
         go_roundw
         case rel => exact ⟨j + 1, d2, hjl, by go_num, HW6.out, Lib.hid (by rw [HSY.out, HSE.out]; simp), HB6⟩
         case measure => simp [RowKit.intOf]; omega
        ·have tk2 : ((k2 : Int) != 0) = true := by rw [bne_iff_ne]; omega
         have HRS2 : Hid (res = (d2, ss, k2)) := Lib.hid (by rw [HRS.out, HSY.out, HSE.out, if_neg hk2])
         have HK2 := Lib.hid hk2
         clear hk2
         go_wp2_with fail
         go_ret2
         exact OpnP.bad HRS2.out HK2.out (HB4.out.1.trans HB6.out.1) (fun g hg => (HB6.out.2 g (HG2.out g hg)).trans (HB4.out.2 g hg)) (HW6.out.dx.weaken (fun g hg => .inl (.inl (HG2.out g hg))))
       ·have HRS2 : Hid (res = (dk, ss, 0)) := Lib.hid (by
         rw [HRS.out, HSY.out, List.drop_of_length_le (by omega)]; rfl)
        clear hw0
        go_wp2_with fail
        go_ret2
        exact OpnP.good HRS2.out (HB4.out.1.trans HBJ.out.1) (fun g hg => (HBJ.out.2 g (HG2.out g hg)).trans (HB4.out.2 g hg)) (WlE.weaken ⟨R, SA, sc, sm, EA, ec, em, HW0.out, HSM.out, HEM.out⟩ HG2.out)
     ·have tk : ((kl : Int) != 0) = true := by rw [bne_iff_ne]; omega
      have HRS : Hid (res = (d1, ss, kl)) := Lib.hid (by
       rw [HRES.out]; unfold openW
       rw [if_neg (by rw [← HDN.out]; decide)]
       simp only [HLDE.out]
       rw [if_pos hkl])
      have HKL := Lib.hid hkl
      clear hkl
      go_wp2_with fail
      go_ret2
      refine OpnP.bad HRS.out HKL.out HB4.out.1 HB4.out.2 ?_
      obtain ⟨R, SA, sc, sm, EA, ec, em, h0, -, -⟩ := HAT4.out
      exact h0.dx.weaken (fun g hg => .inl (.inl (HG2.out g hg)))
end Go.Proofs.YtifgajinfcihmaaGreatDoor
namespace Go.Proofs.YtifgajinfcihmaaGreatDoor
open Go Go.RowKit Go.Maps Go.Lib Mem Pk Dsk Wl Go.Proofs.YtifgajinfcihmaaGreatDoor.Nm
section
variable {α : Type} {k : Nat} {f : α → List Value} {e : TypeId} {F : Nat → Prop} {w : World} {A : Option Addr} {c : Nat} {xs : List α}
theorem Mem.Rw.self (h : Rw k f e F w A c xs) : Rw k f e (fun g => F g ∧ atA A g) w A c xs :=
 ⟨h.1, h.2.1, h.2.2.imp id fun ⟨b, o, cur, a1, a2, a3, a4⟩ => ⟨b, o, cur, a1, ⟨a2, o, none, a1⟩, a3, a4⟩⟩
theorem Mem.Rw.raw (h : Rw k f e F w A c xs) (hl : ∀ x, (f x).length = k) : Rw k (fun l : {l : List Value // l.length = k} => l.1) e F w A c (xs.map fun x => ⟨f x, hl x⟩) :=
 ⟨by rw [List.length_map]; exact h.1, h.2.1, h.2.2.imp id fun ⟨b, o, cur, a1, a2, a3, a4, a5⟩ => ⟨b, o, cur, a1, a2, a3, a4, fun j hj i hi => by
  rw [List.length_map] at hj
  rw [List.getElem_map]; exact a5 j hj i hi⟩⟩
theorem Mem.Rw.of_raw {ys : List {l : List Value // l.length = k}} (h : Rw k (fun l : {l : List Value // l.length = k} => l.1) e F w A c ys) (hy : ys.map Subtype.val = xs.map f) : Rw k f e F w A c xs := by
 have hl : ys.length = xs.length := by have h9 := congrArg List.length hy; rw [List.length_map, List.length_map] at h9; exact h9
 refine ⟨by rw [← hl]; exact h.1, h.2.1, h.2.2.imp id fun ⟨b, o, cur, a1, a2, a3, a4, a5⟩ => ⟨b, o, cur, a1, a2, a3, a4, fun j hj i hi => ?_⟩⟩
 have h1 := a5 j (by omega) i hi
 have h2 : (ys[j]'(by omega)).1 = f xs[j] := by
  have h3 : (ys.map Subtype.val)[j]'(by rw [List.length_map]; omega) = (xs.map f)[j]'(by rw [List.length_map]; omega) := by simp only [hy]
  rw [List.getElem_map, List.getElem_map] at h3; exact h3
 rw [← h2]; exact h1
end
theorem Mem.Rw.set3 {α : Type} {f : α → List Value} {e : TypeId} {F : Nat → Prop} {w : World} {b o c : Nat} {pre : List α} {x y : α} (h : Rw 4 f e F w (some ⟨b, o, none⟩) c (pre ++ [x])) (hl : ∀ x, (f x).length = 4) (u1 u2 u3 : Value)
 (hy : f y = (((f x).set 1 u1).set 2 u2).set 3 u3) :
 Rw 4 f e F (((w.setCell ⟨b, o + pre.length * 4 + 1, none⟩ u1).setCell ⟨b, o + pre.length * 4 + 2, none⟩ u2).setCell ⟨b, o + pre.length * 4 + 3, none⟩ u3) (some ⟨b, o, none⟩) c (pre ++ [y]) := by
 have h0 := h.raw hl
 have hs1 : ((f x).set 1 u1).length = 4 := by rw [List.length_set, hl]
 have hs2 : (((f x).set 1 u1).set 2 u2).length = 4 := by rw [List.length_set, hs1]
 have hs3 : ((((f x).set 1 u1).set 2 u2).set 3 u3).length = 4 := by rw [List.length_set, hs2]
 have hlen : ((pre ++ [x]).map fun x => (⟨f x, hl x⟩ : {l : List Value // l.length = 4})).length = pre.length + 1 := by simp
 have hg : ((pre ++ [x]).map fun x => (⟨f x, hl x⟩ : {l : List Value // l.length = 4}))[pre.length]'(by rw [hlen]; omega) = ⟨f x, hl x⟩ := by simp
 have h1 := h0.set_ (j := pre.length) (i := 1) (fun l => l.2) (by rw [hlen]; omega) (by decide) u1 (y := ⟨(f x).set 1 u1, hs1⟩) (by rw [hg])
 have h2 := h1.set_ (j := pre.length) (i := 2) (fun l => l.2) (by rw [List.length_set, hlen]; omega) (by decide) u2 (y := ⟨((f x).set 1 u1).set 2 u2, hs2⟩) (by simp only [List.getElem_set_self])
 have h3 := h2.set_ (j := pre.length) (i := 3) (fun l => l.2) (by rw [List.length_set, List.length_set, hlen]; omega) (by decide) u3 (y := ⟨(((f x).set 1 u1).set 2 u2).set 3 u3, hs3⟩) (by simp only [List.getElem_set_self])
 refine h3.of_raw ?_
 simp [hy]
structure Wr9 (R : Nat → Prop) (p wb : Nat) (SA : Option Addr) (sc : Nat) (pre : List SgM) (x : SgM) (EA : Option Addr) (ec : Nat) (em : List EnM) (e : En) (gb : Nat) (cs : Array Value) (A8 : Option Addr) (c8 : Nat) (w w9 : World) : Prop where
 segs : Rw 4 smC 97 R w9 SA sc (pre ++ [⟨⟨x.s.ix, x.s.es ++ [e], true⟩, A8, c8⟩])
 ents : Rw 4 emC 40 R w9 EA ec em
 eok : ∀ y ∈ em, EmOK R w9 y
 rat : Rw 1 iC 3 (fun g => (R g ∧ atA x.A g) ∨ w.heap.size < g) w9 A8 c8 (ats (x.s.es ++ [e]))
 sok : ∀ z ∈ pre, SmOK R w9 z
 wbk : Blk w9 wb 92 #[.pointer (some ⟨p, 0, none⟩), .slice SA (pre ++ [x]).length sc, .slice EA em.length ec]
 box : Blk w9 gb 40 cs
 frm : Frm (fun g => R g ∨ g = wb) w w9
section
variable {G R : Nat → Prop} {B p wb : Nat} {d : S} {SA EA : Option Addr} {sc ec : Nat} {pre : List SgM} {x : SgM} {em : List EnM} {w w8 w9 w10 w12 : World} {A8 A10 A12 : Option Addr} {c8 c10 c12 gb : Nat} {cs : Array Value} {e : En} {u : Value}
theorem Wl0.wr9 (h : Wl0 G R B p wb d SA sc (pre ++ [x]) EA ec em w) {b o : Nat} (hSA : SA = some ⟨b, o, none⟩) (hbx : Blk w gb 40 cs)
 (hr8 : Rw 1 iC 3 (fun g => (R g ∧ atA x.A g) ∨ w.heap.size < g) w8 A8 c8 (ats x.s.es ++ [((sgB x.s).length : Int)])) (hf8 : Frm (fun g => R g ∧ atA x.A g) w w8) {u1 u2 : Value}
 (h1 : u1 = .slice A8 (x.s.es.length + 1) c8) (h2 : u2 = .int .i64 (((sgB x.s).length : Int) + ((recB e).length : Int))) :
 Wr9 R p wb SA sc pre x EA ec em e gb cs A8 c8 w (((w8.setCell ⟨b, o + pre.length * 4 + 1, none⟩ u1).setCell ⟨b, o + pre.length * 4 + 2, none⟩ u2).setCell ⟨b, o + pre.length * 4 + 3, none⟩ (.bool true)) := by
 subst hSA
 have hrow : Rw 1 iC 3 R w x.A x.c (ats x.s.es) := h.sok x (by simp)
 have hs8 := h.segs.frmA hrow (by decide) hf8
 have hRb : R b := hs8.inF ⟨o, none, rfl⟩
 have hf9 : Frm (fun g => R g ∧ atA (some ⟨b, o, none⟩) g) w8 (((w8.setCell ⟨b, o + pre.length * 4 + 1, none⟩ u1).setCell ⟨b, o + pre.length * 4 + 2, none⟩ u2).setCell ⟨b, o + pre.length * 4 + 3, none⟩ (.bool true)) :=
  (((Frm.refl _ _).setCell (p := ⟨b, o + pre.length * 4 + 1, none⟩) (fun _ => ⟨hRb, o, none, rfl⟩) _).setCell (p := ⟨b, o + pre.length * 4 + 2, none⟩) (fun _ => ⟨hRb, o, none, rfl⟩) _).setCell (p := ⟨b, o + pre.length * 4 + 3, none⟩) (fun _ => ⟨hRb, o, none, rfl⟩) _
 refine ⟨?_, (h.ents.frmA hrow (by decide) hf8).frmA hs8 (by decide) hf9, fun y hy => ((h.eok y hy).frmA hrow (by decide) hf8).frmA hs8 (by decide) hf9, ?_, ?_, (h.blk.frmA hrow (by decide) hf8).frmA hs8 (by decide) hf9, (hbx.frmA hrow (by decide) hf8).frmA hs8 (by decide) hf9, ?_⟩
 ·refine hs8.set3 smC_len u1 u2 (.bool true) ?_
  rw [h1, h2]
  unfold smC sgB
  simp only [List.set_cons_succ, List.set_cons_zero, recsB_snoc, List.length_append, List.length_singleton, Int.natCast_add]
 ·rw [ats_snoc]
  exact hr8.frmA hs8 (by decide) hf9
 ·intro z hz
  have hz1 : Rw 1 iC 3 R w z.A z.c (ats z.s.es) := h.sok z (List.mem_append_left _ hz)
  have ha := (List.pairwise_append.1 h.apart).2.2 z hz x (by simp)
  have hz2 : Rw 1 iC 3 R w8 z.A z.c (ats z.s.es) := (hz1.self.frm hf8 (fun g hg hg2 => ha g hg.2 hg2.2)).mono (fun g _ hg => hg.1)
  exact hz2.frmA hs8 (by decide) hf9
 ·exact (hf8.mono (fun g _ hg => .inl hg.1)).trans (hf9.mono (fun g _ hg => .inl hg.1))
theorem Wl0.wr13 (h : Wl0 G R B p wb d SA sc (pre ++ [x]) EA ec em w) (h9 : Wr9 R p wb SA sc pre x EA ec em e gb cs A8 c8 w w9) (hgb : R gb) (hEA : ¬ atA EA gb)
 (ho : Mem.Own fB w9.heap.size 5 w10 (.slice A10 e.ds.length c10) e.ds) (hb10 : Below w9.heap.size w9 w10)
 (hr12 : Rw 4 emC 40 (fun g => (R g ∧ atA EA g) ∨ (w10.setCell ⟨gb, 3, none⟩ u).heap.size < g) w12 A12 c12 (em ++ [⟨e, A10, c10⟩])) (hf12 : Frm (fun g => R g ∧ atA EA g) (w10.setCell ⟨gb, 3, none⟩ u) w12) :
 Wl0 G (fun g => R g ∨ (w.heap.size ≤ g ∧ g < (w12.setCell ⟨wb, 2, none⟩ (.slice A12 (em.length + 1) c12)).heap.size)) B p wb d SA sc (pre ++ [⟨⟨x.s.ix, x.s.es ++ [e], true⟩, A8, c8⟩]) A12 c12 (em ++ [⟨e, A10, c10⟩]) (w12.setCell ⟨wb, 2, none⟩ (.slice A12 (em.length + 1) c12)) ∧
 Frm (fun g => R g ∨ g = wb) w (w12.setCell ⟨wb, 2, none⟩ (.slice A12 (em.length + 1) c12)) := by
 have hbx10 := h9.box.below hb10 h9.box.lt
 have hwg : wb ≠ gb := fun e9 => (h.own gb hgb).2.2 e9.symm
 have hE11 : Rw 4 emC 40 R (w10.setCell ⟨gb, 3, none⟩ u) EA ec em := ((h9.ents.self.below hb10).far hbx10 (.inr (fun e9 => hEA e9.2)) 3 u).mono (fun g _ hg => hg.1)
 have hwb12 := ((h9.wbk.below hb10 h9.wbk.lt).far (p := ⟨gb, 3, none⟩) hwg u).frmA hE11 (by decide) hf12
 have hl1 : w.heap.size ≤ w9.heap.size := h9.frm.size
 have hl2 : w9.heap.size ≤ w10.heap.size := hb10.size
 have hfr : Frm (fun g => R g ∨ g = wb) w (w12.setCell ⟨wb, 2, none⟩ (.slice A12 (em.length + 1) c12)) :=
  ((((h9.frm.then_below hb10).setCell (p := ⟨gb, 3, none⟩) (fun _ => .inl hgb) u).trans (hf12.mono (fun g _ hg => .inl hg.1)))).setCell (p := ⟨wb, 2, none⟩) (fun _ => .inr rfl) _
 have hems : ∀ {F : Nat → Prop} {y : EnM}, EmOK F w10 y → EmOK F (w12.setCell ⟨wb, 2, none⟩ (.slice A12 (em.length + 1) c12)) y := fun hy => ((hy.far hbx10 (by decide) 3 u).frmA hE11 (by decide) hf12).far hwb12 (by decide) 2 _
 refine ⟨Wl0.mk_ h hfr ?_ ?_ ?_ ?_ ?_ ?_, hfr⟩
 ·rw [show (pre ++ [(⟨⟨x.s.ix, x.s.es ++ [e], true⟩, A8, c8⟩ : SgM)]).length = (pre ++ [x]).length by simp, show (em ++ [(⟨e, A10, c10⟩ : EnM)]).length = em.length + 1 by simp]
  exact hwb12.set_ 2 _
 ·exact ((((h9.segs.below hb10).far hbx10 (.inl (by decide)) 3 u).frmA hE11 (by decide) hf12).far hwb12 (.inl (by decide)) 2 _).mono (fun g _ hg => .inl hg)
 ·refine (hr12.far hwb12 (.inl (by decide)) 2 _).mono (fun g _ hg => hg.elim (fun h1 => .inl h1.1) (fun h1 => .inr ?_))
  rw [World.size_setCell] at h1; omega
 ·intro z hz
  have hst : ∀ {F : Nat → Prop} {A : Option Addr} {c : Nat} {xs : List Int}, Rw 1 iC 3 F w9 A c xs → Rw 1 iC 3 F (w12.setCell ⟨wb, 2, none⟩ (.slice A12 (em.length + 1) c12)) A c xs := fun hz1 => (((hz1.below hb10).far hbx10 (.inl (by decide)) 3 u).frmA hE11 (by decide) hf12).far hwb12 (.inl (by decide)) 2 _
  rcases List.mem_append.1 hz with hz | hz
  ·exact Mem.Rw.mono (hst (h9.sok z hz)) (fun g _ hg => .inl hg)
  ·rw [List.mem_singleton.1 hz]
   exact Mem.Rw.mono (hst h9.rat) (fun g _ hg => hg.elim (fun h1 => .inl h1.1) (fun h1 => .inr (Nat.le_of_lt h1)))
 ·intro y hy
  rcases List.mem_append.1 hy with hy | hy
  ·exact (hems ((h9.eok y hy).below hb10)).mono (fun g _ hg => .inl hg)
  ·rw [List.mem_singleton.1 hy]
   refine EmOK.mono (F := fun g => w9.heap.size ≤ g) (hems ⟨(SlB.of_own ho).2, ho.cap.1, ho.cap.2⟩) (fun g _ hg => .inr ?_)
   omega
 ·have hap := List.pairwise_append.1 h.apart
  rw [List.pairwise_append]
  refine ⟨hap.1, by simp, fun z hz y hy g hgz hgy => ?_⟩
  rw [List.mem_singleton.1 hy] at hgy
  have h8 := h.old g (Mem.Rw.inF (h.sok z (List.mem_append_left _ hz)) hgz)
  rcases h9.rat.inF hgy with h7 | h7
  ·exact hap.2.2 z hz x (by simp) g hgz h7.2
  ·omega
end
end Go.Proofs.YtifgajinfcihmaaGreatDoor
