/- Layer 8: SnapPlays: what it holds between its rounds. -/
import Derived.Deep.CutBlock
import Derived.Test.YtfpomllhkbbipaaGreatDoorGBi
import Derived.Test.YtfpomllhkbbipaaGreatDoorGBk
import Derived.Test.YtfpomllhkbbipaaGreatDoorGBl
namespace Go.Proofs.YtfpomllhkbbipaaGreatDoor
open Go Go.RowKit Go.Shelf Go.Sort Go.Maps Go.Lib Mem Pk Cf Dsk Go.Proofs.YtfpomllhkbbipaaGreatDoor.Nm Sto
namespace Sto
def RightO (l : Option SnT) : Prop := ∀ y, l = some y → rightS y = true
def Okay8 (s : S) (l : Option SnT) : Prop := ∃ f, s = ⟨old l, false, f⟩ ∧ f ≤ 9223372036854775807 ∧ RightO l
def Opens8 (s : S) : Prop := ∀ keep, ∃ l, openS (crash s keep) = (⟨old l, false, 0⟩, l, 0) ∧ RightO l
def Broke8 (s : S) : Prop := s.down = true ∧ Opens8 s
theorem Okay8.inv {s : S} {l : Option SnT} (h : Okay8 s l) : InvS s := by
 obtain ⟨f, rfl, hf, -⟩ := h
 exact ⟨old_sorted l, by show (old l).length ≤ 256; cases l <;> simp [old], hf⟩
theorem Okay8.opens {s : S} {l : Option SnT} (h : Okay8 s l) : Opens8 s := by
 obtain ⟨f, rfl, -, hr⟩ := h
 exact fun keep => ⟨l, by rw [crash_old]; exact open_old l hr, hr⟩
theorem Okay8.fuse {s : S} {l : Option SnT} (h : Okay8 s l) {k : Nat} (hk : k ≤ 31) : Okay8 { s with fuse := k } l := by
 obtain ⟨f, rfl, -, hr⟩ := h
 exact ⟨k, rfl, by omega, hr⟩
theorem Broke8.fuse {s : S} (h : Broke8 s) (k : Nat) : Broke8 { s with fuse := k } := ⟨h.1, h.2⟩
theorem okay_put {s : S} {l : Option SnT} (h : Okay8 s l) (x : SnT) : ((putS s l x).2.2 = 50 ∧ Broke8 (putS s l x).1) ∨ ((putS s l x).2.2 ≠ 50 ∧ Okay8 (putS s l x).1 (putS s l x).2.1) := by
 have hiv := h.inv
 have h0 := h
 obtain ⟨f, rfl, hf, hr⟩ := h
 rcases putS_any (s := ⟨old l, false, f⟩) (x := x) rfl rfl hr with ⟨-, hp⟩ | ⟨-, -, hp⟩ | ⟨hx, hl, hp⟩
 ·rw [hp]; exact .inr ⟨by simp, h0⟩
 ·rw [hp]; exact .inr ⟨by simp, h0⟩
 ·have hrun := putS_run (s := ⟨old l, false, f⟩) hx (fun y hy => by have := hl y hy; omega)
  have hi : InvS (putS ⟨old l, false, f⟩ l x).1 := by rw [hrun]; exact inv_runO _ _ hiv
  rcases hp with ⟨h2, h3, h4, -⟩ | ⟨h2, h3, -, h5, h6⟩
  ·right
   generalize putS ⟨old l, false, f⟩ l x = r at h2 h3 h4 hi
   obtain ⟨⟨fs, dn, fu⟩, l2, k⟩ := r
   simp only at h2 h3 h4
   injection h2 with h2 h2'
   subst h2; subst h2'; subst h3; subst h4
   exact ⟨by simp, fu, rfl, hi.fuse, fun y hy => by injection hy with hy; subst hy; exact hx⟩
  ·left
   generalize putS ⟨old l, false, f⟩ l x = r at h2 h3 h5 h6 hi
   obtain ⟨⟨fs, dn, fu⟩, l2, k⟩ := r
   simp only at h2 h3 h5 h6
   injection h2 with h2 h2'
   subst h2; subst h2'; subst h3
   refine ⟨rfl, rfl, fun keep => ?_⟩
   have hX := fam_crash h5 keep 0
   have hs := crash_sorted (keep := keep) hi.sorted 0
   obtain ⟨o1, o2⟩ := fam_open hs hX
   by_cases hne : ∃ g ∈ crashFiles keep fs 0, g.name ≠ nmT
   ·obtain ⟨z, -, hz, ho⟩ := o1 hne
    exact ⟨some z, ho, fun y hy => by injection hy with hy; subst hy; exact hz⟩
   ·exact ⟨none, o2 (fun g hg => Classical.byContradiction fun hn => hne ⟨g, hg, hn⟩), fun y hy => by cases hy⟩
end Sto
open Sto
structure SP (G : Nat → Prop) (B p sb bm : Nat) (s t : S) (l u : Option SnT) (w : World) : Prop where
 st : StAt G B p sb s l w
 box : G bm
 big : B ≤ bm
 ref : ∃ A c rs V C D a b d, Blk w bm 40 #[.slice A rs.length c, .bool t.down, .int .i64 t.fuse, .int .i64 (u.getD zS).x, .int .i64 (u.getD zS).t, .slice V (u.getD zS).vs.length a, .slice C (u.getD zS).ls.length b, .slice D (u.getD zS).ds.length d, .bool u.isSome] ∧ Files G w A rs ∧ rs.map RFile.file = t.files ∧ ArgAt (fun g => (G g ∨ g < B) ∧ g ≠ bm) w (u.getD zS) V C D
theorem StAt.dxG {G : Nat → Prop} {B p sb : Nat} {s : S} {l : Option SnT} {w : World} (h : StAt G B p sb s l w) : DX G B p s w := by
 obtain ⟨R, A, C, D, a, c, d, h⟩ := h
 exact h.dx.weaken (fun g hg => .inl (.inl hg))
section
variable {G : Nat → Prop} {B p sb sb' bm : Nat} {s t s' t' : S} {l u l' u' : Option SnT} {w w' : World}
theorem SP.below (h : SP G B p sb bm s t l u w) (hw : Below w.heap.size w w') : SP G B p sb bm s t l u w' := by
 obtain ⟨A, c, rs, V, C, D, a, b, d, h1, h2, h3, h4⟩ := h.ref
 exact ⟨h.st.below hw, h.box, h.big, A, c, rs, V, C, D, a, b, d, h1.below hw h1.lt, h2.below hw, h3, h4.below hw⟩
theorem SP.op (h : SP G B p sb bm s t l u w) (h1 : StAt G B p sb' s' l' w') (hw : Below B w w') (hk : Kept G w w') : SP G B p sb' bm s' t l' u w' := by
 obtain ⟨A, c, rs, V, C, D, a, b, d, h2, h3, h4, h5⟩ := h.ref
 exact ⟨h1, h.box, h.big, A, c, rs, V, C, D, a, b, d, (hk _ h.box).trans h2, h3.frm (frm_of_kept hw hk) (fun g hg hn => hn hg), h4, h5.same (fun g _ hg => hg.1.elim (hk g) (hw.block g))⟩
theorem StAt.setIn (h : StAt G B p sb s l w) {g : Nat} {cs : Array Value} (hg : G g) (hb : Blk w g 40 cs) (i : Nat) (v : Value) : StAt G B p sb s l (w.setCell ⟨g, i, none⟩ v) := by
 obtain ⟨R, A, C, D, a, c, d, h⟩ := h
 refine ⟨R, A, C, D, a, c, d, h.dx.setIn (q := ⟨g, i, none⟩) (.inl (.inl hg)) v, h.blk.far (p := ⟨g, i, none⟩) (fun e => h.notG (e ▸ hg)) v, ⟨h.rows.v.far hb (by decide) i v, h.rows.l.far hb (by decide) i v, h.rows.d.far hb (by decide) i v⟩, h.big, h.notG, h.right⟩
theorem StAt.setN (hg : G bm) : ∀ (us : List (Nat × Value)) {w : World} {cs : Array Value}, StAt G B p sb s l w → Blk w bm 40 cs → StAt G B p sb s l (us.foldl (fun W u => W.setCell ⟨bm, u.1, none⟩ u.2) w)
 | [], _, _, h, _ => h
 | u :: us, _, _, h, hb => StAt.setN hg us (h.setIn hg hb u.1 u.2) (hb.set_ u.1 u.2)
theorem StAt.next (h : StAt G B p sb s l w) (hw : Below w.heap.size w w') : StAt (nextG G w w') B p sb s l w' :=
 (h.protect (G2 := fun g => w.heap.size ≤ g ∧ g < w'.heap.size) hw (fun g hg => hg)).weaken (fun g hg => by
  rcases hg with ⟨hg | hg, hl⟩
  ·exact .inl hg
  ·exact .inr ⟨hg, hl⟩)
theorem SP.put (h : SP G B p sb bm s t l u w) (hw : Below w.heap.size w w') {A V C D : Option Addr} {c a b d : Nat} {rs : List RFile} (hf : Files (up G w) w' A rs) (hm : rs.map RFile.file = t'.files)
 (hr : ArgAt (fun g => ((G g ∨ g < B) ∨ w.heap.size ≤ g) ∧ g ≠ bm) w' (u'.getD zS) V C D) :
 SP (nextG G w w') B p sb bm s t' l u' (((((((((w'.setCell ⟨bm, 0, none⟩ (.slice A rs.length c)).setCell ⟨bm, 1, none⟩ (.bool t'.down)).setCell ⟨bm, 2, none⟩ (.int .i64 t'.fuse)).setCell ⟨bm, 3, none⟩ (.int .i64 (u'.getD zS).x)).setCell ⟨bm, 4, none⟩ (.int .i64 (u'.getD zS).t)).setCell ⟨bm, 5, none⟩ (.slice V (u'.getD zS).vs.length a)).setCell ⟨bm, 6, none⟩ (.slice C (u'.getD zS).ls.length b)).setCell ⟨bm, 7, none⟩ (.slice D (u'.getD zS).ds.length d)).setCell ⟨bm, 8, none⟩ (.bool u'.isSome)) := by
 obtain ⟨A0, c0, rs0, V0, C0, D0, a0, b0, d0, h1, _, _, _⟩ := h.ref
 have h2 := h1.below hw h1.lt
 have hin : nextG G w w' bm := ⟨.inl h.box, h2.lt⟩
 have hf0 : Files (nextG G w w') w' A rs := hf.mono (fun g hl hg => ⟨hg, hl⟩)
 refine ⟨StAt.setN hin [(0, (.slice A rs.length c)), (1, (.bool t'.down)), (2, (.int .i64 t'.fuse)), (3, (.int .i64 (u'.getD zS).x)), (4, (.int .i64 (u'.getD zS).t)), (5, (.slice V (u'.getD zS).vs.length a)), (6, (.slice C (u'.getD zS).ls.length b)), (7, (.slice D (u'.getD zS).ds.length d)), (8, (.bool u'.isSome))] (h.st.next hw) h2, hin, h.big, A, c, rs, V, C, D, a, b, d, Blk.put9 h2 _ _ _ _ _ _ _ _ _, Files.put9 (by decide) (by decide) hf0 h2 _ _ _ _ _ _ _ _ _, hm, ?_⟩
 have h3 : ArgAt (fun g => (nextG G w w' g ∨ g < B) ∧ g ≠ bm) w' (u'.getD zS) V C D := hr.mono (fun g hl hg => ⟨by
  rcases hg.1 with (h1 | h1) | h1
  ·exact .inl ⟨.inl h1, hl⟩
  ·exact .inr h1
  ·exact .inl ⟨.inr h1, hl⟩, hg.2⟩)
 exact ArgAt.put9 (g := bm) (fun g hg => hg.2) h3 _ _ _ _ _ _ _ _ _
theorem SP.fuse (h : SP G B p sb bm s t l u w) (k : Nat) : SP G B p sb bm s { t with fuse := k } l u (w.setCell ⟨bm, 2, none⟩ (.int .i64 k)) := by
 obtain ⟨A, c, rs, V, C, D, a, b, d, h1, h2, h3, h4⟩ := h.ref
 refine ⟨h.st.setIn h.box h1 2 _, h.box, h.big, A, c, rs, V, C, D, a, b, d, h1.set_ 2 _, h2.far h1 (by decide) (by decide) 2 _, h3, ?_⟩
 exact ArgAt.setN (g := bm) (fun g hg => hg.2) [(2, .int .i64 k)] h4
theorem SP.open_ (h : SP G B p sb bm s t l u w) (hc : t.files.length ≤ 256) : ∃ A c rs V C D a b d, Blk w bm 40 #[.slice A rs.length c, .bool t.down, .int .i64 t.fuse, .int .i64 (u.getD zS).x, .int .i64 (u.getD zS).t, .slice V (u.getD zS).vs.length a, .slice C (u.getD zS).ls.length b, .slice D (u.getD zS).ds.length d, .bool u.isSome] ∧ Files G w A rs ∧ rs.map RFile.file = t.files ∧ ArgAt (fun g => (G g ∨ g < B) ∧ g ≠ bm) w (u.getD zS) V C D ∧ rs.length ≤ 256 := by
 obtain ⟨A, c, rs, V, C, D, a, b, d, h1, h2, h3, h4⟩ := h.ref
 refine ⟨A, c, rs, V, C, D, a, b, d, h1, h2, h3, h4, ?_⟩
 rw [← h3, List.length_map] at hc; exact hc
theorem L_sFailG (h : StAt G B p sb s l w) (n : Int) (hn : (Lit.int .i64 n).wf = true) : Calls Tryz.prog 14 #[.pointer (some ⟨p, 0, none⟩), .int .i64 n] w fun e w' => e = .returned (.tuple #[]) ∧ StAt G B p sb { s with fuse := n.toNat } l w' ∧ Below B w w' ∧ Kept G w w' := by
 obtain ⟨R, A, C, D, a, c, d, h⟩ := h
 refine (Fail_any h.dx.at_ n hn).mono fun _ _ ⟨he, hd, hf⟩ => ?_
 have h2 := frmX h.dx.le h.dx.old hf
 exact ⟨he, ⟨R, A, C, D, a, c, d, ⟨hd, Nat.le_trans h.dx.le hf.size, fun g hg => Nat.lt_of_lt_of_le (h.dx.old g hg) hf.size⟩, blk_kept h.blk (h2.2 sb (.inr rfl)), h.rows.same (fun g _ hg => h2.2 g (.inl (.inr hg))), h.big, h.notG, h.right⟩, h2.1, fun g hg => h2.2 g (.inl (.inl hg))⟩
theorem SP.more (h : SP G B p sb bm s t l u w) (hw : Below w.heap.size w w') (hl : w.heap.size < w'.heap.size) : SP (fun g => G g ∨ g = w.heap.size) B p sb bm s t l u w' := by
 obtain ⟨A, c, rs, V, C, D, a, b, d, h1, h2, h3, h4⟩ := h.ref
 exact ⟨h.st.protect (G2 := fun g => g = w.heap.size) hw (fun g hg => by subst hg; exact ⟨Nat.le_refl _, hl⟩), .inl h.box, h.big, A, c, rs, V, C, D, a, b, d, h1.below hw h1.lt, (h2.below hw).mono (fun _ _ h => .inl h), h3, (h4.below hw).mono (fun _ _ h => ⟨h.1.imp .inl id, h.2⟩)⟩
end
end Go.Proofs.YtfpomllhkbbipaaGreatDoor
