/- Layer 5: the disk's contracts where some new blocks of the law's own (G) must stay. -/
import Derived.Test.YtfpomllhkbbipaaGreatDskL
namespace Go.Proofs.YtfpomllhkbbipaaGreat
open Go.RowKit Go.Maps Mem Dsk

def hiX (G : Nat → Prop) (B : Nat) : Nat → Prop := fun g => B ≤ g ∧ ¬ G g
structure DX (G : Nat → Prop) (B p : Nat) (s : S) (w : World) : Prop where
  at_ : DiskAt (hiX G B) w p s
  le : B ≤ w.heap.size
  old : ∀ g, G g → g < w.heap.size
section
variable {G : Nat → Prop} {B p : Nat} {s : S} {w w' : World}
theorem DX.drop (h : DX G B p s w) : D B p s w := by
  obtain ⟨mb, rs, h0⟩ := h.at_
  exact ⟨⟨mb, rs, h0.mono (fun _ _ hg => hg.1)⟩, h.le⟩
theorem DX.ge (h : DX G B p s w) : B ≤ p := h.drop.ge
theorem DX.lt (h : DX G B p s w) : p < w.heap.size := h.drop.lt
theorem DX.notG (h : DX G B p s w) : ¬ G p := by obtain ⟨mb, rs, h⟩ := h.at_; exact h.inP.2
theorem DX.below (h : DX G B p s w) (hb : Below w.heap.size w w') : DX G B p s w' := by
  obtain ⟨mb, rs, h0⟩ := h.at_
  exact ⟨⟨mb, rs, h0.below hb⟩, Nat.le_trans h.le hb.size, fun g hg => Nat.lt_of_lt_of_le (h.old g hg) hb.size⟩
theorem D.protect (h : D B p s w) (hb : Below w.heap.size w w') (hG : ∀ g, G g → w.heap.size ≤ g ∧ g < w'.heap.size) : DX G B p s w' := by
  obtain ⟨mb, rs, h0⟩ := h.at_
  exact ⟨⟨mb, rs, (h0.mono (fun g hl hg => ⟨hg, fun hg2 => absurd hl (Nat.not_lt.2 (hG g hg2).1)⟩)).below hb⟩, Nat.le_trans h.le hb.size, fun g hg => (hG g hg).2⟩
theorem DX.weaken {F : Nat → Prop} (h : DX G B p s w) (hF : ∀ g, F g → G g) : DX F B p s w := by
  obtain ⟨mb, rs, h0⟩ := h.at_
  exact ⟨⟨mb, rs, h0.mono (fun _ _ hg => ⟨hg.1, fun hf => hg.2 (hF _ hf)⟩)⟩, h.le, fun g hg => h.old g (hF g hg)⟩
/-- more blocks to be kept -/
theorem DX.protect {G2 : Nat → Prop} (h : DX G B p s w) (hb : Below w.heap.size w w') (hG : ∀ g, G2 g → w.heap.size ≤ g ∧ g < w'.heap.size) : DX (fun g => G g ∨ G2 g) B p s w' := by
  obtain ⟨mb, rs, h0⟩ := h.at_
  exact ⟨⟨mb, rs, (h0.mono (fun g hl hg => ⟨hg.1, fun hg2 => hg2.elim hg.2 (fun h3 => absurd hl (Nat.not_lt.2 (hG g h3).1))⟩)).below hb⟩, Nat.le_trans h.le hb.size, fun g hg => hg.elim (fun h1 => Nat.lt_of_lt_of_le (h.old g h1) hb.size) (fun h1 => (hG g h1).2)⟩
/-- the blocks of G stay -/
def Kept (G : Nat → Prop) (w w' : World) : Prop := ∀ g, G g → w'.heap[g]? = w.heap[g]?
theorem Mem.SlB.kept {α : Type} {f : α → Value} {e : TypeId} {F : Nat → Prop} {A : Option Addr} {xs : List α} (h : SlB f e F w A xs) (hk : Kept G w w') (hF : ∀ g, F g → G g) : SlB f e F w' A xs := SlB.keep h (fun g _ _ hg _ => hk g (hF g hg))
def PostX (G : Nat → Prop) (B p : Nat) (s' : S) (k : Int) (w : World) (e : Ending) (w' : World) : Prop := e = .returned (.int .i64 k) ∧ DX G B p s' w' ∧ Below B w w' ∧ Kept G w w'
theorem DX.of_up {G : Nat → Prop} (hB : B ≤ w.heap.size) (hG : ∀ g, G g → g < w.heap.size) (h : DiskAt (up (hiX G B) w) w' p s) (hs : w.heap.size ≤ w'.heap.size) : DX G B p s w' := by
  obtain ⟨mb, rs, h⟩ := h
  exact ⟨⟨mb, rs, h.mono (fun g _ hg => hg.elim id (fun h => ⟨Nat.le_trans hB h, fun h2 => absurd (hG g h2) (Nat.not_lt.2 h)⟩))⟩, Nat.le_trans hB hs, fun g hg => Nat.lt_of_lt_of_le (hG g hg) hs⟩
theorem frmX (hB : B ≤ w.heap.size) (hG : ∀ g, G g → g < w.heap.size) (h : Frm (hiX G B) w w') : Below B w w' ∧ Kept G w w' :=
  ⟨h.to_below (fun k _ hk hf => absurd hk (Nat.not_lt.2 hf.1)) hB, fun g hg => h.block g (hG g hg) (fun hf => hf.2 hg)⟩
theorem PostX.of {res : S × Nat} {s' : S} {k : Nat} {ki : Int} {e : Ending} (h0 : DX G B p s w) (hr : res = (s', k)) (hk : (k : Int) = ki) (h : OpPost (hiX G B) p res w e w') : PostX G B p s' ki w e w' := by
  obtain ⟨he, hd, hf⟩ := h
  subst hr; subst hk
  have h2 := frmX h0.le h0.old hf
  exact ⟨he, DX.of_up h0.le h0.old hd hf.size, h2.1, h2.2⟩
theorem X_Create (h : DX G B p s w) (n : ByteArray) (hn : n.size ≤ maxLen) {s' : S} {k : Nat} {ki : Int} (hr : Dsk.create s (sname n) = (s', k)) (hk : (k : Int) = ki) :
    Calls Tryz.prog 32 #[.pointer (some ⟨p, 0, none⟩), .string n] w (PostX G B p s' ki w) := (Create_any h.at_ n hn).mono fun _ _ hp => PostX.of h hr hk hp
theorem X_Write (h : DX G B p s w) (n : ByteArray) (hn : n.size ≤ maxLen) (at_ : Int) (hat : (Lit.int .i64 at_).wf = true) {A : Option Addr} {c : Nat} {bs : List UInt8} {te : TypeId} {F : Nat → Prop} (hbs : SlB fB te F w A bs) (hG : ¬ F p)
    {s' : S} {k : Nat} {ki : Int} (hr : Dsk.write s (sname n) at_ bs = (s', k)) (hk : (k : Int) = ki) :
    Calls Tryz.prog 34 #[.pointer (some ⟨p, 0, none⟩), .string n, .int .i64 at_, .slice A bs.length c] w (PostX G B p s' ki w) := (Write_any h.at_ n hn at_ hat A c bs hbs hG).mono fun _ _ hp => PostX.of h hr hk hp
theorem X_Remove (h : DX G B p s w) (n : ByteArray) (hn : n.size ≤ maxLen) {s' : S} {k : Nat} {ki : Int} (hr : Dsk.remove s (sname n) = (s', k)) (hk : (k : Int) = ki) :
    Calls Tryz.prog 20 #[.pointer (some ⟨p, 0, none⟩), .string n] w (PostX G B p s' ki w) := (Remove_any h.at_ n hn).mono fun _ _ hp => PostX.of h hr hk hp
theorem X_Rename (h : DX G B p s w) (n m : ByteArray) (hn : n.size ≤ maxLen) (hm : m.size ≤ maxLen) {s' : S} {k : Nat} {ki : Int} (hr : Dsk.rename s (sname n) (sname m) = (s', k)) (hk : (k : Int) = ki) :
    Calls Tryz.prog 38 #[.pointer (some ⟨p, 0, none⟩), .string n, .string m] w (PostX G B p s' ki w) := (Rename_any h.at_ n m hn hm).mono fun _ _ hp => PostX.of h hr hk hp
theorem X_Sync (h : DX G B p s w) (n : ByteArray) (hn : n.size ≤ maxLen) {s' : S} {k : Nat} {ki : Int} (hr : Dsk.sync s (sname n) = (s', k)) (hk : (k : Int) = ki) :
    Calls Tryz.prog 36 #[.pointer (some ⟨p, 0, none⟩), .string n] w (PostX G B p s' ki w) := (Sync_any h.at_ n hn).mono fun _ _ hp => PostX.of h hr hk hp
theorem X_Crash (h : DX G B p s w) {K : Option Addr} {c : Nat} {keep : List Bool} {te : TypeId} {F : Nat → Prop} (hk : SlB fBool te F w K keep) (hG : te ≠ 95 ∨ ∀ g, F g → g < B) {s' : S} (h1 : Dsk.crash s keep = s') :
    Calls Tryz.prog 11 #[.pointer (some ⟨p, 0, none⟩), .slice K keep.length c] w fun e w' => e = .returned (.tuple #[]) ∧ DX G B p s' w' ∧ Below B w w' ∧ Kept G w w' := by
  refine (Crash_any h.at_ K c keep hk (hG.imp id (fun h1 g hu hg => ?_))).mono ?_
  · have h2 := h1 g hg
    have h3 := h.le
    rcases hu with hu | hu
    · have : B ≤ g := hu.1; omega
    · omega
  · rintro e w' ⟨he, hd, hf⟩
    subst h1
    have h2 := frmX h.le h.old hf
    exact ⟨he, DX.of_up h.le h.old hd hf.size, h2.1, h2.2⟩
end
end Go.Proofs.YtfpomllhkbbipaaGreat
