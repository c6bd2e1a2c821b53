/- Layer 5: the disk's contracts as the laws use them: all of a disk lies from block B on. -/
import Derived.Test.YtfpomllhkbbipaaGreatDoorDskI
namespace Go.Proofs.YtfpomllhkbbipaaGreatDoor
open Go.RowKit Go.Maps Mem Dsk

def hi (B : Nat) : Nat → Prop := fun g => B ≤ g
def s0 : S := ⟨[], false, 0⟩
/-- a disk that the law has made -/
structure D (B p : Nat) (s : S) (w : World) : Prop where
  at_ : DiskAt (hi B) w p s
  le : B ≤ w.heap.size
theorem D.ge {B p : Nat} {s : S} {w : World} (h : D B p s w) : B ≤ p := by obtain ⟨mb, rs, h⟩ := h.at_; exact h.inP
theorem D.lt {B p : Nat} {s : S} {w : World} (h : D B p s w) : p < w.heap.size := by obtain ⟨mb, rs, h⟩ := h.at_; exact h.blk.lt
theorem D.below {B p : Nat} {s : S} {w w' : World} (h : D B p s w) (hb : Below w.heap.size w w') : D B p s w' := by
  obtain ⟨mb, rs, h0⟩ := h.at_; exact ⟨⟨mb, rs, h0.below hb⟩, Nat.le_trans h.le hb.size⟩
theorem D.of_up {B p : Nat} {s : S} {w w' : World} (hB : B ≤ w.heap.size) (h : DiskAt (up (hi B) w) w' p s) (hs : w.heap.size ≤ w'.heap.size) : D B p s w' := by
  obtain ⟨mb, rs, h⟩ := h
  exact ⟨⟨mb, rs, h.mono (fun g _ hg => hg.elim id (fun h => Nat.le_trans hB h))⟩, Nat.le_trans hB hs⟩
theorem below_of_frm {B : Nat} {w w' : World} (h : Frm (hi B) w w') (hB : B ≤ w.heap.size) : Below B w w' := h.to_below (fun k _ hk hf => absurd hk (Nat.not_lt.2 hf)) hB
/-- what a step leaves -/
def Post (B p : Nat) (s' : S) (k : Int) (w : World) (e : Ending) (w' : World) : Prop := e = .returned (.int .i64 k) ∧ D B p s' w' ∧ Below B w w'
theorem Post.of {B p : Nat} {res : S × Nat} {s' : S} {k : Nat} {ki : Int} {w w' : World} {e : Ending} (hB : B ≤ w.heap.size) (hr : res = (s', k)) (hk : (k : Int) = ki) (h : OpPost (hi B) p res w e w') : Post B p s' ki w e w' := by
  obtain ⟨he, hd, hf⟩ := h
  subst hr; subst hk
  exact ⟨he, D.of_up hB hd hf.size, below_of_frm hf hB⟩
section
variable {B p : Nat} {s : S} {w : World}
theorem L_New (w : World) (B : Nat) (hB : B ≤ w.heap.size) : Calls Tryz.prog 7 #[] w fun e w' => ∃ p, e = .returned (.pointer (some ⟨p, 0, none⟩)) ∧ D B p s0 w' ∧ w.heap.size ≤ p ∧ Below w.heap.size w w' :=
  (New_any w).mono fun e w' ⟨p, he, hd, hb⟩ => by
    obtain ⟨mb, rs, h⟩ := hd
    exact ⟨p, he, ⟨⟨mb, rs, h.mono (fun g _ hg => Nat.le_trans hB hg)⟩, Nat.le_trans hB hb.size⟩, h.inP, hb⟩
theorem L_Create (h : D B p s w) (n : ByteArray) (hn : n.size ≤ maxLen) {s' : S} {k : Nat} {ki : Int} (hr : Dsk.create s (sname n) = (s', k)) (hk : (k : Int) = ki) :
    Calls Tryz.prog 23 #[.pointer (some ⟨p, 0, none⟩), .string n] w (Post B p s' ki w) := (Create_any h.at_ n hn).mono fun _ _ hp => Post.of h.le hr hk hp
theorem L_Write (h : D B p s w) (n : ByteArray) (hn : n.size ≤ maxLen) (at_ : Int) (hat : (Lit.int .i64 at_).wf = true) {A : Option Addr} {c : Nat} {bs : List UInt8} {te : TypeId} {G : Nat → Prop} (hbs : SlB fB te G w A bs) (hG : ¬ G p)
    {s' : S} {k : Nat} {ki : Int} (hr : Dsk.write s (sname n) at_ bs = (s', k)) (hk : (k : Int) = ki) :
    Calls Tryz.prog 24 #[.pointer (some ⟨p, 0, none⟩), .string n, .int .i64 at_, .slice A bs.length c] w (Post B p s' ki w) := (Write_any h.at_ n hn at_ hat A c bs hbs hG).mono fun _ _ hp => Post.of h.le hr hk hp
theorem L_Remove (h : D B p s w) (n : ByteArray) (hn : n.size ≤ maxLen) {s' : S} {k : Nat} {ki : Int} (hr : Dsk.remove s (sname n) = (s', k)) (hk : (k : Int) = ki) :
    Calls Tryz.prog 31 #[.pointer (some ⟨p, 0, none⟩), .string n] w (Post B p s' ki w) := (Remove_any h.at_ n hn).mono fun _ _ hp => Post.of h.le hr hk hp
theorem L_Rename (h : D B p s w) (n m : ByteArray) (hn : n.size ≤ maxLen) (hm : m.size ≤ maxLen) {s' : S} {k : Nat} {ki : Int} (hr : Dsk.rename s (sname n) (sname m) = (s', k)) (hk : (k : Int) = ki) :
    Calls Tryz.prog 69 #[.pointer (some ⟨p, 0, none⟩), .string n, .string m] w (Post B p s' ki w) := (Rename_any h.at_ n m hn hm).mono fun _ _ hp => Post.of h.le hr hk hp
theorem L_Sync (h : D B p s w) (n : ByteArray) (hn : n.size ≤ maxLen) {s' : S} {k : Nat} {ki : Int} (hr : Dsk.sync s (sname n) = (s', k)) (hk : (k : Int) = ki) :
    Calls Tryz.prog 68 #[.pointer (some ⟨p, 0, none⟩), .string n] w (Post B p s' ki w) := (Sync_any h.at_ n hn).mono fun _ _ hp => Post.of h.le hr hk hp
theorem L_Fail (h : D B p s w) (n : Int) (hn : (Lit.int .i64 n).wf = true) :
    Calls Tryz.prog 14 #[.pointer (some ⟨p, 0, none⟩), .int .i64 n] w fun e w' => e = .returned (.tuple #[]) ∧ D B p { s with fuse := n.toNat } w' ∧ Below B w w' :=
  (Fail_any h.at_ n hn).mono fun _ _ ⟨he, hd, hf⟩ => ⟨he, ⟨hd, Nat.le_trans h.le hf.size⟩, below_of_frm hf h.le⟩
theorem L_Crash (h : D B p s w) {K : Option Addr} {c : Nat} {keep : List Bool} {te : TypeId} {G : Nat → Prop} (hk : SlB fBool te G w K keep) (hG : te ≠ 96 ∨ ∀ g, G g → g < B) {s' : S} (h1 : Dsk.crash s keep = s') :
    Calls Tryz.prog 15 #[.pointer (some ⟨p, 0, none⟩), .slice K keep.length c] w fun e w' => e = .returned (.tuple #[]) ∧ D B p s' w' ∧ Below B w w' := by
  refine (Crash_any h.at_ K c keep hk (hG.imp id (fun h1 g hu hg => ?_))).mono ?_
  · have h2 := h1 g hg
    have h3 := h.le
    rcases hu with hu | hu
    · have : B ≤ g := hu; omega
    · omega
  · rintro e w' ⟨he, hd, hf⟩
    subst h1
    exact ⟨he, D.of_up h.le hd hf.size, below_of_frm hf h.le⟩
theorem L_Read (h : D B p s w) (n : ByteArray) (hn : n.size ≤ maxLen) {bs : List UInt8} {k : Nat} {ki : Int} (hr : Dsk.read s (sname n) = (bs, k)) (hk : (k : Int) = ki) :
    Calls Tryz.prog 20 #[.pointer (some ⟨p, 0, none⟩), .string n] w fun e w' => ∃ A c, e = .returned (.tuple #[.slice A bs.length c, .int .i64 ki]) ∧ SlB fB 5 (fun g => w.heap.size ≤ g) w' A bs ∧ bs.length ≤ c ∧ c ≤ maxLen ∧ D B p s w' ∧ Below w.heap.size w w' :=
  (Read_any h.at_ n hn).mono fun e w' ⟨A, c, he, hs, hc, hc2, hd, hb⟩ => by
    rw [hr] at he hs hc; subst hk
    exact ⟨A, c, he, hs, hc, hc2, ⟨hd, Nat.le_trans h.le hb.size⟩, hb⟩
theorem L_Names (h : D B p s w) : Calls Tryz.prog 18 #[.pointer (some ⟨p, 0, none⟩)] w fun e w' => ∃ A c, e = .returned (.slice A (snames s).length c) ∧ SlB encStr 9 (fun g => w.heap.size ≤ g) w' A (snames s) ∧ D B p s w' ∧ Below w.heap.size w w' :=
  (Names_any h.at_).mono fun e w' ⟨A, c, he, ho, hb⟩ => ⟨A, c, he, (SlB.of_own ho).2, h.below hb, hb⟩
theorem L_Down (h : D B p s w) {k : Bool} (h1 : s.down = k) : Calls Tryz.prog 27 #[.pointer (some ⟨p, 0, none⟩)] w fun e w' => e = .returned (.bool k) ∧ w = w' := by
  subst h1; exact Down_any h.at_
end
end Go.Proofs.YtfpomllhkbbipaaGreatDoor
namespace Go.Proofs.YtfpomllhkbbipaaGreatDoor
open Go.RowKit Go.Maps Mem Dsk

def hiX (G : Nat → Prop) (B : Nat) : Nat → Prop := fun g => B ≤ g ∧ ¬ G g
structure DX (G : Nat → Prop) (B p : Nat) (s : S) (w : World) : Prop where
  at_ : DiskAt (hiX G B) w p s
  le : B ≤ w.heap.size
  old : ∀ g, G g → g < w.heap.size
section
variable {G : Nat → Prop} {B p : Nat} {s : S} {w w' : World}
theorem DX.drop (h : DX G B p s w) : D B p s w := by
  obtain ⟨mb, rs, h0⟩ := h.at_
  exact ⟨⟨mb, rs, h0.mono (fun _ _ hg => hg.1)⟩, h.le⟩
theorem DX.ge (h : DX G B p s w) : B ≤ p := h.drop.ge
theorem DX.lt (h : DX G B p s w) : p < w.heap.size := h.drop.lt
theorem DX.notG (h : DX G B p s w) : ¬ G p := by obtain ⟨mb, rs, h⟩ := h.at_; exact h.inP.2
theorem DX.below (h : DX G B p s w) (hb : Below w.heap.size w w') : DX G B p s w' := by
  obtain ⟨mb, rs, h0⟩ := h.at_
  exact ⟨⟨mb, rs, h0.below hb⟩, Nat.le_trans h.le hb.size, fun g hg => Nat.lt_of_lt_of_le (h.old g hg) hb.size⟩
theorem D.protect (h : D B p s w) (hb : Below w.heap.size w w') (hG : ∀ g, G g → w.heap.size ≤ g ∧ g < w'.heap.size) : DX G B p s w' := by
  obtain ⟨mb, rs, h0⟩ := h.at_
  exact ⟨⟨mb, rs, (h0.mono (fun g hl hg => ⟨hg, fun hg2 => absurd hl (Nat.not_lt.2 (hG g hg2).1)⟩)).below hb⟩, Nat.le_trans h.le hb.size, fun g hg => (hG g hg).2⟩
theorem DX.weaken {F : Nat → Prop} (h : DX G B p s w) (hF : ∀ g, F g → G g) : DX F B p s w := by
  obtain ⟨mb, rs, h0⟩ := h.at_
  exact ⟨⟨mb, rs, h0.mono (fun _ _ hg => ⟨hg.1, fun hf => hg.2 (hF _ hf)⟩)⟩, h.le, fun g hg => h.old g (hF g hg)⟩
/-- more blocks to be kept -/
theorem DX.protect {G2 : Nat → Prop} (h : DX G B p s w) (hb : Below w.heap.size w w') (hG : ∀ g, G2 g → w.heap.size ≤ g ∧ g < w'.heap.size) : DX (fun g => G g ∨ G2 g) B p s w' := by
  obtain ⟨mb, rs, h0⟩ := h.at_
  exact ⟨⟨mb, rs, (h0.mono (fun g hl hg => ⟨hg.1, fun hg2 => hg2.elim hg.2 (fun h3 => absurd hl (Nat.not_lt.2 (hG g h3).1))⟩)).below hb⟩, Nat.le_trans h.le hb.size, fun g hg => hg.elim (fun h1 => Nat.lt_of_lt_of_le (h.old g h1) hb.size) (fun h1 => (hG g h1).2)⟩
/-- the blocks of G stay -/
def Kept (G : Nat → Prop) (w w' : World) : Prop := ∀ g, G g → w'.heap[g]? = w.heap[g]?
theorem Mem.SlB.kept {α : Type} {f : α → Value} {e : TypeId} {F : Nat → Prop} {A : Option Addr} {xs : List α} (h : SlB f e F w A xs) (hk : Kept G w w') (hF : ∀ g, F g → G g) : SlB f e F w' A xs := SlB.keep h (fun g _ _ hg _ => hk g (hF g hg))
def PostX (G : Nat → Prop) (B p : Nat) (s' : S) (k : Int) (w : World) (e : Ending) (w' : World) : Prop := e = .returned (.int .i64 k) ∧ DX G B p s' w' ∧ Below B w w' ∧ Kept G w w'
theorem DX.of_up {G : Nat → Prop} (hB : B ≤ w.heap.size) (hG : ∀ g, G g → g < w.heap.size) (h : DiskAt (up (hiX G B) w) w' p s) (hs : w.heap.size ≤ w'.heap.size) : DX G B p s w' := by
  obtain ⟨mb, rs, h⟩ := h
  exact ⟨⟨mb, rs, h.mono (fun g _ hg => hg.elim id (fun h => ⟨Nat.le_trans hB h, fun h2 => absurd (hG g h2) (Nat.not_lt.2 h)⟩))⟩, Nat.le_trans hB hs, fun g hg => Nat.lt_of_lt_of_le (hG g hg) hs⟩
theorem frmX (hB : B ≤ w.heap.size) (hG : ∀ g, G g → g < w.heap.size) (h : Frm (hiX G B) w w') : Below B w w' ∧ Kept G w w' :=
  ⟨h.to_below (fun k _ hk hf => absurd hk (Nat.not_lt.2 hf.1)) hB, fun g hg => h.block g (hG g hg) (fun hf => hf.2 hg)⟩
theorem PostX.of {res : S × Nat} {s' : S} {k : Nat} {ki : Int} {e : Ending} (h0 : DX G B p s w) (hr : res = (s', k)) (hk : (k : Int) = ki) (h : OpPost (hiX G B) p res w e w') : PostX G B p s' ki w e w' := by
  obtain ⟨he, hd, hf⟩ := h
  subst hr; subst hk
  have h2 := frmX h0.le h0.old hf
  exact ⟨he, DX.of_up h0.le h0.old hd hf.size, h2.1, h2.2⟩
theorem X_Create (h : DX G B p s w) (n : ByteArray) (hn : n.size ≤ maxLen) {s' : S} {k : Nat} {ki : Int} (hr : Dsk.create s (sname n) = (s', k)) (hk : (k : Int) = ki) :
    Calls Tryz.prog 23 #[.pointer (some ⟨p, 0, none⟩), .string n] w (PostX G B p s' ki w) := (Create_any h.at_ n hn).mono fun _ _ hp => PostX.of h hr hk hp
theorem X_Write (h : DX G B p s w) (n : ByteArray) (hn : n.size ≤ maxLen) (at_ : Int) (hat : (Lit.int .i64 at_).wf = true) {A : Option Addr} {c : Nat} {bs : List UInt8} {te : TypeId} {F : Nat → Prop} (hbs : SlB fB te F w A bs) (hG : ¬ F p)
    {s' : S} {k : Nat} {ki : Int} (hr : Dsk.write s (sname n) at_ bs = (s', k)) (hk : (k : Int) = ki) :
    Calls Tryz.prog 24 #[.pointer (some ⟨p, 0, none⟩), .string n, .int .i64 at_, .slice A bs.length c] w (PostX G B p s' ki w) := (Write_any h.at_ n hn at_ hat A c bs hbs hG).mono fun _ _ hp => PostX.of h hr hk hp
theorem X_Remove (h : DX G B p s w) (n : ByteArray) (hn : n.size ≤ maxLen) {s' : S} {k : Nat} {ki : Int} (hr : Dsk.remove s (sname n) = (s', k)) (hk : (k : Int) = ki) :
    Calls Tryz.prog 31 #[.pointer (some ⟨p, 0, none⟩), .string n] w (PostX G B p s' ki w) := (Remove_any h.at_ n hn).mono fun _ _ hp => PostX.of h hr hk hp
theorem X_Rename (h : DX G B p s w) (n m : ByteArray) (hn : n.size ≤ maxLen) (hm : m.size ≤ maxLen) {s' : S} {k : Nat} {ki : Int} (hr : Dsk.rename s (sname n) (sname m) = (s', k)) (hk : (k : Int) = ki) :
    Calls Tryz.prog 69 #[.pointer (some ⟨p, 0, none⟩), .string n, .string m] w (PostX G B p s' ki w) := (Rename_any h.at_ n m hn hm).mono fun _ _ hp => PostX.of h hr hk hp
theorem X_Sync (h : DX G B p s w) (n : ByteArray) (hn : n.size ≤ maxLen) {s' : S} {k : Nat} {ki : Int} (hr : Dsk.sync s (sname n) = (s', k)) (hk : (k : Int) = ki) :
    Calls Tryz.prog 68 #[.pointer (some ⟨p, 0, none⟩), .string n] w (PostX G B p s' ki w) := (Sync_any h.at_ n hn).mono fun _ _ hp => PostX.of h hr hk hp
theorem X_Crash (h : DX G B p s w) {K : Option Addr} {c : Nat} {keep : List Bool} {te : TypeId} {F : Nat → Prop} (hk : SlB fBool te F w K keep) (hG : te ≠ 96 ∨ ∀ g, F g → g < B) {s' : S} (h1 : Dsk.crash s keep = s') :
    Calls Tryz.prog 15 #[.pointer (some ⟨p, 0, none⟩), .slice K keep.length c] w fun e w' => e = .returned (.tuple #[]) ∧ DX G B p s' w' ∧ Below B w w' ∧ Kept G w w' := by
  refine (Crash_any h.at_ K c keep hk (hG.imp id (fun h1 g hu hg => ?_))).mono ?_
  · have h2 := h1 g hg
    have h3 := h.le
    rcases hu with hu | hu
    · have : B ≤ g := hu.1; omega
    · omega
  · rintro e w' ⟨he, hd, hf⟩
    subst h1
    have h2 := frmX h.le h.old hf
    exact ⟨he, DX.of_up h.le h.old hd hf.size, h2.1, h2.2⟩
end
end Go.Proofs.YtfpomllhkbbipaaGreatDoor
