/- Layer 5: the disk's contracts as the laws use them: all of a disk lies from block B on. -/
import Derived.Test.YtfpomllhkbbipaaGreatDskI
namespace Go.Proofs.YtfpomllhkbbipaaGreat
open Go.RowKit Go.Maps Mem Dsk

def hi (B : Nat) : Nat → Prop := fun g => B ≤ g
def s0 : S := ⟨[], false, 0⟩
/-- a disk that the law has made -/
structure D (B p : Nat) (s : S) (w : World) : Prop where
  at_ : DiskAt (hi B) w p s
  le : B ≤ w.heap.size
theorem D.ge {B p : Nat} {s : S} {w : World} (h : D B p s w) : B ≤ p := by obtain ⟨mb, rs, h⟩ := h.at_; exact h.inP
theorem D.lt {B p : Nat} {s : S} {w : World} (h : D B p s w) : p < w.heap.size := by obtain ⟨mb, rs, h⟩ := h.at_; exact h.blk.lt
theorem D.below {B p : Nat} {s : S} {w w' : World} (h : D B p s w) (hb : Below w.heap.size w w') : D B p s w' := by
  obtain ⟨mb, rs, h0⟩ := h.at_; exact ⟨⟨mb, rs, h0.below hb⟩, Nat.le_trans h.le hb.size⟩
theorem D.of_up {B p : Nat} {s : S} {w w' : World} (hB : B ≤ w.heap.size) (h : DiskAt (up (hi B) w) w' p s) (hs : w.heap.size ≤ w'.heap.size) : D B p s w' := by
  obtain ⟨mb, rs, h⟩ := h
  exact ⟨⟨mb, rs, h.mono (fun g _ hg => hg.elim id (fun h => Nat.le_trans hB h))⟩, Nat.le_trans hB hs⟩
theorem below_of_frm {B : Nat} {w w' : World} (h : Frm (hi B) w w') (hB : B ≤ w.heap.size) : Below B w w' := h.to_below (fun k _ hk hf => absurd hk (Nat.not_lt.2 hf)) hB
/-- what a step leaves -/
def Post (B p : Nat) (s' : S) (k : Int) (w : World) (e : Ending) (w' : World) : Prop := e = .returned (.int .i64 k) ∧ D B p s' w' ∧ Below B w w'
theorem Post.of {B p : Nat} {res : S × Nat} {s' : S} {k : Nat} {ki : Int} {w w' : World} {e : Ending} (hB : B ≤ w.heap.size) (hr : res = (s', k)) (hk : (k : Int) = ki) (h : OpPost (hi B) p res w e w') : Post B p s' ki w e w' := by
  obtain ⟨he, hd, hf⟩ := h
  subst hr; subst hk
  exact ⟨he, D.of_up hB hd hf.size, below_of_frm hf hB⟩
section
variable {B p : Nat} {s : S} {w : World}
theorem L_New (w : World) (B : Nat) (hB : B ≤ w.heap.size) : Calls Tryz.prog 4 #[] w fun e w' => ∃ p, e = .returned (.pointer (some ⟨p, 0, none⟩)) ∧ D B p s0 w' ∧ w.heap.size ≤ p ∧ Below w.heap.size w w' :=
  (New_any w).mono fun e w' ⟨p, he, hd, hb⟩ => by
    obtain ⟨mb, rs, h⟩ := hd
    exact ⟨p, he, ⟨⟨mb, rs, h.mono (fun g _ hg => Nat.le_trans hB hg)⟩, Nat.le_trans hB hb.size⟩, h.inP, hb⟩
theorem L_Create (h : D B p s w) (n : ByteArray) (hn : n.size ≤ maxLen) {s' : S} {k : Nat} {ki : Int} (hr : Dsk.create s (sname n) = (s', k)) (hk : (k : Int) = ki) :
    Calls Tryz.prog 32 #[.pointer (some ⟨p, 0, none⟩), .string n] w (Post B p s' ki w) := (Create_any h.at_ n hn).mono fun _ _ hp => Post.of h.le hr hk hp
theorem L_Write (h : D B p s w) (n : ByteArray) (hn : n.size ≤ maxLen) (at_ : Int) (hat : (Lit.int .i64 at_).wf = true) {A : Option Addr} {c : Nat} {bs : List UInt8} {te : TypeId} {G : Nat → Prop} (hbs : SlB fB te G w A bs) (hG : ¬ G p)
    {s' : S} {k : Nat} {ki : Int} (hr : Dsk.write s (sname n) at_ bs = (s', k)) (hk : (k : Int) = ki) :
    Calls Tryz.prog 34 #[.pointer (some ⟨p, 0, none⟩), .string n, .int .i64 at_, .slice A bs.length c] w (Post B p s' ki w) := (Write_any h.at_ n hn at_ hat A c bs hbs hG).mono fun _ _ hp => Post.of h.le hr hk hp
theorem L_Remove (h : D B p s w) (n : ByteArray) (hn : n.size ≤ maxLen) {s' : S} {k : Nat} {ki : Int} (hr : Dsk.remove s (sname n) = (s', k)) (hk : (k : Int) = ki) :
    Calls Tryz.prog 20 #[.pointer (some ⟨p, 0, none⟩), .string n] w (Post B p s' ki w) := (Remove_any h.at_ n hn).mono fun _ _ hp => Post.of h.le hr hk hp
theorem L_Rename (h : D B p s w) (n m : ByteArray) (hn : n.size ≤ maxLen) (hm : m.size ≤ maxLen) {s' : S} {k : Nat} {ki : Int} (hr : Dsk.rename s (sname n) (sname m) = (s', k)) (hk : (k : Int) = ki) :
    Calls Tryz.prog 38 #[.pointer (some ⟨p, 0, none⟩), .string n, .string m] w (Post B p s' ki w) := (Rename_any h.at_ n m hn hm).mono fun _ _ hp => Post.of h.le hr hk hp
theorem L_Sync (h : D B p s w) (n : ByteArray) (hn : n.size ≤ maxLen) {s' : S} {k : Nat} {ki : Int} (hr : Dsk.sync s (sname n) = (s', k)) (hk : (k : Int) = ki) :
    Calls Tryz.prog 36 #[.pointer (some ⟨p, 0, none⟩), .string n] w (Post B p s' ki w) := (Sync_any h.at_ n hn).mono fun _ _ hp => Post.of h.le hr hk hp
theorem L_Fail (h : D B p s w) (n : Int) (hn : (Lit.int .i64 n).wf = true) :
    Calls Tryz.prog 10 #[.pointer (some ⟨p, 0, none⟩), .int .i64 n] w fun e w' => e = .returned (.tuple #[]) ∧ D B p { s with fuse := n.toNat } w' ∧ Below B w w' :=
  (Fail_any h.at_ n hn).mono fun _ _ ⟨he, hd, hf⟩ => ⟨he, ⟨hd, Nat.le_trans h.le hf.size⟩, below_of_frm hf h.le⟩
theorem L_Crash (h : D B p s w) {K : Option Addr} {c : Nat} {keep : List Bool} {te : TypeId} {G : Nat → Prop} (hk : SlB fBool te G w K keep) (hG : te ≠ 95 ∨ ∀ g, G g → g < B) {s' : S} (h1 : Dsk.crash s keep = s') :
    Calls Tryz.prog 11 #[.pointer (some ⟨p, 0, none⟩), .slice K keep.length c] w fun e w' => e = .returned (.tuple #[]) ∧ D B p s' w' ∧ Below B w w' := by
  refine (Crash_any h.at_ K c keep hk (hG.imp id (fun h1 g hu hg => ?_))).mono ?_
  · have h2 := h1 g hg
    have h3 := h.le
    rcases hu with hu | hu
    · have : B ≤ g := hu; omega
    · omega
  · rintro e w' ⟨he, hd, hf⟩
    subst h1
    exact ⟨he, D.of_up h.le hd hf.size, below_of_frm hf h.le⟩
theorem L_Read (h : D B p s w) (n : ByteArray) (hn : n.size ≤ maxLen) {bs : List UInt8} {k : Nat} {ki : Int} (hr : Dsk.read s (sname n) = (bs, k)) (hk : (k : Int) = ki) :
    Calls Tryz.prog 16 #[.pointer (some ⟨p, 0, none⟩), .string n] w fun e w' => ∃ A c, e = .returned (.tuple #[.slice A bs.length c, .int .i64 ki]) ∧ SlB fB 5 (fun g => w.heap.size ≤ g) w' A bs ∧ bs.length ≤ c ∧ c ≤ maxLen ∧ D B p s w' ∧ Below w.heap.size w w' :=
  (Read_any h.at_ n hn).mono fun e w' ⟨A, c, he, hs, hc, hc2, hd, hb⟩ => by
    rw [hr] at he hs hc; subst hk
    exact ⟨A, c, he, hs, hc, hc2, ⟨hd, Nat.le_trans h.le hb.size⟩, hb⟩
theorem L_Names (h : D B p s w) : Calls Tryz.prog 13 #[.pointer (some ⟨p, 0, none⟩)] w fun e w' => ∃ A c, e = .returned (.slice A (snames s).length c) ∧ SlB encStr 9 (fun g => w.heap.size ≤ g) w' A (snames s) ∧ D B p s w' ∧ Below w.heap.size w w' :=
  (Names_any h.at_).mono fun e w' ⟨A, c, he, ho, hb⟩ => ⟨A, c, he, (SlB.of_own ho).2, h.below hb, hb⟩
theorem L_Down (h : D B p s w) {k : Bool} (h1 : s.down = k) : Calls Tryz.prog 18 #[.pointer (some ⟨p, 0, none⟩)] w fun e w' => e = .returned (.bool k) ∧ w = w' := by
  subst h1; exact Down_any h.at_
end
end Go.Proofs.YtfpomllhkbbipaaGreat
