/- Layer 5: scripts of calls; one step of a script. -/
import Derived.Test.YtfpomllhkbbipaaGreatDskA
import Derived.Test.YtfpomllhkbbipaaGreatOpen
import Derived.Deep.Fields
import Derived.Deep.Slices
import Derived.ChangeSame
import Derived.Test.YtfpomllhkbbipaaGreatDskX
namespace Go.Proofs.YtfpomllhkbbipaaGreat
open Go.RowKit Go.Maps Mem Dsk

/-- a call of a script, as it lies in memory -/
structure OpR where
  kind : Int
  a : ByteArray
  z : ByteArray
  n : Int
  A : Option Addr
  c : Nat
  bs : List UInt8
  K : Option Addr
  d : Nat
  keep : List Bool
def OpR.cell (o : OpR) : Nat → Value
  | 0 => .int .i64 o.kind
  | 1 => .string o.a
  | 2 => .string o.z
  | 3 => .int .i64 o.n
  | 4 => .slice o.A o.bs.length o.c
  | _ => .slice o.K o.keep.length o.d
structure OpOK (B : Nat) (w : World) (o : OpR) : Prop where
  kind : (Lit.int .i64 o.kind).wf = true
  n : (Lit.int .i64 o.n).wf = true
  a : o.a.size ≤ maxLen
  z : o.z.size ≤ maxLen
  bs : ∃ te, SlB fB te (fun g => g < B) w o.A o.bs
  keep : ∃ te, SlB fBool te (fun g => g < B) w o.K o.keep
  cap : o.bs.length ≤ o.c ∧ o.c ≤ maxLen
def Script (B : Nat) (w : World) (A : Option Addr) (ops : List OpR) : Prop :=
  ops.length ≤ maxLen ∧ (0 < ops.length → ∃ b o, A = some ⟨b, o, none⟩ ∧ b < B ∧ ∀ j (h : j < ops.length) i, i < 6 → w.cell? ⟨b, o + j * 6 + i, none⟩ = some (ops[j].cell i)) ∧ ∀ o ∈ ops, OpOK B w o
section
variable {B : Nat} {w w' : World} {A : Option Addr} {ops : List OpR}
theorem OpOK.under {o : OpR} (h : OpOK B w o) (hb : Below B w w') : OpOK B w' o :=
  { h with bs := by obtain ⟨te, h1⟩ := h.bs; exact ⟨te, h1.under hb⟩, keep := by obtain ⟨te, h1⟩ := h.keep; exact ⟨te, h1.under hb⟩ }
theorem Script.under (h : Script B w A ops) (hb : Below B w w') : Script B w' A ops :=
  ⟨h.1, fun hn => by
    obtain ⟨b, o, e, hlt, hc⟩ := h.2.1 hn
    exact ⟨b, o, e, hlt, fun j hj i hi => (hb.cell (p := ⟨b, o + j * 6 + i, none⟩) hlt).trans (hc j hj i hi)⟩, fun o ho => (h.2.2 o ho).under hb⟩
theorem Script.at (h : Script B w A ops) {k : Nat} (hk : k < ops.length) : ∃ b o, A = some ⟨b, o, none⟩ ∧ b < B ∧ ∀ i, i < 6 → w.cell? ⟨b, o + k * 6 + i, none⟩ = some (ops[k].cell i) := by
  obtain ⟨b, o, e, hlt, hc⟩ := h.2.1 (by omega)
  exact ⟨b, o, e, hlt, hc k hk⟩
theorem Script.ok (h : Script B w A ops) {k : Nat} (hk : k < ops.length) : OpOK B w ops[k] := h.2.2 _ (List.getElem_mem hk)
end
def doStep (s : S) (kind : Int) (a z : Name) (n : Int) (b : List UInt8) : S × Nat :=
  if kind = 1 then Dsk.create s a else if kind = 2 then Dsk.remove s a else if kind = 3 then Dsk.rename s a z else if kind = 4 then Dsk.write s a n b else if kind = 5 then Dsk.cut s a n else Dsk.sync s a
theorem prod_eta {α β : Type} (x : α × β) : x = (x.1, x.2) := rfl
end Go.Proofs.YtfpomllhkbbipaaGreat
namespace Go.Proofs.YtfpomllhkbbipaaGreat
open Go.RowKit Go.Maps Mem Dsk

end Go.Proofs.YtfpomllhkbbipaaGreat
namespace Go.Proofs.YtfpomllhkbbipaaGreat
open Go.RowKit Go.Maps Mem Dsk


theorem Mem.frm_of_kept {F : Nat → Prop} {B : Nat} {w w' : World} (hb : Below B w w') (hk : Kept F w w') : Frm (fun g => ¬ F g) w w' :=
  ⟨hb.os, hb.tape, hb.output, hb.size, fun g _ hn => hk g (Classical.not_not.1 hn)⟩
theorem DiskAt.mono {F G : Nat → Prop} {w : World} {p : Nat} {s : S} (h : DiskAt F w p s) (hF : ∀ g, g < w.heap.size → F g → G g) : DiskAt G w p s := by
  obtain ⟨mb, rs, h⟩ := h; exact ⟨mb, rs, h.mono hF⟩
theorem DiskAt.kept {F G : Nat → Prop} {B : Nat} {w w' : World} {p : Nat} {s : S} (h : DiskAt F w p s) (hb : Below B w w') (hk : Kept G w w') (hF : ∀ g, F g → G g) : DiskAt F w' p s := by
  obtain ⟨mb, rs, h⟩ := h; exact ⟨mb, rs, h.frm (frm_of_kept hb hk) (fun g hg hn => hn (hF g hg))⟩
theorem DiskAt.below {F : Nat → Prop} {w w' : World} {p : Nat} {s : S} (h : DiskAt F w p s) (hb : Below w.heap.size w w') : DiskAt F w' p s := by
  obtain ⟨mb, rs, h⟩ := h; exact ⟨mb, rs, h.below hb⟩
/-- two disks: the second lies in F -/
structure Two (F : Nat → Prop) (B p q : Nat) (s t : S) (w : World) : Prop where
  one : DX F B p s w
  two : DiskAt (fun g => B ≤ g ∧ F g) w q t
section
variable {F : Nat → Prop} {B p q : Nat} {s t : S} {w w' : World}
theorem Two.below (h : Two F B p q s t w) (hb : Below w.heap.size w w') : Two F B p q s t w' := ⟨h.one.below hb, h.two.below hb⟩
/-- a step on the first -/
theorem Two.first {s' : S} (h : Two F B p q s t w) (h1 : DX F B p s' w') (hb : Below B w w') (hk : Kept F w w') : Two F B p q s' t w' := ⟨h1, h.two.kept hb hk (fun _ hg => hg.2)⟩
/-- what the second's steps keep -/
def beside (F : Nat → Prop) (w : World) : Nat → Prop := fun g => ¬ F g ∧ g < w.heap.size
theorem Two.snd (h : Two F B p q s t w) : DX (beside F w) B q t w :=
  ⟨h.two.mono (fun g _ hg => ⟨hg.1, fun hn => hn.1 hg.2⟩), h.one.le, fun _ hg => hg.2⟩
theorem Two.second {t' : S} (h : Two F B p q s t w) (h2 : DX (beside F w) B q t' w') (hb : Below B w w') (hk : Kept (beside F w) w w') :
    Two (fun g => (F g ∨ w.heap.size ≤ g) ∧ g < w'.heap.size) B p q s t' w' := by
  refine ⟨⟨?_, h2.le, fun _ hg => hg.2⟩, h2.at_.mono (fun g hl hg => ⟨hg.1, ?_, hl⟩)⟩
  · have h3 := (h.one.at_.mono (G := fun g => B ≤ g ∧ beside F w g) (fun g hl hg => ⟨hg.1, hg.2, hl⟩)).kept hb hk (fun _ hg => hg.2)
    exact h3.mono (fun g _ hg => ⟨hg.1, fun hn => hn.1.elim hg.2.1 (fun h4 => absurd hg.2.2 (Nat.not_lt.2 h4))⟩)
  · by_cases hl2 : g < w.heap.size
    · left
      exact Classical.not_not.1 (fun hf => hg.2 ⟨hf, hl2⟩)
    · right; omega
theorem Two.left (h : Two F B p q s t w) : D B p s w := h.one.drop
theorem Two.right (h : Two F B p q s t w) : D B q t w := h.snd.drop
/-- a second disk beside the first -/
theorem Two.start (h : D B p s w) (hb : Below w.heap.size w w') (h2 : DiskAt (fun g => w.heap.size ≤ g) w' q t) : Two (fun g => w.heap.size ≤ g ∧ g < w'.heap.size) B p q s t w' :=
  ⟨h.protect hb (fun _ hg => hg), h2.mono (fun g hl hg => ⟨Nat.le_trans h.le hg, hg, hl⟩)⟩
end
end Go.Proofs.YtfpomllhkbbipaaGreat
