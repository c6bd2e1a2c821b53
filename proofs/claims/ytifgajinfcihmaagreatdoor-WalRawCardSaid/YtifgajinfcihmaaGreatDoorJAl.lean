/- Plain laws of layer 5: a disk as lists. No program in sight. -/
import GoSem.Op.String
import GoSem.ClaimWide
import Derived.WideShapes
namespace Go.Proofs.YtifgajinfcihmaaGreatDoor.Dsk
open Go
abbrev Name := List UInt8
def lt (a b : Name) : Bool := Op.bytesLess a b
theorem lt_before (a b : Name) : lt a b = bytesBefore a b := by
 induction a generalizing b with
 | nil => cases b <;> rfl
 | cons x a ih =>
   cases b with
   | nil => rfl
   | cons y b => show (_ || (_ && lt a b)) = (_ || (_ && bytesBefore a b)); rw [ih]
theorem lt_irrefl (a : Name) : lt a a = false := by
 induction a with
 | nil => rfl
 | cons x a ih => show (decide (x < x) || (x == x && lt a a)) = false; rw [ih]; simp
theorem lt_trans {a b c : Name} (h : lt a b = true) (k : lt b c = true) : lt a c = true := by
 induction a generalizing b c with
 | nil =>
   cases c with
   | nil => cases b <;> simp [lt, Op.bytesLess] at k
   | cons z c => rfl
 | cons x a ih =>
   cases b with
   | nil => simp [lt, Op.bytesLess] at h
   | cons y b =>
     cases c with
     | nil => simp [lt, Op.bytesLess] at k
     | cons z c =>
       have h : (decide (x < y) || (x == y && lt a b)) = true := h
       have k : (decide (y < z) || (y == z && lt b c)) = true := k
       show (decide (x < z) || (x == z && lt a c)) = true
       simp only [Bool.or_eq_true, decide_eq_true_eq, Bool.and_eq_true, beq_iff_eq] at *
       rcases h with h | ⟨rfl, h1⟩
       ·rcases k with k | ⟨rfl, k⟩
        ·exact .inl (UInt8.lt_trans h k)
        ·exact .inl h
       ·rcases k with k | ⟨rfl, k1⟩
        ·exact .inl k
        ·exact .inr ⟨rfl, ih h1 k1⟩
theorem lt_total {a b : Name} (h : a ≠ b) : lt a b = true ∨ lt b a = true := by
 induction a generalizing b with
 | nil =>
   cases b with
   | nil => exact absurd rfl h
   | cons y b => exact .inl rfl
 | cons x a ih =>
   cases b with
   | nil => exact .inr rfl
   | cons y b =>
     show (decide (x < y) || (x == y && lt a b)) = true ∨ (decide (y < x) || (y == x && lt b a)) = true
     simp only [Bool.or_eq_true, decide_eq_true_eq, Bool.and_eq_true, beq_iff_eq]
     by_cases e : x = y
     ·subst e
      have : a ≠ b := fun e => h (by rw [e])
      rcases ih this with k | k
      ·exact .inl (.inr ⟨rfl, k⟩)
      ·exact .inr (.inr ⟨rfl, k⟩)
     ·rcases Nat.lt_or_ge x.toNat y.toNat with k | k
      ·exact .inl (.inl (UInt8.lt_iff_toNat_lt.2 k))
      ·have : x.toNat ≠ y.toNat := fun e' => e (UInt8.toNat_inj.1 e')
       exact .inr (.inl (UInt8.lt_iff_toNat_lt.2 (by omega)))
theorem lt_asymm {a b : Name} (h : lt a b = true) : lt b a = false := by
 cases k : lt b a
 ·rfl
 ·have := lt_trans h k; rw [lt_irrefl] at this; cases this
theorem lt_ne {a b : Name} (h : lt a b = true) : a ≠ b := by
 intro e; subst e; rw [lt_irrefl] at h; cases h
theorem lt_iff (a b : Name) : lt a b = true ↔ a < b := by
 induction a generalizing b with
 | nil =>
   cases b with
   | nil => simp [lt, Op.bytesLess]
   | cons y b => simp [lt, Op.bytesLess]
 | cons x a ih =>
   cases b with
   | nil => simp [lt, Op.bytesLess]
   | cons y b =>
     show (decide (x < y) || (x == y && lt a b)) = true ↔ _
     simp only [Bool.or_eq_true, decide_eq_true_eq, Bool.and_eq_true, beq_iff_eq, ih, List.cons_lt_cons_iff]
structure File where
 name : Name
 now : List UInt8
 safe : List UInt8
structure S where
 files : List File
 down : Bool
 fuse : Nat
def named (s : Name) : Bool := decide (1 ≤ s.length) && decide (s.length ≤ 16)
def find (n : Name) (fs : List File) : Option File := fs.find? (fun f => f.name == n)
def del (n : Name) (fs : List File) : List File := fs.filter (fun f => !(f.name == n))
def ins (f : File) : List File → List File
 | [] => [f]
 | y :: r => if lt f.name y.name then f :: y :: r else y :: ins f r
def put (f : File) (fs : List File) : List File := ins f (del f.name fs)
def upd (n : Name) (g : File → File) (fs : List File) : List File := fs.map (fun f => if f.name == n then g f else f)
def Sorted (fs : List File) : Prop := fs.Pairwise (fun a b => lt a.name b.name = true)
theorem find_name {n : Name} {fs : List File} {f : File} (h : find n fs = some f) : f.name = n ∧ f ∈ fs :=
 ⟨by have := List.find?_some h; simpa using this, List.mem_of_find?_eq_some h⟩
theorem find_none {n : Name} {fs : List File} : find n fs = none ↔ ∀ f ∈ fs, f.name ≠ n := by
 unfold find; rw [List.find?_eq_none]; simp
theorem del_of_none {n : Name} {fs : List File} (h : find n fs = none) : del n fs = fs := by
 rw [find_none] at h
 unfold del; rw [List.filter_eq_self]
 intro f hf; have := h f hf; simp [this]
theorem ins_mem {f : File} {fs : List File} {x : File} : x ∈ ins f fs ↔ x = f ∨ x ∈ fs := by
 induction fs with
 | nil => simp [ins]
 | cons y r ih =>
   unfold ins; split
   ·simp
   ·simp only [List.mem_cons, ih]
    constructor
    ·rintro (h | h | h)
     ·exact .inr (.inl h)
     ·exact .inl h
     ·exact .inr (.inr h)
    ·rintro (h | h | h)
     ·exact .inr (.inl h)
     ·exact .inl h
     ·exact .inr (.inr h)
theorem ins_len (f : File) (fs : List File) : (ins f fs).length = fs.length + 1 := by
 induction fs with
 | nil => rfl
 | cons y r ih => unfold ins; split <;> simp [ih]
theorem ins_sorted {f : File} {fs : List File} (h : Sorted fs) (hn : ∀ x ∈ fs, x.name ≠ f.name) : Sorted (ins f fs) := by
 induction fs with
 | nil => simp [ins, Sorted]
 | cons y r ih =>
   unfold Sorted at h ih ⊢
   rw [List.pairwise_cons] at h
   unfold ins; split
   ·rename_i hl
    rw [List.pairwise_cons, List.pairwise_cons]
    refine ⟨fun x hx => ?_, h⟩
    rcases List.mem_cons.1 hx with rfl | hx
    ·exact hl
    ·exact lt_trans hl (h.1 x hx)
   ·rename_i hl
    rw [List.pairwise_cons]
    refine ⟨fun x hx => ?_, ih h.2 (fun x hx => hn x (List.mem_cons_of_mem _ hx))⟩
    rcases ins_mem.1 hx with rfl | hx
    ·rcases lt_total (hn y (by simp)) with k | k
     ·exact k
     ·exact absurd k (by simpa using hl)
    ·exact h.1 x hx
theorem del_sorted {n : Name} {fs : List File} (h : Sorted fs) : Sorted (del n fs) := List.Pairwise.filter _ h
theorem del_ne {n : Name} {fs : List File} : ∀ x ∈ del n fs, x.name ≠ n := by
 intro x hx; have := (List.mem_filter.1 hx).2; simpa using this
theorem put_sorted {f : File} {fs : List File} (h : Sorted fs) : Sorted (put f fs) := ins_sorted (del_sorted h) del_ne
theorem upd_sorted {n : Name} {g : File → File} {fs : List File} (hg : ∀ f, (g f).name = f.name) (h : Sorted fs) : Sorted (upd n g fs) := by
 unfold Sorted upd at *
 rw [List.pairwise_map]
 refine h.imp ?_
 intro a b hab
 have e : ∀ x : File, (if x.name == n then g x else x).name = x.name := by intro x; split <;> simp [hg]
 rw [e, e]; exact hab
theorem upd_of_none {n : Name} {g : File → File} {fs : List File} (h : ∀ f ∈ fs, f.name ≠ n) : upd n g fs = fs := by
 unfold upd
 rw [List.map_congr_left (g := id)]
 ·simp
 ·intro f hf; have := h f hf; simp [this]
theorem upd_len {n : Name} {g : File → File} {fs : List File} : (upd n g fs).length = fs.length := by unfold upd; simp
def step (s : S) : S := if 0 < s.fuse ∧ s.down = false then { s with fuse := s.fuse - 1, down := decide (s.fuse - 1 = 0) } else s
def look (s : S) (ns : List Name) : Option File × Nat :=
 if s.down then (none, 50) else if ns.any (fun n => !named n) then (none, 1) else
  match find (ns.headD []) s.files with
  | some f => (some f, 0)
  | none => (none, 4)
def create (s0 : S) (n : Name) : S × Nat :=
 let s := step s0
 match look s [n] with
 | (some _, _) => (s, 5)
 | (none, e) => if e = 4 then (if s.files.length = 256 then (s, 3) else ({ s with files := put ⟨n, [], []⟩ s.files }, 0)) else (s, e)
def remove (s0 : S) (n : Name) : S × Nat :=
 let s := step s0
 match look s [n] with
 | (some _, _) => ({ s with files := del n s.files }, 0)
 | (none, e) => (s, e)
def over (b : List UInt8) (at_ : Nat) (c : List UInt8) : List UInt8 := b.take at_ ++ c ++ b.drop (at_ + c.length)
def write (s0 : S) (n : Name) (at_ : Int) (c : List UInt8) : S × Nat :=
 let s := step s0
 match look s [n] with
 | (some f, _) =>
   if at_ < 0 ∨ f.now.length < at_ then (s, 1)
   else if 65536 - at_ < c.length then (s, 51)
   else ({ s with files := upd n (fun f => { f with now := over f.now at_.toNat c }) s.files }, 0)
 | (none, e) => (s, e)
def cut (s0 : S) (n : Name) (k : Int) : S × Nat :=
 let s := step s0
 match look s [n] with
 | (some f, _) =>
   if k < 0 ∨ f.now.length < k then (s, 1)
   else ({ s with files := upd n (fun f => { f with now := f.now.take k.toNat, safe := f.safe.take k.toNat }) s.files }, 0)
 | (none, e) => (s, e)
def sync (s0 : S) (n : Name) : S × Nat :=
 let s := step s0
 match look s [n] with
 | (some _, _) => ({ s with files := upd n (fun f => { f with safe := f.now }) s.files }, 0)
 | (none, e) => (s, e)
def read (s : S) (n : Name) : List UInt8 × Nat :=
 match look s [n] with
 | (some f, _) => (f.now, 0)
 | (none, e) => ([], e)
def sector (l : List UInt8) (i : Nat) : List UInt8 := (l.drop (i * 32)).take 32
def loose (f : File) : List Nat := (List.range ((f.now.length + 31) / 32)).filter (fun i => !(sector f.now i == sector f.safe i))
def keptBytes (f : File) (keep : List Bool) (n : Nat) : List UInt8 × Nat :=
 (loose f).foldl (fun st i => (if keep.getD st.2 false then over (st.1 ++ List.replicate (i * 32 - st.1.length) 0) (i * 32) (sector f.now i) else st.1, st.2 + 1)) (f.safe, n)
def crashFiles (keep : List Bool) : List File → Nat → List File
 | [], _ => []
 | f :: r, n => let b := keptBytes f keep n; ⟨f.name, b.1, b.1⟩ :: crashFiles keep r b.2
def crash (s : S) (keep : List Bool) : S := ⟨crashFiles keep s.files 0, false, 0⟩
end Go.Proofs.YtifgajinfcihmaaGreatDoor.Dsk
