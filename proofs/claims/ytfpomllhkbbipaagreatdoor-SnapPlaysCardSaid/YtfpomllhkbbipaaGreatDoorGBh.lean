/- Layer 8: the document's store: plain laws. -/
import Derived.Test.YtfpomllhkbbipaaGreatDoorGAt
import Derived.Test.YtfpomllhkbbipaaGreatDoorGBg
import Derived.Test.YtfpomllhkbbipaaGreatDoorGBb
namespace Go.Proofs.YtfpomllhkbbipaaGreatDoor
open Go Go.RowKit Go.Shelf Go.Sort Go.Maps Go.Lib Mem Pk Cf Dsk Go.Proofs.YtfpomllhkbbipaaGreatDoor.Nm
namespace Sto
structure InvS (s : S) : Prop where
 sorted : Sorted s.files
 count : s.files.length ≤ 256
 fuse : s.fuse ≤ 9223372036854775807
theorem inv_one {s : S} (h : InvS s) : InvS (Dsk.step s) := by
 unfold Dsk.step
 split
 ·exact ⟨h.sorted, h.count, by have := h.fuse; show s.fuse - 1 ≤ _; omega⟩
 ·exact h
theorem put_len (f : File) (fs : List File) : (put f fs).length ≤ fs.length + 1 := by
 have h1 : ∀ l : List File, (ins f l).length = l.length + 1 := fun l => by
  induction l with
  | nil => rfl
  | cons y r ih => unfold ins; split <;> simp [ih]
 unfold put
 rw [h1]
 have : (del f.name fs).length ≤ fs.length := List.length_filter_le _ _
 omega
theorem del_len {n : Name} {fs : List File} {f : File} (h : find n fs = some f) : (del n fs).length < fs.length := by
 obtain ⟨h1, h2⟩ := find_name h
 unfold del
 rw [List.length_filter_lt_length_iff_exists]
 exact ⟨f, h2, by simp [h1]⟩
theorem look_find {s : S} {n : Name} {r : List Name} {f : File} {e : Nat} (h : Dsk.look s (n :: r) = (some f, e)) : find n s.files = some f := by
 unfold Dsk.look at h
 split at h
 ·cases h
 ·split at h
  ·cases h
  ·simp only [List.headD_cons] at h
   split at h
   ·rename_i g hg
    injection h with h1 _
    injection h1 with h1
    rw [hg, h1]
   ·cases h
theorem inv_upd {s : S} {n : Name} {g : File → File} (hg : ∀ f, (g f).name = f.name) (h : InvS s) : InvS { s with files := upd n g s.files } :=
 ⟨upd_sorted hg h.sorted, by show (upd n g s.files).length ≤ _; unfold upd; rw [List.length_map]; exact h.count, h.fuse⟩
theorem inv_create {s : S} {n : Name} (h : InvS s) : InvS (create s n).1 := by
 unfold create
 simp only
 have h1 := inv_one h
 generalize Dsk.step s = t at h1 ⊢
 generalize hr : Dsk.look t [n] = r
 obtain ⟨o, e⟩ := r
 cases o with
 | some f => exact h1
 | none =>
   simp only
   split
   ·split
    ·exact h1
    ·exact ⟨put_sorted h1.sorted, by have h2 := put_len ⟨n, [], []⟩ t.files; have h3 := h1.count; show (put ⟨n, [], []⟩ t.files).length ≤ 256; omega, h1.fuse⟩
   ·exact h1
theorem inv_remove {s : S} {n : Name} (h : InvS s) : InvS (remove s n).1 := by
 unfold remove
 simp only
 have h1 := inv_one h
 generalize Dsk.step s = t at h1 ⊢
 generalize hr : Dsk.look t [n] = r
 obtain ⟨o, e⟩ := r
 cases o with
 | some f => exact ⟨del_sorted h1.sorted, Nat.le_trans (List.length_filter_le _ _) h1.count, h1.fuse⟩
 | none => exact h1
theorem inv_rename {s : S} {n m : Name} (h : InvS s) : InvS (rename s n m).1 := by
 unfold rename
 simp only
 have h1 := inv_one h
 generalize Dsk.step s = t at h1 ⊢
 generalize hr : Dsk.look t [n, m] = r
 obtain ⟨o, e⟩ := r
 cases o with
 | some f =>
   have h2 := del_len (look_find hr)
   exact ⟨put_sorted (del_sorted h1.sorted), by have h3 := put_len { f with name := m } (del n t.files); have h4 := h1.count; show (put { f with name := m } (del n t.files)).length ≤ 256; omega, h1.fuse⟩
 | none => exact h1
theorem inv_write {s : S} {n : Name} {a : Int} {c : List UInt8} (h : InvS s) : InvS (write s n a c).1 := by
 unfold write
 simp only
 have h1 := inv_one h
 generalize Dsk.step s = t at h1 ⊢
 generalize hr : Dsk.look t [n] = r
 obtain ⟨o, e⟩ := r
 cases o with
 | some f =>
   simp only
   split
   ·exact h1
   ·split
    ·exact h1
    ·exact inv_upd (fun _ => rfl) h1
 | none => exact h1
theorem inv_sync {s : S} {n : Name} (h : InvS s) : InvS (sync s n).1 := by
 unfold sync
 simp only
 have h1 := inv_one h
 generalize Dsk.step s = t at h1 ⊢
 generalize hr : Dsk.look t [n] = r
 obtain ⟨o, e⟩ := r
 cases o with
 | some f => exact inv_upd (fun _ => rfl) h1
 | none => exact h1
theorem inv_cut {s : S} {n : Name} {a : Int} (h : InvS s) : InvS (cut s n a).1 := by
 unfold cut
 simp only
 have h1 := inv_one h
 generalize Dsk.step s = t at h1 ⊢
 generalize hr : Dsk.look t [n] = r
 obtain ⟨o, e⟩ := r
 cases o with
 | some f =>
   simp only
   split
   ·exact h1
   ·exact inv_upd (fun _ => rfl) h1
 | none => exact h1
def lastN (s : S) (fs : List File) : Option SnT := findS s ((fs.map File.name).filter isNm).reverse
theorem lastN_not {s : S} {fs : List File} {f : File} (h : idxS f.name = none) : lastN s (fs ++ [f]) = lastN s fs := by
 unfold lastN
 have : isNm f.name = false := by unfold isNm; rw [h]; rfl
 rw [List.map_append, List.filter_append]
 simp [this]
theorem lastN_is {s : S} {fs : List File} {f : File} {i : Nat} (h : idxS f.name = some i) (hr : (Dsk.read s f.name).1 = f.now) :
 lastN s (fs ++ [f]) = match readS f.now with
  | some x => if x.x = (i : Int) then some x else lastN s fs
  | none => lastN s fs := by
 have h1 : isNm f.name = true := by unfold isNm; rw [h]; rfl
 have h2 : ((fs ++ [f]).map File.name).filter isNm = (fs.map File.name).filter isNm ++ [f.name] := by
  rw [List.map_append, List.filter_append]; simp [h1]
 unfold lastN
 rw [h2, List.reverse_append]
 show findS s (f.name :: ((fs.map File.name).filter isNm).reverse) = _
 rw [findS, hr, h]
 cases readS f.now with
 | none => rfl
 | some x =>
   simp only [Option.map_some, Option.some.injEq]
   by_cases hx : x.x = (i : Int)
   ·rw [if_pos hx, if_pos (show Int.ofNat i = x.x from hx.symm)]
   ·rw [if_neg hx, if_neg (fun e => hx (show x.x = Int.ofNat i from e.symm))]
theorem lastN_all (s : S) : lastN s s.files = findS s (namesS s).reverse := rfl
def goneN (f : Option SnT) (g0 : List Name) (fs : List File) : List Name := g0 ++ ((fs.map File.name).filter isNm).filter (other f)
theorem goneN_snoc (f : Option SnT) (g0 : List Name) (fs : List File) (y : File) : goneN f g0 (fs ++ [y]) = goneN f g0 fs ++ (if isNm y.name && other f y.name then [y.name] else []) := by
 unfold goneN
 rw [List.map_append, List.filter_append, List.filter_append, List.append_assoc]
 congr 1
 cases h1 : isNm y.name <;> cases h2 : other f y.name <;> simp [h1, h2]
theorem goneN_all (s : S) (f : Option SnT) : goneN f (if nmT ∈ snames s then [nmT] else []) s.files = goneS s f := rfl
theorem goneN_len (f : Option SnT) (g0 : List Name) (fs : List File) : (goneN f g0 fs).length ≤ g0.length + fs.length := by
 unfold goneN
 rw [List.length_append]
 have h1 := List.length_filter_le (other f) ((fs.map File.name).filter isNm)
 have h2 := List.length_filter_le isNm (fs.map File.name)
 rw [List.length_map] at h2
 omega
theorem doStep2 (s : S) (a z : Name) (n : Int) (b : List UInt8) : doStep s 2 a z n b = remove s a := by unfold doStep; simp
structure OpT where
 k : Int
 a : Name
 z : Name
 n : Int
 b : List UInt8
def opD (s : S) (o : OpT) : S × Nat := doStep s o.k o.a o.z o.n o.b
def runO (s : S) : List OpT → S × Nat
 | [] => (s, 0)
 | o :: r => if (opD s o).2 = 0 then runO (opD s o).1 r else opD s o
theorem runO_append : ∀ (l r : List OpT) (s : S), runO s (l ++ r) = if (runO s l).2 = 0 then runO (runO s l).1 r else runO s l
 | [], r, s => rfl
 | o :: l, r, s => by
   rw [List.cons_append, runO, runO]
   by_cases h : (opD s o).2 = 0
   ·rw [if_pos h, if_pos h, runO_append l r]
   ·rw [if_neg h, if_neg h, if_neg h]
def wrOp (b : List UInt8) (j : Nat) : OpT := ⟨4, nmT, [], ((j * 256 : Nat) : Int), partS b j⟩
def crOp : OpT := ⟨1, nmT, [], 0, []⟩
def syOp : OpT := ⟨6, nmT, [], 0, []⟩
def rnOp (n : Name) : OpT := ⟨3, nmT, n, 0, []⟩
def rmOp (n : Name) : OpT := ⟨2, n, [], 0, []⟩
theorem opD_cr (s : S) : opD s crOp = create s nmT := by unfold opD crOp doStep; simp
theorem opD_wr (s : S) (b : List UInt8) (j : Nat) : opD s (wrOp b j) = write s nmT ((j * 256 : Nat) : Int) (partS b j) := by unfold opD wrOp doStep; simp
theorem opD_sy (s : S) : opD s syOp = sync s nmT := by unfold opD syOp doStep; simp
theorem opD_rn (s : S) (n : Name) : opD s (rnOp n) = rename s nmT n := by unfold opD rnOp doStep; simp
theorem opD_rm (s : S) (n : Name) : opD s (rmOp n) = remove s n := by unfold opD rmOp doStep; simp
theorem runO_wr (b : List UInt8) : ∀ (n k : Nat) (s : S), runO s ((List.range' k n).map (wrOp b)) = wrAll s b k n
 | 0, _, _ => rfl
 | n + 1, k, s => by
   rw [List.range'_succ, List.map_cons, runO, opD_wr, wrAll, runO_wr b n (k + 1)]
def fileO (n : Name) (b : List UInt8) : List OpT := crOp :: ((List.range' 0 (partsN b.length)).map (wrOp b) ++ [syOp, rnOp n])
theorem runO_file (s : S) (n : Name) (b : List UInt8) : runO s (fileO n b) = fileS s n b := by
 unfold fileO fileS
 rw [runO, opD_cr]
 by_cases h1 : (create s nmT).2 = 0
 ·rw [if_pos h1, if_neg (by rw [h1]; decide), runO_append, runO_wr]
  simp only
  by_cases h2 : (wrAll (create s nmT).1 b 0 (partsN b.length)).2 = 0
  ·rw [if_pos h2, if_neg (by rw [h2]; decide), runO, opD_sy]
   by_cases h3 : (sync (wrAll (create s nmT).1 b 0 (partsN b.length)).1 nmT).2 = 0
   ·rw [if_pos h3, if_neg (by rw [h3]; decide), runO, opD_rn]
    by_cases h4 : (rename (sync (wrAll (create s nmT).1 b 0 (partsN b.length)).1 nmT).1 nmT n).2 = 0
    ·rw [if_pos h4, runO]
     exact Prod.ext rfl h4.symm
    ·rw [if_neg h4]
   ·rw [if_neg h3, if_pos h3]
  ·rw [if_neg h2, if_pos h2]
 ·rw [if_neg h1, if_pos h1]
def opsO (l : Option SnT) (x : SnT) : List OpT := fileO (nmS x.x) (snOf x) ++ (match l with | none => [] | some y => [rmOp (nmS y.x)])
theorem putS_run {s : S} {l : Option SnT} {x : SnT} (h : rightS x = true) (hl : ∀ y, l = some y → ¬ x.x ≤ y.x) :
 putS s l x = ((runO s (opsO l x)).1, if (runO s (opsO l x)).2 = 0 then some x else l, (runO s (opsO l x)).2) := by
 unfold putS opsO
 rw [if_neg (by rw [h]; decide), runO_append, runO_file]
 cases l with
 | none =>
   simp only [runO]
   by_cases h1 : (fileS s (nmS x.x) (snOf x)).2 = 0
   ·rw [if_neg (by rw [h1]; decide)]; simp only [h1, if_true]
   ·rw [if_pos h1]; simp only [h1, if_false]
 | some y =>
   simp only [runO, opD_rm]
   rw [if_neg (hl y rfl)]
   by_cases h1 : (fileS s (nmS x.x) (snOf x)).2 = 0
   ·rw [if_neg (by rw [h1]; decide)]
    simp only [h1, if_true]
    by_cases h2 : (remove (fileS s (nmS x.x) (snOf x)).1 (nmS y.x)).2 = 0
    ·rw [if_neg (by rw [h2]; decide)]; simp only [h2, if_true]
    ·rw [if_pos h2]; simp only [h2, if_false]
   ·rw [if_pos h1]; simp only [h1, if_false]
theorem runO_snoc {s : S} {l : List OpT} {k : Nat} (hk : k < l.length) (h : (runO s (l.take k)).2 = 0) : runO s (l.take (k + 1)) = opD (runO s (l.take k)).1 l[k] := by
 rw [List.take_succ_eq_append_getElem hk, runO_append, if_pos h, runO]
 by_cases h2 : (opD (runO s (l.take k)).1 l[k]).2 = 0
 ·rw [if_pos h2, runO]; exact Prod.ext rfl h2.symm
 ·rw [if_neg h2]
theorem runO_stop {s : S} {l : List OpT} {k : Nat} (h : (runO s (l.take k)).2 ≠ 0) : runO s l = runO s (l.take k) := by
 rw [← List.take_append_drop k l, runO_append, List.take_append_drop, if_neg h]
theorem inv_opD {s : S} {o : OpT} (h : InvS s) : InvS (opD s o).1 := by
 unfold opD doStep
 split
 ·exact inv_create h
 ·split
  ·exact inv_remove h
  ·split
   ·exact inv_rename h
   ·split
    ·exact inv_write h
    ·split
     ·exact inv_cut h
     ·exact inv_sync h
theorem inv_runO : ∀ (l : List OpT) (s : S), InvS s → InvS (runO s l).1
 | [], _, h => h
 | o :: r, s, h => by
   rw [runO]
   split
   ·exact inv_runO r _ (inv_opD h)
   ·exact inv_opD h
end Sto
end Go.Proofs.YtfpomllhkbbipaaGreatDoor
