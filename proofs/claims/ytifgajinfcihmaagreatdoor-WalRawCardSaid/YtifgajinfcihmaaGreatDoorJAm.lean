/- Plain laws of layer 5: a loss of power, file by file. No program in sight. -/
import Derived.KernelRfl
import Derived.Test.YtifgajinfcihmaaGreatDoorJAl
namespace Go.Proofs.YtifgajinfcihmaaGreatDoor.Dsk
open Go
def keptStep (f : File) (keep : List Bool) (st : List UInt8 × Nat) (i : Nat) : List UInt8 × Nat :=
 (if keep.getD st.2 false then over (st.1 ++ List.replicate (i * 32 - st.1.length) 0) (i * 32) (sector f.now i) else st.1, st.2 + 1)
def keptTo (f : File) (keep : List Bool) (n j : Nat) : List UInt8 × Nat := ((loose f).take j).foldl (keptStep f keep) (f.safe, n)
theorem keptTo_zero (f : File) (keep : List Bool) (n : Nat) : keptTo f keep n 0 = (f.safe, n) := by unfold keptTo; simp
theorem keptTo_all (f : File) (keep : List Bool) (n : Nat) : keptTo f keep n (loose f).length = keptBytes f keep n := by unfold keptTo; rw [List.take_length]; rfl
theorem keptTo_succ {f : File} {keep : List Bool} {n j : Nat} (h : j < (loose f).length) : keptTo f keep n (j + 1) = keptStep f keep (keptTo f keep n j) (loose f)[j] := by
 unfold keptTo; rw [List.take_succ_eq_append_getElem h, List.foldl_append]; rfl
theorem keptTo_snd {f : File} {keep : List Bool} {n j : Nat} (h : j ≤ (loose f).length) : (keptTo f keep n j).2 = n + j := by
 induction j with
 | zero => rw [keptTo_zero]; rfl
 | succ j ih => rw [keptTo_succ (by omega)]; show (keptTo f keep n j).2 + 1 = _; rw [ih (by omega)]; omega
theorem loose_lt {f : File} {i : Nat} (h : i ∈ loose f) : i * 32 < f.now.length := by
 unfold loose at h
 have := List.mem_range.1 (List.mem_filter.1 h).1
 omega
theorem sector_len_le (l : List UInt8) (i : Nat) (h : i * 32 < l.length) : i * 32 + (sector l i).length ≤ l.length := by unfold sector; simp; omega
theorem over_len_any (b c : List UInt8) (i : Nat) : (over (b ++ List.replicate (i - b.length) 0) i c).length = max b.length (i + c.length) := by unfold over; simp; omega
theorem keptTo_len {f : File} {keep : List Bool} {n j : Nat} (h : j ≤ (loose f).length) : (keptTo f keep n j).1.length ≤ max f.safe.length f.now.length := by
 induction j with
 | zero => rw [keptTo_zero]; show f.safe.length ≤ _; omega
 | succ j ih =>
   rw [keptTo_succ (by omega)]
   unfold keptStep
   have h1 := ih (by omega)
   have h2 := sector_len_le f.now _ (loose_lt (List.getElem_mem (show j < (loose f).length by omega)))
   simp only
   split
   ·rw [over_len_any]; omega
   ·exact h1
theorem kept_grown {out c : List UInt8} {i k : Nat} (h : i + c.length = out.length + k) :
 (out ++ List.replicate k 0).take i ++ c ++ (out ++ List.replicate k 0).drop (i + c.length) = over (out ++ List.replicate (i - out.length) 0) i c := by
 unfold over
 rw [List.drop_of_length_le (l := out ++ List.replicate k 0) (by simp; omega), List.drop_of_length_le (by simp; omega)]
 congr 2
 rcases Nat.le_total i out.length with h1 | h1
 ·rw [List.take_append_of_le_length h1, List.take_append_of_le_length h1]
 ·rw [List.take_append, List.take_of_length_le h1, List.take_replicate, List.take_of_length_le (by simp; omega)]
  congr 2; omega
theorem kept_room {out c : List UInt8} {i : Nat} (h : i + c.length ≤ out.length) :
 out.take i ++ c ++ out.drop (i + c.length) = over (out ++ List.replicate (i - out.length) 0) i c := by
 unfold over; rw [show i - out.length = 0 by omega]; simp
def crashed (f : File) (b : List UInt8) : File := ⟨f.name, b, b⟩
def crashGo (keep : List Bool) : List File → Nat → List File × Nat
 | [], n => ([], n)
 | f :: r, n => (crashed f (keptBytes f keep n).1 :: (crashGo keep r (keptBytes f keep n).2).1, (crashGo keep r (keptBytes f keep n).2).2)
theorem crashGo_files (keep : List Bool) (fs : List File) (n : Nat) : (crashGo keep fs n).1 = crashFiles keep fs n := by
 induction fs generalizing n with
 | nil => rfl
 | cons f r ih => unfold crashGo crashFiles; rw [ih]; rfl
theorem crashGo_snoc (keep : List Bool) (fs : List File) (f : File) (n : Nat) :
 crashGo keep (fs ++ [f]) n = ((crashGo keep fs n).1 ++ [crashed f (keptBytes f keep (crashGo keep fs n).2).1], (keptBytes f keep (crashGo keep fs n).2).2) := by
 induction fs generalizing n with
 | nil => rfl
 | cons g r ih => rw [List.cons_append]; unfold crashGo; rw [ih]; rfl
theorem crashGo_names (keep : List Bool) (fs : List File) (n : Nat) : (crashGo keep fs n).1.map File.name = fs.map File.name := by
 induction fs generalizing n with
 | nil => rfl
 | cons f r ih => unfold crashGo; rw [List.map_cons, ih]; rfl
def crashAt (keep : List Bool) (fs : List File) (k : Nat) : List File := (crashGo keep (fs.take k) 0).1 ++ fs.drop k
def crashN (keep : List Bool) (fs : List File) (k : Nat) : Nat := (crashGo keep (fs.take k) 0).2
theorem crashAt_all (keep : List Bool) (fs : List File) : crashAt keep fs fs.length = crashFiles keep fs 0 := by
 unfold crashAt; rw [List.take_length, List.drop_length, List.append_nil, crashGo_files]
theorem crashN_succ {keep : List Bool} {fs : List File} {k : Nat} (h : k < fs.length) : crashN keep fs (k + 1) = (keptBytes fs[k] keep (crashN keep fs k)).2 := by
 unfold crashN; rw [List.take_succ_eq_append_getElem h, crashGo_snoc]
theorem keptBytes_snd (f : File) (keep : List Bool) (n : Nat) : (keptBytes f keep n).2 = n + (loose f).length := by rw [← keptTo_all, keptTo_snd (Nat.le_refl _)]
theorem keptBytes_len (f : File) (keep : List Bool) (n : Nat) : (keptBytes f keep n).1.length ≤ max f.safe.length f.now.length := by rw [← keptTo_all]; exact keptTo_len (Nat.le_refl _)
theorem upd_append (n : Name) (g : File → File) (a b : List File) : upd n g (a ++ b) = upd n g a ++ upd n g b := by unfold upd; rw [List.map_append]
theorem sorted_names {fs : List File} : Sorted fs ↔ (fs.map File.name).Pairwise (fun a b => lt a b = true) := by unfold Sorted; rw [List.pairwise_map]
theorem crashAt_succ {keep : List Bool} {fs : List File} {k : Nat} (hs : Sorted fs) (h : k < fs.length) :
 upd fs[k].name (fun f => crashed f (keptBytes fs[k] keep (crashN keep fs k)).1) (crashAt keep fs k) = crashAt keep fs (k + 1) := by
 have hd : fs.drop k = fs[k] :: fs.drop (k + 1) := List.drop_eq_getElem_cons h
 have hso := hs
 unfold Sorted at hso
 rw [List.pairwise_iff_getElem] at hso
 unfold crashAt
 rw [upd_append, upd_of_none (fs := (crashGo keep (fs.take k) 0).1), hd]
 ·have e1 : upd fs[k].name (fun f => crashed f (keptBytes fs[k] keep (crashN keep fs k)).1) (fs[k] :: fs.drop (k + 1)) = crashed fs[k] (keptBytes fs[k] keep (crashN keep fs k)).1 :: fs.drop (k + 1) := by
   show (if (fs[k].name == fs[k].name) = true then _ else _) :: upd fs[k].name _ (fs.drop (k + 1)) = _
   rw [if_pos (by simp), upd_of_none]
   intro f hf e
   obtain ⟨j, hj, rfl⟩ := List.getElem_of_mem hf
   rw [List.getElem_drop] at e
   exact lt_ne (hso k (k + 1 + j) h (by simp at hj; omega) (by omega)) e.symm
  rw [e1, List.take_succ_eq_append_getElem h, crashGo_snoc]
  show _ = (_ ++ [_]) ++ _
  rw [List.append_assoc]; rfl
 ·intro f hf e
  have hm : f.name ∈ (fs.take k).map File.name := by rw [← crashGo_names keep (fs.take k) 0]; exact List.mem_map_of_mem hf
  obtain ⟨g, hg, e2⟩ := List.mem_map.1 hm
  obtain ⟨j, hj, rfl⟩ := List.getElem_of_mem hg
  rw [List.getElem_take] at e2
  simp at hj
  exact lt_ne (hso j k (by omega) h (by omega)) (by rw [e2, e])
theorem crashAt_find {keep : List Bool} {fs : List File} {k : Nat} (hs : Sorted fs) (h : k < fs.length) : find fs[k].name (crashAt keep fs k) = some fs[k] := by
 have hso := hs
 unfold Sorted at hso
 rw [List.pairwise_iff_getElem] at hso
 unfold find crashAt
 rw [List.find?_append, List.find?_eq_none.2, List.drop_eq_getElem_cons h, List.find?_cons_of_pos (by simp)]
 ·rfl
 ·intro f hf e
  have e : f.name = fs[k].name := by simpa using e
  have hm : f.name ∈ (fs.take k).map File.name := by rw [← crashGo_names keep (fs.take k) 0]; exact List.mem_map_of_mem hf
  obtain ⟨g, hg, e2⟩ := List.mem_map.1 hm
  obtain ⟨j, hj, rfl⟩ := List.getElem_of_mem hg
  rw [List.getElem_take] at e2
  simp at hj
  exact lt_ne (hso j k (by omega) h (by omega)) (by rw [e2, e])
theorem crash_eq (s : S) (keep : List Bool) : crash s keep = ⟨crashAt keep s.files s.files.length, false, 0⟩ := by rw [crashAt_all]; rfl
end Go.Proofs.YtifgajinfcihmaaGreatDoor.Dsk
namespace Go.Proofs.YtifgajinfcihmaaGreatDoor.Dsk
open Go
theorem look_found {s : S} {n : Name} {f : File} (hd : s.down = false) (hn : named n = true) (hf : find n s.files = some f) : look s [n] = (some f, 0) := by
 unfold look; rw [hd]; simp [hn, hf]
theorem look_none {s : S} {n : Name} (hd : s.down = false) (hn : named n = true) (hf : find n s.files = none) : look s [n] = (none, 4) := by
 unfold look; rw [hd]; simp [hn, hf]
theorem step_idle {s : S} (h : s.fuse = 0) : step s = s := by unfold step; rw [if_neg (by omega)]
theorem keptBytes_nil (f : File) (n : Nat) : (keptBytes f [] n).1 = f.safe := by
 rw [← keptTo_all]
 have : ∀ j, j ≤ (loose f).length → (keptTo f [] n j).1 = f.safe := by
  intro j
  induction j with
  | zero => intro _; rw [keptTo_zero]
  | succ j ih =>
    intro h
    rw [keptTo_succ (by omega)]
    unfold keptStep
    rw [if_neg (by simp)]
    exact ih (by omega)
 exact this _ (Nat.le_refl _)
def pS (bs : List UInt8) (n k : Nat) : S := ⟨[⟨[97], if k = 1 then [] else bs, []⟩], false, n + 1 - k⟩
def pE : S := ⟨[⟨[97], [], []⟩], false, 0⟩
end Go.Proofs.YtifgajinfcihmaaGreatDoor.Dsk
namespace Go.Proofs.YtifgajinfcihmaaGreatDoor.Dsk
open Go
theorem over_get {a c : List UInt8} {k : Nat} (h : k ≤ a.length) (i : Nat) : (over a k c)[i]? = if i < k then a[i]? else if i - k < c.length then c[i - k]? else a[i]? := by
 unfold over
 have e : (a.take k).length = k := by simp; omega
 rw [List.append_assoc]
 by_cases h1 : i < k
 ·rw [if_pos h1, List.getElem?_append_left (by omega), List.getElem?_take, if_pos h1]
 ·rw [if_neg h1, List.getElem?_append_right (by omega), e]
  by_cases h2 : i - k < c.length
  ·rw [if_pos h2, List.getElem?_append_left h2]
  ·rw [if_neg h2, List.getElem?_append_right (by omega), List.getElem?_drop]
   congr 1; omega
end Go.Proofs.YtifgajinfcihmaaGreatDoor.Dsk
namespace Go.Proofs.YtifgajinfcihmaaGreatDoor.Dsk
open Go
def mixed (f : File) (i : Nat) : List UInt8 := f.now.take (i * 32) ++ f.safe.drop (i * 32)
def turned (f : File) : File := ⟨f.name, f.now, f.now⟩
end Go.Proofs.YtifgajinfcihmaaGreatDoor.Dsk
namespace Go.Proofs.YtifgajinfcihmaaGreatDoor.Dsk
open Go
def overZ (b : List UInt8) (a : Nat) (c : List UInt8) : List UInt8 := over (b ++ List.replicate (a - b.length) 0) a c
theorem overZ_len (b : List UInt8) (a : Nat) (c : List UInt8) : (overZ b a c).length = max b.length (a + c.length) := by unfold overZ; exact over_len_any b c a
theorem overZ_mid {b c : List UInt8} {a k : Nat} (h1 : a ≤ k) (h2 : k - a < c.length) : (overZ b a c)[k]? = some c[k - a] := by
 unfold overZ
 rw [over_get (by simp; omega), if_neg (by omega), if_pos h2, List.getElem?_eq_getElem h2]
theorem overZ_old {b c : List UInt8} {a k : Nat} (h1 : ¬ (a ≤ k ∧ k < a + c.length)) (h2 : k < b.length) : (overZ b a c)[k]? = some b[k] := by
 unfold overZ
 rw [over_get (by simp; omega)]
 have e : (b ++ List.replicate (a - b.length) 0)[k]? = some b[k] := by rw [List.getElem?_append_left h2, List.getElem?_eq_getElem h2]
 by_cases c1 : k < a
 ·rw [if_pos c1, e]
 ·rw [if_neg c1, if_neg (by omega), e]
theorem overZ_zero {b c : List UInt8} {a k : Nat} (h1 : ¬ (a ≤ k ∧ k < a + c.length)) (h2 : ¬ k < b.length) (h3 : k < a + c.length) : (overZ b a c)[k]? = some 0 := by
 unfold overZ
 rw [over_get (by simp; omega), if_pos (by omega), List.getElem?_append_right (by omega)]
 rw [List.getElem?_replicate, if_pos (by omega)]
def pieceD (b : List UInt8) (f t : Nat) : List UInt8 := (b.drop f).take (t - f)
end Go.Proofs.YtifgajinfcihmaaGreatDoor.Dsk
