/- Plain laws of layer 5: what is done to one file changes no other. No program in sight. -/
import Derived.Test.YtepkjnhijocojaaDskQ3
namespace Go.Proofs.Ytepkjnhijocojaa.Dsk
open Go

theorem find_del_other {n m : Name} {fs : List File} (h : m ≠ n) : find m (del n fs) = find m fs := by
  unfold find del
  rw [List.find?_filter]
  congr 1; funext f
  by_cases e : f.name = m
  · simp [e, h]
  · simp [e]
theorem find_ins_other {m : Name} {f : File} {fs : List File} (h : f.name ≠ m) : find m (ins f fs) = find m fs := by
  unfold find
  induction fs with
  | nil => unfold ins; rw [List.find?_cons_of_neg (by simpa using h)]
  | cons y r ih =>
    unfold ins; split
    · rw [List.find?_cons_of_neg (by simpa using h)]
    · by_cases e : y.name = m
      · rw [List.find?_cons_of_pos (by simpa using e), List.find?_cons_of_pos (by simpa using e)]
      · rw [List.find?_cons_of_neg (by simpa using e), List.find?_cons_of_neg (by simpa using e), ih]
theorem find_put_other {m : Name} {f : File} {fs : List File} (h : f.name ≠ m) : find m (put f fs) = find m fs := by
  unfold put; rw [find_ins_other h, find_del_other (fun e => h e.symm)]
structure Inv (s : S) (k : Name) (K : List UInt8) : Prop where
  file : find k s.files = some ⟨k, K, K⟩
  up : s.down = false
  fuse : s.fuse = 0
theorem Inv.read {s : S} {k : Name} {K : List UInt8} (h : Inv s k K) (hn : named k = true) : read s k = (K, 0) := by
  unfold Dsk.read; rw [look_found h.up hn h.file]
theorem Inv.of {s : S} {k : Name} {K : List UInt8} {fs : List File} (h : Inv s k K) (hf : find k fs = some ⟨k, K, K⟩) : Inv { s with files := fs } k K := ⟨hf, h.up, h.fuse⟩
theorem Inv.create {s : S} {k a : Name} {K : List UInt8} (h : Inv s k K) (ha : a ≠ k) : Inv (create s a).1 k K := by
  unfold Dsk.create; rw [step_idle h.fuse]
  simp only
  split
  · exact h
  · split
    · split
      · exact h
      · exact h.of (by rw [find_put_other ha]; exact h.file)
    · exact h
theorem Inv.remove {s : S} {k a : Name} {K : List UInt8} (h : Inv s k K) (ha : a ≠ k) : Inv (remove s a).1 k K := by
  unfold Dsk.remove; rw [step_idle h.fuse]
  simp only
  split
  · exact h.of (by rw [find_del_other (fun e => ha e.symm)]; exact h.file)
  · exact h
theorem Inv.rename {s : S} {k a z : Name} {K : List UInt8} (h : Inv s k K) (ha : a ≠ k) (hz : z ≠ k) : Inv (rename s a z).1 k K := by
  unfold Dsk.rename; rw [step_idle h.fuse]
  simp only
  split
  · exact h.of (by rw [find_put_other hz, find_del_other (fun e => ha e.symm)]; exact h.file)
  · exact h
theorem Inv.write {s : S} {k a : Name} {K : List UInt8} (h : Inv s k K) (ha : a ≠ k) (n : Int) (b : List UInt8) : Inv (write s a n b).1 k K := by
  unfold Dsk.write; rw [step_idle h.fuse]
  simp only
  split
  · split
    · exact h
    · split
      · exact h
      · exact h.of ((find_upd_other (by intro f; rfl) (fun e => ha e.symm)).trans h.file)
  · exact h
theorem Inv.cut {s : S} {k a : Name} {K : List UInt8} (h : Inv s k K) (ha : a ≠ k) (n : Int) : Inv (cut s a n).1 k K := by
  unfold Dsk.cut; rw [step_idle h.fuse]
  simp only
  split
  · split
    · exact h
    · exact h.of ((find_upd_other (by intro f; rfl) (fun e => ha e.symm)).trans h.file)
  · exact h
theorem Inv.sync {s : S} {k a : Name} {K : List UInt8} (h : Inv s k K) (ha : a ≠ k) : Inv (sync s a).1 k K := by
  unfold Dsk.sync; rw [step_idle h.fuse]
  simp only
  split
  · exact h.of ((find_upd_other (by intro f; rfl) (fun e => ha e.symm)).trans h.file)
  · exact h
theorem keptBytes_same (k : Name) (K : List UInt8) (keep : List Bool) (n : Nat) : keptBytes ⟨k, K, K⟩ keep n = (K, n) := by
  unfold keptBytes; rw [loose_same]; rfl
theorem crash_find {k : Name} {K : List UInt8} (keep : List Bool) {fs : List File} (h : find k fs = some ⟨k, K, K⟩) (n : Nat) : find k (crashFiles keep fs n) = some ⟨k, K, K⟩ := by
  induction fs generalizing n with
  | nil => cases h
  | cons f r ih =>
    unfold crashFiles
    simp only
    by_cases e : f.name = k
    · have hf : f = ⟨k, K, K⟩ := by unfold find at h; rw [List.find?_cons_of_pos (by simpa using e)] at h; exact Option.some.inj h
      subst hf
      rw [keptBytes_same]
      unfold find; rw [List.find?_cons_of_pos (by simp)]
    · have h' : find k r = some ⟨k, K, K⟩ := by unfold find at h ⊢; rw [List.find?_cons_of_neg (by simpa using e)] at h; exact h
      unfold find; rw [List.find?_cons_of_neg (by simpa using e)]
      exact ih h' _
theorem Inv.crash {s : S} {k : Name} {K : List UInt8} (h : Inv s k K) (keep : List Bool) : Inv (crash s keep) k K := ⟨crash_find keep h.file 0, rfl, rfl⟩
end Go.Proofs.Ytepkjnhijocojaa.Dsk
