/- Layer 5: the walk of the law DiskKeeps. -/
import Derived.Test.YtfpomllhkbbipaaGreatDskT
import Derived.Test.YtfpomllhkbbipaaGreatDskQ5
namespace Go.Proofs.YtfpomllhkbbipaaGreat
open Go.RowKit Go.Maps Mem Dsk

theorem Dsk.Calm.any {s : S} (h : Dsk.Calm s) (kind : Int) (a z : Name) (n : Int) (b : List UInt8) : Calm (doStep s kind a z n b).1 := by
  unfold doStep
  split
  · exact h.create a
  · split
    · exact h.remove a
    · split
      · exact h.rename a z
      · split
        · exact h.write a n b
        · split
          · exact h.cut a n
          · exact h.sync a
theorem boolT : SliceT Tryz.prog 37 4 (.bool false) 1 := sliceT_mk Tryz.underlying37 rfl (by kernel_rfl)
def AllRel (w : World) (n g : Nat) (iv : Value) (wr : World) : Prop :=
  ∃ k : Nat, k ≤ n ∧ iv = .int .i64 k ∧ Own fBool w.heap.size 4 wr (.slice (some ⟨g, 0, none⟩) n n) (List.replicate k true ++ List.replicate (n - k) false) ∧ Below w.heap.size w wr
theorem D.small {B p : Nat} {s : S} {w : World} (h : D B p s w) : ∀ f ∈ s.files, f.name.length ≤ 16 := by
  obtain ⟨mb, rs, h⟩ := h.at_
  intro f hf
  rw [← h.files] at hf
  obtain ⟨r, hr, rfl⟩ := List.mem_map.1 hf
  have h1 := (h.recs r hr).2.2.2.2.2.2.2.2.2.2
  unfold named at h1
  simp only [Bool.and_eq_true, decide_eq_true_eq] at h1
  exact h1.2
theorem D.loose_le {B p : Nat} {s : S} {w : World} (h : D B p s w) : looseN s ≤ 524288 := by
  obtain ⟨mb, rs, h⟩ := h.at_
  have h1 := sumL_le (L := fun _ => true) (rs := rs) (fun x hx => (h.recs x hx).2.2.2.2.2.2.2.2.1)
  rw [h.sum (fun _ _ => rfl)] at h1
  have h2 := h.count
  rw [← h.files, List.length_map] at h2
  exact Nat.le_trans h1 (Nat.mul_le_mul_right 2048 h2)
def KeRel (B p q : Nat) (w : World) (kv uv : Value) (wr : World) : Prop :=
  ∃ (k : Nat) (u : Int) (s : S) (F : Nat → Prop), kv = .int .i64 k ∧ uv = .int .i64 u ∧ Two F B p q s s wr ∧ Dsk.Calm s ∧ Below B w wr
theorem sname_mk (l : Name) : sname ⟨l.toArray⟩ = l := by unfold sname; simp
theorem read_pair {s : S} {n : Name} {P : List UInt8} (h : (Dsk.read s n).1 = P) : Dsk.read s n = (P, (Dsk.read s n).2) := by rw [← h]
end Go.Proofs.YtfpomllhkbbipaaGreat
