/- Layer 5: the walk of Names. -/
import Derived.Test.YtifgajinfcihmaaGreatDoorJAq
import Derived.Test.YtifgajinfcihmaaGreatDoorJAr
namespace Go.Proofs.YtifgajinfcihmaaGreatDoor
open Go.RowKit Go.Maps Mem Dsk
def snames (s : S) : List Name := s.files.map File.name
theorem le_of_lt_name {a b : Name} (h : lt a b = true) : decide (a ≤ b) = true := by
 rw [decide_eq_true_eq, ← List.not_lt, ← lt_iff]
 rw [lt_asymm h]; decide
theorem sorted_unique {l m : List Name} (h : l.Pairwise (fun a b => lt a b = true)) (hp : m.Perm l) : m.mergeSort (fun x y => decide (x ≤ y)) = l := by
 have hle : ∀ a b : Name, decide (a ≤ b) = true ∨ lt b a = true := fun a b => by
  cases k : lt b a
  ·left
   rw [decide_eq_true_eq, ← List.not_lt, ← lt_iff, k]; decide
  ·exact .inr rfl
 have hanti : ∀ a b : Name, decide (a ≤ b) = true → decide (b ≤ a) = true → a = b := fun a b h1 h2 => by
  rw [decide_eq_true_eq, ← List.not_lt, ← lt_iff] at h1 h2
  by_cases e : a = b
  ·exact e
  ·rcases lt_total e with k | k
   ·exact absurd k h2
   ·exact absurd k h1
 refine List.Perm.eq_of_pairwise (le := fun a b => decide (a ≤ b) = true) (fun a b _ _ => hanti a b) ?_ (h.imp le_of_lt_name) ((List.mergeSort_perm _ _).trans hp)
 refine List.pairwise_mergeSort (fun a b c h1 h2 => ?_) (fun a b => ?_) m
 ·rw [decide_eq_true_eq] at *
  exact List.le_trans h1 h2
 ·rcases hle a b with k | k
  ·simp [k]
  ·rw [le_of_lt_name k]; simp
theorem strKeys_entries (rs : List Rec) : strKeys (DataW.map (rs.map entry)) = (rs.map Rec.file).map File.name := by
 show (rs.map entry).map (fun p => strOf p.1) = _
 rw [List.map_map, List.map_map]; rfl
theorem Mem.Own.base {α : Type} {f : α → Value} {w : World} {v : Value} {xs : List α} {base base' : Nat} {e : TypeId} (h : Mem.Own f base e w v xs) (hb : base' ≤ base) : Mem.Own f base' e w v xs := by
 obtain ⟨h1, h2⟩ := h
 refine ⟨h1, ?_⟩
 rcases h2 with h2 | ⟨g, cap, cur, a, b, c⟩
 ·exact .inl h2
 ·exact .inr ⟨g, cap, cur, a, Nat.le_trans hb b, c⟩
def NamesPost (s : S) (w : World) (e : Ending) (w' : World) : Prop :=
 ∃ A c, e = .returned (.slice A (snames s).length c) ∧ Mem.Own encStr w.heap.size 9 w' (.slice A (snames s).length c) (snames s) ∧ Below w.heap.size w w'
set_option maxHeartbeats 400000 in
theorem Names_any {F : Nat → Prop} {w : World} {p : Nat} {s : S} (h : DiskAt F w p s) :
 Calls Tryz.prog 40 #[.pointer (some ⟨p, 0, none⟩)] w (NamesPost s w) := by
 obtain ⟨mb, rs, h⟩ := h
 have hown := h.map
 have c0 : w.cell? ⟨p, 0, none⟩ = some (.map (some mb)) := h.blk.cell 0
 have hct : Maps.size (DataW.map (rs.map entry)) ≤ 256 := by
  have := h.count
  rw [← h.files, List.length_map] at this
  rw [Maps.size_eq, List.length_map]; exact this
 have h1 : Maps.size (DataW.map (rs.map entry)) ≤ maxLen := by unfold maxLen; omega
 have h2 : Maps.size (DataW.map (rs.map entry)) * 16 ≤ 140737488355328 := by omega
 have hk := (callsIn_wide (n := 5)).1 (Tryz.maps_Keys_70 (some mb) w)
 have hs := (callsIn_wide (n := 5)).1 (Tryz.slices_Sorted_keys_69_70 mb rs.length _ ptrR w hown h1 h2)
 have hso : (snames s).Pairwise (fun a b => lt a b = true) := by unfold snames; rw [List.pairwise_map]; exact h.sorted
 have hkeys : strKeys (DataW.map (rs.map entry)) = snames s := by rw [strKeys_entries, h.files]; rfl
 have HK := Lib.hid hk; clear hk
 have HS := Lib.hid hs; clear hs
 have HKEYS := Lib.hid hkeys; clear hkeys
 clear h1 h2 hct h hown
 go_enter Tryz.func40, Tryz.ntmps40
 go_wp2_with fail
 (with_reducible refine HK.out.mono ?_); rintro e w1 ⟨rfl, rfl⟩
 go_wp2_with fail
 (with_reducible refine HS.out.mono ?_); rintro e w2 ⟨v, ss, rfl, hperm, hrow, _, hb⟩
 have hss : ss.mergeSort (fun x y => decide (x ≤ y)) = snames s := sorted_unique hso (by rw [← HKEYS.out]; exact hperm)
 have hl : ss.length = (snames s).length := by rw [← hss, List.length_mergeSort]
 rw [hss, hl] at hrow
 have ho : Mem.Own encStr w.heap.size 9 w2 v (snames s) := Own.base hrow (by simp)
 have HB := Lib.hid hb; clear hb
 have HO := Lib.hid ho; clear ho hrow hss hl
 obtain ⟨A, c, rfl⟩ := HO.out.form
 go_wp2_with fail
 go_ret
 exact ⟨A, c, rfl, HO.out, ((Below.refl _ _).alloc (Nat.le_refl _) _).trans (HB.out.mono (by simp))⟩
end Go.Proofs.YtifgajinfcihmaaGreatDoor
