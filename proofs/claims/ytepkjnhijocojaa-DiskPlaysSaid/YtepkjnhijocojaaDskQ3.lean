/- Plain laws of layer 5: a disk of one file. No program in sight. -/
import Derived.Test.YtepkjnhijocojaaDskQ2
namespace Go.Proofs.Ytepkjnhijocojaa.Dsk
open Go

def sing (nm : Name) (b : List UInt8) : S := ⟨[⟨nm, b, []⟩], false, 0⟩
theorem one_find (nm : Name) (b : List UInt8) : find nm (sing nm b).files = some ⟨nm, b, []⟩ := by unfold find sing; rw [List.find?_cons_of_pos (by simp)]
theorem one_find_no {nm mm : Name} (b : List UInt8) (h : nm ≠ mm) : find mm (sing nm b).files = none := by unfold find sing; rw [List.find?_cons_of_neg (by simpa using h)]; rfl
theorem one_upd (nm : Name) (b : List UInt8) (g : File → File) : upd nm g (sing nm b).files = [g ⟨nm, b, []⟩] := by
  show [if (nm == nm) = true then _ else _] = _
  rw [if_pos (by simp)]
theorem one_write {nm : Name} {b c : List UInt8} {k : Nat} (hn : named nm = true) (h1 : k ≤ b.length) (h2 : k + c.length ≤ 65536) : write (sing nm b) nm k c = (sing nm (over b k c), 0) := by
  unfold write
  rw [step_idle rfl]
  simp only [look_found (s := sing nm b) rfl hn (one_find nm b)]
  rw [if_neg (by omega), if_neg (by omega), one_upd, Int.toNat_natCast]; rfl
theorem one_write_bad {nm : Name} {b c : List UInt8} {k : Nat} (hn : named nm = true) (h1 : b.length < k) : write (sing nm b) nm k c = (sing nm b, 1) := by
  unfold write
  rw [step_idle rfl]
  simp only [look_found (s := sing nm b) rfl hn (one_find nm b)]
  rw [if_pos (by omega)]
theorem one_cut {nm : Name} {b : List UInt8} {k : Nat} (hn : named nm = true) (h1 : k ≤ b.length) : cut (sing nm b) nm k = (sing nm (b.take k), 0) := by
  unfold cut
  rw [step_idle rfl]
  simp only [look_found (s := sing nm b) rfl hn (one_find nm b)]
  rw [if_neg (by omega), one_upd, Int.toNat_natCast]; simp [sing]
theorem one_rename {nm mm : Name} {b : List UInt8} (hn : named nm = true) (hm : named mm = true) : rename (sing nm b) nm mm = (sing mm b, 0) := by
  have hl : look (sing nm b) [nm, mm] = (some ⟨nm, b, []⟩, 0) := by
    unfold look; rw [if_neg (by simp [sing]), if_neg (by simp [hn, hm])]
    show (match find nm (sing nm b).files with | some f => (some f, 0) | none => (none, 4)) = _
    rw [one_find]
  unfold rename
  rw [step_idle rfl]
  simp only [hl]
  have : del nm (sing nm b).files = [] := by unfold del sing; rw [List.filter_cons_of_neg (by simp)]; rfl
  rw [this]; rfl
theorem one_read {nm : Name} (b : List UInt8) (hn : named nm = true) : read (sing nm b) nm = (b, 0) := by
  unfold read; rw [look_found rfl hn (one_find nm b)]
theorem one_read_no {nm mm : Name} (b : List UInt8) (hn : named mm = true) (h : nm ≠ mm) : read (sing nm b) mm = ([], 4) := by
  unfold read; rw [look_none rfl hn (one_find_no b h)]
theorem over_length {a c : List UInt8} {k : Nat} (h : k ≤ a.length) : (over a k c).length = max a.length (k + c.length) := by unfold over; simp; omega
theorem over_nil {a : List UInt8} {k : Nat} : over a k [] = a := by unfold over; simp
theorem over_get {a c : List UInt8} {k : Nat} (h : k ≤ a.length) (i : Nat) : (over a k c)[i]? = if i < k then a[i]? else if i - k < c.length then c[i - k]? else a[i]? := by
  unfold over
  have e : (a.take k).length = k := by simp; omega
  rw [List.append_assoc]
  by_cases h1 : i < k
  · rw [if_pos h1, List.getElem?_append_left (by omega), List.getElem?_take, if_pos h1]
  · rw [if_neg h1, List.getElem?_append_right (by omega), e]
    by_cases h2 : i - k < c.length
    · rw [if_pos h2, List.getElem?_append_left h2]
    · rw [if_neg h2, List.getElem?_append_right (by omega), List.getElem?_drop]
      congr 1; omega
theorem over_take_get {a b : List UInt8} {k i : Nat} (h : k ≤ a.length) (hi : i ≤ b.length) (j : Nat) : (over a k (b.take i))[j]? = if j < k then a[j]? else if j - k < i then b[j - k]? else a[j]? := by
  rw [over_get h, List.length_take, Nat.min_eq_left hi, List.getElem?_take]
  by_cases h1 : j < k
  · rw [if_pos h1, if_pos h1]
  · rw [if_neg h1, if_neg h1]
    by_cases h2 : j - k < i
    · simp only [if_pos h2]
    · simp only [if_neg h2]
theorem over_take_len {a b : List UInt8} {k i : Nat} (h : k ≤ a.length) (hi : i ≤ b.length) : (over a k (b.take i)).length = max a.length (k + i) := by rw [over_length h]; simp; omega
theorem over_set {a b : List UInt8} {k i : Nat} (h : k ≤ a.length) (hi : i < b.length) (hl : k + i < (over a k (b.take i)).length) : (over a k (b.take i)).set (k + i) b[i] = over a k (b.take (i + 1)) := by
  apply List.ext_getElem?
  intro j
  rw [List.getElem?_set, over_take_get h (by omega), over_take_get h (by omega), if_pos hl]
  by_cases e : k + i = j
  · subst e
    rw [if_pos rfl, if_neg (by omega), if_pos (by omega), show k + i - k = i by omega, List.getElem?_eq_getElem hi]
  · rw [if_neg e]
    by_cases h1 : j < k
    · rw [if_pos h1, if_pos h1]
    · rw [if_neg h1, if_neg h1]
      by_cases h2 : j - k < i
      · rw [if_pos h2, if_pos (by omega)]
      · rw [if_neg h2, if_neg (by omega)]
theorem over_app {a b : List UInt8} {k i : Nat} (h : k ≤ a.length) (hi : i < b.length) (hl : ¬ k + i < (over a k (b.take i)).length) : over a k (b.take i) ++ [b[i]] = over a k (b.take (i + 1)) := by
  have e1 := over_take_len (b := b) h (Nat.le_of_lt hi)
  apply List.ext_getElem?
  intro j
  rw [over_take_get h (by omega), List.getElem?_append, over_take_get h (by omega), e1]
  by_cases c0 : j < max a.length (k + i)
  · rw [if_pos c0]
    by_cases h1 : j < k
    · rw [if_pos h1, if_pos h1]
    · rw [if_neg h1, if_neg h1]
      by_cases h2 : j - k < i
      · rw [if_pos h2, if_pos (by omega)]
      · rw [if_neg h2, if_neg (by omega)]
  · rw [if_neg c0, if_neg (by omega)]
    by_cases e : j = k + i
    · subst e
      rw [if_pos (by omega), show k + i - k = i by omega, List.getElem?_eq_getElem hi, show k + i - max a.length (k + i) = 0 by omega]; rfl
    · rw [if_neg (by omega), List.getElem?_eq_none (l := a) (by omega), List.getElem?_eq_none (by simp; omega)]
end Go.Proofs.Ytepkjnhijocojaa.Dsk
