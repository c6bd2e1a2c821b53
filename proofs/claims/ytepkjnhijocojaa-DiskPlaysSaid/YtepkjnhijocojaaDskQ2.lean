/- Plain laws of layer 5: sectors, and writes over others. No program in sight. -/
import Derived.Test.YtepkjnhijocojaaDskQ
namespace Go.Proofs.Ytepkjnhijocojaa.Dsk
open Go

def secByte (i : Nat) : UInt8 := UInt8.ofNat (1 + i / 32)
def secBytes (n : Nat) : List UInt8 := (List.range (32 * n)).map secByte
theorem secBytes_len (n : Nat) : (secBytes n).length = 32 * n := by unfold secBytes; simp
def secPre (n k : Nat) : List UInt8 := (List.range k).map secByte ++ List.replicate (32 * n - k) 0
theorem secPre_step {n k : Nat} (h : k < 32 * n) : (secPre n k).set k (secByte k) = secPre n (k + 1) := by
  unfold secPre
  apply List.ext_getElem
  · simp; omega
  · intro i h1 h2
    simp at h1
    rw [List.getElem_set]
    by_cases e : k = i
    · subst e; rw [if_pos rfl, List.getElem_append_left (by simp)]; simp
    · rw [if_neg e]
      by_cases e2 : i < k
      · rw [List.getElem_append_left (by simp; omega), List.getElem_append_left (by simp; omega)]; simp
      · rw [List.getElem_append_right (by simp; omega), List.getElem_append_right (by simp; omega)]; simp
theorem secPre_all (n : Nat) : secPre n (32 * n) = secBytes n := by unfold secPre secBytes; simp
theorem secPre_len {n k : Nat} (h : k ≤ 32 * n) : (secPre n k).length = 32 * n := by unfold secPre; simp; omega
def sec0 : S := ⟨[⟨[97], [], []⟩], false, 0⟩
def sec1 (n : Nat) : S := ⟨[⟨[97], secBytes n, []⟩], false, 0⟩
theorem sec_write {n : Nat} (h : n ≤ 16) : write sec0 [97] 0 (secBytes n) = (sec1 n, 0) := by
  have hl : look sec0 [[97]] = (some ⟨[97], [], []⟩, 0) := look_found rfl (by decide) rfl
  unfold write
  rw [step_idle rfl]
  simp only [hl]
  rw [if_neg (by simp), if_neg (by rw [secBytes_len]; omega)]
  show (S.mk [⟨[97], over [] 0 (secBytes n), []⟩] _ _, _) = _
  rw [over_zero]; simp [sec1, sec0]
def secFile (n : Nat) : File := ⟨[97], secBytes n, []⟩
theorem sec_loose (n : Nat) : loose (secFile n) = List.range n := by
  unfold loose secFile
  simp only [secBytes_len]
  rw [show (32 * n + 31) / 32 = n by omega, List.filter_eq_self]
  intro i hi
  have hi := List.mem_range.1 hi
  have h1 : sector ([] : List UInt8) i = [] := by unfold sector; simp
  have h2 : sector (secBytes n) i ≠ [] := by
    unfold sector
    intro e
    have := congrArg List.length e
    rw [List.length_take, List.length_drop, secBytes_len] at this
    simp at this; omega
  rw [h1]
  simpa using h2
theorem sec_looseN (n : Nat) : looseN (sec1 n) = n := by
  show ([(loose (secFile n)).length]).sum = _
  rw [sec_loose]; simp
def lastOf (keep : List Bool) : Nat → Nat
  | 0 => 0
  | j + 1 => if keep.getD j false then j + 1 else lastOf keep j
theorem lastOf_succ (keep : List Bool) (j : Nat) : lastOf keep (j + 1) = if keep.getD j false then j + 1 else lastOf keep j := rfl
theorem lastOf_le (keep : List Bool) (j : Nat) : lastOf keep j ≤ j := by
  induction j with
  | zero => exact Nat.le_refl _
  | succ j ih => unfold lastOf; split <;> omega
theorem lastOf_keep (keep : List Bool) (j : Nat) : lastOf keep j ≤ keep.length := by
  induction j with
  | zero => exact Nat.zero_le _
  | succ j ih =>
    unfold lastOf; split
    · rename_i h
      rcases Nat.lt_or_ge j keep.length with h1 | h1
      · omega
      · rw [List.getD_eq_getElem?_getD, List.getElem?_eq_none h1] at h; cases h
    · exact ih
def keptByte (keep : List Bool) (i : Nat) : UInt8 := if keep.getD (i / 32) false then secByte i else 0
def secKept (keep : List Bool) (m : Nat) : List UInt8 := (List.range (32 * m)).map (keptByte keep)
theorem secKept_len (keep : List Bool) (m : Nat) : (secKept keep m).length = 32 * m := by unfold secKept; simp
theorem lastOf_between {keep : List Bool} {j i : Nat} (h1 : lastOf keep j ≤ i) (h2 : i < j) : keep.getD i false = false := by
  induction j with
  | zero => omega
  | succ j ih =>
    unfold lastOf at h1
    split at h1
    · omega
    · rename_i h
      by_cases e : i = j
      · subst e; simpa using h
      · exact ih h1 (by omega)
theorem sec_keptTo (keep : List Bool) {n j : Nat} (h : j ≤ n) : (keptTo (secFile n) keep 0 j).1 = secKept keep (lastOf keep j) := by
  induction j with
  | zero => rw [keptTo_zero]; rfl
  | succ j ih =>
    have hl : (loose (secFile n)).length = n := by rw [sec_loose]; simp
    rw [keptTo_succ (by rw [hl]; omega)]
    have hj : (loose (secFile n))[j]'(by rw [hl]; omega) = j := by simp [sec_loose]
    unfold keptStep
    rw [keptTo_snd (by rw [hl]; omega), ih (by omega), hj, Nat.zero_add]
    rw [lastOf_succ]
    by_cases hk : keep.getD j false = true
    · rw [if_pos hk, if_pos hk]
      have hle := lastOf_le keep j
      rw [secKept_len]
      have hsl : (sector (secBytes n) j).length = 32 := by unfold sector; rw [List.length_take, List.length_drop, secBytes_len]; omega
      unfold over
      rw [List.take_of_length_le (by simp [secKept_len]; omega), List.drop_of_length_le (by simp [secKept_len]; omega), List.append_nil]
      apply List.ext_getElem
      · show (secKept keep (lastOf keep j) ++ List.replicate (j * 32 - 32 * lastOf keep j) 0 ++ sector (secBytes n) j).length = _
        rw [List.length_append, List.length_append, secKept_len, List.length_replicate, hsl, secKept_len]; omega
      · intro i h1 h2
        rw [secKept_len] at h2
        have e2 : (secKept keep (j + 1))[i]'(by rw [secKept_len]; exact h2) = keptByte keep i := by unfold secKept; simp
        rw [e2]
        by_cases c1 : i < j * 32
        · rw [List.getElem_append_left (by simp [secKept_len]; omega)]
          by_cases c2 : i < 32 * lastOf keep j
          · rw [List.getElem_append_left (by rw [secKept_len]; exact c2)]
            unfold secKept; simp
          · rw [List.getElem_append_right (by rw [secKept_len]; omega)]
            unfold keptByte
            rw [lastOf_between (j := j) (by omega) (by omega)]
            simp
        · rw [List.getElem_append_right (by simp [secKept_len]; omega)]
          unfold keptByte
          rw [show i / 32 = j by omega, hk, if_pos rfl]
          unfold sector secFile secBytes
          simp only [List.getElem_take, List.getElem_drop, List.getElem_map, List.getElem_range, List.length_append, List.length_replicate]
          congr 1
          have : (secKept keep (lastOf keep j)).length = 32 * lastOf keep j := secKept_len _ _
          omega
    · rw [if_neg hk, if_neg hk]
def sec2 (keep : List Bool) (n : Nat) : S := ⟨[⟨[97], secKept keep (lastOf keep n), secKept keep (lastOf keep n)⟩], false, 0⟩
theorem sec_crash (keep : List Bool) (n : Nat) : crash (sec1 n) keep = sec2 keep n := by
  have h1 : (keptBytes (secFile n) keep 0).1 = secKept keep (lastOf keep n) := by
    rw [← keptTo_all]
    have hl : (loose (secFile n)).length = n := by rw [sec_loose]; simp
    rw [hl]; exact sec_keptTo keep (Nat.le_refl _)
  show S.mk [⟨[97], (keptBytes (secFile n) keep 0).1, (keptBytes (secFile n) keep 0).1⟩] _ _ = _
  rw [h1]; rfl
theorem sec_read (keep : List Bool) (n : Nat) : read (sec2 keep n) [97] = (secKept keep (lastOf keep n), 0) := by
  unfold read; rw [look_found (s := sec2 keep n) rfl (by decide) rfl]
theorem loose_same (nm : Name) (b : List UInt8) : loose ⟨nm, b, b⟩ = [] := by
  unfold loose; rw [List.filter_eq_nil_iff]; intro i _; simp
theorem sec_loose2 (keep : List Bool) (n : Nat) : looseN (sec2 keep n) = 0 := by
  show ([(loose ⟨[97], _, _⟩).length]).sum = _
  rw [loose_same]; rfl
theorem keptByte_yes {keep : List Bool} {i : Nat} (h : keep.getD (i / 32) false = true) : keptByte keep i = secByte i := by unfold keptByte; rw [if_pos h]
theorem keptByte_no {keep : List Bool} {i : Nat} (h : keep.getD (i / 32) false = false) : keptByte keep i = 0 := by unfold keptByte; rw [h]; rfl
theorem secByte_nat {i : Nat} (h : i < 32 * 16) : (secByte i).toNat = 1 + i / 32 := by unfold secByte; rw [UInt8.toNat_ofNat']; omega
end Go.Proofs.Ytepkjnhijocojaa.Dsk
