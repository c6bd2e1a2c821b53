/- Plain laws of layer 5: a loss of power, file by file. No program in sight. -/
import Derived.Test.YtfpomllhkbbipaaGreatDoorDsk
import Derived.KernelRfl
namespace Go.Proofs.YtfpomllhkbbipaaGreatDoor.Dsk
open Go

def keptStep (f : File) (keep : List Bool) (st : List UInt8 × Nat) (i : Nat) : List UInt8 × Nat :=
  (if keep.getD st.2 false then over (st.1 ++ List.replicate (i * 32 - st.1.length) 0) (i * 32) (sector f.now i) else st.1, st.2 + 1)
def keptTo (f : File) (keep : List Bool) (n j : Nat) : List UInt8 × Nat := ((loose f).take j).foldl (keptStep f keep) (f.safe, n)
theorem keptTo_zero (f : File) (keep : List Bool) (n : Nat) : keptTo f keep n 0 = (f.safe, n) := by unfold keptTo; simp
theorem keptTo_all (f : File) (keep : List Bool) (n : Nat) : keptTo f keep n (loose f).length = keptBytes f keep n := by unfold keptTo; rw [List.take_length]; rfl
theorem keptTo_succ {f : File} {keep : List Bool} {n j : Nat} (h : j < (loose f).length) : keptTo f keep n (j + 1) = keptStep f keep (keptTo f keep n j) (loose f)[j] := by
  unfold keptTo; rw [List.take_succ_eq_append_getElem h, List.foldl_append]; rfl
theorem keptTo_snd {f : File} {keep : List Bool} {n j : Nat} (h : j ≤ (loose f).length) : (keptTo f keep n j).2 = n + j := by
  induction j with
  | zero => rw [keptTo_zero]; rfl
  | succ j ih => rw [keptTo_succ (by omega)]; show (keptTo f keep n j).2 + 1 = _; rw [ih (by omega)]; omega
theorem loose_lt {f : File} {i : Nat} (h : i ∈ loose f) : i * 32 < f.now.length := by
  unfold loose at h
  have := List.mem_range.1 (List.mem_filter.1 h).1
  omega
theorem sector_len_le (l : List UInt8) (i : Nat) (h : i * 32 < l.length) : i * 32 + (sector l i).length ≤ l.length := by unfold sector; simp; omega
theorem over_len_any (b c : List UInt8) (i : Nat) : (over (b ++ List.replicate (i - b.length) 0) i c).length = max b.length (i + c.length) := by unfold over; simp; omega
theorem keptTo_len {f : File} {keep : List Bool} {n j : Nat} (h : j ≤ (loose f).length) : (keptTo f keep n j).1.length ≤ max f.safe.length f.now.length := by
  induction j with
  | zero => rw [keptTo_zero]; show f.safe.length ≤ _; omega
  | succ j ih =>
    rw [keptTo_succ (by omega)]
    unfold keptStep
    have h1 := ih (by omega)
    have h2 := sector_len_le f.now _ (loose_lt (List.getElem_mem (show j < (loose f).length by omega)))
    simp only
    split
    · rw [over_len_any]; omega
    · exact h1
/-- a loose sector that is kept: the code's way -/
theorem kept_grown {out c : List UInt8} {i k : Nat} (h : i + c.length = out.length + k) :
    (out ++ List.replicate k 0).take i ++ c ++ (out ++ List.replicate k 0).drop (i + c.length) = over (out ++ List.replicate (i - out.length) 0) i c := by
  unfold over
  rw [List.drop_of_length_le (l := out ++ List.replicate k 0) (by simp; omega), List.drop_of_length_le (by simp; omega)]
  congr 2
  rcases Nat.le_total i out.length with h1 | h1
  · rw [List.take_append_of_le_length h1, List.take_append_of_le_length h1]
  · rw [List.take_append, List.take_of_length_le h1, List.take_replicate, List.take_of_length_le (by simp; omega)]
    congr 2; omega
theorem kept_room {out c : List UInt8} {i : Nat} (h : i + c.length ≤ out.length) :
    out.take i ++ c ++ out.drop (i + c.length) = over (out ++ List.replicate (i - out.length) 0) i c := by
  unfold over; rw [show i - out.length = 0 by omega]; simp
def crashed (f : File) (b : List UInt8) : File := ⟨f.name, b, b⟩
def crashGo (keep : List Bool) : List File → Nat → List File × Nat
  | [], n => ([], n)
  | f :: r, n => (crashed f (keptBytes f keep n).1 :: (crashGo keep r (keptBytes f keep n).2).1, (crashGo keep r (keptBytes f keep n).2).2)
theorem crashGo_files (keep : List Bool) (fs : List File) (n : Nat) : (crashGo keep fs n).1 = crashFiles keep fs n := by
  induction fs generalizing n with
  | nil => rfl
  | cons f r ih => unfold crashGo crashFiles; rw [ih]; rfl
theorem crashGo_snoc (keep : List Bool) (fs : List File) (f : File) (n : Nat) :
    crashGo keep (fs ++ [f]) n = ((crashGo keep fs n).1 ++ [crashed f (keptBytes f keep (crashGo keep fs n).2).1], (keptBytes f keep (crashGo keep fs n).2).2) := by
  induction fs generalizing n with
  | nil => rfl
  | cons g r ih => rw [List.cons_append]; unfold crashGo; rw [ih]; rfl
theorem crashGo_names (keep : List Bool) (fs : List File) (n : Nat) : (crashGo keep fs n).1.map File.name = fs.map File.name := by
  induction fs generalizing n with
  | nil => rfl
  | cons f r ih => unfold crashGo; rw [List.map_cons, ih]; rfl
theorem crashGo_len (keep : List Bool) (fs : List File) (n : Nat) : (crashGo keep fs n).1.length = fs.length := by
  have := congrArg List.length (crashGo_names keep fs n); simpa using this
/-- the files while the k-th is about to be turned -/
def crashAt (keep : List Bool) (fs : List File) (k : Nat) : List File := (crashGo keep (fs.take k) 0).1 ++ fs.drop k
def crashN (keep : List Bool) (fs : List File) (k : Nat) : Nat := (crashGo keep (fs.take k) 0).2
theorem crashAt_zero (keep : List Bool) (fs : List File) : crashAt keep fs 0 = fs := rfl
theorem crashAt_all (keep : List Bool) (fs : List File) : crashAt keep fs fs.length = crashFiles keep fs 0 := by
  unfold crashAt; rw [List.take_length, List.drop_length, List.append_nil, crashGo_files]
theorem crashN_succ {keep : List Bool} {fs : List File} {k : Nat} (h : k < fs.length) : crashN keep fs (k + 1) = (keptBytes fs[k] keep (crashN keep fs k)).2 := by
  unfold crashN; rw [List.take_succ_eq_append_getElem h, crashGo_snoc]
theorem keptBytes_snd (f : File) (keep : List Bool) (n : Nat) : (keptBytes f keep n).2 = n + (loose f).length := by rw [← keptTo_all, keptTo_snd (Nat.le_refl _)]
theorem keptBytes_len (f : File) (keep : List Bool) (n : Nat) : (keptBytes f keep n).1.length ≤ max f.safe.length f.now.length := by rw [← keptTo_all]; exact keptTo_len (Nat.le_refl _)
theorem upd_append (n : Name) (g : File → File) (a b : List File) : upd n g (a ++ b) = upd n g a ++ upd n g b := by unfold upd; rw [List.map_append]
theorem crashAt_names (keep : List Bool) (fs : List File) (k : Nat) : (crashAt keep fs k).map File.name = fs.map File.name := by
  unfold crashAt; rw [List.map_append, crashGo_names, ← List.map_append, List.take_append_drop]
theorem sorted_names {fs : List File} : Sorted fs ↔ (fs.map File.name).Pairwise (fun a b => lt a b = true) := by unfold Sorted; rw [List.pairwise_map]
theorem crashAt_sorted {keep : List Bool} {fs : List File} (h : Sorted fs) (k : Nat) : Sorted (crashAt keep fs k) := by rw [sorted_names, crashAt_names, ← sorted_names]; exact h
/-- the k-th file's turn -/
theorem crashAt_succ {keep : List Bool} {fs : List File} {k : Nat} (hs : Sorted fs) (h : k < fs.length) :
    upd fs[k].name (fun f => crashed f (keptBytes fs[k] keep (crashN keep fs k)).1) (crashAt keep fs k) = crashAt keep fs (k + 1) := by
  have hd : fs.drop k = fs[k] :: fs.drop (k + 1) := List.drop_eq_getElem_cons h
  have hso := hs
  unfold Sorted at hso
  rw [List.pairwise_iff_getElem] at hso
  unfold crashAt
  rw [upd_append, upd_of_none (fs := (crashGo keep (fs.take k) 0).1), hd]
  · have e1 : upd fs[k].name (fun f => crashed f (keptBytes fs[k] keep (crashN keep fs k)).1) (fs[k] :: fs.drop (k + 1)) = crashed fs[k] (keptBytes fs[k] keep (crashN keep fs k)).1 :: fs.drop (k + 1) := by
      show (if (fs[k].name == fs[k].name) = true then _ else _) :: upd fs[k].name _ (fs.drop (k + 1)) = _
      rw [if_pos (by simp), upd_of_none]
      intro f hf e
      obtain ⟨j, hj, rfl⟩ := List.getElem_of_mem hf
      rw [List.getElem_drop] at e
      exact lt_ne (hso k (k + 1 + j) h (by simp at hj; omega) (by omega)) e.symm
    rw [e1, List.take_succ_eq_append_getElem h, crashGo_snoc]
    show _ = (_ ++ [_]) ++ _
    rw [List.append_assoc]; rfl
  · intro f hf e
    have hm : f.name ∈ (fs.take k).map File.name := by rw [← crashGo_names keep (fs.take k) 0]; exact List.mem_map_of_mem hf
    obtain ⟨g, hg, e2⟩ := List.mem_map.1 hm
    obtain ⟨j, hj, rfl⟩ := List.getElem_of_mem hg
    rw [List.getElem_take] at e2
    simp at hj
    exact lt_ne (hso j k (by omega) h (by omega)) (by rw [e2, e])
theorem crashAt_find {keep : List Bool} {fs : List File} {k : Nat} (hs : Sorted fs) (h : k < fs.length) : find fs[k].name (crashAt keep fs k) = some fs[k] := by
  have hso := hs
  unfold Sorted at hso
  rw [List.pairwise_iff_getElem] at hso
  unfold find crashAt
  rw [List.find?_append, List.find?_eq_none.2, List.drop_eq_getElem_cons h, List.find?_cons_of_pos (by simp)]
  · rfl
  · intro f hf e
    have e : f.name = fs[k].name := by simpa using e
    have hm : f.name ∈ (fs.take k).map File.name := by rw [← crashGo_names keep (fs.take k) 0]; exact List.mem_map_of_mem hf
    obtain ⟨g, hg, e2⟩ := List.mem_map.1 hm
    obtain ⟨j, hj, rfl⟩ := List.getElem_of_mem hg
    rw [List.getElem_take] at e2
    simp at hj
    exact lt_ne (hso j k (by omega) h (by omega)) (by rw [e2, e])
theorem crash_eq (s : S) (keep : List Bool) : crash s keep = ⟨crashAt keep s.files s.files.length, false, 0⟩ := by rw [crashAt_all]; rfl
end Go.Proofs.YtfpomllhkbbipaaGreatDoor.Dsk
namespace Go.Proofs.YtfpomllhkbbipaaGreatDoor.Dsk
open Go

theorem look_found {s : S} {n : Name} {f : File} (hd : s.down = false) (hn : named n = true) (hf : find n s.files = some f) : look s [n] = (some f, 0) := by
  unfold look; rw [hd]; simp [hn, hf]
theorem look_down {s : S} {ns : List Name} (hd : s.down = true) : look s ns = (none, 50) := by unfold look; rw [hd]; rfl
theorem look_none {s : S} {n : Name} (hd : s.down = false) (hn : named n = true) (hf : find n s.files = none) : look s [n] = (none, 4) := by
  unfold look; rw [hd]; simp [hn, hf]
theorem step_idle {s : S} (h : s.fuse = 0) : step s = s := by unfold step; rw [if_neg (by omega)]
theorem keptBytes_nil (f : File) (n : Nat) : (keptBytes f [] n).1 = f.safe := by
  rw [← keptTo_all]
  have : ∀ j, j ≤ (loose f).length → (keptTo f [] n j).1 = f.safe := by
    intro j
    induction j with
    | zero => intro _; rw [keptTo_zero]
    | succ j ih =>
      intro h
      rw [keptTo_succ (by omega)]
      unfold keptStep
      rw [if_neg (by simp)]
      exact ih (by omega)
  exact this _ (Nat.le_refl _)
theorem over_zero (b c : List UInt8) : over b 0 c = c ++ b.drop c.length := by unfold over; simp
/-- DiskPower: k - 1 writes are done -/
def pS (bs : List UInt8) (n k : Nat) : S := ⟨[⟨[97], if k = 1 then [] else bs, []⟩], false, n + 1 - k⟩
theorem pS_now (bs : List UInt8) (k : Nat) : over (if k = 1 then [] else bs) 0 bs = bs := by
  rw [over_zero]; split <;> simp
theorem pS_write {bs : List UInt8} {n k : Nat} (h1 : 1 ≤ k) (h2 : k < n) (hb : bs.length ≤ 500) : write (pS bs n k) [97] 0 bs = (pS bs n (k + 1), 0) := by
  have hs : step (pS bs n k) = ⟨[⟨[97], if k = 1 then [] else bs, []⟩], false, n - k⟩ := by
    unfold step pS
    rw [if_pos ⟨by show 0 < n + 1 - k; omega, rfl⟩]
    show S.mk _ (decide (n + 1 - k - 1 = 0)) (n + 1 - k - 1) = _
    rw [show n + 1 - k - 1 = n - k by omega, decide_eq_false (by omega)]
  have hl : look ⟨[⟨[97], if k = 1 then [] else bs, []⟩], false, n - k⟩ [[97]] = (some ⟨[97], if k = 1 then [] else bs, []⟩, 0) := look_found rfl (by decide) rfl
  unfold write
  rw [hs]
  simp only [hl]
  rw [if_neg (by simp), if_neg (by omega)]
  show (S.mk [⟨[97], over (if k = 1 then [] else bs) 0 bs, []⟩] _ _, _) = _
  rw [pS_now]
  unfold pS
  rw [if_neg (by omega), show n + 1 - (k + 1) = n - k by omega]
/-- .. and the power has gone -/
def pD (bs : List UInt8) (n : Nat) : S := ⟨[⟨[97], if n = 1 then [] else bs, []⟩], true, 0⟩
theorem pS_last {bs : List UInt8} {n : Nat} (h : 1 ≤ n) : step (pS bs n n) = pD bs n := by
  unfold step pS pD
  rw [if_pos ⟨by show 0 < n + 1 - n; omega, rfl⟩]
  show S.mk _ (decide (n + 1 - n - 1 = 0)) (n + 1 - n - 1) = _
  rw [show n + 1 - n - 1 = 0 by omega]; rfl
theorem pS_sync {bs : List UInt8} {n : Nat} (h : 1 ≤ n) : sync (pS bs n n) [97] = (pD bs n, 50) := by
  unfold sync; rw [pS_last h]; simp only [look_down (show (pD bs n).down = true from rfl)]
theorem pD_create (bs : List UInt8) (n : Nat) (m : Name) : create (pD bs n) m = (pD bs n, 50) := by
  unfold create; rw [step_idle rfl]; simp only [look_down (show (pD bs n).down = true from rfl)]; rfl
theorem pD_read (bs : List UInt8) (n : Nat) (m : Name) : read (pD bs n) m = ([], 50) := by
  unfold read; simp only [look_down (show (pD bs n).down = true from rfl)]
theorem pD_loose (bs : List UInt8) (n : Nat) : looseN (pD bs n) = looseN (pS bs n n) := rfl
def pE : S := ⟨[⟨[97], [], []⟩], false, 0⟩
theorem pD_crash (bs : List UInt8) (n : Nat) : crash (pD bs n) [] = pE := by
  unfold crash pE
  show S.mk [⟨[97], (keptBytes _ [] 0).1, (keptBytes _ [] 0).1⟩] _ _ = _
  rw [keptBytes_nil]
theorem pE_read : read pE [97] = ([], 0) := rfl
def pF : S := ⟨[⟨[97], [], []⟩, ⟨[98], [], []⟩], false, 0⟩
theorem pE_create : create pE [98] = (pF, 0) := by kernel_rfl
end Go.Proofs.YtfpomllhkbbipaaGreatDoor.Dsk
namespace Go.Proofs.YtfpomllhkbbipaaGreatDoor.Dsk
open Go

def secByte (i : Nat) : UInt8 := UInt8.ofNat (1 + i / 32)
def secBytes (n : Nat) : List UInt8 := (List.range (32 * n)).map secByte
theorem secBytes_len (n : Nat) : (secBytes n).length = 32 * n := by unfold secBytes; simp
def secPre (n k : Nat) : List UInt8 := (List.range k).map secByte ++ List.replicate (32 * n - k) 0
theorem secPre_step {n k : Nat} (h : k < 32 * n) : (secPre n k).set k (secByte k) = secPre n (k + 1) := by
  unfold secPre
  apply List.ext_getElem
  · simp; omega
  · intro i h1 h2
    simp at h1
    rw [List.getElem_set]
    by_cases e : k = i
    · subst e; rw [if_pos rfl, List.getElem_append_left (by simp)]; simp
    · rw [if_neg e]
      by_cases e2 : i < k
      · rw [List.getElem_append_left (by simp; omega), List.getElem_append_left (by simp; omega)]; simp
      · rw [List.getElem_append_right (by simp; omega), List.getElem_append_right (by simp; omega)]; simp
theorem secPre_all (n : Nat) : secPre n (32 * n) = secBytes n := by unfold secPre secBytes; simp
theorem secPre_len {n k : Nat} (h : k ≤ 32 * n) : (secPre n k).length = 32 * n := by unfold secPre; simp; omega
def sec0 : S := ⟨[⟨[97], [], []⟩], false, 0⟩
def sec1 (n : Nat) : S := ⟨[⟨[97], secBytes n, []⟩], false, 0⟩
theorem sec_write {n : Nat} (h : n ≤ 16) : write sec0 [97] 0 (secBytes n) = (sec1 n, 0) := by
  have hl : look sec0 [[97]] = (some ⟨[97], [], []⟩, 0) := look_found rfl (by decide) rfl
  unfold write
  rw [step_idle rfl]
  simp only [hl]
  rw [if_neg (by simp), if_neg (by rw [secBytes_len]; omega)]
  show (S.mk [⟨[97], over [] 0 (secBytes n), []⟩] _ _, _) = _
  rw [over_zero]; simp [sec1, sec0]
def secFile (n : Nat) : File := ⟨[97], secBytes n, []⟩
theorem sec_loose (n : Nat) : loose (secFile n) = List.range n := by
  unfold loose secFile
  simp only [secBytes_len]
  rw [show (32 * n + 31) / 32 = n by omega, List.filter_eq_self]
  intro i hi
  have hi := List.mem_range.1 hi
  have h1 : sector ([] : List UInt8) i = [] := by unfold sector; simp
  have h2 : sector (secBytes n) i ≠ [] := by
    unfold sector
    intro e
    have := congrArg List.length e
    rw [List.length_take, List.length_drop, secBytes_len] at this
    simp at this; omega
  rw [h1]
  simpa using h2
theorem sec_looseN (n : Nat) : looseN (sec1 n) = n := by
  show ([(loose (secFile n)).length]).sum = _
  rw [sec_loose]; simp
def lastOf (keep : List Bool) : Nat → Nat
  | 0 => 0
  | j + 1 => if keep.getD j false then j + 1 else lastOf keep j
theorem lastOf_succ (keep : List Bool) (j : Nat) : lastOf keep (j + 1) = if keep.getD j false then j + 1 else lastOf keep j := rfl
theorem lastOf_le (keep : List Bool) (j : Nat) : lastOf keep j ≤ j := by
  induction j with
  | zero => exact Nat.le_refl _
  | succ j ih => unfold lastOf; split <;> omega
theorem lastOf_keep (keep : List Bool) (j : Nat) : lastOf keep j ≤ keep.length := by
  induction j with
  | zero => exact Nat.zero_le _
  | succ j ih =>
    unfold lastOf; split
    · rename_i h
      rcases Nat.lt_or_ge j keep.length with h1 | h1
      · omega
      · rw [List.getD_eq_getElem?_getD, List.getElem?_eq_none h1] at h; cases h
    · exact ih
def keptByte (keep : List Bool) (i : Nat) : UInt8 := if keep.getD (i / 32) false then secByte i else 0
def secKept (keep : List Bool) (m : Nat) : List UInt8 := (List.range (32 * m)).map (keptByte keep)
theorem secKept_len (keep : List Bool) (m : Nat) : (secKept keep m).length = 32 * m := by unfold secKept; simp
theorem lastOf_between {keep : List Bool} {j i : Nat} (h1 : lastOf keep j ≤ i) (h2 : i < j) : keep.getD i false = false := by
  induction j with
  | zero => omega
  | succ j ih =>
    unfold lastOf at h1
    split at h1
    · omega
    · rename_i h
      by_cases e : i = j
      · subst e; simpa using h
      · exact ih h1 (by omega)
theorem sec_keptTo (keep : List Bool) {n j : Nat} (h : j ≤ n) : (keptTo (secFile n) keep 0 j).1 = secKept keep (lastOf keep j) := by
  induction j with
  | zero => rw [keptTo_zero]; rfl
  | succ j ih =>
    have hl : (loose (secFile n)).length = n := by rw [sec_loose]; simp
    rw [keptTo_succ (by rw [hl]; omega)]
    have hj : (loose (secFile n))[j]'(by rw [hl]; omega) = j := by simp [sec_loose]
    unfold keptStep
    rw [keptTo_snd (by rw [hl]; omega), ih (by omega), hj, Nat.zero_add]
    rw [lastOf_succ]
    by_cases hk : keep.getD j false = true
    · rw [if_pos hk, if_pos hk]
      have hle := lastOf_le keep j
      rw [secKept_len]
      have hsl : (sector (secBytes n) j).length = 32 := by unfold sector; rw [List.length_take, List.length_drop, secBytes_len]; omega
      unfold over
      rw [List.take_of_length_le (by simp [secKept_len]; omega), List.drop_of_length_le (by simp [secKept_len]; omega), List.append_nil]
      apply List.ext_getElem
      · show (secKept keep (lastOf keep j) ++ List.replicate (j * 32 - 32 * lastOf keep j) 0 ++ sector (secBytes n) j).length = _
        rw [List.length_append, List.length_append, secKept_len, List.length_replicate, hsl, secKept_len]; omega
      · intro i h1 h2
        rw [secKept_len] at h2
        have e2 : (secKept keep (j + 1))[i]'(by rw [secKept_len]; exact h2) = keptByte keep i := by unfold secKept; simp
        rw [e2]
        by_cases c1 : i < j * 32
        · rw [List.getElem_append_left (by simp [secKept_len]; omega)]
          by_cases c2 : i < 32 * lastOf keep j
          · rw [List.getElem_append_left (by rw [secKept_len]; exact c2)]
            unfold secKept; simp
          · rw [List.getElem_append_right (by rw [secKept_len]; omega)]
            unfold keptByte
            rw [lastOf_between (j := j) (by omega) (by omega)]
            simp
        · rw [List.getElem_append_right (by simp [secKept_len]; omega)]
          unfold keptByte
          rw [show i / 32 = j by omega, hk, if_pos rfl]
          unfold sector secFile secBytes
          simp only [List.getElem_take, List.getElem_drop, List.getElem_map, List.getElem_range, List.length_append, List.length_replicate]
          congr 1
          have : (secKept keep (lastOf keep j)).length = 32 * lastOf keep j := secKept_len _ _
          omega
    · rw [if_neg hk, if_neg hk]
def sec2 (keep : List Bool) (n : Nat) : S := ⟨[⟨[97], secKept keep (lastOf keep n), secKept keep (lastOf keep n)⟩], false, 0⟩
theorem sec_crash (keep : List Bool) (n : Nat) : crash (sec1 n) keep = sec2 keep n := by
  have h1 : (keptBytes (secFile n) keep 0).1 = secKept keep (lastOf keep n) := by
    rw [← keptTo_all]
    have hl : (loose (secFile n)).length = n := by rw [sec_loose]; simp
    rw [hl]; exact sec_keptTo keep (Nat.le_refl _)
  show S.mk [⟨[97], (keptBytes (secFile n) keep 0).1, (keptBytes (secFile n) keep 0).1⟩] _ _ = _
  rw [h1]; rfl
theorem sec_read (keep : List Bool) (n : Nat) : read (sec2 keep n) [97] = (secKept keep (lastOf keep n), 0) := by
  unfold read; rw [look_found (s := sec2 keep n) rfl (by decide) rfl]
theorem loose_same (nm : Name) (b : List UInt8) : loose ⟨nm, b, b⟩ = [] := by
  unfold loose; rw [List.filter_eq_nil_iff]; intro i _; simp
theorem sec_loose2 (keep : List Bool) (n : Nat) : looseN (sec2 keep n) = 0 := by
  show ([(loose ⟨[97], _, _⟩).length]).sum = _
  rw [loose_same]; rfl
theorem keptByte_yes {keep : List Bool} {i : Nat} (h : keep.getD (i / 32) false = true) : keptByte keep i = secByte i := by unfold keptByte; rw [if_pos h]
theorem keptByte_no {keep : List Bool} {i : Nat} (h : keep.getD (i / 32) false = false) : keptByte keep i = 0 := by unfold keptByte; rw [h]; rfl
theorem secByte_nat {i : Nat} (h : i < 32 * 16) : (secByte i).toNat = 1 + i / 32 := by unfold secByte; rw [UInt8.toNat_ofNat']; omega
end Go.Proofs.YtfpomllhkbbipaaGreatDoor.Dsk
namespace Go.Proofs.YtfpomllhkbbipaaGreatDoor.Dsk
open Go

def sing (nm : Name) (b : List UInt8) : S := ⟨[⟨nm, b, []⟩], false, 0⟩
theorem one_find (nm : Name) (b : List UInt8) : find nm (sing nm b).files = some ⟨nm, b, []⟩ := by unfold find sing; rw [List.find?_cons_of_pos (by simp)]
theorem one_find_no {nm mm : Name} (b : List UInt8) (h : nm ≠ mm) : find mm (sing nm b).files = none := by unfold find sing; rw [List.find?_cons_of_neg (by simpa using h)]; rfl
theorem one_upd (nm : Name) (b : List UInt8) (g : File → File) : upd nm g (sing nm b).files = [g ⟨nm, b, []⟩] := by
  show [if (nm == nm) = true then _ else _] = _
  rw [if_pos (by simp)]
theorem one_write {nm : Name} {b c : List UInt8} {k : Nat} (hn : named nm = true) (h1 : k ≤ b.length) (h2 : k + c.length ≤ 65536) : write (sing nm b) nm k c = (sing nm (over b k c), 0) := by
  unfold write
  rw [step_idle rfl]
  simp only [look_found (s := sing nm b) rfl hn (one_find nm b)]
  rw [if_neg (by omega), if_neg (by omega), one_upd, Int.toNat_natCast]; rfl
theorem one_write_bad {nm : Name} {b c : List UInt8} {k : Nat} (hn : named nm = true) (h1 : b.length < k) : write (sing nm b) nm k c = (sing nm b, 1) := by
  unfold write
  rw [step_idle rfl]
  simp only [look_found (s := sing nm b) rfl hn (one_find nm b)]
  rw [if_pos (by omega)]
theorem one_cut {nm : Name} {b : List UInt8} {k : Nat} (hn : named nm = true) (h1 : k ≤ b.length) : cut (sing nm b) nm k = (sing nm (b.take k), 0) := by
  unfold cut
  rw [step_idle rfl]
  simp only [look_found (s := sing nm b) rfl hn (one_find nm b)]
  rw [if_neg (by omega), one_upd, Int.toNat_natCast]; simp [sing]
theorem one_rename {nm mm : Name} {b : List UInt8} (hn : named nm = true) (hm : named mm = true) : rename (sing nm b) nm mm = (sing mm b, 0) := by
  have hl : look (sing nm b) [nm, mm] = (some ⟨nm, b, []⟩, 0) := by
    unfold look; rw [if_neg (by simp [sing]), if_neg (by simp [hn, hm])]
    show (match find nm (sing nm b).files with | some f => (some f, 0) | none => (none, 4)) = _
    rw [one_find]
  unfold rename
  rw [step_idle rfl]
  simp only [hl]
  have : del nm (sing nm b).files = [] := by unfold del sing; rw [List.filter_cons_of_neg (by simp)]; rfl
  rw [this]; rfl
theorem one_read {nm : Name} (b : List UInt8) (hn : named nm = true) : read (sing nm b) nm = (b, 0) := by
  unfold read; rw [look_found rfl hn (one_find nm b)]
theorem one_read_no {nm mm : Name} (b : List UInt8) (hn : named mm = true) (h : nm ≠ mm) : read (sing nm b) mm = ([], 4) := by
  unfold read; rw [look_none rfl hn (one_find_no b h)]
theorem over_length {a c : List UInt8} {k : Nat} (h : k ≤ a.length) : (over a k c).length = max a.length (k + c.length) := by unfold over; simp; omega
theorem over_nil {a : List UInt8} {k : Nat} : over a k [] = a := by unfold over; simp
theorem over_get {a c : List UInt8} {k : Nat} (h : k ≤ a.length) (i : Nat) : (over a k c)[i]? = if i < k then a[i]? else if i - k < c.length then c[i - k]? else a[i]? := by
  unfold over
  have e : (a.take k).length = k := by simp; omega
  rw [List.append_assoc]
  by_cases h1 : i < k
  · rw [if_pos h1, List.getElem?_append_left (by omega), List.getElem?_take, if_pos h1]
  · rw [if_neg h1, List.getElem?_append_right (by omega), e]
    by_cases h2 : i - k < c.length
    · rw [if_pos h2, List.getElem?_append_left h2]
    · rw [if_neg h2, List.getElem?_append_right (by omega), List.getElem?_drop]
      congr 1; omega
theorem over_take_get {a b : List UInt8} {k i : Nat} (h : k ≤ a.length) (hi : i ≤ b.length) (j : Nat) : (over a k (b.take i))[j]? = if j < k then a[j]? else if j - k < i then b[j - k]? else a[j]? := by
  rw [over_get h, List.length_take, Nat.min_eq_left hi, List.getElem?_take]
  by_cases h1 : j < k
  · rw [if_pos h1, if_pos h1]
  · rw [if_neg h1, if_neg h1]
    by_cases h2 : j - k < i
    · simp only [if_pos h2]
    · simp only [if_neg h2]
theorem over_take_len {a b : List UInt8} {k i : Nat} (h : k ≤ a.length) (hi : i ≤ b.length) : (over a k (b.take i)).length = max a.length (k + i) := by rw [over_length h]; simp; omega
theorem over_set {a b : List UInt8} {k i : Nat} (h : k ≤ a.length) (hi : i < b.length) (hl : k + i < (over a k (b.take i)).length) : (over a k (b.take i)).set (k + i) b[i] = over a k (b.take (i + 1)) := by
  apply List.ext_getElem?
  intro j
  rw [List.getElem?_set, over_take_get h (by omega), over_take_get h (by omega), if_pos hl]
  by_cases e : k + i = j
  · subst e
    rw [if_pos rfl, if_neg (by omega), if_pos (by omega), show k + i - k = i by omega, List.getElem?_eq_getElem hi]
  · rw [if_neg e]
    by_cases h1 : j < k
    · rw [if_pos h1, if_pos h1]
    · rw [if_neg h1, if_neg h1]
      by_cases h2 : j - k < i
      · rw [if_pos h2, if_pos (by omega)]
      · rw [if_neg h2, if_neg (by omega)]
theorem over_app {a b : List UInt8} {k i : Nat} (h : k ≤ a.length) (hi : i < b.length) (hl : ¬ k + i < (over a k (b.take i)).length) : over a k (b.take i) ++ [b[i]] = over a k (b.take (i + 1)) := by
  have e1 := over_take_len (b := b) h (Nat.le_of_lt hi)
  apply List.ext_getElem?
  intro j
  rw [over_take_get h (by omega), List.getElem?_append, over_take_get h (by omega), e1]
  by_cases c0 : j < max a.length (k + i)
  · rw [if_pos c0]
    by_cases h1 : j < k
    · rw [if_pos h1, if_pos h1]
    · rw [if_neg h1, if_neg h1]
      by_cases h2 : j - k < i
      · rw [if_pos h2, if_pos (by omega)]
      · rw [if_neg h2, if_neg (by omega)]
  · rw [if_neg c0, if_neg (by omega)]
    by_cases e : j = k + i
    · subst e
      rw [if_pos (by omega), show k + i - k = i by omega, List.getElem?_eq_getElem hi, show k + i - max a.length (k + i) = 0 by omega]; rfl
    · rw [if_neg (by omega), List.getElem?_eq_none (l := a) (by omega), List.getElem?_eq_none (by simp; omega)]
end Go.Proofs.YtfpomllhkbbipaaGreatDoor.Dsk
namespace Go.Proofs.YtfpomllhkbbipaaGreatDoor.Dsk
open Go

theorem find_del_other {n m : Name} {fs : List File} (h : m ≠ n) : find m (del n fs) = find m fs := by
  unfold find del
  rw [List.find?_filter]
  congr 1; funext f
  by_cases e : f.name = m
  · simp [e, h]
  · simp [e]
theorem find_ins_other {m : Name} {f : File} {fs : List File} (h : f.name ≠ m) : find m (ins f fs) = find m fs := by
  unfold find
  induction fs with
  | nil => unfold ins; rw [List.find?_cons_of_neg (by simpa using h)]
  | cons y r ih =>
    unfold ins; split
    · rw [List.find?_cons_of_neg (by simpa using h)]
    · by_cases e : y.name = m
      · rw [List.find?_cons_of_pos (by simpa using e), List.find?_cons_of_pos (by simpa using e)]
      · rw [List.find?_cons_of_neg (by simpa using e), List.find?_cons_of_neg (by simpa using e), ih]
theorem find_put_other {m : Name} {f : File} {fs : List File} (h : f.name ≠ m) : find m (put f fs) = find m fs := by
  unfold put; rw [find_ins_other h, find_del_other (fun e => h e.symm)]
structure Inv (s : S) (k : Name) (K : List UInt8) : Prop where
  file : find k s.files = some ⟨k, K, K⟩
  up : s.down = false
  fuse : s.fuse = 0
theorem Inv.read {s : S} {k : Name} {K : List UInt8} (h : Inv s k K) (hn : named k = true) : read s k = (K, 0) := by
  unfold Dsk.read; rw [look_found h.up hn h.file]
theorem Inv.of {s : S} {k : Name} {K : List UInt8} {fs : List File} (h : Inv s k K) (hf : find k fs = some ⟨k, K, K⟩) : Inv { s with files := fs } k K := ⟨hf, h.up, h.fuse⟩
theorem Inv.create {s : S} {k a : Name} {K : List UInt8} (h : Inv s k K) (ha : a ≠ k) : Inv (create s a).1 k K := by
  unfold Dsk.create; rw [step_idle h.fuse]
  simp only
  split
  · exact h
  · split
    · split
      · exact h
      · exact h.of (by rw [find_put_other ha]; exact h.file)
    · exact h
theorem Inv.remove {s : S} {k a : Name} {K : List UInt8} (h : Inv s k K) (ha : a ≠ k) : Inv (remove s a).1 k K := by
  unfold Dsk.remove; rw [step_idle h.fuse]
  simp only
  split
  · exact h.of (by rw [find_del_other (fun e => ha e.symm)]; exact h.file)
  · exact h
theorem Inv.rename {s : S} {k a z : Name} {K : List UInt8} (h : Inv s k K) (ha : a ≠ k) (hz : z ≠ k) : Inv (rename s a z).1 k K := by
  unfold Dsk.rename; rw [step_idle h.fuse]
  simp only
  split
  · exact h.of (by rw [find_put_other hz, find_del_other (fun e => ha e.symm)]; exact h.file)
  · exact h
theorem Inv.write {s : S} {k a : Name} {K : List UInt8} (h : Inv s k K) (ha : a ≠ k) (n : Int) (b : List UInt8) : Inv (write s a n b).1 k K := by
  unfold Dsk.write; rw [step_idle h.fuse]
  simp only
  split
  · split
    · exact h
    · split
      · exact h
      · exact h.of ((find_upd_other (by intro f; rfl) (fun e => ha e.symm)).trans h.file)
  · exact h
theorem Inv.cut {s : S} {k a : Name} {K : List UInt8} (h : Inv s k K) (ha : a ≠ k) (n : Int) : Inv (cut s a n).1 k K := by
  unfold Dsk.cut; rw [step_idle h.fuse]
  simp only
  split
  · split
    · exact h
    · exact h.of ((find_upd_other (by intro f; rfl) (fun e => ha e.symm)).trans h.file)
  · exact h
theorem Inv.sync {s : S} {k a : Name} {K : List UInt8} (h : Inv s k K) (ha : a ≠ k) : Inv (sync s a).1 k K := by
  unfold Dsk.sync; rw [step_idle h.fuse]
  simp only
  split
  · exact h.of ((find_upd_other (by intro f; rfl) (fun e => ha e.symm)).trans h.file)
  · exact h
theorem keptBytes_same (k : Name) (K : List UInt8) (keep : List Bool) (n : Nat) : keptBytes ⟨k, K, K⟩ keep n = (K, n) := by
  unfold keptBytes; rw [loose_same]; rfl
theorem crash_find {k : Name} {K : List UInt8} (keep : List Bool) {fs : List File} (h : find k fs = some ⟨k, K, K⟩) (n : Nat) : find k (crashFiles keep fs n) = some ⟨k, K, K⟩ := by
  induction fs generalizing n with
  | nil => cases h
  | cons f r ih =>
    unfold crashFiles
    simp only
    by_cases e : f.name = k
    · have hf : f = ⟨k, K, K⟩ := by unfold find at h; rw [List.find?_cons_of_pos (by simpa using e)] at h; exact Option.some.inj h
      subst hf
      rw [keptBytes_same]
      unfold find; rw [List.find?_cons_of_pos (by simp)]
    · have h' : find k r = some ⟨k, K, K⟩ := by unfold find at h ⊢; rw [List.find?_cons_of_neg (by simpa using e)] at h; exact h
      unfold find; rw [List.find?_cons_of_neg (by simpa using e)]
      exact ih h' _
theorem Inv.crash {s : S} {k : Name} {K : List UInt8} (h : Inv s k K) (keep : List Bool) : Inv (crash s keep) k K := ⟨crash_find keep h.file 0, rfl, rfl⟩
end Go.Proofs.YtfpomllhkbbipaaGreatDoor.Dsk
