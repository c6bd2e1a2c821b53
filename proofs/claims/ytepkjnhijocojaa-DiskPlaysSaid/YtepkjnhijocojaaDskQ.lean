/- Plain laws of layer 5: what single laws' states come to. No program in sight. -/
import Derived.Test.YtepkjnhijocojaaDskP
import Derived.KernelRfl
namespace Go.Proofs.Ytepkjnhijocojaa.Dsk
open Go

theorem look_found {s : S} {n : Name} {f : File} (hd : s.down = false) (hn : named n = true) (hf : find n s.files = some f) : look s [n] = (some f, 0) := by
  unfold look; rw [hd]; simp [hn, hf]
theorem look_down {s : S} {ns : List Name} (hd : s.down = true) : look s ns = (none, 50) := by unfold look; rw [hd]; rfl
theorem look_none {s : S} {n : Name} (hd : s.down = false) (hn : named n = true) (hf : find n s.files = none) : look s [n] = (none, 4) := by
  unfold look; rw [hd]; simp [hn, hf]
theorem step_idle {s : S} (h : s.fuse = 0) : step s = s := by unfold step; rw [if_neg (by omega)]
theorem keptBytes_nil (f : File) (n : Nat) : (keptBytes f [] n).1 = f.safe := by
  rw [← keptTo_all]
  have : ∀ j, j ≤ (loose f).length → (keptTo f [] n j).1 = f.safe := by
    intro j
    induction j with
    | zero => intro _; rw [keptTo_zero]
    | succ j ih =>
      intro h
      rw [keptTo_succ (by omega)]
      unfold keptStep
      rw [if_neg (by simp)]
      exact ih (by omega)
  exact this _ (Nat.le_refl _)
theorem over_zero (b c : List UInt8) : over b 0 c = c ++ b.drop c.length := by unfold over; simp
/-- DiskPower: k - 1 writes are done -/
def pS (bs : List UInt8) (n k : Nat) : S := ⟨[⟨[97], if k = 1 then [] else bs, []⟩], false, n + 1 - k⟩
theorem pS_now (bs : List UInt8) (k : Nat) : over (if k = 1 then [] else bs) 0 bs = bs := by
  rw [over_zero]; split <;> simp
theorem pS_write {bs : List UInt8} {n k : Nat} (h1 : 1 ≤ k) (h2 : k < n) (hb : bs.length ≤ 500) : write (pS bs n k) [97] 0 bs = (pS bs n (k + 1), 0) := by
  have hs : step (pS bs n k) = ⟨[⟨[97], if k = 1 then [] else bs, []⟩], false, n - k⟩ := by
    unfold step pS
    rw [if_pos ⟨by show 0 < n + 1 - k; omega, rfl⟩]
    show S.mk _ (decide (n + 1 - k - 1 = 0)) (n + 1 - k - 1) = _
    rw [show n + 1 - k - 1 = n - k by omega, decide_eq_false (by omega)]
  have hl : look ⟨[⟨[97], if k = 1 then [] else bs, []⟩], false, n - k⟩ [[97]] = (some ⟨[97], if k = 1 then [] else bs, []⟩, 0) := look_found rfl (by decide) rfl
  unfold write
  rw [hs]
  simp only [hl]
  rw [if_neg (by simp), if_neg (by omega)]
  show (S.mk [⟨[97], over (if k = 1 then [] else bs) 0 bs, []⟩] _ _, _) = _
  rw [pS_now]
  unfold pS
  rw [if_neg (by omega), show n + 1 - (k + 1) = n - k by omega]
/-- .. and the power has gone -/
def pD (bs : List UInt8) (n : Nat) : S := ⟨[⟨[97], if n = 1 then [] else bs, []⟩], true, 0⟩
theorem pS_last {bs : List UInt8} {n : Nat} (h : 1 ≤ n) : step (pS bs n n) = pD bs n := by
  unfold step pS pD
  rw [if_pos ⟨by show 0 < n + 1 - n; omega, rfl⟩]
  show S.mk _ (decide (n + 1 - n - 1 = 0)) (n + 1 - n - 1) = _
  rw [show n + 1 - n - 1 = 0 by omega]; rfl
theorem pS_sync {bs : List UInt8} {n : Nat} (h : 1 ≤ n) : sync (pS bs n n) [97] = (pD bs n, 50) := by
  unfold sync; rw [pS_last h]; simp only [look_down (show (pD bs n).down = true from rfl)]
theorem pD_create (bs : List UInt8) (n : Nat) (m : Name) : create (pD bs n) m = (pD bs n, 50) := by
  unfold create; rw [step_idle rfl]; simp only [look_down (show (pD bs n).down = true from rfl)]; rfl
theorem pD_read (bs : List UInt8) (n : Nat) (m : Name) : read (pD bs n) m = ([], 50) := by
  unfold read; simp only [look_down (show (pD bs n).down = true from rfl)]
theorem pD_loose (bs : List UInt8) (n : Nat) : looseN (pD bs n) = looseN (pS bs n n) := rfl
def pE : S := ⟨[⟨[97], [], []⟩], false, 0⟩
theorem pD_crash (bs : List UInt8) (n : Nat) : crash (pD bs n) [] = pE := by
  unfold crash pE
  show S.mk [⟨[97], (keptBytes _ [] 0).1, (keptBytes _ [] 0).1⟩] _ _ = _
  rw [keptBytes_nil]
theorem pE_read : read pE [97] = ([], 0) := rfl
def pF : S := ⟨[⟨[97], [], []⟩, ⟨[98], [], []⟩], false, 0⟩
theorem pE_create : create pE [98] = (pF, 0) := by kernel_rfl
end Go.Proofs.Ytepkjnhijocojaa.Dsk
