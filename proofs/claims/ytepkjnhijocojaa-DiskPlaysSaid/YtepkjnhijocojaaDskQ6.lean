/- Plain laws of layer 5: the document's bytes over others. No program in sight. -/
import Derived.Test.YtepkjnhijocojaaDskQ5
namespace Go.Proofs.Ytepkjnhijocojaa.Dsk
open Go

def overZ (b : List UInt8) (a : Nat) (c : List UInt8) : List UInt8 := over (b ++ List.replicate (a - b.length) 0) a c
theorem overZ_len (b : List UInt8) (a : Nat) (c : List UInt8) : (overZ b a c).length = max b.length (a + c.length) := by unfold overZ; exact over_len_any b c a
theorem overZ_in {b : List UInt8} {a : Nat} (h : a ≤ b.length) (c : List UInt8) : overZ b a c = over b a c := by unfold overZ; rw [show a - b.length = 0 by omega]; simp
theorem overZ_mid {b c : List UInt8} {a k : Nat} (h1 : a ≤ k) (h2 : k - a < c.length) : (overZ b a c)[k]? = some c[k - a] := by
  unfold overZ
  rw [over_get (by simp; omega), if_neg (by omega), if_pos h2, List.getElem?_eq_getElem h2]
theorem overZ_old {b c : List UInt8} {a k : Nat} (h1 : ¬ (a ≤ k ∧ k < a + c.length)) (h2 : k < b.length) : (overZ b a c)[k]? = some b[k] := by
  unfold overZ
  rw [over_get (by simp; omega)]
  have e : (b ++ List.replicate (a - b.length) 0)[k]? = some b[k] := by rw [List.getElem?_append_left h2, List.getElem?_eq_getElem h2]
  by_cases c1 : k < a
  · rw [if_pos c1, e]
  · rw [if_neg c1, if_neg (by omega), e]
theorem overZ_zero {b c : List UInt8} {a k : Nat} (h1 : ¬ (a ≤ k ∧ k < a + c.length)) (h2 : ¬ k < b.length) (h3 : k < a + c.length) : (overZ b a c)[k]? = some 0 := by
  unfold overZ
  rw [over_get (by simp; omega), if_pos (by omega), List.getElem?_append_right (by omega)]
  rw [List.getElem?_replicate, if_pos (by omega)]
theorem take_snoc? {α : Type} {l : List α} {k : Nat} {x : α} (h : l[k]? = some x) : l.take (k + 1) = l.take k ++ [x] := by
  obtain ⟨hk, rfl⟩ := List.getElem?_eq_some_iff.1 h
  exact List.take_succ_eq_append_getElem hk
def piece (b : List UInt8) (f t : Nat) : List UInt8 := (b.drop f).take (t - f)
theorem piece_len (b : List UInt8) (f t : Nat) : (piece b f t).length = min t b.length - f := by unfold piece; simp; omega
theorem piece_get {b : List UInt8} {f t k : Nat} (h1 : f + k < t) (h2 : f + k < b.length) : (piece b f t)[k]? = some b[f + k] := by
  unfold piece
  rw [List.getElem?_take, if_pos (by omega), List.getElem?_drop, List.getElem?_eq_getElem h2]
theorem piece_sector (b : List UInt8) (i : Nat) : piece b (i * 32) (i * 32 + 32) = sector b i := by unfold piece sector; rw [show i * 32 + 32 - i * 32 = 32 by omega]
theorem piece_take (b : List UInt8) (t : Nat) : piece b 0 t = b.take t := by unfold piece; simp
end Go.Proofs.Ytepkjnhijocojaa.Dsk
