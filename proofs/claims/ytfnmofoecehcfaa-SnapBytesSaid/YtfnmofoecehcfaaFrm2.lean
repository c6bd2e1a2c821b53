/- Layer 3: words read: both sides. -/
import Derived.Test.YtfnmofoecehcfaaFrm
import Derived.BigQuiet
namespace Go.Proofs.Ytfnmofoecehcfaa
open Go Go.RowKit Go.Maps Go.Lib Mem Pk

theorem or_join {a b k : Nat} (h : a < 2 ^ k) (ha : a < 2 ^ 32) (hb : b * 2 ^ k < 2 ^ 32) : bits BinOp.or IntKind.u32 (a : Int) ((b * 2 ^ k : Nat) : Int) = ((a + b * 2 ^ k : Nat) : Int) := by
  rw [u32_or_nat _ _ ha hb]
  have h1 := Nat.shiftLeft_add_eq_or_of_lt (b := a) (i := k) h b
  rw [Nat.shiftLeft_eq] at h1
  rw [Nat.or_comm, ← h1, Nat.add_comm]
/-- the four bytes -/
theorem word_cells {w : World} {A : Option Addr} {bs : List UInt8} (h : Sl fB w A bs) (h4 : 4 ≤ bs.length) : ∃ b o, ∃ n0 n1 n2 n3 : Nat, A = some ⟨b, o, none⟩ ∧ n0 < 256 ∧ n1 < 256 ∧ n2 < 256 ∧ n3 < 256 ∧ unwordN bs = n0 + n1 * 256 + n2 * 65536 + n3 * 16777216 ∧
    w.cell? ⟨b, o, none⟩ = some (.int .u8 (n0 : Int)) ∧ w.cell? ⟨b, o + 1, none⟩ = some (.int .u8 (n1 : Int)) ∧ w.cell? ⟨b, o + 2, none⟩ = some (.int .u8 (n2 : Int)) ∧ w.cell? ⟨b, o + 3, none⟩ = some (.int .u8 (n3 : Int)) := by
  obtain ⟨b, o, rfl, _, hc⟩ := h.at (k := 0) (by omega)
  have e : ∀ (j : Nat) (hj : j < bs.length), bs.getD j 0 = bs[j] := fun j hj => by rw [List.getD_eq_getElem?_getD, List.getElem?_eq_getElem hj, Option.getD_some]
  refine ⟨b, o, bs[0].toNat, bs[1].toNat, bs[2].toNat, bs[3].toNat, rfl, (bs[0]).toNat_lt, (bs[1]).toNat_lt, (bs[2]).toNat_lt, (bs[3]).toNat_lt, ?_, hc 0 (by omega), hc 1 (by omega), hc 2 (by omega), hc 3 (by omega)⟩
  unfold unwordN
  rw [e 0 (by omega), e 1 (by omega), e 2 (by omega), e 3 (by omega)]
set_option maxRecDepth 100000 in
theorem unword_any {w : World} {A : Option Addr} {c : Nat} {bs : List UInt8} (h : Sl fB w A bs) (h4 : 4 ≤ bs.length) :
    Calls Try.prog 42 #[.slice A bs.length c] w (Quiet (.int .u32 (unwordN bs : Int)) w) := by
  have hl := h.len
  obtain ⟨b, o, n0, n1, n2, n3, rfl, l0, l1, l2, l3, hu, c0, c1, c2, c3⟩ := word_cells h h4
  obtain ⟨u, hu2⟩ : ∃ u, u = unwordN bs := ⟨_, rfl⟩
  rw [← hu2]
  have i0 : (0 : Int) < (bs.length : Int) := by omega
  have i1 : (1 : Int) < (bs.length : Int) := by omega
  have i2 : (2 : Int) < (bs.length : Int) := by omega
  have i3 : (3 : Int) < (bs.length : Int) := by omega
  have v0 : (n0 : Int) % 4294967296 = (n0 : Int) := by omega
  have v1 : (n1 : Int) % 4294967296 = (n1 : Int) := by omega
  have v2 : (n2 : Int) % 4294967296 = (n2 : Int) := by omega
  have v3 : (n3 : Int) % 4294967296 = (n3 : Int) := by omega
  obtain ⟨p1, hp1⟩ : ∃ p, p = n1 * 2 ^ 8 := ⟨_, rfl⟩
  obtain ⟨p2, hp2⟩ : ∃ p, p = n2 * 2 ^ 16 := ⟨_, rfl⟩
  obtain ⟨p3, hp3⟩ : ∃ p, p = n3 * 2 ^ 24 := ⟨_, rfl⟩
  have t1 : (n1 : Int) * 256 % 4294967296 = (p1 : Int) := by omega
  have t2 : (n2 : Int) * 65536 % 4294967296 = (p2 : Int) := by omega
  have t3 : (n3 : Int) * 16777216 % 4294967296 = (p3 : Int) := by omega
  obtain ⟨m1, hm1⟩ : ∃ m, m = n0 + p1 := ⟨_, rfl⟩
  obtain ⟨m2, hm2⟩ : ∃ m, m = m1 + p2 := ⟨_, rfl⟩
  have r1 : bits BinOp.or IntKind.u32 (n0 : Int) (p1 : Int) = (m1 : Int) := by rw [hm1, hp1]; exact or_join (by omega) (by omega) (by omega)
  have r2 : bits BinOp.or IntKind.u32 (m1 : Int) (p2 : Int) = (m2 : Int) := by rw [hm2, hp2]; exact or_join (by omega) (by omega) (by omega)
  have r3 : bits BinOp.or IntKind.u32 (m2 : Int) (p3 : Int) = (u : Int) := by
    have e : u = m2 + n3 * 2 ^ 24 := by omega
    rw [e, hp3]; exact or_join (by omega) (by omega) (by omega)
  have z1 : (1 : Nat) < bs.length := by omega
  clear h h4 hu hu2 hp1 hp2 hp3 hm1 hm2 l0 l1 l2 l3 hl z1
  go_enter Try.func42, Try.ntmps42
  go_wp2_with fail
  go_quiet (fail)
  go_wp2_with fail
  go_ret
  exact ⟨rfl, _, rfl⟩
set_option maxRecDepth 100000 in
theorem Runword_any {w : World} {A : Option Addr} {c : Nat} {bs : List UInt8} (h : Sl fB w A bs) (h4 : 4 ≤ bs.length) :
    Calls Try.prog 49 #[.slice A bs.length c] w (Quiet (.int .u32 (unwordN bs : Int)) w) := by
  have hl := h.len
  obtain ⟨b, o, n0, n1, n2, n3, rfl, l0, l1, l2, l3, hu, c0, c1, c2, c3⟩ := word_cells h h4
  obtain ⟨u, hu2⟩ : ∃ u, u = unwordN bs := ⟨_, rfl⟩
  rw [← hu2]
  have i0 : (0 : Int) < (bs.length : Int) := by omega
  have i1 : (1 : Int) < (bs.length : Int) := by omega
  have i2 : (2 : Int) < (bs.length : Int) := by omega
  have i3 : (3 : Int) < (bs.length : Int) := by omega
  have v0 : (n0 : Int) % 4294967296 = (n0 : Int) := by omega
  have v1 : (n1 : Int) % 4294967296 = (n1 : Int) := by omega
  have v2 : (n2 : Int) % 4294967296 = (n2 : Int) := by omega
  have v3 : (n3 : Int) % 4294967296 = (n3 : Int) := by omega
  obtain ⟨p1, hp1⟩ : ∃ p, p = n1 * 2 ^ 8 := ⟨_, rfl⟩
  obtain ⟨p2, hp2⟩ : ∃ p, p = n2 * 2 ^ 16 := ⟨_, rfl⟩
  obtain ⟨p3, hp3⟩ : ∃ p, p = n3 * 2 ^ 24 := ⟨_, rfl⟩
  have t1 : (n1 : Int) * 256 % 4294967296 = (p1 : Int) := by omega
  have t2 : (n2 : Int) * 65536 % 4294967296 = (p2 : Int) := by omega
  have t3 : (n3 : Int) * 16777216 % 4294967296 = (p3 : Int) := by omega
  obtain ⟨m1, hm1⟩ : ∃ m, m = n0 + p1 := ⟨_, rfl⟩
  obtain ⟨m2, hm2⟩ : ∃ m, m = m1 + p2 := ⟨_, rfl⟩
  have r1 : ((n0 : Int) + (p1 : Int)) % 4294967296 = (m1 : Int) := by omega
  have r2 : ((m1 : Int) + (p2 : Int)) % 4294967296 = (m2 : Int) := by omega
  have r3 : ((m2 : Int) + (p3 : Int)) % 4294967296 = (u : Int) := by omega
  have z1 : (1 : Nat) < bs.length := by omega
  clear h h4 hu hu2 hp1 hp2 hp3 hm1 hm2 l0 l1 l2 l3 hl z1
  go_enter Try.func49, Try.ntmps49
  go_wp2_with fail
  go_quiet (fail)
  go_wp2_with fail
  go_ret
  exact ⟨by rw [r3]; rfl, _, rfl⟩
end Go.Proofs.Ytfnmofoecehcfaa
