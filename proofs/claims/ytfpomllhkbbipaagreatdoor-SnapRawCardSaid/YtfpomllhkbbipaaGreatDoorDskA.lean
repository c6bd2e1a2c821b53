/- Layer 5: the document's example. -/
import Derived.Test.YtfpomllhkbbipaaGreatDoorDskL
import Derived.Test.YtfpomllhkbbipaaGreatDoorDskP
import Derived.Laws.BitsAllLaws
import Derived.Laws.BitsLemmas
import Derived.Deep.DeepCutAuto
namespace Go.Proofs.YtfpomllhkbbipaaGreatDoor
open Go.RowKit Go.Maps Mem Dsk

theorem Mem.SlB.lit {α : Type} {f : α → Value} {w : World} {e : TypeId} (xs : List α) (cs : Array Value) (hcs : cs = (xs.map f).toArray) (h : xs.length ≤ maxLen) : SlB f e (fun g => g = w.heap.size) (w.alloc (.cells cs e)) (some ⟨w.heap.size, 0, none⟩) xs := by
  subst hcs
  exact ⟨h, fun _ => ⟨_, _, _, _, rfl, rfl, heap_alloc_new w _, fun j hj => by simp [hj]⟩⟩
theorem Mem.Own.slB {α : Type} {f : α → Value} {w : World} {xs : List α} {base : Nat} {e : TypeId} {g n c : Nat} (h : Own f base e w (.slice (some ⟨g, 0, none⟩) n c) xs) : SlB f e (fun k => k = g) w (some ⟨g, 0, none⟩) xs := by
  obtain ⟨h1, h2⟩ := SlB.of_own h
  refine ⟨h2.1, fun hn => ?_⟩
  obtain ⟨b, o, cur, fr, e1, _, hb, hc⟩ := h2.2 hn
  injection e1 with e1; injection e1 with e1 e2
  subst e1; subst e2
  exact ⟨g, 0, cur, fr, rfl, rfl, hb, hc⟩
theorem Mem.SlB.under {α : Type} {f : α → Value} {w w' : World} {A : Option Addr} {xs : List α} {B : Nat} {e : TypeId} (h : SlB f e (fun g => g < B) w A xs) (hb : Below B w w') : SlB f e (fun g => g < B) w' A xs := h.keep fun g _ _ hg _ => hb.block g hg
theorem Mem.Sl.old {α : Type} {f : α → Value} {w : World} {A : Option Addr} {xs : List α} (h : Sl f w A xs) : ∃ e, SlB f e (fun g => g < w.heap.size) w A xs := SlB.any h (fun _ h => h)
theorem wf_i64 {n : Int} (h1 : -9223372036854775808 ≤ n) (h2 : n ≤ 9223372036854775807) : (Lit.int .i64 n).wf = true := by
  have e1 : IntKind.i64.min = -9223372036854775808 := rfl
  have e2 : IntKind.i64.max = 9223372036854775807 := rfl
  simp [Lit.wf, e1, e2, h1, h2]
theorem wf_small {n : Int} (h1 : -1000000000 ≤ n) (h2 : n ≤ 1000000000) : (Lit.int .i64 n).wf = true := wf_i64 (by omega) (by omega)
theorem maxLen_small {n : Nat} (h : n ≤ 1000000) : n ≤ maxLen := by unfold maxLen; omega
def nA : ByteArray := ⟨#[97]⟩
theorem sz97 : (⟨#[97]⟩ : ByteArray).size ≤ maxLen := maxLen_small (by decide)
def aS1 : S := ⟨[⟨[97], [], []⟩], false, 0⟩
def aS2 : S := ⟨[⟨[97], List.replicate 40 0, []⟩], false, 0⟩
def aS3 : S := ⟨[⟨[97], List.replicate 40 0, List.replicate 40 0⟩], false, 0⟩
def aS4 : S := ⟨[⟨[97], List.replicate 40 0 ++ List.replicate 40 7, List.replicate 40 0⟩], false, 0⟩
def aBytes : List UInt8 := List.replicate 64 0 ++ List.replicate 16 7
def aS5 : S := ⟨[⟨[97], aBytes, aBytes⟩], false, 0⟩
theorem aBytes_len : aBytes.length = 80 := rfl
theorem a1 : Dsk.create s0 (sname ⟨#[97]⟩) = (aS1, 0) := rfl
theorem a2 : Dsk.write aS1 (sname ⟨#[97]⟩) 0 (List.replicate 40 0) = (aS2, 0) := rfl
theorem a3 : Dsk.sync aS2 (sname ⟨#[97]⟩) = (aS3, 0) := rfl
theorem a4 : Dsk.write aS3 (sname ⟨#[97]⟩) 40 (List.replicate 40 7) = (aS4, 0) := rfl
theorem a5 : looseN aS4 = 2 := by decide
theorem a6 : Dsk.crash aS4 [false, true] = aS5 := by kernel_rfl
theorem a7 : Dsk.read aS5 (sname ⟨#[97]⟩) = (aBytes, 0) := rfl
theorem fill_step {α : Type} (a b : α) {k n : Nat} (h : k < n) : (List.replicate k a ++ List.replicate (n - k) b).set k a = List.replicate (k + 1) a ++ List.replicate (n - (k + 1)) b := by
  apply List.ext_getElem
  · simp; omega
  · intro i h1 h2
    simp at h1
    rw [List.getElem_set]
    by_cases e : k = i
    · subst e; rw [if_pos rfl, List.getElem_append_left (by simp)]; simp
    · rw [if_neg e]
      by_cases e2 : i < k
      · rw [List.getElem_append_left (by simp; omega), List.getElem_append_left (by simp; omega)]; simp
      · rw [List.getElem_append_right (by simp; omega), List.getElem_append_right (by simp; omega)]; simp
def FillRel (w : World) (xs : Nat → List UInt8) (g n : Nat) (iv : Value) (wr : World) : Prop :=
  ∃ k : Nat, k ≤ n ∧ iv = .int .i64 k ∧ Own fB w.heap.size 5 wr (.slice (some ⟨g, 0, none⟩) n n) (xs k) ∧ Below w.heap.size w wr
theorem i64_one : ((1 : Nat) : Int) = 1 := rfl
end Go.Proofs.YtfpomllhkbbipaaGreatDoor
namespace Go.Proofs.YtfpomllhkbbipaaGreatDoor
open Go.RowKit Go.Maps Mem Dsk

theorem and_small (x : Int) (c : Nat) (hc : c < 9223372036854775808) : ∃ m : Nat, m ≤ c ∧ bits .and .i64 x (c : Int) = (m : Int) := by
  refine ⟨(BitVec.ofInt 64 x &&& BitVec.ofInt 64 (c : Int)).toNat, ?_, ?_⟩
  · rw [BitVec.toNat_and, BitVec.ofInt_natCast, BitVec.toNat_ofNat, Nat.mod_eq_of_lt (by omega)]
    exact Nat.and_le_right
  · show IntKind.i64.wrap ((BitVec.ofInt 64 x &&& BitVec.ofInt 64 (c : Int)).toNat : Int) = _
    have : (BitVec.ofInt 64 x &&& BitVec.ofInt 64 (c : Int)).toNat ≤ c := by
      rw [BitVec.toNat_and, BitVec.ofInt_natCast, BitVec.toNat_ofNat, Nat.mod_eq_of_lt (by omega)]
      exact Nat.and_le_right
    rw [IntKind.wrap_i64]
    omega
theorem sn97 : sname ⟨#[97]⟩ = [97] := rfl
theorem sn98 : sname ⟨#[98]⟩ = [98] := rfl
theorem sz98 : (⟨#[98]⟩ : ByteArray).size ≤ maxLen := maxLen_small (by decide)
def PowRel (B p : Nat) (w : World) (bs : List UInt8) (n : Nat) (iv : Value) (wr : World) : Prop :=
  ∃ k : Nat, 1 ≤ k ∧ k ≤ n ∧ iv = .int .i64 k ∧ D B p (pS bs n k) wr ∧ Below B w wr
end Go.Proofs.YtfpomllhkbbipaaGreatDoor
