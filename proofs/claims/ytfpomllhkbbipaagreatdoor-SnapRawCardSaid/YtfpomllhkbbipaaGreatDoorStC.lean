/- slices.Contains at strings. -/
import Derived.Test.YtfpomllhkbbipaaGreatDoorDskL
namespace Go.Proofs.YtfpomllhkbbipaaGreatDoor
open Go Go.RowKit Go.Maps Go.Lib Mem Dsk

def StRel (n : Name) (xs : List Name) (w : World) (iv : Value) (wr : World) : Prop := ∃ k : Nat, k ≤ xs.length ∧ iv = .int .i64 k ∧ Hid (n ∉ xs.take k) ∧ wr = w
def IdxS (b : Bool) (w : World) (e : Ending) (w' : World) : Prop := ∃ i : Int, e = .returned (.int .i64 i) ∧ decide (0 ≤ i) = b ∧ w = w'
theorem toList_sname (n : ByteArray) : n.toList = sname n := Lib.toList_data n
theorem IndexS_any {e : TypeId} {F : Nat → Prop} (A : Option Addr) (c : Nat) (xs : List Name) (n : ByteArray) (w : World) (hs : SlB encStr e F w A xs) :
    Calls Tryz.prog 57 #[.slice A xs.length c, .string n] w (IdxS (decide (sname n ∈ xs)) w) := by
  have hl := hs.1
  unfold maxLen at hl
  have HS := Lib.hid hs.sl
  clear hs
  go_enter Tryz.func57, Tryz.ntmps57
  go_wp2_with fail
  go_loopw [8] (fun i wr => StRel (sname n) xs w i wr) (fun i _ => xs.length - (intOf i).toNat)
  case atStart => exact ⟨0, Nat.zero_le _, rfl, Lib.hid (by simp), rfl⟩
  case round =>
    obtain ⟨k, hk, rfl, HNO, rfl⟩ := hrel
    by_cases hlt : k < xs.length
    · obtain ⟨b, o, rfl, _, hc⟩ := HS.out.at hlt
      have hck := hc k hlt
      obtain ⟨x, hx⟩ : ∃ x, x = xs[k] := ⟨_, rfl⟩
      rw [← hx] at hck
      have hck : wr.cell? ⟨b, o + k, none⟩ = some (.string ⟨x.toArray⟩) := hck
      have HX := Lib.hid hx
      have HLT := Lib.hid hlt
      clear hc hx
      have hk0 : (0 : Int) ≤ (k : Int) := by omega
      have hk1 : (k : Int) < (xs.length : Int) := by omega
      by_cases hq : sname n = x
      · have t1 : (n.toList == x) = true := by rw [toList_sname]; simpa using hq
        have HM : Hid (sname n ∈ xs) := Lib.hid (by rw [hq, HX.out]; exact List.getElem_mem HLT.out)
        clear hq
        go_wp2_with fail
        go_ret
        exact ⟨(k : Int), rfl, by rw [decide_eq_true HM.out]; exact decide_eq_true (by omega), rfl⟩
      · have t1 : (n.toList == x) = false := by rw [toList_sname]; simpa using hq
        have HN2 : Hid (sname n ∉ xs.take (k + 1)) := Lib.hid (by
          rw [List.take_succ_eq_append_getElem HLT.out, List.mem_append, List.mem_singleton, ← HX.out]
          exact fun e => e.elim HNO.out hq)
        clear hq
        go_wp2_with fail
        go_roundw
        case rel => exact ⟨k + 1, HLT.out, by go_num, HN2, rfl⟩
        case measure => simp [intOf]; have := HLT.out; omega
    · have HN2 : Hid (sname n ∉ xs) := Lib.hid (by have := HNO.out; rw [List.take_of_length_le (by omega)] at this; exact this)
      go_wp2_with fail
      go_ret
      exact ⟨-1, rfl, by rw [decide_eq_false HN2.out]; rfl, rfl⟩
theorem ContainsS_any {e : TypeId} {F : Nat → Prop} (A : Option Addr) (c : Nat) (xs : List Name) (n : ByteArray) (w : World) (hs : SlB encStr e F w A xs) :
    Calls Tryz.prog 29 #[.slice A xs.length c, .string n] w fun e w' => e = .returned (.bool (decide (sname n ∈ xs))) ∧ w = w' := by
  have HI := Lib.hid (IndexS_any A c xs n w hs)
  clear hs
  obtain ⟨q, hq⟩ : ∃ z, z = decide (sname n ∈ xs) := ⟨_, rfl⟩
  rw [← hq] at HI ⊢
  clear hq
  go_enter Tryz.func29, Tryz.ntmps29
  go_wp2_with fail
  (with_reducible refine HI.out.mono ?_); rintro e w' ⟨i, rfl, hi, rfl⟩
  have HB := Lib.hid hi; clear hi
  go_wp2_with fail
  go_ret
  exact ⟨by rw [HB.out]; rfl, rfl⟩
end Go.Proofs.YtfpomllhkbbipaaGreatDoor
