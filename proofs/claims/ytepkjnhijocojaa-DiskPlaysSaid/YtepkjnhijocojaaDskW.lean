/- Layer 5: the walks of the disk's inner functions. -/
import Derived.Test.YtepkjnhijocojaaDskR
import Derived.WalkKit
import Derived.WalkSpells
import Derived.WalkLawsBesides
import Derived.Lib.Hide
import Derived.Deep.QuietTactic
import Derived.BigQuiet
namespace Go.Proofs.Ytepkjnhijocojaa
open Go.RowKit Go.Maps Mem Dsk


def sname (s : ByteArray) : Name := s.data.toList
theorem sname_len (s : ByteArray) : (sname s).length = s.size := by simp [sname]
theorem named_eq (s : ByteArray) : (decide (1 ≤ (s.size : Int)) && decide ((s.size : Int) ≤ 16)) = named (sname s) := by
  unfold named; rw [sname_len, Bool.eq_iff_iff]; simp only [Bool.and_eq_true, decide_eq_true_eq]; omega

set_option maxHeartbeats 400000 in
theorem named_any (s : ByteArray) (hs : s.size ≤ maxLen) (w : World) :
    Calls Try.prog 49 #[.string s] w fun e w' => e = .returned (.bool (named (sname s))) ∧ w = w' := by
  have hn := named_eq s
  unfold maxLen at hs
  by_cases h1 : 1 ≤ s.size
  · have e : decide ((s.size : Int) ≤ 16) = named (sname s) := by rw [← hn, decide_eq_true (p := (1 : Int) ≤ s.size) (by omega)]; rfl
    clear hn
    go_enter Try.func49, Try.ntmps49
    go_wp2
    go_ret
    exact ⟨rfl, rfl⟩
  · have e : named (sname s) = false := by rw [← hn]; simp; omega
    clear hn
    have h1 : s.size = 0 := by omega
    go_enter Try.func49, Try.ntmps49
    go_wp2
    go_ret
    exact ⟨ret_bool e.symm, rfl⟩

/-- what a call leaves that only turns the disk's own struct -/
def StepPost (F : Nat → Prop) (p : Nat) (s : S) (mb : Nat) (rs : List Rec) (w : World) (e : Ending) (w' : World) : Prop :=
  e = .returned (.bool (!(Dsk.step s).down)) ∧ Rep F w' p (Dsk.step s) mb rs ∧ Frm (fun g => g = p) w w'
theorem step_no {s : S} (h : ¬ (0 < s.fuse ∧ s.down = false)) : Dsk.step s = s := by unfold Dsk.step; rw [if_neg h]
theorem step_yes {s : S} (h : 0 < s.fuse ∧ s.down = false) : Dsk.step s = { s with fuse := s.fuse - 1, down := decide (s.fuse - 1 = 0) } := by unfold Dsk.step; rw [if_pos h]
theorem fuse_test {n : Nat} (h : 0 < n) : ((n : Int) - 1 == 0) = decide (n - 1 = 0) := by rw [Bool.eq_iff_iff]; simp only [beq_iff_eq, decide_eq_true_eq]; omega
theorem fuse_pred {n : Nat} (h : 0 < n) : (n : Int) - 1 = ((n - 1 : Nat) : Int) := by omega
set_option maxHeartbeats 400000 in
theorem step_any {F : Nat → Prop} {w : World} {p : Nat} {s : S} {mb : Nat} {rs : List Rec} (h : Rep F w p s mb rs) :
    Calls Try.prog 45 #[.pointer (some ⟨p, 0, none⟩)] w (StepPost F p s mb rs w) := by
  have hb := h.blk
  have c1 : w.cell? ⟨p, 1, none⟩ = some (.bool s.down) := hb.cell 1
  have c2 : w.cell? ⟨p, 2, none⟩ = some (.int .i64 s.fuse) := hb.cell 2
  have f1 := hb.free 1
  have f2 := hb.free 2
  have hfu := h.fuse
  obtain ⟨files, down, fuse⟩ := s
  simp only at c1 c2 hfu hb
  have HR := Lib.hid h; clear h hb
  by_cases hf : 0 < fuse
  · cases down
    · have hst := step_yes (s := ⟨files, false, fuse⟩) ⟨hf, rfl⟩
      have HST := Lib.hid hst; clear hst
      go_enter Try.func45, Try.ntmps45
      go_wp2
      go_ret
      refine ⟨?_, ?_, ((Frm.refl (fun g => g = p) w).setCell (p := ⟨p, 2, none⟩) (fun _ => rfl) _).setCell (p := ⟨p, 1, none⟩) (fun _ => rfl) _⟩
      · rw [HST.out]; exact ret_bool (by rw [fuse_test hf])
      · rw [HST.out, ← fuse_test hf, fuse_pred hf]
        have h1 := HR.out.setHead (s' := ⟨files, false, fuse - 1⟩) 2 (.int .i64 ((fuse - 1 : Nat) : Int)) rfl (by show fuse - 1 ≤ _; omega) rfl
        exact h1.setHead (s' := ⟨files, (((fuse - 1 : Nat) : Int) == 0), fuse - 1⟩) 1 _ rfl (by show fuse - 1 ≤ _; omega) rfl
    · go_enter Try.func45, Try.ntmps45
      go_wp2
      go_ret
      refine ⟨?_, ?_, Frm.refl _ _⟩
      · rw [step_no (by simp)]; rfl
      · rw [step_no (by simp)]; exact HR.out
  · go_enter Try.func45, Try.ntmps45
    go_wp2
    go_ret
    refine ⟨?_, ?_, Frm.refl _ _⟩
    · rw [step_no (by simp; omega)]; rfl
    · rw [step_no (by simp; omega)]; exact HR.out

theorem notnamed_any (s : ByteArray) (hs : s.size ≤ maxLen) (w : World) :
    Calls Try.prog 48 #[.string s] w fun e w' => e = .returned (.bool (!named (sname s))) ∧ w = w' := by
  go_enter Try.func48, Try.ntmps48
  go_wp2_with (go_at_call 49; (with_reducible refine (named_any _ hs _).mono ?_); rintro e w' ⟨rfl, rfl⟩)
  go_ret
  exact ⟨rfl, rfl⟩
def anyBad (ns : List ByteArray) : Bool := ns.any (fun n => !named (sname n))
theorem anyBad_snoc {ns : List ByteArray} {k : Nat} (h : k < ns.length) (h0 : anyBad (ns.take k) = false) (h1 : (!named (sname ns[k])) = false) : anyBad (ns.take (k + 1)) = false := by
  unfold anyBad at *
  rw [List.take_succ_eq_append_getElem h, List.any_append, h0, Bool.false_or]
  simpa using h1
theorem anyBad_hit {ns : List ByteArray} {k : Nat} (h : k < ns.length) (h1 : (!named (sname ns[k])) = true) : anyBad ns = true := by
  unfold anyBad; rw [List.any_eq_true]; exact ⟨ns[k], List.getElem_mem h, h1⟩
def IdxPost (ns : List ByteArray) (w : World) (e : Ending) (w' : World) : Prop := ∃ i : Int, e = .returned (.int .i64 i) ∧ (anyBad ns = decide (0 ≤ i)) ∧ w = w'
set_option maxHeartbeats 400000 in
theorem indexbad_any (A : Option Addr) (c : Nat) (ns : List ByteArray) (w : World) (hs : Sl Value.string w A ns) (hm : ∀ n ∈ ns, n.size ≤ maxLen) :
    Calls Try.prog 53 #[.slice A ns.length c, .func (.func 48) #[] #[]] w (IdxPost ns w) := by
  have hl := hs.len
  have HM := Lib.hid hm; clear hm
  go_enter Try.func53, Try.ntmps53
  go_wp2_with fail
  go_loop [8] (fun i => ∃ k : Nat, k ≤ ns.length ∧ i = .int .i64 k ∧ anyBad (ns.take k) = false) (fun i => ns.length - (intOf i).toNat)
  case atStart => exact ⟨0, Nat.zero_le _, rfl, rfl⟩
  case round =>
    obtain ⟨k, hk, rfl, hbad⟩ := hrel
    have HB := Lib.hid hbad; clear hbad
    by_cases hlt : k < ns.length
    · obtain ⟨b, o, rfl, _, hc⟩ := hs.at hlt
      have hck := hc k hlt
      clear hc
      have hsz := HM.out ns[k] (List.getElem_mem hlt)
      cases hbk : (!named (sname ns[k]))
      · go_wp2_with (go_at_call 48; (with_reducible refine (notnamed_any _ hsz _).mono ?_); rintro e w' ⟨rfl, rfl⟩)
        go_round
        case rel => exact ⟨k + 1, by omega, by go_num, anyBad_snoc hlt HB.out hbk⟩
        case measure => simp [intOf]; omega
      · go_wp2_with (go_at_call 48; (with_reducible refine (notnamed_any _ hsz _).mono ?_); rintro e w' ⟨rfl, rfl⟩)
        go_ret
        exact ⟨_, rfl, by rw [anyBad_hit hlt hbk, decide_eq_true (by omega)], rfl⟩
    · go_wp2_with fail
      go_ret
      have HB := HB.out
      rw [List.take_of_length_le (by omega)] at HB
      exact ⟨_, rfl, by rw [HB]; rfl, rfl⟩
set_option maxHeartbeats 400000 in
theorem containsbad_any (A : Option Addr) (c : Nat) (ns : List ByteArray) (w : World) (hs : Sl Value.string w A ns) (hm : ∀ n ∈ ns, n.size ≤ maxLen) :
    Calls Try.prog 47 #[.slice A ns.length c, .func (.func 48) #[] #[]] w fun e w' => e = .returned (.bool (anyBad ns)) ∧ w = w' := by
  have HM := Lib.hid hm; clear hm
  go_enter Try.func47, Try.ntmps47
  go_wp2_with fail
  (with_reducible refine (indexbad_any _ _ _ _ hs HM.out).mono ?_); rintro e w' ⟨i, rfl, hi, rfl⟩
  have HI := Lib.hid hi; clear hi
  go_wp2_with fail
  go_ret
  exact ⟨ret_bool HI.out.symm, rfl⟩
end Go.Proofs.Ytepkjnhijocojaa
