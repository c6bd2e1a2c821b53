/- Layer 7: a term and a vote on a disk: plain words, no program. -/
import Derived.Test.YtfpomllhkbbipaaGreatDskP
import Derived.Test.YtfpomllhkbbipaaGreatSumL
import Derived.Test.YtfpomllhkbbipaaGreatPkX
import Derived.KernelRfl
namespace Go.Proofs.YtfpomllhkbbipaaGreat
open Go Pk Dsk

namespace Hd
def nmH : Name := [104, 97, 114, 100]
def nmT : Name := [104, 97, 114, 100, 46, 116, 109, 112]
def rightH (t v : Int) : Bool := decide (0 ≤ t) && (decide (t ≤ 1099511627776) && (decide (0 ≤ v) && decide (v ≤ 7)))
theorem rightH_iff {t v : Int} : rightH t v = true ↔ 0 ≤ t ∧ t ≤ 1099511627776 ∧ 0 ≤ v ∧ v ≤ 7 := by unfold rightH; simp
/-- two numbers and nothing else -/
def twoN (p : List UInt8) : Option (Int × Int) :=
  match getNum p with
  | none => none
  | some (a, k) =>
    match getNum (p.drop k) with
    | none => none
    | some (b, m) => if (p.drop k).drop m = [] then some (a, b) else none
def readH (bs : List UInt8) : Int × Int :=
  if (unframe bs).2.2 = 0 ∧ (unframe bs).2.1 = bs.length then
    match twoN (unframe bs).1 with
    | some (a, b) => if rightH a b = true then (a, b) else (0, 0)
    | none => (0, 0)
  else (0, 0)
theorem readH_right (bs : List UInt8) : rightH (readH bs).1 (readH bs).2 = true := by
  unfold readH
  split
  · split
    · split
      · assumption
      · rfl
    · rfl
  · rfl
/-- the file's bytes -/
def bytesH (t v : Int) : List UInt8 := frameB (numB t ++ numB v)
theorem bytesH_len (t v : Int) : (bytesH t v).length ≤ 28 := by
  have h1 := (numB_len t).2
  have h2 := (numB_len v).2
  unfold bytesH frameB
  simp only [List.length_append, wordB, List.length_cons, List.length_nil]
  omega
theorem twoN_num {t v : Int} (h : rightH t v = true) : twoN (numB t ++ numB v) = some (t, v) := by
  have h := rightH_iff.1 h
  unfold twoN
  rw [getNum_num (by omega) (by omega)]
  simp only [List.drop_left]
  have h2 := getNum_num (n := v) (by omega) (by omega) []
  rw [List.append_nil] at h2
  rw [h2]
  simp
/-- Open: the disk behind it; term and vote; the code -/
def openH (s : S) : S × (Int × Int) × Nat :=
  if s.down then (s, (0, 0), 50)
  else
    let r := if (find nmT s.files).isSome then remove s nmT else (s, 0)
    if r.2 ≠ 0 then (r.1, (0, 0), r.2)
    else if (find nmH s.files).isSome then (r.1, readH (read r.1 nmH).1, 0) else (r.1, (0, 0), 0)
/-- the four steps of a Save -/
def stepsH (s : S) (bs : List UInt8) : S × Nat :=
  if (create s nmT).2 ≠ 0 then create s nmT
  else if (write (create s nmT).1 nmT 0 bs).2 ≠ 0 then write (create s nmT).1 nmT 0 bs
  else if (sync (write (create s nmT).1 nmT 0 bs).1 nmT).2 ≠ 0 then sync (write (create s nmT).1 nmT 0 bs).1 nmT
  else rename (sync (write (create s nmT).1 nmT 0 bs).1 nmT).1 nmT nmH
/-- Save: the disk behind it; term and vote; the code -/
def saveH (s : S) (tv : Int × Int) (t v : Int) : S × (Int × Int) × Nat :=
  if rightH t v = true then
    if tv = (t, v) then (s, tv, 0)
    else
      let r := stepsH s (bytesH t v)
      (r.1, if r.2 = 0 then (t, v) else tv, r.2)
  else (s, tv, 1)
theorem nmT_ok : named nmT = true := by decide
theorem nmH_ok : named nmH = true := by decide
theorem nm_ne : nmT ≠ nmH := by decide
/-- a disk that is up and has no fuse opens -/
theorem openH_ok {s : S} (hd : s.down = false) (hf : s.fuse = 0) : (openH s).2.2 = 0 := by
  unfold openH
  rw [if_neg (by rw [hd]; decide)]
  cases h : find nmT s.files with
  | none => simp only [Option.isSome_none, Bool.false_eq_true, if_false]; split <;> (try split) <;> first | rfl | contradiction
  | some f =>
    have h0 : (remove s nmT).2 = 0 := by
      unfold remove
      rw [step_idle hf]
      simp only [look_found hd nmT_ok h]
    simp only [Option.isSome_some, if_true, h0]
    split <;> (try split) <;> first | rfl | contradiction
theorem crash_up (s : S) (keep : List Bool) : (crash s keep).down = false ∧ (crash s keep).fuse = 0 := ⟨rfl, rfl⟩
end Hd
end Go.Proofs.YtfpomllhkbbipaaGreat
namespace Go.Proofs.YtfpomllhkbbipaaGreat.Hd
open Pk Dsk

theorem step_f (fs : List File) (f : Nat) (h : f ≠ 0) : Dsk.step ⟨fs, false, f⟩ = ⟨fs, decide (f - 1 = 0), f - 1⟩ := by
  unfold Dsk.step; rw [if_pos ⟨by show 0 < f; omega, rfl⟩]
theorem step_z (fs : List File) (d : Bool) : Dsk.step ⟨fs, d, 0⟩ = ⟨fs, d, 0⟩ := step_idle rfl
/-- what a disk holds ahead of a Save: nothing, or one file -/
def old : Option (List UInt8) → List File
  | none => []
  | some b => [⟨nmH, b, b⟩]
def withT (o : Option (List UInt8)) (x y : List UInt8) : List File := old o ++ [⟨nmT, x, y⟩]
theorem look_old (o : Option (List UInt8)) (f : Nat) : Dsk.look ⟨old o, false, f⟩ [nmT] = (none, 4) := look_none rfl nmT_ok (by cases o <;> rfl)
theorem look_withT (o : Option (List UInt8)) (x y : List UInt8) (f : Nat) : Dsk.look ⟨withT o x y, false, f⟩ [nmT] = (some ⟨nmT, x, y⟩, 0) := look_found rfl nmT_ok (by cases o <;> rfl)
theorem put_old (o : Option (List UInt8)) : put ⟨nmT, [], []⟩ (old o) = withT o [] [] := by cases o <;> rfl
theorem old_len (o : Option (List UInt8)) : (old o).length ≠ 256 := by cases o <;> simp [old]
/-- one step on either kind of disk: its fuse -/
def nextF (f : Nat) : Bool × Nat := if f = 0 then (false, 0) else (decide (f - 1 = 0), f - 1)
theorem step_any (fs : List File) (f : Nat) : Dsk.step ⟨fs, false, f⟩ = ⟨fs, (nextF f).1, (nextF f).2⟩ := by
  unfold nextF
  split
  · rename_i h; subst h; exact step_z fs false
  · exact step_f fs f ‹_›
theorem create_up (o : Option (List UInt8)) (f : Nat) (h : (nextF f).1 = false) : create ⟨old o, false, f⟩ nmT = (⟨withT o [] [], false, (nextF f).2⟩, 0) := by
  unfold create
  rw [step_any, h]
  simp only [look_old]
  rw [if_pos trivial, if_neg (old_len o), put_old]
theorem create_down (o : Option (List UInt8)) (f : Nat) (h : (nextF f).1 = true) : create ⟨old o, false, f⟩ nmT = (⟨old o, true, (nextF f).2⟩, 50) := by
  unfold create
  rw [step_any, h]
  simp only [look_down (show (S.mk (old o) true (nextF f).2).down = true from rfl)]
  rfl
theorem upd_withT (o : Option (List UInt8)) (x y : List UInt8) (g : File → File) : upd nmT g (withT o x y) = old o ++ [g ⟨nmT, x, y⟩] := by cases o <;> rfl
theorem write_up (o : Option (List UInt8)) (bs : List UInt8) (f : Nat) (h : (nextF f).1 = false) (hl : bs.length ≤ 1000) : write ⟨withT o [] [], false, f⟩ nmT 0 bs = (⟨withT o bs [], false, (nextF f).2⟩, 0) := by
  unfold write
  rw [step_any, h]
  simp only [look_withT]
  rw [if_neg (by simp), if_neg (by omega), upd_withT]
  simp [over, withT]
theorem write_down (o : Option (List UInt8)) (bs : List UInt8) (f : Nat) (h : (nextF f).1 = true) : write ⟨withT o [] [], false, f⟩ nmT 0 bs = (⟨withT o [] [], true, (nextF f).2⟩, 50) := by
  unfold write
  rw [step_any, h]
  simp only [look_down (show (S.mk (withT o [] []) true (nextF f).2).down = true from rfl)]
theorem sync_up (o : Option (List UInt8)) (bs : List UInt8) (f : Nat) (h : (nextF f).1 = false) : sync ⟨withT o bs [], false, f⟩ nmT = (⟨withT o bs bs, false, (nextF f).2⟩, 0) := by
  unfold sync
  rw [step_any, h]
  simp only [look_withT]
  rw [upd_withT]
  rfl
theorem sync_down (o : Option (List UInt8)) (bs : List UInt8) (f : Nat) (h : (nextF f).1 = true) : sync ⟨withT o bs [], false, f⟩ nmT = (⟨withT o bs [], true, (nextF f).2⟩, 50) := by
  unfold sync
  rw [step_any, h]
  simp only [look_down (show (S.mk (withT o bs []) true (nextF f).2).down = true from rfl)]
theorem look2_withT (o : Option (List UInt8)) (x y : List UInt8) (f : Nat) : Dsk.look ⟨withT o x y, false, f⟩ [nmT, nmH] = (some ⟨nmT, x, y⟩, 0) := by cases o <;> rfl
theorem rename_up (o : Option (List UInt8)) (bs : List UInt8) (f : Nat) (h : (nextF f).1 = false) : rename ⟨withT o bs bs, false, f⟩ nmT nmH = (⟨old (some bs), false, (nextF f).2⟩, 0) := by
  unfold rename
  rw [step_any, h]
  simp only [look2_withT]
  cases o <;> rfl
theorem rename_down (o : Option (List UInt8)) (bs : List UInt8) (f : Nat) (h : (nextF f).1 = true) : rename ⟨withT o bs bs, false, f⟩ nmT nmH = (⟨withT o bs bs, true, (nextF f).2⟩, 50) := by
  unfold rename
  rw [step_any, h]
  simp only [look_down (show (S.mk (withT o bs bs) true (nextF f).2).down = true from rfl)]
/-- the four steps: at which the power goes, and what is there then -/
def afterH (o : Option (List UInt8)) (bs : List UInt8) (f : Nat) : S × Nat :=
  if f = 1 then (⟨old o, true, 0⟩, 50)
  else if f = 2 then (⟨withT o [] [], true, 0⟩, 50)
  else if f = 3 then (⟨withT o bs [], true, 0⟩, 50)
  else if f = 4 then (⟨withT o bs bs, true, 0⟩, 50)
  else (⟨old (some bs), false, f - 4⟩, 0)
theorem nextF_zero : nextF 0 = (false, 0) := rfl
theorem nextF_one : nextF 1 = (true, 0) := rfl
theorem nextF_succ (k : Nat) : nextF (k + 2) = (false, k + 1) := rfl
theorem steps_after (o : Option (List UInt8)) (bs : List UInt8) (f : Nat) (hl : bs.length ≤ 1000) : stepsH ⟨old o, false, f⟩ bs = afterH o bs f := by
  unfold stepsH afterH
  match f with
  | 0 => simp [create_up o 0 rfl, nextF_zero, write_up o bs 0 rfl hl, sync_up o bs 0 rfl, rename_up o bs 0 rfl]
  | 1 => simp [create_down o 1 rfl, nextF_one]
  | 2 => simp [create_up o 2 rfl, nextF_succ, nextF_one, write_down o bs 1 rfl]
  | 3 => simp [create_up o 3 rfl, nextF_succ, nextF_one, write_up o bs 2 rfl hl, sync_down o bs 1 rfl]
  | 4 => simp [create_up o 4 rfl, nextF_succ, nextF_one, write_up o bs 3 rfl hl, sync_up o bs 2 rfl, rename_down o bs 1 rfl]
  | k + 5 =>
    have h1 := create_up o (k + 5) rfl
    have h2 := write_up o bs (k + 4) rfl hl
    have h3 := sync_up o bs (k + 3) rfl
    have h4 := rename_up o bs (k + 2) rfl
    simp [h1, nextF_succ, h2, h3, h4]
/-! behind a loss of power -/
theorem kept_same (n : Name) (b : List UInt8) (keep : List Bool) (k : Nat) : keptBytes ⟨n, b, b⟩ keep k = (b, k) := by
  unfold keptBytes; rw [loose_same]; rfl
theorem crash_old (o : Option (List UInt8)) (d : Bool) (f : Nat) (keep : List Bool) : crash ⟨old o, d, f⟩ keep = ⟨old o, false, 0⟩ := by
  cases o with
  | none => rfl
  | some b => unfold crash old; simp only [crashFiles, kept_same]
theorem crash_withT (o : Option (List UInt8)) (x y : List UInt8) (d : Bool) (f : Nat) (keep : List Bool) : ∃ z, crash ⟨withT o x y, d, f⟩ keep = ⟨withT o z z, false, 0⟩ := by
  cases o with
  | none => exact ⟨_, rfl⟩
  | some b => exact ⟨(keptBytes ⟨nmT, x, y⟩ keep 0).1, by unfold crash withT old; simp only [List.cons_append, List.nil_append, crashFiles, kept_same]⟩
def tvO : Option (List UInt8) → Int × Int
  | none => (0, 0)
  | some b => readH b
theorem open_old (o : Option (List UInt8)) : openH ⟨old o, false, 0⟩ = (⟨old o, false, 0⟩, tvO o, 0) := by cases o <;> rfl
theorem open_withT (o : Option (List UInt8)) (z : List UInt8) : openH ⟨withT o z z, false, 0⟩ = (⟨old o, false, 0⟩, tvO o, 0) := by cases o <;> rfl
/-- whatever happened at a Save: what is kept behind it -/
theorem after_crash (o : Option (List UInt8)) (bs : List UInt8) (f : Nat) (keep : List Bool) :
    ((afterH o bs f).2 = 0 ∧ openH (crash (afterH o bs f).1 keep) = (⟨old (some bs), false, 0⟩, readH bs, 0)) ∨
    ((afterH o bs f).2 = 50 ∧ (afterH o bs f).1.down = true ∧ openH (crash (afterH o bs f).1 keep) = (⟨old o, false, 0⟩, tvO o, 0)) := by
  unfold afterH
  split
  · right; exact ⟨rfl, rfl, by rw [crash_old, open_old]⟩
  · split
    · right; refine ⟨rfl, rfl, ?_⟩
      obtain ⟨z, hz⟩ := crash_withT o [] [] true 0 keep
      rw [hz, open_withT]
    · split
      · right; refine ⟨rfl, rfl, ?_⟩
        obtain ⟨z, hz⟩ := crash_withT o bs [] true 0 keep
        rw [hz, open_withT]
      · split
        · right; refine ⟨rfl, rfl, ?_⟩
          obtain ⟨z, hz⟩ := crash_withT o bs bs true 0 keep
          rw [hz, open_withT]
        · left; exact ⟨rfl, by rw [crash_old, open_old]; rfl⟩
theorem readH_bytes {t v : Int} (h : rightH t v = true) : readH (bytesH t v) = (t, v) := by
  have hl : (numB t ++ numB v).length ≤ 20 := by have h1 := (numB_len t).2; have h2 := (numB_len v).2; rw [List.length_append]; omega
  have hu : unframe (bytesH t v) = (numB t ++ numB v, 8 + (numB t ++ numB v).length, 0) := by
    have := unframe_frame (p := numB t ++ numB v) (by omega) []
    rw [List.append_nil] at this
    exact this
  have hb : (bytesH t v).length = 8 + (numB t ++ numB v).length := by
    unfold bytesH frameB wordB
    simp only [List.length_append, List.length_cons, List.length_nil]
  unfold readH
  rw [hu, if_pos ⟨rfl, hb.symm⟩, twoN_num h]
  simp only
  rw [if_pos h]
end Go.Proofs.YtfpomllhkbbipaaGreat.Hd
