/- Layer 5: the walks of look and change. -/
import Derived.Test.YtepkjnhijocojaaDskW
namespace Go.Proofs.Ytepkjnhijocojaa
open Go.RowKit Go.Maps Mem Dsk

/-- what look answers: the file's block, or none; the error's number -/
def lookV (s : S) (rs : List Rec) (ns : List ByteArray) : Option Rec × Nat :=
  if s.down then (none, 50) else if anyBad ns then (none, 1) else
    match findR (sname (ns.headD ByteArray.empty)) rs with
    | some r => (some r, 0)
    | none => (none, 4)
def ptrOf : Option Rec → Value
  | some r => .pointer (some ⟨r.fb, 0, none⟩)
  | none => .pointer none
def tupleOf (x : Option Rec × Nat) : Value := .tuple #[ptrOf x.1, .int .i64 x.2]
theorem anyBad_map (ns : List ByteArray) : anyBad ns = (ns.map sname).any (fun n => !named n) := by unfold anyBad; rw [List.any_map]; rfl
theorem lookV_look {s : S} {rs : List Rec} (h : rs.map Rec.file = s.files) (ns : List ByteArray) (hne : ns ≠ []) :
    Dsk.look s (ns.map sname) = ((lookV s rs ns).1.map Rec.file, (lookV s rs ns).2) := by
  unfold Dsk.look lookV
  rw [← anyBad_map]
  split
  · rfl
  · split
    · rfl
    · match ns, hne with
      | n :: r, _ =>
        show (match find (sname n) s.files with | some f => (some f, 0) | none => (none, 4)) = _
        rw [← h, findR_file]
        show _ = (Option.map Rec.file (match findR (sname n) rs with | some r => (some r, 0) | none => (none, 4)).1, (match findR (sname n) rs with | some r => (some r, 0) | none => (none, 4)).2)
        cases findR (sname n) rs <;> rfl
theorem lookV_rec {s : S} {rs : List Rec} {ns : List ByteArray} {r : Rec} {e : Nat} (h : lookV s rs ns = (some r, e)) : e = 0 ∧ findR (sname (ns.headD ByteArray.empty)) rs = some r := by
  unfold lookV at h
  split at h
  · simp at h
  · split at h
    · simp at h
    · split at h
      · rename_i r' hf
        simp at h; obtain ⟨rfl, rfl⟩ := h; exact ⟨rfl, hf⟩
      · simp at h
def LookPost (s : S) (rs : List Rec) (ns : List ByteArray) (w : World) (e : Ending) (w' : World) : Prop :=
  e = .returned (tupleOf (lookV s rs ns)) ∧ ∃ k, w' = w.drewN k
set_option maxHeartbeats 400000 in
theorem look_any {F : Nat → Prop} {w : World} {p : Nat} {s : S} {mb : Nat} {rs : List Rec} (h : Rep F w p s mb rs) (A : Option Addr) (c : Nat) (ns : List ByteArray) (hne : 0 < ns.length)
    (hs : Sl Value.string w A ns) (hm : ∀ n ∈ ns, n.size ≤ maxLen) :
    Calls Try.prog 33 #[.pointer (some ⟨p, 0, none⟩), .slice A ns.length c] w (LookPost s rs ns w) := by
  have hb := h.blk
  have c0 : w.cell? ⟨p, 0, none⟩ = some (.map (some mb)) := hb.cell 0
  have c1 : w.cell? ⟨p, 1, none⟩ = some (.bool s.down) := hb.cell 1
  have hl := hs.len
  by_cases hd : s.down = true
  · have hv : lookV s rs ns = (none, 50) := by unfold lookV; rw [if_pos hd]
    have HV := Lib.hid hv; clear hv hb h hs hm
    go_enter Try.func33, Try.ntmps33
    go_wp2_with fail
    go_ret2
    exact ⟨by rw [HV.out]; rfl, 0, rfl⟩
  have hd : s.down = false := by simpa using hd
  by_cases hbad : anyBad ns = true
  · have hv : lookV s rs ns = (none, 1) := by unfold lookV; rw [if_neg (by rw [hd]; decide), if_pos hbad]
    have HV := Lib.hid hv; clear hv hb h
    have HM := Lib.hid hm; clear hm
    go_enter Try.func33, Try.ntmps33
    go_wp2_with (go_at_call 47; (with_reducible refine (containsbad_any _ _ _ _ hs HM.out).mono ?_); rintro e w' ⟨rfl, rfl⟩)
    go_ret2
    exact ⟨by rw [HV.out]; rfl, 0, rfl⟩
  have hbad : anyBad ns = false := by simpa using hbad
  have hv : lookV s rs ns = (match findR (sname (ns.headD ByteArray.empty)) rs with | some r => (some r, 0) | none => (none, 4)) := by
    unfold lookV; rw [if_neg (by rw [hd]; decide), if_neg (by rw [hbad]; decide)]
  obtain ⟨b, o, rfl, _, hc⟩ := hs.at hne
  have hc0 : w.cell? ⟨b, o, none⟩ = some (.string ns[0]) := hc 0 hne
  have hh : ns.headD ByteArray.empty = ns[0] := by cases ns with | nil => simp at hne | cons a r => rfl
  rw [hh] at hv
  have hlk := h.lookup ns[0] (hm _ (List.getElem_mem hne)) fileZero
  have hlen0 : (0 : Int) < (ns.length : Int) := by omega
  have HM := Lib.hid hm; clear hm
  clear hc hb h hh
  rw [show ns[0].data.toList = sname ns[0] from rfl] at hlk
  cases hf : findR (sname ns[0]) rs with
  | none =>
    rw [hf] at hv hlk
    have HV := Lib.hid hv; clear hv hf
    go_enter Try.func33, Try.ntmps33
    go_wp2_with (go_at_call 47; (with_reducible refine (containsbad_any _ _ _ _ hs HM.out).mono ?_); rintro e w' ⟨rfl, rfl⟩)
    go_quiet (fail)
    go_wp2_with fail
    go_ret2
    exact ⟨by rw [HV.out]; rfl, _, rfl⟩
  | some r =>
    rw [hf] at hv hlk
    have HV := Lib.hid hv; clear hv hf
    go_enter Try.func33, Try.ntmps33
    go_wp2_with (go_at_call 47; (with_reducible refine (containsbad_any _ _ _ _ hs HM.out).mono ?_); rintro e w' ⟨rfl, rfl⟩)
    go_quiet (fail)
    go_wp2_with fail
    go_ret2
    exact ⟨by rw [HV.out]; rfl, _, rfl⟩

/-- what change leaves: the step is counted -/
def ChangePost (F : Nat → Prop) (p : Nat) (s : S) (mb : Nat) (rs : List Rec) (ns : List ByteArray) (w : World) (e : Ending) (w' : World) : Prop :=
  e = .returned (tupleOf (lookV (Dsk.step s) rs ns)) ∧ Rep F w' p (Dsk.step s) mb rs ∧ Frm (fun g => g = p) w w'
theorem step_files (s : S) : (Dsk.step s).files = s.files := by unfold Dsk.step; split <;> rfl
set_option maxHeartbeats 400000 in
theorem change_any {F : Nat → Prop} {w : World} {p : Nat} {s : S} {mb : Nat} {rs : List Rec} (h : Rep F w p s mb rs) (A : Option Addr) (c : Nat) (ns : List ByteArray) (hne : 0 < ns.length)
    {G : Nat → Prop} (hs : SlB Value.string 9 G w A ns) (hG : ¬ G p) (hm : ∀ n ∈ ns, n.size ≤ maxLen) :
    Calls Try.prog 29 #[.pointer (some ⟨p, 0, none⟩), .slice A ns.length c] w (ChangePost F p s mb rs ns w) := by
  have HM := Lib.hid hm; clear hm
  go_enter Try.func29, Try.ntmps29
  go_wp2_with fail
  (with_reducible refine (step_any h).mono ?_); rintro e w1 ⟨rfl, h1, hf1⟩
  have hs1 : SlB Value.string 9 G w1 A ns := hs.frm hf1 (fun g hg e => hG (by rw [← e]; exact hg))
  have HF := Lib.hid hf1; clear hf1
  go_wp2_with fail
  (with_reducible refine (look_any h1 _ _ _ hne hs1.sl HM.out).mono ?_); rintro e w2 ⟨rfl, k, rfl⟩
  unfold tupleOf
  go_wp2_with fail
  go_ret2
  exact ⟨rfl, h1.below (below_drewN (Below.refl _ _) k), HF.out.drewN k⟩
end Go.Proofs.Ytepkjnhijocojaa
