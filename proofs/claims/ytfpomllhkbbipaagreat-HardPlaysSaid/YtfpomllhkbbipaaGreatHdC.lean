/- Layer 7: the contracts as the laws use them; the document's example. -/
import Derived.Test.YtfpomllhkbbipaaGreatHdS
import Derived.Test.YtfpomllhkbbipaaGreatHdL
import Derived.Test.YtfpomllhkbbipaaGreatByt
namespace Go.Proofs.YtfpomllhkbbipaaGreat
open Go Go.RowKit Go.Maps Go.Lib Mem Pk Dsk Hd

/-- a hard that a law has made: all lies from block B on -/
abbrev HA (B p hb : Nat) (s : S) (tv : Int × Int) (w : World) : Prop := HAt (fun _ => False) B p hb s tv w
section
variable {B p hb : Nat} {s s' : S} {tv tv' : Int × Int} {w : World}
theorem D.toX (h : D B p s w) : DX (fun _ => False) B p s w := h.protect (Below.refl _ _) (fun _ h => h.elim)
theorem HAt.d (h : HA B p hb s tv w) : D B p s w := h.dx.drop
theorem L_hOpen (h : D B p s w) (ho : openH s = (s', tv, 0)) : Calls Tryz.prog 6 #[.pointer (some ⟨p, 0, none⟩)] w fun e w' => ∃ hb, e = .returned (.tuple #[.pointer (some ⟨hb, 0, none⟩), .int .i64 0]) ∧ HA B p hb s' tv w' ∧ Below B w w' :=
  (hOpen_any h.toX).mono fun e w' ⟨h1, _, _, h3⟩ => by
    rw [ho] at h3
    obtain ⟨hb, he, ha⟩ := h3 rfl
    exact ⟨hb, he, ha, h1⟩
theorem L_hSave (h : HA B p hb s tv w) (t v : Int) {k : Nat} {ki : Int} (hs : saveH s tv t v = (s', tv', k)) (hk : (k : Int) = ki) : Calls Tryz.prog 8 #[.pointer (some ⟨hb, 0, none⟩), .int .i64 t, .int .i64 v] w fun e w' => e = .returned (.int .i64 ki) ∧ HA B p hb s' tv' w' ∧ Below B w w' :=
  (hSave_any h t v).mono fun e w' ⟨h1, h2, h3, _⟩ => by
    rw [hs] at h1 h2
    subst hk
    exact ⟨h1, h2, h3⟩
theorem L_hTerm (h : HA B p hb s tv w) : Calls Tryz.prog 14 #[.pointer (some ⟨hb, 0, none⟩)] w fun e w' => e = .returned (.int .i64 tv.1) ∧ w = w' := by
  have c0 : w.cell? ⟨hb, 1, none⟩ = some (.int .i64 tv.1) := h.blk.cell 1
  clear h
  go_enter Tryz.func14, Tryz.ntmps14
  go_wp2_with fail
  go_ret
  exact ⟨rfl, rfl⟩
theorem L_hVote (h : HA B p hb s tv w) : Calls Tryz.prog 15 #[.pointer (some ⟨hb, 0, none⟩)] w fun e w' => e = .returned (.int .i64 tv.2) ∧ w = w' := by
  have c0 : w.cell? ⟨hb, 2, none⟩ = some (.int .i64 tv.2) := h.blk.cell 2
  clear h
  go_enter Tryz.func15, Tryz.ntmps15
  go_wp2_with fail
  go_ret
  exact ⟨rfl, rfl⟩
theorem L_bTerm {v0 : Value} {a b : Int} (h : Blk w hb 62 #[v0, .int .i64 a, .int .i64 b]) : Calls Tryz.prog 14 #[.pointer (some ⟨hb, 0, none⟩)] w fun e w' => e = .returned (.int .i64 a) ∧ w = w' := by
  have c0 : w.cell? ⟨hb, 1, none⟩ = some (.int .i64 a) := h.cell 1
  clear h
  go_enter Tryz.func14, Tryz.ntmps14
  go_wp2_with fail
  go_ret
  exact ⟨rfl, rfl⟩
theorem L_bVote {v0 : Value} {a b : Int} (h : Blk w hb 62 #[v0, .int .i64 a, .int .i64 b]) : Calls Tryz.prog 15 #[.pointer (some ⟨hb, 0, none⟩)] w fun e w' => e = .returned (.int .i64 b) ∧ w = w' := by
  have c0 : w.cell? ⟨hb, 2, none⟩ = some (.int .i64 b) := h.cell 2
  clear h
  go_enter Tryz.func15, Tryz.ntmps15
  go_wp2_with fail
  go_ret
  exact ⟨rfl, rfl⟩
theorem L_hFail (h : HA B p hb s tv w) (n : Int) (hn : (Lit.int .i64 n).wf = true) : Calls Tryz.prog 10 #[.pointer (some ⟨p, 0, none⟩), .int .i64 n] w fun e w' => e = .returned (.tuple #[]) ∧ HA B p hb { s with fuse := n.toNat } tv w' ∧ Below B w w' :=
  (Fail_any h.dx.at_ n hn).mono fun _ _ ⟨he, hd, hf⟩ => by
    have h2 := frmX h.dx.le h.dx.old hf
    exact ⟨he, ⟨⟨hd, Nat.le_trans h.dx.le hf.size, fun g hg => Nat.lt_of_lt_of_le (h.dx.old g hg) hf.size⟩, (h2.2 hb (.inr rfl)).trans h.blk, h.big, h.notG⟩, h2.1⟩
theorem L_hDown (h : HA B p hb s tv w) {k : Bool} (h1 : s.down = k) : Calls Tryz.prog 18 #[.pointer (some ⟨p, 0, none⟩)] w fun e w' => e = .returned (.bool k) ∧ w = w' := L_Down h.d h1
end
/-! the example -/
def aA : S := (saveH s0 (0, 0) 3 2).1
def aF : S := { aA with fuse := 4 }
def aB : S := (saveH aF (3, 2) 4 0).1
def aC : S := (openH (crash aB [])).1
theorem o0 : openH s0 = (s0, (0, 0), 0) := rfl
theorem sv1 : saveH s0 (0, 0) 3 2 = (aA, (3, 2), 0) := by kernel_rfl
theorem sv2 : saveH aF (3, 2) 4 0 = (aB, (3, 2), 50) := by kernel_rfl
theorem op3 : openH (crash aB []) = (aC, (3, 2), 0) := by kernel_rfl
theorem nm3 : (snames aC).length = 1 := by kernel_rfl
set_option maxRecDepth 100000 in
set_option maxHeartbeats 2000000 in
theorem alive_any (w : World) : Calls Tryz.prog 5 #[] w fun e w' => e = .returned (.bool true) ∧ Below w.heap.size w w' := by
  go_enter Tryz.func5, Tryz.ntmps5
  go_wp2_with fail
  (with_reducible refine (L_New w w.heap.size (Nat.le_refl _)).mono ?_); rintro e w1 ⟨p, rfl, hd1, -, hb1⟩
  have HD1 := Lib.hid hd1
  have HB1 := Lib.hid hb1
  clear hd1 hb1
  go_wp2_with fail
  (with_reducible refine (L_hOpen HD1.out o0).mono ?_); rintro e w2 ⟨hb, rfl, ha2, hb2⟩
  have HA2 := Lib.hid ha2
  have HB2 : Hid (Below w.heap.size w w2) := Lib.hid (HB1.out.trans hb2)
  clear ha2 hb2 HB1 HD1
  go_wp2_with fail
  (with_reducible refine (L_hSave HA2.out 3 2 sv1 (ki := 0) rfl).mono ?_); rintro e w3 ⟨rfl, ha3, hb3⟩
  have HA3 := Lib.hid ha3
  have HB3 : Hid (Below w.heap.size w w3) := Lib.hid (HB2.out.trans hb3)
  clear ha3 hb3 HB2 HA2
  go_wp2_with fail
  (with_reducible refine (L_hFail HA3.out 4 (by decide)).mono ?_); rintro e w4 ⟨rfl, ha4, hb4⟩
  have HA4 := Lib.hid (show HA w.heap.size p hb aF (3, 2) w4 from ha4)
  have HB4 : Hid (Below w.heap.size w w4) := Lib.hid (HB3.out.trans hb4)
  clear ha4 hb4 HB3 HA3
  go_wp2_with fail
  (with_reducible refine (L_hSave HA4.out 4 0 sv2 (ki := 50) rfl).mono ?_); rintro e w5 ⟨rfl, ha5, hb5⟩
  have HD5 := Lib.hid ha5.d
  have HB5 : Hid (Below w.heap.size w w5) := Lib.hid (HB4.out.trans hb5)
  have HCR := Lib.hid (L_Crash HD5.out (c := 0) (SlB.nil (f := fBool) (e := 4) (F := fun _ => False) (A := none)) (.inl (by decide)) rfl)
  clear ha5 hb5 HB4 HA4
  change Hid (Calls _ _ #[.pointer (some ⟨p, 0, none⟩), .slice none 0 0] _ _) at HCR
  go_wp2_with fail
  (with_reducible refine HCR.out.mono ?_); rintro e w6 ⟨rfl, hd6, hb6⟩
  have HD6 := Lib.hid hd6
  have HB6 : Hid (Below w.heap.size w w6) := Lib.hid (HB5.out.trans hb6)
  clear hd6 hb6 HB5 HD5 HCR
  go_wp2_with fail
  (with_reducible refine (L_hOpen HD6.out op3).mono ?_); rintro e w7 ⟨hb7, rfl, ha7, hb7'⟩
  have HA7 := Lib.hid ha7
  have HB7 : Hid (Below w.heap.size w w7) := Lib.hid (HB6.out.trans hb7')
  clear ha7 hb7' HB6 HD6
  go_wp2_with fail
  (with_reducible refine (L_hTerm HA7.out).mono ?_); rintro e w' ⟨rfl, rfl⟩
  go_wp2_with fail
  (with_reducible refine (L_hVote HA7.out).mono ?_); rintro e w' ⟨rfl, rfl⟩
  have hnl := nm3
  go_wp2_with fail
  (with_reducible refine (L_Names HA7.out.d).mono ?_); rintro e w8 ⟨A8, c8, rfl, -, -, hb8⟩
  have HB8 : Hid (Below w.heap.size w w8) := Lib.hid (HB7.out.trans (hb8.mono HB7.out.size))
  clear hb8
  go_wp2_with fail
  go_ret
  exact ⟨rfl, HB8.out⟩
end Go.Proofs.YtfpomllhkbbipaaGreat
