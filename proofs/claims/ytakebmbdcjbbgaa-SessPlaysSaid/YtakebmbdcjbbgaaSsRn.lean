/- Layer 13: the document's Join with its frame; num; the state of Bytes. -/
import Derived.Test.YtakebmbdcjbbgaaSsPt
import Derived.Test.YtakebmbdcjbbgaaSsBu
import Derived.Test.YtakebmbdcjbbgaaRj
import Derived.Test.YtakebmbdcjbbgaaPkP
namespace Go.Proofs.Ytakebmbdcjbbgaa
open Go Go.RowKit Go.Maps Go.Lib Mem Pk Ss

/-- the row lies where it lay, or in a block laid since -/
def AtOr (w : World) (va v : Value) : Prop := v.ownBlock = va.ownBlock ∨ ∃ g, v.ownBlock = some g ∧ w.heap.size ≤ g
theorem AtOr.step {w wr : World} {va v v' : Value} (h : AtOr w va v) (hw : w.heap.size ≤ wr.heap.size) (hat : v'.ownBlock = v.ownBlock ∨ v'.ownBlock = some (wr.heap.size + 1)) : AtOr w va v' := by
  rcases hat with hat | hat
  · unfold AtOr; rw [hat]; exact h
  · exact .inr ⟨_, hat, by omega⟩
theorem AtOr.inside {w : World} {va v : Value} (h : AtOr w va v) {k : Nat} (hk : v.ownBlock = some k) (hlt : k < w.heap.size) : va.ownBlock = some k := by
  rcases h with h | ⟨g, h1, h2⟩
  · rw [← h]; exact hk
  · rw [hk] at h1; injection h1 with h1; omega
def JfPost (base : Nat) (va : Value) (ys : List UInt8) (w : World) (e : Ending) (w' : World) : Prop :=
  ∃ v', e = .returned v' ∧ Mem.Own fB base 5 w' v' ys ∧ AtOr w va v' ∧ Frm (fun g => va.ownBlock = some g) w w'
def JfRel (base base' : Nat) (va : Value) (xs ys : List UInt8) (vb : Value) (w : World) (av iv : Value) (wr : World) : Prop :=
  ∃ k : Nat, k ≤ ys.length ∧ iv = .int .i64 k ∧ Mem.Own fB base 5 wr av (xs ++ ys.take k) ∧ Mem.Own fB base' 5 wr vb ys ∧ Apart av vb ∧ AtOr w va av ∧ Frm (fun g => va.ownBlock = some g) w wr
set_option maxRecDepth 100000 in
set_option maxHeartbeats 2000000 in
theorem Join_f {base base' : Nat} {w : World} {va vb : Value} {xs ys : List UInt8} (h : Mem.Own fB base 5 w va xs) (h' : Mem.Own fB base' 5 w vb ys) (hap : Apart va vb) (hb : base ≤ w.heap.size) (hl : xs.length + ys.length ≤ 140737488355000) :
    Calls Try.prog 59 #[va, vb] w (JfPost base va (xs ++ ys) w) := by
  obtain ⟨B, c, rfl⟩ := h'.form
  have H := Lib.hid h; clear h
  have H' := Lib.hid h'; clear h'
  have HAP := Lib.hid hap; clear hap
  go_enter Try.func59, Try.ntmps59
  go_wp2_with fail
  go_loopw [0, 5] (fun av iv wr => JfRel base base' va xs ys (.slice B ys.length c) w av iv wr) (fun _ iv _ => ys.length - (intOf iv).toNat)
  case atStart => exact ⟨0, Nat.zero_le _, rfl, by rw [List.take_zero, List.append_nil]; exact H.out, H'.out, HAP.out, .inl rfl, Frm.refl _ _⟩
  case round =>
    obtain ⟨k, hk, rfl, hown, hown', hap, hat, hbw⟩ := hrel
    have HAT := Lib.hid hat; clear hat
    have HOWN := Lib.hid hown; clear hown
    have HOWN' := Lib.hid hown'; clear hown'
    have HAP2 := Lib.hid hap; clear hap
    have HBW := Lib.hid hbw; clear hbw
    have hwz := HBW.out.size
    have hbz := Nat.le_trans hb hwz
    by_cases hlt : k < ys.length
    · obtain ⟨b, o, rfl, _, hc⟩ := HOWN'.out.sl.2.at hlt
      have c1 := hc k hlt
      obtain ⟨y, hy⟩ : ∃ y, y = ys[k] := ⟨_, rfl⟩
      rw [← hy] at c1; unfold fB at c1
      have HTK : Hid (ys.take (k + 1) = ys.take k ++ [y]) := by show _ = _; rw [hy]; exact List.take_succ_eq_append_getElem hlt
      clear hy hc
      have hxl : (xs ++ ys.take k).length ≤ xs.length + ys.length := by rw [List.length_append, List.length_take]; omega
      have H63 : Hid ((xs ++ ys.take k).length + 1 ≤ maxLen) := by show _ ≤ _; unfold maxLen; omega
      have HBY : Hid (((xs ++ ys.take k).length + 1) * 1 ≤ 140737488355328) := by show _ ≤ _; omega
      clear hxl
      have hk0 : (0 : Int) ≤ (k : Int) := by omega
      have hk1 : (k : Int) < (ys.length : Int) := by omega
      go_wp2_with (at_builtin; refine wpList_append1at (f := fB) rfl (.tmp 12) (.tmp 17) 55 rfl u8T y (fB_oneJ _) rfl HOWN.out rfl rfl H63.out HBY.out hbz ?_; intro v7 w7 ho7 hg7 hat7)
      go_roundw
      case rel => exact ⟨k + 1, by omega, by go_num, by rw [HTK.out, ← List.append_assoc]; exact ho7, (HOWN'.out.alloc _).other HAP2.out.symm hg7, HAP2.out.grown HOWN'.out hat7, HAT.out.step hwz hat7, (HBW.out.alloc _).grown hg7 (fun k hk hlt => HAT.out.inside hk hlt)⟩
      case measure => simp [intOf]; omega
    · have hk9 : k = ys.length := by omega
      subst hk9
      rw [List.take_length] at HOWN
      go_wp2_with fail
      go_ret
      exact ⟨_, rfl, HOWN.out, HAT.out, HBW.out⟩
def RnP (base : Nat) (va : Value) (ys : List UInt8) (w : World) (e : Ending) (w' : World) : Prop :=
  ∃ v', e = .returned v' ∧ Mem.Own fB base 5 w' v' ys ∧ Frm (fun g => va.ownBlock = some g) w w'
set_option maxRecDepth 100000 in
set_option maxHeartbeats 1000000 in
theorem rnum_any {base : Nat} {w : World} {va : Value} {xs : List UInt8} (h : Mem.Own fB base 5 w va xs) (hb : base ≤ w.heap.size) (hl : xs.length ≤ 10000000) (n : Int) (h1 : 0 ≤ n) (h2 : n ≤ 9223372036854775807) :
    Calls Try.prog 41 #[va, .int .i64 n] w (RnP base va (xs ++ numB n) w) := by
  have HNM := Lib.hid (RNum_pos (w := w) n h1 h2)
  have H := Lib.hid h
  have HB := Lib.hid hb
  have HL := Lib.hid hl
  clear h hb hl h1 h2
  go_enter Try.func41, Try.ntmps41
  go_wp2_with fail
  (with_reducible refine HNM.out.mono ?_); rintro e w2 ⟨vb, rfl, ho2, hb2⟩
  have HJ := Lib.hid (Join_f (H.out.below hb2) ho2 (fun k k1 k2 => by have := (H.out.lt k k1).2; have := (ho2.lt k k2).1; omega) (Nat.le_trans HB.out hb2.size) (by have := numB_len n; have := HL.out; omega))
  have HB2 := Lib.hid hb2
  clear hb2 ho2
  go_wp2_with fail
  (with_reducible refine HJ.out.mono ?_); rintro e w3 ⟨va3, rfl, ho3, -, hf3⟩
  go_wp2_with fail
  go_ret
  exact ⟨_, rfl, ho3, (Frm.below HB2.out).trans hf3⟩
/-- the bytes so far, and what is kept of the session -/
structure RbI (w1 : World) (kv : Value) (ks : List RI) (xs : List UInt8) (v : Value) (W : World) : Prop where
  own : Mem.Own fB w1.heap.size 5 W v xs
  below : Below w1.heap.size w1 W
  kept : OwnK 4 riN w1.heap.size 46 W kv ks
theorem RbI.num {w1 W W' : World} {kv v : Value} {ks : List RI} {xs ys : List UInt8} (h : RbI w1 kv ks xs v W) {e : Ending} (hn : RnP w1.heap.size v ys W e W') : ∃ v', e = .returned v' ∧ RbI w1 kv ks ys v' W' := by
  obtain ⟨v', he, ho, hf⟩ := hn
  refine ⟨v', he, ho, h.below.trans (hf.to_below (fun k _ hk e => ?_) h.below.size), OwnK.frmA h.kept hf (fun g hg e => ?_)⟩
  · have := (h.own.lt k e).1; omega
  · obtain ⟨c1, k1⟩ := OwnK.blkOf h.kept hg
    have k2 : ∃ cur, W.heap[g]? = some (.cells cur 5 (0, 0)) := by
      rcases h.own.2 with ⟨e1, -⟩ | ⟨g', cap, cur, e1, -, hh, -⟩
      · rw [e1] at e; cases e
      · rw [e1] at e; cases e; exact ⟨cur, hh⟩
    obtain ⟨c2, k2⟩ := k2
    rw [k1] at k2
    exact absurd (by injection k2 with k2; injection k2) (show ¬ 46 = 5 by decide)
theorem RbI.newK {w1 W W' : World} {kv kv' v : Value} {ks ks' : List RI} {xs : List UInt8} (h : RbI w1 kv ks xs v W) (hb : Below W.heap.size W W') (hk : OwnK 4 riN W.heap.size 46 W' kv' ks') : RbI w1 kv' ks' xs v W' :=
  ⟨h.own.below hb, h.below.trans (hb.mono h.below.size), OwnK.base_ hk h.below.size⟩
theorem below_drewNR {B : Nat} {w w' : World} (h : Below B w w') (n : Nat) : Below B w (w'.drewN n) := ⟨h.os, h.tape, h.output, h.size, h.block⟩
theorem RbI.draw {w1 W : World} {kv v : Value} {ks : List RI} {xs : List UInt8} (h : RbI w1 kv ks xs v W) (n : Nat) : RbI w1 kv ks xs v (W.drewN n) := ⟨h.own.drewN n, below_drewNR h.below n, OwnK.drewN h.kept n⟩
theorem RbI.call {w1 W W' : World} {kv v : Value} {ks : List RI} {xs : List UInt8} (h : RbI w1 kv ks xs v W) (hb : Below W.heap.size W W') : RbI w1 kv ks xs v W' := ⟨h.own.below hb, h.below.trans (hb.mono h.below.size), OwnK.below h.kept hb⟩
end Go.Proofs.Ytakebmbdcjbbgaa
