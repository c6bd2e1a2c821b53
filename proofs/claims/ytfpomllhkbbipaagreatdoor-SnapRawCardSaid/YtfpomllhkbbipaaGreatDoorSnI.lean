/- Layer 8: the document's ints. -/
import Derived.Test.YtfpomllhkbbipaaGreatDoorRj
import Derived.Test.YtfpomllhkbbipaaGreatDoorPk
import Derived.Test.YtfpomllhkbbipaaGreatDoorSnR
namespace Go.Proofs.YtfpomllhkbbipaaGreatDoor
open Go Go.RowKit Go.Maps Go.Lib Mem Pk Cf

theorem apart_new {α β : Type} {f : α → Value} {g : β → Value} {base : Nat} {e e' : TypeId} {w w' : World} {va vb : Value} {xs : List α} {ys : List β} (h : Own f base e w va xs) (h' : Own g w.heap.size e' w' vb ys) : Apart va vb := by
  intro k h1 h2
  have := (h.lt k h1).2
  have := (h'.lt k h2).1
  omega
/-- a number behind bytes -/
theorem joinNum {base : Nat} {w w2 : World} {va vb : Value} {xs : List UInt8} {n : Int} (h : Own fB base 5 w va xs) (hb : base ≤ w.heap.size) (hl : xs.length ≤ 10000000) (h2 : Own fB w.heap.size 5 w2 vb (numB n)) (hbw : Below w.heap.size w w2) :
    Calls Tryz.prog 62 #[va, vb] w2 (AppPost base (xs ++ numB n) w2) :=
  Join_any (h.below hbw) h2 (apart_new h h2) (Nat.le_trans hb hbw.size) (by have := numB_len n; omega)
theorem numsB_consS (n : Int) (ns : List Int) : numsB (n :: ns) = numB n ++ numsB ns := by unfold numsB; rw [List.flatMap_cons]
def IsRel (ns : List Int) (w0 : World) (ov iv : Value) (wr : World) : Prop :=
  ∃ k : Nat, k ≤ ns.length ∧ iv = .int .i64 k ∧ Own fB w0.heap.size 5 wr ov (numB ns.length ++ numsB (ns.take k)) ∧ Below w0.heap.size w0 wr
set_option maxRecDepth 100000 in
set_option maxHeartbeats 2000000 in
theorem RInts_any {w : World} {B : Option Addr} {d : Nat} {ns : List Int} (hs : Sl fI w B ns) (hl2 : ns.length ≤ 1000) (hn : ∀ n ∈ ns, 0 ≤ n ∧ n ≤ 9223372036854775807) :
    Calls Tryz.prog 74 #[.slice B ns.length d] w (AppPost w.heap.size (numsB ((ns.length : Int) :: ns)) w) := by
  rw [numsB_consS]
  have HS := Lib.hid hs; clear hs
  have HN := Lib.hid hn; clear hn
  have HNM := Lib.hid (RNum_pos (w := w) (ns.length : Int) (by omega) (by omega))
  go_enter Tryz.func74, Tryz.ntmps74
  go_wp2_with fail
  (with_reducible refine HNM.out.mono ?_); rintro e w2 ⟨vb, rfl, ho2, hb2⟩
  have HO2 := Lib.hid ho2
  have HB2 := Lib.hid hb2; clear hb2 ho2
  go_wp2_with fail
  go_loopw [3, 4] (fun ov iv wr => IsRel ns w ov iv wr) (fun _ iv _ => ns.length - (intOf iv).toNat)
  case atStart => exact ⟨0, Nat.zero_le _, rfl, by rw [List.take_zero]; unfold numsB; rw [List.flatMap_nil, List.append_nil]; exact HO2.out, HB2.out⟩
  case round =>
    obtain ⟨k, hk, rfl, hown, hbw⟩ := hrel
    have HOWN := Lib.hid hown; clear hown
    have HBW := Lib.hid hbw; clear hbw
    by_cases hlt : k < ns.length
    · obtain ⟨b, o, rfl, _, hc⟩ := (HS.out.below HBW.out).at hlt
      have c1 := hc k hlt
      obtain ⟨y, hy⟩ : ∃ y, y = ns[k] := ⟨_, rfl⟩
      rw [← hy] at c1; unfold fI at c1
      have hyn := HN.out ns[k] (List.getElem_mem hlt)
      rw [← hy] at hyn
      have HTK : Hid (ns.take (k + 1) = ns.take k ++ [y]) := by show _ = _; rw [hy]; exact List.take_succ_eq_append_getElem hlt
      have HNK := Lib.hid (RNum_pos (w := wr) y hyn.1 hyn.2)
      clear hy hc
      have HXL : Hid ((numB ns.length ++ numsB (ns.take k)).length ≤ 10000000) := by
        show _ ≤ _
        rw [List.length_append]
        have h3 := numsB_len (ns.take k)
        rw [List.length_take] at h3
        have h4 := (numB_len ns.length).2
        omega
      have hk0 : (0 : Int) ≤ (k : Int) := by omega
      have hk1 : (k : Int) < (ns.length : Int) := by omega
      go_wp2_with fail
      (with_reducible refine HNK.out.mono ?_); rintro e w4 ⟨vb4, rfl, ho4, hb4⟩
      have HJ4 := Lib.hid (joinNum HOWN.out HBW.out.size HXL.out ho4 hb4)
      have HB4 := Lib.hid hb4; clear hb4 ho4
      go_wp2_with fail
      (with_reducible refine HJ4.out.mono ?_); rintro e w5 ⟨va5, rfl, ho5, hb5⟩
      go_wp2_with fail
      go_roundw
      case rel => exact ⟨k + 1, by omega, by go_num, by rw [HTK.out, numsB_snoc, ← List.append_assoc]; exact ho5, HBW.out.trans ((HB4.out.mono HBW.out.size).trans hb5)⟩
      case measure => simp [intOf]; omega
    · have hk9 : k = ns.length := by omega
      subst hk9
      rw [List.take_length] at HOWN
      go_wp2_with fail
      go_ret
      exact ⟨_, rfl, HOWN.out, HBW.out⟩
end Go.Proofs.YtfpomllhkbbipaaGreatDoor
namespace Go.Proofs.YtfpomllhkbbipaaGreatDoor
open Go Go.RowKit Go.Maps Go.Lib Mem Pk

/-- the row lies where it lay, or in a block laid since -/
def AtOr (w : World) (va v : Value) : Prop := v.ownBlock = va.ownBlock ∨ ∃ g, v.ownBlock = some g ∧ w.heap.size ≤ g
theorem AtOr.step {w wr : World} {va v v' : Value} (h : AtOr w va v) (hw : w.heap.size ≤ wr.heap.size) (hat : v'.ownBlock = v.ownBlock ∨ v'.ownBlock = some (wr.heap.size + 1)) : AtOr w va v' := by
  rcases hat with hat | hat
  · unfold AtOr; rw [hat]; exact h
  · exact .inr ⟨_, hat, by omega⟩
theorem AtOr.inside {w : World} {va v : Value} (h : AtOr w va v) {k : Nat} (hk : v.ownBlock = some k) (hlt : k < w.heap.size) : va.ownBlock = some k := by
  rcases h with h | ⟨g, h1, h2⟩
  · rw [← h]; exact hk
  · rw [hk] at h1; injection h1 with h1; omega
def JfPost (base : Nat) (va : Value) (ys : List UInt8) (w : World) (e : Ending) (w' : World) : Prop :=
  ∃ v', e = .returned v' ∧ Own fB base 5 w' v' ys ∧ AtOr w va v' ∧ Frm (fun g => va.ownBlock = some g) w w'
def JfRel (base base' : Nat) (va : Value) (xs ys : List UInt8) (vb : Value) (w : World) (av iv : Value) (wr : World) : Prop :=
  ∃ k : Nat, k ≤ ys.length ∧ iv = .int .i64 k ∧ Own fB base 5 wr av (xs ++ ys.take k) ∧ Own fB base' 5 wr vb ys ∧ Apart av vb ∧ AtOr w va av ∧ Frm (fun g => va.ownBlock = some g) w wr
set_option maxRecDepth 100000 in
set_option maxHeartbeats 2000000 in
theorem Join_f {base base' : Nat} {w : World} {va vb : Value} {xs ys : List UInt8} (h : Own fB base 5 w va xs) (h' : Own fB base' 5 w vb ys) (hap : Apart va vb) (hb : base ≤ w.heap.size) (hl : xs.length + ys.length ≤ 140737488355000) :
    Calls Tryz.prog 62 #[va, vb] w (JfPost base va (xs ++ ys) w) := by
  obtain ⟨B, c, rfl⟩ := h'.form
  have H := Lib.hid h; clear h
  have H' := Lib.hid h'; clear h'
  have HAP := Lib.hid hap; clear hap
  go_enter Tryz.func62, Tryz.ntmps62
  go_wp2_with fail
  go_loopw [0, 5] (fun av iv wr => JfRel base base' va xs ys (.slice B ys.length c) w av iv wr) (fun _ iv _ => ys.length - (intOf iv).toNat)
  case atStart => exact ⟨0, Nat.zero_le _, rfl, by rw [List.take_zero, List.append_nil]; exact H.out, H'.out, HAP.out, .inl rfl, Frm.refl _ _⟩
  case round =>
    obtain ⟨k, hk, rfl, hown, hown', hap, hat, hbw⟩ := hrel
    have HAT := Lib.hid hat; clear hat
    have HOWN := Lib.hid hown; clear hown
    have HOWN' := Lib.hid hown'; clear hown'
    have HAP2 := Lib.hid hap; clear hap
    have HBW := Lib.hid hbw; clear hbw
    have hwz := HBW.out.size
    have hbz := Nat.le_trans hb hwz
    by_cases hlt : k < ys.length
    · obtain ⟨b, o, rfl, _, hc⟩ := HOWN'.out.sl.2.at hlt
      have c1 := hc k hlt
      obtain ⟨y, hy⟩ : ∃ y, y = ys[k] := ⟨_, rfl⟩
      rw [← hy] at c1; unfold fB at c1
      have HTK : Hid (ys.take (k + 1) = ys.take k ++ [y]) := by show _ = _; rw [hy]; exact List.take_succ_eq_append_getElem hlt
      clear hy hc
      have hxl : (xs ++ ys.take k).length ≤ xs.length + ys.length := by rw [List.length_append, List.length_take]; omega
      have H63 : Hid ((xs ++ ys.take k).length + 1 ≤ maxLen) := by show _ ≤ _; unfold maxLen; omega
      have HBY : Hid (((xs ++ ys.take k).length + 1) * 1 ≤ 140737488355328) := by show _ ≤ _; omega
      clear hxl
      have hk0 : (0 : Int) ≤ (k : Int) := by omega
      have hk1 : (k : Int) < (ys.length : Int) := by omega
      go_wp2_with (at_builtin; refine wpList_append1at (f := fB) rfl (.tmp 12) (.tmp 17) 36 rfl u8T y (fB_oneJ _) rfl HOWN.out rfl rfl H63.out HBY.out hbz ?_; intro v7 w7 ho7 hg7 hat7)
      go_roundw
      case rel => exact ⟨k + 1, by omega, by go_num, by rw [HTK.out, ← List.append_assoc]; exact ho7, (HOWN'.out.alloc _).other HAP2.out.symm hg7, HAP2.out.grown HOWN'.out hat7, HAT.out.step hwz hat7, (HBW.out.alloc _).grown hg7 (fun k hk hlt => HAT.out.inside hk hlt)⟩
      case measure => simp [intOf]; omega
    · have hk9 : k = ys.length := by omega
      subst hk9
      rw [List.take_length] at HOWN
      go_wp2_with fail
      go_ret
      exact ⟨_, rfl, HOWN.out, HAT.out, HBW.out⟩
end Go.Proofs.YtfpomllhkbbipaaGreatDoor
