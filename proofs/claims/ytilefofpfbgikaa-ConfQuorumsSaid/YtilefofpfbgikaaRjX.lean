/- Layer 3: the document's Join and Num. -/
import Derived.Test.YtilefofpfbgikaaPkA
import Derived.Test.YtilefofpfbgikaaAp2
import Derived.Test.YtilefofpfbgikaaPkP
import Derived.Test.YtilefofpfbgikaaOtX
namespace Go.Proofs.Ytilefofpfbgikaa
open Go.RowKit Go.Maps Mem Pk

theorem fB_oneJ (u : UInt8) : (fB u).oneCell' = true := rfl
def JnRel (base base' : Nat) (xs ys : List UInt8) (vb : Value) (w : World) (av iv : Value) (wr : World) : Prop :=
  ∃ k : Nat, k ≤ ys.length ∧ iv = .int .i64 k ∧ Own fB base 5 wr av (xs ++ ys.take k) ∧ Own fB base' 5 wr vb ys ∧ Apart av vb ∧ Below base w wr
set_option maxRecDepth 100000 in
set_option maxHeartbeats 2000000 in
theorem Join_any {base base' : Nat} {w : World} {va vb : Value} {xs ys : List UInt8} (h : Own fB base 5 w va xs) (h' : Own fB base' 5 w vb ys) (hap : Apart va vb) (hb : base ≤ w.heap.size) (hl : xs.length + ys.length ≤ 100000000000) :
    Calls Try.prog 104 #[va, vb] w (AppPost base (xs ++ ys) w) := by
  obtain ⟨B, c, rfl⟩ := h'.form
  have H := Lib.hid h; clear h
  have H' := Lib.hid h'; clear h'
  have HAP := Lib.hid hap; clear hap
  go_enter Try.func104, Try.ntmps104
  go_wp2_with fail
  go_loopw [0, 5] (fun av iv wr => JnRel base base' xs ys (.slice B ys.length c) w av iv wr) (fun _ iv _ => ys.length - (intOf iv).toNat)
  case atStart => exact ⟨0, Nat.zero_le _, rfl, by rw [List.take_zero, List.append_nil]; exact H.out, H'.out, HAP.out, Below.refl _ _⟩
  case round =>
    obtain ⟨k, hk, rfl, hown, hown', hap, hbw⟩ := hrel
    have HOWN := Lib.hid hown; clear hown
    have HOWN' := Lib.hid hown'; clear hown'
    have HAP2 := Lib.hid hap; clear hap
    have HBW := Lib.hid hbw; clear hbw
    have hbz := Nat.le_trans hb HBW.out.size
    by_cases hlt : k < ys.length
    · obtain ⟨b, o, rfl, _, hc⟩ := HOWN'.out.sl.2.at hlt
      have c1 := hc k hlt
      obtain ⟨y, hy⟩ : ∃ y, y = ys[k] := ⟨_, rfl⟩
      rw [← hy] at c1; unfold fB at c1
      have HTK : Hid (ys.take (k + 1) = ys.take k ++ [y]) := by show _ = _; rw [hy]; exact List.take_succ_eq_append_getElem hlt
      clear hy hc
      have hxl : (xs ++ ys.take k).length ≤ xs.length + ys.length := by rw [List.length_append, List.length_take]; omega
      have H63 : Hid ((xs ++ ys.take k).length + 1 ≤ maxLen) := by show _ ≤ _; unfold maxLen; omega
      have HBY : Hid (((xs ++ ys.take k).length + 1) * 1 ≤ 140737488355328) := by show _ ≤ _; omega
      clear hxl
      have hk0 : (0 : Int) ≤ (k : Int) := by omega
      have hk1 : (k : Int) < (ys.length : Int) := by omega
      go_wp2_with (at_builtin; refine wpList_append1at (f := fB) rfl (.tmp 12) (.tmp 17) 33 rfl u8T y (fB_oneJ _) rfl HOWN.out rfl rfl H63.out HBY.out hbz ?_; intro v7 w7 ho7 hg7 hat7)
      go_roundw
      case rel => exact ⟨k + 1, by omega, by go_num, by rw [HTK.out, ← List.append_assoc]; exact ho7, (HOWN'.out.alloc _).other HAP2.out.symm hg7, HAP2.out.grown HOWN'.out hat7, (HBW.out.alloc hbz _).trans ((HOWN.out.alloc _).below_ (by rw [World.size_alloc]; omega) hg7)⟩
      case measure => simp [intOf]; omega
    · have hk9 : k = ys.length := by omega
      subst hk9
      rw [List.take_length] at HOWN
      go_wp2_with fail
      go_ret
      exact ⟨_, rfl, HOWN.out, HBW.out⟩
end Go.Proofs.Ytilefofpfbgikaa
namespace Go.Proofs.Ytilefofpfbgikaa
open Go.RowKit Go.Maps Mem Pk

def NmRel (zs : List UInt8) (w : World) (uv ov : Value) (wr : World) : Prop :=
  ∃ (f u : Nat) (ys : List UInt8), f ≤ 9 ∧ uv = .int .u64 u ∧ u < 18446744073709551616 ∧ u < 128 ^ (f + 1) ∧ ys ++ numF f u = zs ∧ ys.length + f ≤ 9 ∧ Own fB w.heap.size 5 wr ov ys ∧ Below w.heap.size w wr
theorem wrap_nat64 {u : Nat} (h : u < 18446744073709551616) : IntKind.u64.wrap (u : Int) = (u : Int) := by rw [IntKind.wrap_u64]; omega
set_option maxRecDepth 100000 in
set_option maxHeartbeats 2000000 in
theorem RNum_pos {w : World} (n : Int) (h1 : 0 ≤ n) (h2 : n ≤ 9223372036854775807) :
    Calls Try.prog 91 #[.int .i64 n] w (AppPost w.heap.size (numB n) w) := by
  have HZ := Lib.hid (zig_lt (n := n) (by omega) h2)
  obtain ⟨u0, hu0⟩ : ∃ u, u = zig n := ⟨_, rfl⟩
  have HU0 := Lib.hid hu0
  rw [← hu0] at HZ
  have e1 : IntKind.u64.wrap n = n := by rw [IntKind.wrap_u64]; omega
  have e2 : IntKind.u64.wrap (n * 2) = (u0 : Int) := by rw [IntKind.wrap_u64, hu0]; unfold zig; rw [if_pos h1]; omega
  have t1 : ¬ n < 0 := by omega
  clear hu0 h1 h2
  go_enter Try.func91, Try.ntmps91
  go_wp2_with fail
  clear e1 e2 t1
  go_loopw [3, 4] (fun uv ov wr => NmRel (numB n) w uv ov wr) (fun uv _ _ => (intOf uv).toNat)
  case atStart => exact ⟨9, u0, [], Nat.le_refl _, rfl, HZ.out, Nat.lt_of_lt_of_le HZ.out (by decide), by unfold numB; rw [HU0.out]; rfl, Nat.le_refl _, Own.mk_ (Nat.le_refl _), (Below.refl _ _).alloc (Nat.le_refl _) _⟩
  case round =>
    obtain ⟨f, u, ys, hf, rfl, hu, hup, hys, hyl, hown, hbw⟩ := hrel
    have HOWN := Lib.hid hown; clear hown
    have HBW := Lib.hid hbw; clear hbw
    have HYS := Lib.hid hys; clear hys
    have H63 : Hid (ys.length + 1 ≤ maxLen) := by show _ ≤ _; unfold maxLen; omega
    have HBY : Hid ((ys.length + 1) * 1 ≤ 140737488355328) := by show _ ≤ _; omega
    have HUP := Lib.hid hup; clear hup
    have HU := Lib.hid hu; clear hu
    have hbz := HBW.out.size
    by_cases hs : u < 128
    · obtain ⟨b, rfl⟩ : ∃ b : UInt8, u = b.toNat := ⟨UInt8.ofNat u, (ofNat_lt (by omega)).symm⟩
      have HNF : Hid (ys ++ [b] = numB n) := by show _ = _; rw [← HYS.out, numF_small hs, UInt8.ofNat_toNat]
      have e3 : IntKind.u8.wrap (b.toNat : Int) = (b.toNat : Int) := by rw [IntKind.wrap_u8]; omega
      have t3 : ¬ (127 : Int) < (b.toNat : Int) := by omega
      go_wp2_with (at_builtin; refine wpList_append1 (f := fB) rfl (.tmp 28) (.tmp 31) 33 rfl u8T b (fB_oneJ _) rfl HOWN.out rfl rfl H63.out HBY.out hbz ?_; intro v7 w7 hown7 hb7)
      go_ret
      exact ⟨v7, rfl, by rw [← HNF.out]; exact hown7, HBW.out.trans hb7⟩
    · obtain ⟨b, hbb⟩ : ∃ b, b = UInt8.ofNat (u % 128 + 128) := ⟨_, rfl⟩
      have hbn : b.toNat = u % 128 + 128 := by rw [hbb]; exact ofNat_lt (by omega)
      have e6 : (u : Int) % 128 + 128 = (b.toNat : Int) := by rw [hbn]; omega
      have t3 : (127 : Int) < (u : Int) := by omega
      have e7 : IntKind.u64.wrap ((u : Int) / 128) = ((u / 128 : Nat) : Int) := by have := HU.out; rw [IntKind.wrap_u64]; omega
      have hf0 : f ≠ 0 := by intro e; subst e; have := HUP.out; omega
      obtain ⟨f', rfl⟩ : ∃ f', f = f' + 1 := ⟨f - 1, by omega⟩
      have HNF : Hid ((ys ++ [b]) ++ numF f' (u / 128) = numB n) := by show _ = _; rw [← HYS.out, numF_big hs, hbb, List.append_assoc]; rfl
      have HUP2 : Hid (u / 128 < 128 ^ (f' + 1)) := by show _ < _; have := HUP.out; rw [pow_step (f' + 1)] at this; exact Nat.div_lt_of_lt_mul (by rw [Nat.mul_comm]; exact this)
      clear hbb hbn
      go_wp2_with (at_builtin; refine wpList_append1 (f := fB) rfl (.tmp 19) (.tmp 24) 33 rfl u8T b (fB_oneJ _) rfl HOWN.out rfl rfl H63.out HBY.out hbz ?_; intro v7 w7 hown7 hb7)
      go_roundw
      case rel => exact ⟨f', u / 128, ys ++ [b], by omega, by go_num, by have := HU.out; omega, HUP2.out, HNF.out, by rw [List.length_append, List.length_singleton]; omega, hown7, HBW.out.trans hb7⟩
      case measure => simp [intOf]; omega
end Go.Proofs.Ytilefofpfbgikaa
namespace Go.Proofs.Ytilefofpfbgikaa
open Go.RowKit Go.Maps Go.Lib Mem Pk Cf

theorem apart_new {α β : Type} {f : α → Value} {g : β → Value} {base : Nat} {e e' : TypeId} {w w' : World} {va vb : Value} {xs : List α} {ys : List β} (h : Own f base e w va xs) (h' : Own g w.heap.size e' w' vb ys) : Apart va vb := by
  intro k h1 h2
  have := (h.lt k h1).2
  have := (h'.lt k h2).1
  omega
/-- a number behind bytes -/
theorem joinNum {base : Nat} {w w2 : World} {va vb : Value} {xs : List UInt8} {n : Int} (h : Own fB base 5 w va xs) (hb : base ≤ w.heap.size) (hl : xs.length ≤ 10000000) (h2 : Own fB w.heap.size 5 w2 vb (numB n)) (hbw : Below w.heap.size w w2) :
    Calls Try.prog 104 #[va, vb] w2 (AppPost base (xs ++ numB n) w2) :=
  Join_any (h.below hbw) h2 (apart_new h h2) (Nat.le_trans hb hbw.size) (by have := numB_len n; omega)
def InRel (xs : List UInt8) (ns : List Int) (w0 : World) (ov iv : Value) (wr : World) : Prop :=
  ∃ k : Nat, k ≤ ns.length ∧ iv = .int .i64 k ∧ Own fB w0.heap.size 5 wr ov (xs ++ numB ns.length ++ numsB (ns.take k)) ∧ Below w0.heap.size w0 wr
set_option maxRecDepth 100000 in
set_option maxHeartbeats 2000000 in
theorem ints_any {w0 w : World} {B : Option Addr} {d : Nat} {ns : List Int} {va : Value} {xs : List UInt8} (hs : Sl fI w0 B ns) (hbw : Below w0.heap.size w0 w) (h : Own fB w0.heap.size 5 w va xs)
    (hl : xs.length ≤ 1000000) (hl2 : ns.length ≤ 1000) (hn : ∀ n ∈ ns, 0 ≤ n ∧ n ≤ 9223372036854775807) :
    Calls Try.prog 68 #[va, .slice B ns.length d] w (AppPost w0.heap.size (xs ++ numB ns.length ++ numsB ns) w) := by
  have HS := Lib.hid hs; clear hs
  have HW := Lib.hid hbw; clear hbw
  have H := Lib.hid h; clear h
  have HN := Lib.hid hn; clear hn
  have HNM := Lib.hid (RNum_pos (w := w) (ns.length : Int) (by omega) (by omega))
  have HL := Lib.hid hl; clear hl
  go_enter Try.func68, Try.ntmps68
  go_wp2_with fail
  (with_reducible refine HNM.out.mono ?_); rintro e w2 ⟨vb, rfl, ho2, hb2⟩
  have HJ := Lib.hid (joinNum H.out HW.out.size (by have h1 := HL.out; have h2 : xs.length ≤ 1000000 := h1; omega) ho2 hb2)
  have HB2 := Lib.hid hb2; clear hb2 ho2
  go_wp2_with fail
  (with_reducible refine HJ.out.mono ?_); rintro e w3 ⟨va3, rfl, ho3, hb3⟩
  have HO3 := Lib.hid ho3; clear ho3
  have HB3 : Hid (Below w0.heap.size w0 w3) := HW.out.trans ((HB2.out.mono HW.out.size).trans hb3)
  have HB23 : Hid (Below w0.heap.size w w3) := (HB2.out.mono HW.out.size).trans hb3
  clear hb3
  go_wp2_with fail
  go_loopw [0, 5] (fun ov iv wr => InRel xs ns w0 ov iv wr ∧ Below w0.heap.size w wr) (fun _ iv _ => ns.length - (intOf iv).toNat)
  case atStart => exact ⟨⟨0, Nat.zero_le _, rfl, by rw [List.take_zero]; unfold numsB; rw [List.flatMap_nil, List.append_nil]; exact HO3.out, HB3.out⟩, HB23.out⟩
  case round =>
    obtain ⟨⟨k, hk, rfl, hown, hbw⟩, hbw2⟩ := hrel
    have HOWN := Lib.hid hown; clear hown
    have HBW := Lib.hid hbw; clear hbw
    have HBW2 := Lib.hid hbw2; clear hbw2
    by_cases hlt : k < ns.length
    · obtain ⟨b, o, rfl, _, hc⟩ := (HS.out.below HBW.out).at hlt
      have c1 := hc k hlt
      obtain ⟨y, hy⟩ : ∃ y, y = ns[k] := ⟨_, rfl⟩
      rw [← hy] at c1; unfold fI at c1
      have hyn := HN.out ns[k] (List.getElem_mem hlt)
      rw [← hy] at hyn
      have HTK : Hid (ns.take (k + 1) = ns.take k ++ [y]) := by show _ = _; rw [hy]; exact List.take_succ_eq_append_getElem hlt
      have HNK := Lib.hid (RNum_pos (w := wr) y hyn.1 hyn.2)
      clear hy hc
      have HXL : Hid ((xs ++ numB ns.length ++ numsB (ns.take k)).length ≤ 10000000) := by
        show _ ≤ _
        rw [List.length_append, List.length_append]
        have h1 := HL.out
        have h2 : xs.length ≤ 1000000 := h1
        have h3 := numsB_len (ns.take k)
        rw [List.length_take] at h3
        have h4 := (numB_len ns.length).2
        omega
      have hk0 : (0 : Int) ≤ (k : Int) := by omega
      have hk1 : (k : Int) < (ns.length : Int) := by omega
      go_wp2_with fail
      (with_reducible refine HNK.out.mono ?_); rintro e w4 ⟨vb4, rfl, ho4, hb4⟩
      have HJ4 := Lib.hid (joinNum HOWN.out HBW.out.size HXL.out ho4 hb4)
      have HB4 := Lib.hid hb4; clear hb4 ho4
      go_wp2_with fail
      (with_reducible refine HJ4.out.mono ?_); rintro e w5 ⟨va5, rfl, ho5, hb5⟩
      go_wp2_with fail
      go_roundw
      case rel => exact ⟨⟨k + 1, by omega, by go_num, by rw [HTK.out, numsB_snoc, ← List.append_assoc]; exact ho5, HBW.out.trans ((HB4.out.mono HBW.out.size).trans hb5)⟩, HBW2.out.trans ((HB4.out.mono HBW.out.size).trans hb5)⟩
      case measure => simp [intOf]; omega
    · have hk9 : k = ns.length := by omega
      subst hk9
      rw [List.take_length] at HOWN
      go_wp2_with fail
      go_ret
      exact ⟨_, rfl, HOWN.out, HBW2.out⟩
end Go.Proofs.Ytilefofpfbgikaa
namespace Go.Proofs.Ytilefofpfbgikaa
open Go.RowKit Go.Maps Go.Lib Mem Pk Cf

theorem Own.lowerB {base base' : Nat} {e : TypeId} {w : World} {v : Value} {xs : List UInt8} (h : Own fB base e w v xs) (hb : base' ≤ base) : Own fB base' e w v xs := Own.lower h hb
/-- a right configuration's numbers -/
def confN (vs ls : List Int) : List Int := ((vs.length : Int) :: vs) ++ ((ls.length : Int) :: ls)
theorem confN_bytes (vs ls : List Int) : numsB (confN vs ls) = ([] ++ numB vs.length ++ numsB vs) ++ numB ls.length ++ numsB ls := by
  unfold confN numsB
  rw [List.flatMap_append, List.flatMap_cons, List.flatMap_cons, List.nil_append, List.append_assoc, List.append_assoc, List.append_assoc]
theorem rise_nat {xs : List Int} (h : riseB xs = true) : ∀ n ∈ xs, 0 ≤ n ∧ n ≤ 9223372036854775807 := fun n hn => by have := rise_mem h hn; omega
def AppW (w1 : World) (ys : List UInt8) (e : Ending) (w' : World) : Prop := ∃ v', e = .returned v' ∧ Own fB w1.heap.size 5 w' v' ys ∧ Below w1.heap.size w1 w'
set_option maxRecDepth 100000 in
set_option maxHeartbeats 2000000 in
theorem RBytes_any {w : World} {A B : Option Addr} {c d : Nat} {vs ls : List Int} (h : CI w A vs B ls) (hr : rightB vs ls = true) :
    Calls Try.prog 30 #[.agg #[.slice A vs.length c, .slice B ls.length d]] w (AppPost w.heap.size (numsB (confN vs ls)) w) := by
  have hv7 := rise_small (right_rise hr).1
  have hl7 := rise_small (right_rise hr).2.1
  have hx : ([] ++ numB vs.length ++ numsB vs : List UInt8).length ≤ 1000000 := by
    rw [List.length_append, List.length_append, List.length_nil]
    have h3 := numsB_len vs
    have h4 := (numB_len vs.length).2
    omega
  rw [confN_bytes]
  obtain ⟨r1, hr1⟩ : ∃ r, r = ([] ++ numB vs.length ++ numsB vs : List UInt8) := ⟨_, rfl⟩
  obtain ⟨r2, hr2⟩ : ∃ r, r = r1 ++ numB ls.length ++ numsB ls := ⟨_, rfl⟩
  rw [← hr1, ← hr2]
  rw [← hr1] at hx
  have HX := Lib.hid hx; clear hx
  have HR1 := Lib.hid hr1; clear hr1
  have HR2 := Lib.hid hr2; clear hr2
  have HV7 := Lib.hid hv7; clear hv7
  have HL7 := Lib.hid hl7; clear hl7
  have HRT := Lib.hid hr; clear hr
  have H := Lib.hid h; clear h
  go_enter Try.func30, Try.ntmps30
  go_upto_region 1 with fail
  obtain ⟨w1, hw1⟩ : ∃ x, x = w.alloc (.cells #[.slice A vs.length c, .slice B ls.length d] 24) := ⟨_, rfl⟩
  rw [← hw1]
  have hb1 : Below w.heap.size w w1 := by rw [hw1]; exact (Below.refl _ _).alloc (Nat.le_refl _) _
  have hx1 : Blk w1 w.heap.size 24 #[.slice A vs.length c, .slice B ls.length d] := by rw [hw1]; exact Blk.new_ w _ _
  have H1 := Lib.hid (H.out.below hb1)
  have HB1 := Lib.hid hb1
  have HX1 := Lib.hid hx1
  have d0 : w1.cell? ⟨w.heap.size, 0, none⟩ = some (.slice A vs.length c) := hx1.cell 0
  have d1 : w1.cell? ⟨w.heap.size, 1, none⟩ = some (.slice B ls.length d) := hx1.cell 1
  clear hw1 hb1 hx1 H
  have HC1 : Hid (∀ W, Below w1.heap.size w1 W → Calls Try.prog 68 #[.slice none 0 0, .slice A vs.length c] W (AppW w1 r1)) := Lib.hid fun W hb =>
    (ints_any (xs := []) H1.out.v hb Own.nil (by simp) (by have := HV7.out; omega) (rise_nat (right_rise HRT.out).1)).mono fun e w' hh => by
      obtain ⟨v', he, ho, hbb⟩ := hh
      exact ⟨v', he, by rw [HR1.out]; exact ho, hb.trans hbb⟩
  have HC2 : Hid (∀ W va, Below w1.heap.size w1 W → Own fB w1.heap.size 5 W va r1 → Calls Try.prog 68 #[va, .slice B ls.length d] W (AppW w1 r2)) := Lib.hid fun W va hb ho =>
    (ints_any H1.out.l hb ho HX.out (by have := HL7.out; omega) (rise_nat (right_rise HRT.out).2.1)).mono fun e w' hh => by
      obtain ⟨v', he, ho, hbb⟩ := hh
      exact ⟨v', he, by rw [HR2.out]; exact ho, hb.trans hbb⟩
  have hdr := below_drew0 w1
  go_region_held3 (fun W => W.cell? ⟨w.heap.size, 0, none⟩ = some (.slice A vs.length c) ∧ W.cell? ⟨w.heap.size, 1, none⟩ = some (.slice B ls.length d)) (first | exact heldN HX1.out (by assumption) | exact heldN HX1.out (below_drewN (by assumption) _))
    (first | (go_at_call 68; (with_reducible refine (HC1.out _ ?_).mono ?_); (assumption); rintro e wN ⟨vN, rfl, hsN, hBN⟩)
           | (go_at_call 68; (with_reducible refine (HC2.out _ _ ?_ ?_).mono ?_); (assumption); (assumption); rintro e wS ⟨vS, rfl, hsS, hBS⟩))
  go_wp2_with fail
  go_ret
  exact ⟨vS, rfl, Own.lowerB hsS HB1.out.size, HB1.out.trans (hBS.mono HB1.out.size)⟩
end Go.Proofs.Ytilefofpfbgikaa
