/- Layer 8: the laws SnapBytes and SnapReads walked. -/
import Derived.Test.YtfnmofoecehcfaaSnO
import Derived.Test.YtfnmofoecehcfaaSnN
namespace Go.Proofs.Ytfnmofoecehcfaa
open Go Go.RowKit Go.Maps Go.Lib Mem Pk Cf

theorem of_w {wl W : World} {x t : Int} {A B D : Option Addr} {n a m b l d : Nat} (hb : Below wl.heap.size wl W) :
    Calls Try.prog 8 #[.agg #[.int .i64 x, .int .i64 t, .slice A n a, .slice B m b, .slice D l d]] W (OfW (.agg #[.int .i64 x, .int .i64 t, .slice A n a, .slice B m b, .slice D l d]) wl) :=
  of_any.mono fun _ _ hh => ⟨hh.1, hb.trans (hh.2.mono hb.size)⟩
theorem same_w {wl W : World} {s s' : SnT} {A B D A' B' D' : Option Addr} {a b d a' b' d' : Nat} (hb : Below wl.heap.size wl W) (h : SnIn wl A s.vs B s.ls D s.ds) (h' : SnIn wl A' s'.vs B' s'.ls D' s'.ds) :
    Calls Try.prog 12 #[.agg #[.int .i64 s.x, .int .i64 s.t, .slice A s.vs.length a, .slice B s.ls.length b, .slice D s.ds.length d], .agg #[.int .i64 s'.x, .int .i64 s'.t, .slice A' s'.vs.length a', .slice B' s'.ls.length b', .slice D' s'.ds.length d']] W
      (OfW (.bool (sameB s s')) wl) := (Same_any (h.below hb) (h'.below hb)).mono fun _ _ hh => ⟨hh.1, hb.trans (hh.2.mono hb.size)⟩
set_option maxRecDepth 100000 in
set_option maxHeartbeats 4000000 in
theorem snapReads_walk {w : World} (A : Option Addr) (c : Nat) (bs : List UInt8) (hc : bs.length ≤ c) (hm : c ≤ maxLen) (hs : Sl fB w A bs) (_ : ∀ x ∈ bs, True) (hR : Room 1 bs.length) :
    Calls Try.prog 4 #[.slice A bs.length c] w (OfW (.bool true) w) := by
  have hroom : bs.length ≤ 140737488351232 := by unfold Room at hR; omega
  clear hR
  have HC := Lib.hid hc; clear hc
  have HM := Lib.hid hm; clear hm
  have HS := Lib.hid hs; clear hs
  have HROOM := Lib.hid hroom; clear hroom
  have HCD := Lib.hid (coding_any (w := w))
  go_enter Try.func4, Try.ntmps4
  go_wp2_with fail
  (with_reducible refine HCD.out.mono ?_); rintro e w1 ⟨rfl, hb1⟩
  have HSR := Lib.hid (SRead_any (HS.out.below hb1) HC.out HM.out)
  have HB1 := Lib.hid hb1; clear hb1
  go_wp2_with fail
  (with_reducible refine HSR.out.mono ?_); rintro e w2 ⟨hb2, hno, hyes⟩
  have HB2 : Hid (Below w.heap.size w w2) := Lib.hid (HB1.out.trans (hb2.mono HB1.out.size))
  clear hb2 HCD HSR
  cases hr : readS bs with
  | none =>
    obtain rfl := hno hr
    have HRN := Lib.hid hr
    clear hno hyes hr
    obtain ⟨w3, hw3⟩ : ∃ z, z = w2.alloc (.cells zeroSn 27) := ⟨_, rfl⟩
    have hb3 : Below w2.heap.size w2 w3 := by rw [hw3]; exact (Below.refl _ _).alloc (Nat.le_refl _) _
    have hx3 : Blk w3 w2.heap.size 27 zeroSn := by rw [hw3]; exact Blk.new_ w2 _ _
    have HB3 : Hid (Below w.heap.size w w3) := Lib.hid (HB2.out.trans (hb3.mono HB2.out.size))
    have HX3 := Lib.hid hx3; clear hx3 hb3
    have HW3 := Lib.hid hw3; clear hw3
    go_upto_region 4 with fail
    have hzz := HW3.out
    unfold zeroSn at hzz
    rw [← hzz]
    clear hzz HW3
    have HRR := Lib.hid (RRead_any (HS.out.below HB3.out) HC.out HM.out HROOM.out)
    go_wp2_with fail
    (with_reducible refine HRR.out.mono ?_); rintro e w4 ⟨hb4, hno, -⟩
    obtain rfl := hno HRN.out
    obtain ⟨w5, hw5⟩ : ∃ z, z = w4.alloc (.cells zeroSn 33) := ⟨_, rfl⟩
    have hb5 : Below w4.heap.size w4 w5 := by rw [hw5]; exact (Below.refl _ _).alloc (Nat.le_refl _) _
    have HB5 : Hid (Below w.heap.size w w5) := Lib.hid ((HB3.out.trans (hb4.mono HB3.out.size)).trans (hb5.mono (Nat.le_trans HB3.out.size hb4.size)))
    have HX5 := Lib.hid ((HX3.out.below hb4 HX3.out.lt).below hb5 (Nat.lt_of_lt_of_le HX3.out.lt hb4.size))
    have HW5 := Lib.hid hw5; clear hw5 hb4 hb5 hno HRR
    have HOF := Lib.hid (of_w (x := 0) (t := 0) (A := none) (B := none) (D := none) (n := 0) (a := 0) (m := 0) (b := 0) (l := 0) (d := 0) (Below.refl w5.heap.size w5))
    unfold zeroSn
    go_upto_region 5 with fail
    have hzz := HW5.out
    unfold zeroSn at hzz
    rw [← hzz]
    clear hzz HW5
    obtain ⟨d0, d1, d2, d3, d4⟩ := held5 HX5.out (Below.refl _ _)
    go_wp2_with fail
    (with_reducible refine HOF.out.mono ?_); rintro e w6 ⟨rfl, hb6⟩
    have HSM := Lib.hid (same_w (s := ⟨0, 0, [], [], []⟩) (s' := ⟨0, 0, [], [], []⟩) (A := none) (B := none) (D := none) (A' := none) (B' := none) (D' := none) (a := 0) (b := 0) (d := 0) (a' := 0) (b' := 0) (d' := 0) hb6 ⟨Sl.nil, Sl.nil, Sl.nil⟩ ⟨Sl.nil, Sl.nil, Sl.nil⟩)
    simp only [List.length_nil] at HSM
    rw [sameB_self] at HSM
    clear hb6 d0 d1 d2 d3 d4
    go_wp2_with fail
    (with_reducible refine HSM.out.mono ?_); rintro e w7 ⟨rfl, hb7⟩
    have HB7 := Lib.hid hb7; clear hb7 HSM
    go_wp2_with fail
    go_ret
    exact ⟨rfl, HB5.out.trans (HB7.out.mono HB5.out.size)⟩
  | some s =>
    obtain ⟨X, Y, Z, a, b, d, rfl, hv, hl, hd⟩ := hyes s hr
    have HRN := Lib.hid hr
    clear hno hyes hr
    obtain ⟨w3, hw3⟩ : ∃ z, z = w2.alloc (.cells #[.int .i64 s.x, .int .i64 s.t, .slice X s.vs.length a, .slice Y s.ls.length b, .slice Z s.ds.length d] 27) := ⟨_, rfl⟩
    have hb3 : Below w2.heap.size w2 w3 := by rw [hw3]; exact (Below.refl _ _).alloc (Nat.le_refl _) _
    have hx3 : Blk w3 w2.heap.size 27 #[.int .i64 s.x, .int .i64 s.t, .slice X s.vs.length a, .slice Y s.ls.length b, .slice Z s.ds.length d] := by rw [hw3]; exact Blk.new_ w2 _ _
    have HB3 : Hid (Below w.heap.size w w3) := Lib.hid (HB2.out.trans (hb3.mono HB2.out.size))
    have HX3 := Lib.hid hx3
    have HI3 : Hid (SnIn w3 X s.vs Y s.ls Z s.ds) := Lib.hid ⟨hv.sl.2.below hb3, hl.sl.2.below hb3, hd.sl.2.below hb3⟩
    have HW3 := Lib.hid hw3; clear hw3 hv hl hd hx3 hb3
    go_upto_region 4 with fail
    rw [← HW3.out]
    clear HW3
    have HRR := Lib.hid (RRead_any (HS.out.below HB3.out) HC.out HM.out HROOM.out)
    go_wp2_with fail
    (with_reducible refine HRR.out.mono ?_); rintro e w4 ⟨hb4, -, hyes⟩
    obtain ⟨X', Y', Z', a', b', d', rfl, hin', -⟩ := hyes s HRN.out
    obtain ⟨w5, hw5⟩ : ∃ z, z = w4.alloc (.cells #[.int .i64 s.x, .int .i64 s.t, .slice X' s.vs.length a', .slice Y' s.ls.length b', .slice Z' s.ds.length d'] 33) := ⟨_, rfl⟩
    have hb5 : Below w4.heap.size w4 w5 := by rw [hw5]; exact (Below.refl _ _).alloc (Nat.le_refl _) _
    have HB5 : Hid (Below w.heap.size w w5) := Lib.hid ((HB3.out.trans (hb4.mono HB3.out.size)).trans (hb5.mono (Nat.le_trans HB3.out.size hb4.size)))
    have HX5 := Lib.hid ((HX3.out.below hb4 HX3.out.lt).below hb5 (Nat.lt_of_lt_of_le HX3.out.lt hb4.size))
    have HY5 : Hid (Blk w5 w4.heap.size 33 #[.int .i64 s.x, .int .i64 s.t, .slice X' s.vs.length a', .slice Y' s.ls.length b', .slice Z' s.ds.length d']) := Lib.hid (by rw [hw5]; exact Blk.new_ w4 _ _)
    have HI5 := Lib.hid ((HI3.out.below hb4).below hb5)
    have HJ5 := Lib.hid (hin'.below hb5)
    have HW5 := Lib.hid hw5; clear hw5 hb4 hb5 hyes hin' HRR
    go_upto_region 7 with fail
    rw [← HW5.out]
    clear HW5
    have HOA : Hid (∀ W, Below w5.heap.size w5 W → Calls Try.prog 8 #[.agg #[.int .i64 s.x, .int .i64 s.t, .slice X s.vs.length a, .slice Y s.ls.length b, .slice Z s.ds.length d]] W (OfW (.agg #[.int .i64 s.x, .int .i64 s.t, .slice X s.vs.length a, .slice Y s.ls.length b, .slice Z s.ds.length d]) w5)) := Lib.hid fun W hb => of_w hb
    have HSM : Hid (∀ W, Below w5.heap.size w5 W → Calls Try.prog 12 #[.agg #[.int .i64 s.x, .int .i64 s.t, .slice X s.vs.length a, .slice Y s.ls.length b, .slice Z s.ds.length d], .agg #[.int .i64 s.x, .int .i64 s.t, .slice X' s.vs.length a', .slice Y' s.ls.length b', .slice Z' s.ds.length d']] W (OfW (.bool true) w5)) := Lib.hid fun W hb => by
      have h9 := same_w (s := s) (s' := s) (a := a) (b := b) (d := d) (a' := a') (b' := b') (d' := d') hb HI5.out HJ5.out
      rw [sameB_self] at h9; exact h9
    have hdr := below_drew0 w5
    go_cut [2] (fun v wx => v = .bool true ∧ Below w5.heap.size w5 wx)
    case first =>
      go_region_held3 (fun W => (W.cell? ⟨w2.heap.size, 0, none⟩ = some (.int .i64 s.x) ∧ W.cell? ⟨w2.heap.size, 1, none⟩ = some (.int .i64 s.t) ∧ W.cell? ⟨w2.heap.size, 2, none⟩ = some (.slice X s.vs.length a) ∧ W.cell? ⟨w2.heap.size, 3, none⟩ = some (.slice Y s.ls.length b) ∧ W.cell? ⟨w2.heap.size, 4, none⟩ = some (.slice Z s.ds.length d)) ∧ (W.cell? ⟨w4.heap.size, 0, none⟩ = some (.int .i64 s.x) ∧ W.cell? ⟨w4.heap.size, 1, none⟩ = some (.int .i64 s.t) ∧ W.cell? ⟨w4.heap.size, 2, none⟩ = some (.slice X' s.vs.length a') ∧ W.cell? ⟨w4.heap.size, 3, none⟩ = some (.slice Y' s.ls.length b') ∧ W.cell? ⟨w4.heap.size, 4, none⟩ = some (.slice Z' s.ds.length d')))
        (first | exact ⟨held5 HX5.out (by assumption), held5 HY5.out (by assumption)⟩)
        (first | (go_at_call 8; (with_reducible refine (HOA.out _ ?_).mono ?_); (assumption); rintro e wA ⟨rfl, hBA⟩)
               | (go_at_call 12; (with_reducible refine (HSM.out _ ?_).mono ?_); (assumption); rintro e wS ⟨rfl, hBS⟩))
      all_goals (go_wp2_with fail; go_meet; exact ⟨rfl, by assumption⟩)
    case rest =>
      obtain ⟨hv9, hb9⟩ := hcut
      subst hv9
      go_wp2_with fail
      go_ret
      exact ⟨rfl, HB5.out.trans (hb9.mono HB5.out.size)⟩
end Go.Proofs.Ytfnmofoecehcfaa
