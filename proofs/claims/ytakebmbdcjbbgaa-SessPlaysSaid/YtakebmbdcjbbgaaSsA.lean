/- Layer 13: SameNums; the statements' example. -/
import Derived.Test.YtakebmbdcjbbgaaSsU
import Derived.Test.YtakebmbdcjbbgaaSsS
namespace Go.Proofs.Ytakebmbdcjbbgaa
open Go Go.RowKit Go.Maps Go.Lib Mem Ss

def EqRelI (xs ys : List Int) (w : World) (i : Value) (wr : World) : Prop := ∃ k m : Nat, k ≤ xs.length ∧ i = .int .i64 k ∧ xs.take k = ys.take k ∧ wr = w.drewN m
set_option maxHeartbeats 1000000 in
theorem SameNums_any (A B : Option Addr) (c d : Nat) (xs ys : List Int) (w : World) (hs : Sl fI w A xs) (ht : Sl fI w B ys) :
    Calls Try.prog 26 #[.slice A xs.length c, .slice B ys.length d] w (Quiet (.bool (decide (xs = ys))) w) := by
  have hl := hs.len
  have hl2 := ht.len
  by_cases hlen : xs.length = ys.length
  · have HLEN := Lib.hid hlen
    have t1 : ((xs.length : Int) != (ys.length : Int)) = false := by rw [hlen]; simp
    clear hlen
    go_enter Try.func26, Try.ntmps26
    go_wp2_with fail
    go_loopw [5] (fun i wr => EqRelI xs ys w i wr) (fun i _ => xs.length - (intOf i).toNat)
    case atStart => exact ⟨0, 0, Nat.zero_le _, rfl, rfl, rfl⟩
    case round =>
      obtain ⟨k, m, hk, rfl, heq, rfl⟩ := hrel
      have HEQ := Lib.hid heq; clear heq
      by_cases hlt : k < xs.length
      · have hlt2 : k < ys.length := by have := HLEN.out; omega
        obtain ⟨b, o, rfl, _, hc⟩ := hs.at hlt
        obtain ⟨b2, o2, rfl, _, hc2⟩ := ht.at hlt2
        have hck := hc k hlt
        have hck2 := hc2 k hlt2
        unfold fI at hck hck2
        clear hc hc2 t1
        obtain ⟨x, hx⟩ : ∃ x, x = xs[k] := ⟨_, rfl⟩
        obtain ⟨y, hy⟩ : ∃ y, y = ys[k] := ⟨_, rfl⟩
        rw [← hx] at hck; rw [← hy] at hck2
        have hk0 : (0 : Int) ≤ (k : Int) := by omega
        have hk1 : (k : Int) < (xs.length : Int) := by omega
        have hk2 : (k : Int) < (ys.length : Int) := by omega
        by_cases hv : x = y
        · have HSN : Hid (xs.take (k + 1) = ys.take (k + 1)) := by
            show _ = _; rw [List.take_succ_eq_append_getElem hlt, List.take_succ_eq_append_getElem hlt2, HEQ.out, ← hx, ← hy, hv]
          subst hv
          clear hx hy
          go_wp2_with fail
          go_quiet (fail)
          go_wp2_with fail
          go_roundw
          case rel => exact ⟨k + 1, _, by omega, by go_num, HSN.out, rfl⟩
          case measure => simp [intOf]; omega
        · have t2 : (x == y) = false := by rw [beq_eq_false_iff_ne]; exact hv
          have t3 : (x != y) = true := by rw [bne_iff_ne]; exact hv
          have hne : xs ≠ ys := by intro e; subst e; exact hv (by rw [hx, hy])
          have HNE := Lib.hid hne; clear hne hv hx hy
          go_wp2_with fail
          go_quiet (fail)
          go_wp2_with fail
          go_ret
          exact ⟨ret_bool (by rw [decide_eq_false HNE.out]), _, World.drewN_drewN ..⟩
      · go_wp2_with fail
        go_ret
        have h1 := HEQ.out
        rw [List.take_of_length_le (by omega), List.take_of_length_le (by have := HLEN.out; omega)] at h1
        exact ⟨ret_bool (by rw [decide_eq_true h1]), _, rfl⟩
  · have t1 : ((xs.length : Int) != (ys.length : Int)) = true := by rw [bne_iff_ne]; omega
    have hne : xs ≠ ys := fun e => hlen (by rw [e])
    have HNE := Lib.hid hne; clear hne
    go_enter Try.func26, Try.ntmps26
    go_wp2_with fail
    go_ret
    exact ⟨ret_bool (by rw [decide_eq_false HNE.out]), 0, rfl⟩


/-! the example -/
def tA : Tb := [⟨1, 3, [⟨3, 0, 5⟩]⟩]
def tB : Tb := [⟨1, 11, [⟨11, 110, 0⟩]⟩]
theorem tA_put : putT [] 1 3 0 5 = (tA, 0) := rfl
theorem tB_put : putT tA 1 11 110 0 = (tB, 0) := rfl
theorem tA_look3 : lookC tA 1 3 = 5 ∧ lookI tA 1 3 = (0, 5) := ⟨rfl, rfl⟩
theorem tA_look2 : lookC tA 1 2 = 0 ∧ lookI tA 1 2 = (0, 0) := ⟨rfl, rfl⟩
theorem tB_look3 : lookC tB 1 3 = 130 ∧ lookI tB 1 3 = (0, 0) := ⟨rfl, rfl⟩
theorem tB_look4 : lookC tB 1 4 = 0 ∧ lookI tB 1 4 = (0, 0) := ⟨rfl, rfl⟩
theorem wf1 : (Lit.int .i64 1).wf = true := by decide
def LkX (c a b : Int) (w : World) (e : Ending) (w' : World) : Prop := e = .returned (.tuple #[.agg #[.int .i64 a, .int .i64 b], .int .i64 c]) ∧ Below w.heap.size w w'
theorem X_Look {G : Nat → Prop} {w : World} {p : Nat} {t : Tb} (h : TX G w p t) (id seq : Int) (hid : (Lit.int .i64 id).wf = true) {c a b : Int} (hl : lookC t id seq = c ∧ lookI t id seq = (a, b)) :
    Calls Try.prog 13 #[.pointer (some ⟨p, 0, none⟩), .int .i64 id, .int .i64 seq] w (LkX c a b w) := by
  have := Look_any h.tab id seq hid
  unfold LkP at this
  rw [hl.1, hl.2] at this
  exact this
set_option maxRecDepth 100000 in
set_option maxHeartbeats 4000000 in
theorem alive_any (w : World) : Calls Try.prog 10 #[] w fun e w' => e = .returned (.bool true) ∧ Below w.heap.size w w' := by
  go_enter Try.func10, Try.ntmps10
  go_wp2_with fail
  (with_reducible refine (X_New _).mono ?_); rintro e w1 ⟨p, rfl, h1, hb1⟩
  have H1 := Lib.hid (h1.more (.cells #[.int .i64 0, .int .i64 5] 25)); clear h1
  have HB1 := Lib.hid hb1; clear hb1
  go_wp2_with fail
  (with_reducible refine (X_Put H1.out 1 3 0 5 wf1).mono ?_); rintro e w2 ⟨rfl, h2, hf2⟩
  rw [tA_put] at h2 ⊢
  have HV2 : Hid (Blk w2 w1.heap.size 25 #[.int .i64 0, .int .i64 5]) := Lib.hid ((Blk.new_ w1 _ _).frm hf2 (fun h => h (.inr rfl)))
  have HB2 : Hid (Below w.heap.size w w2) := Lib.hid ((HB1.out.alloc HB1.out.size _).trans (hf2.to_below (fun k _ h1 h => h (.inl h1)) (by rw [World.size_alloc]; have := HB1.out.size; omega)))
  have H2 := Lib.hid h2; clear h2 hf2 H1 HB1
  go_wp2_with fail
  (with_reducible refine (X_Look H2.out 1 3 wf1 tA_look3).mono ?_); rintro e w3 ⟨rfl, hb3⟩
  have HV3 := Lib.hid (((HV2.out.below hb3 HV2.out.lt).alloc (.cells #[.int .i64 0, .int .i64 5] 25)))
  have HA3 := Lib.hid (Blk.new_ w3 25 #[.int .i64 0, .int .i64 5])
  have HB3 : Hid (Below w.heap.size w (w3.alloc (.cells #[.int .i64 0, .int .i64 5] 25))) := Lib.hid ((HB2.out.trans (hb3.mono HB2.out.size)).alloc (by have := HB2.out.size; have := hb3.size; omega) _)
  have H3 := Lib.hid ((H2.out.below hb3).more (.cells #[.int .i64 0, .int .i64 5] 25))
  have HG3 : Hid (w1.heap.size < w3.heap.size) := Lib.hid (by have := HV2.out.lt; have := hb3.size; omega)
  clear hb3 HV2 HB2 H2
  go_wp2_with fail
  (with_reducible refine (X_Look H3.out 1 2 wf1 tA_look2).mono ?_); rintro e w4 ⟨rfl, hb4⟩
  have HV4 := Lib.hid (((HV3.out.below hb4 HV3.out.lt).alloc (.cells #[.int .i64 0, .int .i64 0] 25)))
  have HA4 := Lib.hid (((HA3.out.below hb4 HA3.out.lt).alloc (.cells #[.int .i64 0, .int .i64 0] 25)))
  have HB4 : Hid (Below w.heap.size w (w4.alloc (.cells #[.int .i64 0, .int .i64 0] 25))) := Lib.hid ((HB3.out.trans (hb4.mono HB3.out.size)).alloc (by have := HB3.out.size; have := hb4.size; omega) _)
  have H4 := Lib.hid ((H3.out.below hb4).below ((Below.refl _ _).alloc (Nat.le_refl _) (.cells #[.int .i64 0, .int .i64 0] 25)))
  clear hb4 HV3 HA3 HB3 H3
  go_wp2_with fail
  (with_reducible refine (X_Put H4.out 1 11 110 0 wf1).mono ?_); rintro e w5 ⟨rfl, h5, hf5⟩
  rw [tB_put] at h5 ⊢
  have HV5 := Lib.hid (HV4.out.frm hf5 (fun h => h (.inl (.inr rfl))))
  have HA5 := Lib.hid (HA4.out.frm hf5 (fun h => h (.inr rfl)))
  have HB5 : Hid (Below w.heap.size w w5) := Lib.hid (HB4.out.trans (hf5.to_below (fun k _ h1 h => h (.inl (.inl h1))) HB4.out.size))
  have H5 := Lib.hid h5
  clear h5 hf5 HV4 HA4 HB4 H4
  go_wp2_with fail
  (with_reducible refine (X_Look H5.out 1 3 wf1 tB_look3).mono ?_); rintro e w6 ⟨rfl, hb6⟩
  have HV6 := Lib.hid (((HV5.out.below hb6 HV5.out.lt).alloc (.cells #[.int .i64 0, .int .i64 0] 25)))
  have HA6 := Lib.hid (((HA5.out.below hb6 HA5.out.lt).alloc (.cells #[.int .i64 0, .int .i64 0] 25)))
  have HB6 : Hid (Below w.heap.size w (w6.alloc (.cells #[.int .i64 0, .int .i64 0] 25))) := Lib.hid ((HB5.out.trans (hb6.mono HB5.out.size)).alloc (by have := HB5.out.size; have := hb6.size; omega) _)
  have H6 := Lib.hid ((H5.out.below hb6).below ((Below.refl _ _).alloc (Nat.le_refl _) (.cells #[.int .i64 0, .int .i64 0] 25)))
  clear hb6 HV5 HA5 HB5 H5
  go_wp2_with fail
  (with_reducible refine (X_Look H6.out 1 4 wf1 tB_look4).mono ?_); rintro e w7 ⟨rfl, hb7⟩
  have HV7 := Lib.hid (((HV6.out.below hb7 HV6.out.lt).alloc (.cells #[.int .i64 0, .int .i64 0] 25)))
  have HA7 := Lib.hid (((HA6.out.below hb7 HA6.out.lt).alloc (.cells #[.int .i64 0, .int .i64 0] 25)))
  have HB7 : Hid (Below w.heap.size w (w7.alloc (.cells #[.int .i64 0, .int .i64 0] 25))) := Lib.hid ((HB6.out.trans (hb7.mono HB6.out.size)).alloc (by have := HB6.out.size; have := hb7.size; omega) _)
  have H7 := Lib.hid ((H6.out.below hb7).below ((Below.refl _ _).alloc (Nat.le_refl _) (.cells #[.int .i64 0, .int .i64 0] 25)))
  clear hb7 HV6 HA6 HB6 H6
  go_upto_region 11 with fail
  obtain ⟨w8, hw8⟩ : ∃ z, z = w7.alloc (.cells #[.int .i64 0, .int .i64 0] 25) := ⟨_, rfl⟩
  rw [← hw8] at HV7 HA7 HB7 H7 ⊢
  clear hw8
  have a0 : w8.cell? ⟨w1.heap.size, 0, none⟩ = some (.int .i64 0) := HV7.out.cell 0
  have a1 : w8.cell? ⟨w1.heap.size, 1, none⟩ = some (.int .i64 5) := HV7.out.cell 1
  have b0 : w8.cell? ⟨w3.heap.size, 0, none⟩ = some (.int .i64 0) := HA7.out.cell 0
  have b1 : w8.cell? ⟨w3.heap.size, 1, none⟩ = some (.int .i64 5) := HA7.out.cell 1
  have HHI : Hid (Calls Try.prog 14 #[.pointer (some ⟨p, 0, none⟩), .int .i64 1] w8 (HiP 11 w8)) := Lib.hid (Highest_any H7.out.tab 1 wf1)
  have HKP : Hid (Calls Try.prog 15 #[.pointer (some ⟨p, 0, none⟩), .int .i64 1] w8 (KeptP [⟨11, 110, 0⟩] w8)) := Lib.hid (Kept_any H7.out.tab 1 wf1)
  go_wp2_with fail
  (with_reducible refine HHI.out.mono ?_); rintro e w9 ⟨rfl, rfl⟩
  go_wp2_with fail
  (with_reducible refine HKP.out.mono ?_); rintro e w9 ⟨A9, c9, rfl, ho9, hb9⟩
  have H9 := Lib.hid (H7.out.below hb9)
  have HB9 : Hid (Below w.heap.size w w9) := Lib.hid (HB7.out.trans (hb9.mono HB7.out.size))
  clear ho9 hb9 H7 HB7 HV7 HA7 HHI HKP a0 a1 b0 b1
  have HSS : Hid (Calls Try.prog 12 #[.pointer (some ⟨p, 0, none⟩)] w9 (SessP [1] w9)) := Lib.hid (Sessions_any H9.out.tab)
  go_wp2_with fail
  (with_reducible refine HSS.out.mono ?_); rintro e w10 ⟨A10, c10, rfl, ho10, hb10⟩
  have HB10 : Hid (Below w.heap.size w w10) := Lib.hid (HB9.out.trans (hb10.mono HB9.out.size))
  have hS1 : Sl fI (w10.alloc (.cells #[.int .i64 1] 2)) A10 [1] := (ho10.alloc _).sl.2
  have hS2 : Sl fI (w10.alloc (.cells #[.int .i64 1] 2)) (some ⟨w10.heap.size, 0, none⟩) [1] := Sl.lit (f := fI) (w := w10) (t := 2) [1] (by decide)
  have HSN : Hid (Calls Try.prog 26 #[.slice A10 1 c10, .slice (some ⟨w10.heap.size, 0, none⟩) 1 1] (w10.alloc (.cells #[.int .i64 1] 2)) (Quiet (.bool true) (w10.alloc (.cells #[.int .i64 1] 2)))) := Lib.hid (SameNums_any A10 _ c10 1 [1] [1] _ hS1 hS2)
  clear ho10 hb10 hS1 hS2
  go_wp2_with fail
  (with_reducible refine HSN.out.mono ?_); rintro e w11 ⟨rfl, n11, rfl⟩
  go_wp2_with fail
  go_ret
  exact ⟨rfl, below_drewN (HB10.out.alloc HB10.out.size _) _⟩
end Go.Proofs.Ytakebmbdcjbbgaa
