/- Layer 8: right configurations in snapshots, both sides. -/
import Derived.Test.YtfnmofoecehcfaaSnA
namespace Go.Proofs.Ytfnmofoecehcfaa
open Go Go.RowKit Go.Maps Go.Lib Mem Cf

theorem rconf_a {vs ls : List Int} (h : riseB vs = false) : rconfB vs ls = false := by unfold rconfB; rw [h]; rfl
theorem rconf_b {vs ls : List Int} (h : riseB ls = false) : rconfB vs ls = false := by unfold rconfB; rw [h]; simp
theorem rconf_c {vs ls : List Int} (h : apartB vs ls = false) : rconfB vs ls = false := by unfold rconfB; rw [h]; simp
theorem rconf_y {vs ls : List Int} (h : riseB vs = true) (h2 : riseB ls = true) (h3 : apartB vs ls = true) : rconfB vs ls = true := by unfold rconfB; rw [h, h2, h3]; rfl
def RcRel (vs ls : List Int) (w1 : World) (iv : Value) (wr : World) : Prop :=
  ∃ k : Nat, k ≤ vs.length ∧ iv = .int .i64 k ∧ Hid (∀ j (hj : j < vs.length), j < k → hasB ls vs[j] = false) ∧ Below w1.heap.size w1 wr
set_option maxHeartbeats 1000000 in
theorem RRightConf_any {w : World} {A B : Option Addr} {c d : Nat} {vs ls : List Int} (h : CI w A vs B ls) :
    Calls Try.prog 18 #[.agg #[.slice A vs.length c, .slice B ls.length d]] w (BoolB (rconfB vs ls) w) := by
  obtain ⟨p, hp⟩ : ∃ p, p = riseB vs := ⟨_, rfl⟩
  obtain ⟨q, hq⟩ : ∃ q, q = riseB ls := ⟨_, rfl⟩
  have HP := Lib.hid hp
  have HQ := Lib.hid hq
  clear hp hq
  have hl := h.v.len
  have H := Lib.hid h; clear h
  go_enter Try.func18, Try.ntmps18
  go_upto_region 1 with fail
  obtain ⟨w1, hw1⟩ : ∃ x, x = w.alloc (.cells #[.slice A vs.length c, .slice B ls.length d] 24) := ⟨_, rfl⟩
  rw [← hw1]
  have hb1 : Below w.heap.size w w1 := by rw [hw1]; exact (Below.refl _ _).alloc (Nat.le_refl _) _
  have hx1 : Blk w1 w.heap.size 24 #[.slice A vs.length c, .slice B ls.length d] := by rw [hw1]; exact Blk.new_ w _ _
  have H1 := Lib.hid (H.out.below hb1)
  have HB1 := Lib.hid hb1
  have HX1 := Lib.hid hx1
  have d0 : w1.cell? ⟨w.heap.size, 0, none⟩ = some (.slice A vs.length c) := hx1.cell 0
  have d1 : w1.cell? ⟨w.heap.size, 1, none⟩ = some (.slice B ls.length d) := hx1.cell 1
  clear hw1 hb1 hx1
  have hr1 := (Rising_any A c vs w1 H1.out.v).mono fun _ _ h => h.below
  rw [← HP.out] at hr1
  have HR1 := Lib.hid hr1; clear hr1
  go_wp2_with fail
  (with_reducible refine HR1.out.mono ?_); rintro e w2 ⟨rfl, hb2⟩
  have H2 := Lib.hid (H1.out.below hb2)
  have HX2 := Lib.hid (HX1.out.below hb2 HX1.out.lt)
  have HB2 : Hid (Below w.heap.size w w2) := HB1.out.trans (hb2.mono HB1.out.size)
  clear hb2 d0 d1 HR1
  cases p with
  | false =>
    go_wp2_with fail
    go_ret
    exact ⟨ret_bool (by rw [rconf_a HP.out.symm]), HB2.out⟩
  | true =>
    have d1 : w2.cell? ⟨w.heap.size, 1, none⟩ = some (.slice B ls.length d) := HX2.out.cell 1
    have hr2 := (Rising_any B d ls w2 H2.out.l).mono fun _ _ h => h.below
    rw [← HQ.out] at hr2
    have HR2 := Lib.hid hr2; clear hr2
    go_wp2_with fail
    (with_reducible refine HR2.out.mono ?_); rintro e w3 ⟨rfl, hb3⟩
    have H3 := Lib.hid (H2.out.below hb3)
    have HX3 := Lib.hid (HX2.out.below hb3 HX2.out.lt)
    have HB3 : Hid (Below w.heap.size w w3) := HB2.out.trans (hb3.mono HB2.out.size)
    clear hb3 d1 HR2
    cases q with
    | false =>
      go_wp2_with fail
      go_ret
      exact ⟨ret_bool (by rw [rconf_b HQ.out.symm]), HB3.out⟩
    | true =>
      go_wp2_with fail
      go_loopw [3] (fun iv wr => RcRel vs ls w3 iv wr) (fun iv _ => vs.length - (intOf iv).toNat)
      case atStart => exact ⟨0, Nat.zero_le _, rfl, Lib.hid (fun j _ hj => absurd hj (Nat.not_lt_zero j)), Below.refl _ _⟩
      case round =>
        obtain ⟨k, hk, rfl, HNO, hbw⟩ := hrel
        have HBW := Lib.hid hbw; clear hbw
        have HXr := Lib.hid (HX3.out.below HBW.out HX3.out.lt)
        have d0 : wr.cell? ⟨w.heap.size, 0, none⟩ = some (.slice A vs.length c) := HXr.out.cell 0
        have d1 : wr.cell? ⟨w.heap.size, 1, none⟩ = some (.slice B ls.length d) := HXr.out.cell 1
        have HBr : Hid (Below w.heap.size w wr) := HB3.out.trans (HBW.out.mono HB3.out.size)
        by_cases hlt : k < vs.length
        · have hcr := H3.out.below HBW.out
          obtain ⟨b, o, rfl, _, hc⟩ := hcr.v.at hlt
          have hck := hc k hlt
          have HL := Lib.hid hcr.l
          obtain ⟨x, hx⟩ : ∃ x, x = vs[k] := ⟨_, rfl⟩
          rw [← hx] at hck; unfold fI at hck
          obtain ⟨z, hz⟩ : ∃ z, z = hasB ls x := ⟨_, rfl⟩
          have hhas : ∀ W, Sl fI W B ls → Calls Try.prog 41 #[.slice B ls.length d, .int .i64 x] W fun e w' => e = .returned (.bool z) ∧ W = w' := fun W hW => by rw [hz]; exact Has_any B d ls x W hW
          have HHAS := Lib.hid hhas; clear hhas hc hcr
          have hk0 : (0 : Int) ≤ (k : Int) := by omega
          have hk1 : (k : Int) < (vs.length : Int) := by omega
          rw [hx] at hz
          have HZ := Lib.hid hz; clear hz hx
          cases z with
          | true =>
            go_wp2_with fail
            go_quiet (first | (go_at_call 41; exact quiet_mine (HHAS.out _ (HL.out.drewN _))))
            go_wp2_with fail
            go_ret
            exact ⟨ret_bool (by rw [rconf_c (apart_no hlt HZ.out.symm)]), below_drewN HBr.out _⟩
          | false =>
            go_wp2_with fail
            go_quiet (first | (go_at_call 41; exact quiet_mine (HHAS.out _ (HL.out.drewN _))))
            go_wp2_with fail
            go_roundw
            case rel => exact ⟨k + 1, hlt, by go_num, Lib.hid (fun j hj h2 => by
              rcases Nat.lt_or_ge j k with h3 | h3
              · exact HNO.out j hj h3
              · have : j = k := by omega
                subst this; exact HZ.out.symm), below_drewN HBW.out _⟩
            case measure => simp [intOf]; omega
        · have hy : rconfB vs ls = true := rconf_y HP.out.symm HQ.out.symm (apart_yes fun j hj => HNO.out j hj (by omega))
          have HY := Lib.hid hy; clear hy
          go_wp2_with fail
          go_ret
          exact ⟨ret_bool (by rw [HY.out]), HBr.out⟩
def anyB (vs ls : List Int) : Bool := vs.any fun v => hasB ls v
theorem apart_any (vs ls : List Int) : apartB vs ls = !anyB vs ls := by unfold apartB anyB; rw [List.not_any_eq_all_not]
theorem inBoth_any {W : World} (n : Int) (g : Nat) (B : Option Addr) (d : Nat) (ls : List Int) (hc : W.cell? ⟨g, 3, none⟩ = some (.slice B ls.length d)) (hs : Sl fI W B ls) :
    Calls Try.prog 33 #[.int .i64 n, .pointer (some ⟨g, 0, none⟩)] W fun e w' => e = .returned (.bool (hasB ls n)) ∧ W = w' := by
  have HC := Lib.hid (Contains_any B d ls n W hs)
  clear hs
  go_enter Try.func33, Try.ntmps33
  go_wp2_with fail
  (with_reducible refine HC.out.mono ?_); rintro e w' ⟨rfl, rfl⟩
  go_wp2_with fail
  go_ret
  exact ⟨rfl, rfl⟩
def IfRel (vs ls : List Int) (w : World) (iv : Value) (wr : World) : Prop := ∃ k : Nat, k ≤ vs.length ∧ iv = .int .i64 k ∧ Hid (∀ j (hj : j < vs.length), j < k → hasB ls vs[j] = false) ∧ wr = w
theorem IndexFunc_both (A : Option Addr) (c : Nat) (vs : List Int) (w : World) (hs : Sl fI w A vs) (g : Nat) (B : Option Addr) (d : Nat) (ls : List Int) (hcl : w.cell? ⟨g, 3, none⟩ = some (.slice B ls.length d)) (hls : Sl fI w B ls) :
    Calls Try.prog 50 #[.slice A vs.length c, .func (.func 33) #[] #[.pointer (some ⟨g, 0, none⟩)]] w (IdxI (anyB vs ls) w) := by
  have hl := hs.len
  have HCB : Hid (∀ n, Calls Try.prog 33 #[.int .i64 n, .pointer (some ⟨g, 0, none⟩)] w fun e w' => e = .returned (.bool (hasB ls n)) ∧ w = w') := Lib.hid (fun n => inBoth_any n g B d ls hcl hls)
  clear hcl hls
  go_enter Try.func50, Try.ntmps50
  go_wp2_with fail
  go_loopw [8] (fun i wr => IfRel vs ls w i wr) (fun i _ => vs.length - (intOf i).toNat)
  case atStart => exact ⟨0, Nat.zero_le _, rfl, Lib.hid (fun j _ hj => absurd hj (Nat.not_lt_zero j)), rfl⟩
  case round =>
    obtain ⟨k, hk, rfl, HNO, rfl⟩ := hrel
    by_cases hlt : k < vs.length
    · obtain ⟨b, o, rfl, _, hc⟩ := hs.at hlt
      have hck := hc k hlt
      obtain ⟨x, hx⟩ : ∃ x, x = vs[k] := ⟨_, rfl⟩
      rw [← hx] at hck; unfold fI at hck
      obtain ⟨z, hz⟩ : ∃ z, z = hasB ls x := ⟨_, rfl⟩
      have hcall := HCB.out x
      rw [← hz] at hcall
      have HCALL := Lib.hid hcall; clear hcall hc
      rw [hx] at hz
      have HZ := Lib.hid hz; clear hz hx
      cases z with
      | true =>
        go_wp2_with fail
        (with_reducible refine HCALL.out.mono ?_); rintro e w' ⟨rfl, rfl⟩
        go_wp2_with fail
        go_ret
        refine ⟨(k : Int), rfl, ?_, rfl⟩
        have : anyB vs ls = true := by unfold anyB; rw [List.any_eq_true]; exact ⟨vs[k], List.getElem_mem hlt, HZ.out.symm⟩
        rw [this]; exact decide_eq_true (by omega)
      | false =>
        go_wp2_with fail
        (with_reducible refine HCALL.out.mono ?_); rintro e w' ⟨rfl, rfl⟩
        go_wp2_with fail
        go_roundw
        case rel => exact ⟨k + 1, hlt, by go_num, Lib.hid (fun j hj h2 => by
          rcases Nat.lt_or_ge j k with h3 | h3
          · exact HNO.out j hj h3
          · have : j = k := by omega
            subst this; exact HZ.out.symm), rfl⟩
        case measure => simp [intOf]; omega
    · have hy : anyB vs ls = false := by
        unfold anyB; rw [List.any_eq_false]
        intro v hv
        obtain ⟨j, hj, rfl⟩ := List.mem_iff_getElem.1 hv
        rw [HNO.out j hj (by omega)]; decide
      have HY := Lib.hid hy; clear hy
      go_wp2_with fail
      go_ret
      exact ⟨-1, rfl, by rw [HY.out]; decide, rfl⟩
theorem ContainsFunc_both (A : Option Addr) (c : Nat) (vs : List Int) (w : World) (hs : Sl fI w A vs) (g : Nat) (B : Option Addr) (d : Nat) (ls : List Int) (hcl : w.cell? ⟨g, 3, none⟩ = some (.slice B ls.length d)) (hls : Sl fI w B ls) :
    Calls Try.prog 32 #[.slice A vs.length c, .func (.func 33) #[] #[.pointer (some ⟨g, 0, none⟩)]] w fun e w' => e = .returned (.bool (anyB vs ls)) ∧ w = w' := by
  have HI := Lib.hid (IndexFunc_both A c vs w hs g B d ls hcl hls)
  clear hs hcl hls
  go_enter Try.func32, Try.ntmps32
  go_wp2_with fail
  (with_reducible refine HI.out.mono ?_); rintro e w' ⟨i, rfl, hi, rfl⟩
  have HB := Lib.hid hi; clear hi
  go_wp2_with fail
  go_ret
  exact ⟨ret_bool HB.out, rfl⟩
end Go.Proofs.Ytfnmofoecehcfaa
