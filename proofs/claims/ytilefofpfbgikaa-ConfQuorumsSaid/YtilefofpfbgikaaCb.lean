/- Layer 15: conf.Bytes: the walk (printed by gen_cb.py). -/
import Derived.Test.YtilefofpfbgikaaRjX
namespace Go.Proofs.Ytilefofpfbgikaa
open Go.RowKit Go.Maps Go.Lib Mem Pk Cf

theorem valT : SliceTK Try.prog 93 97 (.agg #[.int .i64 0, .int .i64 0, .float .f64 0, .slice none 0 0, .bool false]) 5 56 := sliceTK_mk Try.underlying93 rfl (by decide) (by kernel_rfl)
theorem valN_one (n : Int) : ∀ y ∈ valN n, y.oneCell' = true := by
  intro y hy
  simp only [valN, List.mem_cons, List.not_mem_nil, or_false] at hy
  rcases hy with rfl | rfl | rfl | rfl | rfl <;> rfl
/-- what conf.Bytes leaves -/
def CbPost (res : List UInt8 × Int) (w : World) (e : Ending) (w' : World) : Prop :=
  ∃ A c, e = .returned (.tuple #[.slice A res.1.length c, .int .i64 res.2]) ∧ Own fB w.heap.size 5 w' (.slice A res.1.length c) res.1 ∧ Below w.heap.size w w'
def CbIn (pre ns : List Int) (w4 : World) (ov iv : Value) (wr : World) : Prop :=
  ∃ k : Nat, k ≤ ns.length ∧ iv = .int .i64 k ∧ OwnK 5 valN w4.heap.size 97 wr ov (pre ++ ns.take k) ∧ Below w4.heap.size w4 wr
theorem confN_ok {vs ls : List Int} (h : rightB vs ls = true) : ∀ n ∈ confN vs ls, i64ok n := by
  intro n hn
  obtain ⟨hv, hl, -⟩ := right_rise h
  have h7 := rise_small hv
  have h8 := rise_small hl
  unfold confN at hn
  unfold i64ok
  rcases List.mem_append.1 hn with h1 | h1 <;> rcases List.mem_cons.1 h1 with h2 | h2
  · omega
  · have := rise_mem hv h2; omega
  · omega
  · have := rise_mem hl h2; omega
def pre (vs ls : List Int) : Nat → List Int
  | 0 => []
  | 1 => (vs.length : Int) :: vs
  | _ => confN vs ls
def CbOut (vs ls : List Int) (w4 : World) (ov iv : Value) (wr : World) : Prop :=
  ∃ i : Nat, i ≤ 2 ∧ iv = .int .i64 i ∧ OwnK 5 valN w4.heap.size 97 wr ov (pre vs ls i) ∧ Below w4.heap.size w4 wr
set_option maxRecDepth 100000 in
set_option maxHeartbeats 4000000 in
theorem Bytes_no {w : World} {A B : Option Addr} {c d : Nat} {vs ls : List Int} (h : CI w A vs B ls) (hr : rightB vs ls = false) :
    Calls Try.prog 22 #[.agg #[.slice A vs.length c, .slice B ls.length d]] w (CbPost (([], 1)) w) := by
  have HRT := Lib.hid hr; clear hr
  obtain ⟨p, hp⟩ : ∃ p, p = rightB vs ls := ⟨_, rfl⟩
  have HP := Lib.hid hp; clear hp
  have H := Lib.hid h; clear h
  go_enter Try.func22, Try.ntmps22
  go_upto_region 1 with fail
  obtain ⟨w1, hw1⟩ : ∃ x, x = w.alloc (.cells #[.slice A vs.length c, .slice B ls.length d] 24) := ⟨_, rfl⟩
  rw [← hw1]
  have hb1 : Below w.heap.size w w1 := by rw [hw1]; exact (Below.refl _ _).alloc (Nat.le_refl _) _
  have hx1 : Blk w1 w.heap.size 24 #[.slice A vs.length c, .slice B ls.length d] := by rw [hw1]; exact Blk.new_ w _ _
  have H1 := Lib.hid (H.out.below hb1)
  have HB1 := Lib.hid hb1
  have HX1 := Lib.hid hx1
  have d0 : w1.cell? ⟨w.heap.size, 0, none⟩ = some (.slice A vs.length c) := hx1.cell 0
  have d1 : w1.cell? ⟨w.heap.size, 1, none⟩ = some (.slice B ls.length d) := hx1.cell 1
  clear hw1 hb1 hx1 H
  have hrg := Right_any (c := c) (d := d) H1.out
  rw [← HP.out] at hrg
  have HRG := Lib.hid hrg; clear hrg
  go_wp2_with fail
  (with_reducible refine HRG.out.mono ?_); rintro e w2 ⟨rfl, hb2⟩
  have H2 := Lib.hid (H1.out.below hb2)
  have HX2 := Lib.hid (HX1.out.below hb2 HX1.out.lt)
  have HB2 : Hid (Below w.heap.size w w2) := HB1.out.trans (hb2.mono HB1.out.size)
  have HB12 := Lib.hid hb2
  clear hb2 d0 d1
  have d0 : w2.cell? ⟨w.heap.size, 0, none⟩ = some (.slice A vs.length c) := HX2.out.cell 0
  have d1 : w2.cell? ⟨w.heap.size, 1, none⟩ = some (.slice B ls.length d) := HX2.out.cell 1
  have hp : p = false := by rw [HP.out, HRT.out]
  subst hp
  go_wp2_with fail
  refine bodyPost_ret (v := .tuple #[.slice none 0 0, .int .i64 1]) (by simp [results, Try.results22, go_sem]) rfl ?_
  exact ⟨none, 0, rfl, Own.nil, HB2.out⟩
set_option maxRecDepth 100000 in
set_option maxHeartbeats 4000000 in
theorem Bytes_yes {w : World} {A B : Option Addr} {c d : Nat} {vs ls : List Int} (h : CI w A vs B ls) (hr : rightB vs ls = true) :
    Calls Try.prog 22 #[.agg #[.slice A vs.length c, .slice B ls.length d]] w (CbPost ((numsB (confN vs ls), 0)) w) := by
  have HRT := Lib.hid hr; clear hr
  obtain ⟨p, hp⟩ : ∃ p, p = rightB vs ls := ⟨_, rfl⟩
  have HP := Lib.hid hp; clear hp
  have H := Lib.hid h; clear h
  go_enter Try.func22, Try.ntmps22
  go_upto_region 1 with fail
  obtain ⟨w1, hw1⟩ : ∃ x, x = w.alloc (.cells #[.slice A vs.length c, .slice B ls.length d] 24) := ⟨_, rfl⟩
  rw [← hw1]
  have hb1 : Below w.heap.size w w1 := by rw [hw1]; exact (Below.refl _ _).alloc (Nat.le_refl _) _
  have hx1 : Blk w1 w.heap.size 24 #[.slice A vs.length c, .slice B ls.length d] := by rw [hw1]; exact Blk.new_ w _ _
  have H1 := Lib.hid (H.out.below hb1)
  have HB1 := Lib.hid hb1
  have HX1 := Lib.hid hx1
  have d0 : w1.cell? ⟨w.heap.size, 0, none⟩ = some (.slice A vs.length c) := hx1.cell 0
  have d1 : w1.cell? ⟨w.heap.size, 1, none⟩ = some (.slice B ls.length d) := hx1.cell 1
  clear hw1 hb1 hx1 H
  have hrg := Right_any (c := c) (d := d) H1.out
  rw [← HP.out] at hrg
  have HRG := Lib.hid hrg; clear hrg
  go_wp2_with fail
  (with_reducible refine HRG.out.mono ?_); rintro e w2 ⟨rfl, hb2⟩
  have H2 := Lib.hid (H1.out.below hb2)
  have HX2 := Lib.hid (HX1.out.below hb2 HX1.out.lt)
  have HB2 : Hid (Below w.heap.size w w2) := HB1.out.trans (hb2.mono HB1.out.size)
  have HB12 := Lib.hid hb2
  clear hb2 d0 d1
  have d0 : w2.cell? ⟨w.heap.size, 0, none⟩ = some (.slice A vs.length c) := HX2.out.cell 0
  have d1 : w2.cell? ⟨w.heap.size, 1, none⟩ = some (.slice B ls.length d) := HX2.out.cell 1
  have hp : p = true := by rw [HP.out, HRT.out]
  subst hp
  have HV7 := Lib.hid (rise_small (right_rise HRT.out).1)
  have HL7 := Lib.hid (rise_small (right_rise HRT.out).2.1)
  go_upto_region 5 with fail
  obtain ⟨w4, hw4⟩ : ∃ x, x = w2.alloc (.cells #[.slice A vs.length c, .slice B ls.length d] 22) := ⟨_, rfl⟩
  rw [← hw4]
  have hb4 : Below w1.heap.size w1 w4 := by rw [hw4]; exact HB12.out.alloc HB12.out.size _
  have hx4 : Blk w4 w2.heap.size 22 #[.slice A vs.length c, .slice B ls.length d] := by rw [hw4]; exact Blk.new_ w2 _ _
  have h24 : Below w2.heap.size w2 w4 := by rw [hw4]; exact (Below.refl _ _).alloc (Nat.le_refl _) _
  have H4 := Lib.hid (H2.out.below h24)
  have HB41 := Lib.hid hb4
  have HX4 := Lib.hid hx4
  clear hw4 hb4 hx4 h24 d0 d1
  go_wp2_with fail
  go_loopw [4, 18] (fun ov iv wr => CbOut vs ls w4 ov iv wr) (fun _ iv _ => 2 - (intOf iv).toNat)
  case atStart => exact ⟨0, by omega, rfl, OwnK.nil, Below.refl _ _⟩
  case round =>
    obtain ⟨i, hi, rfl, hown, hbw⟩ := hrel
    have HOWN := Lib.hid hown; clear hown
    have HBW := Lib.hid hbw; clear hbw
    obtain ⟨wo, rfl⟩ : ∃ wo, wo = wr := ⟨_, rfl⟩
    rcases (show i = 0 ∨ i = 1 ∨ i = 2 by omega) with rfl | rfl | rfl
    · -- vs
        have HTK0 : Hid ((pre vs ls 0 ++ [(vs.length : Int)]) ++ vs = pre vs ls 1) := by show _ = _; rfl
        have HPL : Hid ((pre vs ls 0).length ≤ 10) := by show _ ≤ _; have := HV7.out; unfold pre; simp
        have HNL : Hid (vs.length ≤ 7) := HV7
        obtain ⟨pr, hpr⟩ : ∃ pr, pr = pre vs ls 0 := ⟨_, rfl⟩
        rw [← hpr] at HOWN HTK0 HPL
        clear hpr
        have HBZ : Hid (w4.heap.size ≤ wo.heap.size) := Lib.hid HBW.out.size
        have a0 : wo.cell? ⟨w2.heap.size, 0, none⟩ = some (.slice A vs.length c) := (HX4.out.below HBW.out HX4.out.lt).cell 0
        go_upto_region 8 with (at_builtin; refine wpList_appendK1 (f := valN) rfl (.tmp 22) (.tmp 26) 93 rfl valT (vs.length : Int) rfl (valN_one _) rfl HOWN.out rfl rfl rfl (by have h9 := HPL.out; have h8 : pr.length ≤ 10 := h9; unfold maxLen; omega) (by have h9 := HPL.out; have h8 : pr.length ≤ 10 := h9; omega) HBZ.out ?_; intro v7 w7 hown7 hg7)
        have HB7 : Hid (Below w4.heap.size w4 w7) := (HBW.out.alloc HBZ.out _).trans ((HOWN.out.alloc _).below_ (by rw [World.size_alloc]; exact Nat.le_succ_of_le HBZ.out) hg7)
        have HO7 := Lib.hid hown7
        clear hown7 hg7 a0
        go_wp2_with fail
        go_loopw [4, 30] (fun ov jv wq => CbIn (pr ++ [(vs.length : Int)]) vs w4 ov jv wq) (fun _ jv _ => vs.length - (intOf jv).toNat)
        case atStart => exact ⟨0, Nat.zero_le _, rfl, by rw [List.take_zero, List.append_nil]; exact HO7.out, HB7.out⟩
        case round =>
          obtain ⟨k, hk, rfl, hown, hbw⟩ := hrel
          have HOWN2 := Lib.hid hown; clear hown
          have HBW2 := Lib.hid hbw; clear hbw
          by_cases hlt : k < vs.length
          · obtain ⟨b, o, hA, _, hc⟩ := (H4.out.below HBW2.out).v.at hlt
            have c1 := hc k hlt
            obtain ⟨y, hy⟩ : ∃ y, y = vs[k] := ⟨_, rfl⟩
            rw [← hy] at c1; unfold fI at c1
            have HTK : Hid (vs.take (k + 1) = vs.take k ++ [y]) := by show _ = _; rw [hy]; exact List.take_succ_eq_append_getElem hlt
            clear hy hc
            have hpl : (pr ++ [(vs.length : Int)] ++ vs.take k).length ≤ 100 := by
              have h8 := HPL.out
              have h7 : pr.length ≤ 10 := h8
              have h9 := HNL.out
              have h6 : vs.length ≤ 7 := h9
              rw [List.length_append, List.length_append, List.length_singleton, List.length_take]; omega
            have HPL2 := Lib.hid hpl; clear hpl
            have hlq : vs.length ≤ 7 := HNL.out
            have hk0 : (0 : Int) ≤ (k : Int) := by omega
            have hk1 : (k : Int) < (vs.length : Int) := by omega
            rw [hA]
            go_wp2_with (at_builtin; refine wpList_appendK1 (f := valN) rfl (.tmp 34) (.tmp 37) 93 rfl valT y rfl (valN_one _) rfl HOWN2.out rfl rfl rfl (by have h9 := HPL2.out; unfold maxLen; exact Nat.le_trans (Nat.succ_le_succ h9) (by decide)) (by have h9 := HPL2.out; exact Nat.le_trans (Nat.mul_le_mul_right 56 (Nat.succ_le_succ h9)) (by decide)) HBW2.out.size ?_; intro v8 w8 hown8 hg8)
            go_roundw
            case rel => exact ⟨k + 1, by omega, by go_num, by rw [HTK.out, ← List.append_assoc]; exact hown8, (HBW2.out.alloc HBW2.out.size _).trans ((HOWN2.out.alloc _).below_ (by rw [World.size_alloc]; exact Nat.le_succ_of_le HBW2.out.size) hg8)⟩
            case measure => simp [intOf]; omega
          · have hk9 : k = vs.length := by omega
            subst hk9
            rw [List.take_length, HTK0.out] at HOWN2
            go_wp2_with fail
            go_roundw
            case rel => exact ⟨1, by omega, by go_num, HOWN2.out, HBW2.out⟩
            case measure => simp [intOf]
    · -- ls
        have HTK0 : Hid ((pre vs ls 1 ++ [(ls.length : Int)]) ++ ls = pre vs ls 2) := by show _ = _; unfold pre confN; rw [List.append_assoc]; rfl
        have HPL : Hid ((pre vs ls 1).length ≤ 10) := by show _ ≤ _; have := HV7.out; have h2 : vs.length ≤ 7 := this; show ((vs.length : Int) :: vs).length ≤ 10; rw [List.length_cons]; omega
        have HNL : Hid (ls.length ≤ 7) := HL7
        obtain ⟨pr, hpr⟩ : ∃ pr, pr = pre vs ls 1 := ⟨_, rfl⟩
        rw [← hpr] at HOWN HTK0 HPL
        clear hpr
        have HBZ : Hid (w4.heap.size ≤ wo.heap.size) := Lib.hid HBW.out.size
        have a0 : wo.cell? ⟨w2.heap.size, 1, none⟩ = some (.slice B ls.length d) := (HX4.out.below HBW.out HX4.out.lt).cell 1
        go_upto_region 8 with (at_builtin; refine wpList_appendK1 (f := valN) rfl (.tmp 22) (.tmp 26) 93 rfl valT (ls.length : Int) rfl (valN_one _) rfl HOWN.out rfl rfl rfl (by have h9 := HPL.out; have h8 : pr.length ≤ 10 := h9; unfold maxLen; omega) (by have h9 := HPL.out; have h8 : pr.length ≤ 10 := h9; omega) HBZ.out ?_; intro v7 w7 hown7 hg7)
        have HB7 : Hid (Below w4.heap.size w4 w7) := (HBW.out.alloc HBZ.out _).trans ((HOWN.out.alloc _).below_ (by rw [World.size_alloc]; exact Nat.le_succ_of_le HBZ.out) hg7)
        have HO7 := Lib.hid hown7
        clear hown7 hg7 a0
        go_wp2_with fail
        go_loopw [4, 30] (fun ov jv wq => CbIn (pr ++ [(ls.length : Int)]) ls w4 ov jv wq) (fun _ jv _ => ls.length - (intOf jv).toNat)
        case atStart => exact ⟨0, Nat.zero_le _, rfl, by rw [List.take_zero, List.append_nil]; exact HO7.out, HB7.out⟩
        case round =>
          obtain ⟨k, hk, rfl, hown, hbw⟩ := hrel
          have HOWN2 := Lib.hid hown; clear hown
          have HBW2 := Lib.hid hbw; clear hbw
          by_cases hlt : k < ls.length
          · obtain ⟨b, o, hA, _, hc⟩ := (H4.out.below HBW2.out).l.at hlt
            have c1 := hc k hlt
            obtain ⟨y, hy⟩ : ∃ y, y = ls[k] := ⟨_, rfl⟩
            rw [← hy] at c1; unfold fI at c1
            have HTK : Hid (ls.take (k + 1) = ls.take k ++ [y]) := by show _ = _; rw [hy]; exact List.take_succ_eq_append_getElem hlt
            clear hy hc
            have hpl : (pr ++ [(ls.length : Int)] ++ ls.take k).length ≤ 100 := by
              have h8 := HPL.out
              have h7 : pr.length ≤ 10 := h8
              have h9 := HNL.out
              have h6 : ls.length ≤ 7 := h9
              rw [List.length_append, List.length_append, List.length_singleton, List.length_take]; omega
            have HPL2 := Lib.hid hpl; clear hpl
            have hlq : ls.length ≤ 7 := HNL.out
            have hk0 : (0 : Int) ≤ (k : Int) := by omega
            have hk1 : (k : Int) < (ls.length : Int) := by omega
            rw [hA]
            go_wp2_with (at_builtin; refine wpList_appendK1 (f := valN) rfl (.tmp 34) (.tmp 37) 93 rfl valT y rfl (valN_one _) rfl HOWN2.out rfl rfl rfl (by have h9 := HPL2.out; unfold maxLen; exact Nat.le_trans (Nat.succ_le_succ h9) (by decide)) (by have h9 := HPL2.out; exact Nat.le_trans (Nat.mul_le_mul_right 56 (Nat.succ_le_succ h9)) (by decide)) HBW2.out.size ?_; intro v8 w8 hown8 hg8)
            go_roundw
            case rel => exact ⟨k + 1, by omega, by go_num, by rw [HTK.out, ← List.append_assoc]; exact hown8, (HBW2.out.alloc HBW2.out.size _).trans ((HOWN2.out.alloc _).below_ (by rw [World.size_alloc]; exact Nat.le_succ_of_le HBW2.out.size) hg8)⟩
            case measure => simp [intOf]; omega
          · have hk9 : k = ls.length := by omega
            subst hk9
            rw [List.take_length, HTK0.out] at HOWN2
            go_wp2_with fail
            go_roundw
            case rel => exact ⟨2, by omega, by go_num, HOWN2.out, HBW2.out⟩
            case measure => simp [intOf]
    · have hpn : pre vs ls 2 = confN vs ls := rfl
      rw [hpn] at HOWN
      obtain ⟨A7, c7, rfl⟩ := HOWN.out.form
      have hput := Put_nums A7 c7 (confN vs ls) (OwnK.slK (f := valN) (k := 5) (fun _ => rfl) HOWN.out).2 (by unfold confN; have h8 := HV7.out; have h7 : vs.length ≤ 7 := h8; have h9 := HL7.out; have h6 : ls.length ≤ 7 := h9; rw [List.length_append, List.length_cons, List.length_cons]; omega) (confN_ok HRT.out)
      have HPUT := Lib.hid hput; clear hput
      go_wp2_with fail
      (with_reducible refine HPUT.out.mono ?_); rintro e w9 ⟨A9, c9, rfl, ho9, hb9⟩
      have HBF : Hid (Below w.heap.size w w9) := HB1.out.trans ((HB41.out.trans ((HBW.out.mono HB41.out.size).trans (hb9.mono (Nat.le_trans HB41.out.size HBW.out.size)))).mono HB1.out.size)
      have HO9 : Hid (Own fB w.heap.size 5 w9 (.slice A9 (numsB (confN vs ls)).length c9) (numsB (confN vs ls))) := Own.lowerB ho9 (Nat.le_trans HB1.out.size (Nat.le_trans HB41.out.size HBW.out.size))
      clear ho9 hb9
      go_wp2_with fail
      refine bodyPost_ret (v := .tuple #[.slice A9 (numsB (confN vs ls)).length c9, .int .i64 0]) (by simp [results, Try.results22, go_sem]) rfl ?_
      exact ⟨A9, c9, rfl, HO9.out, HBF.out⟩
end Go.Proofs.Ytilefofpfbgikaa
