/- Layer 15: who votes, who belongs, which configurations are right: walks. -/
import Derived.Test.YtilefofpfbgikaaCfX
import Derived.Deep.DeepCutAuto
namespace Go.Proofs.Ytilefofpfbgikaa
open Go.RowKit Go.Maps Mem Cf

theorem Quiet.below {v : Value} {w w' : World} {e : Ending} (h : Quiet v w e w') : e = .returned v ∧ Below w.heap.size w w' := by
  obtain ⟨h1, m, rfl⟩ := h; exact ⟨h1, below_drewN (Below.refl _ _) m⟩
/-- an index of a library's search -/
def IdxI (b : Bool) (w : World) (e : Ending) (w' : World) : Prop := ∃ i : Int, e = .returned (.int .i64 i) ∧ decide (0 ≤ i) = b ∧ w = w'
theorem Index_any (A : Option Addr) (c : Nat) (xs : List Int) (n : Int) (w : World) (hs : Sl fI w A xs) :
    Calls Try.prog 102 #[.slice A xs.length c, .int .i64 n] w (IdxI (hasB xs n) w) := by
  have hl := hs.len
  go_enter Try.func102, Try.ntmps102
  go_wp2_with fail
  go_loopw [8] (fun i wr => HasRel xs n w i wr) (fun i _ => xs.length - (intOf i).toNat)
  case atStart => exact ⟨0, Nat.zero_le _, rfl, Lib.hid (by simp), rfl⟩
  case round =>
    obtain ⟨k, hk, rfl, HNO, rfl⟩ := hrel
    by_cases hlt : k < xs.length
    · obtain ⟨b, o, rfl, _, hc⟩ := hs.at hlt
      have hck := hc k hlt
      obtain ⟨x, hx⟩ : ∃ x, x = xs[k] := ⟨_, rfl⟩
      unfold fI at hck
      rw [← hx] at hck
      clear hc
      by_cases hv : n = x
      · have hh : hasB xs n = true := by unfold hasB; rw [hv, hx]; exact decide_eq_true (List.getElem_mem hlt)
        have HH := Lib.hid hh; clear hh hx
        have t2 : (n == x) = true := by rw [beq_iff_eq]; exact hv
        clear hv
        go_wp2_with fail
        go_ret
        exact ⟨(k : Int), rfl, by rw [HH.out]; exact decide_eq_true (by omega), rfl⟩
      · have HN2 := Lib.hid (mem_take_no hlt HNO.out (by rw [← hx]; exact fun e => hv e.symm))
        have t2 : (n == x) = false := by rw [beq_eq_false_iff_ne]; exact hv
        clear hv hx
        go_wp2_with fail
        go_roundw
        case rel => exact ⟨k + 1, hlt, by go_num, HN2, rfl⟩
        case measure => simp [intOf]; omega
    · have hh : hasB xs n = false := by
        have h1 := HNO.out
        rw [List.take_of_length_le (by omega)] at h1
        unfold hasB; exact decide_eq_false h1
      have HH := Lib.hid hh; clear hh
      go_wp2_with fail
      go_ret
      exact ⟨-1, rfl, by rw [HH.out]; decide, rfl⟩
theorem Contains_any (A : Option Addr) (c : Nat) (xs : List Int) (n : Int) (w : World) (hs : Sl fI w A xs) :
    Calls Try.prog 62 #[.slice A xs.length c, .int .i64 n] w fun e w' => e = .returned (.bool (hasB xs n)) ∧ w = w' := by
  have HI := Lib.hid (Index_any A c xs n w hs)
  clear hs
  go_enter Try.func62, Try.ntmps62
  go_wp2_with fail
  (with_reducible refine HI.out.mono ?_); rintro e w' ⟨i, rfl, hi, rfl⟩
  have HB := Lib.hid hi; clear hi
  go_wp2_with fail
  go_ret
  exact ⟨ret_bool HB.out, rfl⟩
/-- a configuration as a value -/
structure CI (w : World) (A : Option Addr) (vs : List Int) (B : Option Addr) (ls : List Int) : Prop where
  v : Sl fI w A vs
  l : Sl fI w B ls
theorem CI.below {w w' : World} {A B : Option Addr} {vs ls : List Int} (h : CI w A vs B ls) (hb : Below w.heap.size w w') : CI w' A vs B ls := ⟨h.v.below hb, h.l.below hb⟩
def BoolB (b : Bool) (w : World) (e : Ending) (w' : World) : Prop := e = .returned (.bool b) ∧ Below w.heap.size w w'

theorem Voter_any {w : World} {A B : Option Addr} {c d : Nat} {vs ls : List Int} (h : CI w A vs B ls) (n : Int) :
    Calls Try.prog 24 #[.agg #[.slice A vs.length c, .slice B ls.length d], .int .i64 n] w (BoolB (hasB vs n) w) := by
  have H := Lib.hid h; clear h
  go_enter Try.func24, Try.ntmps24
  go_upto_region 1 with fail
  obtain ⟨w1, hw1⟩ : ∃ x, x = w.alloc (.cells #[.slice A vs.length c, .slice B ls.length d] 24) := ⟨_, rfl⟩
  rw [← hw1]
  have hb1 : Below w.heap.size w w1 := by rw [hw1]; exact (Below.refl _ _).alloc (Nat.le_refl _) _
  have hx1 : Blk w1 w.heap.size 24 #[.slice A vs.length c, .slice B ls.length d] := by rw [hw1]; exact Blk.new_ w _ _
  have H1 := Lib.hid (H.out.below hb1)
  have HB1 := Lib.hid hb1
  have HX1 := Lib.hid hx1
  have d0 : w1.cell? ⟨w.heap.size, 0, none⟩ = some (.slice A vs.length c) := hx1.cell 0
  have d1 : w1.cell? ⟨w.heap.size, 1, none⟩ = some (.slice B ls.length d) := hx1.cell 1
  clear hw1 hb1 hx1
  go_wp2_with fail
  (with_reducible refine (Contains_any A c vs n w1 H1.out.v).mono ?_); rintro e w2 ⟨rfl, rfl⟩
  go_wp2_with fail
  go_ret
  exact ⟨rfl, HB1.out⟩
theorem RVoter_any {w : World} {A B : Option Addr} {c d : Nat} {vs ls : List Int} (h : CI w A vs B ls) (n : Int) :
    Calls Try.prog 25 #[.agg #[.slice A vs.length c, .slice B ls.length d], .int .i64 n] w (BoolB (hasB vs n) w) := by
  have H := Lib.hid h; clear h
  go_enter Try.func25, Try.ntmps25
  go_upto_region 1 with fail
  obtain ⟨w1, hw1⟩ : ∃ x, x = w.alloc (.cells #[.slice A vs.length c, .slice B ls.length d] 24) := ⟨_, rfl⟩
  rw [← hw1]
  have hb1 : Below w.heap.size w w1 := by rw [hw1]; exact (Below.refl _ _).alloc (Nat.le_refl _) _
  have hx1 : Blk w1 w.heap.size 24 #[.slice A vs.length c, .slice B ls.length d] := by rw [hw1]; exact Blk.new_ w _ _
  have H1 := Lib.hid (H.out.below hb1)
  have HB1 := Lib.hid hb1
  have HX1 := Lib.hid hx1
  have d0 : w1.cell? ⟨w.heap.size, 0, none⟩ = some (.slice A vs.length c) := hx1.cell 0
  have d1 : w1.cell? ⟨w.heap.size, 1, none⟩ = some (.slice B ls.length d) := hx1.cell 1
  clear hw1 hb1 hx1
  go_wp2_with fail
  (with_reducible refine (Has_any A c vs n w1 H1.out.v).mono ?_); rintro e w2 ⟨rfl, rfl⟩
  go_wp2_with fail
  go_ret
  exact ⟨rfl, HB1.out⟩
theorem Member_any {w : World} {A B : Option Addr} {c d : Nat} {vs ls : List Int} (h : CI w A vs B ls) (n : Int) :
    Calls Try.prog 26 #[.agg #[.slice A vs.length c, .slice B ls.length d], .int .i64 n] w (BoolB (hasB vs n || hasB ls n) w) := by
  obtain ⟨p, hp⟩ : ∃ p, p = hasB vs n := ⟨_, rfl⟩
  have HP := Lib.hid hp
  rw [← hp]; clear hp
  have H := Lib.hid h; clear h
  go_enter Try.func26, Try.ntmps26
  go_upto_region 1 with fail
  obtain ⟨w1, hw1⟩ : ∃ x, x = w.alloc (.cells #[.slice A vs.length c, .slice B ls.length d] 24) := ⟨_, rfl⟩
  rw [← hw1]
  have hb1 : Below w.heap.size w w1 := by rw [hw1]; exact (Below.refl _ _).alloc (Nat.le_refl _) _
  have hx1 : Blk w1 w.heap.size 24 #[.slice A vs.length c, .slice B ls.length d] := by rw [hw1]; exact Blk.new_ w _ _
  have H1 := Lib.hid (H.out.below hb1)
  have HB1 := Lib.hid hb1
  have HX1 := Lib.hid hx1
  have d0 : w1.cell? ⟨w.heap.size, 0, none⟩ = some (.slice A vs.length c) := hx1.cell 0
  have d1 : w1.cell? ⟨w.heap.size, 1, none⟩ = some (.slice B ls.length d) := hx1.cell 1
  clear hw1 hb1 hx1
  have hv := Voter_any (c := c) (d := d) H1.out n
  rw [← HP.out] at hv
  have HV := Lib.hid hv; clear hv
  go_wp2_with fail
  (with_reducible refine HV.out.mono ?_); rintro e w2 ⟨rfl, hb2⟩
  have H2 := Lib.hid (H1.out.below hb2)
  have d1 : w2.cell? ⟨w.heap.size, 1, none⟩ = some (.slice B ls.length d) := (HX1.out.below hb2 HX1.out.lt).cell 1
  have HB2 : Hid (Below w.heap.size w w2) := HB1.out.trans (hb2.mono HB1.out.size)
  clear hb2
  cases p with
  | true =>
    go_wp2_with fail
    go_ret
    exact ⟨rfl, HB2.out⟩
  | false =>
    go_wp2_with fail
    (with_reducible refine (Contains_any B d ls n w2 H2.out.l).mono ?_); rintro e w3 ⟨rfl, rfl⟩
    go_wp2_with fail
    go_ret
    exact ⟨ret_bool (by simp), HB2.out⟩
theorem RMember_any {w : World} {A B : Option Addr} {c d : Nat} {vs ls : List Int} (h : CI w A vs B ls) (n : Int) :
    Calls Try.prog 27 #[.agg #[.slice A vs.length c, .slice B ls.length d], .int .i64 n] w (BoolB (hasB vs n || hasB ls n) w) := by
  obtain ⟨p, hp⟩ : ∃ p, p = hasB vs n := ⟨_, rfl⟩
  have HP := Lib.hid hp
  rw [← hp]; clear hp
  have H := Lib.hid h; clear h
  go_enter Try.func27, Try.ntmps27
  go_upto_region 1 with fail
  obtain ⟨w1, hw1⟩ : ∃ x, x = w.alloc (.cells #[.slice A vs.length c, .slice B ls.length d] 24) := ⟨_, rfl⟩
  rw [← hw1]
  have hb1 : Below w.heap.size w w1 := by rw [hw1]; exact (Below.refl _ _).alloc (Nat.le_refl _) _
  have hx1 : Blk w1 w.heap.size 24 #[.slice A vs.length c, .slice B ls.length d] := by rw [hw1]; exact Blk.new_ w _ _
  have H1 := Lib.hid (H.out.below hb1)
  have HB1 := Lib.hid hb1
  have HX1 := Lib.hid hx1
  have d0 : w1.cell? ⟨w.heap.size, 0, none⟩ = some (.slice A vs.length c) := hx1.cell 0
  have d1 : w1.cell? ⟨w.heap.size, 1, none⟩ = some (.slice B ls.length d) := hx1.cell 1
  clear hw1 hb1 hx1
  have hv := RVoter_any (c := c) (d := d) H1.out n
  rw [← HP.out] at hv
  have HV := Lib.hid hv; clear hv
  go_wp2_with fail
  (with_reducible refine HV.out.mono ?_); rintro e w2 ⟨rfl, hb2⟩
  have H2 := Lib.hid (H1.out.below hb2)
  have d1 : w2.cell? ⟨w.heap.size, 1, none⟩ = some (.slice B ls.length d) := (HX1.out.below hb2 HX1.out.lt).cell 1
  have HB2 : Hid (Below w.heap.size w w2) := HB1.out.trans (hb2.mono HB1.out.size)
  clear hb2
  cases p with
  | true =>
    go_wp2_with fail
    go_ret
    exact ⟨rfl, HB2.out⟩
  | false =>
    go_wp2_with fail
    (with_reducible refine (Has_any B d ls n w2 H2.out.l).mono ?_); rintro e w3 ⟨rfl, rfl⟩
    go_wp2_with fail
    go_ret
    exact ⟨ret_bool (by simp), HB2.out⟩
end Go.Proofs.Ytilefofpfbgikaa
