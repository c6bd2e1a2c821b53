/- Layer 15: ConfLoads: the walk. -/
import Derived.Test.YtilefofpfbgikaaCa
import Derived.Test.YtilefofpfbgikaaRl
namespace Go.Proofs.Ytilefofpfbgikaa
open Go Go.RowKit Go.Maps Go.Lib Mem Pk Cf

set_option maxRecDepth 100000 in
set_option maxHeartbeats 4000000 in
theorem confLoads_go {w : World} (A : Option Addr) (c : Nat) (bs : List UInt8) (hc : bs.length ≤ c) (hm : c ≤ maxLen) (hs : Sl fB w A bs) (hbl : bs.length ≤ 1048576) :
    Calls Try.prog 5 #[.slice A bs.length c] w fun e w' => e = .returned (.bool true) ∧ Below w.heap.size w w' := by
  obtain ⟨res, hres⟩ : ∃ r, r = loadC bs := ⟨_, rfl⟩
  have HRES := Lib.hid hres; clear hres
  have HS := Lib.hid hs; clear hs
  have HC := Lib.hid hc; clear hc
  have HM := Lib.hid hm; clear hm
  have HBL := Lib.hid hbl; clear hbl
  go_enter Try.func5, Try.ntmps5
  go_wp2_with fail
  (with_reducible refine (alive_any _).mono ?_); rintro e w1 ⟨rfl, hb1⟩
  have HS1 := Lib.hid (HS.out.below hb1)
  have HB1 := Lib.hid hb1
  have hld := Load_any (SlF.of_sl HS1.out) HC.out HM.out
  rw [← HRES.out] at hld
  have HLD := Lib.hid hld; clear hld hb1 HS
  go_wp2_with fail
  (with_reducible refine HLD.out.mono ?_); rintro e w2 ⟨hn, hb2, hy⟩
  have HB2 : Hid (Below w.heap.size w w2) := HB1.out.trans (hb2.mono HB1.out.size)
  have HS2 := Lib.hid (HS1.out.below hb2)
  clear hb2 HS1 HB1 HLD
  cases res with
  | none =>
    obtain rfl := hn rfl
    clear hn hy
    go_wp2_with fail
    obtain ⟨w3, hw3⟩ : ∃ x, x = w2.alloc (.cells #[.slice none 0 0, .slice none 0 0] 24) := ⟨_, rfl⟩
    rw [← hw3]
    have hb3 : Below w2.heap.size w2 w3 := by rw [hw3]; exact (Below.refl _ _).alloc (Nat.le_refl _) _
    have hx3 : Blk w3 w2.heap.size 24 #[.slice none 0 0, .slice none 0 0] := by rw [hw3]; exact Blk.new_ w2 _ _
    have HRL := Lib.hid (RLoad_any (SlF.of_sl (HS2.out.below hb3)) HC.out HM.out (Nat.le_trans HBL.out (by decide)))
    have HB3 : Hid (Below w.heap.size w w3) := HB2.out.trans (hb3.mono HB2.out.size)
    have HX3 := Lib.hid hx3
    clear hw3 hb3 hx3
    (with_reducible refine HRL.out.mono ?_); rintro e w4 ⟨A2, n2, c2, B2, m2, d2, ok, rfl, hb4, hn, -⟩
    obtain rfl := hn HRES.out.symm
    have hx4 := HX3.out.below hb4 HX3.out.lt
    have HB4 : Hid (Below w.heap.size w w4) := HB3.out.trans (hb4.mono HB3.out.size)
    go_upto_region 6 with fail
    obtain ⟨w5, hw5⟩ : ∃ x, x = w4.alloc (.cells #[.slice A2 n2 c2, .slice B2 m2 d2] 24) := ⟨_, rfl⟩
    rw [← hw5]
    have hb5 : Below w4.heap.size w4 w5 := by rw [hw5]; exact (Below.refl _ _).alloc (Nat.le_refl _) _
    have hx5 := hx4.below hb5 hx4.lt
    have c0 : w5.cell? ⟨w2.heap.size, 0, none⟩ = some (.slice none 0 0) := hx5.cell 0
    have c1 : w5.cell? ⟨w2.heap.size, 1, none⟩ = some (.slice none 0 0) := hx5.cell 1
    have HB5 : Hid (Below w.heap.size w w5) := HB4.out.trans (hb5.mono HB4.out.size)
    clear hx4 hb4 hn hx5 hb5 hw5
    go_wp2_with fail
    go_ret
    exact ⟨ret_bool rfl, HB5.out⟩
  | some p =>
    obtain ⟨vs, ls⟩ := p
    obtain ⟨A1, B1, c1, d1, rfl, ho1, ho2⟩ := hy vs ls rfl
    clear hn hy
    go_wp2_with fail
    obtain ⟨w3, hw3⟩ : ∃ x, x = w2.alloc (.cells #[.slice A1 vs.length c1, .slice B1 ls.length d1] 24) := ⟨_, rfl⟩
    rw [← hw3]
    have hb3 : Below w2.heap.size w2 w3 := by rw [hw3]; exact (Below.refl _ _).alloc (Nat.le_refl _) _
    have hx3 : Blk w3 w2.heap.size 24 #[.slice A1 vs.length c1, .slice B1 ls.length d1] := by rw [hw3]; exact Blk.new_ w2 _ _
    have HRL := Lib.hid (RLoad_any (SlF.of_sl (HS2.out.below hb3)) HC.out HM.out (Nat.le_trans HBL.out (by decide)))
    have HB3 : Hid (Below w.heap.size w w3) := HB2.out.trans (hb3.mono HB2.out.size)
    have HX3 := Lib.hid hx3
    have HCI3 : Hid (CI w3 A1 vs B1 ls) := Lib.hid ((CI.mk ho1.sl.2 ho2.sl.2).below hb3)
    clear hw3 hb3 hx3 ho1 ho2
    (with_reducible refine HRL.out.mono ?_); rintro e w4 ⟨A2, n2, c2, B2, m2, d2, ok, rfl, hb4, -, hy⟩
    obtain ⟨rfl, rfl, rfl, hci⟩ := hy vs ls HRES.out.symm
    have HX4 := Lib.hid (HX3.out.below hb4 HX3.out.lt)
    have HB4 : Hid (Below w.heap.size w w4) := HB3.out.trans (hb4.mono HB3.out.size)
    have HCI4 := Lib.hid (HCI3.out.below hb4)
    have HCJ4 := Lib.hid hci
    clear hb4 hy hci
    go_upto_region 7 with fail
    obtain ⟨w5, hw5⟩ : ∃ x, x = w4.alloc (.cells #[.slice A2 vs.length c2, .slice B2 ls.length d2] 24) := ⟨_, rfl⟩
    rw [← hw5]
    have hb5 : Below w4.heap.size w4 w5 := by rw [hw5]; exact (Below.refl _ _).alloc (Nat.le_refl _) _
    have hx5 : Blk w5 w4.heap.size 24 #[.slice A2 vs.length c2, .slice B2 ls.length d2] := by rw [hw5]; exact Blk.new_ w4 _ _
    have hx45 := HX4.out.below hb5 HX4.out.lt
    have e0 : w5.cell? ⟨w2.heap.size, 0, none⟩ = some (.slice A1 vs.length c1) := hx45.cell 0
    have e1 : w5.cell? ⟨w2.heap.size, 1, none⟩ = some (.slice B1 ls.length d1) := hx45.cell 1
    have f0 : w5.cell? ⟨w4.heap.size, 0, none⟩ = some (.slice A2 vs.length c2) := hx5.cell 0
    have f1 : w5.cell? ⟨w4.heap.size, 1, none⟩ = some (.slice B2 ls.length d2) := hx5.cell 1
    have hsm := RSame_any (c := c1) (d := d1) (c' := c2) (d' := d2) (HCI4.out.below hb5) (HCJ4.out.below hb5)
    rw [show (decide (vs = vs) && decide (ls = ls)) = true by simp] at hsm
    have HSM := Lib.hid hsm
    have HB5 : Hid (Below w.heap.size w w5) := HB4.out.trans (hb5.mono HB4.out.size)
    clear hw5 hb5 hx5 hx45 hsm
    go_wp2_with fail
    (with_reducible refine HSM.out.mono ?_); rintro e w6 ⟨rfl, hb6⟩
    have HB6 : Hid (Below w.heap.size w w6) := HB5.out.trans (hb6.mono HB5.out.size)
    clear hb6
    go_wp2_with fail
    go_ret
    exact ⟨ret_bool rfl, HB6.out⟩
theorem confLoads_walk {w : World} (A : Option Addr) (c : Nat) (bs : List UInt8) (hc : bs.length ≤ c) (hm : c ≤ maxLen) (hs : Sl fB w A bs) (_ : ∀ x ∈ bs, True) (_ : Room 1 bs.length) (hbl : bs.length ≤ 1048576) :
    Calls Try.prog 5 #[.slice A bs.length c] w fun e w' => e = .returned (.bool true) ∧ Below w.heap.size w w' := confLoads_go A c bs hc hm hs hbl
end Go.Proofs.Ytilefofpfbgikaa
