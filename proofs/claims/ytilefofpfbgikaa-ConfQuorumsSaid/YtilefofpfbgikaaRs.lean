/- Layer 15: the document's Same. -/
import Derived.Test.YtilefofpfbgikaaCb
namespace Go.Proofs.Ytilefofpfbgikaa
open Go.RowKit Go.Maps Go.Lib Mem Cf

set_option maxRecDepth 100000 in
set_option maxHeartbeats 2000000 in
theorem RSame_any {w : World} {A B A' B' : Option Addr} {c d c' d' : Nat} {vs ls vs' ls' : List Int} (h : CI w A vs B ls) (h' : CI w A' vs' B' ls') :
    Calls Try.prog 31 #[.agg #[.slice A vs.length c, .slice B ls.length d], .agg #[.slice A' vs'.length c', .slice B' ls'.length d']] w (BoolB (decide (vs = vs') && decide (ls = ls')) w) := by
  obtain ⟨p, hp⟩ : ∃ p, p = decide (vs = vs') := ⟨_, rfl⟩
  obtain ⟨q, hq⟩ : ∃ q, q = decide (ls = ls') := ⟨_, rfl⟩
  rw [← hp, ← hq]
  have H := Lib.hid h; clear h
  have H' := Lib.hid h'; clear h'
  have HC1 : Hid (∀ W, Below w.heap.size w W → Calls Try.prog 32 #[.slice A vs.length c, .slice A' vs'.length c'] W (Quiet (.bool p) W)) := Lib.hid fun W hb => by
    rw [hp]; exact SameInts_any A A' c c' vs vs' W (H.out.below hb).v (H'.out.below hb).v
  have HC2 : Hid (∀ W, Below w.heap.size w W → Calls Try.prog 32 #[.slice B ls.length d, .slice B' ls'.length d'] W (Quiet (.bool q) W)) := Lib.hid fun W hb => by
    rw [hq]; exact SameInts_any B B' d d' ls ls' W (H.out.below hb).l (H'.out.below hb).l
  clear hp hq
  go_enter Try.func31, Try.ntmps31
  go_upto_region 1 with fail
  obtain ⟨w1, hw1⟩ : ∃ x, x = (w.alloc (.cells #[.slice A vs.length c, .slice B ls.length d] 24)).alloc (.cells #[.slice A' vs'.length c', .slice B' ls'.length d'] 24) := ⟨_, rfl⟩
  rw [← hw1]
  have hb1 : Below w.heap.size w w1 := by rw [hw1]; exact ((Below.refl _ _).alloc (Nat.le_refl _) _).alloc (by simp) _
  have hx1 : Blk w1 w.heap.size 24 #[.slice A vs.length c, .slice B ls.length d] := by rw [hw1]; exact (Blk.new_ w _ _).alloc _
  have hr1 : Blk w1 (w.heap.size + 1) 24 #[.slice A' vs'.length c', .slice B' ls'.length d'] := by
    have := Blk.new_ (w.alloc (.cells #[.slice A vs.length c, .slice B ls.length d] 24)) 24 #[.slice A' vs'.length c', .slice B' ls'.length d']
    rw [World.size_alloc] at this; rw [hw1]; exact this
  have HB1 := Lib.hid hb1
  have HX1 := Lib.hid hx1
  have HR1 := Lib.hid hr1
  have d0 : w1.cell? ⟨w.heap.size, 0, none⟩ = some (.slice A vs.length c) := hx1.cell 0
  have d1 : w1.cell? ⟨w.heap.size, 1, none⟩ = some (.slice B ls.length d) := hx1.cell 1
  have r0 : w1.cell? ⟨w.heap.size + 1, 0, none⟩ = some (.slice A' vs'.length c') := hr1.cell 0
  have r1 : w1.cell? ⟨w.heap.size + 1, 1, none⟩ = some (.slice B' ls'.length d') := hr1.cell 1
  clear hw1 hb1 hx1 hr1
  go_wp2_with fail
  (with_reducible refine (HC1.out w1 HB1.out).mono ?_); rintro e w2 hq2
  obtain ⟨rfl, hb2⟩ := hq2.below
  have d1 : w2.cell? ⟨w.heap.size, 1, none⟩ = some (.slice B ls.length d) := (HX1.out.below hb2 HX1.out.lt).cell 1
  have r1 : w2.cell? ⟨w.heap.size + 1, 1, none⟩ = some (.slice B' ls'.length d') := (HR1.out.below hb2 HR1.out.lt).cell 1
  have HB2 : Hid (Below w.heap.size w w2) := HB1.out.trans (hb2.mono HB1.out.size)
  clear hb2 hq2
  cases p with
  | false =>
    go_wp2_with fail
    go_ret
    exact ⟨ret_bool (by simp), HB2.out⟩
  | true =>
    go_wp2_with fail
    (with_reducible refine (HC2.out w2 HB2.out).mono ?_); rintro e w3 hq3
    obtain ⟨rfl, hb3⟩ := hq3.below
    have HB3 : Hid (Below w.heap.size w w3) := HB2.out.trans (hb3.mono HB2.out.size)
    clear hb3 hq3
    go_wp2_with fail
    go_ret
    exact ⟨ret_bool (by simp), HB3.out⟩
end Go.Proofs.Ytilefofpfbgikaa
