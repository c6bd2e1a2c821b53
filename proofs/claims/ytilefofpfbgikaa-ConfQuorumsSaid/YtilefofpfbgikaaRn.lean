/- Layer 15: the document's Next. -/
import Derived.Test.YtilefofpfbgikaaWi
namespace Go.Proofs.Ytilefofpfbgikaa
open Go.RowKit Go.Maps Go.Lib Mem Cf

def refR (vs ls : List Int) (kind n : Int) : List Int × List Int × Int :=
  if rightB vs ls = false ∨ kind < 1 ∨ 3 < kind ∨ n < 1 ∨ 7 < n then ([], [], 1)
  else if kind = 1 then if (hasB vs n || hasB ls n) = true then ([], [], 5) else (upto vs n false 7, upto ls n true 7, 0)
  else if kind = 2 then if hasB ls n = false then ([], [], 4) else (upto vs n true 7, upto ls n false 7, 0)
  else if (hasB vs n || hasB ls n) = false then ([], [], 4)
  else if hasB vs n = true ∧ vs.length = 1 then ([], [], 3) else (upto vs n false 7, upto ls n false 7, 0)
set_option maxRecDepth 100000 in
set_option maxHeartbeats 2000000 in
theorem RNext_e0 {w : World} {A B : Option Addr} {c d : Nat} {vs ls : List Int} (h : CI w A vs B ls) (kind n : Int) (hr : rightB vs ls = false) :
    Calls Try.prog 37 #[.agg #[.slice A vs.length c, .slice B ls.length d], .int .i64 kind, .int .i64 n] w (NextPost (refR vs ls kind n) w) := by
  have hres : refR vs ls kind n = ([], [], 1) := by unfold refR; rw [if_pos (.inl hr)]
  have HRES := Lib.hid hres; clear hres
  have HRT := Lib.hid hr; clear hr
  have hl := h.v.len
  have hl2 := h.l.len
  obtain ⟨p, hp⟩ : ∃ p, p = rightB vs ls := ⟨_, rfl⟩
  have HP := Lib.hid hp; clear hp
  have H := Lib.hid h; clear h
  go_enter Try.func37, Try.ntmps37
  go_upto_region 1 with fail
  obtain ⟨w1, hw1⟩ : ∃ x, x = (w.alloc (.cells #[.slice A vs.length c, .slice B ls.length d] 24)).alloc (.cells #[.slice none 0 0, .slice none 0 0] 24) := ⟨_, rfl⟩
  rw [← hw1]
  have hb1 : Below w.heap.size w w1 := by rw [hw1]; exact ((Below.refl _ _).alloc (Nat.le_refl _) _).alloc (by simp) _
  have hx1 : Blk w1 w.heap.size 24 #[.slice A vs.length c, .slice B ls.length d] := by rw [hw1]; exact (Blk.new_ w _ _).alloc _
  have hr1 : Blk w1 (w.heap.size + 1) 24 #[.slice none 0 0, .slice none 0 0] := by
    have := Blk.new_ (w.alloc (.cells #[.slice A vs.length c, .slice B ls.length d] 24)) 24 #[.slice none 0 0, .slice none 0 0]
    rw [World.size_alloc] at this; rw [hw1]; exact this
  have H1 := Lib.hid (H.out.below hb1)
  have HB1 := Lib.hid hb1
  have HX1 := Lib.hid hx1
  have HR1 := Lib.hid hr1
  have d0 : w1.cell? ⟨w.heap.size, 0, none⟩ = some (.slice A vs.length c) := hx1.cell 0
  have d1 : w1.cell? ⟨w.heap.size, 1, none⟩ = some (.slice B ls.length d) := hx1.cell 1
  clear hw1 hb1 hx1 hr1 H
  have hrg := RRight_any (c := c) (d := d) H1.out
  rw [← HP.out] at hrg
  have HRG := Lib.hid hrg; clear hrg
  go_wp2_with fail
  (with_reducible refine HRG.out.mono ?_); rintro e w2 ⟨rfl, hb2⟩
  have H2 := Lib.hid (H1.out.below hb2)
  have HX2 := Lib.hid (HX1.out.below hb2 HX1.out.lt)
  have HR2 := Lib.hid (HR1.out.below hb2 HR1.out.lt)
  have HB2 : Hid (Below w.heap.size w w2) := HB1.out.trans (hb2.mono HB1.out.size)
  clear hb2 d0 d1
  have d0 : w2.cell? ⟨w.heap.size, 0, none⟩ = some (.slice A vs.length c) := HX2.out.cell 0
  have d1 : w2.cell? ⟨w.heap.size, 1, none⟩ = some (.slice B ls.length d) := HX2.out.cell 1
  clear HRG
  have hp : p = false := by rw [HP.out, HRT.out]
  subst hp
  have r0 : w2.cell? ⟨w.heap.size + 1, 0, none⟩ = some (.slice none 0 0) := HR2.out.cell 0
  have r1 : w2.cell? ⟨w.heap.size + 1, 1, none⟩ = some (.slice none 0 0) := HR2.out.cell 1
  have q0 := HR2.out.free 0
  have q1 := HR2.out.free 1
  go_wp2_with fail
  refine bodyPost_ret (v := .tuple #[.agg #[.slice none 0 0, .slice none 0 0], .int .i64 1]) (by simp [results, Try.results37, go_sem, r0, r1, q0, q1]) rfl ?_
  rw [HRES.out]
  exact ⟨none, 0, none, 0, rfl, Own.nil, Own.nil, (HB2.out.setCell (p := ⟨w.heap.size + 1, 0, none⟩) (Nat.le_succ _) _).setCell (p := ⟨w.heap.size + 1, 1, none⟩) (Nat.le_succ _) _⟩

set_option maxRecDepth 100000 in
set_option maxHeartbeats 2000000 in
theorem RNext_e1 {w : World} {A B : Option Addr} {c d : Nat} {vs ls : List Int} (h : CI w A vs B ls) (kind n : Int) (hr : rightB vs ls = true) (h1 : kind < 1) :
    Calls Try.prog 37 #[.agg #[.slice A vs.length c, .slice B ls.length d], .int .i64 kind, .int .i64 n] w (NextPost (refR vs ls kind n) w) := by
  have hres : refR vs ls kind n = ([], [], 1) := by unfold refR; rw [if_pos (.inr (.inl h1))]
  have HRES := Lib.hid hres; clear hres
  have HRT := Lib.hid hr; clear hr
  have hl := h.v.len
  have hl2 := h.l.len
  obtain ⟨p, hp⟩ : ∃ p, p = rightB vs ls := ⟨_, rfl⟩
  have HP := Lib.hid hp; clear hp
  have H := Lib.hid h; clear h
  go_enter Try.func37, Try.ntmps37
  go_upto_region 1 with fail
  obtain ⟨w1, hw1⟩ : ∃ x, x = (w.alloc (.cells #[.slice A vs.length c, .slice B ls.length d] 24)).alloc (.cells #[.slice none 0 0, .slice none 0 0] 24) := ⟨_, rfl⟩
  rw [← hw1]
  have hb1 : Below w.heap.size w w1 := by rw [hw1]; exact ((Below.refl _ _).alloc (Nat.le_refl _) _).alloc (by simp) _
  have hx1 : Blk w1 w.heap.size 24 #[.slice A vs.length c, .slice B ls.length d] := by rw [hw1]; exact (Blk.new_ w _ _).alloc _
  have hr1 : Blk w1 (w.heap.size + 1) 24 #[.slice none 0 0, .slice none 0 0] := by
    have := Blk.new_ (w.alloc (.cells #[.slice A vs.length c, .slice B ls.length d] 24)) 24 #[.slice none 0 0, .slice none 0 0]
    rw [World.size_alloc] at this; rw [hw1]; exact this
  have H1 := Lib.hid (H.out.below hb1)
  have HB1 := Lib.hid hb1
  have HX1 := Lib.hid hx1
  have HR1 := Lib.hid hr1
  have d0 : w1.cell? ⟨w.heap.size, 0, none⟩ = some (.slice A vs.length c) := hx1.cell 0
  have d1 : w1.cell? ⟨w.heap.size, 1, none⟩ = some (.slice B ls.length d) := hx1.cell 1
  clear hw1 hb1 hx1 hr1 H
  have hrg := RRight_any (c := c) (d := d) H1.out
  rw [← HP.out] at hrg
  have HRG := Lib.hid hrg; clear hrg
  go_wp2_with fail
  (with_reducible refine HRG.out.mono ?_); rintro e w2 ⟨rfl, hb2⟩
  have H2 := Lib.hid (H1.out.below hb2)
  have HX2 := Lib.hid (HX1.out.below hb2 HX1.out.lt)
  have HR2 := Lib.hid (HR1.out.below hb2 HR1.out.lt)
  have HB2 : Hid (Below w.heap.size w w2) := HB1.out.trans (hb2.mono HB1.out.size)
  clear hb2 d0 d1
  have d0 : w2.cell? ⟨w.heap.size, 0, none⟩ = some (.slice A vs.length c) := HX2.out.cell 0
  have d1 : w2.cell? ⟨w.heap.size, 1, none⟩ = some (.slice B ls.length d) := HX2.out.cell 1
  clear HRG
  have hp : p = true := by rw [HP.out, HRT.out]
  subst hp
  have r0 : w2.cell? ⟨w.heap.size + 1, 0, none⟩ = some (.slice none 0 0) := HR2.out.cell 0
  have r1 : w2.cell? ⟨w.heap.size + 1, 1, none⟩ = some (.slice none 0 0) := HR2.out.cell 1
  have q0 := HR2.out.free 0
  have q1 := HR2.out.free 1
  go_wp2_with fail
  refine bodyPost_ret (v := .tuple #[.agg #[.slice none 0 0, .slice none 0 0], .int .i64 1]) (by simp [results, Try.results37, go_sem, r0, r1, q0, q1]) rfl ?_
  rw [HRES.out]
  exact ⟨none, 0, none, 0, rfl, Own.nil, Own.nil, (HB2.out.setCell (p := ⟨w.heap.size + 1, 0, none⟩) (Nat.le_succ _) _).setCell (p := ⟨w.heap.size + 1, 1, none⟩) (Nat.le_succ _) _⟩

set_option maxRecDepth 100000 in
set_option maxHeartbeats 2000000 in
theorem RNext_e2 {w : World} {A B : Option Addr} {c d : Nat} {vs ls : List Int} (h : CI w A vs B ls) (kind n : Int) (hr : rightB vs ls = true) (h0 : ¬ kind < 1) (h1 : 3 < kind) :
    Calls Try.prog 37 #[.agg #[.slice A vs.length c, .slice B ls.length d], .int .i64 kind, .int .i64 n] w (NextPost (refR vs ls kind n) w) := by
  have hres : refR vs ls kind n = ([], [], 1) := by unfold refR; rw [if_pos (.inr (.inr (.inl h1)))]
  have HRES := Lib.hid hres; clear hres
  have HRT := Lib.hid hr; clear hr
  have hl := h.v.len
  have hl2 := h.l.len
  obtain ⟨p, hp⟩ : ∃ p, p = rightB vs ls := ⟨_, rfl⟩
  have HP := Lib.hid hp; clear hp
  have H := Lib.hid h; clear h
  go_enter Try.func37, Try.ntmps37
  go_upto_region 1 with fail
  obtain ⟨w1, hw1⟩ : ∃ x, x = (w.alloc (.cells #[.slice A vs.length c, .slice B ls.length d] 24)).alloc (.cells #[.slice none 0 0, .slice none 0 0] 24) := ⟨_, rfl⟩
  rw [← hw1]
  have hb1 : Below w.heap.size w w1 := by rw [hw1]; exact ((Below.refl _ _).alloc (Nat.le_refl _) _).alloc (by simp) _
  have hx1 : Blk w1 w.heap.size 24 #[.slice A vs.length c, .slice B ls.length d] := by rw [hw1]; exact (Blk.new_ w _ _).alloc _
  have hr1 : Blk w1 (w.heap.size + 1) 24 #[.slice none 0 0, .slice none 0 0] := by
    have := Blk.new_ (w.alloc (.cells #[.slice A vs.length c, .slice B ls.length d] 24)) 24 #[.slice none 0 0, .slice none 0 0]
    rw [World.size_alloc] at this; rw [hw1]; exact this
  have H1 := Lib.hid (H.out.below hb1)
  have HB1 := Lib.hid hb1
  have HX1 := Lib.hid hx1
  have HR1 := Lib.hid hr1
  have d0 : w1.cell? ⟨w.heap.size, 0, none⟩ = some (.slice A vs.length c) := hx1.cell 0
  have d1 : w1.cell? ⟨w.heap.size, 1, none⟩ = some (.slice B ls.length d) := hx1.cell 1
  clear hw1 hb1 hx1 hr1 H
  have hrg := RRight_any (c := c) (d := d) H1.out
  rw [← HP.out] at hrg
  have HRG := Lib.hid hrg; clear hrg
  go_wp2_with fail
  (with_reducible refine HRG.out.mono ?_); rintro e w2 ⟨rfl, hb2⟩
  have H2 := Lib.hid (H1.out.below hb2)
  have HX2 := Lib.hid (HX1.out.below hb2 HX1.out.lt)
  have HR2 := Lib.hid (HR1.out.below hb2 HR1.out.lt)
  have HB2 : Hid (Below w.heap.size w w2) := HB1.out.trans (hb2.mono HB1.out.size)
  clear hb2 d0 d1
  have d0 : w2.cell? ⟨w.heap.size, 0, none⟩ = some (.slice A vs.length c) := HX2.out.cell 0
  have d1 : w2.cell? ⟨w.heap.size, 1, none⟩ = some (.slice B ls.length d) := HX2.out.cell 1
  clear HRG
  have hp : p = true := by rw [HP.out, HRT.out]
  subst hp
  have r0 : w2.cell? ⟨w.heap.size + 1, 0, none⟩ = some (.slice none 0 0) := HR2.out.cell 0
  have r1 : w2.cell? ⟨w.heap.size + 1, 1, none⟩ = some (.slice none 0 0) := HR2.out.cell 1
  have q0 := HR2.out.free 0
  have q1 := HR2.out.free 1
  go_wp2_with fail
  refine bodyPost_ret (v := .tuple #[.agg #[.slice none 0 0, .slice none 0 0], .int .i64 1]) (by simp [results, Try.results37, go_sem, r0, r1, q0, q1]) rfl ?_
  rw [HRES.out]
  exact ⟨none, 0, none, 0, rfl, Own.nil, Own.nil, (HB2.out.setCell (p := ⟨w.heap.size + 1, 0, none⟩) (Nat.le_succ _) _).setCell (p := ⟨w.heap.size + 1, 1, none⟩) (Nat.le_succ _) _⟩

set_option maxRecDepth 100000 in
set_option maxHeartbeats 2000000 in
theorem RNext_e3 {w : World} {A B : Option Addr} {c d : Nat} {vs ls : List Int} (h : CI w A vs B ls) (kind n : Int) (hr : rightB vs ls = true) (h0 : ¬ kind < 1) (h01 : ¬ 3 < kind) (h1 : n < 1) :
    Calls Try.prog 37 #[.agg #[.slice A vs.length c, .slice B ls.length d], .int .i64 kind, .int .i64 n] w (NextPost (refR vs ls kind n) w) := by
  have hres : refR vs ls kind n = ([], [], 1) := by unfold refR; rw [if_pos (.inr (.inr (.inr (.inl h1))))]
  have HRES := Lib.hid hres; clear hres
  have HRT := Lib.hid hr; clear hr
  have hl := h.v.len
  have hl2 := h.l.len
  obtain ⟨p, hp⟩ : ∃ p, p = rightB vs ls := ⟨_, rfl⟩
  have HP := Lib.hid hp; clear hp
  have H := Lib.hid h; clear h
  go_enter Try.func37, Try.ntmps37
  go_upto_region 1 with fail
  obtain ⟨w1, hw1⟩ : ∃ x, x = (w.alloc (.cells #[.slice A vs.length c, .slice B ls.length d] 24)).alloc (.cells #[.slice none 0 0, .slice none 0 0] 24) := ⟨_, rfl⟩
  rw [← hw1]
  have hb1 : Below w.heap.size w w1 := by rw [hw1]; exact ((Below.refl _ _).alloc (Nat.le_refl _) _).alloc (by simp) _
  have hx1 : Blk w1 w.heap.size 24 #[.slice A vs.length c, .slice B ls.length d] := by rw [hw1]; exact (Blk.new_ w _ _).alloc _
  have hr1 : Blk w1 (w.heap.size + 1) 24 #[.slice none 0 0, .slice none 0 0] := by
    have := Blk.new_ (w.alloc (.cells #[.slice A vs.length c, .slice B ls.length d] 24)) 24 #[.slice none 0 0, .slice none 0 0]
    rw [World.size_alloc] at this; rw [hw1]; exact this
  have H1 := Lib.hid (H.out.below hb1)
  have HB1 := Lib.hid hb1
  have HX1 := Lib.hid hx1
  have HR1 := Lib.hid hr1
  have d0 : w1.cell? ⟨w.heap.size, 0, none⟩ = some (.slice A vs.length c) := hx1.cell 0
  have d1 : w1.cell? ⟨w.heap.size, 1, none⟩ = some (.slice B ls.length d) := hx1.cell 1
  clear hw1 hb1 hx1 hr1 H
  have hrg := RRight_any (c := c) (d := d) H1.out
  rw [← HP.out] at hrg
  have HRG := Lib.hid hrg; clear hrg
  go_wp2_with fail
  (with_reducible refine HRG.out.mono ?_); rintro e w2 ⟨rfl, hb2⟩
  have H2 := Lib.hid (H1.out.below hb2)
  have HX2 := Lib.hid (HX1.out.below hb2 HX1.out.lt)
  have HR2 := Lib.hid (HR1.out.below hb2 HR1.out.lt)
  have HB2 : Hid (Below w.heap.size w w2) := HB1.out.trans (hb2.mono HB1.out.size)
  clear hb2 d0 d1
  have d0 : w2.cell? ⟨w.heap.size, 0, none⟩ = some (.slice A vs.length c) := HX2.out.cell 0
  have d1 : w2.cell? ⟨w.heap.size, 1, none⟩ = some (.slice B ls.length d) := HX2.out.cell 1
  clear HRG
  have hp : p = true := by rw [HP.out, HRT.out]
  subst hp
  have r0 : w2.cell? ⟨w.heap.size + 1, 0, none⟩ = some (.slice none 0 0) := HR2.out.cell 0
  have r1 : w2.cell? ⟨w.heap.size + 1, 1, none⟩ = some (.slice none 0 0) := HR2.out.cell 1
  have q0 := HR2.out.free 0
  have q1 := HR2.out.free 1
  go_wp2_with fail
  refine bodyPost_ret (v := .tuple #[.agg #[.slice none 0 0, .slice none 0 0], .int .i64 1]) (by simp [results, Try.results37, go_sem, r0, r1, q0, q1]) rfl ?_
  rw [HRES.out]
  exact ⟨none, 0, none, 0, rfl, Own.nil, Own.nil, (HB2.out.setCell (p := ⟨w.heap.size + 1, 0, none⟩) (Nat.le_succ _) _).setCell (p := ⟨w.heap.size + 1, 1, none⟩) (Nat.le_succ _) _⟩

set_option maxRecDepth 100000 in
set_option maxHeartbeats 2000000 in
theorem RNext_e4 {w : World} {A B : Option Addr} {c d : Nat} {vs ls : List Int} (h : CI w A vs B ls) (kind n : Int) (hr : rightB vs ls = true) (h0 : ¬ kind < 1) (h01 : ¬ 3 < kind) (h02 : ¬ n < 1) (h1 : 7 < n) :
    Calls Try.prog 37 #[.agg #[.slice A vs.length c, .slice B ls.length d], .int .i64 kind, .int .i64 n] w (NextPost (refR vs ls kind n) w) := by
  have hres : refR vs ls kind n = ([], [], 1) := by unfold refR; rw [if_pos (.inr (.inr (.inr (.inr h1))))]
  have HRES := Lib.hid hres; clear hres
  have HRT := Lib.hid hr; clear hr
  have hl := h.v.len
  have hl2 := h.l.len
  obtain ⟨p, hp⟩ : ∃ p, p = rightB vs ls := ⟨_, rfl⟩
  have HP := Lib.hid hp; clear hp
  have H := Lib.hid h; clear h
  go_enter Try.func37, Try.ntmps37
  go_upto_region 1 with fail
  obtain ⟨w1, hw1⟩ : ∃ x, x = (w.alloc (.cells #[.slice A vs.length c, .slice B ls.length d] 24)).alloc (.cells #[.slice none 0 0, .slice none 0 0] 24) := ⟨_, rfl⟩
  rw [← hw1]
  have hb1 : Below w.heap.size w w1 := by rw [hw1]; exact ((Below.refl _ _).alloc (Nat.le_refl _) _).alloc (by simp) _
  have hx1 : Blk w1 w.heap.size 24 #[.slice A vs.length c, .slice B ls.length d] := by rw [hw1]; exact (Blk.new_ w _ _).alloc _
  have hr1 : Blk w1 (w.heap.size + 1) 24 #[.slice none 0 0, .slice none 0 0] := by
    have := Blk.new_ (w.alloc (.cells #[.slice A vs.length c, .slice B ls.length d] 24)) 24 #[.slice none 0 0, .slice none 0 0]
    rw [World.size_alloc] at this; rw [hw1]; exact this
  have H1 := Lib.hid (H.out.below hb1)
  have HB1 := Lib.hid hb1
  have HX1 := Lib.hid hx1
  have HR1 := Lib.hid hr1
  have d0 : w1.cell? ⟨w.heap.size, 0, none⟩ = some (.slice A vs.length c) := hx1.cell 0
  have d1 : w1.cell? ⟨w.heap.size, 1, none⟩ = some (.slice B ls.length d) := hx1.cell 1
  clear hw1 hb1 hx1 hr1 H
  have hrg := RRight_any (c := c) (d := d) H1.out
  rw [← HP.out] at hrg
  have HRG := Lib.hid hrg; clear hrg
  go_wp2_with fail
  (with_reducible refine HRG.out.mono ?_); rintro e w2 ⟨rfl, hb2⟩
  have H2 := Lib.hid (H1.out.below hb2)
  have HX2 := Lib.hid (HX1.out.below hb2 HX1.out.lt)
  have HR2 := Lib.hid (HR1.out.below hb2 HR1.out.lt)
  have HB2 : Hid (Below w.heap.size w w2) := HB1.out.trans (hb2.mono HB1.out.size)
  clear hb2 d0 d1
  have d0 : w2.cell? ⟨w.heap.size, 0, none⟩ = some (.slice A vs.length c) := HX2.out.cell 0
  have d1 : w2.cell? ⟨w.heap.size, 1, none⟩ = some (.slice B ls.length d) := HX2.out.cell 1
  clear HRG
  have hp : p = true := by rw [HP.out, HRT.out]
  subst hp
  have r0 : w2.cell? ⟨w.heap.size + 1, 0, none⟩ = some (.slice none 0 0) := HR2.out.cell 0
  have r1 : w2.cell? ⟨w.heap.size + 1, 1, none⟩ = some (.slice none 0 0) := HR2.out.cell 1
  have q0 := HR2.out.free 0
  have q1 := HR2.out.free 1
  go_wp2_with fail
  refine bodyPost_ret (v := .tuple #[.agg #[.slice none 0 0, .slice none 0 0], .int .i64 1]) (by simp [results, Try.results37, go_sem, r0, r1, q0, q1]) rfl ?_
  rw [HRES.out]
  exact ⟨none, 0, none, 0, rfl, Own.nil, Own.nil, (HB2.out.setCell (p := ⟨w.heap.size + 1, 0, none⟩) (Nat.le_succ _) _).setCell (p := ⟨w.heap.size + 1, 1, none⟩) (Nat.le_succ _) _⟩

set_option maxRecDepth 100000 in
set_option maxHeartbeats 2000000 in
theorem RNext_1e {w : World} {A B : Option Addr} {c d : Nat} {vs ls : List Int} (h : CI w A vs B ls) (kind n : Int) (hk : kind = 1) (hr : rightB vs ls = true) (hn1 : ¬ n < 1) (hn7 : ¬ 7 < n) (hm : (hasB vs n || hasB ls n) = true) :
    Calls Try.prog 37 #[.agg #[.slice A vs.length c, .slice B ls.length d], .int .i64 kind, .int .i64 n] w (NextPost (refR vs ls kind n) w) := by
  subst hk
  have hres : refR vs ls 1 n = ([], [], 5) := by unfold refR; rw [if_neg (by rw [hr]; simp; omega), if_pos rfl, if_pos hm]
  have HRES := Lib.hid hres; clear hres
  have HRT := Lib.hid hr; clear hr
  have HM := Lib.hid hm; clear hm
  have hl := h.v.len
  have hl2 := h.l.len
  obtain ⟨p, hp⟩ : ∃ p, p = rightB vs ls := ⟨_, rfl⟩
  have HP := Lib.hid hp; clear hp
  have H := Lib.hid h; clear h
  go_enter Try.func37, Try.ntmps37
  go_upto_region 1 with fail
  obtain ⟨w1, hw1⟩ : ∃ x, x = (w.alloc (.cells #[.slice A vs.length c, .slice B ls.length d] 24)).alloc (.cells #[.slice none 0 0, .slice none 0 0] 24) := ⟨_, rfl⟩
  rw [← hw1]
  have hb1 : Below w.heap.size w w1 := by rw [hw1]; exact ((Below.refl _ _).alloc (Nat.le_refl _) _).alloc (by simp) _
  have hx1 : Blk w1 w.heap.size 24 #[.slice A vs.length c, .slice B ls.length d] := by rw [hw1]; exact (Blk.new_ w _ _).alloc _
  have hr1 : Blk w1 (w.heap.size + 1) 24 #[.slice none 0 0, .slice none 0 0] := by
    have := Blk.new_ (w.alloc (.cells #[.slice A vs.length c, .slice B ls.length d] 24)) 24 #[.slice none 0 0, .slice none 0 0]
    rw [World.size_alloc] at this; rw [hw1]; exact this
  have H1 := Lib.hid (H.out.below hb1)
  have HB1 := Lib.hid hb1
  have HX1 := Lib.hid hx1
  have HR1 := Lib.hid hr1
  have d0 : w1.cell? ⟨w.heap.size, 0, none⟩ = some (.slice A vs.length c) := hx1.cell 0
  have d1 : w1.cell? ⟨w.heap.size, 1, none⟩ = some (.slice B ls.length d) := hx1.cell 1
  clear hw1 hb1 hx1 hr1 H
  have hrg := RRight_any (c := c) (d := d) H1.out
  rw [← HP.out] at hrg
  have HRG := Lib.hid hrg; clear hrg
  go_wp2_with fail
  (with_reducible refine HRG.out.mono ?_); rintro e w2 ⟨rfl, hb2⟩
  have H2 := Lib.hid (H1.out.below hb2)
  have HX2 := Lib.hid (HX1.out.below hb2 HX1.out.lt)
  have HR2 := Lib.hid (HR1.out.below hb2 HR1.out.lt)
  have HB2 : Hid (Below w.heap.size w w2) := HB1.out.trans (hb2.mono HB1.out.size)
  clear hb2 d0 d1
  have d0 : w2.cell? ⟨w.heap.size, 0, none⟩ = some (.slice A vs.length c) := HX2.out.cell 0
  have d1 : w2.cell? ⟨w.heap.size, 1, none⟩ = some (.slice B ls.length d) := HX2.out.cell 1
  clear HRG
  have hp : p = true := by rw [HP.out, HRT.out]
  subst hp
  have hcl := RMember_any (c := c) (d := d) H2.out n
  rw [HM.out] at hcl
  have HCL3 := Lib.hid hcl; clear hcl
  go_wp2_with fail
  (with_reducible refine HCL3.out.mono ?_); rintro e w3 ⟨rfl, hb3⟩
  have H3 := Lib.hid (H2.out.below hb3)
  have HX3 := Lib.hid (HX2.out.below hb3 HX2.out.lt)
  have HR3 := Lib.hid (HR2.out.below hb3 HR2.out.lt)
  have HB3 : Hid (Below w.heap.size w w3) := HB2.out.trans (hb3.mono HB2.out.size)
  clear hb3 d0 d1
  have d0 : w3.cell? ⟨w.heap.size, 0, none⟩ = some (.slice A vs.length c) := HX3.out.cell 0
  have d1 : w3.cell? ⟨w.heap.size, 1, none⟩ = some (.slice B ls.length d) := HX3.out.cell 1
  clear HCL3
  have r0 : w3.cell? ⟨w.heap.size + 1, 0, none⟩ = some (.slice none 0 0) := HR3.out.cell 0
  have r1 : w3.cell? ⟨w.heap.size + 1, 1, none⟩ = some (.slice none 0 0) := HR3.out.cell 1
  have q0 := HR3.out.free 0
  have q1 := HR3.out.free 1
  go_wp2_with fail
  refine bodyPost_ret (v := .tuple #[.agg #[.slice none 0 0, .slice none 0 0], .int .i64 5]) (by simp [results, Try.results37, go_sem, r0, r1, q0, q1]) rfl ?_
  rw [HRES.out]
  exact ⟨none, 0, none, 0, rfl, Own.nil, Own.nil, (HB3.out.setCell (p := ⟨w.heap.size + 1, 0, none⟩) (Nat.le_succ _) _).setCell (p := ⟨w.heap.size + 1, 1, none⟩) (Nat.le_succ _) _⟩

set_option maxRecDepth 100000 in
set_option maxHeartbeats 2000000 in
theorem RNext_1 {w : World} {A B : Option Addr} {c d : Nat} {vs ls : List Int} (h : CI w A vs B ls) (kind n : Int) (hk : kind = 1) (hr : rightB vs ls = true) (hn1 : ¬ n < 1) (hn7 : ¬ 7 < n) (hm : (hasB vs n || hasB ls n) = false) :
    Calls Try.prog 37 #[.agg #[.slice A vs.length c, .slice B ls.length d], .int .i64 kind, .int .i64 n] w (NextPost (refR vs ls kind n) w) := by
  subst hk
  have hres : refR vs ls 1 n = (upto vs n false 7, upto ls n true 7, 0) := by unfold refR; rw [if_neg (by rw [hr]; simp; omega), if_pos rfl, if_neg (by rw [hm]; decide)]
  have HRES := Lib.hid hres; clear hres
  have HRT := Lib.hid hr; clear hr
  have HM := Lib.hid hm; clear hm
  have hl := h.v.len
  have hl2 := h.l.len
  obtain ⟨p, hp⟩ : ∃ p, p = rightB vs ls := ⟨_, rfl⟩
  have HP := Lib.hid hp; clear hp
  have H := Lib.hid h; clear h
  go_enter Try.func37, Try.ntmps37
  go_upto_region 1 with fail
  obtain ⟨w1, hw1⟩ : ∃ x, x = (w.alloc (.cells #[.slice A vs.length c, .slice B ls.length d] 24)).alloc (.cells #[.slice none 0 0, .slice none 0 0] 24) := ⟨_, rfl⟩
  rw [← hw1]
  have hb1 : Below w.heap.size w w1 := by rw [hw1]; exact ((Below.refl _ _).alloc (Nat.le_refl _) _).alloc (by simp) _
  have hx1 : Blk w1 w.heap.size 24 #[.slice A vs.length c, .slice B ls.length d] := by rw [hw1]; exact (Blk.new_ w _ _).alloc _
  have hr1 : Blk w1 (w.heap.size + 1) 24 #[.slice none 0 0, .slice none 0 0] := by
    have := Blk.new_ (w.alloc (.cells #[.slice A vs.length c, .slice B ls.length d] 24)) 24 #[.slice none 0 0, .slice none 0 0]
    rw [World.size_alloc] at this; rw [hw1]; exact this
  have H1 := Lib.hid (H.out.below hb1)
  have HB1 := Lib.hid hb1
  have HX1 := Lib.hid hx1
  have HR1 := Lib.hid hr1
  have d0 : w1.cell? ⟨w.heap.size, 0, none⟩ = some (.slice A vs.length c) := hx1.cell 0
  have d1 : w1.cell? ⟨w.heap.size, 1, none⟩ = some (.slice B ls.length d) := hx1.cell 1
  clear hw1 hb1 hx1 hr1 H
  have hrg := RRight_any (c := c) (d := d) H1.out
  rw [← HP.out] at hrg
  have HRG := Lib.hid hrg; clear hrg
  go_wp2_with fail
  (with_reducible refine HRG.out.mono ?_); rintro e w2 ⟨rfl, hb2⟩
  have H2 := Lib.hid (H1.out.below hb2)
  have HX2 := Lib.hid (HX1.out.below hb2 HX1.out.lt)
  have HR2 := Lib.hid (HR1.out.below hb2 HR1.out.lt)
  have HB2 : Hid (Below w.heap.size w w2) := HB1.out.trans (hb2.mono HB1.out.size)
  clear hb2 d0 d1
  have d0 : w2.cell? ⟨w.heap.size, 0, none⟩ = some (.slice A vs.length c) := HX2.out.cell 0
  have d1 : w2.cell? ⟨w.heap.size, 1, none⟩ = some (.slice B ls.length d) := HX2.out.cell 1
  clear HRG
  have hp : p = true := by rw [HP.out, HRT.out]
  subst hp
  have hcl := RMember_any (c := c) (d := d) H2.out n
  rw [HM.out] at hcl
  have HCL3 := Lib.hid hcl; clear hcl
  go_wp2_with fail
  (with_reducible refine HCL3.out.mono ?_); rintro e w3 ⟨rfl, hb3⟩
  have H3 := Lib.hid (H2.out.below hb3)
  have HX3 := Lib.hid (HX2.out.below hb3 HX2.out.lt)
  have HR3 := Lib.hid (HR2.out.below hb3 HR2.out.lt)
  have HB3 : Hid (Below w.heap.size w w3) := HB2.out.trans (hb3.mono HB2.out.size)
  clear hb3 d0 d1
  have d0 : w3.cell? ⟨w.heap.size, 0, none⟩ = some (.slice A vs.length c) := HX3.out.cell 0
  have d1 : w3.cell? ⟨w.heap.size, 1, none⟩ = some (.slice B ls.length d) := HX3.out.cell 1
  clear HCL3
  have hcl := with_any (c := c) (d := d) H3.out n false true
  have HCLw := Lib.hid hcl; clear hcl
  go_wp2_with fail
  (with_reducible refine HCLw.out.mono ?_); rintro e w9 ⟨A9, c9, B9, d9, rfl, ho1, ho2, hb9⟩
  have hR9 := HR3.out.below hb9 HR3.out.lt
  have HB9 : Hid (Below w.heap.size w w9) := HB3.out.trans (hb9.mono HB3.out.size)
  have HO1 := Lib.hid (ho1.base2 HB3.out.size)
  have HO2 := Lib.hid (ho2.base2 HB3.out.size)
  clear ho1 ho2 hb9 HCLw d0 d1
  have r0 : w9.cell? ⟨w.heap.size + 1, 0, none⟩ = some (.slice none 0 0) := hR9.cell 0
  have r1 : w9.cell? ⟨w.heap.size + 1, 1, none⟩ = some (.slice none 0 0) := hR9.cell 1
  have q0 := hR9.free 0
  have q1 := hR9.free 1
  have HR9 := Lib.hid hR9; clear hR9
  go_wp2_with fail
  have HS9 := Lib.hid (HR9.out.set_ 0 (.slice A9 (upto vs n false 7).length c9))
  refine bodyPost_ret (v := .tuple #[.agg #[.slice A9 (upto vs n false 7).length c9, .slice B9 (upto ls n true 7).length d9], .int .i64 0]) (by simp [results, Try.results37, go_sem, r0, r1, q0, q1]) rfl ?_
  rw [HRES.out]
  exact ⟨A9, c9, B9, d9, rfl, (HO1.out.farB HR9.out (by decide) 0 _).farB HS9.out (by decide) 1 _, (HO2.out.farB HR9.out (by decide) 0 _).farB HS9.out (by decide) 1 _, (HB9.out.setCell (p := ⟨w.heap.size + 1, 0, none⟩) (Nat.le_succ _) _).setCell (p := ⟨w.heap.size + 1, 1, none⟩) (Nat.le_succ _) _⟩

set_option maxRecDepth 100000 in
set_option maxHeartbeats 2000000 in
theorem RNext_2e {w : World} {A B : Option Addr} {c d : Nat} {vs ls : List Int} (h : CI w A vs B ls) (kind n : Int) (hk : kind = 2) (hr : rightB vs ls = true) (hn1 : ¬ n < 1) (hn7 : ¬ 7 < n) (hm : hasB ls n = false) :
    Calls Try.prog 37 #[.agg #[.slice A vs.length c, .slice B ls.length d], .int .i64 kind, .int .i64 n] w (NextPost (refR vs ls kind n) w) := by
  subst hk
  have hres : refR vs ls 2 n = ([], [], 4) := by unfold refR; rw [if_neg (by rw [hr]; simp; omega), if_neg (by decide), if_pos rfl, if_pos hm]
  have HRES := Lib.hid hres; clear hres
  have HRT := Lib.hid hr; clear hr
  have HL := Lib.hid hm; clear hm
  have hl := h.v.len
  have hl2 := h.l.len
  obtain ⟨p, hp⟩ : ∃ p, p = rightB vs ls := ⟨_, rfl⟩
  have HP := Lib.hid hp; clear hp
  have H := Lib.hid h; clear h
  go_enter Try.func37, Try.ntmps37
  go_upto_region 1 with fail
  obtain ⟨w1, hw1⟩ : ∃ x, x = (w.alloc (.cells #[.slice A vs.length c, .slice B ls.length d] 24)).alloc (.cells #[.slice none 0 0, .slice none 0 0] 24) := ⟨_, rfl⟩
  rw [← hw1]
  have hb1 : Below w.heap.size w w1 := by rw [hw1]; exact ((Below.refl _ _).alloc (Nat.le_refl _) _).alloc (by simp) _
  have hx1 : Blk w1 w.heap.size 24 #[.slice A vs.length c, .slice B ls.length d] := by rw [hw1]; exact (Blk.new_ w _ _).alloc _
  have hr1 : Blk w1 (w.heap.size + 1) 24 #[.slice none 0 0, .slice none 0 0] := by
    have := Blk.new_ (w.alloc (.cells #[.slice A vs.length c, .slice B ls.length d] 24)) 24 #[.slice none 0 0, .slice none 0 0]
    rw [World.size_alloc] at this; rw [hw1]; exact this
  have H1 := Lib.hid (H.out.below hb1)
  have HB1 := Lib.hid hb1
  have HX1 := Lib.hid hx1
  have HR1 := Lib.hid hr1
  have d0 : w1.cell? ⟨w.heap.size, 0, none⟩ = some (.slice A vs.length c) := hx1.cell 0
  have d1 : w1.cell? ⟨w.heap.size, 1, none⟩ = some (.slice B ls.length d) := hx1.cell 1
  clear hw1 hb1 hx1 hr1 H
  have hrg := RRight_any (c := c) (d := d) H1.out
  rw [← HP.out] at hrg
  have HRG := Lib.hid hrg; clear hrg
  go_wp2_with fail
  (with_reducible refine HRG.out.mono ?_); rintro e w2 ⟨rfl, hb2⟩
  have H2 := Lib.hid (H1.out.below hb2)
  have HX2 := Lib.hid (HX1.out.below hb2 HX1.out.lt)
  have HR2 := Lib.hid (HR1.out.below hb2 HR1.out.lt)
  have HB2 : Hid (Below w.heap.size w w2) := HB1.out.trans (hb2.mono HB1.out.size)
  clear hb2 d0 d1
  have d0 : w2.cell? ⟨w.heap.size, 0, none⟩ = some (.slice A vs.length c) := HX2.out.cell 0
  have d1 : w2.cell? ⟨w.heap.size, 1, none⟩ = some (.slice B ls.length d) := HX2.out.cell 1
  clear HRG
  have hp : p = true := by rw [HP.out, HRT.out]
  subst hp
  have hcl := Has_any B d ls n w2 H2.out.l
  rw [HL.out] at hcl
  have HCL3 := Lib.hid hcl; clear hcl
  go_wp2_with fail
  (with_reducible refine HCL3.out.mono ?_); rintro e w3 ⟨rfl, rfl⟩
  clear HCL3
  have r0 : w2.cell? ⟨w.heap.size + 1, 0, none⟩ = some (.slice none 0 0) := HR2.out.cell 0
  have r1 : w2.cell? ⟨w.heap.size + 1, 1, none⟩ = some (.slice none 0 0) := HR2.out.cell 1
  have q0 := HR2.out.free 0
  have q1 := HR2.out.free 1
  go_wp2_with fail
  refine bodyPost_ret (v := .tuple #[.agg #[.slice none 0 0, .slice none 0 0], .int .i64 4]) (by simp [results, Try.results37, go_sem, r0, r1, q0, q1]) rfl ?_
  rw [HRES.out]
  exact ⟨none, 0, none, 0, rfl, Own.nil, Own.nil, (HB2.out.setCell (p := ⟨w.heap.size + 1, 0, none⟩) (Nat.le_succ _) _).setCell (p := ⟨w.heap.size + 1, 1, none⟩) (Nat.le_succ _) _⟩

set_option maxRecDepth 100000 in
set_option maxHeartbeats 2000000 in
theorem RNext_2 {w : World} {A B : Option Addr} {c d : Nat} {vs ls : List Int} (h : CI w A vs B ls) (kind n : Int) (hk : kind = 2) (hr : rightB vs ls = true) (hn1 : ¬ n < 1) (hn7 : ¬ 7 < n) (hm : hasB ls n = true) :
    Calls Try.prog 37 #[.agg #[.slice A vs.length c, .slice B ls.length d], .int .i64 kind, .int .i64 n] w (NextPost (refR vs ls kind n) w) := by
  subst hk
  have hres : refR vs ls 2 n = (upto vs n true 7, upto ls n false 7, 0) := by unfold refR; rw [if_neg (by rw [hr]; simp; omega), if_neg (by decide), if_pos rfl, if_neg (by rw [hm]; decide)]
  have HRES := Lib.hid hres; clear hres
  have HRT := Lib.hid hr; clear hr
  have HL := Lib.hid hm; clear hm
  have hl := h.v.len
  have hl2 := h.l.len
  obtain ⟨p, hp⟩ : ∃ p, p = rightB vs ls := ⟨_, rfl⟩
  have HP := Lib.hid hp; clear hp
  have H := Lib.hid h; clear h
  go_enter Try.func37, Try.ntmps37
  go_upto_region 1 with fail
  obtain ⟨w1, hw1⟩ : ∃ x, x = (w.alloc (.cells #[.slice A vs.length c, .slice B ls.length d] 24)).alloc (.cells #[.slice none 0 0, .slice none 0 0] 24) := ⟨_, rfl⟩
  rw [← hw1]
  have hb1 : Below w.heap.size w w1 := by rw [hw1]; exact ((Below.refl _ _).alloc (Nat.le_refl _) _).alloc (by simp) _
  have hx1 : Blk w1 w.heap.size 24 #[.slice A vs.length c, .slice B ls.length d] := by rw [hw1]; exact (Blk.new_ w _ _).alloc _
  have hr1 : Blk w1 (w.heap.size + 1) 24 #[.slice none 0 0, .slice none 0 0] := by
    have := Blk.new_ (w.alloc (.cells #[.slice A vs.length c, .slice B ls.length d] 24)) 24 #[.slice none 0 0, .slice none 0 0]
    rw [World.size_alloc] at this; rw [hw1]; exact this
  have H1 := Lib.hid (H.out.below hb1)
  have HB1 := Lib.hid hb1
  have HX1 := Lib.hid hx1
  have HR1 := Lib.hid hr1
  have d0 : w1.cell? ⟨w.heap.size, 0, none⟩ = some (.slice A vs.length c) := hx1.cell 0
  have d1 : w1.cell? ⟨w.heap.size, 1, none⟩ = some (.slice B ls.length d) := hx1.cell 1
  clear hw1 hb1 hx1 hr1 H
  have hrg := RRight_any (c := c) (d := d) H1.out
  rw [← HP.out] at hrg
  have HRG := Lib.hid hrg; clear hrg
  go_wp2_with fail
  (with_reducible refine HRG.out.mono ?_); rintro e w2 ⟨rfl, hb2⟩
  have H2 := Lib.hid (H1.out.below hb2)
  have HX2 := Lib.hid (HX1.out.below hb2 HX1.out.lt)
  have HR2 := Lib.hid (HR1.out.below hb2 HR1.out.lt)
  have HB2 : Hid (Below w.heap.size w w2) := HB1.out.trans (hb2.mono HB1.out.size)
  clear hb2 d0 d1
  have d0 : w2.cell? ⟨w.heap.size, 0, none⟩ = some (.slice A vs.length c) := HX2.out.cell 0
  have d1 : w2.cell? ⟨w.heap.size, 1, none⟩ = some (.slice B ls.length d) := HX2.out.cell 1
  clear HRG
  have hp : p = true := by rw [HP.out, HRT.out]
  subst hp
  have hcl := Has_any B d ls n w2 H2.out.l
  rw [HL.out] at hcl
  have HCL3 := Lib.hid hcl; clear hcl
  go_wp2_with fail
  (with_reducible refine HCL3.out.mono ?_); rintro e w3 ⟨rfl, rfl⟩
  clear HCL3
  have hcl := with_any (c := c) (d := d) H2.out n true false
  have HCLw := Lib.hid hcl; clear hcl
  go_wp2_with fail
  (with_reducible refine HCLw.out.mono ?_); rintro e w9 ⟨A9, c9, B9, d9, rfl, ho1, ho2, hb9⟩
  have hR9 := HR2.out.below hb9 HR2.out.lt
  have HB9 : Hid (Below w.heap.size w w9) := HB2.out.trans (hb9.mono HB2.out.size)
  have HO1 := Lib.hid (ho1.base2 HB2.out.size)
  have HO2 := Lib.hid (ho2.base2 HB2.out.size)
  clear ho1 ho2 hb9 HCLw d0 d1
  have r0 : w9.cell? ⟨w.heap.size + 1, 0, none⟩ = some (.slice none 0 0) := hR9.cell 0
  have r1 : w9.cell? ⟨w.heap.size + 1, 1, none⟩ = some (.slice none 0 0) := hR9.cell 1
  have q0 := hR9.free 0
  have q1 := hR9.free 1
  have HR9 := Lib.hid hR9; clear hR9
  go_wp2_with fail
  have HS9 := Lib.hid (HR9.out.set_ 0 (.slice A9 (upto vs n true 7).length c9))
  refine bodyPost_ret (v := .tuple #[.agg #[.slice A9 (upto vs n true 7).length c9, .slice B9 (upto ls n false 7).length d9], .int .i64 0]) (by simp [results, Try.results37, go_sem, r0, r1, q0, q1]) rfl ?_
  rw [HRES.out]
  exact ⟨A9, c9, B9, d9, rfl, (HO1.out.farB HR9.out (by decide) 0 _).farB HS9.out (by decide) 1 _, (HO2.out.farB HR9.out (by decide) 0 _).farB HS9.out (by decide) 1 _, (HB9.out.setCell (p := ⟨w.heap.size + 1, 0, none⟩) (Nat.le_succ _) _).setCell (p := ⟨w.heap.size + 1, 1, none⟩) (Nat.le_succ _) _⟩

set_option maxRecDepth 100000 in
set_option maxHeartbeats 2000000 in
theorem RNext_3e {w : World} {A B : Option Addr} {c d : Nat} {vs ls : List Int} (h : CI w A vs B ls) (kind n : Int) (hk : kind = 3) (hr : rightB vs ls = true) (hn1 : ¬ n < 1) (hn7 : ¬ 7 < n) (hm : (hasB vs n || hasB ls n) = false) :
    Calls Try.prog 37 #[.agg #[.slice A vs.length c, .slice B ls.length d], .int .i64 kind, .int .i64 n] w (NextPost (refR vs ls kind n) w) := by
  subst hk
  have hres : refR vs ls 3 n = ([], [], 4) := by unfold refR; rw [if_neg (by rw [hr]; simp; omega), if_neg (by decide), if_neg (by decide), if_pos hm]
  have HRES := Lib.hid hres; clear hres
  have HRT := Lib.hid hr; clear hr
  have HM := Lib.hid hm; clear hm
  have hl := h.v.len
  have hl2 := h.l.len
  obtain ⟨p, hp⟩ : ∃ p, p = rightB vs ls := ⟨_, rfl⟩
  have HP := Lib.hid hp; clear hp
  have H := Lib.hid h; clear h
  go_enter Try.func37, Try.ntmps37
  go_upto_region 1 with fail
  obtain ⟨w1, hw1⟩ : ∃ x, x = (w.alloc (.cells #[.slice A vs.length c, .slice B ls.length d] 24)).alloc (.cells #[.slice none 0 0, .slice none 0 0] 24) := ⟨_, rfl⟩
  rw [← hw1]
  have hb1 : Below w.heap.size w w1 := by rw [hw1]; exact ((Below.refl _ _).alloc (Nat.le_refl _) _).alloc (by simp) _
  have hx1 : Blk w1 w.heap.size 24 #[.slice A vs.length c, .slice B ls.length d] := by rw [hw1]; exact (Blk.new_ w _ _).alloc _
  have hr1 : Blk w1 (w.heap.size + 1) 24 #[.slice none 0 0, .slice none 0 0] := by
    have := Blk.new_ (w.alloc (.cells #[.slice A vs.length c, .slice B ls.length d] 24)) 24 #[.slice none 0 0, .slice none 0 0]
    rw [World.size_alloc] at this; rw [hw1]; exact this
  have H1 := Lib.hid (H.out.below hb1)
  have HB1 := Lib.hid hb1
  have HX1 := Lib.hid hx1
  have HR1 := Lib.hid hr1
  have d0 : w1.cell? ⟨w.heap.size, 0, none⟩ = some (.slice A vs.length c) := hx1.cell 0
  have d1 : w1.cell? ⟨w.heap.size, 1, none⟩ = some (.slice B ls.length d) := hx1.cell 1
  clear hw1 hb1 hx1 hr1 H
  have hrg := RRight_any (c := c) (d := d) H1.out
  rw [← HP.out] at hrg
  have HRG := Lib.hid hrg; clear hrg
  go_wp2_with fail
  (with_reducible refine HRG.out.mono ?_); rintro e w2 ⟨rfl, hb2⟩
  have H2 := Lib.hid (H1.out.below hb2)
  have HX2 := Lib.hid (HX1.out.below hb2 HX1.out.lt)
  have HR2 := Lib.hid (HR1.out.below hb2 HR1.out.lt)
  have HB2 : Hid (Below w.heap.size w w2) := HB1.out.trans (hb2.mono HB1.out.size)
  clear hb2 d0 d1
  have d0 : w2.cell? ⟨w.heap.size, 0, none⟩ = some (.slice A vs.length c) := HX2.out.cell 0
  have d1 : w2.cell? ⟨w.heap.size, 1, none⟩ = some (.slice B ls.length d) := HX2.out.cell 1
  clear HRG
  have hp : p = true := by rw [HP.out, HRT.out]
  subst hp
  have hcl := RMember_any (c := c) (d := d) H2.out n
  rw [HM.out] at hcl
  have HCL3 := Lib.hid hcl; clear hcl
  go_wp2_with fail
  (with_reducible refine HCL3.out.mono ?_); rintro e w3 ⟨rfl, hb3⟩
  have H3 := Lib.hid (H2.out.below hb3)
  have HX3 := Lib.hid (HX2.out.below hb3 HX2.out.lt)
  have HR3 := Lib.hid (HR2.out.below hb3 HR2.out.lt)
  have HB3 : Hid (Below w.heap.size w w3) := HB2.out.trans (hb3.mono HB2.out.size)
  clear hb3 d0 d1
  have d0 : w3.cell? ⟨w.heap.size, 0, none⟩ = some (.slice A vs.length c) := HX3.out.cell 0
  have d1 : w3.cell? ⟨w.heap.size, 1, none⟩ = some (.slice B ls.length d) := HX3.out.cell 1
  clear HCL3
  have r0 : w3.cell? ⟨w.heap.size + 1, 0, none⟩ = some (.slice none 0 0) := HR3.out.cell 0
  have r1 : w3.cell? ⟨w.heap.size + 1, 1, none⟩ = some (.slice none 0 0) := HR3.out.cell 1
  have q0 := HR3.out.free 0
  have q1 := HR3.out.free 1
  go_wp2_with fail
  refine bodyPost_ret (v := .tuple #[.agg #[.slice none 0 0, .slice none 0 0], .int .i64 4]) (by simp [results, Try.results37, go_sem, r0, r1, q0, q1]) rfl ?_
  rw [HRES.out]
  exact ⟨none, 0, none, 0, rfl, Own.nil, Own.nil, (HB3.out.setCell (p := ⟨w.heap.size + 1, 0, none⟩) (Nat.le_succ _) _).setCell (p := ⟨w.heap.size + 1, 1, none⟩) (Nat.le_succ _) _⟩

set_option maxRecDepth 100000 in
set_option maxHeartbeats 2000000 in
theorem RNext_3l {w : World} {A B : Option Addr} {c d : Nat} {vs ls : List Int} (h : CI w A vs B ls) (kind n : Int) (hk : kind = 3) (hr : rightB vs ls = true) (hn1 : ¬ n < 1) (hn7 : ¬ 7 < n) (hm : (hasB vs n || hasB ls n) = true) (hv : hasB vs n = true) (hv1 : vs.length = 1) :
    Calls Try.prog 37 #[.agg #[.slice A vs.length c, .slice B ls.length d], .int .i64 kind, .int .i64 n] w (NextPost (refR vs ls kind n) w) := by
  subst hk
  have hres : refR vs ls 3 n = ([], [], 3) := by unfold refR; rw [if_neg (by rw [hr]; simp; omega), if_neg (by decide), if_neg (by decide), if_neg (by rw [hm]; decide), if_pos ⟨hv, hv1⟩]
  have HRES := Lib.hid hres; clear hres
  have HRT := Lib.hid hr; clear hr
  have HM := Lib.hid hm; clear hm
  have HV := Lib.hid hv; clear hv
  have HV1 := Lib.hid hv1; clear hv1
  have hl := h.v.len
  have hl2 := h.l.len
  obtain ⟨p, hp⟩ : ∃ p, p = rightB vs ls := ⟨_, rfl⟩
  have HP := Lib.hid hp; clear hp
  have H := Lib.hid h; clear h
  go_enter Try.func37, Try.ntmps37
  go_upto_region 1 with fail
  obtain ⟨w1, hw1⟩ : ∃ x, x = (w.alloc (.cells #[.slice A vs.length c, .slice B ls.length d] 24)).alloc (.cells #[.slice none 0 0, .slice none 0 0] 24) := ⟨_, rfl⟩
  rw [← hw1]
  have hb1 : Below w.heap.size w w1 := by rw [hw1]; exact ((Below.refl _ _).alloc (Nat.le_refl _) _).alloc (by simp) _
  have hx1 : Blk w1 w.heap.size 24 #[.slice A vs.length c, .slice B ls.length d] := by rw [hw1]; exact (Blk.new_ w _ _).alloc _
  have hr1 : Blk w1 (w.heap.size + 1) 24 #[.slice none 0 0, .slice none 0 0] := by
    have := Blk.new_ (w.alloc (.cells #[.slice A vs.length c, .slice B ls.length d] 24)) 24 #[.slice none 0 0, .slice none 0 0]
    rw [World.size_alloc] at this; rw [hw1]; exact this
  have H1 := Lib.hid (H.out.below hb1)
  have HB1 := Lib.hid hb1
  have HX1 := Lib.hid hx1
  have HR1 := Lib.hid hr1
  have d0 : w1.cell? ⟨w.heap.size, 0, none⟩ = some (.slice A vs.length c) := hx1.cell 0
  have d1 : w1.cell? ⟨w.heap.size, 1, none⟩ = some (.slice B ls.length d) := hx1.cell 1
  clear hw1 hb1 hx1 hr1 H
  have hrg := RRight_any (c := c) (d := d) H1.out
  rw [← HP.out] at hrg
  have HRG := Lib.hid hrg; clear hrg
  go_wp2_with fail
  (with_reducible refine HRG.out.mono ?_); rintro e w2 ⟨rfl, hb2⟩
  have H2 := Lib.hid (H1.out.below hb2)
  have HX2 := Lib.hid (HX1.out.below hb2 HX1.out.lt)
  have HR2 := Lib.hid (HR1.out.below hb2 HR1.out.lt)
  have HB2 : Hid (Below w.heap.size w w2) := HB1.out.trans (hb2.mono HB1.out.size)
  clear hb2 d0 d1
  have d0 : w2.cell? ⟨w.heap.size, 0, none⟩ = some (.slice A vs.length c) := HX2.out.cell 0
  have d1 : w2.cell? ⟨w.heap.size, 1, none⟩ = some (.slice B ls.length d) := HX2.out.cell 1
  clear HRG
  have hp : p = true := by rw [HP.out, HRT.out]
  subst hp
  have hcl := RMember_any (c := c) (d := d) H2.out n
  rw [HM.out] at hcl
  have HCL3 := Lib.hid hcl; clear hcl
  go_wp2_with fail
  (with_reducible refine HCL3.out.mono ?_); rintro e w3 ⟨rfl, hb3⟩
  have H3 := Lib.hid (H2.out.below hb3)
  have HX3 := Lib.hid (HX2.out.below hb3 HX2.out.lt)
  have HR3 := Lib.hid (HR2.out.below hb3 HR2.out.lt)
  have HB3 : Hid (Below w.heap.size w w3) := HB2.out.trans (hb3.mono HB2.out.size)
  clear hb3 d0 d1
  have d0 : w3.cell? ⟨w.heap.size, 0, none⟩ = some (.slice A vs.length c) := HX3.out.cell 0
  have d1 : w3.cell? ⟨w.heap.size, 1, none⟩ = some (.slice B ls.length d) := HX3.out.cell 1
  clear HCL3
  have hcl := RVoter_any (c := c) (d := d) H3.out n
  rw [HV.out] at hcl
  have HCL4 := Lib.hid hcl; clear hcl
  go_wp2_with fail
  (with_reducible refine HCL4.out.mono ?_); rintro e w4 ⟨rfl, hb4⟩
  have H4 := Lib.hid (H3.out.below hb4)
  have HX4 := Lib.hid (HX3.out.below hb4 HX3.out.lt)
  have HR4 := Lib.hid (HR3.out.below hb4 HR3.out.lt)
  have HB4 : Hid (Below w.heap.size w w4) := HB3.out.trans (hb4.mono HB3.out.size)
  clear hb4 d0 d1
  have d0 : w4.cell? ⟨w.heap.size, 0, none⟩ = some (.slice A vs.length c) := HX4.out.cell 0
  have d1 : w4.cell? ⟨w.heap.size, 1, none⟩ = some (.slice B ls.length d) := HX4.out.cell 1
  clear HCL4
  have r0 : w4.cell? ⟨w.heap.size + 1, 0, none⟩ = some (.slice none 0 0) := HR4.out.cell 0
  have r1 : w4.cell? ⟨w.heap.size + 1, 1, none⟩ = some (.slice none 0 0) := HR4.out.cell 1
  have q0 := HR4.out.free 0
  have q1 := HR4.out.free 1
  rw [HV1.out] at d0
  go_wp2_with fail
  refine bodyPost_ret (v := .tuple #[.agg #[.slice none 0 0, .slice none 0 0], .int .i64 3]) (by simp [results, Try.results37, go_sem, r0, r1, q0, q1]) rfl ?_
  rw [HRES.out]
  exact ⟨none, 0, none, 0, rfl, Own.nil, Own.nil, (HB4.out.setCell (p := ⟨w.heap.size + 1, 0, none⟩) (Nat.le_succ _) _).setCell (p := ⟨w.heap.size + 1, 1, none⟩) (Nat.le_succ _) _⟩

set_option maxRecDepth 100000 in
set_option maxHeartbeats 2000000 in
theorem RNext_3a {w : World} {A B : Option Addr} {c d : Nat} {vs ls : List Int} (h : CI w A vs B ls) (kind n : Int) (hk : kind = 3) (hr : rightB vs ls = true) (hn1 : ¬ n < 1) (hn7 : ¬ 7 < n) (hm : (hasB vs n || hasB ls n) = true) (hv : hasB vs n = false) :
    Calls Try.prog 37 #[.agg #[.slice A vs.length c, .slice B ls.length d], .int .i64 kind, .int .i64 n] w (NextPost (refR vs ls kind n) w) := by
  subst hk
  have hres : refR vs ls 3 n = (upto vs n false 7, upto ls n false 7, 0) := by unfold refR; rw [if_neg (by rw [hr]; simp; omega), if_neg (by decide), if_neg (by decide), if_neg (by rw [hm]; decide), if_neg (by rw [hv]; simp)]
  have HRES := Lib.hid hres; clear hres
  have HRT := Lib.hid hr; clear hr
  have HM := Lib.hid hm; clear hm
  have HV := Lib.hid hv; clear hv
  have hl := h.v.len
  have hl2 := h.l.len
  obtain ⟨p, hp⟩ : ∃ p, p = rightB vs ls := ⟨_, rfl⟩
  have HP := Lib.hid hp; clear hp
  have H := Lib.hid h; clear h
  go_enter Try.func37, Try.ntmps37
  go_upto_region 1 with fail
  obtain ⟨w1, hw1⟩ : ∃ x, x = (w.alloc (.cells #[.slice A vs.length c, .slice B ls.length d] 24)).alloc (.cells #[.slice none 0 0, .slice none 0 0] 24) := ⟨_, rfl⟩
  rw [← hw1]
  have hb1 : Below w.heap.size w w1 := by rw [hw1]; exact ((Below.refl _ _).alloc (Nat.le_refl _) _).alloc (by simp) _
  have hx1 : Blk w1 w.heap.size 24 #[.slice A vs.length c, .slice B ls.length d] := by rw [hw1]; exact (Blk.new_ w _ _).alloc _
  have hr1 : Blk w1 (w.heap.size + 1) 24 #[.slice none 0 0, .slice none 0 0] := by
    have := Blk.new_ (w.alloc (.cells #[.slice A vs.length c, .slice B ls.length d] 24)) 24 #[.slice none 0 0, .slice none 0 0]
    rw [World.size_alloc] at this; rw [hw1]; exact this
  have H1 := Lib.hid (H.out.below hb1)
  have HB1 := Lib.hid hb1
  have HX1 := Lib.hid hx1
  have HR1 := Lib.hid hr1
  have d0 : w1.cell? ⟨w.heap.size, 0, none⟩ = some (.slice A vs.length c) := hx1.cell 0
  have d1 : w1.cell? ⟨w.heap.size, 1, none⟩ = some (.slice B ls.length d) := hx1.cell 1
  clear hw1 hb1 hx1 hr1 H
  have hrg := RRight_any (c := c) (d := d) H1.out
  rw [← HP.out] at hrg
  have HRG := Lib.hid hrg; clear hrg
  go_wp2_with fail
  (with_reducible refine HRG.out.mono ?_); rintro e w2 ⟨rfl, hb2⟩
  have H2 := Lib.hid (H1.out.below hb2)
  have HX2 := Lib.hid (HX1.out.below hb2 HX1.out.lt)
  have HR2 := Lib.hid (HR1.out.below hb2 HR1.out.lt)
  have HB2 : Hid (Below w.heap.size w w2) := HB1.out.trans (hb2.mono HB1.out.size)
  clear hb2 d0 d1
  have d0 : w2.cell? ⟨w.heap.size, 0, none⟩ = some (.slice A vs.length c) := HX2.out.cell 0
  have d1 : w2.cell? ⟨w.heap.size, 1, none⟩ = some (.slice B ls.length d) := HX2.out.cell 1
  clear HRG
  have hp : p = true := by rw [HP.out, HRT.out]
  subst hp
  have hcl := RMember_any (c := c) (d := d) H2.out n
  rw [HM.out] at hcl
  have HCL3 := Lib.hid hcl; clear hcl
  go_wp2_with fail
  (with_reducible refine HCL3.out.mono ?_); rintro e w3 ⟨rfl, hb3⟩
  have H3 := Lib.hid (H2.out.below hb3)
  have HX3 := Lib.hid (HX2.out.below hb3 HX2.out.lt)
  have HR3 := Lib.hid (HR2.out.below hb3 HR2.out.lt)
  have HB3 : Hid (Below w.heap.size w w3) := HB2.out.trans (hb3.mono HB2.out.size)
  clear hb3 d0 d1
  have d0 : w3.cell? ⟨w.heap.size, 0, none⟩ = some (.slice A vs.length c) := HX3.out.cell 0
  have d1 : w3.cell? ⟨w.heap.size, 1, none⟩ = some (.slice B ls.length d) := HX3.out.cell 1
  clear HCL3
  have hcl := RVoter_any (c := c) (d := d) H3.out n
  rw [HV.out] at hcl
  have HCL4 := Lib.hid hcl; clear hcl
  go_wp2_with fail
  (with_reducible refine HCL4.out.mono ?_); rintro e w4 ⟨rfl, hb4⟩
  have H4 := Lib.hid (H3.out.below hb4)
  have HX4 := Lib.hid (HX3.out.below hb4 HX3.out.lt)
  have HR4 := Lib.hid (HR3.out.below hb4 HR3.out.lt)
  have HB4 : Hid (Below w.heap.size w w4) := HB3.out.trans (hb4.mono HB3.out.size)
  clear hb4 d0 d1
  have d0 : w4.cell? ⟨w.heap.size, 0, none⟩ = some (.slice A vs.length c) := HX4.out.cell 0
  have d1 : w4.cell? ⟨w.heap.size, 1, none⟩ = some (.slice B ls.length d) := HX4.out.cell 1
  clear HCL4
  have hcl := with_any (c := c) (d := d) H4.out n false false
  have HCLw := Lib.hid hcl; clear hcl
  go_wp2_with fail
  (with_reducible refine HCLw.out.mono ?_); rintro e w9 ⟨A9, c9, B9, d9, rfl, ho1, ho2, hb9⟩
  have hR9 := HR4.out.below hb9 HR4.out.lt
  have HB9 : Hid (Below w.heap.size w w9) := HB4.out.trans (hb9.mono HB4.out.size)
  have HO1 := Lib.hid (ho1.base2 HB4.out.size)
  have HO2 := Lib.hid (ho2.base2 HB4.out.size)
  clear ho1 ho2 hb9 HCLw d0 d1
  have r0 : w9.cell? ⟨w.heap.size + 1, 0, none⟩ = some (.slice none 0 0) := hR9.cell 0
  have r1 : w9.cell? ⟨w.heap.size + 1, 1, none⟩ = some (.slice none 0 0) := hR9.cell 1
  have q0 := hR9.free 0
  have q1 := hR9.free 1
  have HR9 := Lib.hid hR9; clear hR9
  go_wp2_with fail
  have HS9 := Lib.hid (HR9.out.set_ 0 (.slice A9 (upto vs n false 7).length c9))
  refine bodyPost_ret (v := .tuple #[.agg #[.slice A9 (upto vs n false 7).length c9, .slice B9 (upto ls n false 7).length d9], .int .i64 0]) (by simp [results, Try.results37, go_sem, r0, r1, q0, q1]) rfl ?_
  rw [HRES.out]
  exact ⟨A9, c9, B9, d9, rfl, (HO1.out.farB HR9.out (by decide) 0 _).farB HS9.out (by decide) 1 _, (HO2.out.farB HR9.out (by decide) 0 _).farB HS9.out (by decide) 1 _, (HB9.out.setCell (p := ⟨w.heap.size + 1, 0, none⟩) (Nat.le_succ _) _).setCell (p := ⟨w.heap.size + 1, 1, none⟩) (Nat.le_succ _) _⟩

set_option maxRecDepth 100000 in
set_option maxHeartbeats 2000000 in
theorem RNext_3b {w : World} {A B : Option Addr} {c d : Nat} {vs ls : List Int} (h : CI w A vs B ls) (kind n : Int) (hk : kind = 3) (hr : rightB vs ls = true) (hn1 : ¬ n < 1) (hn7 : ¬ 7 < n) (hm : (hasB vs n || hasB ls n) = true) (hv : hasB vs n = true) (hv1 : ¬ vs.length = 1) :
    Calls Try.prog 37 #[.agg #[.slice A vs.length c, .slice B ls.length d], .int .i64 kind, .int .i64 n] w (NextPost (refR vs ls kind n) w) := by
  subst hk
  have hres : refR vs ls 3 n = (upto vs n false 7, upto ls n false 7, 0) := by unfold refR; rw [if_neg (by rw [hr]; simp; omega), if_neg (by decide), if_neg (by decide), if_neg (by rw [hm]; decide), if_neg (fun h2 => hv1 h2.2)]
  have HRES := Lib.hid hres; clear hres
  have HRT := Lib.hid hr; clear hr
  have HM := Lib.hid hm; clear hm
  have HV := Lib.hid hv; clear hv
  have hv2 : ((vs.length : Int) == 1) = false := by rw [beq_eq_false_iff_ne]; omega
  clear hv1
  have hl := h.v.len
  have hl2 := h.l.len
  obtain ⟨p, hp⟩ : ∃ p, p = rightB vs ls := ⟨_, rfl⟩
  have HP := Lib.hid hp; clear hp
  have H := Lib.hid h; clear h
  go_enter Try.func37, Try.ntmps37
  go_upto_region 1 with fail
  obtain ⟨w1, hw1⟩ : ∃ x, x = (w.alloc (.cells #[.slice A vs.length c, .slice B ls.length d] 24)).alloc (.cells #[.slice none 0 0, .slice none 0 0] 24) := ⟨_, rfl⟩
  rw [← hw1]
  have hb1 : Below w.heap.size w w1 := by rw [hw1]; exact ((Below.refl _ _).alloc (Nat.le_refl _) _).alloc (by simp) _
  have hx1 : Blk w1 w.heap.size 24 #[.slice A vs.length c, .slice B ls.length d] := by rw [hw1]; exact (Blk.new_ w _ _).alloc _
  have hr1 : Blk w1 (w.heap.size + 1) 24 #[.slice none 0 0, .slice none 0 0] := by
    have := Blk.new_ (w.alloc (.cells #[.slice A vs.length c, .slice B ls.length d] 24)) 24 #[.slice none 0 0, .slice none 0 0]
    rw [World.size_alloc] at this; rw [hw1]; exact this
  have H1 := Lib.hid (H.out.below hb1)
  have HB1 := Lib.hid hb1
  have HX1 := Lib.hid hx1
  have HR1 := Lib.hid hr1
  have d0 : w1.cell? ⟨w.heap.size, 0, none⟩ = some (.slice A vs.length c) := hx1.cell 0
  have d1 : w1.cell? ⟨w.heap.size, 1, none⟩ = some (.slice B ls.length d) := hx1.cell 1
  clear hw1 hb1 hx1 hr1 H
  have hrg := RRight_any (c := c) (d := d) H1.out
  rw [← HP.out] at hrg
  have HRG := Lib.hid hrg; clear hrg
  go_wp2_with fail
  (with_reducible refine HRG.out.mono ?_); rintro e w2 ⟨rfl, hb2⟩
  have H2 := Lib.hid (H1.out.below hb2)
  have HX2 := Lib.hid (HX1.out.below hb2 HX1.out.lt)
  have HR2 := Lib.hid (HR1.out.below hb2 HR1.out.lt)
  have HB2 : Hid (Below w.heap.size w w2) := HB1.out.trans (hb2.mono HB1.out.size)
  clear hb2 d0 d1
  have d0 : w2.cell? ⟨w.heap.size, 0, none⟩ = some (.slice A vs.length c) := HX2.out.cell 0
  have d1 : w2.cell? ⟨w.heap.size, 1, none⟩ = some (.slice B ls.length d) := HX2.out.cell 1
  clear HRG
  have hp : p = true := by rw [HP.out, HRT.out]
  subst hp
  have hcl := RMember_any (c := c) (d := d) H2.out n
  rw [HM.out] at hcl
  have HCL3 := Lib.hid hcl; clear hcl
  go_wp2_with fail
  (with_reducible refine HCL3.out.mono ?_); rintro e w3 ⟨rfl, hb3⟩
  have H3 := Lib.hid (H2.out.below hb3)
  have HX3 := Lib.hid (HX2.out.below hb3 HX2.out.lt)
  have HR3 := Lib.hid (HR2.out.below hb3 HR2.out.lt)
  have HB3 : Hid (Below w.heap.size w w3) := HB2.out.trans (hb3.mono HB2.out.size)
  clear hb3 d0 d1
  have d0 : w3.cell? ⟨w.heap.size, 0, none⟩ = some (.slice A vs.length c) := HX3.out.cell 0
  have d1 : w3.cell? ⟨w.heap.size, 1, none⟩ = some (.slice B ls.length d) := HX3.out.cell 1
  clear HCL3
  have hcl := RVoter_any (c := c) (d := d) H3.out n
  rw [HV.out] at hcl
  have HCL4 := Lib.hid hcl; clear hcl
  go_wp2_with fail
  (with_reducible refine HCL4.out.mono ?_); rintro e w4 ⟨rfl, hb4⟩
  have H4 := Lib.hid (H3.out.below hb4)
  have HX4 := Lib.hid (HX3.out.below hb4 HX3.out.lt)
  have HR4 := Lib.hid (HR3.out.below hb4 HR3.out.lt)
  have HB4 : Hid (Below w.heap.size w w4) := HB3.out.trans (hb4.mono HB3.out.size)
  clear hb4 d0 d1
  have d0 : w4.cell? ⟨w.heap.size, 0, none⟩ = some (.slice A vs.length c) := HX4.out.cell 0
  have d1 : w4.cell? ⟨w.heap.size, 1, none⟩ = some (.slice B ls.length d) := HX4.out.cell 1
  clear HCL4
  have hcl := with_any (c := c) (d := d) H4.out n false false
  have HCLw := Lib.hid hcl; clear hcl
  go_wp2_with fail
  (with_reducible refine HCLw.out.mono ?_); rintro e w9 ⟨A9, c9, B9, d9, rfl, ho1, ho2, hb9⟩
  have hR9 := HR4.out.below hb9 HR4.out.lt
  have HB9 : Hid (Below w.heap.size w w9) := HB4.out.trans (hb9.mono HB4.out.size)
  have HO1 := Lib.hid (ho1.base2 HB4.out.size)
  have HO2 := Lib.hid (ho2.base2 HB4.out.size)
  clear ho1 ho2 hb9 HCLw d0 d1
  have r0 : w9.cell? ⟨w.heap.size + 1, 0, none⟩ = some (.slice none 0 0) := hR9.cell 0
  have r1 : w9.cell? ⟨w.heap.size + 1, 1, none⟩ = some (.slice none 0 0) := hR9.cell 1
  have q0 := hR9.free 0
  have q1 := hR9.free 1
  have HR9 := Lib.hid hR9; clear hR9
  go_wp2_with fail
  have HS9 := Lib.hid (HR9.out.set_ 0 (.slice A9 (upto vs n false 7).length c9))
  refine bodyPost_ret (v := .tuple #[.agg #[.slice A9 (upto vs n false 7).length c9, .slice B9 (upto ls n false 7).length d9], .int .i64 0]) (by simp [results, Try.results37, go_sem, r0, r1, q0, q1]) rfl ?_
  rw [HRES.out]
  exact ⟨A9, c9, B9, d9, rfl, (HO1.out.farB HR9.out (by decide) 0 _).farB HS9.out (by decide) 1 _, (HO2.out.farB HR9.out (by decide) 0 _).farB HS9.out (by decide) 1 _, (HB9.out.setCell (p := ⟨w.heap.size + 1, 0, none⟩) (Nat.le_succ _) _).setCell (p := ⟨w.heap.size + 1, 1, none⟩) (Nat.le_succ _) _⟩

theorem RNext_any {w : World} {A B : Option Addr} {c d : Nat} {vs ls : List Int} (h : CI w A vs B ls) (kind n : Int) :
    Calls Try.prog 37 #[.agg #[.slice A vs.length c, .slice B ls.length d], .int .i64 kind, .int .i64 n] w (NextPost (refR vs ls kind n) w) := by
  cases hr : rightB vs ls with
  | false => exact RNext_e0 h kind n hr
  | true =>
    by_cases h1 : kind < 1
    · exact RNext_e1 h kind n hr h1
    by_cases h2 : 3 < kind
    · exact RNext_e2 h kind n hr h1 h2
    by_cases h3 : n < 1
    · exact RNext_e3 h kind n hr h1 h2 h3
    by_cases h4 : 7 < n
    · exact RNext_e4 h kind n hr h1 h2 h3 h4
    by_cases k1 : kind = 1
    · cases hm : (hasB vs n || hasB ls n) with
      | true => exact RNext_1e h kind n k1 hr h3 h4 hm
      | false => exact RNext_1 h kind n k1 hr h3 h4 hm
    by_cases k2 : kind = 2
    · cases hm : hasB ls n with
      | false => exact RNext_2e h kind n k2 hr h3 h4 hm
      | true => exact RNext_2 h kind n k2 hr h3 h4 hm
    have k3 : kind = 3 := by omega
    cases hm : (hasB vs n || hasB ls n) with
    | false => exact RNext_3e h kind n k3 hr h3 h4 hm
    | true =>
      cases hv : hasB vs n with
      | false => exact RNext_3a h kind n k3 hr h3 h4 hm hv
      | true =>
        by_cases hv1 : vs.length = 1
        · exact RNext_3l h kind n k3 hr h3 h4 hm hv hv1
        · exact RNext_3b h kind n k3 hr h3 h4 hm hv hv1
end Go.Proofs.Ytilefofpfbgikaa
