/- Layer 15: the configuration that is one change on: walk of the program's. -/
import Derived.Test.YtilefofpfbgikaaBs
import Derived.Deep.RegionHeld3
namespace Go.Proofs.Ytilefofpfbgikaa
open Go.RowKit Go.Maps Go.Lib Mem Cf

/-- one change on: who votes, who learns, the code -/
def nextR (vs ls : List Int) (kind n : Int) : List Int × List Int × Int :=
  if rightB vs ls = false ∨ kind < 1 ∨ 3 < kind ∨ n < 1 ∨ 7 < n then ([], [], 1)
  else if kind = 1 then if (hasB vs n || hasB ls n) = true then ([], [], 5) else (vs, putAt n ls, 0)
  else if kind = 2 then if hasB ls n = false then ([], [], 4) else (putAt n vs, without n ls, 0)
  else if (hasB vs n || hasB ls n) = false then ([], [], 4)
  else if hasB ls n = false ∧ vs.length = 1 then ([], [], 3) else (without n vs, without n ls, 0)
def NextPost (res : List Int × List Int × Int) (w : World) (e : Ending) (w' : World) : Prop :=
  ∃ A c B d, e = .returned (.tuple #[.agg #[.slice A res.1.length c, .slice B res.2.1.length d], .int .i64 res.2.2]) ∧ Own fI w.heap.size 3 w' (.slice A res.1.length c) res.1 ∧ Own fI w.heap.size 3 w' (.slice B res.2.1.length d) res.2.1 ∧ Below w.heap.size w w'
theorem rise_pair {xs : List Int} (h : riseB xs = true) : xs.Pairwise (· < ·) := by
  rw [rise_iff] at h
  rw [List.pairwise_iff_getElem]
  intro i j hi hj hij
  induction j with
  | zero => omega
  | succ j ih =>
    have h1 := h (j + 1) hj
    unfold okAt at h1
    rw [getD_get hj, Nat.add_sub_cancel, getD_get (show j < xs.length by omega)] at h1
    have h2 : xs[j] < xs[j + 1] := by simp at h1; exact h1.2.2
    rcases Nat.lt_or_ge i j with h3 | h3
    · have := ih (by omega) h3; omega
    · have : i = j := by omega
      subst this; exact h2
theorem rise_small {xs : List Int} (h : riseB xs = true) : xs.length ≤ 7 := by
  have hp := rise_pair h
  rw [rise_iff] at h
  have key : ∀ k (hk : k < xs.length), (k : Int) + 1 ≤ xs[k] := by
    intro k
    induction k with
    | zero => intro hk; have := h 0 hk; unfold okAt at this; rw [getD_get hk] at this; simp at this; omega
    | succ k ih =>
      intro hk
      have h1 := ih (by omega)
      have h2 := List.pairwise_iff_getElem.1 hp k (k + 1) (by omega) hk (by omega)
      omega
  rcases Nat.lt_or_ge xs.length 8 with h1 | h1
  · omega
  · have h2 := key 7 (by omega)
    have h3 := h 7 (by omega)
    unfold okAt at h3
    rw [getD_get (show 7 < xs.length by omega)] at h3
    simp at h3
    omega
theorem right_rise {vs ls : List Int} (h : rightB vs ls = true) : riseB vs = true ∧ riseB ls = true ∧ 0 < vs.length := by
  unfold rightB rconfB at h
  simp only [Bool.and_eq_true, decide_eq_true_eq] at h
  exact ⟨h.2.1, h.2.2.1, h.1⟩
/-- a call in a region that draws its order -/
def Own2 (w1 : World) (ys : List Int) (W : World) (e : Ending) (w' : World) : Prop :=
  ∃ A c, e = .returned (.slice A ys.length c) ∧ Own fI W.heap.size 3 w' (.slice A ys.length c) ys ∧ Below W.heap.size W w' ∧ Below w1.heap.size w1 w'
theorem own2_of {w1 W : World} {ys : List Int} (hb : Below w1.heap.size w1 W) {e : Ending} {w' : World} (h : OwnPost W.heap.size ys W e w') : Own2 w1 ys W e w' := by
  obtain ⟨A, c, he, ho, hb2⟩ := h
  exact ⟨A, c, he, ho, hb2, hb.trans (hb2.mono hb.size)⟩
theorem Mem.Own.base2 {base base' : Nat} {e : TypeId} {w : World} {v : Value} {xs : List Int} (h : Own fI base e w v xs) (hb : base' ≤ base) : Own fI base' e w v xs := by
  obtain ⟨h1, h2⟩ := h
  refine ⟨h1, ?_⟩
  rcases h2 with h2 | ⟨g, cap, cur, a, b, c⟩
  · exact .inl h2
  · exact .inr ⟨g, cap, cur, a, Nat.le_trans hb b, c⟩
theorem Mem.Own.farB {base g : Nat} {e t : TypeId} {w : World} {v : Value} {xs : List Int} {cs : Array Value} (h : Own fI base e w v xs) (hb : Blk w g t cs) (hne : e ≠ t) (i : Nat) (u : Value) : Own fI base e (w.setCell ⟨g, i, none⟩ u) v xs := by
  obtain ⟨h1, h2⟩ := h
  refine ⟨h1, ?_⟩
  rcases h2 with h2 | ⟨k, cap, cur, a, b, hh, c⟩
  · exact .inl h2
  · refine .inr ⟨k, cap, cur, a, b, ?_, c⟩
    rw [Below.heap_setCell w ⟨g, i, none⟩ u k (fun e2 => ?_)]
    · exact hh
    · have h3 : w.heap[k]? = some (.cells cs t (0, 0)) := by rw [e2]; exact hb
      rw [hh] at h3
      injection h3 with h3; injection h3 with _ h4
      exact hne h4

set_option maxRecDepth 100000 in
set_option maxHeartbeats 2000000 in
theorem Next_e0 {w : World} {A B : Option Addr} {c d : Nat} {vs ls : List Int} (h : CI w A vs B ls) (kind n : Int) (hr : rightB vs ls = false) :
    Calls Try.prog 36 #[.agg #[.slice A vs.length c, .slice B ls.length d], .int .i64 kind, .int .i64 n] w (NextPost (nextR vs ls kind n) w) := by
  have hres : nextR vs ls kind n = ([], [], 1) := by unfold nextR; rw [if_pos (.inl hr)]
  have HRES := Lib.hid hres; clear hres
  have HRT := Lib.hid hr; clear hr
  have hl := h.v.len
  have hl2 := h.l.len
  obtain ⟨z, hz⟩ : ∃ z, z = hasB ls n := ⟨_, rfl⟩
  have HZ := Lib.hid hz; clear hz
  obtain ⟨p, hp⟩ : ∃ p, p = rightB vs ls := ⟨_, rfl⟩
  have HP := Lib.hid hp; clear hp
  have H := Lib.hid h; clear h
  go_enter Try.func36, Try.ntmps36
  go_upto_region 1 with fail
  obtain ⟨w1, hw1⟩ : ∃ x, x = (w.alloc (.cells #[.slice A vs.length c, .slice B ls.length d] 24)).alloc (.cells #[.slice none 0 0, .slice none 0 0] 24) := ⟨_, rfl⟩
  rw [← hw1]
  have hb1 : Below w.heap.size w w1 := by rw [hw1]; exact ((Below.refl _ _).alloc (Nat.le_refl _) _).alloc (by simp) _
  have hx1 : Blk w1 w.heap.size 24 #[.slice A vs.length c, .slice B ls.length d] := by rw [hw1]; exact (Blk.new_ w _ _).alloc _
  have hr1 : Blk w1 (w.heap.size + 1) 24 #[.slice none 0 0, .slice none 0 0] := by
    have := Blk.new_ (w.alloc (.cells #[.slice A vs.length c, .slice B ls.length d] 24)) 24 #[.slice none 0 0, .slice none 0 0]
    rw [World.size_alloc] at this; rw [hw1]; exact this
  have H1 := Lib.hid (H.out.below hb1)
  have HB1 := Lib.hid hb1
  have HX1 := Lib.hid hx1
  have HR1 := Lib.hid hr1
  have d0 : w1.cell? ⟨w.heap.size, 0, none⟩ = some (.slice A vs.length c) := hx1.cell 0
  have d1 : w1.cell? ⟨w.heap.size, 1, none⟩ = some (.slice B ls.length d) := hx1.cell 1
  clear hw1 hb1 hx1 hr1 H
  have hcon := Contains_any B d ls n w1 H1.out.l
  rw [← HZ.out] at hcon
  have HCON := Lib.hid hcon; clear hcon
  have hrg := Right_any (c := c) (d := d) H1.out
  rw [← HP.out] at hrg
  have HRG := Lib.hid hrg; clear hrg
  go_wp2_with fail
  (with_reducible refine HCON.out.mono ?_); rintro e w2 ⟨rfl, rfl⟩
  go_wp2_with fail
  (with_reducible refine HRG.out.mono ?_); rintro e w2 ⟨rfl, hb2⟩
  have H2 := Lib.hid (H1.out.below hb2)
  have HX2 := Lib.hid (HX1.out.below hb2 HX1.out.lt)
  have HR2 := Lib.hid (HR1.out.below hb2 HR1.out.lt)
  have HB2 : Hid (Below w.heap.size w w2) := HB1.out.trans (hb2.mono HB1.out.size)
  clear hb2 d0 d1 HX1 HR1 HCON HRG H1
  have d0 : w2.cell? ⟨w.heap.size, 0, none⟩ = some (.slice A vs.length c) := HX2.out.cell 0
  have d1 : w2.cell? ⟨w.heap.size, 1, none⟩ = some (.slice B ls.length d) := HX2.out.cell 1
  have hp : p = false := by rw [HP.out, HRT.out]
  subst hp
  have r0 : w2.cell? ⟨w.heap.size + 1, 0, none⟩ = some (.slice none 0 0) := HR2.out.cell 0
  have r1 : w2.cell? ⟨w.heap.size + 1, 1, none⟩ = some (.slice none 0 0) := HR2.out.cell 1
  have q0 := HR2.out.free 0
  have q1 := HR2.out.free 1
  go_wp2_with fail
  refine bodyPost_ret (v := .tuple #[.agg #[.slice none 0 0, .slice none 0 0], .int .i64 1]) (by simp [results, Try.results36, go_sem, r0, r1, q0, q1]) rfl ?_
  rw [show nextR vs ls kind n = ([], [], 1) from HRES.out]
  exact ⟨none, 0, none, 0, rfl, Own.nil, Own.nil, (HB2.out.setCell (p := ⟨w.heap.size + 1, 0, none⟩) (Nat.le_succ _) _).setCell (p := ⟨w.heap.size + 1, 1, none⟩) (Nat.le_succ _) _⟩

set_option maxRecDepth 100000 in
set_option maxHeartbeats 2000000 in
theorem Next_e1 {w : World} {A B : Option Addr} {c d : Nat} {vs ls : List Int} (h : CI w A vs B ls) (kind n : Int) (hr : rightB vs ls = true) (h1 : kind < 1) :
    Calls Try.prog 36 #[.agg #[.slice A vs.length c, .slice B ls.length d], .int .i64 kind, .int .i64 n] w (NextPost (nextR vs ls kind n) w) := by
  have hres : nextR vs ls kind n = ([], [], 1) := by unfold nextR; rw [if_pos (.inr (.inl h1))]
  have HRES := Lib.hid hres; clear hres
  have HRT := Lib.hid hr; clear hr
  have hl := h.v.len
  have hl2 := h.l.len
  obtain ⟨z, hz⟩ : ∃ z, z = hasB ls n := ⟨_, rfl⟩
  have HZ := Lib.hid hz; clear hz
  obtain ⟨p, hp⟩ : ∃ p, p = rightB vs ls := ⟨_, rfl⟩
  have HP := Lib.hid hp; clear hp
  have H := Lib.hid h; clear h
  go_enter Try.func36, Try.ntmps36
  go_upto_region 1 with fail
  obtain ⟨w1, hw1⟩ : ∃ x, x = (w.alloc (.cells #[.slice A vs.length c, .slice B ls.length d] 24)).alloc (.cells #[.slice none 0 0, .slice none 0 0] 24) := ⟨_, rfl⟩
  rw [← hw1]
  have hb1 : Below w.heap.size w w1 := by rw [hw1]; exact ((Below.refl _ _).alloc (Nat.le_refl _) _).alloc (by simp) _
  have hx1 : Blk w1 w.heap.size 24 #[.slice A vs.length c, .slice B ls.length d] := by rw [hw1]; exact (Blk.new_ w _ _).alloc _
  have hr1 : Blk w1 (w.heap.size + 1) 24 #[.slice none 0 0, .slice none 0 0] := by
    have := Blk.new_ (w.alloc (.cells #[.slice A vs.length c, .slice B ls.length d] 24)) 24 #[.slice none 0 0, .slice none 0 0]
    rw [World.size_alloc] at this; rw [hw1]; exact this
  have H1 := Lib.hid (H.out.below hb1)
  have HB1 := Lib.hid hb1
  have HX1 := Lib.hid hx1
  have HR1 := Lib.hid hr1
  have d0 : w1.cell? ⟨w.heap.size, 0, none⟩ = some (.slice A vs.length c) := hx1.cell 0
  have d1 : w1.cell? ⟨w.heap.size, 1, none⟩ = some (.slice B ls.length d) := hx1.cell 1
  clear hw1 hb1 hx1 hr1 H
  have hcon := Contains_any B d ls n w1 H1.out.l
  rw [← HZ.out] at hcon
  have HCON := Lib.hid hcon; clear hcon
  have hrg := Right_any (c := c) (d := d) H1.out
  rw [← HP.out] at hrg
  have HRG := Lib.hid hrg; clear hrg
  go_wp2_with fail
  (with_reducible refine HCON.out.mono ?_); rintro e w2 ⟨rfl, rfl⟩
  go_wp2_with fail
  (with_reducible refine HRG.out.mono ?_); rintro e w2 ⟨rfl, hb2⟩
  have H2 := Lib.hid (H1.out.below hb2)
  have HX2 := Lib.hid (HX1.out.below hb2 HX1.out.lt)
  have HR2 := Lib.hid (HR1.out.below hb2 HR1.out.lt)
  have HB2 : Hid (Below w.heap.size w w2) := HB1.out.trans (hb2.mono HB1.out.size)
  clear hb2 d0 d1 HX1 HR1 HCON HRG H1
  have d0 : w2.cell? ⟨w.heap.size, 0, none⟩ = some (.slice A vs.length c) := HX2.out.cell 0
  have d1 : w2.cell? ⟨w.heap.size, 1, none⟩ = some (.slice B ls.length d) := HX2.out.cell 1
  have hp : p = true := by rw [HP.out, HRT.out]
  subst hp
  have r0 : w2.cell? ⟨w.heap.size + 1, 0, none⟩ = some (.slice none 0 0) := HR2.out.cell 0
  have r1 : w2.cell? ⟨w.heap.size + 1, 1, none⟩ = some (.slice none 0 0) := HR2.out.cell 1
  have q0 := HR2.out.free 0
  have q1 := HR2.out.free 1
  go_wp2_with fail
  refine bodyPost_ret (v := .tuple #[.agg #[.slice none 0 0, .slice none 0 0], .int .i64 1]) (by simp [results, Try.results36, go_sem, r0, r1, q0, q1]) rfl ?_
  rw [show nextR vs ls kind n = ([], [], 1) from HRES.out]
  exact ⟨none, 0, none, 0, rfl, Own.nil, Own.nil, (HB2.out.setCell (p := ⟨w.heap.size + 1, 0, none⟩) (Nat.le_succ _) _).setCell (p := ⟨w.heap.size + 1, 1, none⟩) (Nat.le_succ _) _⟩

set_option maxRecDepth 100000 in
set_option maxHeartbeats 2000000 in
theorem Next_e2 {w : World} {A B : Option Addr} {c d : Nat} {vs ls : List Int} (h : CI w A vs B ls) (kind n : Int) (hr : rightB vs ls = true) (h0 : ¬ kind < 1) (h1 : 3 < kind) :
    Calls Try.prog 36 #[.agg #[.slice A vs.length c, .slice B ls.length d], .int .i64 kind, .int .i64 n] w (NextPost (nextR vs ls kind n) w) := by
  have hres : nextR vs ls kind n = ([], [], 1) := by unfold nextR; rw [if_pos (.inr (.inr (.inl h1)))]
  have HRES := Lib.hid hres; clear hres
  have HRT := Lib.hid hr; clear hr
  have hl := h.v.len
  have hl2 := h.l.len
  obtain ⟨z, hz⟩ : ∃ z, z = hasB ls n := ⟨_, rfl⟩
  have HZ := Lib.hid hz; clear hz
  obtain ⟨p, hp⟩ : ∃ p, p = rightB vs ls := ⟨_, rfl⟩
  have HP := Lib.hid hp; clear hp
  have H := Lib.hid h; clear h
  go_enter Try.func36, Try.ntmps36
  go_upto_region 1 with fail
  obtain ⟨w1, hw1⟩ : ∃ x, x = (w.alloc (.cells #[.slice A vs.length c, .slice B ls.length d] 24)).alloc (.cells #[.slice none 0 0, .slice none 0 0] 24) := ⟨_, rfl⟩
  rw [← hw1]
  have hb1 : Below w.heap.size w w1 := by rw [hw1]; exact ((Below.refl _ _).alloc (Nat.le_refl _) _).alloc (by simp) _
  have hx1 : Blk w1 w.heap.size 24 #[.slice A vs.length c, .slice B ls.length d] := by rw [hw1]; exact (Blk.new_ w _ _).alloc _
  have hr1 : Blk w1 (w.heap.size + 1) 24 #[.slice none 0 0, .slice none 0 0] := by
    have := Blk.new_ (w.alloc (.cells #[.slice A vs.length c, .slice B ls.length d] 24)) 24 #[.slice none 0 0, .slice none 0 0]
    rw [World.size_alloc] at this; rw [hw1]; exact this
  have H1 := Lib.hid (H.out.below hb1)
  have HB1 := Lib.hid hb1
  have HX1 := Lib.hid hx1
  have HR1 := Lib.hid hr1
  have d0 : w1.cell? ⟨w.heap.size, 0, none⟩ = some (.slice A vs.length c) := hx1.cell 0
  have d1 : w1.cell? ⟨w.heap.size, 1, none⟩ = some (.slice B ls.length d) := hx1.cell 1
  clear hw1 hb1 hx1 hr1 H
  have hcon := Contains_any B d ls n w1 H1.out.l
  rw [← HZ.out] at hcon
  have HCON := Lib.hid hcon; clear hcon
  have hrg := Right_any (c := c) (d := d) H1.out
  rw [← HP.out] at hrg
  have HRG := Lib.hid hrg; clear hrg
  go_wp2_with fail
  (with_reducible refine HCON.out.mono ?_); rintro e w2 ⟨rfl, rfl⟩
  go_wp2_with fail
  (with_reducible refine HRG.out.mono ?_); rintro e w2 ⟨rfl, hb2⟩
  have H2 := Lib.hid (H1.out.below hb2)
  have HX2 := Lib.hid (HX1.out.below hb2 HX1.out.lt)
  have HR2 := Lib.hid (HR1.out.below hb2 HR1.out.lt)
  have HB2 : Hid (Below w.heap.size w w2) := HB1.out.trans (hb2.mono HB1.out.size)
  clear hb2 d0 d1 HX1 HR1 HCON HRG H1
  have d0 : w2.cell? ⟨w.heap.size, 0, none⟩ = some (.slice A vs.length c) := HX2.out.cell 0
  have d1 : w2.cell? ⟨w.heap.size, 1, none⟩ = some (.slice B ls.length d) := HX2.out.cell 1
  have hp : p = true := by rw [HP.out, HRT.out]
  subst hp
  have r0 : w2.cell? ⟨w.heap.size + 1, 0, none⟩ = some (.slice none 0 0) := HR2.out.cell 0
  have r1 : w2.cell? ⟨w.heap.size + 1, 1, none⟩ = some (.slice none 0 0) := HR2.out.cell 1
  have q0 := HR2.out.free 0
  have q1 := HR2.out.free 1
  go_wp2_with fail
  refine bodyPost_ret (v := .tuple #[.agg #[.slice none 0 0, .slice none 0 0], .int .i64 1]) (by simp [results, Try.results36, go_sem, r0, r1, q0, q1]) rfl ?_
  rw [show nextR vs ls kind n = ([], [], 1) from HRES.out]
  exact ⟨none, 0, none, 0, rfl, Own.nil, Own.nil, (HB2.out.setCell (p := ⟨w.heap.size + 1, 0, none⟩) (Nat.le_succ _) _).setCell (p := ⟨w.heap.size + 1, 1, none⟩) (Nat.le_succ _) _⟩

set_option maxRecDepth 100000 in
set_option maxHeartbeats 2000000 in
theorem Next_e3 {w : World} {A B : Option Addr} {c d : Nat} {vs ls : List Int} (h : CI w A vs B ls) (kind n : Int) (hr : rightB vs ls = true) (h0 : ¬ kind < 1) (h01 : ¬ 3 < kind) (h1 : n < 1) :
    Calls Try.prog 36 #[.agg #[.slice A vs.length c, .slice B ls.length d], .int .i64 kind, .int .i64 n] w (NextPost (nextR vs ls kind n) w) := by
  have hres : nextR vs ls kind n = ([], [], 1) := by unfold nextR; rw [if_pos (.inr (.inr (.inr (.inl h1))))]
  have HRES := Lib.hid hres; clear hres
  have HRT := Lib.hid hr; clear hr
  have hl := h.v.len
  have hl2 := h.l.len
  obtain ⟨z, hz⟩ : ∃ z, z = hasB ls n := ⟨_, rfl⟩
  have HZ := Lib.hid hz; clear hz
  obtain ⟨p, hp⟩ : ∃ p, p = rightB vs ls := ⟨_, rfl⟩
  have HP := Lib.hid hp; clear hp
  have H := Lib.hid h; clear h
  go_enter Try.func36, Try.ntmps36
  go_upto_region 1 with fail
  obtain ⟨w1, hw1⟩ : ∃ x, x = (w.alloc (.cells #[.slice A vs.length c, .slice B ls.length d] 24)).alloc (.cells #[.slice none 0 0, .slice none 0 0] 24) := ⟨_, rfl⟩
  rw [← hw1]
  have hb1 : Below w.heap.size w w1 := by rw [hw1]; exact ((Below.refl _ _).alloc (Nat.le_refl _) _).alloc (by simp) _
  have hx1 : Blk w1 w.heap.size 24 #[.slice A vs.length c, .slice B ls.length d] := by rw [hw1]; exact (Blk.new_ w _ _).alloc _
  have hr1 : Blk w1 (w.heap.size + 1) 24 #[.slice none 0 0, .slice none 0 0] := by
    have := Blk.new_ (w.alloc (.cells #[.slice A vs.length c, .slice B ls.length d] 24)) 24 #[.slice none 0 0, .slice none 0 0]
    rw [World.size_alloc] at this; rw [hw1]; exact this
  have H1 := Lib.hid (H.out.below hb1)
  have HB1 := Lib.hid hb1
  have HX1 := Lib.hid hx1
  have HR1 := Lib.hid hr1
  have d0 : w1.cell? ⟨w.heap.size, 0, none⟩ = some (.slice A vs.length c) := hx1.cell 0
  have d1 : w1.cell? ⟨w.heap.size, 1, none⟩ = some (.slice B ls.length d) := hx1.cell 1
  clear hw1 hb1 hx1 hr1 H
  have hcon := Contains_any B d ls n w1 H1.out.l
  rw [← HZ.out] at hcon
  have HCON := Lib.hid hcon; clear hcon
  have hrg := Right_any (c := c) (d := d) H1.out
  rw [← HP.out] at hrg
  have HRG := Lib.hid hrg; clear hrg
  go_wp2_with fail
  (with_reducible refine HCON.out.mono ?_); rintro e w2 ⟨rfl, rfl⟩
  go_wp2_with fail
  (with_reducible refine HRG.out.mono ?_); rintro e w2 ⟨rfl, hb2⟩
  have H2 := Lib.hid (H1.out.below hb2)
  have HX2 := Lib.hid (HX1.out.below hb2 HX1.out.lt)
  have HR2 := Lib.hid (HR1.out.below hb2 HR1.out.lt)
  have HB2 : Hid (Below w.heap.size w w2) := HB1.out.trans (hb2.mono HB1.out.size)
  clear hb2 d0 d1 HX1 HR1 HCON HRG H1
  have d0 : w2.cell? ⟨w.heap.size, 0, none⟩ = some (.slice A vs.length c) := HX2.out.cell 0
  have d1 : w2.cell? ⟨w.heap.size, 1, none⟩ = some (.slice B ls.length d) := HX2.out.cell 1
  have hp : p = true := by rw [HP.out, HRT.out]
  subst hp
  have r0 : w2.cell? ⟨w.heap.size + 1, 0, none⟩ = some (.slice none 0 0) := HR2.out.cell 0
  have r1 : w2.cell? ⟨w.heap.size + 1, 1, none⟩ = some (.slice none 0 0) := HR2.out.cell 1
  have q0 := HR2.out.free 0
  have q1 := HR2.out.free 1
  go_wp2_with fail
  refine bodyPost_ret (v := .tuple #[.agg #[.slice none 0 0, .slice none 0 0], .int .i64 1]) (by simp [results, Try.results36, go_sem, r0, r1, q0, q1]) rfl ?_
  rw [show nextR vs ls kind n = ([], [], 1) from HRES.out]
  exact ⟨none, 0, none, 0, rfl, Own.nil, Own.nil, (HB2.out.setCell (p := ⟨w.heap.size + 1, 0, none⟩) (Nat.le_succ _) _).setCell (p := ⟨w.heap.size + 1, 1, none⟩) (Nat.le_succ _) _⟩

set_option maxRecDepth 100000 in
set_option maxHeartbeats 2000000 in
theorem Next_e4 {w : World} {A B : Option Addr} {c d : Nat} {vs ls : List Int} (h : CI w A vs B ls) (kind n : Int) (hr : rightB vs ls = true) (h0 : ¬ kind < 1) (h01 : ¬ 3 < kind) (h02 : ¬ n < 1) (h1 : 7 < n) :
    Calls Try.prog 36 #[.agg #[.slice A vs.length c, .slice B ls.length d], .int .i64 kind, .int .i64 n] w (NextPost (nextR vs ls kind n) w) := by
  have hres : nextR vs ls kind n = ([], [], 1) := by unfold nextR; rw [if_pos (.inr (.inr (.inr (.inr h1))))]
  have HRES := Lib.hid hres; clear hres
  have HRT := Lib.hid hr; clear hr
  have hl := h.v.len
  have hl2 := h.l.len
  obtain ⟨z, hz⟩ : ∃ z, z = hasB ls n := ⟨_, rfl⟩
  have HZ := Lib.hid hz; clear hz
  obtain ⟨p, hp⟩ : ∃ p, p = rightB vs ls := ⟨_, rfl⟩
  have HP := Lib.hid hp; clear hp
  have H := Lib.hid h; clear h
  go_enter Try.func36, Try.ntmps36
  go_upto_region 1 with fail
  obtain ⟨w1, hw1⟩ : ∃ x, x = (w.alloc (.cells #[.slice A vs.length c, .slice B ls.length d] 24)).alloc (.cells #[.slice none 0 0, .slice none 0 0] 24) := ⟨_, rfl⟩
  rw [← hw1]
  have hb1 : Below w.heap.size w w1 := by rw [hw1]; exact ((Below.refl _ _).alloc (Nat.le_refl _) _).alloc (by simp) _
  have hx1 : Blk w1 w.heap.size 24 #[.slice A vs.length c, .slice B ls.length d] := by rw [hw1]; exact (Blk.new_ w _ _).alloc _
  have hr1 : Blk w1 (w.heap.size + 1) 24 #[.slice none 0 0, .slice none 0 0] := by
    have := Blk.new_ (w.alloc (.cells #[.slice A vs.length c, .slice B ls.length d] 24)) 24 #[.slice none 0 0, .slice none 0 0]
    rw [World.size_alloc] at this; rw [hw1]; exact this
  have H1 := Lib.hid (H.out.below hb1)
  have HB1 := Lib.hid hb1
  have HX1 := Lib.hid hx1
  have HR1 := Lib.hid hr1
  have d0 : w1.cell? ⟨w.heap.size, 0, none⟩ = some (.slice A vs.length c) := hx1.cell 0
  have d1 : w1.cell? ⟨w.heap.size, 1, none⟩ = some (.slice B ls.length d) := hx1.cell 1
  clear hw1 hb1 hx1 hr1 H
  have hcon := Contains_any B d ls n w1 H1.out.l
  rw [← HZ.out] at hcon
  have HCON := Lib.hid hcon; clear hcon
  have hrg := Right_any (c := c) (d := d) H1.out
  rw [← HP.out] at hrg
  have HRG := Lib.hid hrg; clear hrg
  go_wp2_with fail
  (with_reducible refine HCON.out.mono ?_); rintro e w2 ⟨rfl, rfl⟩
  go_wp2_with fail
  (with_reducible refine HRG.out.mono ?_); rintro e w2 ⟨rfl, hb2⟩
  have H2 := Lib.hid (H1.out.below hb2)
  have HX2 := Lib.hid (HX1.out.below hb2 HX1.out.lt)
  have HR2 := Lib.hid (HR1.out.below hb2 HR1.out.lt)
  have HB2 : Hid (Below w.heap.size w w2) := HB1.out.trans (hb2.mono HB1.out.size)
  clear hb2 d0 d1 HX1 HR1 HCON HRG H1
  have d0 : w2.cell? ⟨w.heap.size, 0, none⟩ = some (.slice A vs.length c) := HX2.out.cell 0
  have d1 : w2.cell? ⟨w.heap.size, 1, none⟩ = some (.slice B ls.length d) := HX2.out.cell 1
  have hp : p = true := by rw [HP.out, HRT.out]
  subst hp
  have r0 : w2.cell? ⟨w.heap.size + 1, 0, none⟩ = some (.slice none 0 0) := HR2.out.cell 0
  have r1 : w2.cell? ⟨w.heap.size + 1, 1, none⟩ = some (.slice none 0 0) := HR2.out.cell 1
  have q0 := HR2.out.free 0
  have q1 := HR2.out.free 1
  go_wp2_with fail
  refine bodyPost_ret (v := .tuple #[.agg #[.slice none 0 0, .slice none 0 0], .int .i64 1]) (by simp [results, Try.results36, go_sem, r0, r1, q0, q1]) rfl ?_
  rw [show nextR vs ls kind n = ([], [], 1) from HRES.out]
  exact ⟨none, 0, none, 0, rfl, Own.nil, Own.nil, (HB2.out.setCell (p := ⟨w.heap.size + 1, 0, none⟩) (Nat.le_succ _) _).setCell (p := ⟨w.heap.size + 1, 1, none⟩) (Nat.le_succ _) _⟩

set_option maxRecDepth 100000 in
set_option maxHeartbeats 2000000 in
theorem Next_1e {w : World} {A B : Option Addr} {c d : Nat} {vs ls : List Int} (h : CI w A vs B ls) (kind n : Int) (hk : kind = 1) (hr : rightB vs ls = true) (hn1 : ¬ n < 1) (hn7 : ¬ 7 < n) (hm : (hasB vs n || hasB ls n) = true) :
    Calls Try.prog 36 #[.agg #[.slice A vs.length c, .slice B ls.length d], .int .i64 kind, .int .i64 n] w (NextPost (nextR vs ls kind n) w) := by
  subst hk
  have hres : nextR vs ls 1 n = ([], [], 5) := by unfold nextR; rw [if_neg (by rw [hr]; simp; omega), if_pos rfl, if_pos hm]
  have HRES := Lib.hid hres; clear hres
  have HRT := Lib.hid hr; clear hr
  have HM := Lib.hid hm; clear hm
  have hl := h.v.len
  have hl2 := h.l.len
  obtain ⟨z, hz⟩ : ∃ z, z = hasB ls n := ⟨_, rfl⟩
  have HZ := Lib.hid hz; clear hz
  obtain ⟨p, hp⟩ : ∃ p, p = rightB vs ls := ⟨_, rfl⟩
  have HP := Lib.hid hp; clear hp
  have H := Lib.hid h; clear h
  go_enter Try.func36, Try.ntmps36
  go_upto_region 1 with fail
  obtain ⟨w1, hw1⟩ : ∃ x, x = (w.alloc (.cells #[.slice A vs.length c, .slice B ls.length d] 24)).alloc (.cells #[.slice none 0 0, .slice none 0 0] 24) := ⟨_, rfl⟩
  rw [← hw1]
  have hb1 : Below w.heap.size w w1 := by rw [hw1]; exact ((Below.refl _ _).alloc (Nat.le_refl _) _).alloc (by simp) _
  have hx1 : Blk w1 w.heap.size 24 #[.slice A vs.length c, .slice B ls.length d] := by rw [hw1]; exact (Blk.new_ w _ _).alloc _
  have hr1 : Blk w1 (w.heap.size + 1) 24 #[.slice none 0 0, .slice none 0 0] := by
    have := Blk.new_ (w.alloc (.cells #[.slice A vs.length c, .slice B ls.length d] 24)) 24 #[.slice none 0 0, .slice none 0 0]
    rw [World.size_alloc] at this; rw [hw1]; exact this
  have H1 := Lib.hid (H.out.below hb1)
  have HB1 := Lib.hid hb1
  have HX1 := Lib.hid hx1
  have HR1 := Lib.hid hr1
  have d0 : w1.cell? ⟨w.heap.size, 0, none⟩ = some (.slice A vs.length c) := hx1.cell 0
  have d1 : w1.cell? ⟨w.heap.size, 1, none⟩ = some (.slice B ls.length d) := hx1.cell 1
  clear hw1 hb1 hx1 hr1 H
  have hcon := Contains_any B d ls n w1 H1.out.l
  rw [← HZ.out] at hcon
  have HCON := Lib.hid hcon; clear hcon
  have hrg := Right_any (c := c) (d := d) H1.out
  rw [← HP.out] at hrg
  have HRG := Lib.hid hrg; clear hrg
  go_wp2_with fail
  (with_reducible refine HCON.out.mono ?_); rintro e w2 ⟨rfl, rfl⟩
  go_wp2_with fail
  (with_reducible refine HRG.out.mono ?_); rintro e w2 ⟨rfl, hb2⟩
  have H2 := Lib.hid (H1.out.below hb2)
  have HX2 := Lib.hid (HX1.out.below hb2 HX1.out.lt)
  have HR2 := Lib.hid (HR1.out.below hb2 HR1.out.lt)
  have HB2 : Hid (Below w.heap.size w w2) := HB1.out.trans (hb2.mono HB1.out.size)
  clear hb2 d0 d1 HX1 HR1 HCON HRG H1
  have d0 : w2.cell? ⟨w.heap.size, 0, none⟩ = some (.slice A vs.length c) := HX2.out.cell 0
  have d1 : w2.cell? ⟨w.heap.size, 1, none⟩ = some (.slice B ls.length d) := HX2.out.cell 1
  have hp : p = true := by rw [HP.out, HRT.out]
  subst hp
  have hmb := Member_any (c := c) (d := d) H2.out n
  rw [HM.out] at hmb
  have HMB := Lib.hid hmb; clear hmb
  go_wp2_with fail
  (with_reducible refine HMB.out.mono ?_); rintro e w3 ⟨rfl, hb3⟩
  have H3 := Lib.hid (H2.out.below hb3)
  have HX3 := Lib.hid (HX2.out.below hb3 HX2.out.lt)
  have HR3 := Lib.hid (HR2.out.below hb3 HR2.out.lt)
  have HB3 : Hid (Below w.heap.size w w3) := HB2.out.trans (hb3.mono HB2.out.size)
  clear hb3 d0 d1
  have d0 : w3.cell? ⟨w.heap.size, 0, none⟩ = some (.slice A vs.length c) := HX3.out.cell 0
  have d1 : w3.cell? ⟨w.heap.size, 1, none⟩ = some (.slice B ls.length d) := HX3.out.cell 1
  clear HMB
  have r0 : w3.cell? ⟨w.heap.size + 1, 0, none⟩ = some (.slice none 0 0) := HR3.out.cell 0
  have r1 : w3.cell? ⟨w.heap.size + 1, 1, none⟩ = some (.slice none 0 0) := HR3.out.cell 1
  have q0 := HR3.out.free 0
  have q1 := HR3.out.free 1
  go_wp2_with fail
  refine bodyPost_ret (v := .tuple #[.agg #[.slice none 0 0, .slice none 0 0], .int .i64 5]) (by simp [results, Try.results36, go_sem, r0, r1, q0, q1]) rfl ?_
  rw [show nextR vs ls 1 n = ([], [], 5) from HRES.out]
  exact ⟨none, 0, none, 0, rfl, Own.nil, Own.nil, (HB3.out.setCell (p := ⟨w.heap.size + 1, 0, none⟩) (Nat.le_succ _) _).setCell (p := ⟨w.heap.size + 1, 1, none⟩) (Nat.le_succ _) _⟩

set_option maxRecDepth 100000 in
set_option maxHeartbeats 2000000 in
theorem Next_2e {w : World} {A B : Option Addr} {c d : Nat} {vs ls : List Int} (h : CI w A vs B ls) (kind n : Int) (hk : kind = 2) (hr : rightB vs ls = true) (hn1 : ¬ n < 1) (hn7 : ¬ 7 < n) (hm : hasB ls n = false) :
    Calls Try.prog 36 #[.agg #[.slice A vs.length c, .slice B ls.length d], .int .i64 kind, .int .i64 n] w (NextPost (nextR vs ls kind n) w) := by
  subst hk
  have hres : nextR vs ls 2 n = ([], [], 4) := by unfold nextR; rw [if_neg (by rw [hr]; simp; omega), if_neg (by decide), if_pos rfl, if_pos hm]
  have HRES := Lib.hid hres; clear hres
  have HRT := Lib.hid hr; clear hr
  have HL := Lib.hid hm; clear hm
  have hl := h.v.len
  have hl2 := h.l.len
  obtain ⟨z, hz⟩ : ∃ z, z = hasB ls n := ⟨_, rfl⟩
  have HZ := Lib.hid hz; clear hz
  obtain ⟨p, hp⟩ : ∃ p, p = rightB vs ls := ⟨_, rfl⟩
  have HP := Lib.hid hp; clear hp
  have H := Lib.hid h; clear h
  go_enter Try.func36, Try.ntmps36
  go_upto_region 1 with fail
  obtain ⟨w1, hw1⟩ : ∃ x, x = (w.alloc (.cells #[.slice A vs.length c, .slice B ls.length d] 24)).alloc (.cells #[.slice none 0 0, .slice none 0 0] 24) := ⟨_, rfl⟩
  rw [← hw1]
  have hb1 : Below w.heap.size w w1 := by rw [hw1]; exact ((Below.refl _ _).alloc (Nat.le_refl _) _).alloc (by simp) _
  have hx1 : Blk w1 w.heap.size 24 #[.slice A vs.length c, .slice B ls.length d] := by rw [hw1]; exact (Blk.new_ w _ _).alloc _
  have hr1 : Blk w1 (w.heap.size + 1) 24 #[.slice none 0 0, .slice none 0 0] := by
    have := Blk.new_ (w.alloc (.cells #[.slice A vs.length c, .slice B ls.length d] 24)) 24 #[.slice none 0 0, .slice none 0 0]
    rw [World.size_alloc] at this; rw [hw1]; exact this
  have H1 := Lib.hid (H.out.below hb1)
  have HB1 := Lib.hid hb1
  have HX1 := Lib.hid hx1
  have HR1 := Lib.hid hr1
  have d0 : w1.cell? ⟨w.heap.size, 0, none⟩ = some (.slice A vs.length c) := hx1.cell 0
  have d1 : w1.cell? ⟨w.heap.size, 1, none⟩ = some (.slice B ls.length d) := hx1.cell 1
  clear hw1 hb1 hx1 hr1 H
  have hcon := Contains_any B d ls n w1 H1.out.l
  rw [← HZ.out] at hcon
  have HCON := Lib.hid hcon; clear hcon
  have hrg := Right_any (c := c) (d := d) H1.out
  rw [← HP.out] at hrg
  have HRG := Lib.hid hrg; clear hrg
  go_wp2_with fail
  (with_reducible refine HCON.out.mono ?_); rintro e w2 ⟨rfl, rfl⟩
  go_wp2_with fail
  (with_reducible refine HRG.out.mono ?_); rintro e w2 ⟨rfl, hb2⟩
  have H2 := Lib.hid (H1.out.below hb2)
  have HX2 := Lib.hid (HX1.out.below hb2 HX1.out.lt)
  have HR2 := Lib.hid (HR1.out.below hb2 HR1.out.lt)
  have HB2 : Hid (Below w.heap.size w w2) := HB1.out.trans (hb2.mono HB1.out.size)
  clear hb2 d0 d1 HX1 HR1 HCON HRG H1
  have d0 : w2.cell? ⟨w.heap.size, 0, none⟩ = some (.slice A vs.length c) := HX2.out.cell 0
  have d1 : w2.cell? ⟨w.heap.size, 1, none⟩ = some (.slice B ls.length d) := HX2.out.cell 1
  have hp : p = true := by rw [HP.out, HRT.out]
  subst hp
  have hz : z = false := by rw [HZ.out, HL.out]
  subst hz
  have r0 : w2.cell? ⟨w.heap.size + 1, 0, none⟩ = some (.slice none 0 0) := HR2.out.cell 0
  have r1 : w2.cell? ⟨w.heap.size + 1, 1, none⟩ = some (.slice none 0 0) := HR2.out.cell 1
  have q0 := HR2.out.free 0
  have q1 := HR2.out.free 1
  go_wp2_with fail
  refine bodyPost_ret (v := .tuple #[.agg #[.slice none 0 0, .slice none 0 0], .int .i64 4]) (by simp [results, Try.results36, go_sem, r0, r1, q0, q1]) rfl ?_
  rw [show nextR vs ls 2 n = ([], [], 4) from HRES.out]
  exact ⟨none, 0, none, 0, rfl, Own.nil, Own.nil, (HB2.out.setCell (p := ⟨w.heap.size + 1, 0, none⟩) (Nat.le_succ _) _).setCell (p := ⟨w.heap.size + 1, 1, none⟩) (Nat.le_succ _) _⟩

set_option maxRecDepth 100000 in
set_option maxHeartbeats 2000000 in
theorem Next_3e {w : World} {A B : Option Addr} {c d : Nat} {vs ls : List Int} (h : CI w A vs B ls) (kind n : Int) (hk : kind = 3) (hr : rightB vs ls = true) (hn1 : ¬ n < 1) (hn7 : ¬ 7 < n) (hm : (hasB vs n || hasB ls n) = false) :
    Calls Try.prog 36 #[.agg #[.slice A vs.length c, .slice B ls.length d], .int .i64 kind, .int .i64 n] w (NextPost (nextR vs ls kind n) w) := by
  subst hk
  have hres : nextR vs ls 3 n = ([], [], 4) := by unfold nextR; rw [if_neg (by rw [hr]; simp; omega), if_neg (by decide), if_neg (by decide), if_pos hm]
  have HRES := Lib.hid hres; clear hres
  have HRT := Lib.hid hr; clear hr
  have HM := Lib.hid hm; clear hm
  have hl := h.v.len
  have hl2 := h.l.len
  obtain ⟨z, hz⟩ : ∃ z, z = hasB ls n := ⟨_, rfl⟩
  have HZ := Lib.hid hz; clear hz
  obtain ⟨p, hp⟩ : ∃ p, p = rightB vs ls := ⟨_, rfl⟩
  have HP := Lib.hid hp; clear hp
  have H := Lib.hid h; clear h
  go_enter Try.func36, Try.ntmps36
  go_upto_region 1 with fail
  obtain ⟨w1, hw1⟩ : ∃ x, x = (w.alloc (.cells #[.slice A vs.length c, .slice B ls.length d] 24)).alloc (.cells #[.slice none 0 0, .slice none 0 0] 24) := ⟨_, rfl⟩
  rw [← hw1]
  have hb1 : Below w.heap.size w w1 := by rw [hw1]; exact ((Below.refl _ _).alloc (Nat.le_refl _) _).alloc (by simp) _
  have hx1 : Blk w1 w.heap.size 24 #[.slice A vs.length c, .slice B ls.length d] := by rw [hw1]; exact (Blk.new_ w _ _).alloc _
  have hr1 : Blk w1 (w.heap.size + 1) 24 #[.slice none 0 0, .slice none 0 0] := by
    have := Blk.new_ (w.alloc (.cells #[.slice A vs.length c, .slice B ls.length d] 24)) 24 #[.slice none 0 0, .slice none 0 0]
    rw [World.size_alloc] at this; rw [hw1]; exact this
  have H1 := Lib.hid (H.out.below hb1)
  have HB1 := Lib.hid hb1
  have HX1 := Lib.hid hx1
  have HR1 := Lib.hid hr1
  have d0 : w1.cell? ⟨w.heap.size, 0, none⟩ = some (.slice A vs.length c) := hx1.cell 0
  have d1 : w1.cell? ⟨w.heap.size, 1, none⟩ = some (.slice B ls.length d) := hx1.cell 1
  clear hw1 hb1 hx1 hr1 H
  have hcon := Contains_any B d ls n w1 H1.out.l
  rw [← HZ.out] at hcon
  have HCON := Lib.hid hcon; clear hcon
  have hrg := Right_any (c := c) (d := d) H1.out
  rw [← HP.out] at hrg
  have HRG := Lib.hid hrg; clear hrg
  go_wp2_with fail
  (with_reducible refine HCON.out.mono ?_); rintro e w2 ⟨rfl, rfl⟩
  go_wp2_with fail
  (with_reducible refine HRG.out.mono ?_); rintro e w2 ⟨rfl, hb2⟩
  have H2 := Lib.hid (H1.out.below hb2)
  have HX2 := Lib.hid (HX1.out.below hb2 HX1.out.lt)
  have HR2 := Lib.hid (HR1.out.below hb2 HR1.out.lt)
  have HB2 : Hid (Below w.heap.size w w2) := HB1.out.trans (hb2.mono HB1.out.size)
  clear hb2 d0 d1 HX1 HR1 HCON HRG H1
  have d0 : w2.cell? ⟨w.heap.size, 0, none⟩ = some (.slice A vs.length c) := HX2.out.cell 0
  have d1 : w2.cell? ⟨w.heap.size, 1, none⟩ = some (.slice B ls.length d) := HX2.out.cell 1
  have hp : p = true := by rw [HP.out, HRT.out]
  subst hp
  have hmb := Member_any (c := c) (d := d) H2.out n
  rw [HM.out] at hmb
  have HMB := Lib.hid hmb; clear hmb
  go_wp2_with fail
  (with_reducible refine HMB.out.mono ?_); rintro e w3 ⟨rfl, hb3⟩
  have H3 := Lib.hid (H2.out.below hb3)
  have HX3 := Lib.hid (HX2.out.below hb3 HX2.out.lt)
  have HR3 := Lib.hid (HR2.out.below hb3 HR2.out.lt)
  have HB3 : Hid (Below w.heap.size w w3) := HB2.out.trans (hb3.mono HB2.out.size)
  clear hb3 d0 d1
  have d0 : w3.cell? ⟨w.heap.size, 0, none⟩ = some (.slice A vs.length c) := HX3.out.cell 0
  have d1 : w3.cell? ⟨w.heap.size, 1, none⟩ = some (.slice B ls.length d) := HX3.out.cell 1
  clear HMB
  have r0 : w3.cell? ⟨w.heap.size + 1, 0, none⟩ = some (.slice none 0 0) := HR3.out.cell 0
  have r1 : w3.cell? ⟨w.heap.size + 1, 1, none⟩ = some (.slice none 0 0) := HR3.out.cell 1
  have q0 := HR3.out.free 0
  have q1 := HR3.out.free 1
  go_wp2_with fail
  refine bodyPost_ret (v := .tuple #[.agg #[.slice none 0 0, .slice none 0 0], .int .i64 4]) (by simp [results, Try.results36, go_sem, r0, r1, q0, q1]) rfl ?_
  rw [show nextR vs ls 3 n = ([], [], 4) from HRES.out]
  exact ⟨none, 0, none, 0, rfl, Own.nil, Own.nil, (HB3.out.setCell (p := ⟨w.heap.size + 1, 0, none⟩) (Nat.le_succ _) _).setCell (p := ⟨w.heap.size + 1, 1, none⟩) (Nat.le_succ _) _⟩

set_option maxRecDepth 100000 in
set_option maxHeartbeats 2000000 in
theorem Next_3l {w : World} {A B : Option Addr} {c d : Nat} {vs ls : List Int} (h : CI w A vs B ls) (kind n : Int) (hk : kind = 3) (hr : rightB vs ls = true) (hn1 : ¬ n < 1) (hn7 : ¬ 7 < n) (hm : (hasB vs n || hasB ls n) = true) (hl0 : hasB ls n = false) (hv1 : vs.length = 1) :
    Calls Try.prog 36 #[.agg #[.slice A vs.length c, .slice B ls.length d], .int .i64 kind, .int .i64 n] w (NextPost (nextR vs ls kind n) w) := by
  subst hk
  have hres : nextR vs ls 3 n = ([], [], 3) := by unfold nextR; rw [if_neg (by rw [hr]; simp; omega), if_neg (by decide), if_neg (by decide), if_neg (by rw [hm]; decide), if_pos ⟨hl0, hv1⟩]
  have HRES := Lib.hid hres; clear hres
  have HRT := Lib.hid hr; clear hr
  have HM := Lib.hid hm; clear hm
  have HL := Lib.hid hl0; clear hl0
  have HV1 := Lib.hid hv1; clear hv1
  have hl := h.v.len
  have hl2 := h.l.len
  obtain ⟨z, hz⟩ : ∃ z, z = hasB ls n := ⟨_, rfl⟩
  have HZ := Lib.hid hz; clear hz
  obtain ⟨p, hp⟩ : ∃ p, p = rightB vs ls := ⟨_, rfl⟩
  have HP := Lib.hid hp; clear hp
  have H := Lib.hid h; clear h
  go_enter Try.func36, Try.ntmps36
  go_upto_region 1 with fail
  obtain ⟨w1, hw1⟩ : ∃ x, x = (w.alloc (.cells #[.slice A vs.length c, .slice B ls.length d] 24)).alloc (.cells #[.slice none 0 0, .slice none 0 0] 24) := ⟨_, rfl⟩
  rw [← hw1]
  have hb1 : Below w.heap.size w w1 := by rw [hw1]; exact ((Below.refl _ _).alloc (Nat.le_refl _) _).alloc (by simp) _
  have hx1 : Blk w1 w.heap.size 24 #[.slice A vs.length c, .slice B ls.length d] := by rw [hw1]; exact (Blk.new_ w _ _).alloc _
  have hr1 : Blk w1 (w.heap.size + 1) 24 #[.slice none 0 0, .slice none 0 0] := by
    have := Blk.new_ (w.alloc (.cells #[.slice A vs.length c, .slice B ls.length d] 24)) 24 #[.slice none 0 0, .slice none 0 0]
    rw [World.size_alloc] at this; rw [hw1]; exact this
  have H1 := Lib.hid (H.out.below hb1)
  have HB1 := Lib.hid hb1
  have HX1 := Lib.hid hx1
  have HR1 := Lib.hid hr1
  have d0 : w1.cell? ⟨w.heap.size, 0, none⟩ = some (.slice A vs.length c) := hx1.cell 0
  have d1 : w1.cell? ⟨w.heap.size, 1, none⟩ = some (.slice B ls.length d) := hx1.cell 1
  clear hw1 hb1 hx1 hr1 H
  have hcon := Contains_any B d ls n w1 H1.out.l
  rw [← HZ.out] at hcon
  have HCON := Lib.hid hcon; clear hcon
  have hrg := Right_any (c := c) (d := d) H1.out
  rw [← HP.out] at hrg
  have HRG := Lib.hid hrg; clear hrg
  go_wp2_with fail
  (with_reducible refine HCON.out.mono ?_); rintro e w2 ⟨rfl, rfl⟩
  go_wp2_with fail
  (with_reducible refine HRG.out.mono ?_); rintro e w2 ⟨rfl, hb2⟩
  have H2 := Lib.hid (H1.out.below hb2)
  have HX2 := Lib.hid (HX1.out.below hb2 HX1.out.lt)
  have HR2 := Lib.hid (HR1.out.below hb2 HR1.out.lt)
  have HB2 : Hid (Below w.heap.size w w2) := HB1.out.trans (hb2.mono HB1.out.size)
  clear hb2 d0 d1 HX1 HR1 HCON HRG H1
  have d0 : w2.cell? ⟨w.heap.size, 0, none⟩ = some (.slice A vs.length c) := HX2.out.cell 0
  have d1 : w2.cell? ⟨w.heap.size, 1, none⟩ = some (.slice B ls.length d) := HX2.out.cell 1
  have hp : p = true := by rw [HP.out, HRT.out]
  subst hp
  have hz : z = false := by rw [HZ.out, HL.out]
  subst hz
  have hmb := Member_any (c := c) (d := d) H2.out n
  rw [HM.out] at hmb
  have HMB := Lib.hid hmb; clear hmb
  go_wp2_with fail
  (with_reducible refine HMB.out.mono ?_); rintro e w3 ⟨rfl, hb3⟩
  have H3 := Lib.hid (H2.out.below hb3)
  have HX3 := Lib.hid (HX2.out.below hb3 HX2.out.lt)
  have HR3 := Lib.hid (HR2.out.below hb3 HR2.out.lt)
  have HB3 : Hid (Below w.heap.size w w3) := HB2.out.trans (hb3.mono HB2.out.size)
  clear hb3 d0 d1
  have d0 : w3.cell? ⟨w.heap.size, 0, none⟩ = some (.slice A vs.length c) := HX3.out.cell 0
  have d1 : w3.cell? ⟨w.heap.size, 1, none⟩ = some (.slice B ls.length d) := HX3.out.cell 1
  clear HMB
  have r0 : w3.cell? ⟨w.heap.size + 1, 0, none⟩ = some (.slice none 0 0) := HR3.out.cell 0
  have r1 : w3.cell? ⟨w.heap.size + 1, 1, none⟩ = some (.slice none 0 0) := HR3.out.cell 1
  have q0 := HR3.out.free 0
  have q1 := HR3.out.free 1
  rw [HV1.out] at d0
  go_wp2_with fail
  refine bodyPost_ret (v := .tuple #[.agg #[.slice none 0 0, .slice none 0 0], .int .i64 3]) (by simp [results, Try.results36, go_sem, r0, r1, q0, q1]) rfl ?_
  rw [show nextR vs ls 3 n = ([], [], 3) from HRES.out]
  exact ⟨none, 0, none, 0, rfl, Own.nil, Own.nil, (HB3.out.setCell (p := ⟨w.heap.size + 1, 0, none⟩) (Nat.le_succ _) _).setCell (p := ⟨w.heap.size + 1, 1, none⟩) (Nat.le_succ _) _⟩

theorem heldN {w1 W : World} {g : Nat} {x y : Value} (h : Blk w1 g 24 #[x, y]) (hb : Below w1.heap.size w1 W) : W.cell? ⟨g, 0, none⟩ = some x ∧ W.cell? ⟨g, 1, none⟩ = some y :=
  ⟨(h.below hb h.lt).cell 0, (h.below hb h.lt).cell 1⟩
theorem heldS {w1 W : World} {g : Nat} {x y : Value} (h : Blk w1 g 24 #[x, y]) (hb : Below w1.heap.size w1 W) (u v : Value) : ((W.setCell ⟨g + 1, 0, none⟩ u).setCell ⟨g + 1, 1, none⟩ v).cell? ⟨g, 0, none⟩ = some x ∧ ((W.setCell ⟨g + 1, 0, none⟩ u).setCell ⟨g + 1, 1, none⟩ v).cell? ⟨g, 1, none⟩ = some y := by
  have h1 := (((h.below hb h.lt).far (p := ⟨g + 1, 0, none⟩) (by show g ≠ g + 1; omega) u).far (p := ⟨g + 1, 1, none⟩) (by show g ≠ g + 1; omega) v)
  exact ⟨h1.cell 0, h1.cell 1⟩
theorem below_drew0 (w : World) : Below w.heap.size w w.drew := (Below.refl _ _).drew
set_option maxRecDepth 100000 in
set_option maxHeartbeats 2000000 in
theorem Next_1 {w : World} {A B : Option Addr} {c d : Nat} {vs ls : List Int} (h : CI w A vs B ls) (kind n : Int) (hk : kind = 1) (hr : rightB vs ls = true) (hn1 : ¬ n < 1) (hn7 : ¬ 7 < n) (hm : (hasB vs n || hasB ls n) = false) :
    Calls Try.prog 36 #[.agg #[.slice A vs.length c, .slice B ls.length d], .int .i64 kind, .int .i64 n] w (NextPost (nextR vs ls kind n) w) := by
  subst hk
  have hres : nextR vs ls 1 n = (vs, putAt n ls, 0) := by unfold nextR; rw [if_neg (by rw [hr]; simp; omega), if_pos rfl, if_neg (by rw [hm]; decide)]
  have HRES := Lib.hid hres; clear hres
  have HRT := Lib.hid hr; clear hr
  have HM := Lib.hid hm; clear hm
  have hl := h.v.len
  have hl2 := h.l.len
  obtain ⟨z, hz⟩ : ∃ z, z = hasB ls n := ⟨_, rfl⟩
  have HZ := Lib.hid hz; clear hz
  obtain ⟨p, hp⟩ : ∃ p, p = rightB vs ls := ⟨_, rfl⟩
  have HP := Lib.hid hp; clear hp
  have H := Lib.hid h; clear h
  go_enter Try.func36, Try.ntmps36
  go_upto_region 1 with fail
  obtain ⟨w1, hw1⟩ : ∃ x, x = (w.alloc (.cells #[.slice A vs.length c, .slice B ls.length d] 24)).alloc (.cells #[.slice none 0 0, .slice none 0 0] 24) := ⟨_, rfl⟩
  rw [← hw1]
  have hb1 : Below w.heap.size w w1 := by rw [hw1]; exact ((Below.refl _ _).alloc (Nat.le_refl _) _).alloc (by simp) _
  have hx1 : Blk w1 w.heap.size 24 #[.slice A vs.length c, .slice B ls.length d] := by rw [hw1]; exact (Blk.new_ w _ _).alloc _
  have hr1 : Blk w1 (w.heap.size + 1) 24 #[.slice none 0 0, .slice none 0 0] := by
    have := Blk.new_ (w.alloc (.cells #[.slice A vs.length c, .slice B ls.length d] 24)) 24 #[.slice none 0 0, .slice none 0 0]
    rw [World.size_alloc] at this; rw [hw1]; exact this
  have H1 := Lib.hid (H.out.below hb1)
  have HB1 := Lib.hid hb1
  have HX1 := Lib.hid hx1
  have HR1 := Lib.hid hr1
  have d0 : w1.cell? ⟨w.heap.size, 0, none⟩ = some (.slice A vs.length c) := hx1.cell 0
  have d1 : w1.cell? ⟨w.heap.size, 1, none⟩ = some (.slice B ls.length d) := hx1.cell 1
  clear hw1 hb1 hx1 hr1 H
  have hcon := Contains_any B d ls n w1 H1.out.l
  rw [← HZ.out] at hcon
  have HCON := Lib.hid hcon; clear hcon
  have hrg := Right_any (c := c) (d := d) H1.out
  rw [← HP.out] at hrg
  have HRG := Lib.hid hrg; clear hrg
  go_wp2_with fail
  (with_reducible refine HCON.out.mono ?_); rintro e w2 ⟨rfl, rfl⟩
  go_wp2_with fail
  (with_reducible refine HRG.out.mono ?_); rintro e w2 ⟨rfl, hb2⟩
  have H2 := Lib.hid (H1.out.below hb2)
  have HX2 := Lib.hid (HX1.out.below hb2 HX1.out.lt)
  have HR2 := Lib.hid (HR1.out.below hb2 HR1.out.lt)
  have HB2 : Hid (Below w.heap.size w w2) := HB1.out.trans (hb2.mono HB1.out.size)
  clear hb2 d0 d1 HX1 HR1 HCON HRG H1
  have d0 : w2.cell? ⟨w.heap.size, 0, none⟩ = some (.slice A vs.length c) := HX2.out.cell 0
  have d1 : w2.cell? ⟨w.heap.size, 1, none⟩ = some (.slice B ls.length d) := HX2.out.cell 1
  have hp : p = true := by rw [HP.out, HRT.out]
  subst hp
  have hmb := Member_any (c := c) (d := d) H2.out n
  rw [HM.out] at hmb
  have HMB := Lib.hid hmb; clear hmb
  go_wp2_with fail
  (with_reducible refine HMB.out.mono ?_); rintro e w3 ⟨rfl, hb3⟩
  have H3 := Lib.hid (H2.out.below hb3)
  have HX3 := Lib.hid (HX2.out.below hb3 HX2.out.lt)
  have HR3 := Lib.hid (HR2.out.below hb3 HR2.out.lt)
  have HB3 : Hid (Below w.heap.size w w3) := HB2.out.trans (hb3.mono HB2.out.size)
  clear hb3 d0 d1
  have d0 : w3.cell? ⟨w.heap.size, 0, none⟩ = some (.slice A vs.length c) := HX3.out.cell 0
  have d1 : w3.cell? ⟨w.heap.size, 1, none⟩ = some (.slice B ls.length d) := HX3.out.cell 1
  clear HMB
  have r0 : w3.cell? ⟨w.heap.size + 1, 0, none⟩ = some (.slice none 0 0) := HR3.out.cell 0
  have r1 : w3.cell? ⟨w.heap.size + 1, 1, none⟩ = some (.slice none 0 0) := HR3.out.cell 1
  have q0 := HR3.out.free 0
  have q1 := HR3.out.free 1
  go_upto_region 11 with fail
  have hC1 : ∀ W, Below w3.heap.size w3 W → Calls Try.prog 69 #[.slice A vs.length c] W (Own2 w3 vs W) := fun W hb => (CloneI_any A c vs (by have := rise_small (right_rise HRT.out).1; omega) W (H3.out.v.below hb)).mono fun _ _ h => own2_of hb h
  have hC2 : ∀ W, Below w3.heap.size w3 W → Calls Try.prog 75 #[.slice B ls.length d, .int .i64 n] W (Own2 w3 (putAt n ls) W) := fun W hb => (put_any B d ls n W (H3.out.l.below hb) (rise_pair (right_rise HRT.out).2.1) (by have := rise_small (right_rise HRT.out).2.1; omega)).mono fun _ _ h => own2_of hb h
  have HC1 := Lib.hid hC1; clear hC1
  have HC2 := Lib.hid hC2; clear hC2
  have hdr := below_drew0 w3
  have hr0 : ∀ W, Below w3.heap.size w3 W → W.cell? ⟨w.heap.size + 1, 0, none⟩ = some (.slice none 0 0) := fun W hb => (HR3.out.below hb HR3.out.lt).cell 0
  have hr1 : ∀ W, Below w3.heap.size w3 W → W.cell? ⟨w.heap.size + 1, 1, none⟩ = some (.slice none 0 0) := fun W hb => (HR3.out.below hb HR3.out.lt).cell 1
  have hq0 : ∀ W, Below w3.heap.size w3 W → W.frozen? ⟨w.heap.size + 1, 0, none⟩ = false := fun W hb => (HR3.out.below hb HR3.out.lt).free 0
  have hq1 : ∀ W, Below w3.heap.size w3 W → W.frozen? ⟨w.heap.size + 1, 1, none⟩ = false := fun W hb => (HR3.out.below hb HR3.out.lt).free 1
  clear r0 r1 q0 q1
  go_region_held3 (fun W => W.cell? ⟨w.heap.size, 0, none⟩ = some (.slice A vs.length c) ∧ W.cell? ⟨w.heap.size, 1, none⟩ = some (.slice B ls.length d)) (first | exact heldN HX3.out (by assumption) | exact heldN HX3.out (below_drewN (by assumption) _) | exact heldS HX3.out (by assumption) _ _)
    (first | (go_at_call 69; (with_reducible refine (HC1.out _ ?_).mono ?_); (assumption); rintro e wN ⟨AN, cN, rfl, hsN, hbN, hBN⟩)
           | (go_at_call 75; (with_reducible refine (HC2.out _ ?_).mono ?_); (assumption); rintro e wS ⟨AS, cS, rfl, hsS, hbS, hBS⟩))
  all_goals (first
    | (skip
       have zN : w3.heap.size ≤ w3.drew.heap.size := Nat.le_refl _
       have zS : w3.heap.size ≤ wN.heap.size := hBN.size
       have hO1 := hsN.below hbS
       have hO2 := hsS
       have hRb := HR3.out.below hBS HR3.out.lt
       have hR2 := hRb.set_ 0 (.slice AN (vs).length cN)
       have hR3 := hR2.set_ 1 (.slice AS (putAt n ls).length cS)
       have r0 : ((wS.setCell ⟨w.heap.size + 1, 0, none⟩ (.slice AN (vs).length cN)).setCell ⟨w.heap.size + 1, 1, none⟩ (.slice AS (putAt n ls).length cS)).cell? ⟨w.heap.size + 1, 0, none⟩ = some (.slice AN (vs).length cN) := hR3.cell 0
       have r1 : ((wS.setCell ⟨w.heap.size + 1, 0, none⟩ (.slice AN (vs).length cN)).setCell ⟨w.heap.size + 1, 1, none⟩ (.slice AS (putAt n ls).length cS)).cell? ⟨w.heap.size + 1, 1, none⟩ = some (.slice AS (putAt n ls).length cS) := hR3.cell 1
       have hBf : Below w.heap.size w wS := HB3.out.trans (hBS.mono HB3.out.size)
       have HO1 := Lib.hid hO1; clear hO1
       have HO2 := Lib.hid hO2; clear hO2
       have HRb := Lib.hid hRb; clear hRb
       have HR2' := Lib.hid hR2; clear hR2 hR3
       have HBF := Lib.hid hBf; clear hBf hbN hBN hbS hBS hsN hsS hr0 hr1 hq0 hq1 hdr
       go_wp2_with fail
       refine bodyPost_ret (v := .tuple #[.agg #[.slice AN (vs).length cN, .slice AS (putAt n ls).length cS], .int .i64 0]) (by simp [results, Try.results36, go_sem, r0, r1]) rfl ?_
       rw [HRES.out]
       exact ⟨AN, cN, AS, cS, rfl, ((HO1.out.base2 (Nat.le_trans HB3.out.size (by assumption))).farB HRb.out (by decide) 0 _).farB HR2'.out (by decide) 1 _, ((HO2.out.base2 (Nat.le_trans HB3.out.size (by assumption))).farB HRb.out (by decide) 0 _).farB HR2'.out (by decide) 1 _, (HBF.out.setCell (p := ⟨w.heap.size + 1, 0, none⟩) (Nat.le_succ _) _).setCell (p := ⟨w.heap.size + 1, 1, none⟩) (Nat.le_succ _) _⟩
       done)
    | (skip
       have zS : w3.heap.size ≤ w3.drew.heap.size := Nat.le_refl _
       have zN : w3.heap.size ≤ wS.heap.size := hBS.size
       have hO1 := hsN
       have hO2 := hsS.below hbN
       have hRb := HR3.out.below hBN HR3.out.lt
       have hR2 := hRb.set_ 0 (.slice AN (vs).length cN)
       have hR3 := hR2.set_ 1 (.slice AS (putAt n ls).length cS)
       have r0 : ((wN.setCell ⟨w.heap.size + 1, 0, none⟩ (.slice AN (vs).length cN)).setCell ⟨w.heap.size + 1, 1, none⟩ (.slice AS (putAt n ls).length cS)).cell? ⟨w.heap.size + 1, 0, none⟩ = some (.slice AN (vs).length cN) := hR3.cell 0
       have r1 : ((wN.setCell ⟨w.heap.size + 1, 0, none⟩ (.slice AN (vs).length cN)).setCell ⟨w.heap.size + 1, 1, none⟩ (.slice AS (putAt n ls).length cS)).cell? ⟨w.heap.size + 1, 1, none⟩ = some (.slice AS (putAt n ls).length cS) := hR3.cell 1
       have hBf : Below w.heap.size w wN := HB3.out.trans (hBN.mono HB3.out.size)
       have HO1 := Lib.hid hO1; clear hO1
       have HO2 := Lib.hid hO2; clear hO2
       have HRb := Lib.hid hRb; clear hRb
       have HR2' := Lib.hid hR2; clear hR2 hR3
       have HBF := Lib.hid hBf; clear hBf hbN hBN hbS hBS hsN hsS hr0 hr1 hq0 hq1 hdr
       go_wp2_with fail
       refine bodyPost_ret (v := .tuple #[.agg #[.slice AN (vs).length cN, .slice AS (putAt n ls).length cS], .int .i64 0]) (by simp [results, Try.results36, go_sem, r0, r1]) rfl ?_
       rw [HRES.out]
       exact ⟨AN, cN, AS, cS, rfl, ((HO1.out.base2 (Nat.le_trans HB3.out.size (by assumption))).farB HRb.out (by decide) 0 _).farB HR2'.out (by decide) 1 _, ((HO2.out.base2 (Nat.le_trans HB3.out.size (by assumption))).farB HRb.out (by decide) 0 _).farB HR2'.out (by decide) 1 _, (HBF.out.setCell (p := ⟨w.heap.size + 1, 0, none⟩) (Nat.le_succ _) _).setCell (p := ⟨w.heap.size + 1, 1, none⟩) (Nat.le_succ _) _⟩
       done)
    )

set_option maxRecDepth 100000 in
set_option maxHeartbeats 2000000 in
theorem Next_2 {w : World} {A B : Option Addr} {c d : Nat} {vs ls : List Int} (h : CI w A vs B ls) (kind n : Int) (hk : kind = 2) (hr : rightB vs ls = true) (hn1 : ¬ n < 1) (hn7 : ¬ 7 < n) (hm : hasB ls n = true) :
    Calls Try.prog 36 #[.agg #[.slice A vs.length c, .slice B ls.length d], .int .i64 kind, .int .i64 n] w (NextPost (nextR vs ls kind n) w) := by
  subst hk
  have hres : nextR vs ls 2 n = (putAt n vs, without n ls, 0) := by unfold nextR; rw [if_neg (by rw [hr]; simp; omega), if_neg (by decide), if_pos rfl, if_neg (by rw [hm]; decide)]
  have HRES := Lib.hid hres; clear hres
  have HRT := Lib.hid hr; clear hr
  have HL := Lib.hid hm; clear hm
  have hl := h.v.len
  have hl2 := h.l.len
  obtain ⟨z, hz⟩ : ∃ z, z = hasB ls n := ⟨_, rfl⟩
  have HZ := Lib.hid hz; clear hz
  obtain ⟨p, hp⟩ : ∃ p, p = rightB vs ls := ⟨_, rfl⟩
  have HP := Lib.hid hp; clear hp
  have H := Lib.hid h; clear h
  go_enter Try.func36, Try.ntmps36
  go_upto_region 1 with fail
  obtain ⟨w1, hw1⟩ : ∃ x, x = (w.alloc (.cells #[.slice A vs.length c, .slice B ls.length d] 24)).alloc (.cells #[.slice none 0 0, .slice none 0 0] 24) := ⟨_, rfl⟩
  rw [← hw1]
  have hb1 : Below w.heap.size w w1 := by rw [hw1]; exact ((Below.refl _ _).alloc (Nat.le_refl _) _).alloc (by simp) _
  have hx1 : Blk w1 w.heap.size 24 #[.slice A vs.length c, .slice B ls.length d] := by rw [hw1]; exact (Blk.new_ w _ _).alloc _
  have hr1 : Blk w1 (w.heap.size + 1) 24 #[.slice none 0 0, .slice none 0 0] := by
    have := Blk.new_ (w.alloc (.cells #[.slice A vs.length c, .slice B ls.length d] 24)) 24 #[.slice none 0 0, .slice none 0 0]
    rw [World.size_alloc] at this; rw [hw1]; exact this
  have H1 := Lib.hid (H.out.below hb1)
  have HB1 := Lib.hid hb1
  have HX1 := Lib.hid hx1
  have HR1 := Lib.hid hr1
  have d0 : w1.cell? ⟨w.heap.size, 0, none⟩ = some (.slice A vs.length c) := hx1.cell 0
  have d1 : w1.cell? ⟨w.heap.size, 1, none⟩ = some (.slice B ls.length d) := hx1.cell 1
  clear hw1 hb1 hx1 hr1 H
  have hcon := Contains_any B d ls n w1 H1.out.l
  rw [← HZ.out] at hcon
  have HCON := Lib.hid hcon; clear hcon
  have hrg := Right_any (c := c) (d := d) H1.out
  rw [← HP.out] at hrg
  have HRG := Lib.hid hrg; clear hrg
  go_wp2_with fail
  (with_reducible refine HCON.out.mono ?_); rintro e w2 ⟨rfl, rfl⟩
  go_wp2_with fail
  (with_reducible refine HRG.out.mono ?_); rintro e w2 ⟨rfl, hb2⟩
  have H2 := Lib.hid (H1.out.below hb2)
  have HX2 := Lib.hid (HX1.out.below hb2 HX1.out.lt)
  have HR2 := Lib.hid (HR1.out.below hb2 HR1.out.lt)
  have HB2 : Hid (Below w.heap.size w w2) := HB1.out.trans (hb2.mono HB1.out.size)
  clear hb2 d0 d1 HX1 HR1 HCON HRG H1
  have d0 : w2.cell? ⟨w.heap.size, 0, none⟩ = some (.slice A vs.length c) := HX2.out.cell 0
  have d1 : w2.cell? ⟨w.heap.size, 1, none⟩ = some (.slice B ls.length d) := HX2.out.cell 1
  have hp : p = true := by rw [HP.out, HRT.out]
  subst hp
  have hz : z = true := by rw [HZ.out, HL.out]
  subst hz
  have r0 : w2.cell? ⟨w.heap.size + 1, 0, none⟩ = some (.slice none 0 0) := HR2.out.cell 0
  have r1 : w2.cell? ⟨w.heap.size + 1, 1, none⟩ = some (.slice none 0 0) := HR2.out.cell 1
  have q0 := HR2.out.free 0
  have q1 := HR2.out.free 1
  go_upto_region 13 with fail
  have hC1 : ∀ W, Below w2.heap.size w2 W → Calls Try.prog 75 #[.slice A vs.length c, .int .i64 n] W (Own2 w2 (putAt n vs) W) := fun W hb => (put_any A c vs n W (H2.out.v.below hb) (rise_pair (right_rise HRT.out).1) (by have := rise_small (right_rise HRT.out).1; omega)).mono fun _ _ h => own2_of hb h
  have hC2 : ∀ W, Below w2.heap.size w2 W → Calls Try.prog 76 #[.slice B ls.length d, .int .i64 n] W (Own2 w2 (without n ls) W) := fun W hb => (drop_any B d ls n W (H2.out.l.below hb) (by have := rise_small (right_rise HRT.out).2.1; omega)).mono fun _ _ h => own2_of hb h
  have HC1 := Lib.hid hC1; clear hC1
  have HC2 := Lib.hid hC2; clear hC2
  have hdr := below_drew0 w2
  have hr0 : ∀ W, Below w2.heap.size w2 W → W.cell? ⟨w.heap.size + 1, 0, none⟩ = some (.slice none 0 0) := fun W hb => (HR2.out.below hb HR2.out.lt).cell 0
  have hr1 : ∀ W, Below w2.heap.size w2 W → W.cell? ⟨w.heap.size + 1, 1, none⟩ = some (.slice none 0 0) := fun W hb => (HR2.out.below hb HR2.out.lt).cell 1
  have hq0 : ∀ W, Below w2.heap.size w2 W → W.frozen? ⟨w.heap.size + 1, 0, none⟩ = false := fun W hb => (HR2.out.below hb HR2.out.lt).free 0
  have hq1 : ∀ W, Below w2.heap.size w2 W → W.frozen? ⟨w.heap.size + 1, 1, none⟩ = false := fun W hb => (HR2.out.below hb HR2.out.lt).free 1
  clear r0 r1 q0 q1
  go_region_held3 (fun W => W.cell? ⟨w.heap.size, 0, none⟩ = some (.slice A vs.length c) ∧ W.cell? ⟨w.heap.size, 1, none⟩ = some (.slice B ls.length d)) (first | exact heldN HX2.out (by assumption) | exact heldN HX2.out (below_drewN (by assumption) _) | exact heldS HX2.out (by assumption) _ _)
    (first | (go_at_call 75; (with_reducible refine (HC1.out _ ?_).mono ?_); (assumption); rintro e wN ⟨AN, cN, rfl, hsN, hbN, hBN⟩)
           | (go_at_call 76; (with_reducible refine (HC2.out _ ?_).mono ?_); (assumption); rintro e wS ⟨AS, cS, rfl, hsS, hbS, hBS⟩))
  all_goals (first
    | (skip
       have zN : w2.heap.size ≤ w2.drew.heap.size := Nat.le_refl _
       have zS : w2.heap.size ≤ wN.heap.size := hBN.size
       have hO1 := hsN.below hbS
       have hO2 := hsS
       have hRb := HR2.out.below hBS HR2.out.lt
       have hR2 := hRb.set_ 0 (.slice AN (putAt n vs).length cN)
       have hR3 := hR2.set_ 1 (.slice AS (without n ls).length cS)
       have r0 : ((wS.setCell ⟨w.heap.size + 1, 0, none⟩ (.slice AN (putAt n vs).length cN)).setCell ⟨w.heap.size + 1, 1, none⟩ (.slice AS (without n ls).length cS)).cell? ⟨w.heap.size + 1, 0, none⟩ = some (.slice AN (putAt n vs).length cN) := hR3.cell 0
       have r1 : ((wS.setCell ⟨w.heap.size + 1, 0, none⟩ (.slice AN (putAt n vs).length cN)).setCell ⟨w.heap.size + 1, 1, none⟩ (.slice AS (without n ls).length cS)).cell? ⟨w.heap.size + 1, 1, none⟩ = some (.slice AS (without n ls).length cS) := hR3.cell 1
       have hBf : Below w.heap.size w wS := HB2.out.trans (hBS.mono HB2.out.size)
       have HO1 := Lib.hid hO1; clear hO1
       have HO2 := Lib.hid hO2; clear hO2
       have HRb := Lib.hid hRb; clear hRb
       have HR2' := Lib.hid hR2; clear hR2 hR3
       have HBF := Lib.hid hBf; clear hBf hbN hBN hbS hBS hsN hsS hr0 hr1 hq0 hq1 hdr
       go_wp2_with fail
       refine bodyPost_ret (v := .tuple #[.agg #[.slice AN (putAt n vs).length cN, .slice AS (without n ls).length cS], .int .i64 0]) (by simp [results, Try.results36, go_sem, r0, r1]) rfl ?_
       rw [HRES.out]
       exact ⟨AN, cN, AS, cS, rfl, ((HO1.out.base2 (Nat.le_trans HB2.out.size (by assumption))).farB HRb.out (by decide) 0 _).farB HR2'.out (by decide) 1 _, ((HO2.out.base2 (Nat.le_trans HB2.out.size (by assumption))).farB HRb.out (by decide) 0 _).farB HR2'.out (by decide) 1 _, (HBF.out.setCell (p := ⟨w.heap.size + 1, 0, none⟩) (Nat.le_succ _) _).setCell (p := ⟨w.heap.size + 1, 1, none⟩) (Nat.le_succ _) _⟩
       done)
    | (skip
       have zS : w2.heap.size ≤ w2.drew.heap.size := Nat.le_refl _
       have zN : w2.heap.size ≤ wS.heap.size := hBS.size
       have hO1 := hsN
       have hO2 := hsS.below hbN
       have hRb := HR2.out.below hBN HR2.out.lt
       have hR2 := hRb.set_ 0 (.slice AN (putAt n vs).length cN)
       have hR3 := hR2.set_ 1 (.slice AS (without n ls).length cS)
       have r0 : ((wN.setCell ⟨w.heap.size + 1, 0, none⟩ (.slice AN (putAt n vs).length cN)).setCell ⟨w.heap.size + 1, 1, none⟩ (.slice AS (without n ls).length cS)).cell? ⟨w.heap.size + 1, 0, none⟩ = some (.slice AN (putAt n vs).length cN) := hR3.cell 0
       have r1 : ((wN.setCell ⟨w.heap.size + 1, 0, none⟩ (.slice AN (putAt n vs).length cN)).setCell ⟨w.heap.size + 1, 1, none⟩ (.slice AS (without n ls).length cS)).cell? ⟨w.heap.size + 1, 1, none⟩ = some (.slice AS (without n ls).length cS) := hR3.cell 1
       have hBf : Below w.heap.size w wN := HB2.out.trans (hBN.mono HB2.out.size)
       have HO1 := Lib.hid hO1; clear hO1
       have HO2 := Lib.hid hO2; clear hO2
       have HRb := Lib.hid hRb; clear hRb
       have HR2' := Lib.hid hR2; clear hR2 hR3
       have HBF := Lib.hid hBf; clear hBf hbN hBN hbS hBS hsN hsS hr0 hr1 hq0 hq1 hdr
       go_wp2_with fail
       refine bodyPost_ret (v := .tuple #[.agg #[.slice AN (putAt n vs).length cN, .slice AS (without n ls).length cS], .int .i64 0]) (by simp [results, Try.results36, go_sem, r0, r1]) rfl ?_
       rw [HRES.out]
       exact ⟨AN, cN, AS, cS, rfl, ((HO1.out.base2 (Nat.le_trans HB2.out.size (by assumption))).farB HRb.out (by decide) 0 _).farB HR2'.out (by decide) 1 _, ((HO2.out.base2 (Nat.le_trans HB2.out.size (by assumption))).farB HRb.out (by decide) 0 _).farB HR2'.out (by decide) 1 _, (HBF.out.setCell (p := ⟨w.heap.size + 1, 0, none⟩) (Nat.le_succ _) _).setCell (p := ⟨w.heap.size + 1, 1, none⟩) (Nat.le_succ _) _⟩
       done)
    )

set_option maxRecDepth 100000 in
set_option maxHeartbeats 2000000 in
theorem Next_3a {w : World} {A B : Option Addr} {c d : Nat} {vs ls : List Int} (h : CI w A vs B ls) (kind n : Int) (hk : kind = 3) (hr : rightB vs ls = true) (hn1 : ¬ n < 1) (hn7 : ¬ 7 < n) (hm : (hasB vs n || hasB ls n) = true) (hl0 : hasB ls n = true) :
    Calls Try.prog 36 #[.agg #[.slice A vs.length c, .slice B ls.length d], .int .i64 kind, .int .i64 n] w (NextPost (nextR vs ls kind n) w) := by
  subst hk
  have hres : nextR vs ls 3 n = (without n vs, without n ls, 0) := by unfold nextR; rw [if_neg (by rw [hr]; simp; omega), if_neg (by decide), if_neg (by decide), if_neg (by rw [hm]; decide), if_neg (by rw [hl0]; simp)]
  have HRES := Lib.hid hres; clear hres
  have HRT := Lib.hid hr; clear hr
  have HM := Lib.hid hm; clear hm
  have HL := Lib.hid hl0; clear hl0
  have hl := h.v.len
  have hl2 := h.l.len
  obtain ⟨z, hz⟩ : ∃ z, z = hasB ls n := ⟨_, rfl⟩
  have HZ := Lib.hid hz; clear hz
  obtain ⟨p, hp⟩ : ∃ p, p = rightB vs ls := ⟨_, rfl⟩
  have HP := Lib.hid hp; clear hp
  have H := Lib.hid h; clear h
  go_enter Try.func36, Try.ntmps36
  go_upto_region 1 with fail
  obtain ⟨w1, hw1⟩ : ∃ x, x = (w.alloc (.cells #[.slice A vs.length c, .slice B ls.length d] 24)).alloc (.cells #[.slice none 0 0, .slice none 0 0] 24) := ⟨_, rfl⟩
  rw [← hw1]
  have hb1 : Below w.heap.size w w1 := by rw [hw1]; exact ((Below.refl _ _).alloc (Nat.le_refl _) _).alloc (by simp) _
  have hx1 : Blk w1 w.heap.size 24 #[.slice A vs.length c, .slice B ls.length d] := by rw [hw1]; exact (Blk.new_ w _ _).alloc _
  have hr1 : Blk w1 (w.heap.size + 1) 24 #[.slice none 0 0, .slice none 0 0] := by
    have := Blk.new_ (w.alloc (.cells #[.slice A vs.length c, .slice B ls.length d] 24)) 24 #[.slice none 0 0, .slice none 0 0]
    rw [World.size_alloc] at this; rw [hw1]; exact this
  have H1 := Lib.hid (H.out.below hb1)
  have HB1 := Lib.hid hb1
  have HX1 := Lib.hid hx1
  have HR1 := Lib.hid hr1
  have d0 : w1.cell? ⟨w.heap.size, 0, none⟩ = some (.slice A vs.length c) := hx1.cell 0
  have d1 : w1.cell? ⟨w.heap.size, 1, none⟩ = some (.slice B ls.length d) := hx1.cell 1
  clear hw1 hb1 hx1 hr1 H
  have hcon := Contains_any B d ls n w1 H1.out.l
  rw [← HZ.out] at hcon
  have HCON := Lib.hid hcon; clear hcon
  have hrg := Right_any (c := c) (d := d) H1.out
  rw [← HP.out] at hrg
  have HRG := Lib.hid hrg; clear hrg
  go_wp2_with fail
  (with_reducible refine HCON.out.mono ?_); rintro e w2 ⟨rfl, rfl⟩
  go_wp2_with fail
  (with_reducible refine HRG.out.mono ?_); rintro e w2 ⟨rfl, hb2⟩
  have H2 := Lib.hid (H1.out.below hb2)
  have HX2 := Lib.hid (HX1.out.below hb2 HX1.out.lt)
  have HR2 := Lib.hid (HR1.out.below hb2 HR1.out.lt)
  have HB2 : Hid (Below w.heap.size w w2) := HB1.out.trans (hb2.mono HB1.out.size)
  clear hb2 d0 d1 HX1 HR1 HCON HRG H1
  have d0 : w2.cell? ⟨w.heap.size, 0, none⟩ = some (.slice A vs.length c) := HX2.out.cell 0
  have d1 : w2.cell? ⟨w.heap.size, 1, none⟩ = some (.slice B ls.length d) := HX2.out.cell 1
  have hp : p = true := by rw [HP.out, HRT.out]
  subst hp
  have hz : z = true := by rw [HZ.out, HL.out]
  subst hz
  have hmb := Member_any (c := c) (d := d) H2.out n
  rw [HM.out] at hmb
  have HMB := Lib.hid hmb; clear hmb
  go_wp2_with fail
  (with_reducible refine HMB.out.mono ?_); rintro e w3 ⟨rfl, hb3⟩
  have H3 := Lib.hid (H2.out.below hb3)
  have HX3 := Lib.hid (HX2.out.below hb3 HX2.out.lt)
  have HR3 := Lib.hid (HR2.out.below hb3 HR2.out.lt)
  have HB3 : Hid (Below w.heap.size w w3) := HB2.out.trans (hb3.mono HB2.out.size)
  clear hb3 d0 d1
  have d0 : w3.cell? ⟨w.heap.size, 0, none⟩ = some (.slice A vs.length c) := HX3.out.cell 0
  have d1 : w3.cell? ⟨w.heap.size, 1, none⟩ = some (.slice B ls.length d) := HX3.out.cell 1
  clear HMB
  have r0 : w3.cell? ⟨w.heap.size + 1, 0, none⟩ = some (.slice none 0 0) := HR3.out.cell 0
  have r1 : w3.cell? ⟨w.heap.size + 1, 1, none⟩ = some (.slice none 0 0) := HR3.out.cell 1
  have q0 := HR3.out.free 0
  have q1 := HR3.out.free 1
  go_upto_region 14 with fail
  have hC1 : ∀ W, Below w3.heap.size w3 W → Calls Try.prog 76 #[.slice A vs.length c, .int .i64 n] W (Own2 w3 (without n vs) W) := fun W hb => (drop_any A c vs n W (H3.out.v.below hb) (by have := rise_small (right_rise HRT.out).1; omega)).mono fun _ _ h => own2_of hb h
  have hC2 : ∀ W, Below w3.heap.size w3 W → Calls Try.prog 76 #[.slice B ls.length d, .int .i64 n] W (Own2 w3 (without n ls) W) := fun W hb => (drop_any B d ls n W (H3.out.l.below hb) (by have := rise_small (right_rise HRT.out).2.1; omega)).mono fun _ _ h => own2_of hb h
  have HC1 := Lib.hid hC1; clear hC1
  have HC2 := Lib.hid hC2; clear hC2
  have hdr := below_drew0 w3
  have hr0 : ∀ W, Below w3.heap.size w3 W → W.cell? ⟨w.heap.size + 1, 0, none⟩ = some (.slice none 0 0) := fun W hb => (HR3.out.below hb HR3.out.lt).cell 0
  have hr1 : ∀ W, Below w3.heap.size w3 W → W.cell? ⟨w.heap.size + 1, 1, none⟩ = some (.slice none 0 0) := fun W hb => (HR3.out.below hb HR3.out.lt).cell 1
  have hq0 : ∀ W, Below w3.heap.size w3 W → W.frozen? ⟨w.heap.size + 1, 0, none⟩ = false := fun W hb => (HR3.out.below hb HR3.out.lt).free 0
  have hq1 : ∀ W, Below w3.heap.size w3 W → W.frozen? ⟨w.heap.size + 1, 1, none⟩ = false := fun W hb => (HR3.out.below hb HR3.out.lt).free 1
  clear r0 r1 q0 q1
  go_region_held3 (fun W => W.cell? ⟨w.heap.size, 0, none⟩ = some (.slice A vs.length c) ∧ W.cell? ⟨w.heap.size, 1, none⟩ = some (.slice B ls.length d)) (first | exact heldN HX3.out (by assumption) | exact heldN HX3.out (below_drewN (by assumption) _) | exact heldS HX3.out (by assumption) _ _)
    (first | (go_at_call 76; (with_reducible refine (HC1.out _ ?_).mono ?_); (assumption); rintro e wN ⟨AN, cN, rfl, hsN, hbN, hBN⟩)
           | (go_at_call 76; (with_reducible refine (HC2.out _ ?_).mono ?_); (assumption); rintro e wS ⟨AS, cS, rfl, hsS, hbS, hBS⟩))
  all_goals (first
    | (skip
       have zN : w3.heap.size ≤ w3.drew.heap.size := Nat.le_refl _
       have zS : w3.heap.size ≤ wN.heap.size := hBN.size
       have hO1 := hsN.below hbS
       have hO2 := hsS
       have hRb := HR3.out.below hBS HR3.out.lt
       have hR2 := hRb.set_ 0 (.slice AN (without n vs).length cN)
       have hR3 := hR2.set_ 1 (.slice AS (without n ls).length cS)
       have r0 : ((wS.setCell ⟨w.heap.size + 1, 0, none⟩ (.slice AN (without n vs).length cN)).setCell ⟨w.heap.size + 1, 1, none⟩ (.slice AS (without n ls).length cS)).cell? ⟨w.heap.size + 1, 0, none⟩ = some (.slice AN (without n vs).length cN) := hR3.cell 0
       have r1 : ((wS.setCell ⟨w.heap.size + 1, 0, none⟩ (.slice AN (without n vs).length cN)).setCell ⟨w.heap.size + 1, 1, none⟩ (.slice AS (without n ls).length cS)).cell? ⟨w.heap.size + 1, 1, none⟩ = some (.slice AS (without n ls).length cS) := hR3.cell 1
       have hBf : Below w.heap.size w wS := HB3.out.trans (hBS.mono HB3.out.size)
       have HO1 := Lib.hid hO1; clear hO1
       have HO2 := Lib.hid hO2; clear hO2
       have HRb := Lib.hid hRb; clear hRb
       have HR2' := Lib.hid hR2; clear hR2 hR3
       have HBF := Lib.hid hBf; clear hBf hbN hBN hbS hBS hsN hsS hr0 hr1 hq0 hq1 hdr
       go_wp2_with fail
       refine bodyPost_ret (v := .tuple #[.agg #[.slice AN (without n vs).length cN, .slice AS (without n ls).length cS], .int .i64 0]) (by simp [results, Try.results36, go_sem, r0, r1]) rfl ?_
       rw [HRES.out]
       exact ⟨AN, cN, AS, cS, rfl, ((HO1.out.base2 (Nat.le_trans HB3.out.size (by assumption))).farB HRb.out (by decide) 0 _).farB HR2'.out (by decide) 1 _, ((HO2.out.base2 (Nat.le_trans HB3.out.size (by assumption))).farB HRb.out (by decide) 0 _).farB HR2'.out (by decide) 1 _, (HBF.out.setCell (p := ⟨w.heap.size + 1, 0, none⟩) (Nat.le_succ _) _).setCell (p := ⟨w.heap.size + 1, 1, none⟩) (Nat.le_succ _) _⟩
       done)
    | (skip
       have zS : w3.heap.size ≤ w3.drew.heap.size := Nat.le_refl _
       have zN : w3.heap.size ≤ wS.heap.size := hBS.size
       have hO1 := hsN
       have hO2 := hsS.below hbN
       have hRb := HR3.out.below hBN HR3.out.lt
       have hR2 := hRb.set_ 0 (.slice AN (without n vs).length cN)
       have hR3 := hR2.set_ 1 (.slice AS (without n ls).length cS)
       have r0 : ((wN.setCell ⟨w.heap.size + 1, 0, none⟩ (.slice AN (without n vs).length cN)).setCell ⟨w.heap.size + 1, 1, none⟩ (.slice AS (without n ls).length cS)).cell? ⟨w.heap.size + 1, 0, none⟩ = some (.slice AN (without n vs).length cN) := hR3.cell 0
       have r1 : ((wN.setCell ⟨w.heap.size + 1, 0, none⟩ (.slice AN (without n vs).length cN)).setCell ⟨w.heap.size + 1, 1, none⟩ (.slice AS (without n ls).length cS)).cell? ⟨w.heap.size + 1, 1, none⟩ = some (.slice AS (without n ls).length cS) := hR3.cell 1
       have hBf : Below w.heap.size w wN := HB3.out.trans (hBN.mono HB3.out.size)
       have HO1 := Lib.hid hO1; clear hO1
       have HO2 := Lib.hid hO2; clear hO2
       have HRb := Lib.hid hRb; clear hRb
       have HR2' := Lib.hid hR2; clear hR2 hR3
       have HBF := Lib.hid hBf; clear hBf hbN hBN hbS hBS hsN hsS hr0 hr1 hq0 hq1 hdr
       go_wp2_with fail
       refine bodyPost_ret (v := .tuple #[.agg #[.slice AN (without n vs).length cN, .slice AS (without n ls).length cS], .int .i64 0]) (by simp [results, Try.results36, go_sem, r0, r1]) rfl ?_
       rw [HRES.out]
       exact ⟨AN, cN, AS, cS, rfl, ((HO1.out.base2 (Nat.le_trans HB3.out.size (by assumption))).farB HRb.out (by decide) 0 _).farB HR2'.out (by decide) 1 _, ((HO2.out.base2 (Nat.le_trans HB3.out.size (by assumption))).farB HRb.out (by decide) 0 _).farB HR2'.out (by decide) 1 _, (HBF.out.setCell (p := ⟨w.heap.size + 1, 0, none⟩) (Nat.le_succ _) _).setCell (p := ⟨w.heap.size + 1, 1, none⟩) (Nat.le_succ _) _⟩
       done)
    )

set_option maxRecDepth 100000 in
set_option maxHeartbeats 2000000 in
theorem Next_3b {w : World} {A B : Option Addr} {c d : Nat} {vs ls : List Int} (h : CI w A vs B ls) (kind n : Int) (hk : kind = 3) (hr : rightB vs ls = true) (hn1 : ¬ n < 1) (hn7 : ¬ 7 < n) (hm : (hasB vs n || hasB ls n) = true) (hl0 : hasB ls n = false) (hv1 : ¬ vs.length = 1) :
    Calls Try.prog 36 #[.agg #[.slice A vs.length c, .slice B ls.length d], .int .i64 kind, .int .i64 n] w (NextPost (nextR vs ls kind n) w) := by
  subst hk
  have hres : nextR vs ls 3 n = (without n vs, without n ls, 0) := by unfold nextR; rw [if_neg (by rw [hr]; simp; omega), if_neg (by decide), if_neg (by decide), if_neg (by rw [hm]; decide), if_neg (fun h2 => hv1 h2.2)]
  have HRES := Lib.hid hres; clear hres
  have HRT := Lib.hid hr; clear hr
  have HM := Lib.hid hm; clear hm
  have HL := Lib.hid hl0; clear hl0
  have hv2 : ((vs.length : Int) == 1) = false := by rw [beq_eq_false_iff_ne]; omega
  clear hv1
  have hl := h.v.len
  have hl2 := h.l.len
  obtain ⟨z, hz⟩ : ∃ z, z = hasB ls n := ⟨_, rfl⟩
  have HZ := Lib.hid hz; clear hz
  obtain ⟨p, hp⟩ : ∃ p, p = rightB vs ls := ⟨_, rfl⟩
  have HP := Lib.hid hp; clear hp
  have H := Lib.hid h; clear h
  go_enter Try.func36, Try.ntmps36
  go_upto_region 1 with fail
  obtain ⟨w1, hw1⟩ : ∃ x, x = (w.alloc (.cells #[.slice A vs.length c, .slice B ls.length d] 24)).alloc (.cells #[.slice none 0 0, .slice none 0 0] 24) := ⟨_, rfl⟩
  rw [← hw1]
  have hb1 : Below w.heap.size w w1 := by rw [hw1]; exact ((Below.refl _ _).alloc (Nat.le_refl _) _).alloc (by simp) _
  have hx1 : Blk w1 w.heap.size 24 #[.slice A vs.length c, .slice B ls.length d] := by rw [hw1]; exact (Blk.new_ w _ _).alloc _
  have hr1 : Blk w1 (w.heap.size + 1) 24 #[.slice none 0 0, .slice none 0 0] := by
    have := Blk.new_ (w.alloc (.cells #[.slice A vs.length c, .slice B ls.length d] 24)) 24 #[.slice none 0 0, .slice none 0 0]
    rw [World.size_alloc] at this; rw [hw1]; exact this
  have H1 := Lib.hid (H.out.below hb1)
  have HB1 := Lib.hid hb1
  have HX1 := Lib.hid hx1
  have HR1 := Lib.hid hr1
  have d0 : w1.cell? ⟨w.heap.size, 0, none⟩ = some (.slice A vs.length c) := hx1.cell 0
  have d1 : w1.cell? ⟨w.heap.size, 1, none⟩ = some (.slice B ls.length d) := hx1.cell 1
  clear hw1 hb1 hx1 hr1 H
  have hcon := Contains_any B d ls n w1 H1.out.l
  rw [← HZ.out] at hcon
  have HCON := Lib.hid hcon; clear hcon
  have hrg := Right_any (c := c) (d := d) H1.out
  rw [← HP.out] at hrg
  have HRG := Lib.hid hrg; clear hrg
  go_wp2_with fail
  (with_reducible refine HCON.out.mono ?_); rintro e w2 ⟨rfl, rfl⟩
  go_wp2_with fail
  (with_reducible refine HRG.out.mono ?_); rintro e w2 ⟨rfl, hb2⟩
  have H2 := Lib.hid (H1.out.below hb2)
  have HX2 := Lib.hid (HX1.out.below hb2 HX1.out.lt)
  have HR2 := Lib.hid (HR1.out.below hb2 HR1.out.lt)
  have HB2 : Hid (Below w.heap.size w w2) := HB1.out.trans (hb2.mono HB1.out.size)
  clear hb2 d0 d1 HX1 HR1 HCON HRG H1
  have d0 : w2.cell? ⟨w.heap.size, 0, none⟩ = some (.slice A vs.length c) := HX2.out.cell 0
  have d1 : w2.cell? ⟨w.heap.size, 1, none⟩ = some (.slice B ls.length d) := HX2.out.cell 1
  have hp : p = true := by rw [HP.out, HRT.out]
  subst hp
  have hz : z = false := by rw [HZ.out, HL.out]
  subst hz
  have hmb := Member_any (c := c) (d := d) H2.out n
  rw [HM.out] at hmb
  have HMB := Lib.hid hmb; clear hmb
  go_wp2_with fail
  (with_reducible refine HMB.out.mono ?_); rintro e w3 ⟨rfl, hb3⟩
  have H3 := Lib.hid (H2.out.below hb3)
  have HX3 := Lib.hid (HX2.out.below hb3 HX2.out.lt)
  have HR3 := Lib.hid (HR2.out.below hb3 HR2.out.lt)
  have HB3 : Hid (Below w.heap.size w w3) := HB2.out.trans (hb3.mono HB2.out.size)
  clear hb3 d0 d1
  have d0 : w3.cell? ⟨w.heap.size, 0, none⟩ = some (.slice A vs.length c) := HX3.out.cell 0
  have d1 : w3.cell? ⟨w.heap.size, 1, none⟩ = some (.slice B ls.length d) := HX3.out.cell 1
  clear HMB
  have r0 : w3.cell? ⟨w.heap.size + 1, 0, none⟩ = some (.slice none 0 0) := HR3.out.cell 0
  have r1 : w3.cell? ⟨w.heap.size + 1, 1, none⟩ = some (.slice none 0 0) := HR3.out.cell 1
  have q0 := HR3.out.free 0
  have q1 := HR3.out.free 1
  go_upto_region 14 with fail
  have hC1 : ∀ W, Below w3.heap.size w3 W → Calls Try.prog 76 #[.slice A vs.length c, .int .i64 n] W (Own2 w3 (without n vs) W) := fun W hb => (drop_any A c vs n W (H3.out.v.below hb) (by have := rise_small (right_rise HRT.out).1; omega)).mono fun _ _ h => own2_of hb h
  have hC2 : ∀ W, Below w3.heap.size w3 W → Calls Try.prog 76 #[.slice B ls.length d, .int .i64 n] W (Own2 w3 (without n ls) W) := fun W hb => (drop_any B d ls n W (H3.out.l.below hb) (by have := rise_small (right_rise HRT.out).2.1; omega)).mono fun _ _ h => own2_of hb h
  have HC1 := Lib.hid hC1; clear hC1
  have HC2 := Lib.hid hC2; clear hC2
  have hdr := below_drew0 w3
  have hr0 : ∀ W, Below w3.heap.size w3 W → W.cell? ⟨w.heap.size + 1, 0, none⟩ = some (.slice none 0 0) := fun W hb => (HR3.out.below hb HR3.out.lt).cell 0
  have hr1 : ∀ W, Below w3.heap.size w3 W → W.cell? ⟨w.heap.size + 1, 1, none⟩ = some (.slice none 0 0) := fun W hb => (HR3.out.below hb HR3.out.lt).cell 1
  have hq0 : ∀ W, Below w3.heap.size w3 W → W.frozen? ⟨w.heap.size + 1, 0, none⟩ = false := fun W hb => (HR3.out.below hb HR3.out.lt).free 0
  have hq1 : ∀ W, Below w3.heap.size w3 W → W.frozen? ⟨w.heap.size + 1, 1, none⟩ = false := fun W hb => (HR3.out.below hb HR3.out.lt).free 1
  clear r0 r1 q0 q1
  go_region_held3 (fun W => W.cell? ⟨w.heap.size, 0, none⟩ = some (.slice A vs.length c) ∧ W.cell? ⟨w.heap.size, 1, none⟩ = some (.slice B ls.length d)) (first | exact heldN HX3.out (by assumption) | exact heldN HX3.out (below_drewN (by assumption) _) | exact heldS HX3.out (by assumption) _ _)
    (first | (go_at_call 76; (with_reducible refine (HC1.out _ ?_).mono ?_); (assumption); rintro e wN ⟨AN, cN, rfl, hsN, hbN, hBN⟩)
           | (go_at_call 76; (with_reducible refine (HC2.out _ ?_).mono ?_); (assumption); rintro e wS ⟨AS, cS, rfl, hsS, hbS, hBS⟩))
  all_goals (first
    | (skip
       have zN : w3.heap.size ≤ w3.drew.heap.size := Nat.le_refl _
       have zS : w3.heap.size ≤ wN.heap.size := hBN.size
       have hO1 := hsN.below hbS
       have hO2 := hsS
       have hRb := HR3.out.below hBS HR3.out.lt
       have hR2 := hRb.set_ 0 (.slice AN (without n vs).length cN)
       have hR3 := hR2.set_ 1 (.slice AS (without n ls).length cS)
       have r0 : ((wS.setCell ⟨w.heap.size + 1, 0, none⟩ (.slice AN (without n vs).length cN)).setCell ⟨w.heap.size + 1, 1, none⟩ (.slice AS (without n ls).length cS)).cell? ⟨w.heap.size + 1, 0, none⟩ = some (.slice AN (without n vs).length cN) := hR3.cell 0
       have r1 : ((wS.setCell ⟨w.heap.size + 1, 0, none⟩ (.slice AN (without n vs).length cN)).setCell ⟨w.heap.size + 1, 1, none⟩ (.slice AS (without n ls).length cS)).cell? ⟨w.heap.size + 1, 1, none⟩ = some (.slice AS (without n ls).length cS) := hR3.cell 1
       have hBf : Below w.heap.size w wS := HB3.out.trans (hBS.mono HB3.out.size)
       have HO1 := Lib.hid hO1; clear hO1
       have HO2 := Lib.hid hO2; clear hO2
       have HRb := Lib.hid hRb; clear hRb
       have HR2' := Lib.hid hR2; clear hR2 hR3
       have HBF := Lib.hid hBf; clear hBf hbN hBN hbS hBS hsN hsS hr0 hr1 hq0 hq1 hdr
       go_wp2_with fail
       refine bodyPost_ret (v := .tuple #[.agg #[.slice AN (without n vs).length cN, .slice AS (without n ls).length cS], .int .i64 0]) (by simp [results, Try.results36, go_sem, r0, r1]) rfl ?_
       rw [HRES.out]
       exact ⟨AN, cN, AS, cS, rfl, ((HO1.out.base2 (Nat.le_trans HB3.out.size (by assumption))).farB HRb.out (by decide) 0 _).farB HR2'.out (by decide) 1 _, ((HO2.out.base2 (Nat.le_trans HB3.out.size (by assumption))).farB HRb.out (by decide) 0 _).farB HR2'.out (by decide) 1 _, (HBF.out.setCell (p := ⟨w.heap.size + 1, 0, none⟩) (Nat.le_succ _) _).setCell (p := ⟨w.heap.size + 1, 1, none⟩) (Nat.le_succ _) _⟩
       done)
    | (skip
       have zS : w3.heap.size ≤ w3.drew.heap.size := Nat.le_refl _
       have zN : w3.heap.size ≤ wS.heap.size := hBS.size
       have hO1 := hsN
       have hO2 := hsS.below hbN
       have hRb := HR3.out.below hBN HR3.out.lt
       have hR2 := hRb.set_ 0 (.slice AN (without n vs).length cN)
       have hR3 := hR2.set_ 1 (.slice AS (without n ls).length cS)
       have r0 : ((wN.setCell ⟨w.heap.size + 1, 0, none⟩ (.slice AN (without n vs).length cN)).setCell ⟨w.heap.size + 1, 1, none⟩ (.slice AS (without n ls).length cS)).cell? ⟨w.heap.size + 1, 0, none⟩ = some (.slice AN (without n vs).length cN) := hR3.cell 0
       have r1 : ((wN.setCell ⟨w.heap.size + 1, 0, none⟩ (.slice AN (without n vs).length cN)).setCell ⟨w.heap.size + 1, 1, none⟩ (.slice AS (without n ls).length cS)).cell? ⟨w.heap.size + 1, 1, none⟩ = some (.slice AS (without n ls).length cS) := hR3.cell 1
       have hBf : Below w.heap.size w wN := HB3.out.trans (hBN.mono HB3.out.size)
       have HO1 := Lib.hid hO1; clear hO1
       have HO2 := Lib.hid hO2; clear hO2
       have HRb := Lib.hid hRb; clear hRb
       have HR2' := Lib.hid hR2; clear hR2 hR3
       have HBF := Lib.hid hBf; clear hBf hbN hBN hbS hBS hsN hsS hr0 hr1 hq0 hq1 hdr
       go_wp2_with fail
       refine bodyPost_ret (v := .tuple #[.agg #[.slice AN (without n vs).length cN, .slice AS (without n ls).length cS], .int .i64 0]) (by simp [results, Try.results36, go_sem, r0, r1]) rfl ?_
       rw [HRES.out]
       exact ⟨AN, cN, AS, cS, rfl, ((HO1.out.base2 (Nat.le_trans HB3.out.size (by assumption))).farB HRb.out (by decide) 0 _).farB HR2'.out (by decide) 1 _, ((HO2.out.base2 (Nat.le_trans HB3.out.size (by assumption))).farB HRb.out (by decide) 0 _).farB HR2'.out (by decide) 1 _, (HBF.out.setCell (p := ⟨w.heap.size + 1, 0, none⟩) (Nat.le_succ _) _).setCell (p := ⟨w.heap.size + 1, 1, none⟩) (Nat.le_succ _) _⟩
       done)
    )

theorem Next_any {w : World} {A B : Option Addr} {c d : Nat} {vs ls : List Int} (h : CI w A vs B ls) (kind n : Int) :
    Calls Try.prog 36 #[.agg #[.slice A vs.length c, .slice B ls.length d], .int .i64 kind, .int .i64 n] w (NextPost (nextR vs ls kind n) w) := by
  cases hr : rightB vs ls with
  | false => exact Next_e0 h kind n hr
  | true =>
    by_cases h1 : kind < 1
    · exact Next_e1 h kind n hr h1
    by_cases h2 : 3 < kind
    · exact Next_e2 h kind n hr h1 h2
    by_cases h3 : n < 1
    · exact Next_e3 h kind n hr h1 h2 h3
    by_cases h4 : 7 < n
    · exact Next_e4 h kind n hr h1 h2 h3 h4
    by_cases k1 : kind = 1
    · cases hm : (hasB vs n || hasB ls n) with
      | true => exact Next_1e h kind n k1 hr h3 h4 hm
      | false => exact Next_1 h kind n k1 hr h3 h4 hm
    by_cases k2 : kind = 2
    · cases hm : hasB ls n with
      | false => exact Next_2e h kind n k2 hr h3 h4 hm
      | true => exact Next_2 h kind n k2 hr h3 h4 hm
    have k3 : kind = 3 := by omega
    cases hm : (hasB vs n || hasB ls n) with
    | false => exact Next_3e h kind n k3 hr h3 h4 hm
    | true =>
      cases hl : hasB ls n with
      | true => exact Next_3a h kind n k3 hr h3 h4 hm hl
      | false =>
        by_cases hv : vs.length = 1
        · exact Next_3l h kind n k3 hr h3 h4 hm hl hv
        · exact Next_3b h kind n k3 hr h3 h4 hm hl hv
end Go.Proofs.Ytilefofpfbgikaa
