/- Layer 8: which snapshots are right, both sides (printed by gen_sn.py). -/
import Derived.Test.YtfnmofoecehcfaaSnB
namespace Go.Proofs.Ytfnmofoecehcfaa
open Go Go.RowKit Go.Maps Go.Lib Mem Cf

def okNum (x : Int) : Bool := decide (x ≤ 1099511627776)
/-- is a snapshot right? -/
def snapB (x t : Int) (vs ls : List Int) (ds : List UInt8) : Bool := decide (1 ≤ x) && (okNum x && (decide (0 ≤ t) && (okNum t && (rconfB vs ls && decide (ds.length ≤ 32768)))))
/-- a snapshot's value -/
def snV (x t : Int) (A B D : Option Addr) (n a m b l d : Nat) : Value := .agg #[.int .i64 x, .int .i64 t, .slice A n a, .slice B m b, .slice D l d]
/-- a snapshot's parts -/
structure SnIn (w : World) (A : Option Addr) (vs : List Int) (B : Option Addr) (ls : List Int) (D : Option Addr) (ds : List UInt8) : Prop where
  v : Sl fI w A vs
  l : Sl fI w B ls
  d : Sl fB w D ds
theorem SnIn.below {w w' : World} {A B D : Option Addr} {vs ls : List Int} {ds : List UInt8} (h : SnIn w A vs B ls D ds) (hb : Below w.heap.size w w') : SnIn w' A vs B ls D ds := ⟨h.v.below hb, h.l.below hb, h.d.below hb⟩
set_option maxRecDepth 100000 in
set_option maxHeartbeats 2000000 in
theorem snright_any {w : World} {x t : Int} {A B D : Option Addr} {a b d : Nat} {vs ls : List Int} {ds : List UInt8} (h : SnIn w A vs B ls D ds) :
    Calls Try.prog 14 #[.agg #[.int .i64 x, .int .i64 t, .slice A vs.length a, .slice B ls.length b, .slice D ds.length d]] w (BoolB (snapB x t vs ls ds) w) := by
  have hmf : ∀ (fn : Fn) (first cap : Array Value) (w : World), (Instr.makeFunc fn first cap).run Try.prog w = .ok (.func fn first cap) w := fun _ _ _ _ => rfl
  have hlv := h.v.len
  have hll := h.l.len
  have hld := h.d.len
  have H := Lib.hid h; clear h
  obtain ⟨p1, hp1⟩ : ∃ p, p = decide (1 ≤ x) := ⟨_, rfl⟩
  obtain ⟨p2, hp2⟩ : ∃ p, p = decide (x ≤ 1099511627776) := ⟨_, rfl⟩
  obtain ⟨p3, hp3⟩ : ∃ p, p = decide (0 ≤ t) := ⟨_, rfl⟩
  obtain ⟨p4, hp4⟩ : ∃ p, p = decide (t ≤ 1099511627776) := ⟨_, rfl⟩
  obtain ⟨p8, hp8⟩ : ∃ p, p = decide (ds.length ≤ 32768) := ⟨_, rfl⟩
  obtain ⟨p5, hp5⟩ : ∃ p, p = riseB vs := ⟨_, rfl⟩
  obtain ⟨p6, hp6⟩ : ∃ p, p = riseB ls := ⟨_, rfl⟩
  obtain ⟨p7, hp7⟩ : ∃ p, p = anyB vs ls := ⟨_, rfl⟩
  have hres : snapB x t vs ls ds = (p1 && (p2 && (p3 && (p4 && (p5 && (p6 && (!p7 && p8))))))) := by
    unfold snapB okNum; rw [hp1, hp2, hp3, hp4, hp8, hp5, hp6, hp7]; unfold rconfB; rw [apart_any]; simp [Bool.and_assoc]
  rw [hres]
  clear hres
  have t1 : decide (1 ≤ x) = p1 := hp1.symm
  have t2 : decide (x ≤ 1099511627776) = p2 := hp2.symm
  have t3 : decide (0 ≤ t) = p3 := hp3.symm
  have t4 : decide (t ≤ 1099511627776) = p4 := hp4.symm
  have t8 : decide (ds.length ≤ 32768) = p8 := hp8.symm
  have t8' : decide ((ds.length : Int) ≤ 32768) = p8 := by rw [hp8]; congr 1; rw [eq_iff_iff]; omega
  clear hp1 hp2 hp3 hp4 hp8
  have HP5 := Lib.hid hp5; clear hp5
  have HP6 := Lib.hid hp6; clear hp6
  have HP7 := Lib.hid hp7; clear hp7
  go_enter Try.func14, Try.ntmps14
  go_upto_region 1 with fail
  obtain ⟨w1, hw1⟩ : ∃ x', x' = w.alloc (.cells #[.int .i64 x, .int .i64 t, .slice A vs.length a, .slice B ls.length b, .slice D ds.length d] 27) := ⟨_, rfl⟩
  rw [← hw1]
  have hb1 : Below w.heap.size w w1 := by rw [hw1]; exact (Below.refl _ _).alloc (Nat.le_refl _) _
  have hx1 : Blk w1 w.heap.size 27 #[.int .i64 x, .int .i64 t, .slice A vs.length a, .slice B ls.length b, .slice D ds.length d] := by rw [hw1]; exact Blk.new_ w _ _
  have H1 := Lib.hid (H.out.below hb1)
  have HB1 := Lib.hid hb1
  have HX1 := Lib.hid hx1
  have c0 : w1.cell? ⟨w.heap.size, 0, none⟩ = some (.int .i64 x) := hx1.cell 0
  have c1 : w1.cell? ⟨w.heap.size, 1, none⟩ = some (.int .i64 t) := hx1.cell 1
  have c2 : w1.cell? ⟨w.heap.size, 2, none⟩ = some (.slice A vs.length a) := hx1.cell 2
  have c3 : w1.cell? ⟨w.heap.size, 3, none⟩ = some (.slice B ls.length b) := hx1.cell 3
  have c4 : w1.cell? ⟨w.heap.size, 4, none⟩ = some (.slice D ds.length d) := hx1.cell 4
  clear hw1 hb1 hx1
  have hr1 := members_any A a vs w1 H1.out.v
  rw [← HP5.out] at hr1
  have HR1 := Lib.hid hr1; clear hr1
  have hr2 := members_any B b ls w1 H1.out.l
  rw [← HP6.out] at hr2
  have HR2 := Lib.hid hr2; clear hr2
  have hr3 := ContainsFunc_both A a vs w1 H1.out.v w.heap.size B b ls (HX1.out.cell 3) H1.out.l
  rw [← HP7.out] at hr3
  have HR3 := Lib.hid hr3; clear hr3
  cases p1 with
  | false =>
    go_wp2_with (first | (go_at_call 31; (with_reducible refine HR1.out.mono ?_); rintro e w2 ⟨rfl, rfl⟩) | (go_at_call 31; (with_reducible refine HR2.out.mono ?_); rintro e w2 ⟨rfl, rfl⟩) | (go_at_call 32; (with_reducible refine HR3.out.mono ?_); rintro e w2 ⟨rfl, rfl⟩))
    go_ret
    exact ⟨ret_bool (by simp), HB1.out⟩
  | true =>
    cases p2 with
    | false =>
      go_wp2_with (first | (go_at_call 31; (with_reducible refine HR1.out.mono ?_); rintro e w2 ⟨rfl, rfl⟩) | (go_at_call 31; (with_reducible refine HR2.out.mono ?_); rintro e w2 ⟨rfl, rfl⟩) | (go_at_call 32; (with_reducible refine HR3.out.mono ?_); rintro e w2 ⟨rfl, rfl⟩))
      go_ret
      exact ⟨ret_bool (by simp), HB1.out⟩
    | true =>
      cases p3 with
      | false =>
        go_wp2_with (first | (go_at_call 31; (with_reducible refine HR1.out.mono ?_); rintro e w2 ⟨rfl, rfl⟩) | (go_at_call 31; (with_reducible refine HR2.out.mono ?_); rintro e w2 ⟨rfl, rfl⟩) | (go_at_call 32; (with_reducible refine HR3.out.mono ?_); rintro e w2 ⟨rfl, rfl⟩))
        go_ret
        exact ⟨ret_bool (by simp), HB1.out⟩
      | true =>
        cases p4 with
        | false =>
          go_wp2_with (first | (go_at_call 31; (with_reducible refine HR1.out.mono ?_); rintro e w2 ⟨rfl, rfl⟩) | (go_at_call 31; (with_reducible refine HR2.out.mono ?_); rintro e w2 ⟨rfl, rfl⟩) | (go_at_call 32; (with_reducible refine HR3.out.mono ?_); rintro e w2 ⟨rfl, rfl⟩))
          go_ret
          exact ⟨ret_bool (by simp), HB1.out⟩
        | true =>
          cases p5 with
          | false =>
            go_wp2_with (first | (go_at_call 31; (with_reducible refine HR1.out.mono ?_); rintro e w2 ⟨rfl, rfl⟩) | (go_at_call 31; (with_reducible refine HR2.out.mono ?_); rintro e w2 ⟨rfl, rfl⟩) | (go_at_call 32; (with_reducible refine HR3.out.mono ?_); rintro e w2 ⟨rfl, rfl⟩))
            go_ret
            exact ⟨ret_bool (by simp), HB1.out⟩
          | true =>
            cases p6 with
            | false =>
              go_wp2_with (first | (go_at_call 31; (with_reducible refine HR1.out.mono ?_); rintro e w2 ⟨rfl, rfl⟩) | (go_at_call 31; (with_reducible refine HR2.out.mono ?_); rintro e w2 ⟨rfl, rfl⟩) | (go_at_call 32; (with_reducible refine HR3.out.mono ?_); rintro e w2 ⟨rfl, rfl⟩))
              go_ret
              exact ⟨ret_bool (by simp), HB1.out⟩
            | true =>
              cases p7 with
              | true =>
                go_wp2_with (first | (go_at_call 31; (with_reducible refine HR1.out.mono ?_); rintro e w2 ⟨rfl, rfl⟩) | (go_at_call 31; (with_reducible refine HR2.out.mono ?_); rintro e w2 ⟨rfl, rfl⟩) | (go_at_call 32; (with_reducible refine HR3.out.mono ?_); rintro e w2 ⟨rfl, rfl⟩))
                go_ret
                exact ⟨ret_bool (by simp), HB1.out⟩
              | false =>
                go_wp2_with (first | (go_at_call 31; (with_reducible refine HR1.out.mono ?_); rintro e w2 ⟨rfl, rfl⟩) | (go_at_call 31; (with_reducible refine HR2.out.mono ?_); rintro e w2 ⟨rfl, rfl⟩) | (go_at_call 32; (with_reducible refine HR3.out.mono ?_); rintro e w2 ⟨rfl, rfl⟩))
                go_ret
                exact ⟨ret_bool (by simp), HB1.out⟩
set_option maxRecDepth 100000 in
set_option maxHeartbeats 2000000 in
theorem RSnRight_any {w : World} {x t : Int} {A B D : Option Addr} {a b d : Nat} {vs ls : List Int} {ds : List UInt8} (h : SnIn w A vs B ls D ds) :
    Calls Try.prog 7 #[.agg #[.int .i64 x, .int .i64 t, .slice A vs.length a, .slice B ls.length b, .slice D ds.length d]] w (BoolB (snapB x t vs ls ds) w) := by
  have hmf : ∀ (fn : Fn) (first cap : Array Value) (w : World), (Instr.makeFunc fn first cap).run Try.prog w = .ok (.func fn first cap) w := fun _ _ _ _ => rfl
  have hlv := h.v.len
  have hll := h.l.len
  have hld := h.d.len
  have H := Lib.hid h; clear h
  obtain ⟨p1, hp1⟩ : ∃ p, p = decide (1 ≤ x) := ⟨_, rfl⟩
  obtain ⟨p2, hp2⟩ : ∃ p, p = decide (x ≤ 1099511627776) := ⟨_, rfl⟩
  obtain ⟨p3, hp3⟩ : ∃ p, p = decide (0 ≤ t) := ⟨_, rfl⟩
  obtain ⟨p4, hp4⟩ : ∃ p, p = decide (t ≤ 1099511627776) := ⟨_, rfl⟩
  obtain ⟨p8, hp8⟩ : ∃ p, p = decide (ds.length ≤ 32768) := ⟨_, rfl⟩
  obtain ⟨p5, hp5⟩ : ∃ p, p = rconfB vs ls := ⟨_, rfl⟩
  have hres : snapB x t vs ls ds = (p1 && (p2 && (p3 && (p4 && (p5 && p8))))) := by
    unfold snapB okNum; rw [hp1, hp2, hp3, hp4, hp8, hp5]
  rw [hres]
  clear hres
  have t1 : decide (1 ≤ x) = p1 := hp1.symm
  have t2 : decide (x ≤ 1099511627776) = p2 := hp2.symm
  have t3 : decide (0 ≤ t) = p3 := hp3.symm
  have t4 : decide (t ≤ 1099511627776) = p4 := hp4.symm
  have t8 : decide (ds.length ≤ 32768) = p8 := hp8.symm
  have t8' : decide ((ds.length : Int) ≤ 32768) = p8 := by rw [hp8]; congr 1; rw [eq_iff_iff]; omega
  clear hp1 hp2 hp3 hp4 hp8
  have HP5 := Lib.hid hp5; clear hp5
  go_enter Try.func7, Try.ntmps7
  go_upto_region 1 with fail
  obtain ⟨w1, hw1⟩ : ∃ x', x' = w.alloc (.cells #[.int .i64 x, .int .i64 t, .slice A vs.length a, .slice B ls.length b, .slice D ds.length d] 33) := ⟨_, rfl⟩
  rw [← hw1]
  have hb1 : Below w.heap.size w w1 := by rw [hw1]; exact (Below.refl _ _).alloc (Nat.le_refl _) _
  have hx1 : Blk w1 w.heap.size 33 #[.int .i64 x, .int .i64 t, .slice A vs.length a, .slice B ls.length b, .slice D ds.length d] := by rw [hw1]; exact Blk.new_ w _ _
  have H1 := Lib.hid (H.out.below hb1)
  have HB1 := Lib.hid hb1
  have HX1 := Lib.hid hx1
  have c0 : w1.cell? ⟨w.heap.size, 0, none⟩ = some (.int .i64 x) := hx1.cell 0
  have c1 : w1.cell? ⟨w.heap.size, 1, none⟩ = some (.int .i64 t) := hx1.cell 1
  have c2 : w1.cell? ⟨w.heap.size, 2, none⟩ = some (.slice A vs.length a) := hx1.cell 2
  have c3 : w1.cell? ⟨w.heap.size, 3, none⟩ = some (.slice B ls.length b) := hx1.cell 3
  have c4 : w1.cell? ⟨w.heap.size, 4, none⟩ = some (.slice D ds.length d) := hx1.cell 4
  clear hw1 hb1 hx1
  have hr1 := RRightConf_any (c := a) (d := b) (CI.mk H1.out.v H1.out.l)
  rw [← HP5.out] at hr1
  have HR1 := Lib.hid hr1; clear hr1
  cases p1 with
  | false =>
    go_wp2_with fail
    go_ret
    exact ⟨ret_bool (by simp), HB1.out⟩
  | true =>
    cases p2 with
    | false =>
      go_wp2_with fail
      go_ret
      exact ⟨ret_bool (by simp), HB1.out⟩
    | true =>
      cases p3 with
      | false =>
        go_wp2_with fail
        go_ret
        exact ⟨ret_bool (by simp), HB1.out⟩
      | true =>
        cases p4 with
        | false =>
          go_wp2_with fail
          go_ret
          exact ⟨ret_bool (by simp), HB1.out⟩
        | true =>
          go_wp2_with fail
          (with_reducible refine HR1.out.mono ?_); rintro e w2 ⟨rfl, hb2⟩
          have hx2 := HX1.out.below hb2 HX1.out.lt
          have e4 : w2.cell? ⟨w.heap.size, 4, none⟩ = some (.slice D ds.length d) := hx2.cell 4
          have HB2 : Hid (Below w.heap.size w w2) := HB1.out.trans (hb2.mono HB1.out.size)
          clear hb2 hx2 c0 c1 c2 c3 c4
          cases p5 with
          | false =>
            go_wp2_with fail
            go_ret
            exact ⟨ret_bool (by simp), HB2.out⟩
          | true =>
            go_wp2_with fail
            go_ret
            exact ⟨ret_bool (by simp), HB2.out⟩
end Go.Proofs.Ytfnmofoecehcfaa
