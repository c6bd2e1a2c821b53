/- Layer 8: the laws' own words on snapshots: of, Same, coding. -/
import Derived.Lib.SlBytesConst
import Derived.Test.YtfpomllhkbbipaaGreatDoorGAo
namespace Go.Proofs.YtfpomllhkbbipaaGreatDoor
open Go Go.RowKit Go.Maps Go.Lib Mem Pk Cf
def OfW (v : Value) (wl : World) (e : Ending) (w' : World) : Prop := e = .returned v ∧ Below wl.heap.size wl w'
set_option maxRecDepth 100000 in
theorem of_any {w : World} {x t : Int} {A B D : Option Addr} {n a m b l d : Nat} :
 Calls Tryz.prog 13 #[.agg #[.int .i64 x, .int .i64 t, .slice A n a, .slice B m b, .slice D l d]] w (OfW (.agg #[.int .i64 x, .int .i64 t, .slice A n a, .slice B m b, .slice D l d]) w) := by
 go_enter Tryz.func13, Tryz.ntmps13
 go_wp2_with fail
 refine bodyPost_ret (v := .agg #[.int .i64 x, .int .i64 t, .slice A n a, .slice B m b, .slice D l d]) (by simp [results, Tryz.results13, go_sem]) rfl ?_
 exact ⟨rfl, ((Below.refl _ _).alloc (Nat.le_refl _) _).alloc (by simp) _⟩
def sameB (s s' : SnT) : Bool := decide (s.x = s'.x) && (decide (s.t = s'.t) && (decide (s.vs = s'.vs) && (decide (s.ls = s'.ls) && decide (s.ds = s'.ds))))
theorem sameB_self (s : SnT) : sameB s s = true := by unfold sameB; simp
set_option maxRecDepth 100000 in
set_option maxHeartbeats 2000000 in
theorem Same_any {w : World} {x t x' t' : Int} {A B D A' B' D' : Option Addr} {a b d a' b' d' : Nat} {vs ls vs' ls' : List Int} {ds ds' : List UInt8} (h : SnIn w A vs B ls D ds) (h' : SnIn w A' vs' B' ls' D' ds') :
 Calls Tryz.prog 19 #[.agg #[.int .i64 x, .int .i64 t, .slice A vs.length a, .slice B ls.length b, .slice D ds.length d], .agg #[.int .i64 x', .int .i64 t', .slice A' vs'.length a', .slice B' ls'.length b', .slice D' ds'.length d']] w
  (BoolB (sameB ⟨x, t, vs, ls, ds⟩ ⟨x', t', vs', ls', ds'⟩) w) := by
 obtain ⟨w1, hw1⟩ : ∃ z, z = (w.alloc (.cells #[.int .i64 x, .int .i64 t, .slice A vs.length a, .slice B ls.length b, .slice D ds.length d] 38)).alloc (.cells #[.int .i64 x', .int .i64 t', .slice A' vs'.length a', .slice B' ls'.length b', .slice D' ds'.length d'] 38) := ⟨_, rfl⟩
 have hb1 : Below w.heap.size w w1 := by rw [hw1]; exact ((Below.refl _ _).alloc (Nat.le_refl _) _).alloc (by simp) _
 have hx1 : Blk w1 w.heap.size 38 #[.int .i64 x, .int .i64 t, .slice A vs.length a, .slice B ls.length b, .slice D ds.length d] := by rw [hw1]; exact (Blk.new_ w _ _).alloc _
 have hy1 : Blk w1 (w.heap.size + 1) 38 #[.int .i64 x', .int .i64 t', .slice A' vs'.length a', .slice B' ls'.length b', .slice D' ds'.length d'] := by
  rw [hw1]
  have := Blk.new_ (w.alloc (.cells #[.int .i64 x, .int .i64 t, .slice A vs.length a, .slice B ls.length b, .slice D ds.length d] 38)) 38 #[.int .i64 x', .int .i64 t', .slice A' vs'.length a', .slice B' ls'.length b', .slice D' ds'.length d']
  rw [World.size_alloc] at this
  exact this
 have H := Lib.hid (h.below hb1); clear h
 have H' := Lib.hid (h'.below hb1); clear h'
 have HB1 := Lib.hid hb1; clear hb1
 have HX1 := Lib.hid hx1; clear hx1
 have HY1 := Lib.hid hy1; clear hy1
 have HW1 := Lib.hid hw1; clear hw1
 obtain ⟨p, hp⟩ : ∃ p, p = sameB ⟨x, t, vs, ls, ds⟩ ⟨x', t', vs', ls', ds'⟩ := ⟨_, rfl⟩
 rw [← hp]
 unfold sameB at hp
 simp only at hp
 have HP := Lib.hid hp; clear hp
 go_enter Tryz.func19, Tryz.ntmps19
 go_upto_region 1 with fail
 rw [← HW1.out]
 clear HW1
 obtain ⟨d0, d1, d2, d3, d4⟩ := held5 HX1.out (Below.refl _ _)
 obtain ⟨c0, c1, c2, c3, c4⟩ := held5 HY1.out (Below.refl _ _)
 by_cases e0 : x = x'
 ·have t0 : (x == x') = true := by rw [beq_iff_eq]; exact e0
  rw [decide_eq_true e0, Bool.true_and] at HP
  clear e0
  by_cases e1 : t = t'
  ·have t1 : (t == t') = true := by rw [beq_iff_eq]; exact e1
   rw [decide_eq_true e1, Bool.true_and] at HP
   clear e1
   have HV := Lib.hid (SameInts_any A A' a a' vs vs' w1 H.out.v H'.out.v)
   obtain ⟨pv, hpv⟩ : ∃ z, z = decide (vs = vs') := ⟨_, rfl⟩
   rw [← hpv] at HV HP
   clear hpv
   go_wp2_with fail
   (with_reducible refine HV.out.mono ?_); rintro e w2 ⟨rfl, m2, rfl⟩
   cases pv with
   | false =>
     go_wp2_with fail
     go_ret
     obtain rfl : p = false := HP.out
     exact ⟨rfl, below_drewN HB1.out _⟩
   | true =>
     rw [Bool.true_and] at HP
     have HL := Lib.hid (SameInts_any B B' b b' ls ls' (w1.drewN m2) (H.out.l.drewN m2) (H'.out.l.drewN m2))
     obtain ⟨pl, hpl⟩ : ∃ z, z = decide (ls = ls') := ⟨_, rfl⟩
     rw [← hpl] at HL HP
     clear hpl
     go_wp2_with fail
     (with_reducible refine HL.out.mono ?_); rintro e w3 ⟨rfl, m3, rfl⟩
     rw [World.drewN_drewN]
     cases pl with
     | false =>
       go_wp2_with fail
       go_ret
       obtain rfl : p = false := HP.out
       exact ⟨rfl, below_drewN HB1.out _⟩
     | true =>
       rw [Bool.true_and] at HP
       have HD := Lib.hid (SameBytes_any D D' d d' ds ds' (w1.drewN (m2 + m3)) (H.out.d.drewN _) (H'.out.d.drewN _))
       obtain ⟨pd, hpd⟩ : ∃ z, z = decide (ds = ds') := ⟨_, rfl⟩
       rw [← hpd] at HD HP
       clear hpd
       go_wp2_with fail
       (with_reducible refine HD.out.mono ?_); rintro e w4 ⟨rfl, m4, rfl⟩
       go_wp2_with fail
       go_ret
       obtain rfl : p = pd := HP.out
       exact ⟨rfl, below_drewN HB1.out _⟩
  ·have t1 : (t == t') = false := by rw [beq_eq_false_iff_ne]; exact e1
   rw [decide_eq_false e1] at HP
   clear e1
   go_wp2_with fail
   go_ret
   obtain rfl : p = false := HP.out
   exact ⟨rfl, HB1.out⟩
 ·have t0 : (x == x') = false := by rw [beq_eq_false_iff_ne]; exact e0
  rw [decide_eq_false e0] at HP
  clear e0
  go_wp2_with fail
  go_ret
  obtain rfl : p = false := HP.out
  exact ⟨rfl, HB1.out⟩
def sX : SnT := ⟨3, 1, [1, 2], [], [120]⟩
theorem sX_right : snapB sX.x sX.t sX.vs sX.ls sX.ds = true := by decide
set_option maxRecDepth 100000 in
set_option maxHeartbeats 4000000 in
theorem coding_any {w : World} : Calls Tryz.prog 26 #[] w (BoolB true w) := by
 obtain ⟨w1, hw1⟩ : ∃ z, z = ((w.alloc (.cells #[.int .i64 1, .int .i64 2] 3)).alloc (.cells #[.int .u8 120] 5 (1, 2))).alloc (.cells #[.int .i64 3, .int .i64 1, .slice (some ⟨w.heap.size, 0, none⟩) 2 2, .slice none 0 0, .slice (some ⟨w.heap.size + 1, 0, none⟩) 1 1] 43) := ⟨_, rfl⟩
 have hb1 : Below w.heap.size w w1 := by rw [hw1]; exact (((Below.refl _ _).alloc (Nat.le_refl _) _).alloc (by simp) _).alloc (by simp; omega) _
 have hv1 : Sl fI w1 (some ⟨w.heap.size, 0, none⟩) [1, 2] := by
  rw [hw1]
  have h1 : Sl fI (w.alloc (.cells #[.int .i64 1, .int .i64 2] 3)) (some ⟨w.heap.size, 0, none⟩) [1, 2] := Sl.lit (f := fI) (t := 3) [1, 2] (by unfold maxLen; decide)
  exact h1.below (((Below.refl _ _).alloc (Nat.le_refl _) _).alloc (by simp) _)
 have hd1 : Sl fB w1 (some ⟨w.heap.size + 1, 0, none⟩) [120] := by
  rw [hw1]
  have h1 : Sl fB ((w.alloc (.cells #[.int .i64 1, .int .i64 2] 3)).alloc (.cells #[.int .u8 120] 5 (1, 2))) (some ⟨w.heap.size + 1, 0, none⟩) [120] :=
   ⟨by unfold maxLen; decide, fun _ => ⟨_, _, rfl, fun j hj => by
    obtain rfl : j = 0 := by simp at hj; omega
    have h9 := heap_alloc_new (w.alloc (.cells #[.int .i64 1, .int .i64 2] 3)) (.cells #[.int .u8 120] 5 (1, 2))
    rw [World.size_alloc] at h9
    unfold World.cell?
    simp only [h9]
    rfl⟩⟩
  exact h1.below ((Below.refl _ _).alloc (Nat.le_refl _) _)
 have hx1 : Blk w1 (w.heap.size + 2) 43 #[.int .i64 3, .int .i64 1, .slice (some ⟨w.heap.size, 0, none⟩) 2 2, .slice none 0 0, .slice (some ⟨w.heap.size + 1, 0, none⟩) 1 1] := by
  rw [hw1]
  have h1 := Blk.new_ ((w.alloc (.cells #[.int .i64 1, .int .i64 2] 3)).alloc (.cells #[.int .u8 120] 5 (1, 2))) 43 #[.int .i64 3, .int .i64 1, .slice (some ⟨w.heap.size, 0, none⟩) 2 2, .slice none 0 0, .slice (some ⟨w.heap.size + 1, 0, none⟩) 1 1]
  rw [World.size_alloc, World.size_alloc] at h1
  exact h1
 have hin : SnIn w1 (some ⟨w.heap.size, 0, none⟩) [1, 2] none [] (some ⟨w.heap.size + 1, 0, none⟩) [120] := ⟨hv1, Sl.nil, hd1⟩
 obtain ⟨P1, hP1⟩ : ∃ P : Option Addr, P = some ⟨w.heap.size, 0, none⟩ := ⟨_, rfl⟩
 obtain ⟨P2, hP2⟩ : ∃ P : Option Addr, P = some ⟨w.heap.size + 1, 0, none⟩ := ⟨_, rfl⟩
 obtain ⟨out, hout⟩ : ∃ z, z = snB 3 1 [1, 2] [] [120] := ⟨_, rfl⟩
 have hby := SBytes_yes (x := 3) (t := 1) (a := 2) (b := 0) (d := 1) hin (by decide) sX_right
 rw [← hout] at hby
 simp only [List.length_cons, List.length_nil, Nat.zero_add, Nat.reduceAdd] at hby
 have hrd : readS out = some sX := readS_iff.2 ⟨sX_right, hout⟩
 have HOUT := Lib.hid hout; clear hout
 rw [← hP1, ← hP2] at hx1 hin
 rw [← hP1, ← hP2] at hby
 rw [← hP1, ← hP2] at hw1
 have HP1 := Lib.hid hP1; clear hP1
 have HP2 := Lib.hid hP2; clear hP2
 have HBY := Lib.hid hby; clear hby
 have HRD := Lib.hid hrd; clear hrd
 have HIN := Lib.hid hin; clear hin
 have HX1 := Lib.hid hx1; clear hx1
 have HB1 := Lib.hid hb1; clear hb1
 have HW1 := Lib.hid hw1; clear hw1
 clear hv1 hd1
 have kc : (convert 36 36 (.slice (some ⟨w.heap.size + 1, 0, none⟩) 1 1)).run Tryz.prog ((w.alloc (.cells #[.int .i64 1, .int .i64 2] 3)).alloc (.cells #[.int .u8 120] 5)) = .ok (.slice (some ⟨w.heap.size + 1, 0, none⟩) 1 1) ((w.alloc (.cells #[.int .i64 1, .int .i64 2] 3)).alloc (.cells #[.int .u8 120] 5 (1, 2))) := by
  have h9 := Lib.run_convert_bytes_const (P := Tryz.prog) (w.alloc (.cells #[.int .i64 1, .int .i64 2] 3)) 36 5 #[.int .u8 120] 1 1 Tryz.underlying36 Tryz.underlying5
  rw [World.size_alloc] at h9
  exact h9
 go_enter Tryz.func26, Tryz.ntmps26
 go_upto_region 2 with fail
 have hzz := HW1.out
 rw [HP1.out, HP2.out] at hzz
 rw [← hzz]
 clear hzz kc HW1
 rw [← HP1.out, ← HP2.out]
 obtain ⟨d0, d1, d2, d3, d4⟩ := held5 HX1.out (Below.refl _ _)
 go_wp2_with fail
 (with_reducible refine HBY.out.mono ?_); rintro e w2 ⟨O, co, rfl, ho2, hb2⟩
 simp only at ho2 ⊢
 have HO2 := Lib.hid ho2
 have HB2 := Lib.hid hb2
 have HX2 := Lib.hid (HX1.out.below hb2 HX1.out.lt)
 have HIN2 := Lib.hid (HIN.out.below hb2)
 have hrd2 := SRead_any ho2.sl.2 ho2.cap.1 ho2.cap.2
 rw [HRD.out] at hrd2
 have HSR := Lib.hid hrd2
 clear ho2 hb2 hrd2 d0 d1 d2 d3 d4
 go_wp2_with fail
 (with_reducible refine HSR.out.mono ?_); rintro e w3 ⟨hb3, -, hyes⟩
 obtain ⟨A, B, D, a, b, d, rfl, hv, hl, hd⟩ := hyes sX rfl
 obtain ⟨w4, hw4⟩ : ∃ z, z = w3.alloc (.cells #[.int .i64 sX.x, .int .i64 sX.t, .slice A sX.vs.length a, .slice B sX.ls.length b, .slice D sX.ds.length d] 43) := ⟨_, rfl⟩
 have hb4 : Below w3.heap.size w3 w4 := by rw [hw4]; exact (Below.refl _ _).alloc (Nat.le_refl _) _
 have hy4 : Blk w4 w3.heap.size 43 #[.int .i64 sX.x, .int .i64 sX.t, .slice A sX.vs.length a, .slice B sX.ls.length b, .slice D sX.ds.length d] := by rw [hw4]; exact Blk.new_ w3 _ _
 have hx4 := (HX2.out.below hb3 HX2.out.lt).below hb4 (Nat.lt_of_lt_of_le HX2.out.lt hb3.size)
 have hin4 := ((HIN2.out.below hb3).below hb4)
 have hin5 : SnIn w4 A sX.vs B sX.ls D sX.ds := ⟨hv.sl.2.below hb4, hl.sl.2.below hb4, hd.sl.2.below hb4⟩
 have HB4 : Hid (Below w.heap.size w w4) := Lib.hid (((HB1.out.trans (HB2.out.mono HB1.out.size)).trans (hb3.mono (Nat.le_trans HB1.out.size HB2.out.size))).trans (hb4.mono (Nat.le_trans (Nat.le_trans HB1.out.size HB2.out.size) hb3.size)))
 have HX4 := Lib.hid hx4
 have HY4 := Lib.hid hy4
 have HIN4 := Lib.hid hin4
 have HIN5 := Lib.hid hin5
 have HW4 := Lib.hid hw4
 clear hx4 hy4 hin4 hin5 hw4 hb3 hb4 hyes hv hl hd
 go_upto_region 4 with fail
 rw [← HW4.out]
 clear HW4
 have HOA : Hid (∀ W, Below w4.heap.size w4 W → Calls Tryz.prog 13 #[.agg #[.int .i64 3, .int .i64 1, .slice P1 2 2, .slice none 0 0, .slice P2 1 1]] W (OfW (.agg #[.int .i64 3, .int .i64 1, .slice P1 2 2, .slice none 0 0, .slice P2 1 1]) w4)) := Lib.hid fun W hb => of_any.mono fun e w' hh => ⟨hh.1, hb.trans (hh.2.mono hb.size)⟩
 have HOB : Hid (∀ W, Below w4.heap.size w4 W → Calls Tryz.prog 13 #[.agg #[.int .i64 sX.x, .int .i64 sX.t, .slice A sX.vs.length a, .slice B sX.ls.length b, .slice D sX.ds.length d]] W (OfW (.agg #[.int .i64 sX.x, .int .i64 sX.t, .slice A sX.vs.length a, .slice B sX.ls.length b, .slice D sX.ds.length d]) w4)) := Lib.hid fun W hb => of_any.mono fun e w' hh => ⟨hh.1, hb.trans (hh.2.mono hb.size)⟩
 have HSM : Hid (∀ W, Below w4.heap.size w4 W → Calls Tryz.prog 19 #[.agg #[.int .i64 3, .int .i64 1, .slice P1 2 2, .slice none 0 0, .slice P2 1 1], .agg #[.int .i64 sX.x, .int .i64 sX.t, .slice A sX.vs.length a, .slice B sX.ls.length b, .slice D sX.ds.length d]] W (OfW (.bool true) w4)) := Lib.hid fun W hb => (Same_any (x := 3) (t := 1) (a := 2) (b := 0) (d := 1) (HIN4.out.below hb) (HIN5.out.below hb)).mono fun e w' hh => ⟨by rw [hh.1]; exact congrArg (fun b => Ending.returned (.bool b)) (sameB_self sX), hb.trans (hh.2.mono hb.size)⟩
 have hdr := below_drew0 w4
 obtain ⟨sx, hsx⟩ : ∃ s, s = sX := ⟨_, rfl⟩
 rw [← hsx] at HOB HSM HY4 ⊢
 clear hsx
 go_cut [0] (fun v wx => v = .bool true ∧ Below w4.heap.size w4 wx)
 case first =>
  go_region_held3 (fun W => (W.cell? ⟨w.heap.size + 2, 0, none⟩ = some (.int .i64 3) ∧ W.cell? ⟨w.heap.size + 2, 1, none⟩ = some (.int .i64 1) ∧ W.cell? ⟨w.heap.size + 2, 2, none⟩ = some (.slice P1 2 2) ∧ W.cell? ⟨w.heap.size + 2, 3, none⟩ = some (.slice none 0 0) ∧ W.cell? ⟨w.heap.size + 2, 4, none⟩ = some (.slice P2 1 1)) ∧ (W.cell? ⟨w3.heap.size, 0, none⟩ = some (.int .i64 sx.x) ∧ W.cell? ⟨w3.heap.size, 1, none⟩ = some (.int .i64 sx.t) ∧ W.cell? ⟨w3.heap.size, 2, none⟩ = some (.slice A sx.vs.length a) ∧ W.cell? ⟨w3.heap.size, 3, none⟩ = some (.slice B sx.ls.length b) ∧ W.cell? ⟨w3.heap.size, 4, none⟩ = some (.slice D sx.ds.length d)))
   (first | exact ⟨held5 HX4.out (by assumption), held5 HY4.out (by assumption)⟩)
   (first | (go_at_call 13; (with_reducible refine (HOA.out _ ?_).mono ?_); (assumption); rintro e wA ⟨rfl, hBA⟩)
          | (go_at_call 13; (with_reducible refine (HOB.out _ ?_).mono ?_); (assumption); rintro e wB ⟨rfl, hBB⟩)
          | (go_at_call 19; (with_reducible refine (HSM.out _ ?_).mono ?_); (assumption); rintro e wS ⟨rfl, hBS⟩))
  all_goals (go_wp2_with fail; go_meet; exact ⟨rfl, by assumption⟩)
 case rest =>
  obtain ⟨hv9, hb9⟩ := hcut
  subst hv9
  go_wp2_with fail
  go_ret
  exact ⟨rfl, HB4.out.trans (hb9.mono HB4.out.size)⟩
theorem of_w {wl W : World} {x t : Int} {A B D : Option Addr} {n a m b l d : Nat} (hb : Below wl.heap.size wl W) :
 Calls Tryz.prog 13 #[.agg #[.int .i64 x, .int .i64 t, .slice A n a, .slice B m b, .slice D l d]] W (OfW (.agg #[.int .i64 x, .int .i64 t, .slice A n a, .slice B m b, .slice D l d]) wl) :=
 of_any.mono fun _ _ hh => ⟨hh.1, hb.trans (hh.2.mono hb.size)⟩
theorem same_w {wl W : World} {s s' : SnT} {A B D A' B' D' : Option Addr} {a b d a' b' d' : Nat} (hb : Below wl.heap.size wl W) (h : SnIn wl A s.vs B s.ls D s.ds) (h' : SnIn wl A' s'.vs B' s'.ls D' s'.ds) :
 Calls Tryz.prog 19 #[.agg #[.int .i64 s.x, .int .i64 s.t, .slice A s.vs.length a, .slice B s.ls.length b, .slice D s.ds.length d], .agg #[.int .i64 s'.x, .int .i64 s'.t, .slice A' s'.vs.length a', .slice B' s'.ls.length b', .slice D' s'.ds.length d']] W
  (OfW (.bool (sameB s s')) wl) := (Same_any (h.below hb) (h'.below hb)).mono fun _ _ hh => ⟨hh.1, hb.trans (hh.2.mono hb.size)⟩
end Go.Proofs.YtfpomllhkbbipaaGreatDoor
