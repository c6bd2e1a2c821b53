/- Layer 15: ConfRight: the walk. -/
import Derived.Test.YtilefofpfbgikaaCa
import Derived.Test.YtilefofpfbgikaaRjX
import Derived.Test.YtilefofpfbgikaaOpenC
import Derived.Deep.DeepCutAuto
namespace Go.Proofs.Ytilefofpfbgikaa
open Go Go.RowKit Go.Maps Go.Lib Mem Pk Cf

section
variable {w3 W W' : World} {A B Ac Bc : Option Addr} {c d cc dc : Nat} {vs ls : List Int}
theorem vRg (hc : CI w3 A vs B ls) (hb : Below w3.heap.size w3 W) : Calls Try.prog 23 #[.agg #[.slice A vs.length c, .slice B ls.length d]] W (RgPost (rightB vs ls) w3) := (Right_any (hc.below hb)).mono fun _ _ h => rg_of hb h
theorem vVt (hc : CI w3 A vs B ls) (hb : Below w3.heap.size w3 W) (n : Int) : Calls Try.prog 24 #[.agg #[.slice A vs.length c, .slice B ls.length d], .int .i64 n] W (RgPost (hasB vs n) w3) := (Voter_any (hc.below hb) n).mono fun _ _ h => rg_of hb h
theorem vRVt (hc : CI w3 A vs B ls) (hb : Below w3.heap.size w3 W) (n : Int) : Calls Try.prog 25 #[.agg #[.slice A vs.length c, .slice B ls.length d], .int .i64 n] W (RgPost (hasB vs n) w3) := (RVoter_any (hc.below hb) n).mono fun _ _ h => rg_of hb h
theorem vMb (hc : CI w3 A vs B ls) (hb : Below w3.heap.size w3 W) (n : Int) : Calls Try.prog 26 #[.agg #[.slice A vs.length c, .slice B ls.length d], .int .i64 n] W (RgPost (hasB vs n || hasB ls n) w3) := (Member_any (hc.below hb) n).mono fun _ _ h => rg_of hb h
theorem vRMb (hc : CI w3 A vs B ls) (hb : Below w3.heap.size w3 W) (n : Int) : Calls Try.prog 27 #[.agg #[.slice A vs.length c, .slice B ls.length d], .int .i64 n] W (RgPost (hasB vs n || hasB ls n) w3) := (RMember_any (hc.below hb) n).mono fun _ _ h => rg_of hb h
end
def ByP (xs : List UInt8) (w3 : World) (e : Ending) (w' : World) : Prop := ∃ A c, e = .returned (.slice A xs.length c) ∧ Sl fB w' A xs ∧ Below w3.heap.size w3 w'
def OsP (os : List Int) (w3 W : World) (e : Ending) (w' : World) : Prop := ∃ A c, e = .returned (.slice A os.length c) ∧ Sl fI w' A os ∧ Below w3.heap.size w3 w' ∧ Below W.heap.size W w'
section
variable {w3 W W' : World} {A B Ac Bc : Option Addr} {c d cc dc : Nat} {vs ls : List Int}
theorem vRB (hc : CI w3 A vs B ls) (hr : rightB vs ls = true) (hb : Below w3.heap.size w3 W) : Calls Try.prog 30 #[.agg #[.slice A vs.length c, .slice B ls.length d]] W (ByP (numsB (confN vs ls)) w3) :=
  (RBytes_any (hc.below hb) hr).mono fun e w' h => by
    obtain ⟨v', he, ho, hb2⟩ := h
    obtain ⟨A, c, rfl⟩ := ho.form
    exact ⟨A, c, he, ho.sl.2, below_step hb hb2⟩
theorem vOt (hc : CI w3 A vs B ls) (hr : rightB vs ls = true) (hb : Below w3.heap.size w3 W) (n : Int) : Calls Try.prog 33 #[.agg #[.slice A vs.length c, .slice B ls.length d], .int .i64 n] W (OsP (others vs ls n 7) w3 W) :=
  (Others_any (hc.below hb) n hr).mono fun e w' h => by
    obtain ⟨A, c, he, ho, hb2⟩ := h
    exact ⟨A, c, he, ho.sl.2, below_step hb hb2, hb2⟩
theorem vRo (hc : CI w3 A vs B ls) (hb : Below w3.heap.size w3 W) (n : Int) : Calls Try.prog 34 #[.agg #[.slice A vs.length c, .slice B ls.length d], .int .i64 n] W (OsP (others vs ls n 7) w3 W) :=
  (ROthers_any (hc.below hb) n).mono fun e w' h => by
    obtain ⟨A, c, he, ho, hb2⟩ := h
    exact ⟨A, c, he, ho.sl.2, below_step hb hb2, hb2⟩
theorem vSI {os : List Int} (hb : Below w3.heap.size w3 W) (h1 : Sl fI W A os) (h2 : Sl fI W B os) : Calls Try.prog 32 #[.slice A os.length c, .slice B os.length d] W (RgPost true w3) :=
  (SameInts_any A B c d os os W h1 h2).mono fun _ _ h => rg_q hb (by rw [show decide (os = os) = true by simp] at h; exact h)
theorem vSB {xs : List UInt8} (hb : Below w3.heap.size w3 W) (h1 : Sl fB w3 A xs) (h2 : Sl fB W B xs) : Calls Try.prog 29 #[.slice A xs.length c, .slice B xs.length d] W (RgPost true w3) :=
  (SameBytes_any A B c d xs xs W (h1.below hb) h2).mono fun _ _ h => rg_q hb (by rw [show decide (xs = xs) = true by simp] at h; exact h)
theorem vSm (h1 : CI w3 A vs B ls) (h2 : CI w3 Ac vs Bc ls) (hb : Below w3.heap.size w3 W) : Calls Try.prog 31 #[.agg #[.slice A vs.length c, .slice B ls.length d], .agg #[.slice Ac vs.length cc, .slice Bc ls.length dc]] W (RgPost true w3) :=
  (RSame_any (h1.below hb) (h2.below hb)).mono fun _ _ h => rg_of hb (by rw [show (decide (vs = vs) && decide (ls = ls)) = true by simp] at h; exact h)
theorem held8 {g g' : Nat} {x y x' y' : Value} (h : Blk w3 g 24 #[x, y]) (h' : Blk w3 g' 24 #[x', y']) (hb : Below w3.heap.size w3 W) : W.cell? ⟨g, 0, none⟩ = some x ∧ W.cell? ⟨g, 1, none⟩ = some y ∧ W.cell? ⟨g', 0, none⟩ = some x' ∧ W.cell? ⟨g', 1, none⟩ = some y' :=
  ⟨(h.below hb h.lt).cell 0, (h.below hb h.lt).cell 1, (h'.below hb h'.lt).cell 0, (h'.below hb h'.lt).cell 1⟩
end
set_option maxRecDepth 100000 in
set_option maxHeartbeats 4000000 in
theorem confRight_no {w : World} (A : Option Addr) (c : Nat) (vs : List Int) (hA : IntsIn w A c vs) (B : Option Addr) (d : Nat) (ls : List Int) (hB : IntsIn w B d ls) (n : Int) (hr : rightB vs ls = false) :
    Calls Try.prog 4 #[.agg #[.slice A vs.length c, .slice B ls.length d], .int .i64 n] w fun e w' => e = .returned (.bool true) ∧ Below w.heap.size w w' := by
  have H : Hid (CI w A vs B ls) := Lib.hid ⟨hA.sl, hB.sl⟩
  clear hA hB
  have HRT := Lib.hid hr; clear hr
  go_enter Try.func4, Try.ntmps4
  go_upto_region 1 with fail
  obtain ⟨w1, hw1⟩ : ∃ x, x = w.alloc (.cells #[.slice A vs.length c, .slice B ls.length d] 24) := ⟨_, rfl⟩
  rw [← hw1]
  have hb1 : Below w.heap.size w w1 := by rw [hw1]; exact (Below.refl _ _).alloc (Nat.le_refl _) _
  have hx1 : Blk w1 w.heap.size 24 #[.slice A vs.length c, .slice B ls.length d] := by rw [hw1]; exact Blk.new_ w _ _
  have H1 := Lib.hid (H.out.below hb1)
  have HB1 := Lib.hid hb1
  have HX1 := Lib.hid hx1
  clear hw1 hb1 hx1 H
  go_wp2_with fail
  (with_reducible refine (alive_any _).mono ?_); rintro e wa ⟨rfl, hba⟩
  have Ha := Lib.hid (H1.out.below hba)
  have HBa : Hid (Below w.heap.size w wa) := HB1.out.trans (hba.mono HB1.out.size)
  have HXa := Lib.hid (HX1.out.below hba HX1.out.lt)
  clear hba HX1 HB1 H1
  have d0 : wa.cell? ⟨w.heap.size, 0, none⟩ = some (.slice A vs.length c) := HXa.out.cell 0
  have d1 : wa.cell? ⟨w.heap.size, 1, none⟩ = some (.slice B ls.length d) := HXa.out.cell 1
  have hrg := RRight_any (c := c) (d := d) Ha.out
  rw [HRT.out] at hrg
  have HRG := Lib.hid hrg; clear hrg
  go_wp2_with fail
  (with_reducible refine HRG.out.mono ?_); rintro e wb ⟨rfl, hbb⟩
  have Hb := Lib.hid (Ha.out.below hbb)
  have HBb : Hid (Below w.heap.size w wb) := HBa.out.trans (hbb.mono HBa.out.size)
  have HXb := Lib.hid (HXa.out.below hbb HXa.out.lt)
  clear hbb HXa HBa Ha HRG d0 d1
  have d0 : wb.cell? ⟨w.heap.size, 0, none⟩ = some (.slice A vs.length c) := HXb.out.cell 0
  have d1 : wb.cell? ⟨w.heap.size, 1, none⟩ = some (.slice B ls.length d) := HXb.out.cell 1
  have HBY := Lib.hid (Bytes_no (c := c) (d := d) Hb.out HRT.out)
  go_wp2_with fail
  (with_reducible refine HBY.out.mono ?_); rintro e w3 ⟨Ab, cb, rfl, hob, hb3⟩
  have H3 := Lib.hid (Hb.out.below hb3)
  have HB3 : Hid (Below w.heap.size w w3) := HBb.out.trans (hb3.mono HBb.out.size)
  have HX3 := Lib.hid (HXb.out.below hb3 HXb.out.lt)
  clear hb3 hob HXb HBb Hb HBY d0 d1
  go_upto_region 5 with fail
  have hdr := below_drew0 w3
  obtain ⟨p, hp⟩ : ∃ p, p = hasB vs n := ⟨_, rfl⟩
  obtain ⟨q, hq⟩ : ∃ q, q = (hasB vs n || hasB ls n) := ⟨_, rfl⟩
  have HCR : Hid (∀ W, Below w3.heap.size w3 W → Calls Try.prog 23 #[.agg #[.slice A vs.length c, .slice B ls.length d]] W (RgPost false w3)) := Lib.hid fun W hb => by have h := vRg (c := c) (d := d) H3.out hb; rw [HRT.out] at h; exact h
  have HCV : Hid (∀ W, Below w3.heap.size w3 W → Calls Try.prog 24 #[.agg #[.slice A vs.length c, .slice B ls.length d], .int .i64 n] W (RgPost p w3)) := Lib.hid fun W hb => by rw [hp]; exact vVt H3.out hb n
  have HRV : Hid (∀ W, Below w3.heap.size w3 W → Calls Try.prog 25 #[.agg #[.slice A vs.length c, .slice B ls.length d], .int .i64 n] W (RgPost p w3)) := Lib.hid fun W hb => by rw [hp]; exact vRVt H3.out hb n
  have HCM : Hid (∀ W, Below w3.heap.size w3 W → Calls Try.prog 26 #[.agg #[.slice A vs.length c, .slice B ls.length d], .int .i64 n] W (RgPost q w3)) := Lib.hid fun W hb => by rw [hq]; exact vMb H3.out hb n
  have HRM : Hid (∀ W, Below w3.heap.size w3 W → Calls Try.prog 27 #[.agg #[.slice A vs.length c, .slice B ls.length d], .int .i64 n] W (RgPost q w3)) := Lib.hid fun W hb => by rw [hq]; exact vRMb H3.out hb n
  clear hp hq
  go_cut [40] (fun v wx => v = .bool false ∧ Below w3.heap.size w3 wx)
  case first =>
    go_region_held3 (fun W => W.cell? ⟨w.heap.size, 0, none⟩ = some (.slice A vs.length c) ∧ W.cell? ⟨w.heap.size, 1, none⟩ = some (.slice B ls.length d)) (first | exact heldN HX3.out (by assumption) | exact heldN HX3.out (below_drewN (by assumption) _))
      (first | (go_at_call 23; (with_reducible refine (HCR.out _ ?_).mono ?_); (assumption); rintro e wI ⟨rfl, hbI⟩)
             | (go_at_call 24; (with_reducible refine (HCV.out _ ?_).mono ?_); (assumption); rintro e wI ⟨rfl, hbI⟩)
             | (go_at_call 25; (with_reducible refine (HRV.out _ ?_).mono ?_); (assumption); rintro e wI ⟨rfl, hbI⟩)
             | (go_at_call 26; (with_reducible refine (HCM.out _ ?_).mono ?_); (assumption); rintro e wI ⟨rfl, hbI⟩)
             | (go_at_call 27; (with_reducible refine (HRM.out _ ?_).mono ?_); (assumption); rintro e wI ⟨rfl, hbI⟩))
    all_goals (go_wp2_with fail; go_meet; exact ⟨by simp, by assumption⟩)
  case rest =>
    obtain ⟨rfl, hbc⟩ := hcut
    have HBc : Hid (Below w.heap.size w wc) := HB3.out.trans (hbc.mono HB3.out.size)
    clear hbc hdr
    go_wp2_with fail
    go_ret
    exact ⟨ret_bool rfl, HBc.out⟩

set_option maxRecDepth 100000 in
set_option maxHeartbeats 4000000 in
theorem confRight_yes {w : World} (A : Option Addr) (c : Nat) (vs : List Int) (hA : IntsIn w A c vs) (B : Option Addr) (d : Nat) (ls : List Int) (hB : IntsIn w B d ls) (n : Int) (hr : rightB vs ls = true) :
    Calls Try.prog 4 #[.agg #[.slice A vs.length c, .slice B ls.length d], .int .i64 n] w fun e w' => e = .returned (.bool true) ∧ Below w.heap.size w w' := by
  have H : Hid (CI w A vs B ls) := Lib.hid ⟨hA.sl, hB.sl⟩
  clear hA hB
  have HRT := Lib.hid hr; clear hr
  go_enter Try.func4, Try.ntmps4
  go_upto_region 1 with fail
  obtain ⟨w1, hw1⟩ : ∃ x, x = w.alloc (.cells #[.slice A vs.length c, .slice B ls.length d] 24) := ⟨_, rfl⟩
  rw [← hw1]
  have hb1 : Below w.heap.size w w1 := by rw [hw1]; exact (Below.refl _ _).alloc (Nat.le_refl _) _
  have hx1 : Blk w1 w.heap.size 24 #[.slice A vs.length c, .slice B ls.length d] := by rw [hw1]; exact Blk.new_ w _ _
  have H1 := Lib.hid (H.out.below hb1)
  have HB1 := Lib.hid hb1
  have HX1 := Lib.hid hx1
  clear hw1 hb1 hx1 H
  go_wp2_with fail
  (with_reducible refine (alive_any _).mono ?_); rintro e wa ⟨rfl, hba⟩
  have Ha := Lib.hid (H1.out.below hba)
  have HBa : Hid (Below w.heap.size w wa) := HB1.out.trans (hba.mono HB1.out.size)
  have HXa := Lib.hid (HX1.out.below hba HX1.out.lt)
  clear hba HX1 HB1 H1
  have d0 : wa.cell? ⟨w.heap.size, 0, none⟩ = some (.slice A vs.length c) := HXa.out.cell 0
  have d1 : wa.cell? ⟨w.heap.size, 1, none⟩ = some (.slice B ls.length d) := HXa.out.cell 1
  have hrg := RRight_any (c := c) (d := d) Ha.out
  rw [HRT.out] at hrg
  have HRG := Lib.hid hrg; clear hrg
  go_wp2_with fail
  (with_reducible refine HRG.out.mono ?_); rintro e wb ⟨rfl, hbb⟩
  have Hb := Lib.hid (Ha.out.below hbb)
  have HBb : Hid (Below w.heap.size w wb) := HBa.out.trans (hbb.mono HBa.out.size)
  have HXb := Lib.hid (HXa.out.below hbb HXa.out.lt)
  clear hbb HXa HBa Ha HRG d0 d1
  have d0 : wb.cell? ⟨w.heap.size, 0, none⟩ = some (.slice A vs.length c) := HXb.out.cell 0
  have d1 : wb.cell? ⟨w.heap.size, 1, none⟩ = some (.slice B ls.length d) := HXb.out.cell 1
  obtain ⟨xs, hxs⟩ : ∃ xs, xs = numsB (confN vs ls) := ⟨_, rfl⟩
  have hby := (Bytes_yes (c := c) (d := d) Hb.out HRT.out)
  rw [← hxs] at hby
  have HBY := Lib.hid hby; clear hby
  have HXS := Lib.hid hxs; clear hxs
  go_wp2_with fail
  (with_reducible refine HBY.out.mono ?_); rintro e w3 ⟨Ab, cb, rfl, hob, hb3⟩
  have H3 := Lib.hid (Hb.out.below hb3)
  have HB3 : Hid (Below w.heap.size w w3) := HBb.out.trans (hb3.mono HBb.out.size)
  have HX3 := Lib.hid (HXb.out.below hb3 HXb.out.lt)
  have HSB3 : Hid (Sl fB w3 Ab xs ∧ xs.length ≤ cb ∧ cb ≤ maxLen) := Lib.hid ⟨hob.sl.2, hob.cap⟩
  clear hb3 hob HXb HBb Hb HBY d0 d1
  go_upto_region 5 with fail
  have hdr := below_drew0 w3
  obtain ⟨p, hp⟩ : ∃ p, p = hasB vs n := ⟨_, rfl⟩
  obtain ⟨q, hq⟩ : ∃ q, q = (hasB vs n || hasB ls n) := ⟨_, rfl⟩
  have HCR : Hid (∀ W, Below w3.heap.size w3 W → Calls Try.prog 23 #[.agg #[.slice A vs.length c, .slice B ls.length d]] W (RgPost true w3)) := Lib.hid fun W hb => by have h := vRg (c := c) (d := d) H3.out hb; rw [HRT.out] at h; exact h
  have HCV : Hid (∀ W, Below w3.heap.size w3 W → Calls Try.prog 24 #[.agg #[.slice A vs.length c, .slice B ls.length d], .int .i64 n] W (RgPost p w3)) := Lib.hid fun W hb => by rw [hp]; exact vVt H3.out hb n
  have HRV : Hid (∀ W, Below w3.heap.size w3 W → Calls Try.prog 25 #[.agg #[.slice A vs.length c, .slice B ls.length d], .int .i64 n] W (RgPost p w3)) := Lib.hid fun W hb => by rw [hp]; exact vRVt H3.out hb n
  have HCM : Hid (∀ W, Below w3.heap.size w3 W → Calls Try.prog 26 #[.agg #[.slice A vs.length c, .slice B ls.length d], .int .i64 n] W (RgPost q w3)) := Lib.hid fun W hb => by rw [hq]; exact vMb H3.out hb n
  have HRM : Hid (∀ W, Below w3.heap.size w3 W → Calls Try.prog 27 #[.agg #[.slice A vs.length c, .slice B ls.length d], .int .i64 n] W (RgPost q w3)) := Lib.hid fun W hb => by rw [hq]; exact vRMb H3.out hb n
  clear hp hq
  go_cut [40] (fun v wx => v = .bool false ∧ Below w3.heap.size w3 wx)
  case first =>
    go_region_held3 (fun W => W.cell? ⟨w.heap.size, 0, none⟩ = some (.slice A vs.length c) ∧ W.cell? ⟨w.heap.size, 1, none⟩ = some (.slice B ls.length d)) (first | exact heldN HX3.out (by assumption) | exact heldN HX3.out (below_drewN (by assumption) _))
      (first | (go_at_call 23; (with_reducible refine (HCR.out _ ?_).mono ?_); (assumption); rintro e wI ⟨rfl, hbI⟩)
             | (go_at_call 24; (with_reducible refine (HCV.out _ ?_).mono ?_); (assumption); rintro e wI ⟨rfl, hbI⟩)
             | (go_at_call 25; (with_reducible refine (HRV.out _ ?_).mono ?_); (assumption); rintro e wI ⟨rfl, hbI⟩)
             | (go_at_call 26; (with_reducible refine (HCM.out _ ?_).mono ?_); (assumption); rintro e wI ⟨rfl, hbI⟩)
             | (go_at_call 27; (with_reducible refine (HRM.out _ ?_).mono ?_); (assumption); rintro e wI ⟨rfl, hbI⟩))
    all_goals (go_wp2_with fail; go_meet; exact ⟨by simp, by assumption⟩)
  case rest =>
    obtain ⟨rfl, hbc⟩ := hcut
    have HBc : Hid (Below w.heap.size w wc) := HB3.out.trans (hbc.mono HB3.out.size)
    have hld := Load_any (SlF.of_sl (HSB3.out.1.below hbc)) HSB3.out.2.1 HSB3.out.2.2
    rw [show loadC xs = some (vs, ls) by rw [HXS.out]; exact loadC_some.2 ⟨HRT.out, rfl⟩] at hld
    have HLD := Lib.hid hld; clear hld
    have Hc := Lib.hid (H3.out.below hbc)
    have HXc := Lib.hid (HX3.out.below hbc HX3.out.lt)
    have HSBc := Lib.hid (HSB3.out.1.below hbc)
    clear hbc hdr HX3 H3 HB3 HSB3 HCR HCV HRV HCM HRM
    go_wp2_with fail
    (with_reducible refine HLD.out.mono ?_); rintro e w5 ⟨-, hb5, hy⟩
    obtain ⟨A1, B1, c1, d1, rfl, ho1, ho2⟩ := hy vs ls rfl
    have H5 := Lib.hid (Hc.out.below hb5)
    have HJ5 : Hid (CI w5 A1 vs B1 ls) := Lib.hid ⟨ho1.sl.2, ho2.sl.2⟩
    have HB5 : Hid (Below w.heap.size w w5) := HBc.out.trans (hb5.mono HBc.out.size)
    have HX5 := Lib.hid (HXc.out.below hb5 HXc.out.lt)
    have HSB5 := Lib.hid (HSBc.out.below hb5)
    clear hb5 hy ho1 ho2 HXc HBc Hc HSBc HLD
    go_upto_region 10 with fail
    obtain ⟨w7, hw7⟩ : ∃ x, x = w5.alloc (.cells #[.slice A1 vs.length c1, .slice B1 ls.length d1] 24) := ⟨_, rfl⟩
    rw [← hw7]
    have hb7 : Below w5.heap.size w5 w7 := by rw [hw7]; exact (Below.refl _ _).alloc (Nat.le_refl _) _
    have hx7 : Blk w7 w5.heap.size 24 #[.slice A1 vs.length c1, .slice B1 ls.length d1] := by rw [hw7]; exact Blk.new_ w5 _ _
    have H7 := Lib.hid (H5.out.below hb7)
    have HJ7 := Lib.hid (HJ5.out.below hb7)
    have HB7 : Hid (Below w.heap.size w w7) := HB5.out.trans (hb7.mono HB5.out.size)
    have HX7 := Lib.hid (HX5.out.below hb7 HX5.out.lt)
    have HY7 := Lib.hid hx7
    have HSB7 := Lib.hid (HSB5.out.below hb7)
    clear hw7 hb7 hx7 H5 HJ5 HB5 HX5 HSB5
    have hdr := below_drew0 w7
    obtain ⟨os, hos⟩ : ∃ os, os = others vs ls n 7 := ⟨_, rfl⟩
    have HCB : Hid (∀ W, Below w7.heap.size w7 W → Calls Try.prog 30 #[.agg #[.slice A vs.length c, .slice B ls.length d]] W (ByP xs w7)) := Lib.hid fun W hb => by rw [HXS.out]; exact vRB H7.out HRT.out hb
    have HCO : Hid (∀ W, Below w7.heap.size w7 W → Calls Try.prog 33 #[.agg #[.slice A vs.length c, .slice B ls.length d], .int .i64 n] W (OsP os w7 W)) := Lib.hid fun W hb => by rw [hos]; exact vOt H7.out HRT.out hb n
    have HRO : Hid (∀ W, Below w7.heap.size w7 W → Calls Try.prog 34 #[.agg #[.slice A vs.length c, .slice B ls.length d], .int .i64 n] W (OsP os w7 W)) := Lib.hid fun W hb => by rw [hos]; exact vRo H7.out hb n
    clear hos
    go_region_held3 (fun W => W.cell? ⟨w.heap.size, 0, none⟩ = some (.slice A vs.length c) ∧ W.cell? ⟨w.heap.size, 1, none⟩ = some (.slice B ls.length d) ∧ W.cell? ⟨w5.heap.size, 0, none⟩ = some (.slice A1 vs.length c1) ∧ W.cell? ⟨w5.heap.size, 1, none⟩ = some (.slice B1 ls.length d1)) (first | exact held8 HX7.out HY7.out (by assumption) | exact held8 HX7.out HY7.out (below_drewN (by assumption) _))
      (first | (go_at_call 30; (with_reducible refine (HCB.out _ ?_).mono ?_); (assumption); rintro e wI ⟨AI, cI, rfl, hslI, hbI⟩)
             | (go_at_call 29; (with_reducible refine (vSB (w3 := w7) ?_ HSB7.out ?_).mono ?_); (assumption); (assumption); rintro e wI ⟨rfl, hbI⟩)
             | (go_at_call 31; (with_reducible refine (vSm H7.out HJ7.out ?_).mono ?_); (assumption); rintro e wI ⟨rfl, hbI⟩)
             | (go_at_call 33; (with_reducible refine (HCO.out _ ?_).mono ?_); (assumption); rintro e wI ⟨AI, cI, rfl, hslO, hbI, hBO⟩)
             | (go_at_call 34; (with_reducible refine (HRO.out _ ?_).mono ?_); (assumption); rintro e wI ⟨AI, cI, rfl, hslR, hbI, hBR⟩)
             | (go_at_call 32; (with_reducible refine (vSI (w3 := w7) ?_ ?_ ?_).mono ?_); (assumption); (first | assumption | exact Mem.Sl.below (by assumption) (by assumption)); (first | assumption | exact Mem.Sl.below (by assumption) (by assumption)); rintro e wI ⟨rfl, hbI⟩))
    all_goals (go_wp2_with fail; go_ret; exact ⟨ret_bool rfl, HB7.out.trans (Below.mono (by assumption) HB7.out.size)⟩)
theorem confRight_walk {w : World} (A : Option Addr) (c : Nat) (vs : List Int) (hA : IntsIn w A c vs) (B : Option Addr) (d : Nat) (ls : List Int) (hB : IntsIn w B d ls) (n : Int) (_ : (Lit.int .i64 n).wf = true) :
    Calls Try.prog 4 #[.agg #[.slice A vs.length c, .slice B ls.length d], .int .i64 n] w fun e w' => e = .returned (.bool true) ∧ Below w.heap.size w w' := by
  cases hr : rightB vs ls with
  | false => exact confRight_no A c vs hA B d ls hB n hr
  | true => exact confRight_yes A c vs hA B d ls hB n hr
end Go.Proofs.Ytilefofpfbgikaa
