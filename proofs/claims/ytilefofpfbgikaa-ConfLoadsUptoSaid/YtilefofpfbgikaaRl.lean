/- Layer 15: the document's Load. -/
import Derived.Test.YtilefofpfbgikaaLdX
import Derived.Test.YtilefofpfbgikaaLdY
import Derived.Test.YtilefofpfbgikaaGn
import Derived.Test.YtilefofpfbgikaaCut
import Derived.BigQuiet
import Derived.Deep.RegionHeld3
namespace Go.Proofs.Ytilefofpfbgikaa
open Go Go.RowKit Go.Maps Go.Lib Mem Pk Cf

/-- what the document's Load leaves: two rows, and whether they are right -/
def RlPost (res : Option (List Int × List Int)) (w : World) (e : Ending) (w' : World) : Prop :=
  ∃ A n c B m d ok, e = .returned (.tuple #[.agg #[.slice A n c, .slice B m d], .bool ok]) ∧ Below w.heap.size w w' ∧ (res = none → ok = false) ∧
    ∀ vs ls, res = some (vs, ls) → ok = true ∧ n = vs.length ∧ m = ls.length ∧ CI w' A vs B ls
def RlRel (F : Nat → Prop) (bs : List UInt8) (w1 : World) (nv rv : Value) (wr : World) : Prop :=
  ∃ (ns : List Int) (rest : List UInt8) (A : Option Addr) (c : Nat), smallN ns ∧ bs = numsB ns ++ rest ∧ Own fI w1.heap.size 3 wr nv ns ∧ rv = .slice A rest.length c ∧ SlF F wr A rest ∧ rest.length ≤ c ∧ c ≤ maxLen ∧ Below w1.heap.size w1 wr
theorem cnt_num {bs r : List UInt8} {n : Int} (h : cnt bs = some (n, r)) : ∃ k, getNum bs = some (n, k) ∧ 0 < k ∧ k ≤ bs.length ∧ r = bs.drop k ∧ 0 ≤ n ∧ n ≤ 7 := by
  unfold cnt at h
  cases hg : getNum bs with
  | none => rw [hg] at h; cases h
  | some p =>
    obtain ⟨m, k⟩ := p
    rw [hg] at h
    by_cases hm : 0 ≤ m ∧ m ≤ 7
    · simp only [if_pos hm] at h
      injection h with h; injection h with h1 h2
      subst h1
      obtain ⟨_, h3, h4, _⟩ := getNum_inv hg
      exact ⟨k, rfl, h3, h4, h2.symm, hm⟩
    · simp only [if_neg hm] at h; cases h
theorem cnt_non {bs : List UInt8} (h : cnt bs = none) : getNum bs = none ∨ ∃ n k, getNum bs = some (n, k) ∧ 0 < k ∧ (n < 0 ∨ 7 < n) := by
  unfold cnt at h
  cases hg : getNum bs with
  | none => exact .inl rfl
  | some p =>
    obtain ⟨m, k⟩ := p
    rw [hg] at h
    by_cases hm : 0 ≤ m ∧ m ≤ 7
    · simp only [if_pos hm] at h; cases h
    · exact .inr ⟨m, k, rfl, (getNum_inv hg).2.1, by omega⟩
theorem RlPost.no {w w' : World} {res : Option (List Int × List Int)} (h : res = none) (hb : Below w.heap.size w w') : RlPost res w (.returned (.tuple #[.agg #[.slice none 0 0, .slice none 0 0], .bool false])) w' :=
  ⟨none, 0, 0, none, 0, 0, false, rfl, hb, fun _ => rfl, fun vs ls h2 => by rw [h] at h2; cases h2⟩
theorem heldS2 {w1 W : World} {g r : Nat} {x y : Value} (h : Blk w1 g 24 #[x, y]) (hb : Below w1.heap.size w1 W) (hn : r ≠ g) (u v : Value) : ((W.setCell ⟨r, 0, none⟩ u).setCell ⟨r, 1, none⟩ v).cell? ⟨g, 0, none⟩ = some x ∧ ((W.setCell ⟨r, 0, none⟩ u).setCell ⟨r, 1, none⟩ v).cell? ⟨g, 1, none⟩ = some y := by
  have h2 : Blk ((W.setCell ⟨r, 0, none⟩ u).setCell ⟨r, 1, none⟩ v) g 24 #[x, y] := (h.below hb h.lt).frm (((Frm.refl (fun k => k = r) W).setCell (p := ⟨r, 0, none⟩) (fun _ => rfl) u).setCell (p := ⟨r, 1, none⟩) (fun _ => rfl) v) (fun e => hn e.symm)
  exact ⟨h2.cell 0, h2.cell 1⟩
def lenV : Value → Nat
  | .slice _ n _ => n
  | _ => 0
set_option maxRecDepth 100000 in
set_option maxHeartbeats 4000000 in
theorem RLoad_any {F : Nat → Prop} {w : World} {A : Option Addr} {c : Nat} {bs : List UInt8} (hs : SlF F w A bs) (hc : bs.length ≤ c) (hm : c ≤ maxLen) (hbl : bs.length ≤ 2000000) :
    Calls Try.prog 35 #[.slice A bs.length c] w (RlPost (loadC bs) w) := by
  obtain ⟨res, hres⟩ : ∃ r, r = loadC bs := ⟨_, rfl⟩
  rw [← hres]
  obtain ⟨w1, hw1⟩ : ∃ x, x = w.alloc (.cells #[.slice none 0 0, .slice none 0 0] 24) := ⟨_, rfl⟩
  have hb1 : Below w.heap.size w w1 := by rw [hw1]; exact (Below.refl _ _).alloc (Nat.le_refl _) _
  have hx1 : Blk w1 w.heap.size 24 #[.slice none 0 0, .slice none 0 0] := by rw [hw1]; exact Blk.new_ w _ _
  have hs1 : SlF (fun g => g < w.heap.size) w1 A bs := (hs.mono fun g h1 h2 => h1).frm (Frm.of_below hb1) (fun g h => by omega)
  have hz1 : w1.heap.size = w.heap.size + 1 := by rw [hw1]; exact World.size_alloc ..
  have HO0 : Hid (Own fI w1.heap.size 3 (w1.alloc (.cells #[] 3)) (.slice (some ⟨w.heap.size + 1, 0, none⟩) 0 0) ([] : List Int)) := Lib.hid (by
    have h := Own.mk_ (w := w1) (f := fI) (e := 3) (Nat.le_refl w1.heap.size)
    simpa only [hz1] using h)
  clear hz1
  have HRES := Lib.hid hres; clear hres
  have HS := Lib.hid hs1
  have HB1 := Lib.hid hb1
  have HX1 := Lib.hid hx1
  have HLT := Lib.hid hx1.lt
  have HW1 := Lib.hid hw1; clear hw1
  have HC := Lib.hid hc
  have HM := Lib.hid hm
  have HBL := Lib.hid hbl
  clear hs hb1 hx1 hs1 hc hm hbl
  go_enter Try.func35, Try.ntmps35
  go_upto_region 2 with fail
  rw [← HW1.out]
  clear HW1
  go_wp2_with fail
  go_loopw [4, 5] (fun nv rv wr => RlRel (fun g => g < w.heap.size) bs w1 nv rv wr) (fun _ rv _ => lenV rv)
  case atStart => exact ⟨[], bs, A, c, (fun _ h => by cases h), rfl, HO0.out, rfl, (HS.out).frm (Frm.below ((Below.refl _ _).alloc (Nat.le_refl _) _)) (fun _ _ h => h), HC.out, HM.out, (Below.refl _ _).alloc (Nat.le_refl _) _⟩
  case round =>
    obtain ⟨ns, rest, A', c', hsm, hbs, hown, rfl, hsl, hrc, hcm, hbw⟩ := hrel
    have HSM := Lib.hid hsm; clear hsm
    have HBS := Lib.hid hbs; clear hbs
    have HOWN := Lib.hid hown; clear hown
    have HSL := Lib.hid hsl; clear hsl
    have HBW := Lib.hid hbw; clear hbw
    have HCM := Lib.hid hcm; clear hcm
    have HRC := Lib.hid hrc; clear hrc
    obtain ⟨wo, rfl⟩ : ∃ wo, wo = wr := ⟨_, rfl⟩
    have HX : Hid (Blk wo w.heap.size 24 #[.slice none 0 0, .slice none 0 0]) := Lib.hid (HX1.out.below HBW.out HLT.out)
    have q0 := HX.out.free 0
    have q1 := HX.out.free 1
    have e0 : wo.cell? ⟨w.heap.size, 0, none⟩ = some (.slice none 0 0) := HX.out.cell 0
    have e1 : wo.cell? ⟨w.heap.size, 1, none⟩ = some (.slice none 0 0) := HX.out.cell 1
    by_cases h0 : rest = []
    · obtain ⟨A2, c2, rfl⟩ := HOWN.out.form
      have hbn : bs = numsB ns := by rw [HBS.out, h0, List.append_nil]
      have hl := nums_len ns
      rw [← hbn] at hl
      have hl2 : ns.length ≤ 2000000 := by have := HBL.out; omega
      have hcap := HOWN.out.cap.1
      have hpos : ¬ (0 : Int) < (rest.length : Int) := by rw [h0]; simp
      have HBN := Lib.hid hbn; clear hbn
      have r0 : ∀ n, (((wo.drewN n).setCell ⟨w.heap.size, 0, none⟩ (.slice none 0 0)).setCell ⟨w.heap.size, 1, none⟩ (.slice none 0 0)).cell? ⟨w.heap.size, 0, none⟩ = some (.slice none 0 0) := fun n => (((HX.out.drewN n).set_ 0 _).set_ 1 _).cell 0
      have r1 : ∀ n, (((wo.drewN n).setCell ⟨w.heap.size, 0, none⟩ (.slice none 0 0)).setCell ⟨w.heap.size, 1, none⟩ (.slice none 0 0)).cell? ⟨w.heap.size, 1, none⟩ = some (.slice none 0 0) := fun n => (((HX.out.drewN n).set_ 0 _).set_ 1 _).cell 1
      have HBF : Hid (∀ n, Below w.heap.size w (((wo.drewN n).setCell ⟨w.heap.size, 0, none⟩ (.slice none 0 0)).setCell ⟨w.heap.size, 1, none⟩ (.slice none 0 0))) := Lib.hid fun n => ((below_drewN (HB1.out.trans (HBW.out.mono HB1.out.size)) n).setCell (p := ⟨w.heap.size, 0, none⟩) (Nat.le_refl _) _).setCell (p := ⟨w.heap.size, 1, none⟩) (Nat.le_refl _) _
      clear hl h0
      by_cases hn2 : ns.length < 2
      · have t1 : decide ((ns.length : Int) < 2) = true := by rw [decide_eq_true_iff]; omega
        have t1' : decide (ns.length < 2) = true := by rw [decide_eq_true_iff]; omega
        have HN : Hid (res = none) := Lib.hid (by rw [HRES.out]; exact shape_no HSM.out HBN.out fun a b _ _ e => by omega)
        clear hn2
        go_wp2_with fail
        go_quiet (fail)
        go_wp2_with fail
        refine bodyPost_ret (v := .tuple #[.agg #[.slice none 0 0, .slice none 0 0], .bool false]) (by simp [results, Try.results35, go_sem, r0, r1]) rfl ?_
        exact RlPost.no HN.out (HBF.out _)
      · obtain ⟨g, rfl, hg9⟩ := HOWN.out.addr (by omega)
        have hcell := HOWN.out.sl.2
        have hx := HSM.out _ (List.getElem_mem (show 0 < ns.length by omega))
        obtain ⟨a, ha⟩ : ∃ a : Nat, ns[0]'(by omega) = (a : Int) := ⟨(ns[0]'(by omega)).toNat, by omega⟩
        have c0 : wo.cell? ⟨g, 0, none⟩ = some (.int .i64 (a : Int)) := by
          have := hcell.cell (show 0 < ns.length by omega)
          rw [ha] at this; exact this
        have h0q : ns[0]? = some (a : Int) := by rw [List.getElem?_eq_getElem (show 0 < ns.length by omega), ha]
        rw [ha] at hx
        have ha7 : a ≤ 7 := by omega
        obtain ⟨m, hm⟩ : ∃ m, m = a + 2 := ⟨_, rfl⟩
        obtain ⟨j, hj⟩ : ∃ j, j = a + 1 := ⟨_, rfl⟩
        have t1 : decide ((ns.length : Int) < 2) = false := by rw [decide_eq_false_iff_not]; omega
        have t1' : decide (ns.length < 2) = false := by rw [decide_eq_false_iff_not]; omega
        have e2 : IntKind.i64.wrap ((a : Int) + 2) = (m : Int) := by rw [IntKind.wrap_i64]; omega
        have e3 : IntKind.i64.wrap ((a : Int) + 1) = (j : Int) := by rw [IntKind.wrap_i64]; omega
        have i0 : (0 : Int) < (ns.length : Int) := by omega
        have i0' : 0 < ns.length := by omega
        clear ha
        by_cases hnm : ns.length < m
        · have t2 : decide ((ns.length : Int) < (m : Int)) = true := by rw [decide_eq_true_iff]; omega
          have t2' : decide (ns.length < m) = true := by rw [decide_eq_true_iff]; omega
          have HN : Hid (res = none) := Lib.hid (by
            rw [HRES.out]
            refine shape_no HSM.out HBN.out fun a' b' h1 h2 e => ?_
            rw [h0q] at h1; injection h1 with h1; omega)
          clear hn2 hnm h0q hx hcell ha7 hm hj
          go_wp2_with fail
          go_quiet (fail)
          go_wp2_with fail
          refine bodyPost_ret (v := .tuple #[.agg #[.slice none 0 0, .slice none 0 0], .bool false]) (by simp [results, Try.results35, go_sem, r0, r1]) rfl ?_
          exact RlPost.no HN.out (HBF.out _)
        · have hjl : j < ns.length := by omega
          have hy := HSM.out _ (List.getElem_mem hjl)
          obtain ⟨b, hb⟩ : ∃ b : Nat, ns[j] = (b : Int) := ⟨(ns[j]).toNat, by omega⟩
          have c1 : wo.cell? ⟨g, j, none⟩ = some (.int .i64 (b : Int)) := by
            have := hcell.cell hjl
            rw [hb, Nat.zero_add] at this; exact this
          have h1q : ns[a + 1]? = some (b : Int) := by rw [← hj, List.getElem?_eq_getElem hjl, hb]
          rw [hb] at hy
          have hb7 : b ≤ 7 := by omega
          obtain ⟨s, hs⟩ : ∃ s, s = a + 2 + b := ⟨_, rfl⟩
          have e4 : IntKind.i64.wrap ((m : Int) + (b : Int)) = (s : Int) := by rw [IntKind.wrap_i64]; omega
          have t2 : decide ((ns.length : Int) < (m : Int)) = false := by rw [decide_eq_false_iff_not]; omega
          have t2' : decide (ns.length < m) = false := by rw [decide_eq_false_iff_not]; omega
          have i1 : (0 : Int) ≤ (j : Int) := by omega
          have i2 : (j : Int) < (ns.length : Int) := by omega
          clear hb
          by_cases hls : ns.length = s
          · have t3 : ((ns.length : Int) == (s : Int)) = true := by rw [beq_iff_eq]; omega
            have t3' : decide ((ns.length : Int) = (s : Int)) = true := by rw [decide_eq_true_iff]; omega
            have t3'' : decide (ns.length = s) = true := by rw [decide_eq_true_iff]; omega
            obtain ⟨vs, hvs⟩ : ∃ vs, vs = (ns.drop 1).take a := ⟨_, rfl⟩
            obtain ⟨ls, hls2⟩ : ∃ ls, ls = ns.drop (a + 2) := ⟨_, rfl⟩
            have hvl : vs.length = a := by rw [hvs, List.length_take, List.length_drop]; omega
            have hll : ls.length = b := by rw [hls2, List.length_drop]; omega
            obtain ⟨P1, hP1⟩ : ∃ p, p = partA (some ⟨g, 0, none⟩) c2 1 := ⟨_, rfl⟩
            obtain ⟨P2, hP2⟩ : ∃ p, p = partA (some ⟨g, 0, none⟩) c2 m := ⟨_, rfl⟩
            obtain ⟨c3, hc3⟩ : ∃ x, x = c2 - 1 := ⟨_, rfl⟩
            obtain ⟨c4, hc4⟩ : ∃ x, x = c2 - m := ⟨_, rfl⟩
            have k1 : ∀ W : World, (Instr.slice 22 (.slice (some ⟨g, 0, none⟩) ns.length c2) (some (.int .i64 1)) (some (.int .i64 (j : Int))) none).run Try.prog W = .ok (.slice P1 vs.length c3) W := fun W => by
              have h := cutI2 (some ⟨g, 0, none⟩) ns.length c2 1 j (by omega) (by omega) W
              rw [← hP1, ← hc3, show j - 1 = vs.length by omega] at h; exact h
            have k2 : ∀ W : World, (Instr.slice 22 (.slice (some ⟨g, 0, none⟩) ns.length c2) (some (.int .i64 (m : Int))) none none).run Try.prog W = .ok (.slice P2 ls.length c4) W := fun W => by
              have h := cutI (some ⟨g, 0, none⟩) ns.length c2 m (by omega) W
              rw [← hP2, ← hc4, show ns.length - m = ls.length by omega] at h; exact h
            have hpq : ∀ W, Sl fI W (some ⟨g, 0, none⟩) ns → CI W P1 vs P2 ls := fun W hsl => by
              refine ⟨?_, ?_⟩
              · rw [hvs, hP1]; exact hsl.part (by omega) hcap
              · have h := hsl.part (c := c2) (k := m) (m := ns.length - m) (by omega) hcap
                rw [List.take_of_length_le (by rw [List.length_drop]; omega), hm, ← hls2] at h
                rw [hP2, hm]; exact h
            have hci := hpq wo hcell
            have HPQ := Lib.hid hpq; clear hpq
            have hload : res = if rightB vs ls = true then some (vs, ls) else none := by
              rw [HRES.out]
              refine shape_load HSM.out HBN.out ?_
              rw [hvs, hls2]; exact shape_yes h0q h1q (by omega)
            have HCI := Lib.hid hci
            have HLOAD := Lib.hid hload
            clear hn2 hnm h0q h1q hx hy hcell ha7 hb7 hm hj hs hls hvs hls2 hvl hll hP1 hP2 hc3 hc4 hci hload r0 r1 HBF
            go_wp2_with fail
            go_quiet (fail)
            go_upto_region 11 with fail
            have z0 : ∀ n, ((wo.drewN n).alloc (.cells #[.slice none 0 0, .slice none 0 0] 24)).cell? ⟨wo.heap.size, 0, none⟩ = some (.slice none 0 0) := fun n => (Blk.new_ (wo.drewN n) 24 #[.slice none 0 0, .slice none 0 0]).cell 0
            have z1 : ∀ n, ((wo.drewN n).alloc (.cells #[.slice none 0 0, .slice none 0 0] 24)).cell? ⟨wo.heap.size, 1, none⟩ = some (.slice none 0 0) := fun n => (Blk.new_ (wo.drewN n) 24 #[.slice none 0 0, .slice none 0 0]).cell 1
            have y0 : ∀ n, ((wo.drewN n).alloc (.cells #[.slice none 0 0, .slice none 0 0] 24)).frozen? ⟨wo.heap.size, 0, none⟩ = false := fun n => (Blk.new_ (wo.drewN n) 24 #[.slice none 0 0, .slice none 0 0]).free 0
            have y1 : ∀ n, ((wo.drewN n).alloc (.cells #[.slice none 0 0, .slice none 0 0] 24)).frozen? ⟨wo.heap.size, 1, none⟩ = false := fun n => (Blk.new_ (wo.drewN n) 24 #[.slice none 0 0, .slice none 0 0]).free 1
            have x0 : ∀ n o, ((wo.drewN n).alloc o).cell? ⟨g, 0, none⟩ = some (.int .i64 (a : Int)) := fun n o => by
              rw [Below.cell (B := wo.heap.size) ((below_drewN (Below.refl _ _) n).alloc (Nat.le_refl _) o) (lt_of_cell c0)]; exact c0
            go_region
            obtain ⟨w3, hw3⟩ : ∃ x, x = (((wo.drewN (nq + 1)).alloc (.cells #[.slice none 0 0, .slice none 0 0] 24)).setCell ⟨wo.heap.size, 0, none⟩ (.slice P1 vs.length c3)).setCell ⟨wo.heap.size, 1, none⟩ (.slice P2 ls.length c4) := ⟨_, rfl⟩
            rw [← hw3]
            have hb3 : Below wo.heap.size wo w3 := by rw [hw3]; exact (((below_drewN (Below.refl _ _) _).alloc (Nat.le_refl _) _).setCell (p := ⟨wo.heap.size, 0, none⟩) (Nat.le_refl _) _).setCell (p := ⟨wo.heap.size, 1, none⟩) (Nat.le_refl _) _
            have hx3 : Blk w3 wo.heap.size 24 #[.slice P1 vs.length c3, .slice P2 ls.length c4] := by
              rw [hw3]
              exact ((Blk.new_ (wo.drewN (nq + 1)) 24 #[.slice none 0 0, .slice none 0 0]).set_ 0 (.slice P1 vs.length c3)).set_ 1 (.slice P2 ls.length c4)
            have HX3 := Lib.hid hx3; clear hx3
            have HB3 := Lib.hid hb3; clear hb3
            clear hw3 z0 z1 y0 y1 x0 k1 k2 q0 q1 e0 e1
            have HXR : Hid (Blk w3 w.heap.size 24 #[.slice none 0 0, .slice none 0 0]) := Lib.hid (HX.out.below HB3.out HX.out.lt)
            have HNE : Hid (w.heap.size ≠ wo.heap.size) := Lib.hid (by have := HX.out.lt; omega)
            obtain ⟨p, hp⟩ : ∃ p, p = rightB vs ls := ⟨_, rfl⟩
            have HP := Lib.hid hp; clear hp
            have HCI3 := Lib.hid (HCI.out.below HB3.out)
            have HRG : Hid (∀ W, Below w3.heap.size w3 W → Calls Try.prog 21 #[.agg #[.slice P1 vs.length c3, .slice P2 ls.length c4]] W (RgPost p w3)) := Lib.hid fun W hb => (RRight_any (HCI3.out.below hb)).mono fun e w' hh => ⟨by rw [HP.out]; exact hh.1, hb.trans (hh.2.mono hb.size)⟩
            have hdr := below_drew0 w3
            have hr0 : ∀ W, Below w3.heap.size w3 W → W.cell? ⟨w.heap.size, 0, none⟩ = some (.slice none 0 0) := fun W hb => (HXR.out.below hb HXR.out.lt).cell 0
            have hr1 : ∀ W, Below w3.heap.size w3 W → W.cell? ⟨w.heap.size, 1, none⟩ = some (.slice none 0 0) := fun W hb => (HXR.out.below hb HXR.out.lt).cell 1
            have hq0 : ∀ W, Below w3.heap.size w3 W → W.frozen? ⟨w.heap.size, 0, none⟩ = false := fun W hb => (HXR.out.below hb HXR.out.lt).free 0
            have hq1 : ∀ W, Below w3.heap.size w3 W → W.frozen? ⟨w.heap.size, 1, none⟩ = false := fun W hb => (HXR.out.below hb HXR.out.lt).free 1
            go_upto_region 12 with fail
            go_region_held3 (fun W => W.cell? ⟨wo.heap.size, 0, none⟩ = some (.slice P1 vs.length c3) ∧ W.cell? ⟨wo.heap.size, 1, none⟩ = some (.slice P2 ls.length c4)) (first | exact heldN HX3.out (by assumption) | exact heldN HX3.out (below_drewN (by assumption) _) | exact heldS2 HX3.out (by assumption) HNE.out _ _)
              (first | (go_at_call 21; (with_reducible refine (HRG.out _ ?_).mono ?_); (assumption); rintro e wS ⟨rfl, hBS⟩))
            have hBS0 : Below w.heap.size w wS := (HB1.out.trans (HBW.out.mono HB1.out.size)).trans ((HB3.out.mono (Nat.le_of_lt HX.out.lt)).trans (hBS.mono (Nat.le_of_lt HXR.out.lt)))
            have hRS := HXR.out.below hBS HXR.out.lt
            have r0 : ((wS.setCell ⟨w.heap.size, 0, none⟩ (.slice P1 vs.length c3)).setCell ⟨w.heap.size, 1, none⟩ (.slice P2 ls.length c4)).cell? ⟨w.heap.size, 0, none⟩ = some (.slice P1 vs.length c3) := ((hRS.set_ 0 _).set_ 1 _).cell 0
            have r1 : ((wS.setCell ⟨w.heap.size, 0, none⟩ (.slice P1 vs.length c3)).setCell ⟨w.heap.size, 1, none⟩ (.slice P2 ls.length c4)).cell? ⟨w.heap.size, 1, none⟩ = some (.slice P2 ls.length c4) := ((hRS.set_ 0 _).set_ 1 _).cell 1
            have hfr : Frm (fun k => k = w.heap.size) wS ((wS.setCell ⟨w.heap.size, 0, none⟩ (.slice P1 vs.length c3)).setCell ⟨w.heap.size, 1, none⟩ (.slice P2 ls.length c4)) := ((Frm.refl (fun k => k = w.heap.size) wS).setCell (p := ⟨w.heap.size, 0, none⟩) (fun _ => rfl) _).setCell (p := ⟨w.heap.size, 1, none⟩) (fun _ => rfl) _
            have hown : Own fI w1.heap.size 3 ((wS.setCell ⟨w.heap.size, 0, none⟩ (.slice P1 vs.length c3)).setCell ⟨w.heap.size, 1, none⟩ (.slice P2 ls.length c4)) (.slice (some ⟨g, 0, none⟩) ns.length c2) ns := ((HOWN.out.frm (Frm.below HB3.out) (fun _ _ h => h)).frm (Frm.below hBS) (fun _ _ h => h)).frm hfr (fun k h1 h2 => by have := HB1.out.size; have := HLT.out; omega)
            have HCIF : Hid (CI ((wS.setCell ⟨w.heap.size, 0, none⟩ (.slice P1 vs.length c3)).setCell ⟨w.heap.size, 1, none⟩ (.slice P2 ls.length c4)) P1 vs P2 ls) := Lib.hid (HPQ.out _ hown.sl.2)
            have HBF : Hid (Below w.heap.size w ((wS.setCell ⟨w.heap.size, 0, none⟩ (.slice P1 vs.length c3)).setCell ⟨w.heap.size, 1, none⟩ (.slice P2 ls.length c4))) := Lib.hid ((hBS0.setCell (p := ⟨w.heap.size, 0, none⟩) (Nat.le_refl _) _).setCell (p := ⟨w.heap.size, 1, none⟩) (Nat.le_refl _) _)
            clear hBS0 hRS hfr hown hBS hr0 hr1 hq0 hq1 hdr
            go_wp2_with fail
            refine bodyPost_ret (v := .tuple #[.agg #[.slice P1 vs.length c3, .slice P2 ls.length c4], .bool p]) (by simp [results, Try.results35, go_sem, r0, r1]) rfl ?_
            refine ⟨_, _, _, _, _, _, p, rfl, HBF.out, fun hn => ?_, fun vs' ls' hh => ?_⟩
            · rw [HLOAD.out, ← HP.out] at hn
              cases p with
              | false => rfl
              | true => rw [if_pos rfl] at hn; cases hn
            · rw [HLOAD.out, ← HP.out] at hh
              cases p with
              | false => rw [if_neg (by decide)] at hh; cases hh
              | true =>
                rw [if_pos rfl] at hh
                injection hh with hh; injection hh with e1 e2
                subst e1; subst e2
                exact ⟨rfl, rfl, rfl, HCIF.out⟩
          · have t3 : ((ns.length : Int) == (s : Int)) = false := by rw [beq_eq_false_iff_ne]; omega
            have t3' : decide ((ns.length : Int) = (s : Int)) = false := by rw [decide_eq_false_iff_not]; omega
            have t3'' : decide (ns.length = s) = false := by rw [decide_eq_false_iff_not]; omega
            have HN : Hid (res = none) := Lib.hid (by
              rw [HRES.out]
              refine shape_no HSM.out HBN.out fun a' b' h1 h2 e => ?_
              rw [h0q] at h1; injection h1 with h1
              have h3 : a' = a := by omega
              subst h3
              rw [h1q] at h2; injection h2 with h2; omega)
            clear hn2 hnm h0q h1q hx hy hcell ha7 hb7 hm hj hs hls
            go_wp2_with fail
            go_quiet (fail)
            go_wp2_with fail
            refine bodyPost_ret (v := .tuple #[.agg #[.slice none 0 0, .slice none 0 0], .bool false]) (by simp [results, Try.results35, go_sem, r0, r1]) rfl ?_
            exact RlPost.no HN.out (HBF.out _)
    · have hpos : (0 : Int) < (rest.length : Int) := by have := List.length_pos_iff.2 h0; omega
      have HGN := Lib.hid (RGetNum_any (c := c') HSL.out.sl)
      cases hcn : cnt rest with
      | none =>
        have HN : Hid (res = none) := Lib.hid (by rw [HRES.out]; exact ld_stuck HSM.out HBS.out h0 hcn)
        have r0 : ((wo.setCell ⟨w.heap.size, 0, none⟩ (.slice none 0 0)).setCell ⟨w.heap.size, 1, none⟩ (.slice none 0 0)).cell? ⟨w.heap.size, 0, none⟩ = some (.slice none 0 0) := ((HX.out.set_ 0 _).set_ 1 _).cell 0
        have r1 : ((wo.setCell ⟨w.heap.size, 0, none⟩ (.slice none 0 0)).setCell ⟨w.heap.size, 1, none⟩ (.slice none 0 0)).cell? ⟨w.heap.size, 1, none⟩ = some (.slice none 0 0) := ((HX.out.set_ 0 _).set_ 1 _).cell 1
        have HBF : Hid (Below w.heap.size w ((wo.setCell ⟨w.heap.size, 0, none⟩ (.slice none 0 0)).setCell ⟨w.heap.size, 1, none⟩ (.slice none 0 0))) := Lib.hid (((HB1.out.trans (HBW.out.mono HB1.out.size)).setCell (p := ⟨w.heap.size, 0, none⟩) (Nat.le_refl _) _).setCell (p := ⟨w.heap.size, 1, none⟩) (Nat.le_refl _) _)
        rcases cnt_non hcn with hg | ⟨n, k, hg, hk, hnn⟩
        · clear hcn
          go_wp2_with fail
          (with_reducible refine HGN.out.mono ?_); rintro e w2 ⟨-, hno, rfl⟩
          obtain rfl := hno hg
          unfold numV
          go_wp2_with fail
          refine bodyPost_ret (v := .tuple #[.agg #[.slice none 0 0, .slice none 0 0], .bool false]) (by simp [results, Try.results35, go_sem, r0, r1]) rfl ?_
          exact RlPost.no HN.out HBF.out
        · have t1 : ((k : Int) == 0) = false := by rw [beq_eq_false_iff_ne]; omega
          by_cases hn0 : n < 0
          · clear hcn hnn hk
            go_wp2_with fail
            (with_reducible refine HGN.out.mono ?_); rintro e w2 ⟨hye, -, rfl⟩
            obtain rfl := hye _ _ hg
            unfold numV
            go_wp2_with fail
            refine bodyPost_ret (v := .tuple #[.agg #[.slice none 0 0, .slice none 0 0], .bool false]) (by simp [results, Try.results35, go_sem, r0, r1]) rfl ?_
            exact RlPost.no HN.out HBF.out
          · have t3 : (7 : Int) < n := by omega
            clear hcn hnn hk
            go_wp2_with fail
            (with_reducible refine HGN.out.mono ?_); rintro e w2 ⟨hye, -, rfl⟩
            obtain rfl := hye _ _ hg
            unfold numV
            go_wp2_with fail
            refine bodyPost_ret (v := .tuple #[.agg #[.slice none 0 0, .slice none 0 0], .bool false]) (by simp [results, Try.results35, go_sem, r0, r1]) rfl ?_
            exact RlPost.no HN.out HBF.out
      | some p =>
        obtain ⟨n, r⟩ := p
        obtain ⟨k, hg, hk0, hkl, hr, hn0, hn7⟩ := cnt_num hcn
        have hbs := (cnt_some.1 hcn).2
        have t1 : ((k : Int) == 0) = false := by rw [beq_eq_false_iff_ne]; omega
        have t2 : ¬ n < 0 := by omega
        have t3 : ¬ (7 : Int) < n := by omega
        have hcut := cutB A' rest.length c' k hkl
        have hl1 : ns.length + 1 ≤ 2000000 := by
          have h1 := congrArg List.length HBS.out
          rw [List.length_append, hbs, List.length_append] at h1
          have := nums_len ns
          have := (numB_len n).1
          have := HBL.out
          omega
        have H63 : Hid (ns.length + 1 ≤ maxLen) := by show _ ≤ _; unfold maxLen; omega
        have HBY : Hid ((ns.length + 1) * 8 ≤ 140737488355328) := by show _ ≤ _; omega
        have HR := Lib.hid hr; clear hr
        have HBSR := Lib.hid hbs; clear hbs
        have HK : Hid (0 < k ∧ k ≤ rest.length) := Lib.hid ⟨hk0, hkl⟩
        have HN : Hid (0 ≤ n ∧ n ≤ 7) := Lib.hid ⟨hn0, hn7⟩
        have HBZ := Lib.hid HBW.out.size
        clear hcn hl1 hk0 hkl hn0 hn7
        go_wp2_with fail
        (with_reducible refine HGN.out.mono ?_); rintro e w2 ⟨hye, -, rfl⟩
        obtain rfl := hye _ _ hg
        unfold numV
        go_wp2_with (at_builtin; refine wpList_append1 (f := fI) rfl (.tmp 30) (.tmp 32) 22 rfl intTI n (fI_oneI _) rfl HOWN.out rfl rfl H63.out HBY.out HBZ.out ?_; intro v7 w7 hown7 hb7)
        go_roundw
        case rel =>
          refine ⟨ns ++ [n], r, partA A' c' k, c' - k, ?_, ?_, hown7, ?_, ?_, ?_, ?_, ?_⟩
          · intro m hm
            rcases List.mem_append.1 hm with h | h
            · exact HSM.out m h
            · rw [List.mem_singleton] at h; subst h; exact HN.out
          · rw [numsB_snoc, List.append_assoc, ← HBSR.out]; exact HBS.out
          · rw [HR.out, List.length_drop]
          · rw [HR.out]; exact (HSL.out.cutL k HK.out.2 HRC.out).frm (Frm.of_below hb7) (fun g h => by have := HB1.out.size; omega)
          · rw [HR.out, List.length_drop]; have := HRC.out; omega
          · have := HCM.out; omega
          · exact HBW.out.trans hb7
        case measure => simp [lenV]; have := HK.out; omega
end Go.Proofs.Ytilefofpfbgikaa
