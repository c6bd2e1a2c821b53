/- Layer 15: the document's Middle; the law's closures; the law ConfMiddle. -/
import Derived.Test.YtilefofpfbgikaaMid
namespace Go.Proofs.Ytilefofpfbgikaa
open Go.RowKit Go.Maps Mem Mid

/-- the document's inner loop -/
def RmIn (xs : List Int) (x : Int) (w : World) (nv kv : Value) (wr : World) : Prop :=
  ∃ k m : Nat, k ≤ xs.length ∧ kv = .int .i64 k ∧ nv = .int .i64 (reach (xs.take k) x) ∧ reach (xs.take k) x ≤ k ∧ wr = w.drewN m
def RmOut (xs : List Int) (w : World) (bv fv iv : Value) (wr : World) : Prop :=
  ∃ k m : Nat, k ≤ xs.length ∧ iv = .int .i64 k ∧ bv = .int .i64 (bestTo xs k).1 ∧ fv = .bool (bestTo xs k).2 ∧ wr = w.drewN m
theorem reach_take_yes {xs : List Int} {x : Int} {k : Nat} (h : k < xs.length) (hx : x ≤ xs[k]) : reach (xs.take (k + 1)) x = reach (xs.take k) x + 1 := by
  rw [List.take_succ_eq_append_getElem h]; unfold reach; rw [List.countP_append]; simp [hx]
theorem reach_take_no {xs : List Int} {x : Int} {k : Nat} (h : k < xs.length) (hx : ¬ x ≤ xs[k]) : reach (xs.take (k + 1)) x = reach (xs.take k) x := by
  rw [List.take_succ_eq_append_getElem h]; unfold reach; rw [List.countP_append]; simp [hx]
set_option maxHeartbeats 1000000 in
theorem RMiddle_any (A : Option Addr) (c : Nat) (xs : List Int) (w : World) (hs : Sl fI w A xs) (hr : xs.length * 8 ≤ 140737488355328) :
    Calls Try.prog 19 #[.slice A xs.length c] w (Quiet (.int .i64 (best xs)) w) := by
  have hl := hs.len
  have hl2 : xs.length ≤ 20000000000000 := by omega
  have HL2 := Lib.hid hl2; clear hl2 hr
  have HS := Lib.hid hs; clear hs
  go_enter Try.func19, Try.ntmps19
  go_wp2_with fail
  go_loopw [3, 4, 5] (fun bv fv iv wr => RmOut xs w bv fv iv wr) (fun _ _ iv _ => xs.length - (intOf iv).toNat)
  case atStart => exact ⟨0, 0, Nat.zero_le _, rfl, rfl, rfl, rfl⟩
  case round =>
    obtain ⟨k, m, hk, rfl, rfl, rfl, rfl⟩ := hrel
    by_cases hlt : k < xs.length
    · obtain ⟨b, o, rfl, _, hc⟩ := HS.out.at hlt
      have hck := hc k hlt
      obtain ⟨x, hx⟩ : ∃ x, x = xs[k] := ⟨_, rfl⟩
      have HBS : Hid (bestTo xs (k + 1) = bestStep xs (bestTo xs k) x) := by rw [hx]; exact bestTo_succ hlt
      rw [← hx] at hck
      have HC := Lib.hid hc; clear hc hx
      obtain ⟨st, hst⟩ : ∃ st, st = bestTo xs k := ⟨_, rfl⟩
      rw [← hst] at HBS ⊢
      clear hst
      obtain ⟨bb, bf⟩ := st
      simp only at HBS ⊢
      unfold fI at hck
      have HCK := Lib.hid hck; clear hck
      go_wp2_with fail
      go_loopw [6, 7] (fun nv kv wr => RmIn xs x w nv kv wr) (fun _ kv _ => xs.length - (intOf kv).toNat)
      case atStart => exact ⟨0, m, Nat.zero_le _, rfl, rfl, Nat.zero_le _, rfl⟩
      case round =>
        obtain ⟨j, m2, hj, rfl, rfl, hrj, rfl⟩ := hrel
        by_cases hjl : j < xs.length
        · have hcj := HC.out j hjl
          obtain ⟨y, hy⟩ : ∃ y, y = xs[j] := ⟨_, rfl⟩
          rw [← hy] at hcj
          unfold fI at hcj
          have hck := HCK.out
          have hj0 : (0 : Int) ≤ (j : Int) := by omega
          have hj1 : (j : Int) < (xs.length : Int) := by omega
          have hk0 : (0 : Int) ≤ (k : Int) := by omega
          have hk1 : (k : Int) < (xs.length : Int) := by omega
          obtain ⟨R, hR⟩ : ∃ R, R = reach (xs.take j) x := ⟨_, rfl⟩
          rw [← hR] at hrj ⊢
          by_cases hxy : x ≤ y
          · have HR1 : Hid (reach (xs.take (j + 1)) x = R + 1) := by rw [hR]; exact reach_take_yes hjl (by rw [← hy]; exact hxy)
            clear hR hy
            go_wp2_with fail
            go_quiet (fail)
            go_wp2_with fail
            go_roundw
            case rel => exact ⟨j + 1, m2 + nq, by omega, by go_num, by rw [HR1.out]; go_num, by rw [HR1.out]; omega, rfl⟩
            case measure => simp [intOf]; omega
          · have HR1 : Hid (reach (xs.take (j + 1)) x = R) := by rw [hR]; exact reach_take_no hjl (by rw [← hy]; exact hxy)
            clear hR hy
            go_wp2_with fail
            go_quiet (fail)
            go_wp2_with fail
            go_roundw
            case rel => exact ⟨j + 1, m2 + nq, by omega, by go_num, by rw [HR1.out], by rw [HR1.out]; omega, rfl⟩
            case measure => simp [intOf]; omega
        · have hjj : j = xs.length := by omega
          have HRR : Hid (reach (xs.take j) x = reach xs x) := by rw [hjj, List.take_length]; exact Lib.hid rfl
          obtain ⟨R, hR⟩ : ∃ R, R = reach (xs.take j) x := ⟨_, rfl⟩
          rw [← hR] at hrj HRR ⊢
          clear hR hjj
          have hck := HCK.out
          have h2 := HL2.out
          have h3 : xs.length ≤ 20000000000000 := h2
          have hr2 : 2 * R ≤ 9223372036854775807 := by omega
          have HR2 := Lib.hid hr2
          clear h2 h3
          by_cases h1 : xs.length < 2 * R
          · by_cases h4 : bf = false ∨ bb < x
            · have HN : Hid (bestTo xs (k + 1) = (x, true)) := by
                show _ = _; rw [HBS.out]; unfold bestStep; rw [if_pos ⟨by rw [← HRR.out]; exact h1, h4⟩]
              cases bf with
              | false =>
                go_wp2_with fail
                go_roundw
                case rel => exact ⟨k + 1, m2, by omega, by go_num, by rw [HN.out], by rw [HN.out], rfl⟩
                case measure => simp [intOf]; omega
              | true =>
                have h5 : bb < x := h4.resolve_left (by simp)
                clear h4
                go_wp2_with fail
                go_roundw
                case rel => exact ⟨k + 1, m2, by omega, by go_num, by rw [HN.out], by rw [HN.out], rfl⟩
                case measure => simp [intOf]; omega
            · have HN : Hid (bestTo xs (k + 1) = (bb, bf)) := by
                show _ = _; rw [HBS.out]; unfold bestStep; rw [if_neg (fun h => h4 h.2)]
              cases bf with
              | false => exact absurd (Or.inl rfl) h4
              | true =>
                have h5 : ¬ bb < x := fun h => h4 (.inr h)
                clear h4
                go_wp2_with fail
                go_roundw
                case rel => exact ⟨k + 1, m2, by omega, by go_num, by rw [HN.out], by rw [HN.out], rfl⟩
                case measure => simp [intOf]; omega
          · have HN : Hid (bestTo xs (k + 1) = (bb, bf)) := by
              show _ = _; rw [HBS.out]; unfold bestStep; rw [if_neg (fun h => h1 (by rw [HRR.out]; exact h.1))]
            go_wp2_with fail
            go_roundw
            case rel => exact ⟨k + 1, m2, by omega, by go_num, by rw [HN.out], by rw [HN.out], rfl⟩
            case measure => simp [intOf]; omega
    · have hkk : k = xs.length := by omega
      have HKK := Lib.hid hkk; clear hkk
      go_wp2_with fail
      go_ret
      exact ⟨by unfold best; rw [HKK.out]; rfl, m, rfl⟩
/-- the law's first closure: what one has reached -/
def atF (ns : List Int) (x : Int) : Int := if 1 ≤ x ∧ x ≤ (ns.length : Int) then ns.getD (x - 1).toNat 0 else 0
theorem at_any {W : World} (A : Option Addr) (c : Nat) (ns : List Int) (b : Nat) (hb : W.cell? ⟨b, 0, none⟩ = some (.slice A ns.length c)) (hs : Sl fI W A ns) (x : Int) :
    Calls Try.prog 15 (#[.int .i64 x] ++ #[.pointer (some ⟨b, 0, none⟩)]) W fun e w' => e = .returned (.int .i64 (atF ns x)) ∧ W = w' := by
  have hl := hs.len
  by_cases h1 : 1 ≤ x
  · by_cases h2 : x ≤ (ns.length : Int)
    · obtain ⟨k, hk⟩ : ∃ k : Nat, x = (k : Int) + 1 := ⟨(x - 1).toNat, by omega⟩
      subst hk
      have hkl : k < ns.length := by omega
      obtain ⟨b2, o2, rfl, _, hc⟩ := hs.at hkl
      have hck := hc k hkl
      have hat : atF ns ((k : Int) + 1) = ns[k] := by
        unfold atF
        rw [if_pos ⟨h1, h2⟩]
        have : ((k : Int) + 1 - 1).toNat = k := by omega
        rw [this, List.getD_eq_getElem?_getD, List.getElem?_eq_getElem hkl, Option.getD_some]
      have HAT := Lib.hid hat; clear hat hc hs
      unfold fI at hck
      obtain ⟨y, hy⟩ : ∃ y, y = ns[k] := ⟨_, rfl⟩
      rw [← hy] at hck HAT
      clear hy
      go_enter Try.func15, Try.ntmps15
      go_wp2_with fail
      go_ret
      exact ⟨by rw [HAT.out]; rfl, rfl⟩
    · have HAT : Hid (atF ns x = 0) := by show _ = _; unfold atF; rw [if_neg (fun h => h2 h.2)]
      clear hs
      go_enter Try.func15, Try.ntmps15
      go_wp2_with fail
      go_ret
      exact ⟨by rw [HAT.out]; rfl, rfl⟩
  · have HAT : Hid (atF ns x = 0) := by show _ = _; unfold atF; rw [if_neg (fun h => h1 h.1)]
    clear hs
    go_enter Try.func15, Try.ntmps15
    go_wp2_with fail
    go_ret
    exact ⟨by rw [HAT.out]; rfl, rfl⟩
theorem ten_any {W : World} (x : Int) (h1 : -1000 ≤ x) (h2 : x ≤ 1000) :
    Calls Try.prog 18 (#[.int .i64 x] ++ #[]) W fun e w' => e = .returned (.int .i64 (10 * x)) ∧ W = w' := by
  go_enter Try.func18, Try.ntmps18
  go_wp2_with fail
  go_ret
  exact ⟨rfl, rfl⟩
/-- three voters, and one who learns -/
def ThreePost (w : World) (e : Ending) (w' : World) : Prop :=
  ∃ A B, e = .returned (.agg #[.slice A 3 3, .slice B 1 1]) ∧ Sl fI w' A [1, 2, 3] ∧ Sl fI w' B [4] ∧ Below w.heap.size w w'
theorem three_any (w : World) : Calls Try.prog 17 #[] w (ThreePost w) := by
  go_enter Try.func17, Try.ntmps17
  go_wp2_with fail
  obtain ⟨w1, hw1⟩ : ∃ x, x = w.alloc (.cells #[.slice (some ⟨w.heap.size + 1, 0, none⟩) 3 3, .slice (some ⟨w.heap.size + 1 + 1, 0, none⟩) 1 1] 24) := ⟨_, rfl⟩
  rw [← hw1]
  have hz : w1.heap.size = w.heap.size + 1 := by rw [hw1]; simp
  have hb1 : Below w.heap.size w w1 := by rw [hw1]; exact (Below.refl _ _).alloc (Nat.le_refl _) _
  have hx : Blk w1 w.heap.size 24 #[.slice (some ⟨w.heap.size + 1, 0, none⟩) 3 3, .slice (some ⟨w.heap.size + 1 + 1, 0, none⟩) 1 1] := by rw [hw1]; exact Blk.new_ w _ _
  have h2 := Sl.lit (f := fI) (w := w1) (t := 3) [1, 2, 3] (by unfold maxLen; decide)
  obtain ⟨w2, hw2⟩ : ∃ x, x = w1.alloc (.cells #[.int .i64 1, .int .i64 2, .int .i64 3] 3) := ⟨_, rfl⟩
  rw [← hw2]
  have hb2 : Below w1.heap.size w1 w2 := by rw [hw2]; exact (Below.refl _ _).alloc (Nat.le_refl _) _
  have h2' : Sl fI w2 (some ⟨w1.heap.size, 0, none⟩) [1, 2, 3] := by rw [hw2]; exact h2
  have hz2 : w2.heap.size = w.heap.size + 1 + 1 := by rw [hw2, World.size_alloc, hz]
  have h3 := Sl.lit (f := fI) (w := w2) (t := 3) [4] (by unfold maxLen; decide)
  obtain ⟨w3, hw3⟩ : ∃ x, x = w2.alloc (.cells #[.int .i64 4] 3) := ⟨_, rfl⟩
  rw [← hw3]
  have hb3 : Below w2.heap.size w2 w3 := by rw [hw3]; exact (Below.refl _ _).alloc (Nat.le_refl _) _
  have h3' : Sl fI w3 (some ⟨w2.heap.size, 0, none⟩) [4] := by rw [hw3]; exact h3
  have hx3 := (hx.below hb2 hx.lt).below hb3 (Nat.lt_of_lt_of_le hx.lt hb2.size)
  have r0 : w3.cell? ⟨w.heap.size, 0, none⟩ = some (.slice (some ⟨w.heap.size + 1, 0, none⟩) 3 3) := hx3.cell 0
  have r1 : w3.cell? ⟨w.heap.size, 1, none⟩ = some (.slice (some ⟨w.heap.size + 1 + 1, 0, none⟩) 1 1) := hx3.cell 1
  refine bodyPost_ret (v := .agg #[.slice (some ⟨w.heap.size + 1, 0, none⟩) 3 3, .slice (some ⟨w.heap.size + 1 + 1, 0, none⟩) 1 1]) (by simp [results, Try.results17, go_sem, r0, r1]) rfl ?_
  exact ⟨_, _, rfl, by rw [← hz]; exact h2'.below hb3, by rw [← hz2]; exact h3', hb1.trans ((hb2.trans (hb3.mono hb2.size)).mono hb1.size)⟩
/-- the law's loop -/
def CmRel (vs ns : List Int) (w1 : World) (nv iv : Value) (wr : World) : Prop :=
  ∃ k : Nat, k ≤ vs.length ∧ iv = .int .i64 k ∧ Own fI w1.heap.size 2 wr nv ((vs.take k).map (atF ns)) ∧ Below w1.heap.size w1 wr
set_option maxRecDepth 100000 in
set_option maxHeartbeats 4000000 in
theorem confMiddle_go {w : World} (A : Option Addr) (cA : Nat) (vs : List Int) (hs : Sl fI w A vs) (hr : vs.length * 8 ≤ 140737488351232) (L : Value) (Bn : Option Addr) (cB : Nat) (ns : List Int) (hn : Sl fI w Bn ns) :
    Calls Try.prog 3 #[.agg #[.slice A vs.length cA, L], .slice Bn ns.length cB] w fun e w' => e = .returned (.bool true) ∧ Below w.heap.size w w' := by
  have hmf : ∀ (fn : Fn) (first cap : Array Value) (w : World), (Instr.makeFunc fn first cap).run Try.prog w = .ok (.func fn first cap) w := fun _ _ _ _ => rfl
  have hl := hs.len
  have HR := Lib.hid hr; clear hr
  have HS := Lib.hid hs; clear hs
  have HN := Lib.hid hn; clear hn
  go_enter Try.func3, Try.ntmps3
  go_upto_region 2 with fail
  obtain ⟨w1, hw1⟩ : ∃ x, x = (w.alloc (.cells #[.slice A vs.length cA, L] 24)).alloc (.cells #[.slice Bn ns.length cB] 25) := ⟨_, rfl⟩
  rw [← hw1]
  have hb1 : Below w.heap.size w w1 := by rw [hw1]; exact ((Below.refl _ _).alloc (Nat.le_refl _) _).alloc (by simp) _
  have hx1 : Blk w1 w.heap.size 24 #[.slice A vs.length cA, L] := by rw [hw1]; exact (Blk.new_ w _ _).alloc _
  have hx2 : Blk w1 (w.heap.size + 1) 25 #[.slice Bn ns.length cB] := by
    have := Blk.new_ (w.alloc (.cells #[.slice A vs.length cA, L] 24)) 25 #[.slice Bn ns.length cB]
    rw [World.size_alloc] at this; rw [hw1]; exact this
  have HX1 := Lib.hid hx1; clear hx1
  have HX2 := Lib.hid hx2; clear hx2
  have HB1 := Lib.hid hb1; clear hb1
  clear hw1
  go_wp2_with fail
  (with_reducible refine (three_any w1).mono ?_); rintro e w2 ⟨A1, A2, rfl, hs1, _, hb2⟩
  have HB2 : Hid (Below w.heap.size w w2) := HB1.out.trans (hb2.mono HB1.out.size)
  have HX1 := Lib.hid (HX1.out.below hb2 HX1.out.lt)
  have HX2 := Lib.hid (HX2.out.below hb2 HX2.out.lt)
  have hmid := Middle_any A1 3 [1, 2, 3] hs1 (by decide) (.slice A2 1 1) 18 #[] (fun x => 10 * x) (enters_of Try.func18 (by kernel_rfl) rfl)
    (fun W x _ hx => (ten_any x (by simp at hx; omega) (by simp at hx; omega)).mono fun e w' ⟨h1, h2⟩ => ⟨h1, h2 ▸ Below.refl _ _⟩)
  have h20 : middle ([1, 2, 3].map (fun x => 10 * x)) = 20 := by rw [middle_best]; decide
  have h3l : ([1, 2, 3] : List Int).length = 3 := rfl
  rw [h20, h3l] at hmid
  have HMID := Lib.hid hmid; clear hmid h20 hs1 hb2
  go_wp2_with fail
  (with_reducible refine HMID.out.mono ?_); rintro e w3 ⟨rfl, hb3⟩
  have HB3 : Hid (Below w.heap.size w w3) := HB2.out.trans (hb3.mono HB2.out.size)
  have HX1 := Lib.hid (HX1.out.below hb3 HX1.out.lt)
  have HX2 := Lib.hid (HX2.out.below hb3 HX2.out.lt)
  clear hb3 HB2 HB1 HMID
  have d0 : w3.cell? ⟨w.heap.size, 0, none⟩ = some (.slice A vs.length cA) := HX1.out.cell 0
  have d1 : w3.cell? ⟨w.heap.size + 1, 0, none⟩ = some (.slice Bn ns.length cB) := HX2.out.cell 0
  go_upto_region 5 with fail
  obtain ⟨w4, hw4⟩ : ∃ x, x = w3.alloc (.cells #[] 2) := ⟨_, rfl⟩
  have hown4 : Own fI w3.heap.size 2 w4 (.slice (some ⟨w3.heap.size, 0, none⟩) 0 0) ([] : List Int) := by rw [hw4]; exact Own.mk_ (Nat.le_refl _)
  have hb4 : Below w3.heap.size w3 w4 := by rw [hw4]; exact (Below.refl _ _).alloc (Nat.le_refl _) _
  rw [← hw4]
  have HOWN4 := Lib.hid hown4; clear hown4
  have HB4 := Lib.hid hb4; clear hb4 d0
  have d0 : w4.cell? ⟨w.heap.size, 0, none⟩ = some (.slice A vs.length cA) := (HX1.out.below HB4.out HX1.out.lt).cell 0
  clear hw4 d1
  go_wp2_with fail
  go_loopw [6, 17] (fun nv iv wr => CmRel vs ns w3 nv iv wr) (fun _ iv _ => vs.length - (intOf iv).toNat)
  case atStart => exact ⟨0, Nat.zero_le _, rfl, HOWN4.out, HB4.out⟩
  case round =>
    obtain ⟨k, hk, rfl, hown, hbw⟩ := hrel
    have HOWN := Lib.hid hown; clear hown
    have HBW := Lib.hid hbw; clear hbw
    have HX1r := Lib.hid (HX1.out.below HBW.out HX1.out.lt)
    have HX2r := Lib.hid (HX2.out.below HBW.out HX2.out.lt)
    have HBw : Hid (Below w.heap.size w wr) := HB3.out.trans (HBW.out.mono HB3.out.size)
    have HNr := Lib.hid (HN.out.below HBw.out)
    by_cases hlt : k < vs.length
    · obtain ⟨b, o, rfl, _, hc⟩ := (HS.out.below HBw.out).at hlt
      replace hc := hc k hlt
      obtain ⟨x, hx⟩ : ∃ x, x = vs[k] := ⟨_, rfl⟩
      have HMT : Hid ((vs.take (k + 1)).map (atF ns) = (vs.take k).map (atF ns) ++ [atF ns x]) := by rw [hx]; exact mapTake_succ hlt
      rw [← hx] at hc
      unfold fI at hc
      clear hx
      have hcall : Calls Try.prog 15 #[.int .i64 x, .pointer (some ⟨w.heap.size + 1, 0, none⟩)] wr _ := at_any Bn cB ns (w.heap.size + 1) (HX2r.out.cell 0) HNr.out x
      have HCALL := Lib.hid hcall; clear hcall
      obtain ⟨M, hM⟩ : ∃ M, M = (vs.take k).map (atF ns) := ⟨_, rfl⟩
      obtain ⟨y, hy⟩ : ∃ y, y = atF ns x := ⟨_, rfl⟩
      have hMl : M.length = k := by rw [hM]; exact mapTake_len hk
      rw [← hM] at HOWN HMT
      rw [← hy] at HMT HCALL
      clear hM hy
      have hby : (M.length + 1) * 8 ≤ 140737488355328 := by have h3 := HR.out; have h4 : vs.length * 8 ≤ 140737488351232 := h3; omega
      have HBY := Lib.hid hby; clear hby
      have h63 : M.length + 1 ≤ maxLen := by unfold maxLen; omega
      have H63 := Lib.hid h63; clear h63
      have HML := Lib.hid hMl; clear hMl
      go_wp2_with fail
      (with_reducible refine HCALL.out.mono ?_); rintro e w2 ⟨rfl, rfl⟩
      go_wp2_with (at_builtin; refine wpList_append1t (f := fI) rfl (.tmp 21) (.tmp 25) 25 rfl i64T y (fI_one _) rfl HOWN.out rfl rfl H63.out HBY.out HBW.out.size ?_; intro v7 w7 hown7 hg7)
      go_roundw
      case rel => exact ⟨k + 1, hlt, by go_num, by rw [HMT.out]; exact hown7, (HBW.out.alloc HBW.out.size _).trans ((HOWN.out.alloc _).below_ (by rw [World.size_alloc]; exact Nat.le_succ_of_le HBW.out.size) hg7)⟩
      case measure => simp [intOf]; omega
    · have hkn : k = vs.length := by omega
      have HO : Hid (Own fI w3.heap.size 2 wr u6 (vs.map (atF ns))) := by have h1 := HOWN.out; rw [hkn, List.take_length] at h1; exact h1
      clear HOWN hkn
      obtain ⟨A5, c5, rfl⟩ := HO.out.form
      have hml : (vs.map (atF ns)).length = vs.length := List.length_map ..
      have e0 : wr.cell? ⟨w.heap.size, 0, none⟩ = some (.slice A vs.length cA) := HX1r.out.cell 0
      have e1 : wr.cell? ⟨w.heap.size, 1, none⟩ = some L := HX1r.out.cell 1
      have hmid := Middle_any (w := wr) A cA vs (HS.out.below HBw.out) (Nat.le_trans HR.out (by decide)) L 15 #[.pointer (some ⟨w.heap.size + 1, 0, none⟩)] (atF ns) (enters_of Try.func15 (by kernel_rfl) rfl)
        (fun W x hb _ => (at_any Bn cB ns (w.heap.size + 1) ((HX2r.out.below hb HX2r.out.lt).cell 0) (HNr.out.below hb) x).mono fun e w' ⟨h1, h2⟩ => ⟨h1, h2 ▸ Below.refl _ _⟩)
      rw [middle_best] at hmid
      have HMID := Lib.hid hmid; clear hmid
      obtain ⟨y, hy⟩ : ∃ y, y = best (vs.map (atF ns)) := ⟨_, rfl⟩
      have hrm := fun W (h : Sl fI W A5 (vs.map (atF ns))) => RMiddle_any A5 c5 (vs.map (atF ns)) W h (by rw [hml]; exact Nat.le_trans HR.out (by decide))
      rw [← hy] at HMID hrm
      have HRM := Lib.hid hrm; clear hrm hy
      go_wp2_with fail
      (with_reducible refine HMID.out.mono ?_); rintro e w2 ⟨rfl, hb2⟩
      have hrm := HRM.out w2 ((HO.out.below hb2).sl.2)
      rw [hml] at hrm
      have HRM2 := Lib.hid hrm; clear hrm
      go_wp2_with fail
      (with_reducible refine HRM2.out.mono ?_); rintro e w5 ⟨rfl, k5, rfl⟩
      go_wp2_with fail
      go_ret
      exact ⟨by simp, below_drewN (HBw.out.trans (hb2.mono HBw.out.size)) k5⟩
end Go.Proofs.Ytilefofpfbgikaa
