/- Layer 1: SameKeys; the walk of the law FloSort. -/
import Derived.Test.YtdgliljmmokjnaaFst3
import Derived.Deep.QuietTactic
import Derived.BigQuiet
namespace Go.Proofs.Ytdgliljmmokjnaa
open Go.RowKit Go.Maps Go.Sort Go.Shelf Go.Lib Mem

def QuietF (v : Value) (w : World) (e : Ending) (w' : World) : Prop := e = .returned v ∧ ∃ m, w' = w.drewN m
def EqRelF (xs ys : List Nat) (w : World) (i : Value) (wr : World) : Prop := ∃ k m : Nat, k ≤ xs.length ∧ i = .int .i64 k ∧ xs.take k = ys.take k ∧ wr = w.drewN m
theorem take_snoc_eqF {xs ys : List Nat} {k : Nat} (hx : k < xs.length) (hy : k < ys.length) (h : xs.take k = ys.take k) (h1 : xs[k] = ys[k]) : xs.take (k + 1) = ys.take (k + 1) := by
  rw [List.take_succ_eq_append_getElem hx, List.take_succ_eq_append_getElem hy, h, h1]
set_option maxHeartbeats 1000000 in
theorem SameKeys_any (A B : Option Addr) (c d : Nat) (xs ys : List Nat) (w : World) (hs : Sl fF w A xs) (ht : Sl fF w B ys) :
    Calls Try.prog 35 #[.slice A xs.length c, .slice B ys.length d] w (QuietF (.bool (decide (xs = ys))) w) := by
  have hl := hs.len
  have hl2 := ht.len
  have hbits := run_f64bits
  by_cases hlen : xs.length = ys.length
  · have HLEN := Lib.hid hlen
    have t1 : ((xs.length : Int) != (ys.length : Int)) = false := by rw [hlen]; simp
    clear hlen
    go_enter Try.func35, Try.ntmps35
    go_wp2_with fail
    go_loopw [5] (fun i wr => EqRelF xs ys w i wr) (fun i _ => xs.length - (intOf i).toNat)
    case atStart => exact ⟨0, 0, Nat.zero_le _, rfl, rfl, rfl⟩
    case round =>
      obtain ⟨k, m, hk, rfl, heq, rfl⟩ := hrel
      have HEQ := Lib.hid heq; clear heq
      by_cases hlt : k < xs.length
      · have hlt2 : k < ys.length := by have := HLEN.out; omega
        obtain ⟨b, o, rfl, _, hc⟩ := hs.at hlt
        obtain ⟨b2, o2, rfl, _, hc2⟩ := ht.at hlt2
        have hck := hc k hlt
        have hck2 := hc2 k hlt2
        unfold fF at hck hck2
        clear hc hc2 t1
        have hk0 : (0 : Int) ≤ (k : Int) := by omega
        have hk1 : (k : Int) < (xs.length : Int) := by omega
        have hk2 : (k : Int) < (ys.length : Int) := by omega
        by_cases hv : xs[k] = ys[k]
        · have hsn := take_snoc_eqF hlt hlt2 HEQ.out hv
          have HSN := Lib.hid hsn; clear hsn
          rw [← hv] at hck2
          clear hv
          go_wp2_with fail
          go_quiet (fail)
          go_wp2_with fail
          go_roundw
          case rel => exact ⟨k + 1, _, by omega, by go_num, HSN.out, rfl⟩
          case measure => simp [intOf]; omega
        · have t2 : ((xs[k] : Int) == (ys[k] : Int)) = false := by rw [beq_eq_false_iff_ne]; omega
          have t3 : ((xs[k] : Int) != (ys[k] : Int)) = true := by rw [bne_iff_ne]; omega
          have hne : xs ≠ ys := by intro e; subst e; exact hv rfl
          have HNE := Lib.hid hne; clear hne hv
          go_wp2_with fail
          go_quiet (fail)
          go_wp2_with fail
          go_ret
          exact ⟨ret_bool (by rw [decide_eq_false HNE.out]), _, World.drewN_drewN ..⟩
      · go_wp2_with fail
        go_ret
        have h1 := HEQ.out
        rw [List.take_of_length_le (by omega), List.take_of_length_le (by have := HLEN.out; omega)] at h1
        exact ⟨ret_bool (by rw [decide_eq_true h1]), _, rfl⟩
  · have t1 : ((xs.length : Int) != (ys.length : Int)) = true := by rw [bne_iff_ne]; omega
    have hne : xs ≠ ys := fun e => hlen (by rw [e])
    have HNE := Lib.hid hne; clear hne
    go_enter Try.func35, Try.ntmps35
    go_wp2_with fail
    go_ret
    exact ⟨ret_bool (by rw [decide_eq_false HNE.out]), 0, rfl⟩
def L3 : List Nat := [4611686018427387904, 4607182418800017408, 4611686018427387904]
theorem L3_lt : ∀ x ∈ L3, x < Flo.W := by decide
theorem L3_srt : srt (L3.map Flo.code) = [13830554455654793216, 13835058055282163712] := by decide
theorem outs3 : ∃ a b, outs L3 = [a, b] ∧ fD a = .float .f64 4607182418800017408 := by
  have h := outs_bits L3_lt
  rw [L3_srt] at h
  match ho : outs L3, h with
  | [], h => simp at h
  | [a], h => simp at h
  | [a, b], h =>
    simp only [List.map_cons, List.map_nil, List.cons.injEq, and_true] at h
    refine ⟨a, b, rfl, ?_⟩
    rw [h.1]
    show Value.float .f64 (Flo.raw 13830554455654793216) = _
    rw [show Flo.raw 13830554455654793216 = 4607182418800017408 from by decide]
  | a :: b :: c :: r, h => simp at h
theorem one_eqS : (FloatKind.f64.format.order 4607182418800017408 4607182418800017408 != some Ordering.eq) = false := by rw [Flo.order_self]; decide
def bitsOf (xs : List Nat) : List Nat := (srt (xs.map Flo.code)).map Flo.raw
theorem bitsOf_ref (xs : List Nat) : (srt (xs.map Flo.code)).map fC = (bitsOf xs).map fF := by unfold bitsOf; rw [List.map_map]; rfl
theorem bitsOf_len {xs : List Nat} (hx : ∀ x ∈ xs, x < Flo.W) : (bitsOf xs).length = (outs xs).length := by unfold bitsOf; rw [List.length_map, outs_len hx]
theorem bitsOf_len2 (xs : List Nat) : (bitsOf xs).length = (srt (xs.map Flo.code)).length := by unfold bitsOf; rw [List.length_map]
def FlRel (g : Nat) (c : Nat) (n : Nat) (w4 : World) (iv : Value) (wr : World) : Prop :=
  ∃ (k : Nat) (ys : List Nat), k ≤ n ∧ ys.length = n ∧ iv = .int .i64 k ∧ Own fF w4.heap.size 22 wr (.slice (some ⟨g, 0, none⟩) n c) ys ∧ Below w4.heap.size w4 wr
set_option maxRecDepth 100000 in
set_option maxHeartbeats 4000000 in
theorem floSort_go (A : Option Addr) (c : Nat) (xs : List Nat) (hx : ∀ x ∈ xs, x < Flo.W) (hlen : lenB xs.length) (w : World) (hs : Sl (Value.float .f64) w A xs) :
    Calls Try.prog 12 #[.slice A xs.length c] w fun e w' => e = .returned (.bool true) ∧ Below w.heap.size w w' := by
  have hl := hs.len
  have HS := Lib.hid hs; clear hs
  have HX := Lib.hid hx; clear hx
  have HLEN := Lib.hid hlen; clear hlen
  obtain ⟨a3, b3, ho3, hf3⟩ := outs3
  have h3 := Sl.lit (f := Value.float .f64) (w := w) (t := 22) L3 (by unfold maxLen; decide)
  have hc3 := fsort_any (some ⟨w.heap.size, 0, none⟩) 3 L3 L3_lt (by unfold lenB; decide) _ h3
  unfold FsPost at hc3
  rw [ho3] at hc3
  have hlw : (L3.map (Value.float .f64)).toArray = #[.float .f64 4611686018427387904, .float .f64 4607182418800017408, .float .f64 4611686018427387904] := rfl
  have hll : L3.length = 3 := rfl
  have hl2 : [a3, b3].length = 2 := rfl
  rw [hlw, hll, hl2] at hc3
  have HC3 := Lib.hid hc3; clear hc3 hlw hll hl2 h3
  have HF3 := Lib.hid hf3; clear hf3 ho3
  have hone := one_eqS
  have HONE := Lib.hid hone; clear hone
  have hst := fun (a : Addr) (r : Nat) (w : World) => run_store Try.prog w a (.float .f64 r) .plain rfl
  have HST := Lib.hid hst; clear hst
  go_enter Try.func12, Try.ntmps12
  go_wp2_with fail
  (with_reducible refine HC3.out.mono ?_); rintro e w1 ⟨A1, c1, rfl, hown1, hb1⟩
  have HB1 : Hid (Below w.heap.size w w1) := ((Below.refl _ _).alloc (Nat.le_refl _) _).trans (hb1.mono (by rw [World.size_alloc]; omega))
  obtain ⟨g1, hg1, _, _, hc0, _⟩ := hown1.slot (k := 0) (by simp)
  subst hg1
  have hcell1 : w1.cell? ⟨g1, 0, none⟩ = some (.float .f64 4607182418800017408) := by rw [hc0]; show some (fD a3) = _; rw [HF3.out]
  clear hc0
  have hone := HONE.out
  clear hown1 hb1 HC3
  go_upto_region 4 with fail
  clear hcell1 hone
  have HS1 := Lib.hid (HS.out.below HB1.out)
  have hrm : xs.length ≤ maxLen ∧ xs.length * 8 ≤ 140737488355328 := by have := HLEN.out; unfold lenB at this; exact ⟨by unfold maxLen; omega, by omega⟩
  have HRM := Lib.hid hrm; clear hrm
  go_wp2_with (at_builtin; refine wpList_appendNt (f := fF) rfl (.tmp 18) (.tmp 19) 35 rfl f64T rfl (Own.mk_ (Nat.le_refl _)) rfl (HS1.out.below ((Below.refl _ _).alloc (Nat.le_refl _) _)) fF_one (by rw [List.length_nil, Nat.zero_add]; exact HRM.out.1) (by rw [List.length_nil, Nat.zero_add]; exact HRM.out.2) (by rw [World.size_alloc]; omega) ?_; intro v6 w6 hown6 hg6)
  rw [List.nil_append] at hown6
  have hmk : Own fF w1.heap.size 22 (w1.alloc (.cells #[] 22)) (.slice (some ⟨w1.heap.size, 0, none⟩) 0 0) ([] : List Nat) := Own.mk_ (Nat.le_refl _)
  have HB6 : Hid (Below w1.heap.size w1 w6) := ((Below.refl _ _).alloc (Nat.le_refl _) _).trans (hmk.below_ (by rw [World.size_alloc]; omega) hg6)
  clear hmk
  have HBW6 : Hid (Below w.heap.size w w6) := HB1.out.trans (HB6.out.mono HB1.out.size)
  have HW6 := Lib.hid hown6; clear hown6 hg6
  have HS6 := Lib.hid (HS.out.below HBW6.out)
  obtain ⟨A6, c6, rfl⟩ := HW6.out.form
  clear HS1 HB6 HB1
  have hsort := fsort_any A c xs HX.out HLEN.out w6 HS6.out
  have HSORT := Lib.hid hsort; clear hsort
  go_wp2_with fail
  (with_reducible refine HSORT.out.mono ?_); rintro e w7 ⟨A7, c7, rfl, hown7, hb7⟩
  have HB7 := Lib.hid hb7; clear hb7
  have hown7 : Own fF w6.heap.size 22 w7 (.slice A7 (outs xs).length c7) (bitsOf xs) := hown7.recode (by rw [outs_bits HX.out, bitsOf_ref])
  have HO7 := Lib.hid hown7; clear hown7
  have hn7 := (bitsOf_len HX.out)
  obtain ⟨n, hn⟩ : ∃ n, n = (outs xs).length := ⟨_, rfl⟩
  rw [← hn] at HO7 hn7 ⊢
  clear hn
  have HN7 := Lib.hid hn7; clear hn7
  have hrs := rsort_any A c xs HX.out HLEN.out w7 (HS6.out.below HB7.out)
  have HRS := Lib.hid hrs; clear hrs HSORT
  go_wp2_with fail
  (with_reducible refine HRS.out.mono ?_); rintro e w8 ⟨A8, c8, rfl, hs8, hb8⟩
  have hs8 : Sl fF w8 A8 (bitsOf xs) := hs8.recode (bitsOf_ref xs)
  have hsk := SameKeys_any A7 A8 c7 c8 (bitsOf xs) (bitsOf xs) w8 ((HO7.out.below hb8).sl.2) hs8
  rw [HN7.out] at hsk
  have hl8 : (srt (xs.map Flo.code)).length = n := by rw [← bitsOf_len2]; exact HN7.out
  rw [hl8]
  have HSK := Lib.hid hsk; clear hsk hs8 hl8
  have HB8 : Hid (Below w6.heap.size w6 w8) := HB7.out.trans (hb8.mono HB7.out.size)
  have HO8 := Lib.hid (HO7.out.below hb8); clear HO7 hb8 HRS HB7
  go_wp2_with fail
  (with_reducible refine HSK.out.mono ?_); rintro e w9 ⟨rfl, k9, rfl⟩
  have hnl : n ≤ 9223372036854775807 := by have := HO8.out.sl.2.len; rw [HN7.out] at this; exact this
  have hst := HST.out
  have HBW8 : Hid (Below w.heap.size w (w8.drewN k9)) := below_drewN (HBW6.out.trans (HB8.out.mono HBW6.out.size)) k9
  have HOd := Lib.hid (HO8.out.drewN k9)
  have HB8d : Hid (Below w6.heap.size w6 (w8.drewN k9)) := below_drewN HB8.out k9
  obtain ⟨w9, hw9⟩ : ∃ x, x = w8.drewN k9 := ⟨_, rfl⟩
  rw [← hw9] at HBW8 HOd HB8d ⊢
  clear hw9 HO8 HB8 HSK
  go_wp2_with fail
  go_loopw [30] (fun iv wr => ∃ (k : Nat) (ys : List Nat), k ≤ n ∧ ys.length = n ∧ iv = .int .i64 k ∧ Own fF w6.heap.size 22 wr (.slice A7 n c7) ys ∧ Below w6.heap.size w6 wr) (fun iv _ => n - (intOf iv).toNat)
  case atStart => exact ⟨0, bitsOf xs, Nat.zero_le _, HN7.out, rfl, HOd.out, HB8d.out⟩
  case round =>
    obtain ⟨k, ys, hk, hyl, rfl, hown, hbw⟩ := hrel
    have HYL := Lib.hid hyl
    have HOWN := Lib.hid hown; clear hown
    have HBW := Lib.hid hbw; clear hbw
    by_cases hlt : k < n
    · have hky : k < ys.length := by omega
      clear hyl
      obtain ⟨g, rfl, hg, _, hc, hfz⟩ := HOWN.out.slot hky
      unfold fF at hc
      have HG := Lib.hid hg; clear hg
      obtain ⟨y, hy⟩ : ∃ y, y = ys[k] := ⟨_, rfl⟩
      rw [← hy] at hc
      clear hy
      go_wp2_with fail
      go_roundw
      case rel => exact ⟨k + 1, ys.set k 4619567317775286272, by omega, by rw [List.length_set]; exact HYL.out, by go_num, HOWN.out.set_ hky 4619567317775286272, HBW.out.setCell HG.out _⟩
      case measure => simp [intOf]; omega
    · clear hyl
      have hsr : Sl fF wr A xs := ((HS.out.below HBW6.out).below HBW.out)
      have hsk2 := SameKeys_any A A6 c c6 xs xs wr hsr ((HW6.out.below HBW.out).sl.2)
      have HSK2 := Lib.hid hsk2; clear hsk2 hsr
      go_wp2_with fail
      (with_reducible refine HSK2.out.mono ?_); rintro e w10 ⟨rfl, k10, rfl⟩
      go_wp2_with fail
      go_ret
      exact ⟨by simp, below_drewN (HBW6.out.trans (HBW.out.mono HBW6.out.size)) k10⟩
theorem floSort_walk' {w : World} (A : Option Addr) (c : Nat) (xs : List Nat) (hx : ∀ x ∈ xs, x < Flo.W) (hs : Sl (Value.float .f64) w A xs) (hr : Room 8 xs.length) (w' : World) (hw : w' = w) :
    Calls Try.prog 12 #[.slice A xs.length c] w fun e w' => e = .returned (.bool true) ∧ Below w.heap.size w w' := floSort_go A c xs hx hr w hs
end Go.Proofs.Ytdgliljmmokjnaa
