/- slices.BinarySearch at a rising list of ints; put and drop of package conf. -/
import Derived.Test.YtilefofpfbgikaaIns
namespace Go.Proofs.Ytilefofpfbgikaa
open Go.RowKit Go.Maps Go.Lib Mem Cf

theorem isNaNs_any (x : Int) (w : World) : Calls Try.prog 140 #[.int .i64 x] w fun e w' => e = .returned (.bool false) ∧ w = w' := by
  go_enter Try.func140, Try.ntmps140
  go_wp2_with fail
  go_ret
  exact ⟨ret_bool (by simp), rfl⟩
theorem isNaNc_any (x : Int) (w : World) : Calls Try.prog 155 #[.int .i64 x] w fun e w' => e = .returned (.bool false) ∧ w = w' := by
  go_enter Try.func155, Try.ntmps155
  go_wp2_with fail
  go_ret
  exact ⟨ret_bool (by simp), rfl⟩
theorem Less_any (x y : Int) (w : World) : Calls Try.prog 137 #[.int .i64 x, .int .i64 y] w fun e w' => e = .returned (.bool (decide (x < y))) ∧ w = w' := by
  go_enter Try.func137, Try.ntmps137
  go_wp2_with fail
  (with_reducible refine (isNaNc_any x w).mono ?_); rintro e w' ⟨rfl, rfl⟩
  go_wp2_with fail
  go_ret
  exact ⟨rfl, rfl⟩
/-- how many are less -/
def below (n : Int) (xs : List Int) : Nat := xs.countP fun m => decide (m < n)
theorem below_le (n : Int) (xs : List Int) : below n xs ≤ xs.length := List.countP_le_length ..
theorem below_lt {n : Int} {xs : List Int} (hs : xs.Pairwise (· < ·)) {k : Nat} (h : k < xs.length) : xs[k] < n ↔ k < below n xs := by
  have h1 : below n xs = below n (xs.take k) + below n (xs.drop k) := by unfold below; rw [← List.countP_append, List.take_append_drop]
  constructor
  · intro hx
    have h2 : below n (xs.take k) = k := by
      unfold below
      rw [List.countP_eq_length.2, List.length_take]
      · omega
      · intro a ha
        obtain ⟨j, hj, rfl⟩ := List.mem_iff_getElem.1 ha
        rw [List.getElem_take]
        simp at hj
        have := List.pairwise_iff_getElem.1 hs j k (by omega) h (by omega)
        simp; omega
    have h3 : 0 < below n (xs.drop k) := by
      unfold below
      rw [List.countP_pos_iff]
      exact ⟨xs[k], by rw [List.drop_eq_getElem_cons h]; exact List.mem_cons_self .., by simpa using hx⟩
    omega
  · intro hk
    rcases Int.lt_or_le xs[k] n with h4 | h4
    · exact h4
    · have h3 : below n (xs.drop k) = 0 := by
        unfold below
        rw [List.countP_eq_zero]
        intro a ha
        obtain ⟨j, hj, rfl⟩ := List.mem_iff_getElem.1 ha
        rw [List.getElem_drop]
        rw [List.length_drop] at hj
        have : xs[k] ≤ xs[k + j] := by
          rcases Nat.eq_zero_or_pos j with h0 | h0
          · subst h0; simp
          · have := List.pairwise_iff_getElem.1 hs k (k + j) h (by omega) (by omega)
            omega
        simp; omega
      have h2 : below n (xs.take k) ≤ k := Nat.le_trans (below_le _ _) (by rw [List.length_take]; omega)
      omega
def BsPost (n : Int) (xs : List Int) (w : World) (e : Ending) (w' : World) : Prop := ∃ b, e = .returned (.tuple #[.int .i64 (below n xs), .bool b]) ∧ w = w'
def BsRel (n : Int) (xs : List Int) (w : World) (iv jv : Value) (wr : World) : Prop :=
  ∃ i j : Nat, iv = .int .i64 i ∧ jv = .int .i64 j ∧ i ≤ below n xs ∧ below n xs ≤ j ∧ j ≤ xs.length ∧ wr = w
set_option maxRecDepth 100000 in
set_option maxHeartbeats 2000000 in
theorem BinarySearch_any (A : Option Addr) (c : Nat) (xs : List Int) (n : Int) (w : World) (hs : Sl fI w A xs) (hp : xs.Pairwise (· < ·)) (hsz : xs.length ≤ 1000000000) :
    Calls Try.prog 106 #[.slice A xs.length c, .int .i64 n] w (BsPost n xs w) := by
  have HP := Lib.hid hp; clear hp
  go_enter Try.func106, Try.ntmps106
  go_wp2_with fail
  go_loopw [7, 8] (fun iv jv wr => BsRel n xs w iv jv wr) (fun iv jv _ => (intOf jv - intOf iv).toNat)
  case atStart => exact ⟨0, xs.length, rfl, rfl, Nat.zero_le _, below_le _ _, Nat.le_refl _, rfl⟩
  case round =>
    obtain ⟨i, j, rfl, rfl, hi, hj, hjl, rfl⟩ := hrel
    by_cases hlt : i < j
    · obtain ⟨h, hh⟩ : ∃ h, h = (i + j) / 2 := ⟨_, rfl⟩
      have hhl : h < xs.length := by omega
      obtain ⟨b, o, rfl, _, hc⟩ := hs.at hhl
      have hck := hc h hhl
      have HX := Lib.hid (below_lt (n := n) HP.out hhl)
      obtain ⟨x, hx⟩ : ∃ x, x = xs[h] := ⟨_, rfl⟩
      rw [← hx] at hck HX; unfold fI at hck
      clear hx hc
      have hz1 : ((i : Int) + (j : Int)) / 2 = (h : Int) := by omega
      have hih : i ≤ h := by omega
      have hhj : h < j := by omega
      clear hh
      by_cases hxn : x < n
      · have hb : h < below n xs := HX.out.1 hxn
        have HB := Lib.hid hb; clear hb
        go_wp2_with fail
        (with_reducible refine (Less_any x n _).mono ?_); rintro e w' ⟨rfl, rfl⟩
        go_wp2_with fail
        go_roundw
        case rel => exact ⟨h + 1, j, by go_num, rfl, HB.out, hj, hjl, rfl⟩
        case measure => simp [intOf]; omega
      · have hb : ¬ h < below n xs := fun h2 => hxn (HX.out.2 h2)
        have HB : Hid (below n xs ≤ h) := by show _ ≤ _; omega
        clear hb
        go_wp2_with fail
        (with_reducible refine (Less_any x n _).mono ?_); rintro e w' ⟨rfl, rfl⟩
        go_wp2_with fail
        go_roundw
        case rel => exact ⟨i, h, rfl, rfl, hi, HB.out, by omega, rfl⟩
        case measure => simp [intOf]; omega
    · have hie : i = below n xs := by omega
      have HIE := Lib.hid hie; clear hie hi hj
      by_cases hil : i < xs.length
      · obtain ⟨b, o, rfl, _, hc⟩ := hs.at hil
        have hck := hc i hil
        obtain ⟨x, hx⟩ : ∃ x, x = xs[i] := ⟨_, rfl⟩
        rw [← hx] at hck; unfold fI at hck
        clear hx hc
        have d0 : decide ((i : Int) < (xs.length : Int)) = true := decide_eq_true (by omega)
        by_cases hxn : x = n
        · have t1 : (x == n) = true := by rw [beq_iff_eq]; exact hxn
          clear hxn
          go_wp2_with fail
          go_ret2
          exact ⟨true, by rw [← HIE.out]; rfl, rfl⟩
        · have t1 : (x == n) = false := by rw [beq_eq_false_iff_ne]; exact hxn
          clear hxn
          go_wp2_with fail
          (with_reducible refine (isNaNs_any x _).mono ?_); rintro e w' ⟨rfl, rfl⟩
          go_wp2_with fail
          go_ret2
          exact ⟨false, by rw [← HIE.out]; rfl, rfl⟩
      · go_wp2_with fail
        go_ret2
        exact ⟨false, by rw [← HIE.out]; rfl, rfl⟩
/-- a number is put where it belongs -/
def putAt (n : Int) (xs : List Int) : List Int := insAt xs (below n xs) n
theorem put_any (A : Option Addr) (c : Nat) (xs : List Int) (n : Int) (w : World) (hs : Sl fI w A xs) (hp : xs.Pairwise (· < ·)) (hsz : xs.length ≤ 1000000) :
    Calls Try.prog 75 #[.slice A xs.length c, .int .i64 n] w (OwnPost w.heap.size (putAt n xs) w) := by
  have HBS := Lib.hid (BinarySearch_any A c xs n w hs hp (by omega))
  have HCL := Lib.hid (CloneI_any A c xs (by omega) w hs)
  clear hs hp
  have HSZ := Lib.hid hsz; clear hsz
  go_enter Try.func75, Try.ntmps75
  go_wp2_with fail
  (with_reducible refine HBS.out.mono ?_); rintro e w' ⟨b, rfl, rfl⟩
  go_wp2_with fail
  (with_reducible refine HCL.out.mono ?_); rintro e w1 ⟨A1, c1, rfl, hown, hb1⟩
  have hnew := Blk.new_ w1 3 #[.int .i64 n]
  have hown2 := hown.alloc (.cells #[.int .i64 n] 3)
  have hlt := hown.lt
  have hins := Insert_any hown2 (by rw [World.size_alloc]; exact Nat.le_succ_of_le hb1.size) (by have h1 := HSZ.out; have h2 : xs.length ≤ 1000000 := h1; omega) (below n xs) (below_le n xs) n w1.heap.size hnew (fun e => absurd (hlt _ e).2 (Nat.lt_irrefl _)) _ rfl
  have HINS := Lib.hid hins; clear hins hnew hown2 hown hlt
  have HB1 := Lib.hid hb1; clear hb1
  go_wp2_with fail
  (with_reducible refine HINS.out.mono ?_); rintro e w2 ⟨A2, c2, rfl, hown2, hb2⟩
  have HO := Lib.hid hown2; clear hown2
  have HB2 : Hid (Below w.heap.size w w2) := (HB1.out.alloc HB1.out.size _).trans hb2
  clear hb2
  go_wp2_with fail
  go_ret
  exact ⟨A2, c2, rfl, HO.out, HB2.out⟩
theorem isN_any (W : World) (m n : Int) (bx : Nat) (hc : W.cell? ⟨bx, 0, none⟩ = some (.int .i64 n)) :
    Calls Try.prog 108 #[.int .i64 m, .pointer (some ⟨bx, 0, none⟩)] W fun e w' => e = .returned (.bool (decide (m = n))) ∧ W = w' := by
  have h1 : (m == n) = decide (m = n) := rfl
  go_enter Try.func108, Try.ntmps108
  go_wp2_with fail
  go_ret
  exact ⟨ret_bool (by simp), rfl⟩
theorem drop_any (A : Option Addr) (c : Nat) (xs : List Int) (n : Int) (w : World) (hs : Sl fI w A xs) (hsz : xs.length ≤ 1000000) :
    Calls Try.prog 76 #[.slice A xs.length c, .int .i64 n] w (OwnPost w.heap.size (without n xs) w) := by
  have hmf : ∀ (fn : Fn) (first cap : Array Value) (w : World), (Instr.makeFunc fn first cap).run Try.prog w = .ok (.func fn first cap) w := fun _ _ _ _ => rfl
  have hl := hs.len
  have HS := Lib.hid hs; clear hs
  have HSZ := Lib.hid hsz; clear hsz
  go_enter Try.func76, Try.ntmps76
  go_upto_region 1 with fail
  obtain ⟨w1, hw1⟩ : ∃ x, x = w.alloc (.cells #[.int .i64 n] 3) := ⟨_, rfl⟩
  rw [← hw1]
  have hb1 : Below w.heap.size w w1 := by rw [hw1]; exact (Below.refl _ _).alloc (Nat.le_refl _) _
  have hx1 : Blk w1 w.heap.size 3 #[.int .i64 n] := by rw [hw1]; exact Blk.new_ w _ _
  have HCL := Lib.hid (CloneI_any A c xs (by have h1 := HSZ.out; have h2 : xs.length ≤ 1000000 := h1; omega) w1 (HS.out.below hb1))
  have HB1 := Lib.hid hb1; clear hb1 hw1
  have HX1 := Lib.hid hx1; clear hx1
  go_wp2_with fail
  (with_reducible refine HCL.out.mono ?_); rintro e w2 ⟨A2, c2, rfl, hown, hb2⟩
  have hx2 := HX1.out.below hb2 HX1.out.lt
  have hdf := DeleteFunc_eq hown n hb2.size (by have h1 := HSZ.out; have h2 : xs.length ≤ 1000000 := h1; omega) 108 w.heap.size (enters_of Try.func108 (by kernel_rfl) rfl) HX1.out.lt (hx2.cell 0) (fun W m hc => isN_any W m n _ hc)
  have HDF := Lib.hid hdf; clear hdf hown hx2
  have HB2 : Hid (Below w.heap.size w w2) := HB1.out.trans (hb2.mono HB1.out.size)
  clear hb2
  go_wp2_with fail
  (with_reducible refine HDF.out.mono ?_); rintro e w3 ⟨A3, c3, rfl, hown3, hb3⟩
  have HO := Lib.hid hown3; clear hown3
  have HB3 : Hid (Below w.heap.size w w3) := HB2.out.trans (hb3.mono HB1.out.size)
  clear hb3
  go_wp2_with fail
  go_ret
  refine ⟨A3, c3, rfl, ?_, HB3.out⟩
  obtain ⟨h1, h2⟩ := HO.out
  refine ⟨h1, ?_⟩
  rcases h2 with h2 | ⟨g, cap, cur, a, b, c⟩
  · exact .inl h2
  · exact .inr ⟨g, cap, cur, a, Nat.le_trans HB1.out.size b, c⟩
end Go.Proofs.Ytilefofpfbgikaa
