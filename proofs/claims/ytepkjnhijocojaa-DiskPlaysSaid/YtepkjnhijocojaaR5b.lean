/- Layer 5's document: bytes over others, pieces of bytes. -/
import Derived.Test.YtepkjnhijocojaaR5
import Derived.Test.YtepkjnhijocojaaDskQ6
namespace Go.Proofs.Ytepkjnhijocojaa
open Go.RowKit Go.Maps Mem Dsk

/-- bytes that a call of the document has made -/
def Made (B : Nat) (xs : List UInt8) (e : Ending) (w' : World) : Prop := ∃ A c, e = .returned (.slice A xs.length c) ∧ SlB fB 5 (fun g => B ≤ g) w' A xs
def GrowRel (w : World) (xs : List UInt8) (N : Nat) (first : Int) (ov iv : Value) (wr : World) : Prop :=
  ∃ k : Nat, k ≤ N ∧ iv = .int .i64 (first + k) ∧ Own fB w.heap.size 5 wr ov (xs.take k) ∧ Below w.heap.size w wr
set_option maxHeartbeats 1000000 in
theorem rpart_any (A : Option Addr) (c : Nat) (b : List UInt8) (fi ti : Int) (f t : Nat) (hf : fi = f) (ht : ti = t) (hf1 : f ≤ 100000000) (ht1 : t ≤ 100000000) (w : World) (hs : Sl fB w A b) (hb : b.length ≤ 100000000) :
    Calls Try.prog 43 #[.slice A b.length c, .int .i64 fi, .int .i64 ti] w fun e w' => Made w.heap.size (piece b f t) e w' ∧ Below w.heap.size w w' := by
  subst hf; subst ht
  obtain ⟨N, hN⟩ : ∃ N, N = (piece b f t).length := ⟨_, rfl⟩
  have hN2 : N = min t b.length - f := by rw [hN, piece_len]
  have HN := Lib.hid hN; clear hN
  have HN2 := Lib.hid hN2; clear hN2
  go_enter Try.func43, Try.ntmps43
  go_wp2_with fail
  go_loopw [7, 8] (fun ov iv wr => GrowRel w (piece b f t) N f ov iv wr) (fun _ iv _ => f + N - (intOf iv).toNat)
  case atStart => exact ⟨0, Nat.zero_le _, by simp, by rw [List.take_zero]; exact Own.mk_ (Nat.le_refl _), (Below.refl _ _).alloc (Nat.le_refl _) _⟩
  case round =>
    obtain ⟨k, hk, rfl, hown, hbw⟩ := hrel
    have HOWN := Lib.hid hown; clear hown
    have HBW := Lib.hid hbw; clear hbw
    have hkm : k ≤ 100000000 := by have := HN2.out; omega
    have hpl : ((piece b f t).take k).length ≤ k := List.length_take_le _ _
    by_cases hlt : k < N
    · have h1 : f + k < t := by have := HN2.out; omega
      have h2 : f + k < b.length := by have := HN2.out; omega
      have h1' : (f : Int) + (k : Int) < (t : Int) := by omega
      have h2' : (f : Int) + (k : Int) < (b.length : Int) := by omega
      have h0' : (0 : Int) ≤ (f : Int) + (k : Int) := by omega
      obtain ⟨bk, o, rfl, _, hc⟩ := (hs.below HBW.out).at h2
      have hck : wr.cell? ⟨bk, o + (f + k), none⟩ = some (.int .u8 (b[f + k].toNat : Int)) := hc (f + k) h2
      clear hc
      have e1 : ((f : Int) + (k : Int)).toNat = f + k := by omega
      have HS := Lib.hid (take_snoc? (piece_get (t := t) h1 h2)); 
      clear e1
      go_wp2_with (at_builtin; refine wpList_append1t (f := fB) rfl (.tmp 22) (.tmp 27) 26 rfl u8T b[f + k] (fB_one _) rfl HOWN.out rfl rfl (by unfold maxLen; omega) (by omega) HBW.out.size ?_; intro v7 w7 hown7 hg7)
      go_roundw
      case rel => exact ⟨k + 1, by omega, by go_num, by rw [HS.out]; exact hown7, (HBW.out.alloc HBW.out.size _).trans ((HOWN.out.alloc _).below_ (by rw [World.size_alloc]; exact Nat.le_succ_of_le HBW.out.size) hg7)⟩
      case measure => simp [intOf]; omega
    · have hkN : k = N := by omega
      have hends : ¬ ((f : Int) + (k : Int) < (t : Int)) ∨ ¬ ((f : Int) + (k : Int) < (b.length : Int)) := by have := HN2.out; omega
      obtain ⟨X, hX⟩ : ∃ X, X = (piece b f t).take k := ⟨_, rfl⟩
      rw [← hX] at HOWN
      rw [hkN, HN.out, List.take_length] at hX
      have HO : Hid (Own fB w.heap.size 5 wr _ X) := HOWN
      have HX := Lib.hid hX; clear hX
      clear HOWN hkN
      obtain ⟨A5, c5, rfl⟩ := HO.out.form
      have HBX := HBW
      rcases hends with h3 | h3
      · go_wp2_with fail
        go_ret
        exact ⟨⟨A5, c5, by rw [← HX.out]; rfl, by rw [← HX.out]; exact (SlB.of_own HO.out).2⟩, HBX.out⟩
      · by_cases h4 : (f : Int) + (k : Int) < (t : Int)
        all_goals
          go_wp2_with fail
          go_ret
          exact ⟨⟨A5, c5, by rw [← HX.out]; rfl, by rw [← HX.out]; exact (SlB.of_own HO.out).2⟩, HBX.out⟩
set_option maxHeartbeats 2000000 in
theorem rover_any (A : Option Addr) (c : Nat) (b : List UInt8) (ai : Int) (a : Nat) (ha : ai = a) (ha1 : a ≤ 1000000) (C : Option Addr) (cc : Nat) (d : List UInt8) (w : World) (hs : Sl fB w A b) (ht : Sl fB w C d) (hb : b.length ≤ 1000000) (hd : d.length ≤ 1000000) :
    Calls Try.prog 42 #[.slice A b.length c, .int .i64 ai, .slice C d.length cc] w fun e w' => Made w.heap.size (overZ b a d) e w' ∧ Below w.heap.size w w' := by
  subst ha
  obtain ⟨N, hN⟩ : ∃ N, N = (overZ b a d).length := ⟨_, rfl⟩
  have hN2 : N = max b.length (a + d.length) := by rw [hN, overZ_len]
  have HN := Lib.hid hN; clear hN
  have HN2 := Lib.hid hN2; clear hN2
  go_enter Try.func42, Try.ntmps42
  go_wp2_with fail
  go_loopw [7, 8] (fun ov iv wr => GrowRel w (overZ b a d) N 0 ov iv wr) (fun _ iv _ => N - (intOf iv).toNat)
  case atStart => exact ⟨0, Nat.zero_le _, by simp, by rw [List.take_zero]; exact Own.mk_ (Nat.le_refl _), (Below.refl _ _).alloc (Nat.le_refl _) _⟩
  case round =>
    obtain ⟨k, hk, hiv, hown, hbw⟩ := hrel
    rw [Int.zero_add] at hiv
    subst hiv
    have HOWN := Lib.hid hown; clear hown
    have HBW := Lib.hid hbw; clear hbw
    have hkm : k ≤ 2000000 := by have := HN2.out; omega
    have hpl : ((overZ b a d).take k).length ≤ k := List.length_take_le _ _
    have hsb := hs.below HBW.out
    have htb := ht.below HBW.out
    by_cases c1 : a ≤ k ∧ k < a + d.length
    · obtain ⟨c1a, c1b⟩ := c1
      have hka : k - a < d.length := by omega
      have i1 : (a : Int) ≤ (k : Int) := by omega
      have i2 : (k : Int) < (a : Int) + (d.length : Int) := by omega
      obtain ⟨bk, o, rfl, _, hc⟩ := htb.at hka
      have hck : wr.cell? ⟨bk, o + (k - a), none⟩ = some (.int .u8 (d[k - a].toNat : Int)) := hc (k - a) hka
      clear hc
      have HS := Lib.hid (take_snoc? (overZ_mid (b := b) c1a hka))
      have e1 : ((k : Int) - (a : Int)).toNat = k - a := by omega
      have i3 : (0 : Int) ≤ (k : Int) - (a : Int) := by omega
      have i4 : (k : Int) - (a : Int) < (d.length : Int) := by omega
      have hkN : k < N := by have := HN2.out; omega
      by_cases c0 : k < b.length
      all_goals
        go_wp2_with (at_builtin; refine wpList_append1t (f := fB) rfl (.tmp 39) (.tmp 46) 26 rfl u8T d[k - a] (fB_one _) rfl HOWN.out rfl rfl (by unfold maxLen; omega) (by omega) HBW.out.size ?_; intro v7 w7 hown7 hg7)
        go_roundw
        case rel => exact ⟨k + 1, by omega, by go_num, by rw [HS.out]; exact hown7, (HBW.out.alloc HBW.out.size _).trans ((HOWN.out.alloc _).below_ (by rw [World.size_alloc]; exact Nat.le_succ_of_le HBW.out.size) hg7)⟩
        case measure => simp [intOf]; omega
    · have hcc : ¬ ((a : Int) ≤ (k : Int)) ∨ ¬ ((k : Int) < (a : Int) + (d.length : Int)) := by omega
      by_cases c2 : k < b.length
      · obtain ⟨bk, o, rfl, _, hc⟩ := hsb.at c2
        have hck : wr.cell? ⟨bk, o + k, none⟩ = some (.int .u8 (b[k].toNat : Int)) := hc k c2
        clear hc
        have HS := Lib.hid (take_snoc? (overZ_old (a := a) (c := d) c1 c2))
        have hkN : k < N := by have := HN2.out; omega
        by_cases i1 : (a : Int) ≤ (k : Int)
        · have i2 : ¬ ((k : Int) < (a : Int) + (d.length : Int)) := by omega
          clear hcc c1
          go_wp2_with (at_builtin; refine wpList_append1t (f := fB) rfl (.tmp 53) (.tmp 58) 26 rfl u8T b[k] (fB_one _) rfl HOWN.out rfl rfl (by unfold maxLen; omega) (by omega) HBW.out.size ?_; intro v7 w7 hown7 hg7)
          go_roundw
          case rel => exact ⟨k + 1, by omega, by go_num, by rw [HS.out]; exact hown7, (HBW.out.alloc HBW.out.size _).trans ((HOWN.out.alloc _).below_ (by rw [World.size_alloc]; exact Nat.le_succ_of_le HBW.out.size) hg7)⟩
          case measure => simp [intOf]; omega
        · clear hcc c1
          go_wp2_with (at_builtin; refine wpList_append1t (f := fB) rfl (.tmp 53) (.tmp 58) 26 rfl u8T b[k] (fB_one _) rfl HOWN.out rfl rfl (by unfold maxLen; omega) (by omega) HBW.out.size ?_; intro v7 w7 hown7 hg7)
          go_roundw
          case rel => exact ⟨k + 1, by omega, by go_num, by rw [HS.out]; exact hown7, (HBW.out.alloc HBW.out.size _).trans ((HOWN.out.alloc _).below_ (by rw [World.size_alloc]; exact Nat.le_succ_of_le HBW.out.size) hg7)⟩
          case measure => simp [intOf]; omega
      · by_cases c3 : k < a + d.length
        · have i1 : ¬ ((a : Int) ≤ (k : Int)) := by omega
          have i2 : (k : Int) < (a : Int) + (d.length : Int) := by omega
          have HS := Lib.hid (take_snoc? (overZ_zero c1 c2 c3))
          have hkN : k < N := by have := HN2.out; omega
          clear hcc c1
          go_wp2_with (at_builtin; refine wpList_append1t (f := fB) rfl (.tmp 24) (.tmp 25) 26 rfl u8T (0 : UInt8) (fB_one _) rfl HOWN.out rfl rfl (by unfold maxLen; omega) (by omega) HBW.out.size ?_; intro v7 w7 hown7 hg7)
          go_roundw
          case rel => exact ⟨k + 1, by omega, by go_num, by rw [HS.out]; exact hown7, (HBW.out.alloc HBW.out.size _).trans ((HOWN.out.alloc _).below_ (by rw [World.size_alloc]; exact Nat.le_succ_of_le HBW.out.size) hg7)⟩
          case measure => simp [intOf]; omega
        · have hkN : k = N := by have := HN2.out; omega
          have i2 : ¬ ((k : Int) < (a : Int) + (d.length : Int)) := by omega
          obtain ⟨X, hX⟩ : ∃ X, X = (overZ b a d).take k := ⟨_, rfl⟩
          rw [← hX] at HOWN
          rw [hkN, HN.out, List.take_length] at hX
          have HO : Hid (Own fB w.heap.size 5 wr _ X) := HOWN
          have HX := Lib.hid hX; clear hX
          clear hcc c1 HOWN hkN
          obtain ⟨A5, c5, rfl⟩ := HO.out.form
          go_wp2_with fail
          go_ret
          exact ⟨⟨A5, c5, by rw [← HX.out]; rfl, by rw [← HX.out]; exact (SlB.of_own HO.out).2⟩, HBW.out⟩
end Go.Proofs.Ytepkjnhijocojaa
