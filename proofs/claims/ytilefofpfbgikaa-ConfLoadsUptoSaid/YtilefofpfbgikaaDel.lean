/- slices.Clone and slices.DeleteFunc at ints, where what is deleted is one number. -/
import Derived.Test.YtilefofpfbgikaaSrtG
import Derived.Test.YtilefofpfbgikaaCf3
import Derived.Lib.SliceRun
namespace Go.Proofs.Ytilefofpfbgikaa
open Go.RowKit Go.Maps Go.Sort Go.Lib Mem Cf

theorem intTI : SliceT Try.prog 22 3 (.int .i64 0) 8 := sliceT_mk Try.underlying22 rfl (by kernel_rfl)
theorem fI_oneI (u : Int) : (fI u).oneCell' = true := rfl
/-- a slice of the call's own -/
def OwnPost (base : Nat) (ys : List Int) (w : World) (e : Ending) (w' : World) : Prop :=
  ∃ A c, e = .returned (.slice A ys.length c) ∧ Own fI base 3 w' (.slice A ys.length c) ys ∧ Below base w w'
theorem CloneI_any (A : Option Addr) (c : Nat) (xs : List Int) (hl : xs.length ≤ 1000000000) (w : World) (hs : Sl fI w A xs) :
    Calls Try.prog 69 #[.slice A xs.length c] w (OwnPost w.heap.size xs w) := by
  have hnil := fun (w : World) (a : Option Addr) (n c : Nat) => Lib.run_eql_slice_nil (P := Try.prog) w 22 3 a n c 0 0 Try.underlying22
  have hl1 : xs.length ≤ maxLen := by unfold maxLen; omega
  have hl2 : xs.length * 8 ≤ 140737488355328 := by omega
  have HL1 := Lib.hid hl1; clear hl1
  have HL2 := Lib.hid hl2; clear hl2
  cases A with
  | none =>
    obtain rfl : xs = [] := by
      cases xs with
      | nil => rfl
      | cons x r => obtain ⟨b, o, e, _⟩ := hs.2 (by simp); cases e
    go_enter Try.func69, Try.ntmps69
    go_wp2_with fail
    go_ret
    exact ⟨none, 0, rfl, Own.nil, Below.refl _ _⟩
  | some ad =>
    go_enter Try.func69, Try.ntmps69
    go_wp2_with (at_builtin; refine wpList_appendN (f := fI) rfl (.tmp 5) (.tmp 6) 22 rfl intTI rfl (Own.mk_ (Nat.le_refl _)) rfl (hs.below ((Below.refl _ _).alloc (Nat.le_refl _) _)) fI_oneI (by rw [List.length_nil, Nat.zero_add]; exact HL1.out) (by rw [List.length_nil, Nat.zero_add]; exact HL2.out) (by simp) ?_; intro v1 w1 hown1 hb1; obtain ⟨A', c', rfl⟩ := hown1.form)
    go_ret
    rw [List.nil_append] at hown1
    exact ⟨A', c', rfl, hown1, ((Below.refl _ _).alloc (Nat.le_refl _) _).trans hb1⟩
/-! the search -/
def IdxEq (xs : List Int) (n : Int) (w : World) (e : Ending) (w' : World) : Prop :=
  ∃ i : Int, e = .returned (.int .i64 i) ∧ ((i = -1 ∧ n ∉ xs) ∨ ∃ k, ∃ h : k < xs.length, i = (k : Int) ∧ xs[k] = n ∧ n ∉ xs.take k) ∧ w = w'
theorem IndexFunc_eq (A : Option Addr) (c : Nat) (xs : List Int) (n : Int) (w : World) (hs : Sl fI w A xs) (g : Nat) (cb : Array Value)
    (eg : ∀ args w, (callFunc g args).run Try.prog w = .ok (.enter g args) w)
    (hg : ∀ m, Calls Try.prog g (#[.int .i64 m] ++ cb) w fun e w' => e = .returned (.bool (decide (m = n))) ∧ w = w') :
    Calls Try.prog 101 #[.slice A xs.length c, .func (.func g) #[] cb] w (IdxEq xs n w) := by
  have hl := hs.len
  have HG := Lib.hid hg; clear hg
  go_enter Try.func101, Try.ntmps101
  go_wp2_with fail
  go_loopw [8] (fun i wr => HasRel xs n w i wr) (fun i _ => xs.length - (intOf i).toNat)
  case atStart => exact ⟨0, Nat.zero_le _, rfl, Lib.hid (by simp), rfl⟩
  case round =>
    obtain ⟨k, hk, rfl, HNO, rfl⟩ := hrel
    by_cases hlt : k < xs.length
    · obtain ⟨b, o, rfl, _, hc⟩ := hs.at hlt
      have hck := hc k hlt
      obtain ⟨x, hx⟩ : ∃ x, x = xs[k] := ⟨_, rfl⟩
      unfold fI at hck
      rw [← hx] at hck
      clear hc
      obtain ⟨z, hz⟩ : ∃ z, z = decide (x = n) := ⟨_, rfl⟩
      have hcall := HG.out x
      rw [← hz] at hcall
      have HCALL := Lib.hid hcall; clear hcall
      have HX := Lib.hid hx; clear hx
      cases z with
      | true =>
        have HXN : Hid (x = n) := Lib.hid (of_decide_eq_true hz.symm)
        clear hz
        go_wp2_with fail
        (with_reducible refine HCALL.out.mono ?_); rintro e w' ⟨rfl, rfl⟩
        go_wp2_with fail
        go_ret
        exact ⟨(k : Int), rfl, .inr ⟨k, hlt, rfl, by rw [← HX.out]; exact HXN.out, HNO.out⟩, rfl⟩
      | false =>
        have hxn : ¬ x = n := of_decide_eq_false hz.symm
        have HN2 := Lib.hid (mem_take_no hlt HNO.out (by rw [← HX.out]; exact hxn))
        clear hz hxn
        go_wp2_with fail
        (with_reducible refine HCALL.out.mono ?_); rintro e w' ⟨rfl, rfl⟩
        go_wp2_with fail
        go_roundw
        case rel => exact ⟨k + 1, hlt, by go_num, HN2, rfl⟩
        case measure => simp [intOf]; omega
    · have hno : n ∉ xs := by have h1 := HNO.out; rw [List.take_of_length_le (by omega)] at h1; exact h1
      have HN := Lib.hid hno; clear hno
      go_wp2_with fail
      go_ret
      exact ⟨-1, rfl, .inl ⟨rfl, HN.out⟩, rfl⟩
def without (n : Int) (xs : List Int) : List Int := xs.filter fun m => !decide (m = n)
theorem without_len (n : Int) (xs : List Int) : (without n xs).length ≤ xs.length := List.length_filter_le ..
theorem without_none {n : Int} {xs : List Int} (h : n ∉ xs) : without n xs = xs := by
  unfold without; rw [List.filter_eq_self]
  intro a ha
  have : a ≠ n := fun e => h (e ▸ ha)
  simp [this]
theorem without_step {n : Int} {xs : List Int} {j : Nat} (h : j < xs.length) : without n (xs.take (j + 1)) = without n (xs.take j) ++ (if xs[j] = n then [] else [xs[j]]) := by
  rw [List.take_succ_eq_append_getElem h]; unfold without; rw [List.filter_append]
  by_cases e : xs[j] = n <;> simp [e]
/-- the loop of DeleteFunc -/
structure DelInv (xs : List Int) (n : Int) (i j : Nat) (dk : List Int) : Prop where
  len : dk.length = xs.length
  ij : i < j
  jl : j ≤ xs.length
  low : dk.take i = without n (xs.take j)
  high : ∀ t (h1 : t < dk.length) (h2 : t < xs.length), j ≤ t → dk[t] = xs[t]
def DfRel (xs : List Int) (n : Int) (base g c : Nat) (w : World) (iv jv : Value) (wr : World) : Prop :=
  ∃ (i j : Nat) (dk : List Int), iv = .int .i64 i ∧ jv = .int .i64 j ∧ DelInv xs n i j dk ∧ Own fI base 3 wr (.slice (some ⟨g, 0, none⟩) xs.length c) dk ∧ Below base w wr
set_option maxRecDepth 100000 in
set_option maxHeartbeats 4000000 in
theorem DeleteFunc_eq {base : Nat} {w : World} {v : Value} {xs : List Int} (h : Own fI base 3 w v xs) (n : Int) (_ : base ≤ w.heap.size) (hsz : xs.length ≤ 1000000000) (g : Nat) (bx : Nat)
    (eg : ∀ args w, (callFunc g args).run Try.prog w = .ok (.enter g args) w) (hbx : bx < base) (hc : w.cell? ⟨bx, 0, none⟩ = some (.int .i64 n))
    (hg : ∀ W m, W.cell? ⟨bx, 0, none⟩ = some (.int .i64 n) → Calls Try.prog g #[.int .i64 m, .pointer (some ⟨bx, 0, none⟩)] W fun e w' => e = .returned (.bool (decide (m = n))) ∧ W = w') :
    Calls Try.prog 71 #[v, .func (.func g) #[] #[.pointer (some ⟨bx, 0, none⟩)]] w (OwnPost base (without n xs) w) := by
  obtain ⟨A, c, rfl⟩ := h.form
  have hcap := h.cap
  have HCM := Lib.hid hcap.2
  have hcl := hcap.1
  clear hcap
  have hl := h.sl.2.len
  have HIF := Lib.hid (IndexFunc_eq A c xs n w h.sl.2 g #[.pointer (some ⟨bx, 0, none⟩)] eg (fun m => hg w m hc))
  have HG := Lib.hid hg; clear hg
  have H := Lib.hid h; clear h
  have HC := Lib.hid hc; clear hc
  go_enter Try.func71, Try.ntmps71
  go_wp2_with fail
  (with_reducible refine HIF.out.mono ?_); rintro e w' ⟨i0, rfl, hi0, rfl⟩
  rcases hi0 with ⟨rfl, hno⟩ | ⟨k0, hk0, rfl, hxk, hno⟩
  · have HE := Lib.hid (without_none hno)
    clear hno
    go_wp2_with fail
    go_ret
    exact ⟨A, c, by rw [HE.out]; rfl, by rw [HE.out]; exact H.out, Below.refl _ _⟩
  · have hinv : DelInv xs n k0 (k0 + 1) xs := ⟨rfl, by omega, by omega, by
      rw [without_step hk0, if_pos hxk, List.append_nil, without_none hno], fun _ _ _ _ => rfl⟩
    have HINV := Lib.hid hinv; clear hinv hno hxk
    obtain ⟨gb, hA, hgb⟩ := H.out.addr (by omega)
    subst hA
    have HGB := Lib.hid hgb; clear hgb
    have hne : ((k0 : Int) == -1) = false := by rw [beq_eq_false_iff_ne]; omega
    have hcm := HCM.out
    have hcm2 : c ≤ 9223372036854775807 := hcm
    go_wp2_with fail
    clear hne
    go_loopw [5, 6] (fun iv jv wr => DfRel xs n base gb c w iv jv wr) (fun _ jv _ => xs.length - (intOf jv).toNat)
    case atStart => exact ⟨k0, k0 + 1, xs, rfl, by go_num, HINV.out, H.out, Below.refl _ _⟩
    case round =>
      obtain ⟨i, j, dk, rfl, rfl, hinv, hown, hbw1⟩ := hrel
      have hij := hinv.ij
      have hjl := hinv.jl
      have hdl := hinv.len
      have HI := Lib.hid hinv; clear hinv
      have HOWN := Lib.hid hown; clear hown
      have HBW := Lib.hid hbw1; clear hbw1
      by_cases hlt : j < xs.length
      · obtain ⟨g', hg', _, _, cj, _⟩ := HOWN.out.slot (k := j) (by omega)
        injection hg' with hg'; injection hg' with hg'; subst hg'
        obtain ⟨g', hg', _, _, ci, fi⟩ := HOWN.out.slot (k := i) (by omega)
        injection hg' with hg'; injection hg' with hg'; subst hg'
        have hjd : j < dk.length := by omega
        have hid : i < dk.length := by omega
        obtain ⟨x, hx⟩ : ∃ x, x = dk[j] := ⟨_, rfl⟩
        obtain ⟨y, hy⟩ : ∃ y, y = dk[i] := ⟨_, rfl⟩
        rw [← hx] at cj; rw [← hy] at ci
        unfold fI at cj ci
        have hxx : x = xs[j] := by rw [hx]; exact HI.out.high j hjd hlt (Nat.le_refl _)
        have HST := Lib.hid (without_step (n := n) hlt)
        rw [← hxx] at HST
        have cbx : wr.cell? ⟨bx, 0, none⟩ = some (.int .i64 n) := (HBW.out.cell (p := ⟨bx, 0, none⟩) hbx).trans HC.out
        obtain ⟨z, hz⟩ : ∃ z, z = decide (x = n) := ⟨_, rfl⟩
        have hcall := HG.out wr x cbx
        rw [← hz] at hcall
        have HCALL := Lib.hid hcall; clear hcall cbx hx hy
        have HXX := Lib.hid hxx; clear hxx
        clear hdl hjd hid
        have hic : i < c := by omega
        cases z with
        | true =>
          have HXN : Hid (x = n) := Lib.hid (of_decide_eq_true hz.symm)
          clear hz
          go_wp2_with fail
          (with_reducible refine HCALL.out.mono ?_); rintro e w' ⟨rfl, rfl⟩
          go_wp2_with fail
          go_roundw
          case rel =>
            refine ⟨i, j + 1, dk, rfl, by go_num, ⟨HI.out.len, by omega, by omega, ?_, fun t h1 h2 h3 => HI.out.high t h1 h2 (by omega)⟩, HOWN.out, HBW.out⟩
            rw [HST.out, if_pos HXN.out, List.append_nil]; exact HI.out.low
          case measure => simp [intOf]; omega
        | false =>
          have HXN : Hid (¬ x = n) := Lib.hid (of_decide_eq_false hz.symm)
          clear hz
          go_wp2_with fail
          (with_reducible refine HCALL.out.mono ?_); rintro e w' ⟨rfl, rfl⟩
          go_wp2_with fail
          go_roundw
          case rel =>
            have hil : i < dk.length := by have := HI.out.len; omega
            refine ⟨i + 1, j + 1, dk.set i x, by go_num, by go_num, ⟨by rw [List.length_set]; exact HI.out.len, by omega, by omega, ?_, fun t h1 h2 h3 => ?_⟩, HOWN.out.set_ hil x, HBW.out.setCell HGB.out _⟩
            · rw [HST.out, if_neg HXN.out, ← HI.out.low, List.take_succ_eq_append_getElem (by rw [List.length_set]; exact hil), List.take_set_of_le (Nat.le_refl _), List.getElem_set_self]
            · rw [List.getElem_set_ne (by omega)]
              exact HI.out.high t (by rw [List.length_set] at h1; exact h1) h2 (by omega)
          case measure => simp [intOf]; omega
      · have hend : j = xs.length := by omega
        have hil : i < xs.length := by omega
        have hcl2 : ∀ ty, (Builtin.clear_ #[22] ty #[.slice (some ⟨gb, i, none⟩) (xs.length - i) (c - i)]).run Try.prog wr = .ok (.tuple #[]) (wr.setCells gb i (List.replicate (xs.length - i) (.int .i64 0))) :=
          fun ty => Lib.run_clear_slice wr _ 3 ty (.int .i64 0) Try.underlying22 (fun w => Try.zeroValue3 w) rfl rfl gb i _ _ (by omega)
            (fun t ht => by obtain ⟨g', hg', _, _, hc, _⟩ := HOWN.out.slot (k := i + t) (by omega); injection hg' with hg'; injection hg' with hg'; subst hg'; rw [hc]; rfl)
            (fun t ht => by obtain ⟨g', hg', _, _, _, hf⟩ := HOWN.out.slot (k := i + t) (by omega); injection hg' with hg'; injection hg' with hg'; subst hg'; exact hf)
        have hlow : dk.take i = without n xs := by rw [HI.out.low, hend, List.take_length]
        have HLOW := Lib.hid hlow; clear hlow hend
        have hwl : (without n xs).length = i := by rw [← HLOW.out, List.length_take]; omega
        have HWL := Lib.hid hwl; clear hwl
        have hic : i < c := by omega
        clear hdl
        go_wp2_with fail
        go_ret
        exact ⟨_, c, by rw [HWL.out]; rfl, by rw [HWL.out, ← HLOW.out]; exact (HOWN.out.cut (by omega)).setHighs _ _ (Nat.le_refl _), below_setCells HGB.out _ _ _ HBW.out⟩
end Go.Proofs.Ytilefofpfbgikaa
