/- Layer 13: slices.IndexFunc and slices.DeleteFunc at a session's list, with Put$1. -/
import Derived.Test.YtakebmbdcjbbgaaSsI
import Derived.Lib.SliceRun
import Derived.BigQuiet
namespace Go.Proofs.Ytakebmbdcjbbgaa
open Go Go.RowKit Go.Maps Go.Lib Mem Ss

theorem flatMap_split {α β : Type} {f : α → List β} {k : Nat} (hf : ∀ x, (f x).length = k) (xs : List α) (i : Nat) (hi : i ≤ xs.length) : (xs.flatMap f).take (i * k) = (xs.take i).flatMap f ∧ (xs.flatMap f).drop (i * k) = (xs.drop i).flatMap f := by
  have e : xs.flatMap f = (xs.take i).flatMap f ++ (xs.drop i).flatMap f := by rw [← List.flatMap_append, List.take_append_drop]
  have hl : ((xs.take i).flatMap f).length = i * k := by rw [flatMap_len hf, List.length_take, Nat.min_eq_left hi]
  constructor
  · rw [e, ← hl, List.take_left]
  · rw [e, ← hl, List.drop_left]
theorem spl_set {k : Nat} {f : It → List Value} (hf : ∀ x, (f x).length = k) (xs : List It) (i : Nat) (hi : i < xs.length) (x : It) (R : List Value) (hR : R.take (xs.length * k) = xs.flatMap f) :
    (spl R (i * k) (f x)).take ((xs.set i x).length * k) = (xs.set i x).flatMap f := by
  obtain ⟨a1, -⟩ := flatMap_split hf xs i (by omega)
  obtain ⟨-, b2⟩ := flatMap_split hf xs (i + 1) (by omega)
  have hm : (i + 1) * k ≤ xs.length * k := Nat.mul_le_mul_right k hi
  have hik : i * k + k = (i + 1) * k := by rw [Nat.add_mul, Nat.one_mul]
  have t1 : R.take (i * k) = (xs.take i).flatMap f := by
    rw [← a1, ← hR, List.take_take, Nat.min_eq_left (by omega)]
  have t2 : (R.drop ((i + 1) * k)).take (xs.length * k - (i + 1) * k) = (xs.drop (i + 1)).flatMap f := by
    rw [← b2, ← hR, List.drop_take]
  have hl : ((xs.take i).flatMap f ++ f x).length = (i + 1) * k := by rw [List.length_append, hf, flatMap_len hf, List.length_take, Nat.min_eq_left (by omega)]; omega
  unfold spl
  rw [t1, hf, hik, List.length_set, List.take_append, hl, t2, List.set_eq_take_append_cons_drop, if_pos hi, List.flatMap_append, List.flatMap_cons, List.take_of_length_le (by rw [hl]; omega)]
  simp
theorem OwnK.setK {base : Nat} {w : World} {g n c i : Nat} {xs : List It} (h : OwnK 3 itN base 76 w (.slice (some ⟨g, 0, none⟩) n c) xs) (hi : i < xs.length) (x : It) :
    OwnK 3 itN base 76 (w.setCells g (i * 3) (itN x)) (.slice (some ⟨g, 0, none⟩) n c) (xs.set i x) := by
  obtain ⟨rfl, hb, hnc, hcm, cur, hcur, hcs, hct⟩ := h.block
  have h2 := Blk.setCells_ (itN x) (o := i * 3) hcur (by rw [hcs, itN_len]; omega)
  have h3 := OwnK.mkB (f := itN) (base := base) (c := c) (xs := xs.set i x) itN_len hb (by rw [List.length_set]; exact hnc) hcm h2 (by rw [List.size_toArray, spl_len (by rw [itN_len, Array.length_toList, hcs]; omega), Array.length_toList, hcs]) (spl_set itN_len xs i hi x _ hct)
  rw [List.length_set] at h3
  exact h3
theorem OwnK.cutK {base : Nat} {w : World} {g n c i : Nat} {xs : List It} (h : OwnK 3 itN base 76 w (.slice (some ⟨g, 0, none⟩) n c) xs) (hi : i ≤ xs.length) (us : List Value) (hu : i * 3 + us.length ≤ c * 3) :
    OwnK 3 itN base 76 (w.setCells g (i * 3) us) (.slice (some ⟨g, 0, none⟩) i c) (xs.take i) := by
  obtain ⟨rfl, hb, hnc, hcm, cur, hcur, hcs, hct⟩ := h.block
  have h2 := Blk.setCells_ us (o := i * 3) hcur (by rw [hcs]; exact hu)
  have hl : (xs.take i).length = i := by rw [List.length_take, Nat.min_eq_left hi]
  have hz : (spl cur.toList (i * 3) us).toArray.size = c * 3 := by
    have hlc : cur.toList.length = c * 3 := by rw [Array.length_toList, hcs]
    show (spl cur.toList (i * 3) us).length = _
    rw [spl_len (by rw [hlc]; exact hu), hlc]
  have h3 := OwnK.mkB (f := itN) (base := base) (c := c) (xs := xs.take i) itN_len hb (by rw [hl]; omega) hcm h2 hz (by
    rw [hl]; unfold spl
    have e : (cur.toList.take (i * 3)).length = i * 3 := by rw [List.length_take, Array.length_toList, hcs, Nat.min_eq_left]; omega
    have t : cur.toList.take (i * 3) = (xs.take i).flatMap itN := by
      rw [← (flatMap_split itN_len xs i hi).1, ← hct, List.take_take, Nat.min_eq_left]; omega
    rw [List.append_assoc, List.take_append_of_le_length (by rw [e]; exact Nat.le_refl _), List.take_of_length_le (by rw [e]; exact Nat.le_refl _), t])
  rw [hl] at h3
  exact h3
theorem run_clear_cellsK {P : Program} (w : World) (t e ty : TypeId) (z : Value) (ht : P.underlying t = some (.slice e)) (hv : ∀ w, (zeroValue e).run P w = .ok z w) (b o n c : Nat) (hn : 0 < n) (us : List Value) (hz : (Builtin.zeroCells z.cells n).toList = us) (h1 : ∀ v ∈ us, v.oneCell' = true)
    (hc : ∀ j, j < us.length → (w.cell? ⟨b, o + j, none⟩).isSome = true) (hf : ∀ j, j < us.length → w.frozen? ⟨b, o + j, none⟩ = false) :
    (Builtin.clear_ #[t] ty #[.slice (some ⟨b, o, none⟩) n c]).run P w = .ok (.tuple #[]) (w.setCells b o us) := by
  have hst := run_storeCells_cells (P := P) b o us 0 w (by simpa using hc) (by simpa using hf) h1
  simp only [Nat.add_zero] at hst
  obtain ⟨m, rfl⟩ : ∃ m, n = m + 1 := ⟨n - 1, by omega⟩
  simp [Builtin.clear_, run_underlying ht, hv, hz, hst]
/-! the closure -/
def GoneP (b : Bool) (w : World) (e : Ending) (w' : World) : Prop := e = .returned (.bool b) ∧ Below w.heap.size w w'
def gone (high : Int) (x : It) : Bool := decide (x.seq ≤ high - 8)
set_option maxRecDepth 100000 in
theorem Put1_any (x : It) (pb sb : Nat) (high : Int) (w : World) (c1 : w.cell? ⟨pb, 0, none⟩ = some (.pointer (some ⟨sb, 0, none⟩))) (c2 : w.cell? ⟨sb, 0, none⟩ = some (.int .i64 high)) (h1 : 1 ≤ high) (h2 : high ≤ 1099511627776) :
    Calls Try.prog 30 #[.agg #[.int .i64 x.seq, .int .i64 x.code, .int .i64 x.num], .pointer (some ⟨pb, 0, none⟩)] w (GoneP (gone high x) w) := by
  have e1 : wrap64 (high - 8) = high - 8 := by unfold wrap64; omega
  have E1 := Lib.hid e1
  clear h1 h2 e1
  have d1 : ∀ o : Obj, (w.alloc o).cell? ⟨pb, 0, none⟩ = some (.pointer (some ⟨sb, 0, none⟩)) := fun o => Lib.cell?_alloc_some o c1
  have d2 : ∀ o : Obj, (w.alloc o).cell? ⟨sb, 0, none⟩ = some (.int .i64 high) := fun o => Lib.cell?_alloc_some o c2
  clear c1 c2
  go_enter Try.func30, Try.ntmps30
  go_wp2_with fail
  go_quiet (fail)
  go_wp2_with fail
  go_ret
  exact ⟨by show Ending.returned (.bool (decide (x.seq ≤ wrap64 (high - 8)))) = _; rw [E1.out]; rfl, below_drewN ((Below.refl _ _).alloc (Nat.le_refl _) _) _⟩
theorem itA (x : It) : Value.agg #[.int .i64 x.seq, .int .i64 x.code, .int .i64 x.num] = .agg (itN x).toArray := rfl
/-- the first that goes -/
def IdxG (high : Int) (xs : List It) (w : World) (e : Ending) (w' : World) : Prop :=
  ∃ i : Int, e = .returned (.int .i64 i) ∧ ((i = -1 ∧ ∀ x ∈ xs, gone high x = false) ∨ ∃ k, ∃ h : k < xs.length, i = (k : Int) ∧ gone high xs[k] = true ∧ ∀ x ∈ xs.take k, gone high x = false) ∧ Below w.heap.size w w'
def IgRel (high : Int) (xs : List It) (w : World) (i : Value) (wr : World) : Prop := ∃ k : Nat, k ≤ xs.length ∧ i = .int .i64 k ∧ (∀ x ∈ xs.take k, gone high x = false) ∧ Below w.heap.size w wr
theorem take_noI {xs : List It} {high : Int} {k : Nat} (hk : k < xs.length) (h : ∀ x ∈ xs.take k, gone high x = false) (hx : gone high xs[k] = false) : ∀ x ∈ xs.take (k + 1), gone high x = false := by
  intro x hm
  rw [List.take_succ_eq_append_getElem hk, List.mem_append, List.mem_singleton] at hm
  rcases hm with h1 | rfl
  · exact h x h1
  · exact hx
set_option maxRecDepth 100000 in
set_option maxHeartbeats 2000000 in
theorem IndexFunc_it {F : Nat → Prop} (A : Option Addr) (c : Nat) (xs : List It) (w : World) (hs : SlK 3 itN 76 F w A xs) (pb sb : Nat) (high : Int) (c1 : w.cell? ⟨pb, 0, none⟩ = some (.pointer (some ⟨sb, 0, none⟩))) (c2 : w.cell? ⟨sb, 0, none⟩ = some (.int .i64 high)) (h1 : 1 ≤ high) (h2 : high ≤ 1099511627776) :
    Calls Try.prog 53 #[.slice A xs.length c, .func (.func 30) #[] #[.pointer (some ⟨pb, 0, none⟩)]] w (IdxG high xs w) := by
  have hl := hs.len
  have HS := Lib.hid hs; clear hs
  have HC1 := Lib.hid c1
  have HC2 := Lib.hid c2
  have l1 := lt_of_cell c1
  have l2 := lt_of_cell c2
  clear c1 c2
  have HH : Hid (1 ≤ high ∧ high ≤ 1099511627776) := Lib.hid ⟨h1, h2⟩
  clear h1 h2
  go_enter Try.func53, Try.ntmps53
  go_wp2_with fail
  go_loopw [8] (fun i wr => IgRel high xs w i wr) (fun i _ => xs.length - (RowKit.intOf i).toNat)
  case atStart => exact ⟨0, Nat.zero_le _, rfl, by simp, Below.refl _ _⟩
  case round =>
    obtain ⟨k, hk, rfl, hno, hbw⟩ := hrel
    have HNO := Lib.hid hno; clear hno
    have HBW := Lib.hid hbw; clear hbw
    obtain ⟨wo, rfl⟩ : ∃ wo, wo = wr := ⟨_, rfl⟩
    by_cases hlt : k < xs.length
    · obtain ⟨b, o, rfl, _, _, hc⟩ := (HS.out.below HBW.out).at hlt
      obtain ⟨x, hx⟩ : ∃ x, x = xs[k] := ⟨_, rfl⟩
      rw [← hx] at hc
      have e0 : wo.cell? ⟨b, o + k * 3, none⟩ = some (.int .i64 x.seq) := hc 0 (by decide)
      have e1 : wo.cell? ⟨b, o + k * 3 + 1, none⟩ = some (.int .i64 x.code) := hc 1 (by decide)
      have e2 : wo.cell? ⟨b, o + k * 3 + 2, none⟩ = some (.int .i64 x.num) := hc 2 (by decide)
      clear hc
      have HCALL := Lib.hid (Put1_any x pb sb high wo ((HBW.out.cell l1).trans HC1.out) ((HBW.out.cell l2).trans HC2.out) HH.out.1 HH.out.2)
      obtain ⟨z, hz⟩ : ∃ z, z = gone high x := ⟨_, rfl⟩
      rw [← hz] at HCALL
      have HX := Lib.hid hx; clear hx
      have HZ := Lib.hid hz; clear hz
      clear l1 l2
      cases z with
      | true =>
        go_wp2_with fail
        (with_reducible refine HCALL.out.mono ?_); rintro e w' ⟨rfl, hb'⟩
        have HB2 : Hid (Below w.heap.size w w') := Lib.hid (HBW.out.trans (hb'.mono HBW.out.size))
        clear hb'
        go_wp2_with fail
        go_ret
        exact ⟨(k : Int), rfl, .inr ⟨k, hlt, rfl, by rw [← HX.out]; exact HZ.out.symm, HNO.out⟩, HB2.out⟩
      | false =>
        have HN2 := Lib.hid (take_noI hlt HNO.out (by rw [← HX.out]; exact HZ.out.symm))
        go_wp2_with fail
        (with_reducible refine HCALL.out.mono ?_); rintro e w' ⟨rfl, hb'⟩
        have HB2 : Hid (Below w.heap.size w w') := Lib.hid (HBW.out.trans (hb'.mono HBW.out.size))
        clear hb'
        go_wp2_with fail
        go_roundw
        case rel => exact ⟨k + 1, hlt, by go_num, HN2.out, HB2.out⟩
        case measure => simp [RowKit.intOf]; omega
    · have hno : ∀ x ∈ xs, gone high x = false := by have h1 := HNO.out; rw [List.take_of_length_le (by omega)] at h1; exact h1
      have HN := Lib.hid hno; clear hno
      go_wp2_with fail
      go_ret
      exact ⟨-1, rfl, .inl ⟨rfl, HN.out⟩, HBW.out⟩
def keepW (high : Int) (xs : List It) : List It := xs.filter fun x => !gone high x
theorem keepW_win (high : Int) (xs : List It) : keepW high xs = winI high xs := by
  unfold keepW winI
  apply List.filter_congr
  intro x _
  unfold gone
  by_cases h : x.seq ≤ high - 8
  · rw [decide_eq_true h, decide_eq_false (by omega)]; rfl
  · rw [decide_eq_false h, decide_eq_true (by omega)]; rfl
theorem keepW_none {high : Int} {xs : List It} (h : ∀ x ∈ xs, gone high x = false) : keepW high xs = xs := by
  unfold keepW; rw [List.filter_eq_self]
  intro a ha
  rw [h a ha]; rfl
theorem keepW_step {high : Int} {xs : List It} {j : Nat} (h : j < xs.length) : keepW high (xs.take (j + 1)) = keepW high (xs.take j) ++ (if gone high xs[j] = true then [] else [xs[j]]) := by
  rw [List.take_succ_eq_append_getElem h]; unfold keepW; rw [List.filter_append]
  by_cases e : gone high xs[j] = true <;> simp [e]
structure DelK (xs : List It) (high : Int) (i j : Nat) (dk : List It) : Prop where
  len : dk.length = xs.length
  ij : i < j
  jl : j ≤ xs.length
  low : dk.take i = keepW high (xs.take j)
  high : ∀ t (h1 : t < dk.length) (h2 : t < xs.length), j ≤ t → dk[t] = xs[t]
def DkRel (xs : List It) (high : Int) (base g c : Nat) (w : World) (iv jv : Value) (wr : World) : Prop :=
  ∃ (i j : Nat) (dk : List It), iv = .int .i64 i ∧ jv = .int .i64 j ∧ DelK xs high i j dk ∧ OwnK 3 itN base 76 wr (.slice (some ⟨g, 0, none⟩) xs.length c) dk ∧ Frm (fun k => k = g) w wr
/-- what stays of a session's list; the list's own block serves -/
def DelP (base : Nat) (v : Value) (ks : List It) (w : World) (e : Ending) (w' : World) : Prop :=
  ∃ v', e = .returned v' ∧ OwnK 3 itN base 76 w' v' ks ∧ Frm (fun g => v.ownBlock = some g) w w' ∧ v'.ownBlock = v.ownBlock
set_option maxRecDepth 100000 in
set_option maxHeartbeats 4000000 in
theorem DeleteFunc_it {base : Nat} {w : World} {v : Value} {xs : List It} (h : OwnK 3 itN base 76 w v xs) (hsz : xs.length ≤ 100) (pb sb : Nat) (high : Int) (c1 : w.cell? ⟨pb, 0, none⟩ = some (.pointer (some ⟨sb, 0, none⟩))) (c2 : w.cell? ⟨sb, 0, none⟩ = some (.int .i64 high)) (h1 : 1 ≤ high) (h2 : high ≤ 1099511627776)
    (hp : v.ownBlock ≠ some pb) (hq : v.ownBlock ≠ some sb) :
    Calls Try.prog 29 #[v, .func (.func 30) #[] #[.pointer (some ⟨pb, 0, none⟩)]] w (DelP base v (winI high xs) w) := by
  rw [← keepW_win]
  obtain ⟨A, c, rfl⟩ := h.form
  have hcap := h.cap
  have HCM := Lib.hid hcap.2
  have hcl := hcap.1
  clear hcap
  have HIF := Lib.hid (IndexFunc_it A c xs w (h.slK itN_len).2 pb sb high c1 c2 h1 h2)
  have l1 := lt_of_cell c1
  have l2 := lt_of_cell c2
  have HC1 := Lib.hid c1; clear c1
  have HC2 := Lib.hid c2; clear c2
  have HH : Hid (1 ≤ high ∧ high ≤ 1099511627776) := Lib.hid ⟨h1, h2⟩
  clear h1 h2
  have H := Lib.hid h; clear h
  have HP := Lib.hid hp; clear hp
  have HQ := Lib.hid hq; clear hq
  go_enter Try.func29, Try.ntmps29
  go_wp2_with fail
  (with_reducible refine HIF.out.mono ?_); rintro e w1 ⟨i0, rfl, hi0, hb1⟩
  have HB1 := Lib.hid hb1; clear hb1
  rcases hi0 with ⟨rfl, hno⟩ | ⟨k0, hk0, rfl, hxk, hno⟩
  · have HE := Lib.hid (keepW_none hno)
    clear hno
    go_wp2_with fail
    go_ret
    exact ⟨.slice A xs.length c, rfl, by rw [HE.out]; exact H.out.below HB1.out, Frm.below HB1.out, rfl⟩
  · have hinv : DelK xs high k0 (k0 + 1) xs := ⟨rfl, by omega, by omega, by
      rw [keepW_step hk0, if_pos hxk, List.append_nil, keepW_none hno], fun _ _ _ _ => rfl⟩
    have HINV := Lib.hid hinv; clear hinv hno hxk
    obtain ⟨gb, hA, hgb⟩ : ∃ g, A = some ⟨g, 0, none⟩ ∧ base ≤ g := by
      rcases H.out.2 with ⟨h1, h2⟩ | ⟨g', cap, cur, hv, hb, -⟩
      · omega
      · injection hv with a; exact ⟨g', a, hb⟩
    subst hA
    have HGB := Lib.hid hgb; clear hgb
    have hne : ((k0 : Int) == -1) = false := by rw [beq_eq_false_iff_ne]; omega
    have hcm := HCM.out
    have hcm2 : c ≤ 9223372036854775807 := hcm
    have HPB : Hid (pb ≠ gb) := Lib.hid fun e => HP.out (by rw [e]; rfl)
    have HSB : Hid (sb ≠ gb) := Lib.hid fun e => HQ.out (by rw [e]; rfl)
    go_wp2_with fail
    clear hne
    go_loopw [5, 6] (fun iv jv wr => DkRel xs high base gb c w iv jv wr) (fun _ jv _ => xs.length - (RowKit.intOf jv).toNat)
    case atStart => exact ⟨k0, k0 + 1, xs, rfl, by go_num, HINV.out, H.out.below HB1.out, Frm.below HB1.out⟩
    case round =>
      obtain ⟨i, j, dk, rfl, rfl, hinv, hown, hbw1⟩ := hrel
      have hij := hinv.ij
      have hjl := hinv.jl
      have hdl := hinv.len
      have HI := Lib.hid hinv; clear hinv
      have HOWN := Lib.hid hown; clear hown
      have HBW := Lib.hid hbw1; clear hbw1
      obtain ⟨wo, rfl⟩ : ∃ wo, wo = wr := ⟨_, rfl⟩
      by_cases hlt : j < xs.length
      · have hjd : j < dk.length := by omega
        have hid : i < dk.length := by omega
        obtain ⟨x, hx⟩ : ∃ x, x = dk[j] := ⟨_, rfl⟩
        have hxx : x = xs[j] := by rw [hx]; exact HI.out.high j hjd hlt (Nat.le_refl _)
        obtain ⟨-, -, -, -, cur, hcur, hcs, hct⟩ := HOWN.out.block
        have hat : ∀ t, t < 3 → wo.cell? ⟨gb, j * 3 + t, none⟩ = (itN x)[t]? := fun t ht => by
          obtain ⟨b, o, hA, -, -, hc⟩ := (HOWN.out.slK itN_len).2.at hjd
          injection hA with hA; injection hA with hA1 hA2
          subst hA1; subst hA2
          have := hc t ht
          rw [Nat.zero_add] at this
          rw [this, hx]
        have e0 : wo.cell? ⟨gb, j * 3, none⟩ = some (.int .i64 x.seq) := hat 0 (by decide)
        have e1 : wo.cell? ⟨gb, j * 3 + 1, none⟩ = some (.int .i64 x.code) := hat 1 (by decide)
        have e2 : wo.cell? ⟨gb, j * 3 + 2, none⟩ = some (.int .i64 x.num) := hat 2 (by decide)
        have hc1 : wo.cell? ⟨pb, 0, none⟩ = some (.pointer (some ⟨sb, 0, none⟩)) := by
          rw [← HC1.out]; unfold World.cell?; rw [HBW.out.block pb l1 HPB.out]
        have hc2 : wo.cell? ⟨sb, 0, none⟩ = some (.int .i64 high) := by
          rw [← HC2.out]; unfold World.cell?; rw [HBW.out.block sb l2 HSB.out]
        have HCALL := Lib.hid fun o : Obj => Put1_any x pb sb high (wo.alloc o) (Lib.cell?_alloc_some o hc1) (Lib.cell?_alloc_some o hc2) HH.out.1 HH.out.2
        have HST := Lib.hid (keepW_step (high := high) hlt)
        rw [← hxx] at HST
        have hgbs := hcur.lt
        have HCUR := Lib.hid hcur
        have HCS := Lib.hid hcs
        clear hat hc1 hc2 hct hcur hcs
        have HXX := Lib.hid hxx; clear hxx hx
        obtain ⟨z, hz⟩ : ∃ z, z = gone high x := ⟨_, rfl⟩
        rw [← hz] at HCALL HST
        have HZ := Lib.hid hz; clear hz
        clear hdl hjd hid
        have hic : i < c := by omega
        have HNEW := Lib.hid (Blk.new_ wo 76 (itN x).toArray)
        cases z with
        | true =>
          go_wp2_with fail
          (with_reducible refine (HCALL.out _).mono ?_); rintro e w2 ⟨rfl, hb2⟩
          have HB2 := Lib.hid hb2; clear hb2
          go_wp2_with fail
          go_roundw
          case rel =>
            have hb3 : Below wo.heap.size wo w2 := ((Below.refl _ _).alloc (Nat.le_refl _) _).trans (HB2.out.mono (by rw [World.size_alloc]; omega))
            refine ⟨i, j + 1, dk, rfl, by go_num, ⟨HI.out.len, by omega, by omega, ?_, fun t h1 h2 h3 => HI.out.high t h1 h2 (by omega)⟩, HOWN.out.below hb3, HBW.out.then_below hb3⟩
            rw [HST.out]; simp; exact HI.out.low
          case measure => simp [RowKit.intOf]; omega
        | false =>
          go_wp2_with fail
          (with_reducible refine (HCALL.out _).mono ?_); rintro e w2 ⟨rfl, hb2⟩
          have hs1 : wo.heap.size < (wo.alloc (.cells #[.int .i64 x.seq, .int .i64 x.code, .int .i64 x.num] 76)).heap.size := by rw [World.size_alloc]; omega
          have hbx : Blk w2 wo.heap.size 76 (itN x).toArray := HNEW.out.below hb2 hs1
          have b0 : w2.cell? ⟨wo.heap.size, 0, none⟩ = some (.int .i64 x.seq) := hbx.cell 0
          have b1 : w2.cell? ⟨wo.heap.size, 1, none⟩ = some (.int .i64 x.code) := hbx.cell 1
          have b2 : w2.cell? ⟨wo.heap.size, 2, none⟩ = some (.int .i64 x.num) := hbx.cell 2
          have hb3 : Below wo.heap.size wo w2 := ((Below.refl _ _).alloc (Nat.le_refl _) _).trans (hb2.mono (by omega))
          have HB3 := Lib.hid hb3
          have hcu2 : Blk w2 gb 76 cur := HCUR.out.below hb3 hgbs
          have hsz : cur.size = c * 3 := HCS.out
          have k0 : w2.cell? ⟨gb, i * 3, none⟩ = some cur[i * 3] := by rw [hcu2.cell, Array.getElem?_eq_getElem (by omega)]
          have k1 : w2.cell? ⟨gb, i * 3 + 1, none⟩ = some cur[i * 3 + 1] := by rw [hcu2.cell, Array.getElem?_eq_getElem (by omega)]
          have k2 : w2.cell? ⟨gb, i * 3 + 2, none⟩ = some cur[i * 3 + 2] := by rw [hcu2.cell, Array.getElem?_eq_getElem (by omega)]
          have f0 : w2.frozen? ⟨gb, i * 3, none⟩ = false := hcu2.free _
          have f1 : w2.frozen? ⟨gb, i * 3 + 1, none⟩ = false := hcu2.free _
          have f2 : w2.frozen? ⟨gb, i * 3 + 2, none⟩ = false := hcu2.free _
          obtain ⟨y0, hy0⟩ : ∃ y, y = cur[i * 3] := ⟨_, rfl⟩
          obtain ⟨y1, hy1⟩ : ∃ y, y = cur[i * 3 + 1] := ⟨_, rfl⟩
          obtain ⟨y2, hy2⟩ : ∃ y, y = cur[i * 3 + 2] := ⟨_, rfl⟩
          rw [← hy0] at k0; rw [← hy1] at k1; rw [← hy2] at k2
          clear hy0 hy1 hy2 hcu2 hsz hbx hs1 hb3 hb2
          go_wp2_with fail
          go_roundw
          case rel =>
            have hil : i < dk.length := by have := HI.out.len; omega
            refine ⟨i + 1, j + 1, dk.set i x, by go_num, by go_num, ⟨by rw [List.length_set]; exact HI.out.len, by omega, by omega, ?_, fun t h1 h2 h3 => ?_⟩, OwnK.setK (HOWN.out.below HB3.out) hil x, ((((HBW.out.then_below HB3.out).setCell (fun _ => rfl) _).setCell (fun _ => rfl) _).setCell (fun _ => rfl) _)⟩
            · rw [HST.out, ← HI.out.low, List.take_succ_eq_append_getElem (by rw [List.length_set]; exact hil), List.take_set_of_le (Nat.le_refl _), List.getElem_set_self]; simp
            · rw [List.getElem_set_ne (by omega)]
              exact HI.out.high t (by rw [List.length_set] at h1; exact h1) h2 (by omega)
          case measure => simp [RowKit.intOf]; omega
      · have hend : j = xs.length := by omega
        have hil : i < xs.length := by omega
        obtain ⟨-, -, -, -, cur, hcur, hcs, hct⟩ := HOWN.out.block
        obtain ⟨us, hus⟩ : ∃ us, us = (Builtin.zeroCells (Value.agg #[.int .i64 0, .int .i64 0, .int .i64 0]).cells (xs.length - i)).toList := ⟨_, rfl⟩
        have hul : us.length = (xs.length - i) * 3 := by
          rw [hus, Array.length_toList, zeroCells_size, Nat.mul_comm]; rfl
        have huo : ∀ v ∈ us, v.oneCell' = true := fun v hv => by
          rw [hus] at hv
          unfold Builtin.zeroCells at hv
          rw [Array.toList_map, List.mem_map] at hv
          obtain ⟨i', -, rfl⟩ := hv
          have hlt : i' % 3 < 3 := Nat.mod_lt _ (by decide)
          show ((#[Value.int .i64 0, .int .i64 0, .int .i64 0] : Array Value)[i' % 3]!).oneCell' = true
          rcases (show i' % 3 = 0 ∨ i' % 3 = 1 ∨ i' % 3 = 2 by omega) with h | h | h <;> rw [h] <;> rfl
        have hcl2 : ∀ ty, (Builtin.clear_ #[38] ty #[.slice (some ⟨gb, i * 3, none⟩) (xs.length - i) (c - i)]).run Try.prog wo = .ok (.tuple #[]) (wo.setCells gb (i * 3) us) :=
          fun ty => run_clear_cellsK wo _ 76 ty (.agg #[.int .i64 0, .int .i64 0, .int .i64 0]) Try.underlying38 (fun w => by kernel_rfl) gb (i * 3) _ _ (by omega) us hus.symm huo
            (fun t ht => by rw [hcur.cell, Array.getElem?_eq_getElem (by omega)]; rfl)
            (fun t ht => hcur.free _)
        have kk : (Instr.slice 38 (.slice (some ⟨gb, 0, none⟩) xs.length c) (some (.int .i64 (i : Int))) none none).run Try.prog wo = .ok (.slice (some ⟨gb, i * 3, none⟩) (xs.length - i) (c - i)) wo := by
          rw [cutK _ _ _ _ (by omega)]
          unfold partK
          rw [if_neg (by omega)]
          show Result.ok (Value.slice (some ((⟨gb, 0, none⟩ : Addr).add (i * 3))) (xs.length - i) (c - i)) wo = _
          rw [Addr.add_lit, Nat.zero_add]
        have hlow : dk.take i = keepW high xs := by rw [HI.out.low, hend, List.take_length]
        have HLOW := Lib.hid hlow; clear hlow hend
        have hwl : (keepW high xs).length = i := by rw [← HLOW.out, List.length_take]; omega
        have HWL := Lib.hid hwl; clear hwl
        have hic : i < c := by omega
        have HUL : Hid (us.length = (xs.length - i) * 3) := Lib.hid hul
        clear hdl hus hul huo hcur hcs hct
        go_wp2_with fail
        go_ret
        have hdl := HI.out.len
        refine ⟨_, rfl, ?_, ?_, rfl⟩
        · have h9 := OwnK.cutK HOWN.out (i := i) (by omega) us (by have := HUL.out; omega)
          rw [HLOW.out] at h9
          exact h9
        · have h9 := grown_setCells (g := gb) us wo (i * 3) (grownBy_refl _ _)
          exact HBW.out.grown h9 (fun k hk _ => (Option.some.inj hk).symm) |>.mono fun k _ hk => by rw [hk]; rfl
end Go.Proofs.Ytakebmbdcjbbgaa
