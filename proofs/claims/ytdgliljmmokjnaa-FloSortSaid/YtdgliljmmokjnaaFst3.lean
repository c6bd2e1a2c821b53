/- Layer 1: Sort as a whole, SameKeys, the law FloSort. -/
import Derived.Test.YtdgliljmmokjnaaFst2
import Derived.Test.YtdgliljmmokjnaaFloL2
namespace Go.Proofs.Ytdgliljmmokjnaa
open Go.RowKit Go.Maps Go.Sort Go.Shelf Go.Lib Mem

theorem Mem.Own.recode {α β : Type} {f : α → Value} {g : β → Value} {base : Nat} {e : TypeId} {w : World} {v : Value} {xs : List α} {ys : List β} (h : Own f base e w v xs) (hm : xs.map f = ys.map g) : Own g base e w v ys := by
  have hl : xs.length = ys.length := by have := congrArg List.length hm; simpa using this
  unfold Own at *; rw [← hl, ← hm]; exact h
theorem Mem.Sl.recode {α β : Type} {f : α → Value} {g : β → Value} {w : World} {A : Option Addr} {xs : List α} {ys : List β} (h : Sl f w A xs) (hm : xs.map f = ys.map g) : Sl g w A ys := by
  have hl : xs.length = ys.length := by have := congrArg List.length hm; simpa using this
  refine ⟨hl ▸ h.1, fun hn => ?_⟩
  obtain ⟨b, o, e, hc⟩ := h.2 (by omega)
  refine ⟨b, o, e, fun j hj => ?_⟩
  rw [hc j (by omega)]
  have h1 : (xs.map f)[j]? = (ys.map g)[j]? := by rw [hm]
  rw [List.getElem?_map, List.getElem?_map, List.getElem?_eq_getElem (by omega), List.getElem?_eq_getElem hj] at h1
  simpa using h1
def fF (u : Nat) : Value := .float .f64 u
theorem fF_one (u : Nat) : (fF u).oneCell' = true := rfl
theorem cd_map {xs : List Nat} (hx : ∀ x ∈ xs, x < Flo.W) : (xs.map Flo.can).map fF = (xs.map cd).map fD := by
  rw [List.map_map, List.map_map]
  apply List.map_congr_left
  intro u hu
  show fF (Flo.can u) = fD (cd u)
  rw [fD_cd (hx u hu)]; rfl
/-- what Sort gives -/
def outs (xs : List Nat) : List Cd := compact (sD (xs.map cd))
def FsPost (xs : List Nat) (w : World) (e : Ending) (w' : World) : Prop :=
  ∃ A c, e = .returned (.slice A (outs xs).length c) ∧ Own fD w.heap.size 22 w' (.slice A (outs xs).length c) (outs xs) ∧ Below w.heap.size w w'
def FsRel (xs : List Nat) (w : World) (nv iv : Value) (wr : World) : Prop :=
  ∃ k : Nat, k ≤ xs.length ∧ iv = .int .i64 k ∧ Own fF w.heap.size 22 wr nv ((xs.take k).map Flo.can) ∧ Below w.heap.size w wr
set_option maxRecDepth 100000 in
set_option maxHeartbeats 2000000 in
theorem fsort_any (A : Option Addr) (c : Nat) (xs : List Nat) (hx : ∀ x ∈ xs, x < Flo.W) (hlen : lenB xs.length) (w : World) (hs : Sl (Value.float .f64) w A xs) :
    Calls Try.prog 34 #[.slice A xs.length c] w (FsPost xs w) := by
  have hl := hs.len
  have HS := Lib.hid hs; clear hs
  have HX := Lib.hid hx; clear hx
  have HLEN := Lib.hid hlen; clear hlen
  go_enter Try.func34, Try.ntmps34
  go_wp2_with fail
  go_loopw [3, 8] (fun nv iv wr => FsRel xs w nv iv wr) (fun _ iv _ => xs.length - (intOf iv).toNat)
  case atStart => exact ⟨0, Nat.zero_le _, rfl, Own.nil, Below.refl _ _⟩
  case round =>
    obtain ⟨k, hk, rfl, hown, hbw⟩ := hrel
    have HOWN := Lib.hid hown; clear hown
    have HBW := Lib.hid hbw; clear hbw
    by_cases hlt : k < xs.length
    · obtain ⟨b, o, rfl, _, hc⟩ := (HS.out.below HBW.out).at hlt
      replace hc := hc k hlt
      obtain ⟨x, hxk⟩ : ∃ x, x = xs[k] := ⟨_, rfl⟩
      have HMT : Hid ((xs.take (k + 1)).map Flo.can = (xs.take k).map Flo.can ++ [Flo.can x]) := by show _ = _; rw [List.take_succ_eq_append_getElem hlt, List.map_append, hxk]; rfl
      rw [← hxk] at hc
      clear hxk
      obtain ⟨M, hM⟩ : ∃ M, M = (xs.take k).map Flo.can := ⟨_, rfl⟩
      have hMl : M.length = k := by rw [hM, List.length_map, List.length_take]; omega
      rw [← hM] at HOWN HMT
      clear hM
      have h8 := lenB_app HLEN.out (k := M.length) (by omega)
      have H8 := Lib.hid h8; clear h8
      have HML := Lib.hid hMl; clear hMl
      go_wp2_with fail
      (with_reducible refine (canon_any x _).mono ?_); rintro e w' ⟨rfl, rfl⟩
      go_wp2_with (at_builtin; refine wpList_append1t (f := fF) rfl (.tmp 12) (.tmp 15) 35 rfl f64T (Flo.can x) (fF_one _) rfl HOWN.out rfl rfl H8.out.1 H8.out.2 HBW.out.size ?_; intro v7 w7 hown7 hg7)
      go_roundw
      case rel => exact ⟨k + 1, hlt, by go_num, by rw [HMT.out]; exact hown7, (HBW.out.alloc HBW.out.size _).trans ((HOWN.out.alloc _).below_ (by rw [World.size_alloc]; exact Nat.le_succ_of_le HBW.out.size) hg7)⟩
      case measure => simp [intOf]; omega
    · have hkn : k = xs.length := by omega
      have hO : Own fD w.heap.size 22 wr u3 (xs.map cd) := by
        have h1 := HOWN.out; rw [hkn, List.take_length] at h1; exact h1.recode (cd_map HX.out)
      clear HOWN hkn
      have hlc : (xs.map cd).length ≤ 20000000000000 := by rw [List.length_map]; have := HLEN.out; unfold lenB at this; omega
      have hsf := SortFunc_any hO (by omega)
      have HSF := Lib.hid hsf; clear hsf
      have HO := Lib.hid hO; clear hO
      have HLC := Lib.hid hlc; clear hlc
      go_wp2_with fail
      (with_reducible refine HSF.out.mono ?_); rintro e w2 ⟨rfl, hown2, hg2⟩
      have hb2 := HO.out.below_ HBW.out.size hg2
      have hcf := CompactFunc_any hown2 (by rw [sD_len]; exact HLC.out)
      have HCF := Lib.hid hcf; clear hcf
      have HOWN2 := Lib.hid hown2; clear hown2
      have HB2 : Hid (Below w.heap.size w w2) := HBW.out.trans hb2
      clear hb2 hg2
      go_wp2_with fail
      (with_reducible refine HCF.out.mono ?_); rintro e w3 ⟨A3, c3, rfl, hown3, hg3⟩
      have HB3 : Hid (Below w.heap.size w w3) := HB2.out.trans (HOWN2.out.below_ HB2.out.size hg3)
      have HOWN3 := Lib.hid hown3; clear hown3
      go_wp2_with fail
      go_ret
      exact ⟨A3, c3, rfl, HOWN3.out, HB3.out⟩
/-- in plain words: strictly rising, and the same codes -/
theorem cu_inv (d : List Cd) (hs : d.Pairwise (fun a b => a.1 ≤ b.1)) : ∀ m, m ≤ d.length →
    ((compactUpTo d.toArray m).map (·.1)).Pairwise (· < ·) ∧ ∀ x : Cd, x ∈ compactUpTo d.toArray m ↔ ∃ j, ∃ h : j < d.length, j < m ∧ d[j] = x
  | 0, _ => ⟨by simp [compactUpTo], fun x => by simp [compactUpTo]⟩
  | m + 1, hm => by
    obtain ⟨h1, h2⟩ := cu_inv d hs m (by omega)
    have hlt : m < d.length := by omega
    rw [compactUpTo_succ]
    have hget : d.toArray[m]! = d[m] := by rw [getElem!_pos _ _ (by simpa using hlt)]; simp
    by_cases hk : keeps d.toArray m = true
    · rw [if_pos hk, hget]
      refine ⟨?_, fun x => ?_⟩
      · rw [List.map_append, List.pairwise_append]
        refine ⟨h1, by simp, fun a ha b hb => ?_⟩
        obtain ⟨y, hy, rfl⟩ := List.mem_map.1 ha
        simp at hb; subst hb
        obtain ⟨j, hj, hjm, rfl⟩ := (h2 y).1 hy
        have hpos : 0 < m := by omega
        have hmm : m - 1 < d.length := by omega
        have hne : d[m] ≠ d[m - 1] := by
          have h3 : m = 0 ∨ d.toArray[m]! ≠ d.toArray[m - 1]! := by unfold keeps at hk; simpa using hk
          rcases h3 with h | h
          · omega
          · rw [hget, getElem!_pos _ (m - 1) (by simpa using hmm)] at h
            simpa using h
        have h4 : d[m - 1].1 ≤ d[m].1 := List.pairwise_iff_getElem.1 hs (m - 1) m hmm hlt (by omega)
        have h5 : d[j].1 ≤ d[m - 1].1 := by
          rcases Nat.lt_or_ge j (m - 1) with h | h
          · exact List.pairwise_iff_getElem.1 hs j (m - 1) hj hmm h
          · have : j = m - 1 := by omega
            subst this; exact Nat.le_refl _
        have h6 : d[m - 1].1 ≠ d[m].1 := fun e => hne (cd_ext e.symm)
        show d[j].1 < d[m].1
        omega
      · rw [List.mem_append, h2]
        simp only [List.mem_singleton]
        constructor
        · rintro (⟨j, hj, hjm, e⟩ | e)
          · exact ⟨j, hj, by omega, e⟩
          · exact ⟨m, hlt, by omega, e.symm⟩
        · rintro ⟨j, hj, hjm, e⟩
          rcases Nat.lt_or_ge j m with h | h
          · exact .inl ⟨j, hj, h, e⟩
          · have : j = m := by omega
            subst this; exact .inr e.symm
    · rw [if_neg hk, List.append_nil]
      refine ⟨h1, fun x => ?_⟩
      rw [h2]
      have hk2 : ¬ (m = 0 ∨ d.toArray[m]! ≠ d.toArray[m - 1]!) := by unfold keeps at hk; simpa using hk
      have hm0 : m ≠ 0 := fun e => hk2 (.inl e)
      have hmm : m - 1 < d.length := by omega
      have heq : d[m] = d[m - 1] := by
        have h3 : d.toArray[m]! = d.toArray[m - 1]! := Classical.not_not.1 (fun h => hk2 (.inr h))
        rw [hget, getElem!_pos _ (m - 1) (by simpa using hmm)] at h3
        simpa using h3
      constructor
      · rintro ⟨j, hj, hjm, e⟩; exact ⟨j, hj, by omega, e⟩
      · rintro ⟨j, hj, hjm, e⟩
        rcases Nat.lt_or_ge j m with h | h
        · exact ⟨j, hj, h, e⟩
        · have : j = m := by omega
          subst this
          exact ⟨j - 1, hmm, by omega, by rw [← heq]; exact e⟩
theorem strict_unique : ∀ (a b : List Nat), a.Pairwise (· < ·) → b.Pairwise (· < ·) → (∀ x, x ∈ a ↔ x ∈ b) → a = b
  | [], [], _, _, _ => rfl
  | [], y :: b, _, _, h => absurd ((h y).2 (by simp)) (by simp)
  | x :: a, [], _, _, h => absurd ((h x).1 (by simp)) (by simp)
  | x :: a, y :: b, ha, hb, h => by
    rw [List.pairwise_cons] at ha hb
    have hxy : x = y := by
      have h1 := (h x).1 (by simp)
      have h2 := (h y).2 (by simp)
      rcases List.mem_cons.1 h1 with e | e
      · exact e
      · rcases List.mem_cons.1 h2 with e2 | e2
        · exact e2.symm
        · have := hb.1 x e; have := ha.1 y e2; omega
    subst hxy
    congr 1
    refine strict_unique a b ha.2 hb.2 (fun z => ?_)
    constructor
    · intro hz
      rcases List.mem_cons.1 ((h z).1 (List.mem_cons_of_mem _ hz)) with e | e
      · subst e; exact absurd (ha.1 z hz) (by omega)
      · exact e
    · intro hz
      rcases List.mem_cons.1 ((h z).2 (List.mem_cons_of_mem _ hz)) with e | e
      · subst e; exact absurd (hb.1 z hz) (by omega)
      · exact e
theorem outs_codes {xs : List Nat} (hx : ∀ x ∈ xs, x < Flo.W) : (outs xs).map (·.1) = srt (xs.map Flo.code) := by
  have hsort : (sD (xs.map cd)).Pairwise (fun a b => a.1 ≤ b.1) := by
    have h := List.pairwise_mergeSort (le := fun x y : Cd => !(ltOf cfD) y x) (fun a b c h1 h2 => by rw [ltD] at *; simp at *; omega) (fun a b => by rw [ltD, ltD]; simp; omega) (xs.map cd)
    exact h.imp (fun h => by rw [ltD] at h; simpa using h)
  obtain ⟨h1, h2⟩ := cu_inv _ hsort (sD (xs.map cd)).length (Nat.le_refl _)
  refine strict_unique _ _ h1 (srt_sorted _).1 (fun c => ?_)
  rw [(srt_sorted _).2]
  constructor
  · intro hc
    obtain ⟨y, hy, rfl⟩ := List.mem_map.1 hc
    obtain ⟨j, hj, _, rfl⟩ := (h2 y).1 hy
    have hm : (sD (xs.map cd))[j] ∈ xs.map cd := (List.mergeSort_perm ..).mem_iff.1 (List.getElem_mem hj)
    obtain ⟨u, hu, he⟩ := List.mem_map.1 hm
    rw [← he, cd_val (hx u hu)]
    exact List.mem_map.2 ⟨u, hu, rfl⟩
  · intro hc
    obtain ⟨u, hu, rfl⟩ := List.mem_map.1 hc
    have hm : cd u ∈ sD (xs.map cd) := (List.mergeSort_perm ..).mem_iff.2 (List.mem_map.2 ⟨u, hu, rfl⟩)
    obtain ⟨j, hj, he⟩ := List.mem_iff_getElem.1 hm
    exact List.mem_map.2 ⟨cd u, (h2 _).2 ⟨j, hj, hj, he⟩, cd_val (hx u hu)⟩
theorem outs_len {xs : List Nat} (hx : ∀ x ∈ xs, x < Flo.W) : (outs xs).length = (srt (xs.map Flo.code)).length := by rw [← outs_codes hx, List.length_map]
theorem outs_bits {xs : List Nat} (hx : ∀ x ∈ xs, x < Flo.W) : (outs xs).map fD = (srt (xs.map Flo.code)).map fC := by
  rw [← outs_codes hx, List.map_map]; rfl
end Go.Proofs.Ytdgliljmmokjnaa
