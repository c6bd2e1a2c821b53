/- Layer 15: which bytes are a configuration's: plain words. -/
import Derived.Test.YtilefofpfbgikaaRs
import Derived.Test.YtilefofpfbgikaaPkC
namespace Go.Proofs.Ytilefofpfbgikaa
open Go.RowKit Go.Maps Go.Lib Mem Pk Cf

/-- a number from 0 to 7 ahead of bytes -/
def cnt (bs : List UInt8) : Option (Int × List UInt8) :=
  match getNum bs with
  | some (n, m) => if 0 ≤ n ∧ n ≤ 7 then some (n, bs.drop m) else none
  | none => none
theorem cnt_some {bs r : List UInt8} {n : Int} : cnt bs = some (n, r) ↔ (0 ≤ n ∧ n ≤ 7) ∧ bs = numB n ++ r := by
  unfold cnt
  constructor
  · intro h
    cases hg : getNum bs with
    | none => rw [hg] at h; cases h
    | some p =>
      obtain ⟨k, m⟩ := p
      rw [hg] at h
      by_cases hk : 0 ≤ k ∧ k ≤ 7
      · simp only [if_pos hk] at h
        injection h with h
        injection h with h1 h2
        subst h1; subst h2
        have := (getNum_inv hg).1
        exact ⟨hk, by rw [← this, List.take_append_drop]⟩
      · simp only [if_neg hk] at h; cases h
  · rintro ⟨hn, rfl⟩
    rw [getNum_num (by omega) (by omega)]
    simp only [if_pos hn, List.drop_left]
/-- k of them -/
def cnts : Nat → List UInt8 → Option (List Int × List UInt8)
  | 0, bs => some ([], bs)
  | k + 1, bs =>
    match cnt bs with
    | none => none
    | some (n, r) =>
      match cnts k r with
      | none => none
      | some (ns, r') => some (n :: ns, r')
theorem cnts_some : ∀ {k : Nat} {bs r : List UInt8} {ns : List Int}, cnts k bs = some (ns, r) ↔ ns.length = k ∧ (∀ n ∈ ns, 0 ≤ n ∧ n ≤ 7) ∧ bs = numsB ns ++ r := by
  intro k
  induction k with
  | zero =>
    intro bs r ns
    unfold cnts
    constructor
    · intro h
      injection h with h; injection h with h1 h2
      subst h1; subst h2
      exact ⟨rfl, by simp, rfl⟩
    · rintro ⟨h1, -, rfl⟩
      obtain rfl := List.eq_nil_of_length_eq_zero h1
      rfl
  | succ k ih =>
    intro bs r ns
    unfold cnts
    constructor
    · intro h
      cases hc : cnt bs with
      | none => rw [hc] at h; cases h
      | some p =>
        obtain ⟨n, r1⟩ := p
        rw [hc] at h
        simp only at h
        cases hk : cnts k r1 with
        | none => rw [hk] at h; cases h
        | some q =>
          obtain ⟨ms, r2⟩ := q
          rw [hk] at h
          injection h with h; injection h with h1 h2
          subst h1; subst h2
          obtain ⟨e1, e2, e3⟩ := ih.1 hk
          obtain ⟨f1, f2⟩ := cnt_some.1 hc
          refine ⟨by rw [List.length_cons, e1], fun m hm => ?_, ?_⟩
          · rcases List.mem_cons.1 hm with rfl | hm
            · exact f1
            · exact e2 m hm
          · rw [f2, e3]; unfold numsB; rw [List.flatMap_cons, List.append_assoc]
    · rintro ⟨h1, h2, rfl⟩
      cases ns with
      | nil => cases h1
      | cons n ms =>
        have e1 : cnt (numsB (n :: ms) ++ r) = some (n, numsB ms ++ r) := cnt_some.2 ⟨h2 n List.mem_cons_self, by unfold numsB; rw [List.flatMap_cons, List.append_assoc]⟩
        have e2 : cnts k (numsB ms ++ r) = some (ms, r) := ih.2 ⟨by simpa using h1, fun m hm => h2 m (List.mem_cons_of_mem _ hm), rfl⟩
        rw [e1]; simp only []; rw [e2]
end Go.Proofs.Ytilefofpfbgikaa
namespace Go.Proofs.Ytilefofpfbgikaa
open Go.RowKit Go.Maps Go.Lib Mem Pk Cf

/-- a list with its length ahead -/
def row (bs : List UInt8) : Option (List Int × List UInt8) :=
  match cnt bs with
  | none => none
  | some (a, r) => cnts a.toNat r
theorem row_some {bs r : List UInt8} {ns : List Int} : row bs = some (ns, r) ↔ ns.length ≤ 7 ∧ (∀ n ∈ ns, 0 ≤ n ∧ n ≤ 7) ∧ bs = numsB ((ns.length : Int) :: ns) ++ r := by
  unfold row
  constructor
  · intro h
    cases hc : cnt bs with
    | none => rw [hc] at h; cases h
    | some p =>
      obtain ⟨a, r1⟩ := p
      rw [hc] at h
      simp only at h
      obtain ⟨e1, e2, e3⟩ := cnts_some.1 h
      obtain ⟨f1, f2⟩ := cnt_some.1 hc
      have ha : (ns.length : Int) = a := by omega
      refine ⟨by omega, e2, ?_⟩
      rw [ha, f2, e3]; unfold numsB; rw [List.flatMap_cons, List.append_assoc]
  · rintro ⟨h1, h2, rfl⟩
    have e1 : cnt (numsB ((ns.length : Int) :: ns) ++ r) = some ((ns.length : Int), numsB ns ++ r) := cnt_some.2 ⟨by omega, by unfold numsB; rw [List.flatMap_cons, List.append_assoc]⟩
    rw [e1]
    exact cnts_some.2 ⟨by simp, h2, rfl⟩
def loadC (bs : List UInt8) : Option (List Int × List Int) :=
  match row bs with
  | none => none
  | some (vs, r) =>
    match row r with
    | none => none
    | some (ls, r') => if rightB vs ls = true ∧ r' = [] then some (vs, ls) else none
theorem confN_rows (vs ls : List Int) : numsB (confN vs ls) = numsB ((vs.length : Int) :: vs) ++ numsB ((ls.length : Int) :: ls) := by
  unfold confN numsB; rw [List.flatMap_append]
/-- .. only a right configuration's bytes have one -/
theorem loadC_some {bs : List UInt8} {vs ls : List Int} : loadC bs = some (vs, ls) ↔ rightB vs ls = true ∧ bs = numsB (confN vs ls) := by
  unfold loadC
  constructor
  · intro h
    cases h1 : row bs with
    | none => rw [h1] at h; cases h
    | some p =>
      obtain ⟨vs1, r1⟩ := p
      rw [h1] at h
      simp only at h
      cases h2 : row r1 with
      | none => rw [h2] at h; cases h
      | some q =>
        obtain ⟨ls1, r2⟩ := q
        rw [h2] at h
        simp only at h
        by_cases hr : rightB vs1 ls1 = true ∧ r2 = []
        · rw [if_pos hr] at h
          injection h with h; injection h with e1 e2
          subst e1; subst e2
          obtain ⟨-, -, f1⟩ := row_some.1 h1
          obtain ⟨-, -, f2⟩ := row_some.1 h2
          exact ⟨hr.1, by rw [confN_rows, f1, f2, hr.2, List.append_nil]⟩
        · rw [if_neg hr] at h; cases h
  · rintro ⟨hr, rfl⟩
    obtain ⟨hv, hl, -⟩ := right_rise hr
    have e1 : row (numsB (confN vs ls)) = some (vs, numsB ((ls.length : Int) :: ls)) := row_some.2 ⟨rise_small hv, fun n hn => by have := rise_mem hv hn; omega, confN_rows vs ls⟩
    have e2 : row (numsB ((ls.length : Int) :: ls)) = some (ls, []) := row_some.2 ⟨rise_small hl, fun n hn => by have := rise_mem hl hn; omega, by rw [List.append_nil]⟩
    rw [e1]; simp only []; rw [e2]; simp only []
    rw [if_pos ⟨hr, trivial⟩]
end Go.Proofs.Ytilefofpfbgikaa
namespace Go.Proofs.Ytilefofpfbgikaa
open Go.RowKit Go.Maps Go.Lib Mem Pk Cf

theorem shape_conf {x : Int} {t : List Int} {a b : Nat} (hx : x = (a : Int)) (ha : a + 1 ≤ t.length) (hb : t[a]'(by omega) = (b : Int)) (hl : t.length = a + 1 + b) : x :: t = confN (t.take a) (t.drop (a + 1)) := by
  unfold confN
  rw [List.length_take, List.length_drop, Nat.min_eq_left (by omega), hx]
  have e1 : t.drop a = t[a]'(by omega) :: t.drop (a + 1) := List.drop_eq_getElem_cons (by omega)
  have e2 : ((t.length - (a + 1) : Nat) : Int) = t[a]'(by omega) := by rw [hb]; omega
  rw [e2, List.cons_append, ← e1, List.take_append_drop]
theorem conf_shape (vs ls : List Int) : (vs ++ (ls.length : Int) :: ls).take vs.length = vs ∧ (vs ++ (ls.length : Int) :: ls).drop (vs.length + 1) = ls := by
  refine ⟨List.take_left, ?_⟩
  rw [← List.drop_drop, List.drop_left]; rfl
end Go.Proofs.Ytilefofpfbgikaa
namespace Go.Proofs.Ytilefofpfbgikaa
open Go.RowKit Go.Maps Go.Lib Mem Pk Cf

theorem cnt_yes {bs r : List UInt8} {n : Int} (h : cnt bs = some (n, r)) : ∃ k, getCount 7 bs = some (n, k) ∧ r = bs.drop k := by
  unfold cnt at h
  unfold getCount
  cases hg : getNum bs with
  | none => rw [hg] at h; cases h
  | some p =>
    obtain ⟨m, k⟩ := p
    rw [hg] at h
    by_cases hm : 0 ≤ m ∧ m ≤ 7
    · simp only [if_pos hm] at h
      injection h with h; injection h with h1 h2
      subst h1
      exact ⟨k, by simp [hm.1, hm.2], h2.symm⟩
    · simp only [if_neg hm] at h; cases h
theorem cnt_no {bs : List UInt8} (h : cnt bs = none) : getCount 7 bs = none := by
  unfold cnt at h
  unfold getCount
  cases hg : getNum bs with
  | none => rfl
  | some p =>
    obtain ⟨m, k⟩ := p
    rw [hg] at h
    by_cases hm : 0 ≤ m ∧ m ≤ 7
    · simp only [if_pos hm] at h; cases h
    · rw [Option.filter_some, if_neg (by simpa using hm)]
end Go.Proofs.Ytilefofpfbgikaa
namespace Go.Proofs.Ytilefofpfbgikaa
open Go Go.RowKit Go.Maps Go.Lib Mem Pk Cf

def smallN (ns : List Int) : Prop := ∀ n ∈ ns, 0 ≤ n ∧ n ≤ 7
theorem numsB_cons (n : Int) (ns : List Int) : numsB (n :: ns) = numB n ++ numsB ns := by unfold numsB; rw [List.flatMap_cons]
theorem nums_split : ∀ {ns ms : List Int} {rest : List UInt8}, smallN ns → smallN ms → numsB ns ++ rest = numsB ms → ∃ ks, ms = ns ++ ks ∧ rest = numsB ks
  | [], ms, rest, _, _, h => ⟨ms, rfl, h⟩
  | n :: ns, [], rest, _, _, h => by
    rw [numsB_cons] at h
    have h1 := congrArg List.length h
    rw [List.append_assoc, List.length_append] at h1
    have := (numB_len n).1
    have h2 : (numsB []).length = 0 := rfl
    omega
  | n :: ns, m :: ms, rest, h1, h2, h => by
    rw [numsB_cons, numsB_cons, List.append_assoc] at h
    have e1 : cnt (numB n ++ (numsB ns ++ rest)) = some (n, numsB ns ++ rest) := cnt_some.2 ⟨h1 n List.mem_cons_self, rfl⟩
    have e2 : cnt (numB m ++ numsB ms) = some (m, numsB ms) := cnt_some.2 ⟨h2 m List.mem_cons_self, rfl⟩
    rw [h, e2] at e1
    injection e1 with e1; injection e1 with e3 e4
    subst e3
    obtain ⟨ks, h3, h4⟩ := nums_split (fun x hx => h1 x (List.mem_cons_of_mem _ hx)) (fun x hx => h2 x (List.mem_cons_of_mem _ hx)) e4.symm
    exact ⟨ks, by rw [h3]; rfl, h4⟩
theorem confN_small {vs ls : List Int} (h : rightB vs ls = true) : smallN (confN vs ls) := by
  intro n hn
  obtain ⟨hv, hl, -⟩ := right_rise h
  have h7 := rise_small hv
  have h8 := rise_small hl
  unfold confN at hn
  rcases List.mem_append.1 hn with h1 | h1 <;> rcases List.mem_cons.1 h1 with h2 | h2
  · omega
  · have := rise_mem hv h2; omega
  · omega
  · have := rise_mem hl h2; omega
/-- no number follows -/
theorem ld_stuck {ns : List Int} {bs rest : List UInt8} (hs : smallN ns) (hb : bs = numsB ns ++ rest) (hr : rest ≠ []) (hc : cnt rest = none) : loadC bs = none := by
  cases h : loadC bs with
  | none => rfl
  | some p =>
    obtain ⟨vs, ls⟩ := p
    obtain ⟨h1, h2⟩ := loadC_some.1 h
    obtain ⟨ks, h3, h4⟩ := nums_split hs (confN_small h1) (hb.symm.trans h2)
    cases ks with
    | nil => exact absurd h4 hr
    | cons k ks =>
      have := confN_small h1 k (by rw [h3]; simp)
      rw [h4, numsB_cons, cnt_some.2 ⟨this, rfl⟩] at hc
      cases hc
/-- another shape -/
theorem ld_other {ns : List Int} {bs : List UInt8} (hs : smallN ns) (hb : bs = numsB ns) (hn : ∀ vs ls, rightB vs ls = true → ns ≠ confN vs ls) : loadC bs = none := by
  cases h : loadC bs with
  | none => rfl
  | some p =>
    obtain ⟨vs, ls⟩ := p
    obtain ⟨h1, h2⟩ := loadC_some.1 h
    obtain ⟨ks, h3, h4⟩ := nums_split (rest := []) hs (confN_small h1) (by rw [List.append_nil, ← hb, h2])
    cases ks with
    | nil => exact absurd (by rw [h3, List.append_nil]) (hn vs ls h1)
    | cons k ks =>
      rw [numsB_cons] at h4
      have h5 := congrArg List.length h4
      rw [List.length_append] at h5
      have := (numB_len k).1
      have h6 : ([] : List UInt8).length = 0 := rfl
      omega
theorem confN_len (vs ls : List Int) : (confN vs ls).length = vs.length + 1 + (ls.length + 1) := by unfold confN; simp; omega
theorem confN_head (vs ls : List Int) : (confN vs ls)[0]? = some (vs.length : Int) := by unfold confN; rfl
theorem confN_mid (vs ls : List Int) : (confN vs ls)[vs.length + 1]? = some (ls.length : Int) := by
  unfold confN
  rw [List.getElem?_append_right (by simp)]; simp
theorem shape_no {ns : List Int} {bs : List UInt8} (hs : smallN ns) (hb : bs = numsB ns) (h : ∀ a b : Nat, ns[0]? = some (a : Int) → ns[a + 1]? = some (b : Int) → ns.length ≠ a + 2 + b) : loadC bs = none :=
  ld_other hs hb fun vs ls _ e => h vs.length ls.length (by rw [e]; exact confN_head vs ls) (by rw [e]; exact confN_mid vs ls) (by rw [e, confN_len]; omega)
theorem shape_yes {ns : List Int} {a b : Nat} (h0 : ns[0]? = some (a : Int)) (h1 : ns[a + 1]? = some (b : Int)) (hl : ns.length = a + 2 + b) : ns = confN ((ns.drop 1).take a) (ns.drop (a + 2)) := by
  cases ns with
  | nil => cases h0
  | cons x t =>
    have hx : x = (a : Int) := by simpa using h0
    rw [List.length_cons] at hl
    rw [List.getElem?_cons_succ] at h1
    have ha : a < t.length := by omega
    have hb : t[a] = (b : Int) := by rw [List.getElem?_eq_getElem ha] at h1; injection h1
    exact shape_conf hx ha hb (by omega)
/-- the right shape: right, or none -/
theorem shape_load {ns : List Int} {bs : List UInt8} {vs ls : List Int} (hs : smallN ns) (hb : bs = numsB ns) (he : ns = confN vs ls) : loadC bs = if rightB vs ls = true then some (vs, ls) else none := by
  by_cases hr : rightB vs ls = true
  · rw [if_pos hr]; exact loadC_some.2 ⟨hr, by rw [hb, he]⟩
  · rw [if_neg hr]
    refine ld_other hs hb fun vs' ls' hr' e => hr ?_
    rw [he] at e
    have h1 := confN_head vs ls
    rw [e, confN_head] at h1
    have h2 : vs'.length = vs.length := by injection h1 with h1; omega
    unfold confN at e
    have h3 := List.append_inj e (by simp [h2])
    have h4 : vs = vs' := by injection h3.1
    have h5 : ls = ls' := by injection h3.2
    rw [h4, h5]; exact hr'
theorem nums_len (ns : List Int) : ns.length ≤ (numsB ns).length := by
  induction ns with
  | nil => exact Nat.zero_le _
  | cons n ns ih =>
    rw [numsB_cons, List.length_append, List.length_cons]
    have := (numB_len n).1
    omega
end Go.Proofs.Ytilefofpfbgikaa
