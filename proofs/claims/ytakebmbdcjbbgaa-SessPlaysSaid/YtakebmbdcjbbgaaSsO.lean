/- Layer 13: SessOnce, SessWindow, SessFull: plain laws, no program. -/
import Derived.Test.YtakebmbdcjbbgaaSsL
namespace Go.Proofs.Ytakebmbdcjbbgaa.Ss

theorem putT_cases (t : Tb) (id seq c n : Int) : (lookC t id seq ≠ 0 ∧ putT t id seq c n = (t, lookC t id seq)) ∨ (lookC t id seq = 0 ∧ vdOk c n = false ∧ putT t id seq c n = (t, 1)) ∨
    (lookC t id seq = 0 ∧ vdOk c n = true ∧ ∃ s, findS id t = some s ∧ putT t id seq c n = (updS (putK s ⟨seq, c, n⟩) t, 0)) ∨
    (lookC t id seq = 0 ∧ vdOk c n = true ∧ findS id t = none ∧ putT t id seq c n = (insS (putK ⟨id, 0, []⟩ ⟨seq, c, n⟩) t, 0)) := by
  unfold putT
  by_cases h0 : lookC t id seq ≠ 0
  · exact .inl ⟨h0, by rw [if_pos h0]⟩
  · have h0' : lookC t id seq = 0 := by omega
    by_cases hv : vdOk c n = true
    · cases hf : findS id t with
      | some s => exact .inr (.inr (.inl ⟨h0', hv, s, rfl, by rw [if_neg h0, if_pos hv]⟩))
      | none => exact .inr (.inr (.inr ⟨h0', hv, rfl, by rw [if_neg h0, if_pos hv]⟩))
    · exact .inr (.inl ⟨h0', by simpa using hv, by rw [if_neg h0, if_neg hv]⟩)
/-- a number that was put stands, or has expired -/
structure Once (fid fseq c n : Int) (g : Bool) (t : Tb) : Prop where
  ok : OkT t
  id : numOk fid = true
  seq : numOk fseq = true
  sn : ∃ s, findS fid t = some s ∧ g = decide (fseq ≤ s.high - 8) ∧ (g = false → itAt fseq s.kept = some ⟨fseq, c, n⟩)
theorem Once.look {fid fseq c n : Int} {g : Bool} {t : Tb} (h : Once fid fseq c n g t) : lookC t fid fseq = (if g = true then 130 else 5) ∧ lookI t fid fseq = (if g = true then (0, 0) else (c, n)) ∧ (∃ s, findS fid t = some s ∧ highT t fid = s.high ∧ g = decide (fseq ≤ s.high - 8)) := by
  obtain ⟨s, h1, h2, h3⟩ := h.sn
  have hn : (numOk fid && numOk fseq) = true := by rw [h.id, h.seq]; rfl
  refine ⟨?_, ?_, s, h1, by unfold highT; rw [h1], h2⟩
  · unfold lookC
    rw [if_pos hn, h1]
    simp only
    cases g with
    | true => rw [if_pos (of_decide_eq_true h2.symm), if_pos rfl]
    | false => rw [if_neg (of_decide_eq_false h2.symm), h3 rfl]; simp
  · unfold lookI
    rw [if_pos hn, h1]
    simp only
    cases g with
    | true => rw [if_pos (of_decide_eq_true h2.symm), if_pos rfl]
    | false => rw [if_neg (of_decide_eq_false h2.symm), h3 rfl]; simp
theorem keep_in {s : Sn} {x : It} {i : It} (h : i ∈ s.kept) (hl : max s.high x.seq - 8 < i.seq) : i ∈ (putK s x).kept := winI_mem.2 ⟨insI_mem.2 (.inr h), hl⟩
theorem Once.put {fid fseq c n : Int} {g : Bool} {t : Tb} (h : Once fid fseq c n g t) (id seq c' n' : Int) : ∃ g', Once fid fseq c n g' (putT t id seq c' n').1 ∧ (g = true → g' = true) := by
  have hok := putT_ok h.ok id seq c' n'
  obtain ⟨s, h1, h2, h3⟩ := h.sn
  rcases putT_cases t id seq c' n' with ⟨h4, h5⟩ | ⟨h4, h6, h5⟩ | ⟨h4, hv, s', h6, h5⟩ | ⟨h4, hv, h6, h5⟩
  · rw [h5]; exact ⟨g, h, fun e => e⟩
  · rw [h5]; exact ⟨g, h, fun e => e⟩
  · rw [h5] at hok ⊢
    obtain ⟨m1, m2⟩ := findS_some h1
    obtain ⟨m3, m4⟩ := findS_some h6
    obtain ⟨-, l2, -, l4⟩ := lookC_zero h4
    obtain ⟨l5, l6⟩ := l4 s' h6
    have hpid : (putK s' ⟨seq, c', n'⟩).id = s'.id := rfl
    by_cases he : fid = id
    · obtain rfl : s = s' := by rw [he] at h1; rw [h1] at h6; exact Option.some.inj h6
      refine ⟨decide (fseq ≤ max s.high seq - 8), ⟨hok, h.id, h.seq, putK s ⟨seq, c', n'⟩, ?_, rfl, fun hg => ?_⟩, fun hg => ?_⟩
      · show findS fid (updS (putK s ⟨seq, c', n'⟩) t) = _
        rw [findS_upd, if_pos (by rw [hpid, m2]), h1]; rfl
      · have hlt : ¬ fseq ≤ max s.high seq - 8 := of_decide_eq_false hg
        have hg0 : g = false := by rw [h2]; exact decide_eq_false (by omega)
        obtain ⟨k1, k2⟩ := itAt_some (h3 hg0)
        have k3 := keep_in (x := ⟨seq, c', n'⟩) k1 (by show max s.high seq - 8 < fseq; omega)
        have k4 := putK_ok (x := ⟨seq, c', n'⟩) (h.ok.each s m1).kept (numOk_iff.1 l2).1 hv l6
        exact itAt_mem k4.rise k3
      · rw [h2] at hg
        have := of_decide_eq_true hg
        exact decide_eq_true (by omega)
    · refine ⟨g, ⟨hok, h.id, h.seq, s, ?_, h2, h3⟩, fun e => e⟩
      show findS fid (updS (putK s' ⟨seq, c', n'⟩) t) = _
      rw [findS_upd, if_neg (by rw [hpid, m4]; exact he), h1]
  · rw [h5] at hok ⊢
    have hn := findS_none h6
    have hne : fid ≠ id := fun e => by rw [e, h6] at h1; cases h1
    refine ⟨g, ⟨hok, h.id, h.seq, s, ?_, h2, h3⟩, fun e => e⟩
    show findS fid (insS (putK ⟨id, 0, []⟩ ⟨seq, c', n'⟩) t) = _
    rw [findS_ins (s := putK ⟨id, 0, []⟩ ⟨seq, c', n'⟩) hn, if_neg (show ¬ fid = (putK ⟨id, 0, []⟩ ⟨seq, c', n'⟩).id from hne), h1]
/-- put again it is refused -/
theorem Once.again {fid fseq c n : Int} {g : Bool} {t : Tb} (h : Once fid fseq c n g t) (c' n' : Int) : (putT t fid fseq c' n').1 = t ∧ (putT t fid fseq c' n').2 ≠ 0 := by
  have h1 := h.look.1
  have h2 : lookC t fid fseq ≠ 0 := by rw [h1]; split <;> decide
  unfold putT
  rw [if_pos h2]
  exact ⟨rfl, h2⟩
/-- the first one -/
theorem Once.first {id seq c n : Int} (h : (putT [] id seq c n).2 = 0) : Once id seq c n false (putT [] id seq c n).1 := by
  have hok := putT_ok OkT.nil id seq c n
  rcases putT_cases [] id seq c n with ⟨h4, h5⟩ | ⟨h4, h6, h5⟩ | ⟨h4, hv, s', h6, h5⟩ | ⟨h4, hv, h6, h5⟩
  · rw [h5] at h; exact absurd h h4
  · rw [h5] at h; cases h
  · cases h6
  · obtain ⟨l1, l2, -, -⟩ := lookC_zero h4
    have hs := numOk_iff.1 l2
    rw [h5] at hok ⊢
    refine ⟨hok, l1, l2, putK ⟨id, 0, []⟩ ⟨seq, c, n⟩, ?_, ?_, fun _ => ?_⟩
    · show findS id (insS (putK ⟨id, 0, []⟩ ⟨seq, c, n⟩) []) = _
      rw [findS_ins (s := putK ⟨id, 0, []⟩ ⟨seq, c, n⟩) (by simp), if_pos (show id = (putK ⟨id, 0, []⟩ ⟨seq, c, n⟩).id from rfl)]
    · symm
      refine decide_eq_false ?_
      show ¬ seq ≤ max 0 seq - 8
      omega
    · have k4 := putK_ok (s := ⟨id, 0, []⟩) (x := ⟨seq, c, n⟩) ⟨List.Pairwise.nil, by simp, by simp, by simp, by simp⟩ hs.1 hv (by simp)
      have k3 : (⟨seq, c, n⟩ : It) ∈ (putK ⟨id, 0, []⟩ ⟨seq, c, n⟩).kept := winI_mem.2 ⟨insI_mem.2 (.inl rfl), by show max 0 seq - 8 < seq; omega⟩
      exact itAt_mem k4.rise k3
theorem put_none {id seq c n : Int} (h : (putT [] id seq c n).2 ≠ 0) : (putT [] id seq c n).1 = [] := by
  rcases putT_cases [] id seq c n with ⟨h4, h5⟩ | ⟨h4, h6, h5⟩ | ⟨h4, hv, s', h6, h5⟩ | ⟨h4, hv, h6, h5⟩
  · rw [h5]
  · rw [h5]
  · rw [h5] at h; exact absurd rfl h
  · rw [h5] at h; exact absurd rfl h
/-! SessWindow -/
def wkI (first : Int) (j : Nat) : It := ⟨first + j, 0, j⟩
/-- what is kept behind i numbers -/
def wk (first : Int) (i : Nat) : List It := (List.range' (i - min i 8) (min i 8)).map (wkI first)
/-- the table behind i numbers -/
def wt (id first : Int) (i : Nat) : Tb := if i = 0 then [] else [⟨id, first + i - 1, wk first i⟩]
theorem wk_mem {first : Int} {i : Nat} {x : It} : x ∈ wk first i ↔ ∃ j : Nat, i - min i 8 ≤ j ∧ j < i ∧ x = wkI first j := by
  unfold wk
  rw [List.mem_map]
  constructor
  · rintro ⟨j, hj, rfl⟩
    rw [List.mem_range'_1] at hj
    exact ⟨j, hj.1, by omega, rfl⟩
  · rintro ⟨j, h1, h2, rfl⟩
    exact ⟨j, by rw [List.mem_range'_1]; omega, rfl⟩
theorem wk_rise (first : Int) (i : Nat) : (wk first i).Pairwise fun a b => a.seq < b.seq := by
  unfold wk
  rw [List.pairwise_map]
  refine (List.pairwise_lt_range' (s := i - min i 8) (n := min i 8) (step := 1) (by omega)).imp fun {a b} h => ?_
  show first + (a : Int) < first + (b : Int)
  omega
theorem wk_len (first : Int) (i : Nat) : (wk first i).length = min i 8 := by unfold wk; simp
theorem wk_succ {first : Int} {i : Nat} : winI (first + i) (wk first i ++ [wkI first i]) = wk first (i + 1) := by
  unfold winI
  rw [List.filter_append]
  have h1 : List.filter (fun x : It => decide (first + (i : Int) - 8 < x.seq)) [wkI first i] = [wkI first i] := by
    rw [List.filter_cons, if_pos (by show decide (first + (i : Int) - 8 < first + (i : Int)) = true; exact decide_eq_true (by omega))]; rfl
  rw [h1]
  by_cases h8 : i < 8
  · have h2 : List.filter (fun x : It => decide (first + (i : Int) - 8 < x.seq)) (wk first i) = wk first i := by
      rw [List.filter_eq_self]
      intro x hx
      obtain ⟨j, -, -, rfl⟩ := wk_mem.1 hx
      exact decide_eq_true (by show first + (i : Int) - 8 < first + (j : Int); omega)
    rw [h2]
    unfold wk
    rw [Nat.min_eq_left (by omega), Nat.min_eq_left (by omega), Nat.sub_self, Nat.sub_self, List.range'_concat]
    simp
  · unfold wk
    rw [Nat.min_eq_right (by omega), Nat.min_eq_right (by omega)]
    have e1 : List.range' (i - 8) 8 = (i - 8) :: List.range' (i - 8 + 1) 7 := List.range'_succ ..
    have e2 : List.range' (i + 1 - 8) 8 = List.range' (i - 8 + 1) 7 ++ [i] := by
      rw [show i + 1 - 8 = i - 8 + 1 by omega, show (8 : Nat) = 7 + 1 from rfl, List.range'_concat, show i - 8 + 1 + 1 * 7 = i by omega]
    rw [e1, e2, List.map_cons, List.map_append, List.filter_cons]
    rw [if_neg (by
      rw [decide_eq_true_eq]
      show ¬ first + (i : Int) - 8 < first + ((i - 8 : Nat) : Int)
      omega)]
    congr 1
    rw [List.filter_eq_self]
    intro x hx
    obtain ⟨j, hj, rfl⟩ := List.mem_map.1 hx
    rw [List.mem_range'_1] at hj
    exact decide_eq_true (by show first + (i : Int) - 8 < first + (j : Int); omega)
theorem low_all {k : List It} {seq : Int} (h : ∀ i ∈ k, i.seq < seq) : lowI seq k = k.length := by
  unfold lowI
  rw [List.filter_eq_self.2 (fun i hi => decide_eq_true (h i hi))]
theorem insI_end {k : List It} {x : It} (h : ∀ i ∈ k, i.seq < x.seq) : insI x k = k ++ [x] := by
  unfold insI
  rw [low_all h, List.take_length, List.drop_length]
theorem wt_put {id first : Int} (i : Nat) (hid : numOk id = true) (h1 : 1 ≤ first) (h2 : first + i ≤ 1099511627776) : putT (wt id first i) id (first + i) 0 i = (wt id first (i + 1), 0) := by
  have hn : (numOk id && numOk (first + i)) = true := by rw [hid, numOk_iff.2 ⟨by omega, h2⟩]; rfl
  have hv : vdOk 0 (i : Int) = true := vdOk_iff.2 ⟨by omega, by omega, by omega⟩
  have hw : wt id first (i + 1) = [⟨id, first + i, wk first (i + 1)⟩] := by
    unfold wt
    rw [if_neg (by omega)]
    congr 2
    omega
  have hins : insI (wkI first i) (wk first i) = wk first i ++ [wkI first i] := insI_end fun x hx => by
    obtain ⟨j, -, h3, rfl⟩ := wk_mem.1 hx
    show first + (j : Int) < first + (i : Int)
    omega
  by_cases h0 : i = 0
  · subst h0
    have hl : lookC (wt id first 0) id (first + (0 : Nat)) = 0 := by
      unfold lookC
      rw [if_pos hn]; rfl
    unfold putT
    rw [if_neg (by rw [hl]; decide), if_pos hv, hw]
    show (insS (putK ⟨id, 0, []⟩ (wkI first 0)) [], 0) = _
    have e1 : max 0 (first + ((0 : Nat) : Int)) = first + ((0 : Nat) : Int) := by omega
    unfold insS putK
    show ([(⟨id, max 0 (first + ((0 : Nat) : Int)), winI (max 0 (first + ((0 : Nat) : Int))) (insI (wkI first 0) [])⟩ : Sn)], (0 : Int)) = _
    rw [e1]
    have := wk_succ (first := first) (i := 0)
    rw [← this]
    rfl
  · have hwi : wt id first i = [⟨id, first + i - 1, wk first i⟩] := by unfold wt; rw [if_neg h0]
    have hf : findS id (wt id first i) = some ⟨id, first + i - 1, wk first i⟩ := by
      rw [hwi]; unfold findS; rw [List.find?_cons]; simp
    have hl : lookC (wt id first i) id (first + i) = 0 := by
      unfold lookC
      rw [if_pos hn, hf]
      simp only
      rw [if_neg (by omega)]
      have : itAt (first + i) (wk first i) = none := itAt_none.2 fun x hx => by
        obtain ⟨j, -, h3, rfl⟩ := wk_mem.1 hx
        show first + (j : Int) ≠ first + (i : Int)
        omega
      rw [this]; rfl
    unfold putT
    rw [if_neg (by rw [hl]; decide), if_pos hv, hf, hw]
    have e1 : max (first + (i : Int) - 1) (first + (i : Int)) = first + (i : Int) := by omega
    show (updS (putK ⟨id, first + i - 1, wk first i⟩ (wkI first i)) (wt id first i), 0) = _
    unfold putK
    show (updS ⟨id, max (first + (i : Int) - 1) (first + (i : Int)), winI (max (first + (i : Int) - 1) (first + (i : Int))) (insI (wkI first i) (wk first i))⟩ (wt id first i), 0) = _
    rw [e1, hins, wk_succ, hwi]
    unfold updS
    simp
theorem wt_ok {id first : Int} (i : Nat) (hid : numOk id = true) (h1 : 1 ≤ first) (h2 : first + i ≤ 1099511627776) : OkT (wt id first i) := by
  induction i with
  | zero => exact OkT.nil
  | succ i ih =>
    have h3 := putT_ok (ih (by omega)) id (first + i) 0 i
    rw [wt_put i hid h1 (by omega)] at h3
    exact h3
theorem wt_look {id first : Int} {i : Nat} (hi : 0 < i) (hid : numOk id = true) {k : Int} (hk : numOk k = true) (hf : first ≤ k) :
    lookC (wt id first i) id k = (if k ≤ first + i - 1 - 8 then 130 else if k ≤ first + i - 1 then 5 else 0) ∧ (¬ k ≤ first + i - 1 - 8 → k ≤ first + i - 1 → lookI (wt id first i) id k = (0, k - first)) := by
  have hn : (numOk id && numOk k) = true := by rw [hid, hk]; rfl
  have hwi : wt id first i = [⟨id, first + i - 1, wk first i⟩] := by unfold wt; rw [if_neg (by omega)]
  have hfi : findS id (wt id first i) = some ⟨id, first + i - 1, wk first i⟩ := by
    rw [hwi]; unfold findS; rw [List.find?_cons]; simp
  have hin : ¬ k ≤ first + i - 1 - 8 → k ≤ first + i - 1 → itAt k (wk first i) = some ⟨k, 0, k - first⟩ := fun g1 g2 => by
    obtain ⟨j, hj⟩ : ∃ j : Nat, (j : Int) = k - first := ⟨(k - first).toNat, by omega⟩
    have e1 : (⟨k, 0, k - first⟩ : It) = wkI first j := by unfold wkI; rw [hj]; congr 1; omega
    have hm : wkI first j ∈ wk first i := wk_mem.2 ⟨j, by omega, by omega, rfl⟩
    have h9 := itAt_mem (wk_rise first i) hm
    rw [e1]
    have e2 : (wkI first j).seq = k := by show first + (j : Int) = k; omega
    rw [e2] at h9
    exact h9
  constructor
  · unfold lookC
    rw [if_pos hn, hfi]
    simp only
    by_cases g1 : k ≤ first + i - 1 - 8
    · rw [if_pos g1, if_pos g1]
    · rw [if_neg g1, if_neg g1]
      by_cases g2 : k ≤ first + i - 1
      · rw [if_pos g2, hin g1 g2]; rfl
      · rw [if_neg g2]
        have : itAt k (wk first i) = none := itAt_none.2 fun x hx => by
          obtain ⟨j, -, h3, rfl⟩ := wk_mem.1 hx
          show first + (j : Int) ≠ k
          omega
        rw [this]; rfl
  · intro g1 g2
    unfold lookI
    rw [if_pos hn, hfi]
    simp only
    rw [if_neg g1, hin g1 g2]
theorem wt_high {id first : Int} {i : Nat} (hi : 0 < i) : highT (wt id first i) id = first + i - 1 ∧ (keptT (wt id first i) id).length = min i 8 := by
  have hwi : wt id first i = [⟨id, first + i - 1, wk first i⟩] := by unfold wt; rw [if_neg (by omega)]
  have hfi : findS id (wt id first i) = some ⟨id, first + i - 1, wk first i⟩ := by
    rw [hwi]; unfold findS; rw [List.find?_cons]; simp
  unfold highT keptT
  rw [hfi]
  exact ⟨rfl, wk_len first i⟩
/-! SessFull -/
structure FullR (all : List Int) (i : Nat) (t : Tb) : Prop where
  ok : OkT t
  same : ∀ x, x ∈ all ↔ ∃ s ∈ t, s.id = x
  len : all.length = t.length
  high : ∀ s ∈ t, s.high ≤ i
theorem FullR.start : FullR [] 0 [] := ⟨OkT.nil, by simp, rfl, by simp⟩
theorem FullR.find {all : List Int} {i : Nat} {t : Tb} (h : FullR all i t) {id : Int} : (id ∈ all → ∃ s, findS id t = some s ∧ s.id = id ∧ s ∈ t) ∧ (id ∉ all → findS id t = none) := by
  constructor
  · intro hm
    obtain ⟨s, h1, h2⟩ := (h.same id).1 hm
    have h3 := findS_mem h.ok.rise h1
    rw [h2] at h3
    exact ⟨s, h3, h2, h1⟩
  · intro hm
    cases hf : findS id t with
    | none => rfl
    | some s =>
      obtain ⟨h1, h2⟩ := findS_some hf
      exact absurd ((h.same id).2 ⟨s, h1, h2⟩) hm
theorem FullR.up {all : List Int} {i j : Nat} {t : Tb} (h : FullR all i t) (hj : i ≤ j) : FullR all j t := ⟨h.ok, h.same, h.len, fun s hs => by have := h.high s hs; omega⟩
theorem FullR.old {all : List Int} {i : Nat} {t : Tb} (h : FullR all i t) {id : Int} (hid : numOk id = true) (hi : (i : Int) + 1 ≤ 1099511627776) (hm : id ∈ all) :
    (putT t id (highT t id + 1) 0 0).2 = 0 ∧ highT (putT t id (highT t id + 1) 0 0).1 id = highT t id + 1 ∧ 1 ≤ highT t id ∧ FullR all (i + 1) (putT t id (highT t id + 1) 0 0).1 := by
  obtain ⟨s, h1, h2, h3⟩ := h.find.1 hm
  have hs := h.ok.each s h3
  have hh := h.high s h3
  have e1 : highT t id = s.high := by unfold highT; rw [h1]
  have hn : (numOk id && numOk (s.high + 1)) = true := by rw [hid, numOk_iff.2 ⟨by have := hs.low; omega, by omega⟩]; rfl
  have hl : lookC t id (s.high + 1) = 0 := by
    unfold lookC
    rw [if_pos hn, h1]
    simp only
    rw [if_neg (by omega)]
    have : itAt (s.high + 1) s.kept = none := itAt_none.2 fun x hx => by have := hs.kept.high x hx; omega
    rw [this]; rfl
  have hv : vdOk 0 0 = true := by decide
  have hput : putT t id (s.high + 1) 0 0 = (updS (putK s ⟨s.high + 1, 0, 0⟩) t, 0) := by
    unfold putT
    rw [if_neg (by rw [hl]; decide), if_pos hv, h1]
  have hok := putT_ok h.ok id (s.high + 1) 0 0
  rw [e1, hput]
  rw [hput] at hok
  have hid2 : (putK s ⟨s.high + 1, 0, 0⟩).id = id := h2
  refine ⟨rfl, ?_, hs.low, hok, fun x => ?_, by show all.length = (updS _ t).length; rw [updS_len]; exact h.len, fun y hy => ?_⟩
  · unfold highT
    show (match findS id (updS (putK s ⟨s.high + 1, 0, 0⟩) t) with | some s => s.high | none => 0) = _
    rw [findS_upd, if_pos hid2.symm, h1]
    show max s.high (s.high + 1) = _
    omega
  · rw [h.same x]
    constructor
    · rintro ⟨y, hy, rfl⟩
      by_cases hx : y.id = s.id
      · refine ⟨putK s ⟨s.high + 1, 0, 0⟩, List.mem_map.2 ⟨y, hy, ?_⟩, hx.symm⟩
        rw [if_pos (by rw [beq_iff_eq]; exact hx)]
      · refine ⟨y, List.mem_map.2 ⟨y, hy, ?_⟩, rfl⟩
        rw [if_neg (by rw [beq_iff_eq]; exact hx)]
    · rintro ⟨y, hy, rfl⟩
      rcases updS_mem hy with rfl | ⟨hy, -⟩
      · exact ⟨s, h3, rfl⟩
      · exact ⟨y, hy, rfl⟩
  · rcases updS_mem hy with rfl | ⟨hy, -⟩
    · show max s.high (s.high + 1) ≤ ((i + 1 : Nat) : Int)
      omega
    · have := h.high y hy; omega
theorem FullR.full {all : List Int} {i : Nat} {t : Tb} (h : FullR all i t) {id : Int} (hid : numOk id = true) (hm : id ∉ all) (h16 : all.length = 16) : putT t id (highT t id + 1) 0 0 = (t, 131) := by
  have h1 := h.find.2 hm
  have e1 : highT t id = 0 := by unfold highT; rw [h1]
  have hn : (numOk id && numOk (0 + 1)) = true := by rw [hid]; rfl
  have hl : lookC t id (0 + 1) = 131 := by
    unfold lookC
    rw [if_pos hn, h1]
    simp only
    rw [if_pos (by rw [← h.len]; exact h16)]
  rw [e1]
  unfold putT
  rw [hl, if_pos (by decide)]
theorem FullR.new {all : List Int} {i : Nat} {t : Tb} (h : FullR all i t) {id : Int} (hid : numOk id = true) (hm : id ∉ all) (h16 : all.length ≠ 16) :
    (putT t id (highT t id + 1) 0 0).2 = 0 ∧ FullR (all ++ [id]) (i + 1) (putT t id (highT t id + 1) 0 0).1 := by
  have h1 := h.find.2 hm
  have e1 : highT t id = 0 := by unfold highT; rw [h1]
  have hn : (numOk id && numOk (0 + 1)) = true := by rw [hid]; rfl
  have hl : lookC t id (0 + 1) = 0 := by
    unfold lookC
    rw [if_pos hn, h1]
    simp only
    rw [if_neg (by rw [← h.len]; exact h16)]
  have hv : vdOk 0 0 = true := by decide
  have hput : putT t id (0 + 1) 0 0 = (insS (putK ⟨id, 0, []⟩ ⟨0 + 1, 0, 0⟩) t, 0) := by
    unfold putT
    rw [if_neg (by rw [hl]; decide), if_pos hv, h1]
  have hok := putT_ok h.ok id (0 + 1) 0 0
  rw [e1, hput]
  rw [hput] at hok
  refine ⟨rfl, hok, fun x => ?_, by rw [List.length_append, List.length_singleton, insS_len, h.len], fun y hy => ?_⟩
  · rw [List.mem_append, List.mem_singleton, h.same x]
    constructor
    · rintro (⟨y, hy, rfl⟩ | rfl)
      · exact ⟨y, insS_mem.2 (.inr hy), rfl⟩
      · exact ⟨_, insS_mem.2 (.inl rfl), rfl⟩
    · rintro ⟨y, hy, rfl⟩
      rcases insS_mem.1 hy with rfl | hy
      · exact .inr rfl
      · exact .inl ⟨y, hy, rfl⟩
  · rcases insS_mem.1 hy with rfl | hy
    · show max 0 (0 + 1) ≤ ((i + 1 : Nat) : Int)
      omega
    · have := h.high y hy; omega
end Go.Proofs.Ytakebmbdcjbbgaa.Ss
