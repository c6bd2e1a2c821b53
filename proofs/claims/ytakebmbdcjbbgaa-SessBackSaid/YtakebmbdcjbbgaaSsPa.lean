/- Layer 13: which bytes are a table's: plain words. -/
import Derived.Test.YtakebmbdcjbbgaaPkC
import Derived.Test.YtakebmbdcjbbgaaPkP
import Derived.Test.YtakebmbdcjbbgaaSsZ
namespace Go.Proofs.Ytakebmbdcjbbgaa
open Go.RowKit Go.Lib Mem Pk Ss

/-- a number ahead of bytes -/
def numP (bs : List UInt8) : Option (Int × List UInt8) := (getNum bs).map fun x => (x.1, bs.drop x.2)
def cntP (most : Int) (bs : List UInt8) : Option (Int × List UInt8) := (getCount most bs).map fun x => (x.1, bs.drop x.2)
/-- m numbers with their verdicts, put -/
def itemsL (id high : Int) : Nat → Int → Tb → List UInt8 → Option (Tb × Int × List UInt8)
  | 0, seq, t, bs => some (t, seq, bs)
  | m + 1, seq, t, bs =>
    match numP bs with
    | none => none
    | some (next, r1) =>
      if (decide (seq < next) && (decide (high - 8 < next) && decide (next ≤ high))) = true then
        match cntP 999 r1 with
        | none => none
        | some (c, r2) =>
          match numP r2 with
          | none => none
          | some (n, r3) => if (putT t id next c n).2 = 0 then itemsL id high m next (putT t id next c n).1 r3 else none
      else none
/-- k sessions -/
def sessL : Nat → Int → Tb → List UInt8 → Option (Tb × List UInt8)
  | 0, _, t, bs => some (t, bs)
  | k + 1, last, t, bs =>
    match numP bs with
    | none => none
    | some (id, r1) =>
      match numP r1 with
      | none => none
      | some (high, r2) =>
        if last < id then
          match cntP 8 r2 with
          | none => none
          | some (m, r3) =>
            match itemsL id high m.toNat 0 t r3 with
            | none => none
            | some (t', seq, r4) => if (seq == high && highT t' id == high) = true then sessL k id t' r4 else none
        else none
def loadL (bs : List UInt8) : Option (Tb × List UInt8) :=
  match cntP 16 bs with
  | none => none
  | some (k, r) => sessL k.toNat 0 [] r
theorem numP_num {n : Int} (h : i64ok n) (r : List UInt8) : numP (numB n ++ r) = some (n, r) := by
  unfold numP
  rw [getNum_num h.1 h.2]
  simp
theorem cntP_num {most n : Int} (h0 : 0 ≤ n) (h1 : n ≤ most) (hm : most ≤ 1000) (r : List UInt8) : cntP most (numB n ++ r) = some (n, r) := by
  unfold cntP getCount
  rw [getNum_num (by omega) (by omega)]
  rw [Option.filter_some, if_pos (by simpa using ⟨h0, h1⟩)]
  simp
theorem numP_inv {bs r : List UInt8} {n : Int} (h : numP bs = some (n, r)) : bs = numB n ++ r ∧ i64ok n := by
  unfold numP at h
  cases hg : getNum bs with
  | none => rw [hg] at h; cases h
  | some x =>
    obtain ⟨a, k⟩ := x
    rw [hg] at h
    injection h with h; injection h with h1 h2
    subst h1; subst h2
    have := getNum_inv hg
    exact ⟨by rw [← this.1, List.take_append_drop], this.2.2.2.2⟩
theorem cntP_inv {most : Int} {bs r : List UInt8} {n : Int} (h : cntP most bs = some (n, r)) : bs = numB n ++ r ∧ 0 ≤ n ∧ n ≤ most := by
  unfold cntP at h
  cases hg : getCount most bs with
  | none => rw [hg] at h; cases h
  | some x =>
    obtain ⟨a, k⟩ := x
    rw [hg] at h
    injection h with h; injection h with h1 h2
    subst h1; subst h2
    obtain ⟨g1, g2, g3⟩ := getCount_some hg
    have := getNum_inv g1
    exact ⟨by rw [← this.1, List.take_append_drop], g2, g3⟩
/-! a table that Puts have made -/
def TopT (t : Tb) : Prop := ∀ s ∈ t, ∃ i ∈ s.kept, i.seq = s.high
theorem topT_put {t : Tb} (hok : OkT t) (ht : TopT t) (id seq c n : Int) : TopT (putT t id seq c n).1 := by
  unfold putT
  split
  · exact ht
  · rename_i h0
    have h0 : lookC t id seq = 0 := by omega
    obtain ⟨-, hsq, -, h4⟩ := lookC_zero h0
    have hsp := numOk_iff.1 hsq
    split
    · cases hf : findS id t with
      | some s =>
        simp only
        obtain ⟨hm, hid⟩ := findS_some hf
        obtain ⟨h5, -⟩ := h4 s hf
        intro x hx
        rcases updS_mem hx with rfl | ⟨hx, -⟩
        · exact top_put (hok.each s hm).kept (.inr (ht s hm)) h5
        · exact ht x hx
      | none =>
        simp only
        intro x hx
        rcases insS_mem.1 hx with rfl | hx
        · refine top_put (s := ⟨id, 0, []⟩) ⟨List.Pairwise.nil, by simp, by simp, by simp, by simp⟩ (.inl ⟨rfl, ?_⟩) ?_
          · show (0 : Int) ≤ seq; omega
          · show (0 : Int) - 8 < seq; omega
        · exact ht x hx
    · exact ht
/-! a table's own bytes are read back -/
def itNsP (i : It) : List Int := [i.seq, i.code, i.num]
theorem low_all' {k : List It} {seq : Int} (h : ∀ i ∈ k, i.seq < seq) : lowI seq k = k.length := by
  unfold lowI
  rw [List.filter_eq_self.2 (fun i hi => decide_eq_true (h i hi))]
theorem insI_end' {k : List It} {x : It} (h : ∀ i ∈ k, i.seq < x.seq) : insI x k = k ++ [x] := by
  unfold insI
  rw [low_all' h, List.take_length, List.drop_length]
def lastSeq (k : List It) : Int := (k.getLast?.map It.seq).getD 0
theorem lastSeq_snoc (k : List It) (x : It) : lastSeq (k ++ [x]) = x.seq := by unfold lastSeq; simp
theorem last_mem {k : List It} (h : k ≠ []) : ∃ x ∈ k, lastSeq k = x.seq := by
  refine ⟨k.getLast h, List.getLast_mem h, ?_⟩
  unfold lastSeq; rw [List.getLast?_eq_some_getLast h]; rfl
/-- the table behind j of a session's items -/
def stT (T : Tb) (s : Sn) (j : Nat) : Tb := if j = 0 then T else T ++ [⟨s.id, lastSeq (s.kept.take j), s.kept.take j⟩]
theorem insS_end {x : Sn} {T : Tb} (h : ∀ y ∈ T, y.id < x.id) : insS x T = T ++ [x] := by
  induction T with
  | nil => rfl
  | cons y r ih =>
    have h1 := h y List.mem_cons_self
    unfold insS
    rw [if_neg (by omega), ih (fun z hz => h z (List.mem_cons_of_mem _ hz))]; rfl
theorem updS_end {x y : Sn} {T : Tb} (h : ∀ z ∈ T, z.id < x.id) (e : y.id = x.id) : updS x (T ++ [y]) = T ++ [x] := by
  unfold updS
  rw [List.map_append, List.map_cons, List.map_nil, if_pos (by rw [e, beq_self_eq_true])]
  congr 1
  conv => rhs; rw [← List.map_id T]
  refine List.map_congr_left fun z hz => ?_
  rw [if_neg (by rw [beq_iff_eq]; have := h z hz; omega)]; rfl
theorem findS_end {x : Sn} {T : Tb} (h : ∀ z ∈ T, z.id < x.id) : findS x.id (T ++ [x]) = some x := by
  unfold findS
  rw [List.find?_append]
  have : List.find? (fun s => s.id == x.id) T = none := by
    rw [List.find?_eq_none]
    intro z hz; have := h z hz; simp; omega
  rw [this]; simp
theorem findS_less {id : Int} {T : Tb} (h : ∀ z ∈ T, z.id < id) : findS id T = none := by
  unfold findS
  rw [List.find?_eq_none]
  intro z hz; have := h z hz; simp; omega
theorem put_item {T : Tb} {s : Sn} (hs : OkS s) (hT : ∀ y ∈ T, y.id < s.id) (h16 : T.length ≠ 16) {j : Nat} (hj : j < s.kept.length) :
    putT (stT T s j) s.id s.kept[j].seq s.kept[j].code s.kept[j].num = (stT T s (j + 1), 0) := by
  obtain ⟨x, hx⟩ : ∃ z, z = s.kept[j] := ⟨_, rfl⟩
  rw [← hx]
  have hxm : x ∈ s.kept := by rw [hx]; exact List.getElem_mem hj
  have hp := hs.kept.pos x hxm
  have hh := hs.kept.high x hxm
  have hl := hs.kept.low x hxm
  have hv := hs.kept.vd x hxm
  have htop := hs.top
  have hnn : (numOk s.id && numOk x.seq) = true := by rw [hs.id, numOk_iff.2 ⟨hp, by omega⟩]; rfl
  have hlt : ∀ i ∈ s.kept.take j, i.seq < x.seq := fun i hi => by
    obtain ⟨m, hm, rfl⟩ := List.getElem_of_mem hi
    rw [List.length_take] at hm
    rw [List.getElem_take, hx]
    exact List.pairwise_iff_getElem.1 hs.kept.rise m j (by omega) hj (by omega)
  have hlow : ∀ i ∈ s.kept.take j, x.seq - 8 < i.seq := fun i hi => by
    have := hs.kept.low i (List.mem_of_mem_take hi); omega
  have htk : s.kept.take (j + 1) = s.kept.take j ++ [x] := by rw [List.take_succ_eq_append_getElem hj, hx]
  have hst1 : stT T s (j + 1) = T ++ [⟨s.id, x.seq, s.kept.take j ++ [x]⟩] := by
    unfold stT; rw [if_neg (by omega), htk, lastSeq_snoc]
  have hwin : winI x.seq (s.kept.take j ++ [x]) = s.kept.take j ++ [x] := by
    unfold winI
    rw [List.filter_eq_self]
    intro i hi
    rcases List.mem_append.1 hi with hi | hi
    · exact decide_eq_true (hlow i hi)
    · rw [List.mem_singleton.1 hi]; exact decide_eq_true (by omega)
  by_cases h0 : j = 0
  · subst h0
    have hf : findS s.id T = none := findS_less hT
    have hlk : lookC (stT T s 0) s.id x.seq = 0 := by
      unfold lookC
      rw [if_pos hnn, show stT T s 0 = T from rfl, hf]
      simp only
      rw [if_neg h16]
    unfold putT
    rw [if_neg (by rw [hlk]; decide), if_pos hv, show stT T s 0 = T from rfl, hf, hst1]
    simp only
    rw [insS_end (by exact hT)]
    unfold putK
    simp only [List.take_zero, List.nil_append] at hwin ⊢
    rw [show max 0 x.seq = x.seq by omega]
    show (T ++ [⟨s.id, x.seq, winI x.seq [x]⟩], (0 : Int)) = _
    rw [hwin]
  · have hs0 : stT T s j = T ++ [⟨s.id, lastSeq (s.kept.take j), s.kept.take j⟩] := by unfold stT; rw [if_neg h0]
    obtain ⟨y, hy, ey⟩ := last_mem (k := s.kept.take j) (fun e => by have h9 := congrArg List.length e; rw [List.length_take, List.length_nil] at h9; omega)
    have hyl := hlt y hy
    have hf : findS s.id (stT T s j) = some ⟨s.id, lastSeq (s.kept.take j), s.kept.take j⟩ := by
      rw [hs0]; exact findS_end (x := ⟨s.id, lastSeq (s.kept.take j), s.kept.take j⟩) hT
    have hlk : lookC (stT T s j) s.id x.seq = 0 := by
      unfold lookC
      rw [if_pos hnn, hf]
      simp only
      rw [if_neg (by omega), itAt_none.2 (fun i hi => by have := hlt i hi; omega)]; rfl
    unfold putT
    rw [if_neg (by rw [hlk]; decide), if_pos hv, hf]
    simp only
    rw [hs0, updS_end (x := putK ⟨s.id, lastSeq (s.kept.take j), s.kept.take j⟩ ⟨x.seq, x.code, x.num⟩) (y := ⟨s.id, lastSeq (s.kept.take j), s.kept.take j⟩) hT rfl, hst1]
    unfold putK
    simp only
    rw [show max (lastSeq (s.kept.take j)) x.seq = x.seq by omega]
    rw [insI_end' hlt, hwin]
theorem i64_it {s : Sn} (hs : OkS s) {x : It} (hx : x ∈ s.kept) : i64ok x.seq ∧ (0 ≤ x.code ∧ x.code ≤ 999) ∧ i64ok x.num := by
  have h1 := hs.kept.pos x hx
  have h2 := hs.kept.high x hx
  have h3 := hs.top
  have h4 := vdOk_iff.1 (hs.kept.vd x hx)
  unfold i64ok
  omega
theorem items_back {T : Tb} {s : Sn} (hs : OkS s) (hT : ∀ y ∈ T, y.id < s.id) (h16 : T.length ≠ 16) (rest : List UInt8) : ∀ (m j : Nat), j + m = s.kept.length →
    itemsL s.id s.high m (lastSeq (s.kept.take j)) (stT T s j) (numsB ((s.kept.drop j).flatMap itNsP) ++ rest) = some (stT T s s.kept.length, lastSeq s.kept, rest)
  | 0, j, h => by
    have hj : j = s.kept.length := by omega
    subst hj
    unfold itemsL
    rw [List.drop_length, List.take_length]
    rfl
  | m + 1, j, h => by
    have hj : j < s.kept.length := by omega
    obtain ⟨x, hx⟩ : ∃ z, z = s.kept[j] := ⟨_, rfl⟩
    have hxm : x ∈ s.kept := by rw [hx]; exact List.getElem_mem hj
    have hdr : s.kept.drop j = x :: s.kept.drop (j + 1) := by rw [List.drop_eq_getElem_cons hj, hx]
    have htk : s.kept.take (j + 1) = s.kept.take j ++ [x] := by rw [List.take_succ_eq_append_getElem hj, hx]
    obtain ⟨g1, g2, g3⟩ := i64_it hs hxm
    have hb : numsB ((s.kept.drop j).flatMap itNsP) ++ rest = numB x.seq ++ (numB x.code ++ (numB x.num ++ (numsB ((s.kept.drop (j + 1)).flatMap itNsP) ++ rest))) := by
      rw [hdr, List.flatMap_cons]
      unfold numsB itNsP
      simp only [List.flatMap_cons, List.flatMap_append, List.flatMap_nil, List.append_assoc, List.append_nil, List.nil_append]
    have hpi := put_item hs hT h16 hj
    rw [← hx] at hpi
    have hcond : (decide (lastSeq (s.kept.take j) < x.seq) && (decide (s.high - 8 < x.seq) && decide (x.seq ≤ s.high))) = true := by
      have h1 := hs.kept.low x hxm
      have h2 := hs.kept.high x hxm
      have h3 : lastSeq (s.kept.take j) < x.seq := by
        by_cases h0 : j = 0
        · subst h0
          show (0 : Int) < x.seq
          have := hs.kept.pos x hxm; omega
        · obtain ⟨y, hy, ey⟩ := last_mem (k := s.kept.take j) (fun e => by have h9 := congrArg List.length e; rw [List.length_take, List.length_nil] at h9; omega)
          rw [ey]
          obtain ⟨a, ha, rfl⟩ := List.getElem_of_mem hy
          rw [List.length_take] at ha
          rw [List.getElem_take, hx]
          exact List.pairwise_iff_getElem.1 hs.kept.rise a j (by omega) hj (by omega)
      simp only [Bool.and_eq_true, decide_eq_true_eq]
      omega
    unfold itemsL
    rw [hb, numP_num g1]
    simp only
    rw [if_pos hcond, cntP_num g2.1 g2.2 (by omega)]
    simp only
    rw [numP_num g3]
    simp only
    rw [hpi]
    simp only [if_true]
    have := items_back hs hT h16 rest m (j + 1) (by omega)
    rw [htk, lastSeq_snoc] at this
    exact this
def snNsP (s : Sn) : List Int := [s.id, s.high, (s.kept.length : Int)] ++ s.kept.flatMap itNsP
def tbNsP (t : Tb) : List Int := (t.length : Int) :: t.flatMap snNsP
theorem sess_back {t : Tb} (hok : OkT t) (htop : TopT t) (rest : List UInt8) : ∀ (n k : Nat), k + n = t.length →
    sessL n (lastOf (t.map Sn.id) k) (t.take k) (numsB ((t.drop k).flatMap snNsP) ++ rest) = some (t, rest)
  | 0, k, h => by
    have hk : k = t.length := by omega
    subst hk
    unfold sessL
    rw [List.drop_length, List.take_length]
    rfl
  | n + 1, k, h => by
    have hk : k < t.length := by omega
    obtain ⟨s, hs⟩ : ∃ z, z = t[k] := ⟨_, rfl⟩
    have hsm : s ∈ t := by rw [hs]; exact List.getElem_mem hk
    have hos := hok.each s hsm
    have hdr : t.drop k = s :: t.drop (k + 1) := by rw [List.drop_eq_getElem_cons hk, hs]
    have htk : t.take (k + 1) = t.take k ++ [s] := by rw [List.take_succ_eq_append_getElem hk, hs]
    have hid := numOk_iff.1 hos.id
    have hfew := hok.few
    have hkl := hos.kept.len
    have hT : ∀ y ∈ t.take k, y.id < s.id := fun y hy => by
      obtain ⟨a, ha, rfl⟩ := List.getElem_of_mem hy
      rw [List.length_take] at ha
      rw [List.getElem_take, hs]
      exact List.pairwise_iff_getElem.1 hok.rise a k (by omega) hk (by omega)
    have hb : numsB ((t.drop k).flatMap snNsP) ++ rest = numB s.id ++ (numB s.high ++ (numB (s.kept.length : Int) ++ (numsB (s.kept.flatMap itNsP) ++ (numsB ((t.drop (k + 1)).flatMap snNsP) ++ rest)))) := by
      rw [hdr, List.flatMap_cons]
      unfold numsB snNsP
      simp only [List.flatMap_cons, List.flatMap_append, List.flatMap_nil, List.append_assoc, List.append_nil, List.nil_append, List.cons_append]
    obtain ⟨i, hi, ei⟩ := htop s hsm
    have hne : s.kept ≠ [] := List.ne_nil_of_mem hi
    have hlast : lastSeq s.kept = s.high := by
      obtain ⟨y, hy, ey⟩ := last_mem hne
      have h1 := hos.kept.high y hy
      have h2 : i.seq ≤ y.seq := by
        have hyl : y.seq = (s.kept.getLast hne).seq := by
          rw [← ey]; unfold lastSeq; rw [List.getLast?_eq_some_getLast hne]; rfl
        rw [hyl]
        obtain ⟨a, ha, rfl⟩ := List.getElem_of_mem hi
        rw [List.getLast_eq_getElem]
        rcases Nat.lt_or_ge a (s.kept.length - 1) with h3 | h3
        · exact Int.le_of_lt (List.pairwise_iff_getElem.1 hos.kept.rise a (s.kept.length - 1) ha (by omega) h3)
        · have : a = s.kept.length - 1 := by omega
          subst this; exact Int.le_refl _
      omega
    have hlt : lastOf (t.map Sn.id) k < s.id := by
      unfold lastOf
      split
      · omega
      · rename_i h0
        have e : (t.map Sn.id).getD (k - 1) 0 = t[k - 1].id := by
          rw [List.getD_eq_getElem?_getD, List.getElem?_map, List.getElem?_eq_getElem (show k - 1 < t.length by omega)]; rfl
        rw [e, hs]
        exact List.pairwise_iff_getElem.1 hok.rise (k - 1) k (by omega) hk (by omega)
    have hib := items_back hos hT (by rw [List.length_take]; omega) (numsB ((t.drop (k + 1)).flatMap snNsP) ++ rest) s.kept.length 0 (by omega)
    have hst : stT (t.take k) s s.kept.length = t.take (k + 1) := by
      unfold stT
      rw [if_neg (fun e => hne (List.eq_nil_of_length_eq_zero e)), List.take_length, hlast, htk]
    rw [hst] at hib
    unfold sessL
    rw [hb, numP_num (by unfold i64ok; omega)]
    simp only
    rw [numP_num (by have := hos.low; have := hos.top; unfold i64ok; omega)]
    simp only
    rw [if_pos hlt, cntP_num (by omega) (by omega) (by omega)]
    simp only [Int.toNat_natCast]
    have h0 : lastSeq (s.kept.take 0) = 0 := rfl
    have h1 : stT (t.take k) s 0 = t.take k := rfl
    have h2 : s.kept.drop 0 = s.kept := rfl
    rw [h0, h1, h2] at hib
    rw [hib]
    simp only
    have hhi : highT (t.take (k + 1)) s.id = s.high := by
      unfold highT
      rw [htk, findS_end hT]
    rw [if_pos (by rw [hlast, hhi]; simp)]
    have hl2 : lastOf (t.map Sn.id) (k + 1) = s.id := by
      unfold lastOf
      rw [if_neg (by omega), Nat.add_sub_cancel, List.getD_eq_getElem?_getD, List.getElem?_map, List.getElem?_eq_getElem hk, hs]; rfl
    have := sess_back hok htop rest n (k + 1) (by omega)
    rw [hl2] at this
    exact this
theorem load_back {t : Tb} (hok : OkT t) (htop : TopT t) (rest : List UInt8) : loadL (numsB (tbNsP t) ++ rest) = some (t, rest) := by
  have hf := hok.few
  unfold loadL
  have hb : numsB (tbNsP t) ++ rest = numB (t.length : Int) ++ (numsB (t.flatMap snNsP) ++ rest) := by
    unfold tbNsP numsB; rw [List.flatMap_cons, List.append_assoc]
  rw [hb, cntP_num (by omega) (by omega) (by omega)]
  simp only [Int.toNat_natCast]
  exact sess_back hok htop rest t.length 0 (by omega)
end Go.Proofs.Ytakebmbdcjbbgaa
