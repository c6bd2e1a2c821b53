/- Layer 13: the document's table, a list of items, and a table of sessions: plain words, no program. -/
import Derived.Test.YtakebmbdcjbbgaaSsL
namespace Go.Proofs.Ytakebmbdcjbbgaa.Ss

/-- an item of the document's table -/
structure RI where
  id : Int
  seq : Int
  code : Int
  num : Int
def RI.it (x : RI) : It := ⟨x.seq, x.code, x.num⟩
def hiF (id : Int) (n : Int) (x : RI) : Int := if (x.id == id && decide (n < x.seq)) = true then x.seq else n
def rHigh (its : List RI) (id : Int) : Int := its.foldl (hiF id) 0
def riOf (id : Int) (i : It) : RI := ⟨id, i.seq, i.code, i.num⟩
def flatAll (t : Tb) : List RI := t.flatMap fun s => s.kept.map (riOf s.id)
structure R (its : List RI) (t : Tb) : Prop where
  ok : OkT t
  perm : its.Perm (flatAll t)
  top : ∀ s ∈ t, ∃ i ∈ s.kept, i.seq = s.high
theorem R.nil : R [] [] := ⟨OkT.nil, List.Perm.refl _, by simp⟩
theorem R.inT {its : List RI} {t : Tb} (h : R its t) : ∀ x ∈ its, ∃ s ∈ t, s.id = x.id ∧ x.it ∈ s.kept := fun x hx => by
  have := h.perm.mem_iff.1 hx
  obtain ⟨s, hs, hx⟩ := List.mem_flatMap.1 this
  obtain ⟨i, hi, rfl⟩ := List.mem_map.1 hx
  exact ⟨s, hs, rfl, hi⟩
theorem R.inI {its : List RI} {t : Tb} (h : R its t) : ∀ s ∈ t, ∀ i ∈ s.kept, (⟨s.id, i.seq, i.code, i.num⟩ : RI) ∈ its := fun s hs i hi =>
  h.perm.mem_iff.2 (List.mem_flatMap.2 ⟨s, hs, List.mem_map.2 ⟨i, hi, rfl⟩⟩)
theorem flat_len {t : Tb} (h : ∀ s ∈ t, s.kept.length ≤ 8) : (flatAll t).length ≤ 8 * t.length := by
  unfold flatAll
  induction t with
  | nil => simp
  | cons s r ih =>
    have h1 := h s List.mem_cons_self
    have h2 := ih (fun x hx => h x (List.mem_cons_of_mem _ hx))
    simp only [List.flatMap_cons, List.length_append, List.length_map, List.length_cons]
    omega
theorem R.few {its : List RI} {t : Tb} (h : R its t) : its.length ≤ 128 := by
  rw [h.perm.length_eq]
  have h1 := flat_len (t := t) (fun s hs => (h.ok.each s hs).kept.len)
  have h2 := h.ok.few
  omega
theorem R.find {its : List RI} {t : Tb} (h : R its t) {x : RI} (hx : x ∈ its) : ∃ s, findS x.id t = some s ∧ x.it ∈ s.kept ∧ OkS s := by
  obtain ⟨s, hs, h1, h2⟩ := h.inT x hx
  have := findS_mem h.ok.rise hs
  rw [h1] at this
  exact ⟨s, this, h2, h.ok.each s hs⟩
theorem R.pos {its : List RI} {t : Tb} (h : R its t) {x : RI} (hx : x ∈ its) : (1 ≤ x.id ∧ x.id ≤ 1099511627776) ∧ (1 ≤ x.seq ∧ x.seq ≤ 1099511627776) ∧ vdOk x.code x.num = true := by
  obtain ⟨s, h1, h2, h3⟩ := h.find hx
  have hid := numOk_iff.1 h3.id
  rw [(findS_some h1).2] at hid
  refine ⟨hid, ⟨h3.kept.pos _ h2, ?_⟩, h3.kept.vd _ h2⟩
  have := h3.kept.high _ h2
  have := h3.top
  show x.it.seq ≤ _
  omega
/-! the highest number -/
theorem foldHi (id : Int) (its : List RI) (n : Int) : n ≤ its.foldl (hiF id) n ∧ (∀ x ∈ its, x.id = id → x.seq ≤ its.foldl (hiF id) n) ∧ (its.foldl (hiF id) n = n ∨ ∃ x ∈ its, x.id = id ∧ x.seq = its.foldl (hiF id) n) := by
  induction its generalizing n with
  | nil => exact ⟨Int.le_refl _, by simp, .inl rfl⟩
  | cons y r ih =>
    rw [List.foldl_cons]
    obtain ⟨h1, h2, h3⟩ := ih (hiF id n y)
    have hy : n ≤ hiF id n y ∧ (y.id = id → y.seq ≤ hiF id n y) ∧ (hiF id n y = n ∨ (y.id = id ∧ hiF id n y = y.seq)) := by
      unfold hiF
      split
      · rename_i hc
        simp only [Bool.and_eq_true, beq_iff_eq, decide_eq_true_eq] at hc
        exact ⟨by omega, fun _ => Int.le_refl _, .inr ⟨hc.1, rfl⟩⟩
      · rename_i hc
        simp only [Bool.and_eq_true, beq_iff_eq, decide_eq_true_eq] at hc
        exact ⟨Int.le_refl _, fun e => by omega, .inl rfl⟩
    refine ⟨by omega, fun x hx e => ?_, ?_⟩
    · rcases List.mem_cons.1 hx with rfl | hx
      · have := hy.2.1 e; omega
      · exact h2 x hx e
    · rcases h3 with h3 | ⟨x, hx, e1, e2⟩
      · rcases hy.2.2 with h4 | ⟨h4, h5⟩
        · left; rw [h3, h4]
        · right; exact ⟨y, List.mem_cons_self, h4, by rw [h3, h5]⟩
      · right; exact ⟨x, List.mem_cons_of_mem _ hx, e1, e2⟩
theorem R.high {its : List RI} {t : Tb} (h : R its t) (id : Int) : rHigh its id = highT t id := by
  unfold rHigh
  obtain ⟨h1, h2, h3⟩ := foldHi id its 0
  unfold highT
  cases hf : findS id t with
  | none =>
    simp only
    rcases h3 with h3 | ⟨x, hx, e1, e2⟩
    · exact h3
    · obtain ⟨s, g1, -, -⟩ := h.find hx
      rw [e1, hf] at g1; cases g1
  | some s =>
    simp only
    obtain ⟨hm, hid⟩ := findS_some hf
    obtain ⟨i, hi, htop⟩ := h.top s hm
    have h4 := h.inI s hm i hi
    have h5 := h2 _ h4 hid
    have h6 : i.seq ≤ its.foldl (hiF id) 0 := h5
    have hlow := (h.ok.each s hm).low
    rcases h3 with h3 | ⟨x, hx, e1, e2⟩
    · omega
    · obtain ⟨s', g1, g2, g3⟩ := h.find hx
      rw [e1, hf] at g1
      cases g1
      have := g3.kept.high _ g2
      have e3 : x.it.seq = x.seq := rfl
      omega
/-! the sessions -/
def nxF (last n : Int) (x : RI) : Int := if (decide (last < x.id) && (n == 0 || decide (x.id < n))) = true then x.id else n
def nxt (its : List RI) (last : Int) : Int := its.foldl (nxF last) 0
theorem foldNx (last : Int) (its : List RI) (hpos : ∀ x ∈ its, 1 ≤ x.id) (n : Int) (hn : 0 ≤ n) : let m := its.foldl (nxF last) n; (m = n ∨ ∃ x ∈ its, x.id = m ∧ last < m) ∧ (n ≠ 0 → m ≤ n ∧ m ≠ 0) ∧ (∀ x ∈ its, last < x.id → m ≠ 0 ∧ m ≤ x.id) := by
  induction its generalizing n with
  | nil => exact ⟨.inl rfl, fun h => ⟨Int.le_refl _, h⟩, by simp⟩
  | cons y r ih =>
    simp only [List.foldl_cons]
    have hp := hpos y List.mem_cons_self
    have hy : (nxF last n y = n ∧ (last < y.id → n ≠ 0 ∧ n ≤ y.id)) ∨ (nxF last n y = y.id ∧ last < y.id ∧ (n ≠ 0 → y.id < n)) := by
      unfold nxF
      split
      · rename_i hc
        simp only [Bool.and_eq_true, Bool.or_eq_true, beq_iff_eq, decide_eq_true_eq] at hc
        exact .inr ⟨rfl, hc.1, by omega⟩
      · rename_i hc
        simp only [Bool.and_eq_true, Bool.or_eq_true, beq_iff_eq, decide_eq_true_eq] at hc
        exact .inl ⟨rfl, by omega⟩
    have hn' : 0 ≤ nxF last n y := by rcases hy with hy | hy <;> omega
    obtain ⟨h1, h2, h3⟩ := ih (fun x hx => hpos x (List.mem_cons_of_mem _ hx)) (nxF last n y) hn'
    refine ⟨?_, ?_, ?_⟩
    · rcases h1 with h1 | ⟨x, hx, e⟩
      · rcases hy with ⟨hy, -⟩ | ⟨hy, hl, -⟩
        · left; rw [h1, hy]
        · right; exact ⟨y, List.mem_cons_self, by rw [h1, hy], by rw [h1, hy]; exact hl⟩
      · right; exact ⟨x, List.mem_cons_of_mem _ hx, e⟩
    · intro h0
      have h4 : nxF last n y ≠ 0 ∧ nxF last n y ≤ n := by rcases hy with hy | hy <;> omega
      have := h2 h4.1
      omega
    · intro x hx hl
      rcases List.mem_cons.1 hx with rfl | hx
      · have h4 : nxF last n x ≠ 0 ∧ nxF last n x ≤ x.id := by rcases hy with hy | hy <;> omega
        have := h2 h4.1
        omega
      · exact h3 x hx hl
def lastOf (l : List Int) (k : Nat) : Int := if k = 0 then 0 else l.getD (k - 1) 0
theorem R.next {its : List RI} {t : Tb} (h : R its t) {k : Nat} (hk : k ≤ t.length) : nxt its (lastOf (t.map Sn.id) k) = (t.map Sn.id).getD k 0 := by
  have hpos : ∀ x ∈ its, 1 ≤ x.id := fun x hx => (h.pos hx).1.1
  have key := foldNx (lastOf (t.map Sn.id) k) its hpos 0 (Int.le_refl _)
  simp only at key
  obtain ⟨h1, -, h3⟩ := key
  have hsrt : (t.map Sn.id).Pairwise (· < ·) := by rw [List.pairwise_map]; exact h.ok.rise
  have hidx : ∀ j (hj : j < t.length), 1 ≤ (t.map Sn.id)[j]'(by simpa using hj) := fun j hj => by
    rw [List.getElem_map]; exact (numOk_iff.1 (h.ok.each _ (List.getElem_mem hj)).id).1
  -- an id of an item is one of the table
  have hin : ∀ x ∈ its, ∃ j, ∃ hj : j < t.length, x.id = t[j].id := fun x hx => by
    obtain ⟨s, hs, e, -⟩ := h.inT x hx
    obtain ⟨j, hj, rfl⟩ := List.getElem_of_mem hs
    exact ⟨j, hj, e.symm⟩
  have hof : ∀ j (hj : j < t.length), ∃ x ∈ its, x.id = t[j].id := fun j hj => by
    obtain ⟨i, hi, -⟩ := h.top _ (List.getElem_mem hj)
    exact ⟨_, h.inI _ (List.getElem_mem hj) i hi, rfl⟩
  have hlt : ∀ i j (hi : i < t.length) (hj : j < t.length), i < j → t[i].id < t[j].id := fun i j hi hj hij => List.pairwise_iff_getElem.1 h.ok.rise i j hi hj hij
  have hle : ∀ i j (hi : i < t.length) (hj : j < t.length), i ≤ j → t[i].id ≤ t[j].id := fun i j hi hj hij => by
    rcases Nat.lt_or_eq_of_le hij with h | rfl
    · exact Int.le_of_lt (hlt i j hi hj h)
    · exact Int.le_refl _
  have hlast : ∀ j (hj : j < t.length), lastOf (t.map Sn.id) k < t[j].id ↔ k ≤ j := fun j hj => by
    unfold lastOf
    split
    · have := hidx j hj
      rw [List.getElem_map] at this
      constructor
      · intro _; omega
      · intro _; omega
    · rename_i h0
      have hk1 : k - 1 < t.length := by omega
      have e : (t.map Sn.id).getD (k - 1) 0 = t[k - 1].id := by
        rw [List.getD_eq_getElem?_getD, List.getElem?_map, List.getElem?_eq_getElem hk1]; rfl
      rw [e]
      constructor
      · intro hh
        rcases Nat.lt_or_ge j k with h5 | h5
        · have := hle j (k - 1) hj hk1 (by omega); omega
        · exact h5
      · intro hh
        exact hlt (k - 1) j hk1 hj (by omega)
  show its.foldl (nxF (lastOf (t.map Sn.id) k)) 0 = _
  by_cases hkt : k < t.length
  · have e : (t.map Sn.id).getD k 0 = t[k].id := by
      rw [List.getD_eq_getElem?_getD, List.getElem?_map, List.getElem?_eq_getElem hkt]; rfl
    rw [e]
    obtain ⟨x, hx, ex⟩ := hof k hkt
    have h4 := h3 x hx (by rw [ex]; exact (hlast k hkt).2 (Nat.le_refl _))
    rcases h1 with h1 | ⟨y, hy, e1, e2⟩
    · exact absurd h1 h4.1
    · obtain ⟨j, hj, ej⟩ := hin y hy
      have h5 := (hlast j hj).1 (by rw [← ej, e1]; exact e2)
      have h6 := hle k j hkt hj h5
      omega
  · have e : (t.map Sn.id).getD k 0 = 0 := by
      rw [List.getD_eq_getElem?_getD, List.getElem?_eq_none (by rw [List.length_map]; omega)]; rfl
    rw [e]
    rcases h1 with h1 | ⟨y, hy, e1, e2⟩
    · exact h1
    · obtain ⟨j, hj, ej⟩ := hin y hy
      have h5 := (hlast j hj).1 (by rw [← ej, e1]; exact e2)
      omega
/-! what is kept of a session -/
/-- the least number of a session that is above 'last', among the first n items -/
def KAt (its : List RI) (id last : Int) (n : Nat) (v : Int) : Prop :=
  (v = -1 ∧ ∀ j (hj : j < its.length), j < n → ¬ (its[j].id = id ∧ last < its[j].seq)) ∨
  ∃ a, ∃ ha : a < its.length, v = (a : Int) ∧ its[a].id = id ∧ last < its[a].seq ∧ ∀ j (hj : j < its.length), j < n → its[j].id = id → last < its[j].seq → its[a].seq ≤ its[j].seq
theorem R.keptAt {its : List RI} {t : Tb} (h : R its t) {id : Int} {k : Nat} (hk : k ≤ (keptT t id).length) {v : Int} (hv : KAt its id (lastOf ((keptT t id).map It.seq) k) its.length v) :
    (∀ hlt : k < (keptT t id).length, ∃ a, ∃ ha : a < its.length, v = (a : Int) ∧ its[a] = riOf id (keptT t id)[k]) ∧ (¬ k < (keptT t id).length → v = -1) := by
  obtain ⟨ks, hks⟩ : ∃ z, z = keptT t id := ⟨_, rfl⟩
  rw [← hks] at hk hv
  have hof : ∀ i ∈ ks, riOf id i ∈ its := fun i hi => by
    rw [hks] at hi
    unfold keptT at hi
    cases hf : findS id t with
    | none => rw [hf] at hi; cases hi
    | some s =>
      rw [hf] at hi
      obtain ⟨hm, rfl⟩ := findS_some hf
      exact h.inI s hm i hi
  have hin : ∀ x ∈ its, x.id = id → x.it ∈ ks := fun x hx e => by
    obtain ⟨s, h1, h2, -⟩ := h.find hx
    rw [hks]; unfold keptT; rw [← e, h1]; exact h2
  have hrise : ks.Pairwise fun a b => a.seq < b.seq := by
    rw [hks]; unfold keptT
    cases hf : findS id t with
    | none => exact List.Pairwise.nil
    | some s => exact (h.ok.each s (findS_some hf).1).kept.rise
  have hpos : ∀ i ∈ ks, 1 ≤ i.seq := fun i hi => (h.pos (hof i hi)).2.1.1
  have hlt : ∀ i j (hi : i < ks.length) (hj : j < ks.length), i < j → ks[i].seq < ks[j].seq := fun i j hi hj hij => List.pairwise_iff_getElem.1 hrise i j hi hj hij
  have hle : ∀ i j (hi : i < ks.length) (hj : j < ks.length), i ≤ j → ks[i].seq ≤ ks[j].seq := fun i j hi hj hij => by
    rcases Nat.lt_or_eq_of_le hij with h | rfl
    · exact Int.le_of_lt (hlt i j hi hj h)
    · exact Int.le_refl _
  have hlast : ∀ j (hj : j < ks.length), lastOf (ks.map It.seq) k < ks[j].seq ↔ k ≤ j := fun j hj => by
    unfold lastOf
    split
    · have := hpos _ (List.getElem_mem hj)
      constructor
      · intro _; omega
      · intro _; omega
    · rename_i h0
      have hk1 : k - 1 < ks.length := by omega
      have e : (ks.map It.seq).getD (k - 1) 0 = ks[k - 1].seq := by
        rw [List.getD_eq_getElem?_getD, List.getElem?_map, List.getElem?_eq_getElem hk1]; rfl
      rw [e]
      constructor
      · intro hh
        rcases Nat.lt_or_ge j k with h5 | h5
        · have := hle j (k - 1) hj hk1 (by omega); omega
        · exact h5
      · intro hh
        exact hlt (k - 1) j hk1 hj (by omega)
  rw [← hks]
  constructor
  · intro hkl
    obtain ⟨jx, hjx, ejx⟩ := List.getElem_of_mem (hof _ (List.getElem_mem hkl))
    rcases hv with ⟨-, hno⟩ | ⟨a, ha, rfl, e1, e2, e3⟩
    · exfalso
      refine hno jx hjx hjx ?_
      rw [ejx]
      exact ⟨rfl, (hlast k hkl).2 (Nat.le_refl _)⟩
    · refine ⟨a, ha, rfl, ?_⟩
      have h1 := e3 jx hjx hjx (by rw [ejx]; rfl) (by rw [ejx]; exact (hlast k hkl).2 (Nat.le_refl _))
      rw [ejx] at h1
      have h2 := hin _ (List.getElem_mem ha) e1
      obtain ⟨m, hm, em⟩ := List.getElem_of_mem h2
      have h3 : ks[m].seq = its[a].seq := by rw [em]; rfl
      have h4 := (hlast m hm).1 (by rw [h3]; exact e2)
      have h5 := hle k m hkl hm h4
      have h6 : (riOf id ks[k]).seq = ks[k].seq := rfl
      rw [h6] at h1
      have hkm : k = m := by
        rcases Nat.lt_or_eq_of_le h4 with h7 | h7
        · have := hlt k m hkl hm h7; omega
        · exact h7
      subst hkm
      rw [em, ← e1]
      rfl
  · intro hkl
    rcases hv with ⟨e, -⟩ | ⟨a, ha, rfl, e1, e2, e3⟩
    · exact e
    · exfalso
      have h2 := hin _ (List.getElem_mem ha) e1
      obtain ⟨m, hm, em⟩ := List.getElem_of_mem h2
      have h3 : ks[m].seq = its[a].seq := by rw [em]; rfl
      have h4 := (hlast m hm).1 (by rw [h3]; exact e2)
      omega
/-! Put -/
def rPutL (its : List RI) (x : RI) : List RI := (its ++ [x]).filter fun y => !(y.id == x.id) || decide (rHigh (its ++ [x]) x.id - 8 < y.seq)
theorem rHigh_snoc (its : List RI) (x : RI) : rHigh (its ++ [x]) x.id = max (rHigh its x.id) x.seq := by
  unfold rHigh
  rw [List.foldl_append, List.foldl_cons, List.foldl_nil]
  unfold hiF
  simp only [beq_self_eq_true, Bool.true_and, decide_eq_true_eq]
  split <;> omega
theorem insI_perm (x : It) (k : List It) : (insI x k).Perm (x :: k) := by
  unfold insI
  refine (List.perm_middle).trans ?_
  rw [List.take_append_drop]
theorem flat_split {t : Tb} {s : Sn} (h : t.Pairwise fun a b => a.id < b.id) (hs : s ∈ t) (s' : Sn) (hid : s'.id = s.id) : ∃ a b, t = a ++ s :: b ∧ updS s' t = a ++ s' :: b ∧ (∀ y ∈ a, y.id ≠ s.id) ∧ ∀ y ∈ b, y.id ≠ s.id := by
  obtain ⟨a, b, rfl⟩ := List.append_of_mem hs
  obtain ⟨h1, h2, h3⟩ := List.pairwise_append.1 h
  obtain ⟨h4, h5⟩ := List.pairwise_cons.1 h2
  have ha : ∀ y ∈ a, y.id ≠ s.id := fun y hy e => by have := h3 y hy s List.mem_cons_self; omega
  have hb : ∀ y ∈ b, y.id ≠ s.id := fun y hy e => by have := h4 y hy; omega
  have hn : ∀ l : Tb, (∀ y ∈ l, y.id ≠ s.id) → l.map (fun y => if y.id == s'.id then s' else y) = l := fun l hl => by
    conv => rhs; rw [← List.map_id l]
    refine List.map_congr_left fun y hy => ?_
    rw [if_neg (by rw [beq_iff_eq, hid]; exact hl y hy)]; rfl
  refine ⟨a, b, rfl, ?_, ha, hb⟩
  unfold updS
  rw [List.map_append, List.map_cons, hn a ha, hn b hb, if_pos (by rw [hid, beq_self_eq_true])]
theorem flatAll_app (a b : Tb) : flatAll (a ++ b) = flatAll a ++ flatAll b := List.flatMap_append
theorem flatAll_cons (s : Sn) (b : Tb) : flatAll (s :: b) = s.kept.map (riOf s.id) ++ flatAll b := rfl
theorem flat_filter {a : Tb} {id h : Int} (ha : ∀ y ∈ a, y.id ≠ id) : (flatAll a).filter (fun y => !(y.id == id) || decide (h - 8 < y.seq)) = flatAll a := by
  rw [List.filter_eq_self]
  intro x hx
  obtain ⟨s, hs, hx⟩ := List.mem_flatMap.1 hx
  obtain ⟨i, -, rfl⟩ := List.mem_map.1 hx
  have : (s.id == id) = false := by rw [beq_eq_false_iff_ne]; exact ha s hs
  show (!(s.id == id) || _) = true
  rw [this]; rfl
theorem win_filter (id h : Int) (k : List It) : (k.map (riOf id)).filter (fun y => !(y.id == id) || decide (h - 8 < y.seq)) = (winI h k).map (riOf id) := by
  unfold winI
  rw [List.filter_map]
  congr 1
  refine List.filter_congr fun i _ => ?_
  show (!(id == id) || decide (h - 8 < i.seq)) = _
  simp
theorem flat_ins {t : Tb} (s : Sn) : (flatAll (insS s t)).Perm (s.kept.map (riOf s.id) ++ flatAll t) := by
  have h := insS_perm s t
  have : (flatAll (insS s t)).Perm (flatAll (s :: t)) := h.flatMap_right _
  exact this
theorem top_put {s : Sn} {x : It} (_ : OkK s.high s.kept) (htop : s.kept = [] ∧ s.high ≤ x.seq ∨ ∃ i ∈ s.kept, i.seq = s.high) (hx : s.high - 8 < x.seq) : ∃ i ∈ (putK s x).kept, i.seq = (putK s x).high := by
  unfold putK
  by_cases h : s.high ≤ x.seq
  · exact ⟨x, winI_mem.2 ⟨insI_mem.2 (.inl rfl), by omega⟩, by show x.seq = max s.high x.seq; omega⟩
  · rcases htop with ⟨-, h1⟩ | ⟨i, hi, e⟩
    · omega
    · exact ⟨i, winI_mem.2 ⟨insI_mem.2 (.inr hi), by omega⟩, by show i.seq = max s.high x.seq; omega⟩
theorem R.put {its : List RI} {t : Tb} (h : R its t) (x : RI) (h0 : lookC t x.id x.seq = 0) (hv : vdOk x.code x.num = true) : R (rPutL its x) (putT t x.id x.seq x.code x.num).1 := by
  have hok := putT_ok h.ok x.id x.seq x.code x.num
  obtain ⟨hid, hsq, -, h4⟩ := lookC_zero h0
  have hsp := numOk_iff.1 hsq
  have hH : rHigh (its ++ [x]) x.id = max (highT t x.id) x.seq := by rw [rHigh_snoc, h.high]
  cases hf : findS x.id t with
  | some s =>
    have hput : putT t x.id x.seq x.code x.num = (updS (putK s x.it) t, 0) := by
      unfold putT; rw [if_neg (by omega), if_pos hv, hf]; rfl
    rw [hput] at hok ⊢
    obtain ⟨hm, hsid⟩ := findS_some hf
    have hos := h.ok.each s hm
    obtain ⟨h5, h6⟩ := h4 s hf
    obtain ⟨a, b, e1, e2, e3, e4⟩ := flat_split h.ok.rise hm (putK s x.it) rfl
    have hHs : rHigh (its ++ [x]) x.id = (putK s x.it).high := by
      rw [hH]; unfold highT; rw [hf]; rfl
    refine ⟨hok, ?_, fun y hy => ?_⟩
    · unfold rPutL
      rw [hHs]
      have p1 : (its ++ [x]).Perm (flatAll a ++ ((x.it :: s.kept).map (riOf s.id) ++ flatAll b)) := by
        have p2 := h.perm.append_right [x]
        rw [e1, flatAll_app, flatAll_cons] at p2
        refine p2.trans ?_
        have ex : riOf s.id x.it = x := by rw [hsid]; rfl
        rw [List.map_cons, ex, List.append_assoc, List.append_assoc]
        refine List.Perm.append_left _ ?_
        rw [List.cons_append]
        rw [← List.append_assoc]
        exact List.perm_append_singleton x _
      refine (p1.filter _).trans ?_
      rw [List.filter_append, List.filter_append]
      have f1 := flat_filter (h := (putK s x.it).high) (fun y hy => show y.id ≠ x.id by rw [← hsid]; exact e3 y hy)
      have f2 := flat_filter (h := (putK s x.it).high) (fun y hy => show y.id ≠ x.id by rw [← hsid]; exact e4 y hy)
      rw [f1, f2]
      show (_ : List RI).Perm (flatAll (updS (putK s x.it) t))
      rw [e2, flatAll_app, flatAll_cons]
      refine List.Perm.append_left _ (List.Perm.append_right _ ?_)
      have f3 := win_filter s.id (putK s x.it).high (x.it :: s.kept)
      rw [hsid] at f3 ⊢
      rw [f3]
      have : (putK s x.it).kept = winI (putK s x.it).high (insI x.it s.kept) := rfl
      rw [this]
      have hpid : (putK s x.it).id = x.id := hsid
      rw [hpid]
      exact (((insI_perm x.it s.kept).filter _).map _).symm
    · rcases updS_mem hy with rfl | ⟨hy, -⟩
      · exact top_put hos.kept (.inr (h.top s hm)) h5
      · exact h.top y hy
  | none =>
    have hput : putT t x.id x.seq x.code x.num = (insS (putK ⟨x.id, 0, []⟩ x.it) t, 0) := by
      unfold putT; rw [if_neg (by omega), if_pos hv, hf]; rfl
    rw [hput] at hok ⊢
    have hn := findS_none hf
    have hHs : rHigh (its ++ [x]) x.id = (putK ⟨x.id, 0, []⟩ x.it).high := by
      rw [hH]; unfold highT; rw [hf]; rfl
    refine ⟨hok, ?_, fun y hy => ?_⟩
    · unfold rPutL
      rw [hHs]
      refine ((h.perm.append_right [x]).filter _).trans ?_
      rw [List.filter_append]
      have f1 := flat_filter (h := (putK ⟨x.id, 0, []⟩ x.it).high) (fun y hy => show y.id ≠ x.id from hn y hy)
      rw [f1]
      have f3 := win_filter x.id (putK ⟨x.id, 0, []⟩ x.it).high [x.it]
      have ex : [x.it].map (riOf x.id) = [x] := rfl
      rw [ex] at f3
      rw [f3]
      refine List.perm_append_comm.trans ?_
      exact (flat_ins (t := t) (putK ⟨x.id, 0, []⟩ x.it)).symm
    · rcases insS_mem.1 hy with rfl | hy
      · refine top_put (s := ⟨x.id, 0, []⟩) ⟨List.Pairwise.nil, by simp, by simp, by simp, by simp⟩ (.inl ⟨rfl, ?_⟩) ?_
        · show (0 : Int) ≤ x.seq; omega
        · show (0 : Int) - 8 < x.seq; omega
      · exact h.top y hy
end Go.Proofs.Ytakebmbdcjbbgaa.Ss
