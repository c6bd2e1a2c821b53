/- Layer 13: tables of sessions: plain words, no program. -/
namespace Go.Proofs.Ytakebmbdcjbbgaa.Ss

/-- a number and its verdict -/
structure It where
  seq : Int
  code : Int
  num : Int
/-- a session: who, its highest number, what is kept -/
structure Sn where
  id : Int
  high : Int
  kept : List It
abbrev Tb := List Sn
def numOk (n : Int) : Bool := decide (1 ≤ n) && decide (n ≤ 1099511627776)
def vdOk (c n : Int) : Bool := decide (0 ≤ c) && (decide (c ≤ 999) && (decide (0 ≤ n) && decide (n ≤ 1099511627776)))
def findS (id : Int) (t : Tb) : Option Sn := t.find? fun s => s.id == id
def itAt (seq : Int) (k : List It) : Option It := k.find? fun i => i.seq == seq
/-- Look: the code -/
def lookC (t : Tb) (id seq : Int) : Int :=
  if (numOk id && numOk seq) = true then
    match findS id t with
    | none => if t.length = 16 then 131 else 0
    | some s => if seq ≤ s.high - 8 then 130 else if (itAt seq s.kept).isSome = true then 5 else 0
  else 43
/-- .. the verdict -/
def lookI (t : Tb) (id seq : Int) : Int × Int :=
  if (numOk id && numOk seq) = true then
    match findS id t with
    | none => (0, 0)
    | some s => if seq ≤ s.high - 8 then (0, 0) else match itAt seq s.kept with | some i => (i.code, i.num) | none => (0, 0)
  else (0, 0)
def lowI (seq : Int) (k : List It) : Nat := (k.filter fun i => decide (i.seq < seq)).length
def insI (x : It) (k : List It) : List It := k.take (lowI x.seq k) ++ x :: k.drop (lowI x.seq k)
def winI (h : Int) (k : List It) : List It := k.filter fun i => decide (h - 8 < i.seq)
def putK (s : Sn) (x : It) : Sn := ⟨s.id, max s.high x.seq, winI (max s.high x.seq) (insI x s.kept)⟩
def insS (s : Sn) : Tb → Tb
  | [] => [s]
  | y :: r => if s.id < y.id then s :: y :: r else y :: insS s r
def updS (s : Sn) (t : Tb) : Tb := t.map fun y => if y.id == s.id then s else y
def putT (t : Tb) (id seq c n : Int) : Tb × Int :=
  if lookC t id seq ≠ 0 then (t, lookC t id seq)
  else if vdOk c n = true then
    match findS id t with
    | some s => (updS (putK s ⟨seq, c, n⟩) t, 0)
    | none => (insS (putK ⟨id, 0, []⟩ ⟨seq, c, n⟩) t, 0)
  else (t, 1)
def highT (t : Tb) (id : Int) : Int := match findS id t with | some s => s.high | none => 0
def keptT (t : Tb) (id : Int) : List It := match findS id t with | some s => s.kept | none => []

/-- what holds of a session's list -/
structure OkK (h : Int) (k : List It) : Prop where
  rise : k.Pairwise fun a b => a.seq < b.seq
  low : ∀ i ∈ k, h - 8 < i.seq
  high : ∀ i ∈ k, i.seq ≤ h
  pos : ∀ i ∈ k, 1 ≤ i.seq
  vd : ∀ i ∈ k, vdOk i.code i.num = true
structure OkS (s : Sn) : Prop where
  id : numOk s.id = true
  low : 1 ≤ s.high
  top : s.high ≤ 1099511627776
  kept : OkK s.high s.kept
structure OkT (t : Tb) : Prop where
  rise : t.Pairwise fun a b => a.id < b.id
  each : ∀ s ∈ t, OkS s
  few : t.length ≤ 16

theorem numOk_iff {n : Int} : numOk n = true ↔ 1 ≤ n ∧ n ≤ 1099511627776 := by unfold numOk; simp
theorem vdOk_iff {c n : Int} : vdOk c n = true ↔ (0 ≤ c ∧ c ≤ 999) ∧ 0 ≤ n ∧ n ≤ 1099511627776 := by
  unfold vdOk
  simp only [Bool.and_eq_true, decide_eq_true_eq]
  constructor
  · rintro ⟨a, b, c, d⟩; exact ⟨⟨a, b⟩, c, d⟩
  · rintro ⟨⟨a, b⟩, c, d⟩; exact ⟨a, b, c, d⟩
theorem findS_some {id : Int} {t : Tb} {s : Sn} (h : findS id t = some s) : s ∈ t ∧ s.id = id := by
  unfold findS at h
  exact ⟨List.mem_of_find?_eq_some h, by simpa using List.find?_some h⟩
theorem findS_none {id : Int} {t : Tb} (h : findS id t = none) : ∀ s ∈ t, s.id ≠ id := by
  unfold findS at h
  intro s hs; simpa using List.find?_eq_none.1 h s hs
theorem rise_eq {t : Tb} (h : t.Pairwise fun a b => a.id < b.id) {a b : Sn} (ha : a ∈ t) (hb : b ∈ t) (e : a.id = b.id) : a = b := by
  induction t with
  | nil => cases ha
  | cons y r ih =>
    obtain ⟨h1, h2⟩ := List.pairwise_cons.1 h
    rcases List.mem_cons.1 ha with e1 | ha' <;> rcases List.mem_cons.1 hb with e2 | hb'
    · rw [e1, e2]
    · have := h1 b hb'; rw [e1] at e; omega
    · have := h1 a ha'; rw [e2] at e; omega
    · exact ih h2 ha' hb'
theorem findS_mem {t : Tb} (h : t.Pairwise fun a b => a.id < b.id) {s : Sn} (hs : s ∈ t) : findS s.id t = some s := by
  cases hf : findS s.id t with
  | none => exact absurd rfl (findS_none hf s hs)
  | some s' =>
    obtain ⟨h1, h2⟩ := findS_some hf
    rw [rise_eq h h1 hs h2]
/-! the list of a session -/
/-- a rising list parts at a number -/
theorem low_parts {k : List It} (h : k.Pairwise fun a b => a.seq < b.seq) (seq : Int) : (∀ i ∈ k.take (lowI seq k), i.seq < seq) ∧ (∀ i ∈ k.drop (lowI seq k), seq ≤ i.seq) := by
  induction k with
  | nil => exact ⟨by simp, by simp⟩
  | cons y r ih =>
    obtain ⟨h1, h2⟩ := List.pairwise_cons.1 h
    obtain ⟨a, b⟩ := ih h2
    by_cases hy : y.seq < seq
    · have e : lowI seq (y :: r) = lowI seq r + 1 := by unfold lowI; rw [List.filter_cons, if_pos (by simpa using hy)]; rfl
      rw [e]
      refine ⟨fun i hi => ?_, b⟩
      rw [List.take_succ_cons] at hi
      rcases List.mem_cons.1 hi with rfl | hi
      · exact hy
      · exact a i hi
    · have h0 : lowI seq (y :: r) = 0 := by
        unfold lowI
        rw [List.length_eq_zero_iff, List.filter_eq_nil_iff]
        intro i hi
        rcases List.mem_cons.1 hi with rfl | hi
        · simpa using hy
        · have := h1 i hi; simp; omega
      rw [h0]
      refine ⟨by simp, fun i hi => ?_⟩
      rcases List.mem_cons.1 hi with rfl | hi
      · omega
      · have := h1 i hi; omega
theorem low_le (seq : Int) (k : List It) : lowI seq k ≤ k.length := List.length_filter_le _ _
theorem insI_mem {x i : It} {k : List It} : i ∈ insI x k ↔ i = x ∨ i ∈ k := by
  unfold insI
  rw [List.mem_append, List.mem_cons]
  have : i ∈ k ↔ i ∈ k.take (lowI x.seq k) ∨ i ∈ k.drop (lowI x.seq k) := by
    rw [← List.mem_append, List.take_append_drop]
  rw [this]
  constructor
  · rintro (h | h | h)
    · exact .inr (.inl h)
    · exact .inl h
    · exact .inr (.inr h)
  · rintro (h | h | h)
    · exact .inr (.inl h)
    · exact .inl h
    · exact .inr (.inr h)
theorem insI_len (x : It) (k : List It) : (insI x k).length = k.length + 1 := by
  unfold insI
  have := low_le x.seq k
  rw [List.length_append, List.length_cons, List.length_take, List.length_drop]; omega
theorem itAt_none {seq : Int} {k : List It} : itAt seq k = none ↔ ∀ i ∈ k, i.seq ≠ seq := by
  unfold itAt
  rw [List.find?_eq_none]
  simp
theorem itAt_some {seq : Int} {k : List It} {i : It} (h : itAt seq k = some i) : i ∈ k ∧ i.seq = seq := by
  unfold itAt at h
  exact ⟨List.mem_of_find?_eq_some h, by simpa using List.find?_some h⟩
theorem itAt_mem {k : List It} (h : k.Pairwise fun a b => a.seq < b.seq) {i : It} (hi : i ∈ k) : itAt i.seq k = some i := by
  cases hf : itAt i.seq k with
  | none => exact absurd rfl (itAt_none.1 hf i hi)
  | some j =>
    obtain ⟨h1, h2⟩ := itAt_some hf
    congr 1
    clear hf
    induction k with
    | nil => cases hi
    | cons y r ih =>
      obtain ⟨g1, g2⟩ := List.pairwise_cons.1 h
      rcases List.mem_cons.1 hi with e1 | hi' <;> rcases List.mem_cons.1 h1 with e2 | h1'
      · rw [e1, e2]
      · have := g1 j h1'; rw [e1] at h2; omega
      · have := g1 i hi'; rw [e2] at h2; omega
      · exact ih g2 hi' h1'
theorem insI_rise {x : It} {k : List It} (h : k.Pairwise fun a b => a.seq < b.seq) (hx : ∀ i ∈ k, i.seq ≠ x.seq) : (insI x k).Pairwise fun a b => a.seq < b.seq := by
  obtain ⟨a, b⟩ := low_parts h x.seq
  have hk : (k.take (lowI x.seq k) ++ k.drop (lowI x.seq k)).Pairwise fun a b => a.seq < b.seq := by rw [List.take_append_drop]; exact h
  obtain ⟨p1, p2, p3⟩ := List.pairwise_append.1 hk
  unfold insI
  refine List.pairwise_append.2 ⟨p1, List.pairwise_cons.2 ⟨fun i hi => ?_, p2⟩, fun i hi j hj => ?_⟩
  · have h1 := b i hi
    have h2 := hx i (List.mem_of_mem_drop hi)
    omega
  · rcases List.mem_cons.1 hj with rfl | hj
    · exact a i hi
    · exact p3 i hi j hj
theorem winI_mem {h : Int} {k : List It} {i : It} : i ∈ winI h k ↔ i ∈ k ∧ h - 8 < i.seq := by unfold winI; rw [List.mem_filter]; simp
/-- at most eight numbers are kept -/
theorem OkK.len {h : Int} {k : List It} (ok : OkK h k) : k.length ≤ 8 := by
  obtain ⟨hr, hl, hh, -, -⟩ := ok
  have key : ∀ (k : List It) (lo : Int), k.Pairwise (fun a b => a.seq < b.seq) → (∀ i ∈ k, lo < i.seq) → (∀ i ∈ k, i.seq ≤ h) → (k.length : Int) ≤ max (h - lo) 0 := by
    intro k
    induction k with
    | nil => intro lo _ _ _; simp; omega
    | cons y r ih =>
      intro lo h1 h2 h3
      obtain ⟨g1, g2⟩ := List.pairwise_cons.1 h1
      have e1 := ih y.seq g2 g1 (fun i hi => h3 i (List.mem_cons_of_mem _ hi))
      have e2 := h2 y List.mem_cons_self
      have e3 := h3 y List.mem_cons_self
      rw [List.length_cons]
      omega
  have := key k (h - 8) hr hl hh
  omega
theorem putK_ok {s : Sn} {x : It} (hs : OkK s.high s.kept) (hp : 1 ≤ x.seq) (hv : vdOk x.code x.num = true) (hx : ∀ i ∈ s.kept, i.seq ≠ x.seq) : OkK (putK s x).high (putK s x).kept := by
  unfold putK
  refine ⟨(insI_rise hs.rise hx).sublist List.filter_sublist, fun i hi => (winI_mem.1 hi).2, fun i hi => ?_, fun i hi => ?_, fun i hi => ?_⟩
  · rcases insI_mem.1 (winI_mem.1 hi).1 with rfl | h
    · show i.seq ≤ max s.high i.seq; omega
    · have := hs.high i h; show i.seq ≤ max s.high x.seq; omega
  · rcases insI_mem.1 (winI_mem.1 hi).1 with rfl | h
    · exact hp
    · exact hs.pos i h
  · rcases insI_mem.1 (winI_mem.1 hi).1 with rfl | h
    · exact hv
    · exact hs.vd i h
theorem insS_perm (s : Sn) (t : Tb) : (insS s t).Perm (s :: t) := by
  induction t with
  | nil => exact List.Perm.refl _
  | cons y r ih =>
    unfold insS; split
    · exact List.Perm.refl _
    · exact ((ih.cons y).trans (List.Perm.swap s y r))
theorem insS_mem {s x : Sn} {t : Tb} : x ∈ insS s t ↔ x = s ∨ x ∈ t := by rw [(insS_perm s t).mem_iff]; simp
theorem insS_len (s : Sn) (t : Tb) : (insS s t).length = t.length + 1 := by rw [(insS_perm s t).length_eq]; rfl
theorem insS_rise {s : Sn} {t : Tb} (h : t.Pairwise fun a b => a.id < b.id) (hn : ∀ x ∈ t, x.id ≠ s.id) : (insS s t).Pairwise fun a b => a.id < b.id := by
  induction t with
  | nil => exact List.pairwise_singleton _ _
  | cons y r ih =>
    obtain ⟨h1, h2⟩ := List.pairwise_cons.1 h
    unfold insS
    split
    · rename_i hlt
      refine List.pairwise_cons.2 ⟨fun x hx => ?_, h⟩
      rcases List.mem_cons.1 hx with rfl | hx
      · exact hlt
      · have := h1 x hx; omega
    · rename_i hlt
      refine List.pairwise_cons.2 ⟨fun x hx => ?_, ih h2 (fun x hx => hn x (List.mem_cons_of_mem _ hx))⟩
      rcases insS_mem.1 hx with rfl | hx
      · have := hn y List.mem_cons_self; omega
      · exact h1 x hx
theorem updS_rise {s : Sn} {t : Tb} (h : t.Pairwise fun a b => a.id < b.id) : (updS s t).Pairwise fun a b => a.id < b.id := by
  unfold updS
  rw [List.pairwise_map]
  refine h.imp fun {a b} hab => ?_
  split <;> split <;> simp_all
theorem updS_len (s : Sn) (t : Tb) : (updS s t).length = t.length := List.length_map _
theorem updS_mem {s x : Sn} {t : Tb} (h : x ∈ updS s t) : x = s ∨ (x ∈ t ∧ x.id ≠ s.id) := by
  unfold updS at h
  obtain ⟨y, hy, rfl⟩ := List.mem_map.1 h
  split
  · exact .inl rfl
  · rename_i e; exact .inr ⟨hy, by simpa using e⟩
theorem findS_upd {s : Sn} {t : Tb} {id : Int} : findS id (updS s t) = if id = s.id then (findS id t).map (fun _ => s) else findS id t := by
  unfold findS updS
  induction t with
  | nil => split <;> rfl
  | cons y r ih =>
    rw [List.map_cons, List.find?_cons, List.find?_cons]
    by_cases hy : y.id = s.id
    · simp only [hy, beq_self_eq_true, if_true]
      by_cases hi : id = s.id
      · subst hi; simp
      · have h1 : (s.id == id) = false := by rw [beq_eq_false_iff_ne]; exact fun e => hi e.symm
        simp only [h1, if_neg hi] at ih ⊢
        exact ih
    · have h0 : (y.id == s.id) = false := by rw [beq_eq_false_iff_ne]; exact hy
      simp only [h0, Bool.false_eq_true, if_false]
      by_cases hyi : y.id = id
      · subst hyi; simp [hy]
      · have h1 : (y.id == id) = false := by rw [beq_eq_false_iff_ne]; exact hyi
        simp only [h1]
        exact ih
theorem findS_ins {s : Sn} {t : Tb} {id : Int} (hn : ∀ x ∈ t, x.id ≠ s.id) : findS id (insS s t) = if id = s.id then some s else findS id t := by
  induction t with
  | nil =>
    unfold findS insS
    rw [List.find?_cons]
    by_cases hi : id = s.id
    · subst hi; simp
    · have h1 : (s.id == id) = false := by rw [beq_eq_false_iff_ne]; exact fun e => hi e.symm
      simp [h1, hi]
  | cons y r ih =>
    have ih := ih (fun x hx => hn x (List.mem_cons_of_mem _ hx))
    have hy := hn y List.mem_cons_self
    unfold insS
    split
    · unfold findS
      rw [List.find?_cons]
      by_cases hi : id = s.id
      · subst hi; simp
      · have h1 : (s.id == id) = false := by rw [beq_eq_false_iff_ne]; exact fun e => hi e.symm
        simp [h1, hi]
    · unfold findS at ih ⊢
      rw [List.find?_cons, List.find?_cons]
      by_cases hyi : y.id = id
      · subst hyi; simp [hy]
      · have h1 : (y.id == id) = false := by rw [beq_eq_false_iff_ne]; exact hyi
        simp only [h1]
        exact ih
/-- what Look asks -/
theorem lookC_zero {t : Tb} {id seq : Int} (h : lookC t id seq = 0) : numOk id = true ∧ numOk seq = true ∧ (findS id t = none → t.length ≠ 16) ∧ (∀ s, findS id t = some s → s.high - 8 < seq ∧ ∀ i ∈ s.kept, i.seq ≠ seq) := by
  unfold lookC at h
  split at h
  · rename_i hn
    rw [Bool.and_eq_true] at hn
    refine ⟨hn.1, hn.2, fun hf => ?_, fun s hf => ?_⟩
    · rw [hf] at h; simp only at h
      split at h
      · cases h
      · assumption
    · rw [hf] at h; simp only at h
      split at h
      · cases h
      · split at h
        · cases h
        · rename_i h1 h2
          refine ⟨by omega, itAt_none.1 ?_⟩
          cases hh : itAt seq s.kept with
          | none => rfl
          | some i => rw [hh] at h2; simp at h2
  · cases h
theorem putT_ok {t : Tb} (h : OkT t) (id seq c n : Int) : OkT (putT t id seq c n).1 := by
  unfold putT
  split
  · exact h
  · rename_i h0
    have h0 : lookC t id seq = 0 := by omega
    obtain ⟨h1, h2, h3, h4⟩ := lookC_zero h0
    have hseq := numOk_iff.1 h2
    split
    · rename_i hv
      cases hf : findS id t with
      | some s =>
        simp only
        obtain ⟨hm, hid⟩ := findS_some hf
        obtain ⟨h5, h6⟩ := h4 s hf
        have hs := h.each s hm
        refine ⟨updS_rise h.rise, fun x hx => ?_, by rw [updS_len]; exact h.few⟩
        rcases updS_mem hx with rfl | ⟨hx, -⟩
        · refine ⟨hs.id, ?_, ?_, putK_ok hs.kept hseq.1 hv h6⟩
          · have := hs.low; show 1 ≤ max s.high seq; omega
          · have := hs.top; show max s.high seq ≤ _; omega
        · exact h.each x hx
      | none =>
        simp only
        have hn := findS_none hf
        refine ⟨insS_rise h.rise hn, fun x hx => ?_, by rw [insS_len]; have := h3 hf; have := h.few; omega⟩
        rcases insS_mem.1 hx with rfl | hx
        · refine ⟨h1, ?_, ?_, putK_ok (s := ⟨id, 0, []⟩) ⟨List.Pairwise.nil, by simp, by simp, by simp, by simp⟩ hseq.1 hv (by simp)⟩
          · show 1 ≤ max 0 seq; omega
          · show max 0 seq ≤ _; omega
        · exact h.each x hx
    · exact h
theorem OkT.nil : OkT [] := ⟨List.Pairwise.nil, by simp, by simp⟩
end Go.Proofs.Ytakebmbdcjbbgaa.Ss
