/- Slices of structs: k cells an element; own rows of them. Over any program. -/
import Derived.Test.YtfpomllhkbbipaaGreatOwn
namespace Go.Proofs.YtfpomllhkbbipaaGreat.Mem
open Go Go.RowKit Go.Maps Go.Lib

theorem flatMap_get {α β : Type} {f : α → List β} {k : Nat} (hf : ∀ x, (f x).length = k) (xs : List α) {j i : Nat} (hj : j < xs.length) (hi : i < k) : (xs.flatMap f)[j * k + i]? = (f xs[j])[i]? := by
  induction xs generalizing j with
  | nil => simp at hj
  | cons x r ih =>
    rw [List.flatMap_cons]
    cases j with
    | zero => rw [List.getElem?_append_left (by rw [hf]; omega)]; simp
    | succ j =>
      rw [List.getElem?_append_right (by rw [hf, Nat.succ_mul]; omega), hf, show (j + 1) * k + i - k = j * k + i by rw [Nat.succ_mul]; omega]
      rw [ih (by simpa using hj)]
      simp
theorem flatMap_len {α β : Type} {f : α → List β} {k : Nat} (hf : ∀ x, (f x).length = k) (xs : List α) : (xs.flatMap f).length = xs.length * k := by
  induction xs with
  | nil => simp
  | cons x r ih => rw [List.flatMap_cons, List.length_append, ih, hf, List.length_cons, Nat.succ_mul]; omega
/-- a slice of elements of k cells that lies in a block of F -/
def SlK {α : Type} (k : Nat) (f : α → List Value) (e : TypeId) (F : Nat → Prop) (w : World) (A : Option Addr) (xs : List α) : Prop :=
  xs.length ≤ maxLen ∧ (0 < xs.length → ∃ b o cur fr, A = some ⟨b, o, none⟩ ∧ F b ∧ w.heap[b]? = some (.cells cur e fr) ∧ ∀ j (h : j < xs.length) i, i < k → cur[o + j * k + i]? = (f xs[j])[i]?)
section
variable {α : Type} {k : Nat} {f : α → List Value} {e : TypeId} {F G : Nat → Prop} {w w' : World} {A : Option Addr} {xs : List α}
theorem SlK.nil : SlK k f e F w A ([] : List α) := ⟨by unfold maxLen; simp, fun h => absurd h (by simp)⟩
theorem SlK.len (h : SlK k f e F w A xs) : xs.length ≤ 9223372036854775807 := h.1
theorem lt_of_block {w : World} {g : Nat} {o : Obj} (h : w.heap[g]? = some o) : g < w.heap.size := by
  rcases Nat.lt_or_ge g w.heap.size with hl | hl
  · exact hl
  · rw [Array.getElem?_eq_none hl] at h; cases h
theorem SlK.at (h : SlK k f e F w A xs) {j : Nat} (hj : j < xs.length) : ∃ b o, A = some ⟨b, o, none⟩ ∧ F b ∧ b < w.heap.size ∧ ∀ i, i < k → w.cell? ⟨b, o + j * k + i, none⟩ = (f xs[j])[i]? := by
  obtain ⟨b, o, cur, fr, e1, hF, hb, hc⟩ := h.2 (by omega)
  exact ⟨b, o, e1, hF, lt_of_block hb, fun i hi => by rw [← hc j hj i hi]; simp [World.cell?, hb]⟩
theorem SlK.mono (h : SlK k f e F w A xs) (hF : ∀ g, g < w.heap.size → F g → G g) : SlK k f e G w A xs := ⟨h.1, fun hn => by
  obtain ⟨b, o, cur, fr, e1, hf, hb, hc⟩ := h.2 hn
  exact ⟨b, o, cur, fr, e1, hF b (lt_of_block hb) hf, hb, hc⟩⟩
theorem SlK.keep (h : SlK k f e F w A xs) (hk : ∀ g cur fr, F g → w.heap[g]? = some (.cells cur e fr) → w'.heap[g]? = w.heap[g]?) : SlK k f e F w' A xs := ⟨h.1, fun hn => by
  obtain ⟨b, o, cur, fr, e1, hf, hb, hc⟩ := h.2 hn
  exact ⟨b, o, cur, fr, e1, hf, (hk b cur fr hf hb).trans hb, hc⟩⟩
theorem SlK.frm (h : SlK k f e F w A xs) (hf : Frm G w w') (hd : ∀ g, F g → ¬ G g) : SlK k f e F w' A xs := h.keep fun g _ _ hF hg => hf.block g (lt_of_block hg) (hd g hF)
theorem SlK.below (h : SlK k f e F w A xs) (hb : Below w.heap.size w w') : SlK k f e F w' A xs := h.frm (G := fun _ => False) (Frm.below hb) (fun _ _ h => h)
theorem SlK.drewN (h : SlK k f e F w A xs) (n : Nat) : SlK k f e F (w.drewN n) A xs := h
/-- a store into a block of another type leaves it -/
theorem SlK.far {t : TypeId} {cs : Array Value} {g : Nat} (h : SlK k f e F w A xs) (hb : Blk w g t cs) (hne : e ≠ t ∨ ¬ F g) (i : Nat) (u : Value) : SlK k f e F (w.setCell ⟨g, i, none⟩ u) A xs :=
  h.keep fun q cur fr hF hk => Below.heap_setCell w _ u q (by
    intro e2
    have e2 : q = g := e2
    subst e2
    rcases hne with hne | hne
    · unfold Blk at hb; rw [hk] at hb
      injection hb with hb; injection hb with _ h2
      exact hne h2
    · exact hne hF)
theorem SlK.pre {m : Nat} (h : SlK k f e F w A xs) : SlK k f e F w A (xs.take m) :=
  ⟨by have := h.1; rw [List.length_take]; omega, fun hn => by
    rw [List.length_take] at hn
    obtain ⟨b, o, cur, fr, hA, hF, hb, hc⟩ := h.2 (by omega)
    refine ⟨b, o, cur, fr, hA, hF, hb, fun j hj i hi => ?_⟩
    rw [List.length_take] at hj
    rw [List.getElem_take]; exact hc j (by omega) i hi⟩
end
def SliceTK (P : Program) (t e : TypeId) (z : Value) (k bytes : Nat) : Prop :=
  P.underlying t = some (.slice e) ∧ z.cells.size = k ∧ 0 < k ∧ ∃ i, P.info? e = some i ∧ i.zero = some z ∧ i.size = k ∧ i.bytes = bytes
theorem sliceTK_mk {P : Program} {t e : TypeId} {z : Value} {k bytes : Nat} (ht : P.underlying t = some (.slice e)) (hz : z.cells.size = k) (hk : 0 < k)
    (h : (P.info? e).map (fun i => (i.zero, i.size, i.bytes)) = some (some z, k, bytes)) : SliceTK P t e z k bytes := ⟨ht, hz, hk, info_parts h⟩
/-- the call's own row of structs -/
def OwnK {α : Type} (k : Nat) (f : α → List Value) (base : Nat) (e : TypeId) (w : World) (v : Value) (xs : List α) : Prop := w.ownsRow base e k v xs.length (xs.flatMap f)
section
variable {α : Type} {k : Nat} {f : α → List Value} {e : TypeId} {w w' : World} {v : Value} {xs : List α} {base : Nat}
theorem OwnK.nil : OwnK k f base e w (.slice none 0 0) ([] : List α) := World.ownsRow_nil w base e k
theorem OwnK.drewN (h : OwnK k f base e w v xs) (n : Nat) : OwnK k f base e (w.drewN n) v xs := h
theorem OwnK.alloc (h : OwnK k f base e w v xs) (o : Obj) : OwnK k f base e (w.alloc o) v xs := World.ownsRow.alloc h o
theorem OwnK.mk_ (hb : base ≤ w.heap.size) : OwnK k f base e (w.alloc (.cells #[] e)) (.slice (some ⟨w.heap.size, 0, none⟩) 0 0) ([] : List α) := by
  unfold OwnK
  refine ⟨by simp, .inr ⟨w.heap.size, 0, #[], rfl, hb, heap_alloc_new w _, Nat.le_refl _, Nat.zero_le _, by simp, by simp⟩⟩
theorem OwnK.lt (h : OwnK k f base e w v xs) : ∀ g, v.ownBlock = some g → base ≤ g ∧ g < w.heap.size := World.ownsRow.lt h
theorem OwnK.form (h : OwnK k f base e w v xs) : ∃ A c, v = .slice A xs.length c := by
  rcases h.2 with ⟨h1, h2⟩ | ⟨g, cap, cur, hv, _⟩
  · exact ⟨none, 0, by rw [h1, h2]⟩
  · exact ⟨_, _, hv⟩
theorem OwnK.cap {A : Option Addr} {n c : Nat} (h : OwnK k f base e w (.slice A n c) xs) : n ≤ c ∧ c ≤ maxLen := by
  rcases h.2 with ⟨h1, h2⟩ | ⟨g, cap, cur, hv, hb, hh, hnc, hcap, _⟩
  · injection h1 with a b c; subst b; subst c; exact ⟨Nat.le_refl _, Nat.zero_le _⟩
  · injection hv with a b c; subst b; subst c; exact ⟨hnc, hcap⟩
theorem OwnK.slK (hf : ∀ x, (f x).length = k) {A : Option Addr} {n c : Nat} (h : OwnK k f base e w (.slice A n c) xs) : n = xs.length ∧ SlK k f e (fun g => base ≤ g) w A xs := by
  rcases h.2 with ⟨h1, h2⟩ | ⟨g, cap, cur, hv, hb, hh, hnc, hcap, hsz, htake⟩
  · injection h1 with a b c
    refine ⟨by omega, ?_⟩
    have : xs = [] := List.eq_nil_of_length_eq_zero h2
    subst this; exact SlK.nil
  · injection hv with a b c
    subst a; subst b; subst c
    refine ⟨rfl, Nat.le_trans hnc hcap, fun hn => ⟨g, 0, cur, (0, 0), rfl, hb, hh, fun j hj i hi => ?_⟩⟩
    have h1 := flatMap_get hf xs hj hi
    rw [← htake, List.getElem?_take] at h1
    rw [if_pos] at h1
    · rw [Nat.zero_add]; simpa using h1
    · have : (j + 1) * k ≤ xs.length * k := Nat.mul_le_mul_right k hj
      rw [Nat.succ_mul] at this; omega
theorem OwnK.below (ho : OwnK k f base e w v xs) (hb : Below w.heap.size w w') : OwnK k f base e w' v xs := by
  obtain ⟨h1, h2⟩ := ho
  refine ⟨h1, ?_⟩
  rcases h2 with h2 | ⟨g, cap, cur, a, b, hh, c⟩
  · exact .inl h2
  · exact .inr ⟨g, cap, cur, a, b, (hb.block g (lt_of_block hh)).trans hh, c⟩
theorem OwnK.below_ (ho : OwnK k f base e w v xs) (hb : base ≤ w.heap.size) (hg : w.grownBy w' v.ownBlock) : Below base w w' :=
  (Below.refl _ _).grown hg hb (fun k hk => (ho.lt k hk).1)
theorem OwnK.base_ {base' : Nat} (h : OwnK k f base e w v xs) (hb : base' ≤ base) : OwnK k f base' e w v xs := by
  obtain ⟨h1, h2⟩ := h
  refine ⟨h1, ?_⟩
  rcases h2 with h2 | ⟨g, cap, cur, a, b, c⟩
  · exact .inl h2
  · exact .inr ⟨g, cap, cur, a, Nat.le_trans hb b, c⟩
end
/-- append of one struct that has just been laid into a block of its own -/
theorem wpList_appendK1 {P : Program} {α : Type} {k : Nat} {f : α → List Value} {ops : Array Oper} {rest : List Oper} {o : Oper} {a : Act} {Q : Exit → Act → World → Prop} {w0 : World} (hgd : o.guard = none) (s x : Operand) (t : TypeId)
    (ho : o.op = .call { callee := .builtin .append, args := #[s, x], argTypes := #[t, t] })
    {base : Nat} {e : TypeId} {z : Value} {bytes : Nat} (ht : SliceTK P t e z k bytes)
    {v : Value} {xs : List α} (u : α) (hk : (f u).length = k) (h1 : ∀ y ∈ f u, y.oneCell' = true) (hs : a.eval s = v) (hown : OwnK k f base e w0 v xs) {cs : Array Value} (hcs : cs = (f u).toArray)
    {g c : Nat} (hx : a.eval x = .slice (some ⟨g, 0, none⟩) 1 c) (hg : g = w0.heap.size)
    (h63 : xs.length + 1 ≤ maxLen) (hbytes : (xs.length + 1) * bytes ≤ 140737488355328) (hbase : base ≤ w0.heap.size)
    (h : ∀ v' w', OwnK k f base e w' v' (xs ++ [u]) → (w0.alloc (.cells cs e)).grownBy w' v.ownBlock → wpList P ops Q rest (a.put o.dst v') w') : wpList P ops Q (o :: rest) a (w0.alloc (.cells cs e)) := by
  obtain ⟨ht, hz1, hk0, i, hi, hz, hsz, hby⟩ := ht
  subst hg; subst hcs
  have hcell : ∀ j y, (f u)[j]? = some y → (w0.alloc (.cells (f u).toArray e)).cell? ((⟨w0.heap.size, 0, none⟩ : Addr).add j) = some y := by
    intro j y hy
    have e2 : (⟨w0.heap.size, 0, none⟩ : Addr).add j = ⟨w0.heap.size, j, none⟩ := by
      unfold Addr.add; split
      · rename_i h0; subst h0; rfl
      · simp
    rw [e2]
    have := heap_alloc_new w0 (.cells (f u).toArray e)
    unfold World.cell?
    simp only [this]
    simpa using hy
  refine wpList_append_own (P := P) _ hgd s x t ho base e i z k bytes ht hi hz hsz hby hz1 hk0 v xs.length (xs.flatMap f) hs (hown.alloc _) ⟨w0.heap.size, 0, none⟩ 1 c (f u) hx (by rw [hk]; omega) hcell h1 h63 hbytes ?_ ?_
  · rw [World.size_alloc]; omega
  · intro v' w' ho' hgr _
    refine h v' w' ?_ hgr
    unfold OwnK; rw [List.length_append, List.flatMap_append]; simpa using ho'
end Go.Proofs.YtfpomllhkbbipaaGreat.Mem
