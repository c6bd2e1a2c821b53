/- Words for memory: what a call may have turned (Frm), whole blocks (Blk), bytes that lie still (SlB), maps of pointers. Over any program. -/
import Derived.Test.YtfpomllhkbbipaaGreatMem
import Derived.Maps.Own
import Derived.Maps.OwnSet
namespace Go.Proofs.YtfpomllhkbbipaaGreat.Mem
open Go Go.RowKit Go.Maps

/-- outside the blocks of F nothing that was there has turned -/
structure Frm (F : Nat → Prop) (w w' : World) : Prop where
  os : w'.os = w.os
  tape : w'.tape = w.tape
  output : w'.output = w.output
  size : w.heap.size ≤ w'.heap.size
  block : ∀ k, k < w.heap.size → ¬ F k → w'.heap[k]? = w.heap[k]?
section
variable {F G : Nat → Prop} {w w' w'' : World}
theorem Frm.refl (F : Nat → Prop) (w : World) : Frm F w w := ⟨rfl, rfl, rfl, Nat.le_refl _, fun _ _ _ => rfl⟩
theorem Frm.trans (h : Frm F w w') (k : Frm F w' w'') : Frm F w w'' :=
  ⟨k.os.trans h.os, k.tape.trans h.tape, k.output.trans h.output, Nat.le_trans h.size k.size, fun i hi hn => (k.block i (Nat.lt_of_lt_of_le hi h.size) hn).trans (h.block i hi hn)⟩
theorem Frm.mono (h : Frm F w w') (hF : ∀ k, k < w.heap.size → F k → G k) : Frm G w w' := ⟨h.os, h.tape, h.output, h.size, fun i hi hn => h.block i hi (fun hf => hn (hF i hi hf))⟩
theorem Frm.below (h : Below w.heap.size w w') : Frm F w w' := ⟨h.os, h.tape, h.output, h.size, fun i hi _ => h.block i hi⟩
theorem Frm.to_below {B : Nat} (h : Frm F w w') (hF : ∀ k, k < w.heap.size → k < B → ¬ F k) (hB : B ≤ w.heap.size) : Below B w w' := ⟨h.os, h.tape, h.output, h.size, fun i hi => h.block i (by omega) (hF i (by omega) hi)⟩
theorem Frm.of_below {B : Nat} (h : Below B w w') : Frm (fun g => B ≤ g) w w' := ⟨h.os, h.tape, h.output, h.size, fun i _ hn => h.block i (by omega)⟩
theorem Frm.drew (h : Frm F w w') : Frm F w w'.drew := ⟨h.os, h.tape, h.output, h.size, h.block⟩
theorem Frm.drewN (h : Frm F w w') (n : Nat) : Frm F w (w'.drewN n) := ⟨h.os, h.tape, h.output, h.size, h.block⟩
theorem Frm.alloc (h : Frm F w w') (o : Obj) : Frm F w (w'.alloc o) :=
  ⟨h.os, h.tape, h.output, by rw [World.size_alloc]; exact Nat.le_succ_of_le h.size, fun i hi hn => (Below.heap_alloc w' o i (Nat.lt_of_lt_of_le hi h.size)).trans (h.block i hi hn)⟩
theorem Frm.setCell (h : Frm F w w') {p : Addr} (hp : p.block < w.heap.size → F p.block) (u : Value) : Frm F w (w'.setCell p u) := by
  have hb : Below 0 w' (w'.setCell p u) := (Below.refl _ _).setCell (Nat.zero_le _) u
  exact ⟨hb.os.trans h.os, hb.tape.trans h.tape, hb.output.trans h.output, Nat.le_trans h.size hb.size, fun i hi hn => (Below.heap_setCell w' p u i (fun e => hn (by subst e; exact hp hi))).trans (h.block i hi hn)⟩
theorem Frm.grown {row : Option Nat} (h : Frm F w w') (hg : w'.grownBy w'' row) (hr : ∀ k, row = some k → k < w.heap.size → F k) : Frm F w w'' :=
  ⟨hg.os.trans h.os, hg.tape.trans h.tape, hg.output.trans h.output, Nat.le_trans h.size hg.size, fun i hi hn => (hg.block i (Nat.lt_of_lt_of_le hi h.size) (fun e => hn (hr i e.symm hi))).trans (h.block i hi hn)⟩
theorem Frm.then_below (h : Frm F w w') (k : Below w'.heap.size w' w'') : Frm F w w'' := h.trans (Frm.below k)
/-- what the second step turns may be new to the first -/
theorem Frm.then_up (h : Frm F w w') (k : Frm (fun g => F g ∨ w.heap.size ≤ g) w' w'') : Frm F w w'' :=
  ⟨k.os.trans h.os, k.tape.trans h.tape, k.output.trans h.output, Nat.le_trans h.size k.size, fun i hi hn =>
    (k.block i (Nat.lt_of_lt_of_le hi h.size) (fun a => a.elim hn (fun a => absurd hi (Nat.not_lt.2 a)))).trans (h.block i hi hn)⟩
end

/-- a block that is known whole -/
def Blk (w : World) (g : Nat) (t : TypeId) (cs : Array Value) : Prop := w.heap[g]? = some (.cells cs t (0, 0))
section
variable {F : Nat → Prop} {w w' : World} {g : Nat} {t : TypeId} {cs : Array Value}
theorem Blk.lt (h : Blk w g t cs) : g < w.heap.size := by
  rcases Nat.lt_or_ge g w.heap.size with hl | hl
  · exact hl
  · unfold Blk at h; rw [Array.getElem?_eq_none hl] at h; cases h
theorem Blk.cell (h : Blk w g t cs) (i : Nat) : w.cell? ⟨g, i, none⟩ = cs[i]? := by unfold Blk at h; simp [World.cell?, h]
theorem Blk.free (h : Blk w g t cs) (i : Nat) : w.frozen? ⟨g, i, none⟩ = false := by unfold Blk at h; simp [World.frozen?, h]
theorem Blk.new_ (w : World) (t : TypeId) (cs : Array Value) : Blk (w.alloc (.cells cs t)) w.heap.size t cs := heap_alloc_new w _
theorem Blk.frm (h : Blk w g t cs) (hf : Frm F w w') (hn : ¬ F g) : Blk w' g t cs := (hf.block g h.lt hn).trans h
theorem Blk.drew (h : Blk w g t cs) : Blk w.drew g t cs := h
theorem Blk.drewN (h : Blk w g t cs) (n : Nat) : Blk (w.drewN n) g t cs := h
theorem Blk.alloc (h : Blk w g t cs) (o : Obj) : Blk (w.alloc o) g t cs := (Below.heap_alloc w o g h.lt).trans h
theorem Blk.set_ (h : Blk w g t cs) (i : Nat) (u : Value) : Blk (w.setCell ⟨g, i, none⟩ u) g t (cs.setIfInBounds i u) := by
  unfold Blk at h ⊢
  simp [World.setCell, Array.getElem?_modify, h]
theorem Blk.far (h : Blk w g t cs) {p : Addr} (hp : g ≠ p.block) (u : Value) : Blk (w.setCell p u) g t cs := (Below.heap_setCell w p u g hp).trans h
theorem Blk.below {B : Nat} (h : Blk w g t cs) (hb : Below B w w') (hg : g < B) : Blk w' g t cs := (hb.block g hg).trans h
theorem Blk.ne_ {g' : Nat} {t' : TypeId} {cs' : Array Value} (h : Blk w g t cs) (h' : Blk w g' t' cs') (hne : t ≠ t') : g ≠ g' := by
  rintro rfl
  unfold Blk at h h'
  rw [h] at h'
  injection h' with h'
  injection h' with _ ht
  exact hne ht
end

/-- a slice of one-cell elements of type e that lies in a block of F -/
def SlB {α : Type} (f : α → Value) (e : TypeId) (F : Nat → Prop) (w : World) (A : Option Addr) (xs : List α) : Prop :=
  xs.length ≤ maxLen ∧ (0 < xs.length → ∃ b o cur fr, A = some ⟨b, o, none⟩ ∧ F b ∧ w.heap[b]? = some (.cells cur e fr) ∧ ∀ j (h : j < xs.length), cur[o + j]? = some (f xs[j]))
section
variable {α : Type} {f : α → Value} {e : TypeId} {F G : Nat → Prop} {w w' : World} {A : Option Addr} {xs : List α}
theorem SlB.nil : SlB f e F w A ([] : List α) := ⟨by unfold maxLen; simp, fun h => absurd h (by simp)⟩
theorem SlB.sl (h : SlB f e F w A xs) : Sl f w A xs := ⟨h.1, fun hn => by
  obtain ⟨b, o, cur, fr, e, _, hb, hc⟩ := h.2 hn
  exact ⟨b, o, e, fun j hj => by simp [World.cell?, hb, hc j hj]⟩⟩
theorem SlB.mono (h : SlB f e F w A xs) (hF : ∀ g, g < w.heap.size → F g → G g) : SlB f e G w A xs := ⟨h.1, fun hn => by
  obtain ⟨b, o, cur, fr, e, hf, hb, hc⟩ := h.2 hn
  refine ⟨b, o, cur, fr, e, hF b ?_ hf, hb, hc⟩
  rcases Nat.lt_or_ge b w.heap.size with hl | hl
  · exact hl
  · rw [Array.getElem?_eq_none hl] at hb; cases hb⟩
theorem SlB.keep (h : SlB f e F w A xs) (hk : ∀ g cur fr, F g → w.heap[g]? = some (.cells cur e fr) → w'.heap[g]? = w.heap[g]?) : SlB f e F w' A xs := ⟨h.1, fun hn => by
  obtain ⟨b, o, cur, fr, e, hf, hb, hc⟩ := h.2 hn
  exact ⟨b, o, cur, fr, e, hf, (hk b cur fr hf hb).trans hb, hc⟩⟩
theorem SlB.frm (h : SlB f e F w A xs) (hf : Frm G w w') (hd : ∀ g, F g → ¬ G g) : SlB f e F w' A xs := h.keep fun g _ _ hF hg => hf.block g (by
  rcases Nat.lt_or_ge g w.heap.size with hl | hl
  · exact hl
  · rw [Array.getElem?_eq_none hl] at hg; cases hg) (hd g hF)
theorem SlB.below (h : SlB f e F w A xs) (hb : Below w.heap.size w w') : SlB f e F w' A xs := h.frm (G := fun _ => False) (Frm.below hb) (fun _ _ h => h)
theorem SlB.drewN (h : SlB f e F w A xs) (n : Nat) : SlB f e F (w.drewN n) A xs := h
/-- a store into a block of another type leaves it -/
theorem SlB.far {t : TypeId} {cs : Array Value} {g : Nat} (h : SlB f e F w A xs) (hb : Blk w g t cs) (hne : e ≠ t) (i : Nat) (u : Value) : SlB f e F (w.setCell ⟨g, i, none⟩ u) A xs :=
  h.keep fun k cur fr _ hk => Below.heap_setCell w _ u k (by
    intro e2
    have e2 : k = g := e2
    subst e2
    unfold Blk at hb; rw [hk] at hb
    injection hb with hb; injection hb with _ h2
    exact hne h2)
theorem SlB.of_own {base : Nat} {n c : Nat} (h : Own f base e w (.slice A n c) xs) : n = xs.length ∧ SlB f e (fun g => base ≤ g) w A xs := by
  have h0 := Own.sl h
  refine ⟨h0.1, h0.2.1, fun hn => ?_⟩
  rcases h.2 with ⟨_, h2⟩ | ⟨g, cap, cur, hv, hb, hh, hnc, hcap, hsz, htake⟩
  · omega
  · injection hv with a b c
    subst a
    refine ⟨g, 0, cur, (0, 0), rfl, hb, hh, fun j hj => ?_⟩
    obtain ⟨b', o', e', hc⟩ := h0.2.2 hn
    injection e' with e'; injection e' with e1 e2
    subst e1; subst e2
    have := hc j hj
    simpa [World.cell?, hh] using this
/-- a piece of it -/
theorem SlB.piece (h : SlB f e F w A xs) {k m : Nat} (hk : k + m ≤ xs.length) {b o : Nat} (hA : A = some ⟨b, o, none⟩) : SlB f e F w (some ⟨b, o + k, none⟩) ((xs.drop k).take m) := by
  subst hA
  have hl : ((xs.drop k).take m).length = m := by simp; omega
  refine ⟨by rw [hl]; exact Nat.le_trans (by omega) h.1, fun hn => ?_⟩
  obtain ⟨b', o', cur, fr, e', hf, hb, hc⟩ := h.2 (by omega)
  injection e' with e'; injection e' with e1 e2
  subst e1; subst e2
  refine ⟨b, o + k, cur, fr, rfl, hf, hb, fun j hj => ?_⟩
  rw [Nat.add_assoc, hc (k + j) (by omega)]
  simp
end

/-! maps whose elements are pointers: an element reads as the number of its block -/
def ptrR : Value → Option (DataW Unit × List MemPlace)
  | .pointer none => some (.nil, [])
  | .pointer (some ⟨b, 0, none⟩) => some (.lit (.int .i64 b), [])
  | _ => none
theorem ptrR_mk (b : Nat) : ptrR (.pointer (some ⟨b, 0, none⟩)) = some (.lit (.int .i64 b), []) := rfl
theorem ptrR_inv {v : Value} {x : DataW Unit × List MemPlace} (h : ptrR v = some x) : (v = .pointer none ∧ x = (.nil, [])) ∨ ∃ b, v = .pointer (some ⟨b, 0, none⟩) ∧ x = (.lit (.int .i64 b), []) := by
  unfold ptrR at h
  split at h
  · injection h with h; exact .inl ⟨rfl, h.symm⟩
  · injection h with h; exact .inr ⟨_, rfl, h.symm⟩
  · cases h
theorem map_frm {P : Program} {k : TypeId} {R : Value → Option (DataW Unit × List MemPlace)} {b n : Nat} {D : DataW Unit} {F : Nat → Prop} {w w' : World} (h : w.ownsMap P k R b n D) (hf : Frm F w w') (hn : ¬ F b) : w'.ownsMap P k R b n D := by
  have hlt := h.lt
  obtain ⟨es, clock, hb, Ft, hs, hD⟩ := h
  exact ⟨es, clock, (hf.block b hlt hn).trans hb, Ft, hs, hD⟩
theorem map_blk_ne {P : Program} {k : TypeId} {R : Value → Option (DataW Unit × List MemPlace)} {b n : Nat} {D : DataW Unit} {w : World} {g : Nat} {t : TypeId} {cs : Array Value} (h : w.ownsMap P k R b n D) (hb : Blk w g t cs) : b ≠ g := by
  rintro rfl
  obtain ⟨es, clock, hb', _⟩ := h
  unfold Blk at hb; rw [hb] at hb'; cases hb'
theorem map_set {P : Program} {k : TypeId} {R : Value → Option (DataW Unit × List MemPlace)} {b n : Nat} {D : DataW Unit} {w : World} {g : Nat} {t : TypeId} {cs : Array Value} (h : w.ownsMap P k R b n D) (hb : Blk w g t cs) (i : Nat) (u : Value) :
    (w.setCell ⟨g, i, none⟩ u).ownsMap P k R b n D := by
  have hne := map_blk_ne h hb
  obtain ⟨es, clock, hb', Ft, hs, hD⟩ := h
  exact ⟨es, clock, (Below.heap_setCell w _ u b hne).trans hb', Ft, hs, hD⟩
end Go.Proofs.YtfpomllhkbbipaaGreat.Mem
