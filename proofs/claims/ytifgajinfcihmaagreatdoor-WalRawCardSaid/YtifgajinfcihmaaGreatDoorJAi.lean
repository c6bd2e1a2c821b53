/- Slices of structs that may begin inside their block and may have room: rows. Over any program. -/
import Derived.ArgAppend
import Derived.Lib.AppendZeros
import Derived.Test.YtifgajinfcihmaaGreatDoorJAh
namespace Go.Proofs.YtifgajinfcihmaaGreatDoor.Mem
open Go Go.RowKit Go.Proofs.YtifgajinfcihmaaGreatDoor.Pk
def Rw {α : Type} (k : Nat) (f : α → List Value) (e : TypeId) (F : Nat → Prop) (w : World) (A : Option Addr) (c : Nat) (xs : List α) : Prop :=
 xs.length ≤ c ∧ c ≤ maxLen ∧ ((A = none ∧ c = 0) ∨ ∃ b o cur, A = some ⟨b, o, none⟩ ∧ F b ∧ Blk w b e cur ∧ o + c * k ≤ cur.size ∧ ∀ j (h : j < xs.length) i, i < k → cur[o + j * k + i]? = (f xs[j])[i]?)
def partK (A : Option Addr) (c l k : Nat) : Option Addr := if c = l then A else A.map (·.add (l * k))
theorem spl_get (cur : List Value) (o : Nat) (vs : List Value) (h : o + vs.length ≤ cur.length) (i : Nat) : (spl cur o vs)[i]? = if i < o then cur[i]? else if i < o + vs.length then vs[i - o]? else cur[i]? := by
 unfold spl
 by_cases h1 : i < o
 ·rw [if_pos h1, List.append_assoc, List.getElem?_append_left (by rw [List.length_take]; omega), List.getElem?_take, if_pos h1]
 ·rw [if_neg h1]
  by_cases h2 : i < o + vs.length
  ·rw [if_pos h2, List.append_assoc, List.getElem?_append_right (by rw [List.length_take]; omega), List.length_take, Nat.min_eq_left (by omega), List.getElem?_append_left (by omega)]
  ·rw [if_neg h2, List.getElem?_append_right (by rw [List.length_append, List.length_take]; omega), List.length_append, List.length_take, Nat.min_eq_left (by omega), List.getElem?_drop]
   congr 1; omega
theorem cutRK {P : Program} {t e : TypeId} {k : Nat} (hu : P.underlying t = some (.slice e)) (hs : ∀ w, (sizeOf e).run P w = .ok k w) (A : Option Addr) (len cap l : Nat) (h1 : l ≤ len) (w : World) :
 (Instr.slice t (.slice A len cap) (some (.int .i64 (l : Int))) none none).run P w = .ok (.slice (partK A cap l k) (len - l) (cap - l)) w := by
 have he : P.elem t = e := by simp [Program.elem, hu]
 have hu' : P.underlying t = some (.slice (P.elem t)) := by rw [he]; exact hu
 rw [run_slice_l w t A len cap hu' .i64 l (by omega) (by omega), he, hs]
 show Result.ok (sliced A (l : Int).toNat len cap k) w = _
 simp [sliced, partK]
section
variable {α : Type} {k : Nat} {f : α → List Value} {e : TypeId} {F G : Nat → Prop} {w w' : World} {A : Option Addr} {c : Nat} {xs : List α}
theorem Rw.nil : Rw k f e F w none 0 ([] : List α) := ⟨Nat.le_refl _, Nat.zero_le _, .inl ⟨rfl, rfl⟩⟩
theorem Rw.keep (h : Rw k f e F w A c xs) (hk : ∀ g cur, F g → Blk w g e cur → Blk w' g e cur) : Rw k f e F w' A c xs :=
 ⟨h.1, h.2.1, h.2.2.imp id fun ⟨b, o, cur, a1, a2, a3, a4⟩ => ⟨b, o, cur, a1, a2, hk b cur a2 a3, a4⟩⟩
theorem Rw.frm (h : Rw k f e F w A c xs) (hf : Frm G w w') (hd : ∀ g, F g → ¬ G g) : Rw k f e F w' A c xs := h.keep fun g _ hF hb => hb.frm hf (hd g hF)
theorem Rw.below (h : Rw k f e F w A c xs) (hb : Below w.heap.size w w') : Rw k f e F w' A c xs := h.frm (G := fun _ => False) (Frm.below hb) (fun _ _ h => h)
theorem Rw.drewN (h : Rw k f e F w A c xs) (n : Nat) : Rw k f e F (w.drewN n) A c xs := h
theorem Rw.mono (h : Rw k f e F w A c xs) (hF : ∀ g, g < w.heap.size → F g → G g) : Rw k f e G w A c xs :=
 ⟨h.1, h.2.1, h.2.2.imp id fun ⟨b, o, cur, a1, a2, a3, a4⟩ => ⟨b, o, cur, a1, hF b a3.lt a2, a3, a4⟩⟩
theorem Rw.far {t : TypeId} {cs : Array Value} {g : Nat} (h : Rw k f e F w A c xs) (hb : Blk w g t cs) (hne : e ≠ t ∨ ¬ F g) (i : Nat) (u : Value) : Rw k f e F (w.setCell ⟨g, i, none⟩ u) A c xs :=
 h.keep fun q cur hF hq => hq.far (p := ⟨g, i, none⟩) (fun e2 => by
  have e2 : q = g := e2
  subst e2
  rcases hne with hne | hne
  ·unfold Blk at hb hq; rw [hq] at hb
   injection hb with hb; injection hb with _ h2
   exact hne h2
  ·exact hne hF) u
theorem Rw.at (h : Rw k f e F w A c xs) {j : Nat} (hj : j < xs.length) : ∃ b o, A = some ⟨b, o, none⟩ ∧ F b ∧ b < w.heap.size ∧ (∀ i, w.frozen? ⟨b, i, none⟩ = false) ∧ ∀ i, i < k → w.cell? ⟨b, o + j * k + i, none⟩ = (f xs[j])[i]? := by
 have h1 := h.1
 rcases h.2.2 with ⟨_, h0⟩ | ⟨b, o, cur, a1, a2, a3, a4, a5⟩
 ·omega
 ·exact ⟨b, o, a1, a2, a3.lt, a3.free, fun i hi => by rw [a3.cell]; exact a5 j hj i hi⟩
theorem Rw.len0 (h : Rw k f e F w A c xs) : xs.length ≤ maxLen := Nat.le_trans h.1 h.2.1
theorem Rw.cut (h : Rw k f e F w A c xs) (l : Nat) (hl : l ≤ xs.length) : Rw k f e F w (partK A c l k) (c - l) (xs.drop l) := by
 have h1 := h.1
 have h2 := h.2.1
 refine ⟨by rw [List.length_drop]; omega, by omega, ?_⟩
 unfold partK
 rcases h.2.2 with ⟨hA, h0⟩ | ⟨b, o, cur, a1, a2, a3, a4, a5⟩
 ·left; refine ⟨?_, by omega⟩
  subst hA; split <;> rfl
 ·right
  by_cases hc : c = l
  ·rw [if_pos hc]
   refine ⟨b, o, cur, a1, a2, a3, ?_, fun j hj => by rw [List.length_drop] at hj; omega⟩
   rw [show c - l = 0 by omega, Nat.zero_mul]; omega
  ·rw [if_neg hc]
   refine ⟨b, o + l * k, cur, ?_, a2, a3, ?_, fun j hj i hi => ?_⟩
   ·rw [a1]
    show some (Addr.add ⟨b, o, none⟩ (l * k)) = _
    unfold Addr.add
    split
    ·rename_i h0; rw [h0]; rfl
    ·rfl
   ·have : l * k + (c - l) * k = c * k := by rw [← Nat.add_mul]; congr 1; omega
    omega
   ·rw [List.length_drop] at hj
    have := a5 (l + j) (by omega) i hi
    rw [List.getElem_drop, ← this, Nat.add_mul]
    congr 1; omega
theorem Rw.pre (h : Rw k f e F w A c xs) (m : Nat) : Rw k f e F w A c (xs.take m) := by
 have h1 := h.1
 refine ⟨by rw [List.length_take]; omega, h.2.1, h.2.2.imp id fun ⟨b, o, cur, a1, a2, a3, a4, a5⟩ => ⟨b, o, cur, a1, a2, a3, a4, fun j hj i hi => ?_⟩⟩
 rw [List.length_take] at hj
 rw [List.getElem_take]; exact a5 j (by omega) i hi
theorem Rw.set_ {b o j i : Nat} (h : Rw k f e F w (some ⟨b, o, none⟩) c xs) (hf : ∀ x, (f x).length = k) (hj : j < xs.length) (hi : i < k) (u : Value) {y : α} (hy : f y = (f xs[j]).set i u) : Rw k f e F (w.setCell ⟨b, o + j * k + i, none⟩ u) (some ⟨b, o, none⟩) c (xs.set j y) := by
 have h1 := h.1
 refine ⟨by rw [List.length_set]; exact h1, h.2.1, .inr ?_⟩
 rcases h.2.2 with ⟨hA, _⟩ | ⟨b', o', cur, a1, a2, a3, a4, a5⟩
 ·cases hA
 ·injection a1 with a1; injection a1 with e1 e2
  subst e1; subst e2
  refine ⟨b, o, _, rfl, a2, a3.set_ (o + j * k + i) u, by rw [Array.size_setIfInBounds]; exact a4, fun j' hj' i' hi' => ?_⟩
  rw [List.length_set] at hj'
  have hlt : o + j * k + i < cur.size := by
   have : (j + 1) * k ≤ c * k := Nat.mul_le_mul_right _ (by omega)
   rw [Nat.add_mul] at this; omega
  rw [Array.getElem?_setIfInBounds]
  by_cases hjj : j' = j
  ·subst hjj
   rw [List.getElem_set_self, hy]
   by_cases hii : i' = i
   ·subst hii
    rw [if_pos rfl, if_pos hlt, List.getElem?_set_self (by rw [hf]; exact hi)]
   ·rw [if_neg (by omega), List.getElem?_set_ne (by omega)]
    exact a5 j' hj i' hi'
  ·have hne : ¬ (o + j * k + i = o + j' * k + i') := by
    intro h9
    rcases Nat.lt_or_gt_of_ne hjj with h8 | h8
    ·have : (j' + 1) * k ≤ j * k := Nat.mul_le_mul_right _ h8
     rw [Nat.add_mul] at this; omega
    ·have : (j + 1) * k ≤ j' * k := Nat.mul_le_mul_right _ h8
     rw [Nat.add_mul] at this; omega
   rw [if_neg hne, List.getElem_set_ne (by omega)]
   exact a5 j' hj' i' hi'
theorem Rw.of_ownK (hf : ∀ x, (f x).length = k) {base : Nat} {n : Nat} (h : OwnK k f base e w (.slice A n c) xs) : n = xs.length ∧ Rw k f e (fun g => base ≤ g) w A c xs := by
 rcases h.2 with ⟨h1, h2⟩ | ⟨g, cap, cur, hv, hb, hh, hnc, hcap, hsz, htake⟩
 ·injection h1 with e1 e2 e3
  subst e1; subst e2; subst e3
  obtain rfl := List.eq_nil_of_length_eq_zero h2
  exact ⟨rfl, Rw.nil⟩
 ·injection hv with e1 e2 e3
  subst e1; subst e2; subst e3
  refine ⟨rfl, hnc, hcap, .inr ⟨g, 0, cur, rfl, hb, hh, by omega, fun j hj i hi => ?_⟩⟩
  have hx := flatMap_get hf xs hj hi
  rw [← htake, List.getElem?_take] at hx
  have : (j + 1) * k ≤ xs.length * k := Nat.mul_le_mul_right _ hj
  rw [Nat.add_mul] at this
  rw [if_pos (by omega)] at hx
  rw [Nat.zero_add, ← hx]; simp
def atA (A : Option Addr) (g : Nat) : Prop := ∃ o q, A = some ⟨g, o, q⟩
theorem run_appendR1 {P : Program} {w0 : World} {t ty : TypeId} {z : Value} {bytes : Nat} (ht : SliceTK P t e z k bytes) (hf : ∀ x, (f x).length = k) (u : α) (h1 : ∀ y ∈ f u, y.oneCell' = true)
 (hrow : Rw k f e F w0 A c xs) (cc : Nat) (h63 : xs.length + 1 ≤ maxLen) (hbytes : (xs.length + 1) * bytes ≤ 140737488355328) :
 ∃ A' c' w', (Builtin.append_ #[t, t] ty #[.slice A xs.length c, .slice (some ⟨w0.heap.size, 0, none⟩) 1 cc]).run P (w0.alloc (.cells (f u).toArray e)) = .ok (.slice A' (xs.length + 1) c') w' ∧
   Rw k f e (fun g => (F g ∧ atA A g) ∨ w0.heap.size < g) w' A' c' (xs ++ [u]) ∧ Frm (fun g => F g ∧ atA A g) w0 w' := by
 obtain ⟨ht, hz1, hk0, i, hi, hz, hsz, hby⟩ := ht
 have hcell : ∀ j y, (f u)[j]? = some y → (w0.alloc (.cells (f u).toArray e)).cell? ((⟨w0.heap.size, 0, none⟩ : Addr).add j) = some y := by
  intro j y hy
  have e2 : (⟨w0.heap.size, 0, none⟩ : Addr).add j = ⟨w0.heap.size, j, none⟩ := by
   unfold Addr.add; split
   ·rename_i h0; subst h0; rfl
   ·simp
  rw [e2]
  have := heap_alloc_new w0 (.cells (f u).toArray e)
  unfold World.cell?
  simp only [this]
  simpa using hy
 have hfr1 : Frm (fun g => F g ∧ atA A g) w0 (w0.alloc (.cells (f u).toArray e)) := (Frm.refl _ _).alloc _
 have hgrown : ∀ v' w', w'.ownsRow (w0.heap.size + 1) e k v' (xs.length + 1) (xs.flatMap f ++ f u) → (w0.alloc (.cells (f u).toArray e)).grownBy w' none → ∃ A' c', v' = .slice A' (xs.length + 1) c' ∧
  Rw k f e (fun g => (F g ∧ atA A g) ∨ w0.heap.size < g) w' A' c' (xs ++ [u]) ∧ Frm (fun g => F g ∧ atA A g) w0 w' := by
  intro v' w' hown hgr
  have hok : OwnK k f (w0.heap.size + 1) e w' v' (xs ++ [u]) := by unfold OwnK; rw [List.length_append, List.flatMap_append]; simpa using hown
  obtain ⟨A', c', rfl⟩ := hok.form
  obtain ⟨-, hr⟩ := Rw.of_ownK hf hok
  exact ⟨A', c', by rw [List.length_append, List.length_singleton], hr.mono fun g _ hg => .inr (by omega), hfr1.grown hgr (fun _ e => by cases e)⟩
 rcases hrow.2.2 with ⟨hA, h0⟩ | ⟨b, off, cur, hA, hF, hb, hsize, hc⟩
 ·have hx0 : xs = [] := List.eq_nil_of_length_eq_zero (by have := hrow.1; omega)
  subst hx0; subst hA; subst h0
  obtain ⟨v', w', hr, h2, h3, -⟩ := run_append_own (P := P) (w0.alloc (.cells (f u).toArray e)) (w0.heap.size + 1) t ty e i z k bytes ht hi hz hsz hby hz1 hk0 (.slice none 0 0) 0 [] (World.ownsRow_nil _ _ _ _) ⟨w0.heap.size, 0, none⟩ 1 cc (f u) (by rw [hf]; omega) hcell h1 h63 hbytes (by rw [World.size_alloc]; exact Nat.le_refl _)
  obtain ⟨A', c', rfl, h4, h5⟩ := hgrown v' w' h2 h3
  exact ⟨A', c', w', hr, h4, h5⟩
 ·subst hA
  have hb1 : Blk (w0.alloc (.cells (f u).toArray e)) b e cur := hb.alloc _
  have holds : ∀ j y, (xs.flatMap f)[j]? = some y → (w0.alloc (.cells (f u).toArray e)).cell? ((⟨b, off, none⟩ : Addr).add j) = some y := by
   intro j y hy
   have hjl : j < xs.length * k := by
    rw [← flatMap_len hf xs]
    rcases Nat.lt_or_ge j (xs.flatMap f).length with h9 | h9
    ·exact h9
    ·rw [List.getElem?_eq_none h9] at hy; cases hy
   have hq : j / k < xs.length := Nat.div_lt_of_lt_mul (by rw [Nat.mul_comm]; exact hjl)
   have hm : j % k < k := Nat.mod_lt _ hk0
   have hjd : j = j / k * k + j % k := by rw [Nat.mul_comm]; exact (Nat.div_add_mod j k).symm
   have h3 := flatMap_get hf xs hq hm
   rw [← hjd, hy] at h3
   rw [Addr.add_lit, hb1.cell, h3, ← hc _ hq _ hm]
   congr 1; omega
  by_cases hroom : xs.length + 1 ≤ c
  ·have hm : (xs.length + 1) * k ≤ c * k := Nat.mul_le_mul_right _ hroom
   rw [Nat.add_mul] at hm
   have hfl : (f u).length = k := hf u
   have hcl : cur.toList.length = cur.size := Array.length_toList
   have hr := run_append_room_cells (P := P) (w0.alloc (.cells (f u).toArray e)) t ty e i ht hi b off xs.length c ⟨w0.heap.size, 0, none⟩ 1 cc (f u) (by rw [hf, hsz]; omega) hcell h1 hroom
    (fun j hj => by rw [hb1.cell, Array.getElem?_eq_getElem (by rw [hsz]; omega)]; rfl) (fun j hj => hb1.free _)
   rw [hsz] at hr
   have hblk := Blk.setCells_ (f u) hb1 (o := off + xs.length * k) (by omega)
   refine ⟨_, _, _, hr, ⟨by rw [List.length_append]; exact hroom, hrow.2.1, .inr ⟨b, off, _, rfl, .inl ⟨hF, off, none, rfl⟩, hblk, ?_, ?_⟩⟩, ?_⟩
   ·rw [List.size_toArray, spl_len (cur := cur.toList) (o := off + xs.length * k) (vs := f u) (by rw [hcl]; omega), hcl]; exact hsize
   ·intro j hj i' hi'
    have hj2 : j < xs.length + 1 := by rw [List.length_append, List.length_singleton] at hj; exact hj
    rw [List.getElem?_toArray, spl_get cur.toList (off + xs.length * k) (f u) (by rw [hcl]; omega)]
    by_cases hjx : j < xs.length
    ·have : (j + 1) * k ≤ xs.length * k := Nat.mul_le_mul_right _ hjx
     rw [Nat.add_mul] at this
     rw [if_pos (by omega), List.getElem_append_left hjx, ← hc j hjx i' hi']
     simp
    ·have : j = xs.length := by omega
     subst this
     rw [if_neg (by omega), if_pos (by omega), List.getElem_append_right (Nat.le_refl _)]
     simp only [Nat.sub_self, List.getElem_cons_zero]
     congr 1; omega
   ·have hg2 := grown_setCells (g := b) (f u) (w0.alloc (.cells (f u).toArray e)) (off + xs.length * k) (World.grownBy.refl _ _)
    exact hfr1.grown hg2 (fun q hq _ => by injection hq with hq; subst hq; exact ⟨hF, off, none, rfl⟩)
  ·obtain ⟨v', w', hr, h2, h3⟩ := run_append_arg_grows (P := P) (w0.alloc (.cells (f u).toArray e)) t ty e i z k bytes ht hi hz hsz hby hz1 hk0 ⟨b, off, none⟩ xs.length c (xs.flatMap f) (flatMap_len hf xs) holds ⟨w0.heap.size, 0, none⟩ 1 cc (f u) (by rw [hf]; omega) hcell (by omega) h63 hbytes
   rw [World.size_alloc] at h2
   obtain ⟨A', c', rfl, h4, h5⟩ := hgrown v' w' h2 h3
   exact ⟨A', c', w', hr, h4, h5⟩
theorem wpList_appendR1 {P : Program} {ops : Array Oper} {rest : List Oper} {o : Oper} {a : Act} {Q : Exit → Act → World → Prop} {w0 : World} (hgd : o.guard = none) (s x : Operand) (t : TypeId)
 (ho : o.op = .call { callee := .builtin .append, args := #[s, x], argTypes := #[t, t] })
 {z : Value} {bytes : Nat} (ht : SliceTK P t e z k bytes) (hf : ∀ x, (f x).length = k) (u : α) (h1 : ∀ y ∈ f u, y.oneCell' = true) {cs : Array Value} (hcs : cs = (f u).toArray)
 (hs : a.eval s = .slice A xs.length c) (hrow : Rw k f e F w0 A c xs) {g cc : Nat} (hx : a.eval x = .slice (some ⟨g, 0, none⟩) 1 cc) (hg : g = w0.heap.size)
 (h63 : xs.length + 1 ≤ maxLen) (hbytes : (xs.length + 1) * bytes ≤ 140737488355328)
 (h : ∀ A' c' w', Rw k f e (fun g => (F g ∧ atA A g) ∨ w0.heap.size < g) w' A' c' (xs ++ [u]) → Frm (fun g => F g ∧ atA A g) w0 w' → wpList P ops Q rest (a.put o.dst (.slice A' (xs.length + 1) c')) w') :
 wpList P ops Q (o :: rest) a (w0.alloc (.cells cs e)) := by
 subst hcs; subst hg
 obtain ⟨A', c', w', hr, h2, h3⟩ := run_appendR1 (P := P) (t := t) (ty := o.type) ht hf u h1 hrow cc h63 hbytes
 exact Lib.wpList_append_run _ hgd s x t t ho _ _ hs hx _ w' hr (h A' c' w' h2 h3)
theorem step_appendR1 {P : Program} {ops : Array Oper} {o : Oper} {a : Act} {K : Act → World → Prop} {Q : Exit → Act → World → Prop} {E : Prop} {w0 : World} (hgd : o.guard = none) (s x : Operand) (t : TypeId)
 (ho : o.op = .call { callee := .builtin .append, args := #[s, x], argTypes := #[t, t] })
 {z : Value} {bytes : Nat} (ht : SliceTK P t e z k bytes) (hf : ∀ x, (f x).length = k) (u : α) (h1 : ∀ y ∈ f u, y.oneCell' = true) {cs : Array Value} (hcs : cs = (f u).toArray)
 (hs : a.eval s = .slice A xs.length c) (hrow : Rw k f e F w0 A c xs) {g cc : Nat} (hx : a.eval x = .slice (some ⟨g, 0, none⟩) 1 cc) (hg : g = w0.heap.size)
 (h63 : xs.length + 1 ≤ maxLen) (hbytes : (xs.length + 1) * bytes ≤ 140737488355328)
 (h : ∀ A' c' w', Rw k f e (fun g => (F g ∧ atA A g) ∨ w0.heap.size < g) w' A' c' (xs ++ [u]) → Frm (fun g => F g ∧ atA A g) w0 w' → K (a.put o.dst (.slice A' (xs.length + 1) c')) w') :
 if Region.wanted o (yielded ops a.tmps) = true then Oper.wp P o a (w0.alloc (.cells cs e)) K Q else E := by
 subst hcs; subst hg
 have hw : Region.wanted o (yielded ops a.tmps) = true := by simp [Region.wanted, hgd]
 rw [if_pos hw]
 obtain ⟨A', c', w', hr, h2, h3⟩ := run_appendR1 (P := P) (t := t) (ty := o.type) ht hf u h1 hrow cc h63 hbytes
 unfold Oper.wp execOp
 simp only [ho, resolve, invoke, builtin, Sem.run_bind, Sem.run_pure, Result.andThen_ok, List.map_toArray, List.map_cons, List.map_nil, hs, hx, hr]
 exact h A' c' w' h2 h3
end
end Go.Proofs.YtifgajinfcihmaaGreatDoor.Mem
