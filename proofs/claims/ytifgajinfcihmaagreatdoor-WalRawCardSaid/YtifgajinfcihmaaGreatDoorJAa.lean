/- Words for memory: a slice that reads as a list; what stays of it when other memory is written. Over any program. -/
import Derived.Below
import Derived.Laws.OwnMore
import Derived.Deep.Slices
import Derived.ChangeSame
import Derived.OwnWalk
import Derived.SizedLaws
import Derived.Calls
import Derived.Deep.Draws
import Derived.Maps.Own
import Derived.Maps.OwnSet
namespace Go.Proofs.YtifgajinfcihmaaGreatDoor.Mem
open Go Go.RowKit
def Sl {α : Type} (f : α → Value) (w : World) (A : Option Addr) (xs : List α) : Prop :=
 xs.length ≤ maxLen ∧ (0 < xs.length → ∃ b o, A = some ⟨b, o, none⟩ ∧ ∀ j (h : j < xs.length), w.cell? ⟨b, o + j, none⟩ = some (f xs[j]))
section
variable {α : Type} {f : α → Value} {w w' : World} {A : Option Addr} {xs : List α}
theorem lt_of_cell {a : Addr} {v : Value} (h : w.cell? a = some v) : a.block < w.heap.size := by
 rcases Nat.lt_or_ge a.block w.heap.size with hl | hl
 ·exact hl
 ·simp [World.cell?, Array.getElem?_eq_none hl] at h
theorem Sl.nil : Sl f w A ([] : List α) := ⟨by unfold maxLen; simp, fun h => absurd h (by simp)⟩
theorem Sl.len (h : Sl f w A xs) : xs.length ≤ 9223372036854775807 := h.1
theorem Sl.at (h : Sl f w A xs) {k : Nat} (hk : k < xs.length) : ∃ b o, A = some ⟨b, o, none⟩ ∧ b < w.heap.size ∧ ∀ j (h : j < xs.length), w.cell? ⟨b, o + j, none⟩ = some (f xs[j]) := by
 obtain ⟨b, o, e, hc⟩ := h.2 (by omega)
 exact ⟨b, o, e, lt_of_cell (hc k hk), hc⟩
theorem Sl.cell {b o : Nat} (h : Sl f w (some ⟨b, o, none⟩) xs) {k : Nat} (hk : k < xs.length) : w.cell? ⟨b, o + k, none⟩ = some (f xs[k]) := by
 obtain ⟨b', o', e, hc⟩ := h.2 (by omega)
 injection e with e
 injection e with e1 e2
 subst e1; subst e2
 exact hc k hk
theorem Sl.keep (h : Sl f w A xs) (hk : ∀ b o, b < w.heap.size → w'.cell? ⟨b, o, none⟩ = w.cell? ⟨b, o, none⟩) : Sl f w' A xs :=
 ⟨h.1, fun hn => by
  obtain ⟨b, o, e, hb, hc⟩ := h.at hn
  exact ⟨b, o, e, fun j hj => (hk _ _ hb).trans (hc j hj)⟩⟩
theorem Sl.below (h : Sl f w A xs) (hb : Below w.heap.size w w') : Sl f w' A xs := h.keep fun _ _ hp => hb.cell hp
theorem Sl.own {base : Nat} {e : TypeId} {c : Nat} (h : w.ownsRow base e 1 (.slice A xs.length c) xs.length (xs.map f)) (hm : xs.length ≤ maxLen) : Sl f w A xs := by
 refine ⟨hm, fun hn => ?_⟩
 rcases h.2 with ⟨_, h0⟩ | ⟨g, cap, cur, hv, _, hh, hnc, _, hsz, htake⟩
 ·omega
 ·have hA : A = some ⟨g, 0, none⟩ := by injection hv
  subst hA
  refine ⟨g, 0, rfl, fun j hj => ?_⟩
  have h1 : cur.toList[j]? = some (f xs[j]) := by
   have h2 : (List.take (xs.length * 1) cur.toList)[j]? = (xs.map f)[j]? := by rw [htake]
   rw [List.getElem?_take, if_pos (by omega)] at h2
   rw [h2]; simp [hj]
  simp [World.cell?, hh]
  simpa using h1
end
theorem quiet_mine {P : Program} {f : FuncId} {args : Array Value} {w : World} {n : Nat} {v : Value}
 (h : Calls P f args (w.drewN n) fun e w' => e = .returned v ∧ w.drewN n = w') : Calls P f args (w.drewN n) fun e w'' => e = .returned v ∧ ∃ m, w'' = w.drewN m :=
 h.mono fun _ _ ⟨he, hm⟩ => ⟨he, n, hm.symm⟩
def SliceT (P : Program) (t e : TypeId) (z : Value) (bytes : Nat) : Prop :=
 P.underlying t = some (.slice e) ∧ z.cells.size = 1 ∧ ∃ i, P.info? e = some i ∧ i.zero = some z ∧ i.size = 1 ∧ i.bytes = bytes
theorem sliceT_mk {P : Program} {t e : TypeId} {z : Value} {bytes : Nat} (ht : P.underlying t = some (.slice e)) (hz : z.cells.size = 1)
 (h : (P.info? e).map (fun i => (i.zero, i.size, i.bytes)) = some (some z, 1, bytes)) : SliceT P t e z bytes := ⟨ht, hz, info_parts h⟩
def Own {α : Type} (f : α → Value) (base : Nat) (e : TypeId) (w : World) (v : Value) (xs : List α) : Prop := w.ownsRow base e 1 v xs.length (xs.map f)
section
variable {α : Type} {f : α → Value} {w w' : World} {v : Value} {xs : List α} {base : Nat} {e : TypeId}
theorem Own.nil : Mem.Own f base e w (.slice none 0 0) ([] : List α) := World.ownsRow_nil w base e 1
theorem Own.drewN (h : Mem.Own f base e w v xs) (n : Nat) : Mem.Own f base e (w.drewN n) v xs := h
theorem Own.alloc (h : Mem.Own f base e w v xs) (o : Obj) : Mem.Own f base e (w.alloc o) v xs := World.ownsRow.alloc h o
theorem Own.mk_ (hb : base ≤ w.heap.size) : Mem.Own f base e (w.alloc (.cells #[] e)) (.slice (some ⟨w.heap.size, 0, none⟩) 0 0) ([] : List α) :=
 World.ownsRow_made w #[] 0 hb (Nat.zero_le _) rfl
theorem Own.form (h : Mem.Own f base e w v xs) : ∃ A c, v = .slice A xs.length c := by
 rcases h.2 with ⟨h1, h2⟩ | ⟨g, cap, cur, hv, _⟩
 ·exact ⟨none, 0, by rw [h1, h2]⟩
 ·exact ⟨_, _, hv⟩
theorem Own.sl {A : Option Addr} {n c : Nat} (h : Mem.Own f base e w (.slice A n c) xs) : n = xs.length ∧ Sl f w A xs := by
 rcases h.2 with ⟨h1, h2⟩ | ⟨g, cap, cur, hv, hb, hh, hnc, hcap, hsz, htake⟩
 ·injection h1 with a b c
  refine ⟨by omega, ?_⟩
  have : xs = [] := List.eq_nil_of_length_eq_zero h2
  subst this; exact Sl.nil
 ·injection hv with a b c
  subst b
  refine ⟨rfl, Sl.own (base := base) (e := e) (c := cap) ?_ (Nat.le_trans hnc hcap)⟩
  subst a; subst c
  exact h
theorem Own.cap {A : Option Addr} {n c : Nat} (h : Mem.Own f base e w (.slice A n c) xs) : n ≤ c ∧ c ≤ maxLen := by
 rcases h.2 with ⟨h1, h2⟩ | ⟨g, cap, cur, hv, hb, hh, hnc, hcap, _⟩
 ·injection h1 with a b c; subst b; subst c; exact ⟨Nat.le_refl _, Nat.zero_le _⟩
 ·injection hv with a b c; subst b; subst c; exact ⟨hnc, hcap⟩
theorem Own.addr {A : Option Addr} {n c : Nat} (h : Mem.Own f base e w (.slice A n c) xs) (h0 : 0 < n) : ∃ g, A = some ⟨g, 0, none⟩ ∧ base ≤ g := by
 rcases h.2 with ⟨h1, h2⟩ | ⟨g, cap, cur, hv, hb, _⟩
 ·injection h1 with a b c; omega
 ·injection hv with a b c; exact ⟨g, a, hb⟩
theorem Own.lt (h : Mem.Own f base e w v xs) : ∀ k, v.ownBlock = some k → base ≤ k ∧ k < w.heap.size := World.ownsRow.lt h
end
theorem wpList_append1 {P : Program} {α : Type} {f : α → Value} {ops : Array Oper} {rest : List Oper} {o : Oper} {a : Act} {Q : Exit → Act → World → Prop} {w0 : World} (hgd : o.guard = none) (s x : Operand) (t : TypeId)
 (ho : o.op = .call { callee := .builtin .append, args := #[s, x], argTypes := #[t, t] })
 {base : Nat} {e : TypeId} {z : Value} {bytes : Nat} (ht : SliceT P t e z bytes)
 {v : Value} {xs : List α} (u : α) (h1 : (f u).oneCell' = true) (hs : a.eval s = v) (hown : Mem.Own f base e w0 v xs)
 {g c : Nat} (hx : a.eval x = .slice (some ⟨g, 0, none⟩) 1 c) (hg : g = w0.heap.size)
 (h63 : xs.length + 1 ≤ maxLen) (hbytes : (xs.length + 1) * bytes ≤ 140737488355328) (hbase : base ≤ w0.heap.size)
 (h : ∀ v' w', Mem.Own f base e w' v' (xs ++ [u]) → Below base w0 w' → wpList P ops Q rest (a.put o.dst v') w') : wpList P ops Q (o :: rest) a (w0.alloc (.cells #[f u] e)) := by
 obtain ⟨ht, hz1, i, hi, hz, hsz, hby⟩ := ht
 subst hg
 have hcell : (w0.alloc (.cells #[f u] e)).cell? ⟨w0.heap.size, 0, none⟩ = some (f u) := by
  have := heap_alloc_new w0 (.cells #[f u] e)
  unfold World.cell?
  simp only [this]; rfl
 refine wpList_append_own (P := P) _ hgd s x t ho base e i z 1 bytes ht hi hz hsz hby hz1 (by decide) v xs.length (xs.map f) hs (hown.alloc _) ⟨w0.heap.size, 0, none⟩ 1 c [f u] hx rfl ?_ ?_ h63 hbytes ?_ ?_
 ·intro j y hy
  match j, hy with
  | 0, hy => simp at hy; subst hy; exact hcell
  | j + 1, hy => simp at hy
 ·intro y hy; simp at hy; subst hy; exact h1
 ·rw [World.size_alloc]; omega
 ·intro v' w' ho' hgr _
  refine h v' w' ?_ ?_
  ·unfold Mem.Own; rw [List.length_append, List.map_append]; exact ho'
  ·exact ((Below.refl _ _).alloc hbase _).grown hgr (by rw [World.size_alloc]; omega) (fun k hk => (hown.lt k hk).1)
theorem wpList_appendN {P : Program} {α : Type} {f : α → Value} {ops : Array Oper} {rest : List Oper} {o : Oper} {a : Act} {Q : Exit → Act → World → Prop} {w : World} (hgd : o.guard = none) (s x : Operand) (t : TypeId)
 (ho : o.op = .call { callee := .builtin .append, args := #[s, x], argTypes := #[t, t] })
 {base : Nat} {e : TypeId} {z : Value} {bytes : Nat} (ht : SliceT P t e z bytes)
 {v : Value} {xs : List α} (hs : a.eval s = v) (hown : Mem.Own f base e w v xs)
 {ad : Addr} {c : Nat} {ys : List α} (hx : a.eval x = .slice (some ad) ys.length c) (hys : Sl f w (some ad) ys) (h1 : ∀ u, (f u).oneCell' = true)
 (h63 : xs.length + ys.length ≤ maxLen) (hbytes : (xs.length + ys.length) * bytes ≤ 140737488355328) (hbase : base ≤ w.heap.size)
 (h : ∀ v' w', Mem.Own f base e w' v' (xs ++ ys) → Below base w w' → wpList P ops Q rest (a.put o.dst v') w') : wpList P ops Q (o :: rest) a w := by
 obtain ⟨ht, hz1, i, hi, hz, hsz, hby⟩ := ht
 refine wpList_append_own (P := P) _ hgd s x t ho base e i z 1 bytes ht hi hz hsz hby hz1 (by decide) v xs.length (xs.map f) hs hown ad ys.length c (ys.map f) hx (by simp) ?_ ?_ h63 hbytes hbase ?_
 ·intro j y hy
  have hj : j < ys.length := by
   rcases Nat.lt_or_ge j ys.length with h | h
   ·exact h
   ·rw [List.getElem?_eq_none (by simpa using h)] at hy; cases hy
  obtain ⟨b, o, e, hc⟩ := hys.2 (by omega)
  injection e with e
  subst e
  have e2 : (⟨b, o, none⟩ : Addr).add j = ⟨b, o + j, none⟩ := by
   unfold Addr.add; split
   ·rename_i h0; subst h0; rfl
   ·rfl
  rw [e2, hc j hj]
  simp [hj] at hy; rw [← hy]
 ·intro y hy
  obtain ⟨u, _, rfl⟩ := List.mem_map.1 hy
  exact h1 u
 ·intro v' w' ho' hgr _
  refine h v' w' ?_ ?_
  ·unfold Mem.Own; rw [List.length_append, List.map_append]; exact ho'
  ·exact (Below.refl _ _).grown hgr hbase (fun k hk => (hown.lt k hk).1)
def Room (bytes n : Nat) : Prop := n * bytes ≤ 140737488351232
section
variable {H : Type} {enc : TypeId × Value → H} {P : Program} {w : World}
theorem open_sl {α : Type} (f : α → Value) (Q : α → Prop) {t e : TypeId} {A : Option Addr} {len cap : Nat} {d : DataW H} {ps : List MemPlace} (ht : P.underlying t = some (.slice e)) (hc : P.cellsOf e = 1)
 (h : DataW.Trod enc P w 0 (fun _ => true) true t (.slice A len cap) d ps)
 (hx : ∀ (v : Value) (n : Nat) (y : DataW H × List MemPlace), DataW.trod enc P w 0 (fun _ => true) true n e [v] = some y → ∃ z, v = f z ∧ Q z) :
 ∃ xs : List α, len = xs.length ∧ xs.length ≤ cap ∧ Sl f w A xs ∧ (∀ x ∈ xs, Q x) ∧ (xs = [] ∨ ∃ es sp, d = .slice es sp ∧ es.length = xs.length) := by
 obtain ⟨fuel, h⟩ := h
 have h : DataW.trod enc P w 0 (fun _ => true) true fuel t [.slice A len cap] = some (d, ps) := h
 rcases Go.Deep.open_slice1 ht hc h with ⟨hcs, _⟩ | ⟨a, len', cap', m, n, V, D, Pl, hcs, _, hl, hm, hmm, hxx, hi⟩
 ·simp only [List.cons.injEq, Value.slice.injEq, and_true] at hcs
  obtain ⟨rfl, rfl, rfl⟩ := hcs
  exact ⟨[], rfl, Nat.zero_le _, Sl.nil, by simp, .inl rfl⟩
 ·simp only [List.cons.injEq, Value.slice.injEq, and_true] at hcs
  obtain ⟨rfl, rfl, rfl⟩ := hcs
  rw [if_pos rfl] at hmm
  subst hmm
  have key : ∀ m, m ≤ len → ∃ xs : List α, xs.length = m ∧ (∀ j (h : j < xs.length), w.cell? (a.add j) = some (f xs[j])) ∧ ∀ x ∈ xs, Q x := by
   intro m
   induction m with
   | zero => intro _; exact ⟨[], rfl, fun j h => by simp at h, by simp⟩
   | succ m ih =>
     intro hm'
     obtain ⟨xs, h1, h2, h3⟩ := ih (by omega)
     obtain ⟨hcell, htr⟩ := hi m (by omega)
     obtain ⟨z, hz, hq⟩ := hx _ _ _ htr
     refine ⟨xs ++ [z], by simp [h1], fun j hj => ?_, fun x hx => ?_⟩
     ·by_cases e : j < xs.length
      ·rw [h2 j e, List.getElem_append_left e]
      ·have : j = m := by simp at hj; omega
       subst this
       rw [hcell, hz, List.getElem_append_right (by omega)]
       simp
     ·rcases List.mem_append.1 hx with hx | hx
      ·exact h3 x hx
      ·simp only [List.mem_singleton] at hx; subst hx; exact hq
  obtain ⟨xs, h1, h2, h3⟩ := key len (Nat.le_refl _)
  simp only [Prod.mk.injEq] at hxx
  refine ⟨xs, h1.symm, by omega, ⟨by omega, fun h0 => ?_⟩, h3, .inr ⟨_, _, hxx.1, by simp [h1]⟩⟩
  have hspot : a.spot = none := by
   have := h2 0 h0
   cases hs : a.spot with
   | none => rfl
   | some s => exfalso; simp only [World.cell?, Addr.add, hs, if_true, Option.isSome_some] at this; split at this <;> simp at this
  obtain ⟨ab, ao, asp⟩ := a
  simp only at hspot
  subst hspot
  refine ⟨ab, ao, rfl, fun j hj => ?_⟩
  rw [← h2 j hj]
  congr 1
  unfold Addr.add; split
  ·rename_i h0; subst h0; rfl
  ·rfl
theorem room_of {H : Type} {P : Program} {ts : List TypeId} {ds : List (DataW H)} (h : (DataW.weightsEach P ts ds).all (· ≤ reachBytes) = true) {j : Nat} {t e : TypeId} {d : DataW H} {bytes n : Nat} (ht : ts[j]? = some t) (hd : ds[j]? = some d)
 (hu : P.underlying t = some (.slice e)) (hb : P.bytesOf e = bytes) (hx : n = 0 ∨ ∃ es sp, d = .slice es sp ∧ es.length = n) : Room bytes n := by
 unfold Room
 rcases hx with rfl | ⟨es, sp, rfl, rfl⟩
 ·simp
 ·have h1 := sized_slice h ht hd hu
  rw [hb] at h1
  have h2 : reachBytes = 140737488351232 := by decide
  rw [Nat.add_mul] at h1
  omega
end
end Go.Proofs.YtifgajinfcihmaaGreatDoor.Mem
namespace Go.Proofs.YtifgajinfcihmaaGreatDoor.Mem
open Go Go.RowKit Go.Maps
structure Frm (F : Nat → Prop) (w w' : World) : Prop where
 os : w'.os = w.os
 tape : w'.tape = w.tape
 output : w'.output = w.output
 size : w.heap.size ≤ w'.heap.size
 block : ∀ k, k < w.heap.size → ¬ F k → w'.heap[k]? = w.heap[k]?
section
variable {F G : Nat → Prop} {w w' w'' : World}
theorem Frm.refl (F : Nat → Prop) (w : World) : Frm F w w := ⟨rfl, rfl, rfl, Nat.le_refl _, fun _ _ _ => rfl⟩
theorem Frm.trans (h : Frm F w w') (k : Frm F w' w'') : Frm F w w'' :=
 ⟨k.os.trans h.os, k.tape.trans h.tape, k.output.trans h.output, Nat.le_trans h.size k.size, fun i hi hn => (k.block i (Nat.lt_of_lt_of_le hi h.size) hn).trans (h.block i hi hn)⟩
theorem Frm.mono (h : Frm F w w') (hF : ∀ k, k < w.heap.size → F k → G k) : Frm G w w' := ⟨h.os, h.tape, h.output, h.size, fun i hi hn => h.block i hi (fun hf => hn (hF i hi hf))⟩
theorem Frm.below (h : Below w.heap.size w w') : Frm F w w' := ⟨h.os, h.tape, h.output, h.size, fun i hi _ => h.block i hi⟩
theorem Frm.to_below {B : Nat} (h : Frm F w w') (hF : ∀ k, k < w.heap.size → k < B → ¬ F k) (hB : B ≤ w.heap.size) : Below B w w' := ⟨h.os, h.tape, h.output, h.size, fun i hi => h.block i (by omega) (hF i (by omega) hi)⟩
theorem Frm.drew (h : Frm F w w') : Frm F w w'.drew := ⟨h.os, h.tape, h.output, h.size, h.block⟩
theorem Frm.drewN (h : Frm F w w') (n : Nat) : Frm F w (w'.drewN n) := ⟨h.os, h.tape, h.output, h.size, h.block⟩
theorem Frm.alloc (h : Frm F w w') (o : Obj) : Frm F w (w'.alloc o) :=
 ⟨h.os, h.tape, h.output, by rw [World.size_alloc]; exact Nat.le_succ_of_le h.size, fun i hi hn => (Below.heap_alloc w' o i (Nat.lt_of_lt_of_le hi h.size)).trans (h.block i hi hn)⟩
theorem Frm.setCell (h : Frm F w w') {p : Addr} (hp : p.block < w.heap.size → F p.block) (u : Value) : Frm F w (w'.setCell p u) := by
 have hb : Below 0 w' (w'.setCell p u) := (Below.refl _ _).setCell (Nat.zero_le _) u
 exact ⟨hb.os.trans h.os, hb.tape.trans h.tape, hb.output.trans h.output, Nat.le_trans h.size hb.size, fun i hi hn => (Below.heap_setCell w' p u i (fun e => hn (by subst e; exact hp hi))).trans (h.block i hi hn)⟩
theorem Frm.grown {row : Option Nat} (h : Frm F w w') (hg : w'.grownBy w'' row) (hr : ∀ k, row = some k → k < w.heap.size → F k) : Frm F w w'' :=
 ⟨hg.os.trans h.os, hg.tape.trans h.tape, hg.output.trans h.output, Nat.le_trans h.size hg.size, fun i hi hn => (hg.block i (Nat.lt_of_lt_of_le hi h.size) (fun e => hn (hr i e.symm hi))).trans (h.block i hi hn)⟩
theorem Frm.then_below (h : Frm F w w') (k : Below w'.heap.size w' w'') : Frm F w w'' := h.trans (Frm.below k)
theorem Frm.then_up (h : Frm F w w') (k : Frm (fun g => F g ∨ w.heap.size ≤ g) w' w'') : Frm F w w'' :=
 ⟨k.os.trans h.os, k.tape.trans h.tape, k.output.trans h.output, Nat.le_trans h.size k.size, fun i hi hn =>
  (k.block i (Nat.lt_of_lt_of_le hi h.size) (fun a => a.elim hn (fun a => absurd hi (Nat.not_lt.2 a)))).trans (h.block i hi hn)⟩
end
def Blk (w : World) (g : Nat) (t : TypeId) (cs : Array Value) : Prop := w.heap[g]? = some (.cells cs t (0, 0))
section
variable {F : Nat → Prop} {w w' : World} {g : Nat} {t : TypeId} {cs : Array Value}
theorem Blk.lt (h : Blk w g t cs) : g < w.heap.size := by
 rcases Nat.lt_or_ge g w.heap.size with hl | hl
 ·exact hl
 ·unfold Blk at h; rw [Array.getElem?_eq_none hl] at h; cases h
theorem Blk.cell (h : Blk w g t cs) (i : Nat) : w.cell? ⟨g, i, none⟩ = cs[i]? := by unfold Blk at h; simp [World.cell?, h]
theorem Blk.free (h : Blk w g t cs) (i : Nat) : w.frozen? ⟨g, i, none⟩ = false := by unfold Blk at h; simp [World.frozen?, h]
theorem Blk.new_ (w : World) (t : TypeId) (cs : Array Value) : Blk (w.alloc (.cells cs t)) w.heap.size t cs := heap_alloc_new w _
theorem Blk.frm (h : Blk w g t cs) (hf : Frm F w w') (hn : ¬ F g) : Blk w' g t cs := (hf.block g h.lt hn).trans h
theorem Blk.drew (h : Blk w g t cs) : Blk w.drew g t cs := h
theorem Blk.alloc (h : Blk w g t cs) (o : Obj) : Blk (w.alloc o) g t cs := (Below.heap_alloc w o g h.lt).trans h
theorem Blk.set_ (h : Blk w g t cs) (i : Nat) (u : Value) : Blk (w.setCell ⟨g, i, none⟩ u) g t (cs.setIfInBounds i u) := by
 unfold Blk at h ⊢
 simp [World.setCell, Array.getElem?_modify, h]
theorem Blk.far (h : Blk w g t cs) {p : Addr} (hp : g ≠ p.block) (u : Value) : Blk (w.setCell p u) g t cs := (Below.heap_setCell w p u g hp).trans h
theorem Blk.below {B : Nat} (h : Blk w g t cs) (hb : Below B w w') (hg : g < B) : Blk w' g t cs := (hb.block g hg).trans h
theorem Blk.ne_ {g' : Nat} {t' : TypeId} {cs' : Array Value} (h : Blk w g t cs) (h' : Blk w g' t' cs') (hne : t ≠ t') : g ≠ g' := by
 rintro rfl
 unfold Blk at h h'
 rw [h] at h'
 injection h' with h'
 injection h' with _ ht
 exact hne ht
end
def SlB {α : Type} (f : α → Value) (e : TypeId) (F : Nat → Prop) (w : World) (A : Option Addr) (xs : List α) : Prop :=
 xs.length ≤ maxLen ∧ (0 < xs.length → ∃ b o cur fr, A = some ⟨b, o, none⟩ ∧ F b ∧ w.heap[b]? = some (.cells cur e fr) ∧ ∀ j (h : j < xs.length), cur[o + j]? = some (f xs[j]))
section
variable {α : Type} {f : α → Value} {e : TypeId} {F G : Nat → Prop} {w w' : World} {A : Option Addr} {xs : List α}
theorem SlB.nil : SlB f e F w A ([] : List α) := ⟨by unfold maxLen; simp, fun h => absurd h (by simp)⟩
theorem SlB.sl (h : SlB f e F w A xs) : Sl f w A xs := ⟨h.1, fun hn => by
 obtain ⟨b, o, cur, fr, e, _, hb, hc⟩ := h.2 hn
 exact ⟨b, o, e, fun j hj => by simp [World.cell?, hb, hc j hj]⟩⟩
theorem SlB.mono (h : SlB f e F w A xs) (hF : ∀ g, g < w.heap.size → F g → G g) : SlB f e G w A xs := ⟨h.1, fun hn => by
 obtain ⟨b, o, cur, fr, e, hf, hb, hc⟩ := h.2 hn
 refine ⟨b, o, cur, fr, e, hF b ?_ hf, hb, hc⟩
 rcases Nat.lt_or_ge b w.heap.size with hl | hl
 ·exact hl
 ·rw [Array.getElem?_eq_none hl] at hb; cases hb⟩
theorem SlB.keep (h : SlB f e F w A xs) (hk : ∀ g cur fr, F g → w.heap[g]? = some (.cells cur e fr) → w'.heap[g]? = w.heap[g]?) : SlB f e F w' A xs := ⟨h.1, fun hn => by
 obtain ⟨b, o, cur, fr, e, hf, hb, hc⟩ := h.2 hn
 exact ⟨b, o, cur, fr, e, hf, (hk b cur fr hf hb).trans hb, hc⟩⟩
theorem SlB.frm (h : SlB f e F w A xs) (hf : Frm G w w') (hd : ∀ g, F g → ¬ G g) : SlB f e F w' A xs := h.keep fun g _ _ hF hg => hf.block g (by
 rcases Nat.lt_or_ge g w.heap.size with hl | hl
 ·exact hl
 ·rw [Array.getElem?_eq_none hl] at hg; cases hg) (hd g hF)
theorem SlB.below (h : SlB f e F w A xs) (hb : Below w.heap.size w w') : SlB f e F w' A xs := h.frm (G := fun _ => False) (Frm.below hb) (fun _ _ h => h)
theorem SlB.drewN (h : SlB f e F w A xs) (n : Nat) : SlB f e F (w.drewN n) A xs := h
theorem SlB.far {t : TypeId} {cs : Array Value} {g : Nat} (h : SlB f e F w A xs) (hb : Blk w g t cs) (hne : e ≠ t) (i : Nat) (u : Value) : SlB f e F (w.setCell ⟨g, i, none⟩ u) A xs :=
 h.keep fun k cur fr _ hk => Below.heap_setCell w _ u k (by
  intro e2
  have e2 : k = g := e2
  subst e2
  unfold Blk at hb; rw [hk] at hb
  injection hb with hb; injection hb with _ h2
  exact hne h2)
theorem SlB.of_own {base : Nat} {n c : Nat} (h : Mem.Own f base e w (.slice A n c) xs) : n = xs.length ∧ SlB f e (fun g => base ≤ g) w A xs := by
 have h0 := Own.sl h
 refine ⟨h0.1, h0.2.1, fun hn => ?_⟩
 rcases h.2 with ⟨_, h2⟩ | ⟨g, cap, cur, hv, hb, hh, hnc, hcap, hsz, htake⟩
 ·omega
 ·injection hv with a b c
  subst a
  refine ⟨g, 0, cur, (0, 0), rfl, hb, hh, fun j hj => ?_⟩
  obtain ⟨b', o', e', hc⟩ := h0.2.2 hn
  injection e' with e'; injection e' with e1 e2
  subst e1; subst e2
  have := hc j hj
  simpa [World.cell?, hh] using this
theorem SlB.piece (h : SlB f e F w A xs) {k m : Nat} (hk : k + m ≤ xs.length) {b o : Nat} (hA : A = some ⟨b, o, none⟩) : SlB f e F w (some ⟨b, o + k, none⟩) ((xs.drop k).take m) := by
 subst hA
 have hl : ((xs.drop k).take m).length = m := by simp; omega
 refine ⟨by rw [hl]; exact Nat.le_trans (by omega) h.1, fun hn => ?_⟩
 obtain ⟨b', o', cur, fr, e', hf, hb, hc⟩ := h.2 (by omega)
 injection e' with e'; injection e' with e1 e2
 subst e1; subst e2
 refine ⟨b, o + k, cur, fr, rfl, hf, hb, fun j hj => ?_⟩
 rw [Nat.add_assoc, hc (k + j) (by omega)]
 simp
end
def ptrR : Value → Option (DataW Unit × List MemPlace)
 | .pointer none => some (.nil, [])
 | .pointer (some ⟨b, 0, none⟩) => some (.lit (.int .i64 b), [])
 | _ => none
theorem ptrR_inv {v : Value} {x : DataW Unit × List MemPlace} (h : ptrR v = some x) : (v = .pointer none ∧ x = (.nil, [])) ∨ ∃ b, v = .pointer (some ⟨b, 0, none⟩) ∧ x = (.lit (.int .i64 b), []) := by
 unfold ptrR at h
 split at h
 ·injection h with h; exact .inl ⟨rfl, h.symm⟩
 ·injection h with h; exact .inr ⟨_, rfl, h.symm⟩
 ·cases h
theorem map_frm {P : Program} {k : TypeId} {R : Value → Option (DataW Unit × List MemPlace)} {b n : Nat} {D : DataW Unit} {F : Nat → Prop} {w w' : World} (h : w.ownsMap P k R b n D) (hf : Frm F w w') (hn : ¬ F b) : w'.ownsMap P k R b n D := by
 have hlt := h.lt
 obtain ⟨es, clock, hb, Ft, hs, hD⟩ := h
 exact ⟨es, clock, (hf.block b hlt hn).trans hb, Ft, hs, hD⟩
theorem map_blk_ne {P : Program} {k : TypeId} {R : Value → Option (DataW Unit × List MemPlace)} {b n : Nat} {D : DataW Unit} {w : World} {g : Nat} {t : TypeId} {cs : Array Value} (h : w.ownsMap P k R b n D) (hb : Blk w g t cs) : b ≠ g := by
 rintro rfl
 obtain ⟨es, clock, hb', _⟩ := h
 unfold Blk at hb; rw [hb] at hb'; cases hb'
theorem map_set {P : Program} {k : TypeId} {R : Value → Option (DataW Unit × List MemPlace)} {b n : Nat} {D : DataW Unit} {w : World} {g : Nat} {t : TypeId} {cs : Array Value} (h : w.ownsMap P k R b n D) (hb : Blk w g t cs) (i : Nat) (u : Value) :
 (w.setCell ⟨g, i, none⟩ u).ownsMap P k R b n D := by
 have hne := map_blk_ne h hb
 obtain ⟨es, clock, hb', Ft, hs, hD⟩ := h
 exact ⟨es, clock, (Below.heap_setCell w _ u b hne).trans hb', Ft, hs, hD⟩
end Go.Proofs.YtifgajinfcihmaaGreatDoor.Mem
