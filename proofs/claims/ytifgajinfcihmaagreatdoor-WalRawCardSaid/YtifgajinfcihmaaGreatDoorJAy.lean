/- Layer 8: snap.Bytes. -/
import Derived.Test.YtifgajinfcihmaaGreatDoorJAx
import Derived.Test.YtifgajinfcihmaaGreatDoorJAg
namespace Go.Proofs.YtifgajinfcihmaaGreatDoor
open Go Go.RowKit Go.Shelf Go.Maps Go.Lib Mem Pk
attribute [local go_sem] Oper.semAt_some
def pre (x t : Int) (vs ls : List Int) : Nat → List Int
 | 0 => [x, t]
 | 1 => [x, t] ++ [(vs.length : Int)] ++ vs
 | _ => [x, t] ++ [(vs.length : Int)] ++ vs ++ [(ls.length : Int)] ++ ls
theorem blk_turn {W W' : World} {row : Option Nat} {g : Nat} {t : TypeId} {cs : Array Value} (h : Blk W g t cs) (hg : W.grownBy W' row) (hr : ∀ r, row = some r → ∃ o : Obj, W.heap[r]? = some o ∧ o.isCells = false) : Blk W' g t cs :=
 (hg.block g h.lt (fun e => by
  obtain ⟨o, h1, h2⟩ := hr g e.symm
  unfold Blk at h
  rw [h] at h1
  cases h1
  cases h2)).trans h
theorem own_turn {α : Type} {f : α → Value} {base : Nat} {e : TypeId} {W W' : World} {v : Value} {xs : List α} {row : Option Nat} (h : Mem.Own f base e W v xs) (hg : W.grownBy W' row) (hr : ∀ r, row = some r → ∃ o : Obj, W.heap[r]? = some o ∧ o.isCells = false) : Mem.Own f base e W' v xs := by
 obtain ⟨h1, h2⟩ := h
 refine ⟨h1, ?_⟩
 rcases h2 with h2 | ⟨g, cap, cur, a, b, hh, c⟩
 ·exact .inl h2
 ·exact .inr ⟨g, cap, cur, a, b, blk_turn (g := g) (t := e) (cs := cur) hh hg hr, c⟩
theorem own_far {α : Type} {f : α → Value} {base : Nat} {e : TypeId} {w : World} {v : Value} {xs : List α} {g : Nat} {t : TypeId} {cs : Array Value} (h : Mem.Own f base e w v xs) (hb : Blk w g t cs) (hne : t ≠ e) (u : Value) : Mem.Own f base e (w.setCell ⟨g, 0, none⟩ u) v xs := by
 obtain ⟨h1, h2⟩ := h
 refine ⟨h1, ?_⟩
 rcases h2 with h2 | ⟨g', cap, cur, a, b, hh, c⟩
 ·exact .inl h2
 ·refine .inr ⟨g', cap, cur, a, b, ?_, c⟩
  have hn : g' ≠ g := fun e2 => by subst e2; unfold Blk at hb; rw [hh] at hb; injection hb with hb; injection hb with _ h3; exact hne h3.symm
  exact (Below.heap_setCell w _ u g' hn).trans hh
theorem keeps_below {W W1 : World} (hb : Below W.heap.size W W1) : KeepsOthers W W1 := ⟨hb.size, fun k _o hk _ => (hb.block k (Array.getElem?_eq_some_iff.1 hk).1).trans hk⟩
theorem own_keeps {α : Type} {f : α → Value} {base : Nat} {e : TypeId} {w w' : World} {v : Value} {xs : List α} (h : Mem.Own f base e w v xs) (hg : w.grownBy w' v.ownBlock) : KeepsOthers w w' :=
 .of_grownBy hg (fun j o e' hj => by
  rcases h.2 with ⟨rfl, -⟩ | ⟨g', cap, cur, rfl, -, hh, -⟩
  ·cases e'
  ·have e2 : g' = j := Option.some.inj e'
   subst e2
   rw [hj] at hh
   cases hh
   rfl)
def FrSome (p : List UInt8) (w : World) (e : Ending) (w' : World) : Prop :=
 ∃ g c, e = .returned (.tuple #[.slice (some ⟨g, 0, none⟩) p.length c, .int .i64 0]) ∧ Mem.Own fB w.heap.size 5 w' (.slice (some ⟨g, 0, none⟩) p.length c) p ∧ Below w.heap.size w w'
theorem Frame_some {w : World} {A : Option Addr} {c : Nat} {p : List UInt8} (h : Sl fB w A p) (h4 : p.length ≤ 4096) :
 Calls Tryz.prog 104 #[.slice A p.length c] w (FrSome (frameB p) w) := by
 have hfr := Frame_any (c := c) h
 have h2 : frameR p = (frameB p, 0) := by unfold frameR; rw [if_pos h4]
 rw [h2] at hfr
 refine hfr.mono ?_
 rintro e w' ⟨A1, c1, rfl, ho, hb⟩
 obtain ⟨g, hg, -⟩ := ho.addr (by show 0 < (frameB p).length; rw [frameB_len]; omega)
 subst hg
 exact ⟨g, c1, rfl, ho, hb⟩
theorem wpListIn_appendNt {F : Fence} {n : Nat} {P : Program} {α : Type} {f : α → Value} {ops : Array Oper} {rest : List Oper} {o : Oper} {a : Act} {Q : Exit → Act → World → Prop} {w : World} (hgd : o.guard = none) (s x : Operand) (t : TypeId)
 (ho : o.op = .call { callee := .builtin .append, args := #[s, x], argTypes := #[t, t] })
 {base : Nat} {e : TypeId} {z : Value} {bytes : Nat} (ht : SliceT P t e z bytes)
 {v : Value} {xs : List α} (hs : a.eval s = v) (hown : Mem.Own f base e w v xs)
 {ad : Addr} {c : Nat} {ys : List α} (hx : a.eval x = .slice (some ad) ys.length c) (hys : Sl f w (some ad) ys) (h1 : ∀ u, (f u).oneCell' = true)
 (h63 : xs.length + ys.length ≤ maxLen) (hbytes : (xs.length + ys.length) * bytes ≤ 140737488355328) (hbase : base ≤ w.heap.size)
 (h : ∀ v' w', Mem.Own f base e w' v' (xs ++ ys) → w.grownBy w' v.ownBlock → wpListIn F n P ops Q rest (a.put o.dst v') w') : wpListIn F n P ops Q (o :: rest) a w := by
 obtain ⟨ht, hz1, i, hi, hz, hsz, hby⟩ := ht
 refine wpListIn_append_own (P := P) _ hgd s x t ho base e i z 1 bytes ht hi hz hsz hby hz1 (by decide) v xs.length (xs.map f) hs hown ad ys.length c (ys.map f) hx (by simp) ?_ ?_ h63 hbytes hbase ?_
 ·intro j y hy
  have hj : j < ys.length := by
   rcases Nat.lt_or_ge j ys.length with h | h
   ·exact h
   ·rw [List.getElem?_eq_none (by simpa using h)] at hy; cases hy
  obtain ⟨b, o, e, hc⟩ := hys.2 (by omega)
  injection e with e
  subst e
  have e2 : (⟨b, o, none⟩ : Addr).add j = ⟨b, o + j, none⟩ := by
   unfold Addr.add; split
   ·rename_i h0; subst h0; rfl
   ·rfl
  rw [e2, hc j hj]
  simp [hj] at hy; rw [← hy]
 ·intro y hy
  obtain ⟨u, _, rfl⟩ := List.mem_map.1 hy
  exact h1 u
 ·intro v' w' ho' hgr _
  refine h v' w' ?_ hgr
  unfold Mem.Own; rw [List.length_append, List.map_append]; exact ho'
end Go.Proofs.YtifgajinfcihmaaGreatDoor
