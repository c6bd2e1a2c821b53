/- Rows of the call's own: made by make, written in place. Over any program. -/
import Derived.Test.YtakebmbdcjbbgaaOwn
import Derived.Laws.MakeOwn
namespace Go.Proofs.Ytakebmbdcjbbgaa.Mem
open Go Go.RowKit Go.Maps Go.Lib

def zerosA (z : Value) (n : Nat) : Array Value := (List.replicate n z).toArray
theorem madeCells_one (z : Value) (n : Nat) : madeCells #[z] n = zerosA z n := by
  unfold madeCells zerosA
  apply Array.ext
  · simp
  · intro i h1 h2
    simp [Nat.mod_one]
theorem run_makeT {P : Program} {t e : TypeId} {z : Value} {bytes : Nat} (ht : SliceT P t e z bytes) (hz1 : z.cells = #[z]) (kl kc : IntKind) (l : Int) (n : Nat) (hl : l = n) (hbytes : bytes * n ≤ 281474976710656) (h63 : n ≤ 9223372036854775807) (w : World) :
    (Instr.makeSlice t (.int kl l) (.int kc l)).run P w = .ok (.slice (some ⟨w.heap.size, 0, none⟩) n n) (w.alloc (.cells (zerosA z n) e)) := by
  obtain ⟨ht, _, i, hi, hz, hsz, hby⟩ := ht
  subst hl
  have hb : (i.bytes : Int) * (n : Int) ≤ 281474976710656 := by
    have h : ((i.bytes * n : Nat) : Int) ≤ 281474976710656 := by rw [hby]; omega
    rwa [Int.natCast_mul] at h
  have hr := run_make (P := P) w t e i z ht hi hz kl kc (n : Int) (n : Int) (by omega) (by omega) hb (by omega)
  simp only [Int.toNat_natCast, hsz, Nat.mul_one, hz1, madeCells_one] at hr
  exact hr
section
variable {α : Type} {f : α → Value} {w w' : World} {v : Value} {xs : List α} {base : Nat} {e : TypeId}
theorem Own.made_ (z : α) (n : Nat) (hn : n ≤ maxLen) (hb : base ≤ w.heap.size) : Own f base e (w.alloc (.cells (zerosA (f z) n) e)) (.slice (some ⟨w.heap.size, 0, none⟩) n n) (List.replicate n z) := by
  unfold Own
  refine ⟨by simp, .inr ⟨w.heap.size, n, zerosA (f z) n, by simp, hb, heap_alloc_new w _, by simp, hn, by simp [zerosA], ?_⟩⟩
  unfold zerosA
  simp
theorem Own.slot {A : Option Addr} {n c k : Nat} (h : Own f base e w (.slice A n c) xs) (hk : k < xs.length) :
    ∃ g, A = some ⟨g, 0, none⟩ ∧ base ≤ g ∧ g < w.heap.size ∧ w.cell? ⟨g, k, none⟩ = some (f xs[k]) ∧ w.frozen? ⟨g, k, none⟩ = false := by
  have hn := h.sl.1
  obtain ⟨g, rfl, hg⟩ := h.addr (by omega)
  have hc := h.sl.2.cell hk
  rw [Nat.zero_add] at hc
  refine ⟨g, rfl, hg, lt_of_cell hc, hc, ?_⟩
  rcases h.2 with ⟨hv, _⟩ | ⟨g', cap, cur, hv, hb, hh, _⟩
  · cases hv
  · injection hv with hv; injection hv with hv; injection hv with hv
    subst hv
    simp [World.frozen?, hh]
theorem Own.set_ {g n c k : Nat} (h : Own f base e w (.slice (some ⟨g, 0, none⟩) n c) xs) (hk : k < xs.length) (u : α) :
    Own f base e (w.setCell ⟨g, k, none⟩ (f u)) (.slice (some ⟨g, 0, none⟩) n c) (xs.set k u) := by
  have hn := h.sl.1
  rcases h.2 with ⟨hv, _⟩ | ⟨g', cap, cur, hv, hb, hh, hnc, hcm, hcs, htake⟩
  · cases hv
  · injection hv with hv hv2 hv3; injection hv with hv; injection hv with hv
    subst hv; subst hv3
    unfold Own
    rw [List.length_set]
    refine ⟨by simp, .inr ⟨g, c, cur.setIfInBounds k (f u), by rw [hn], hb, ?_, by omega, hcm, by simpa using hcs, ?_⟩⟩
    · have : (Blk w g e cur) := hh
      exact this.set_ k (f u)
    · rw [Array.toList_setIfInBounds, List.take_set, htake, List.map_set]
theorem Own.below (ho : Own f base e w v xs) (hb : Below w.heap.size w w') : Own f base e w' v xs := by
  obtain ⟨h1, h2⟩ := ho
  refine ⟨h1, ?_⟩
  rcases h2 with h2 | ⟨g, cap, cur, a, b, hh, c⟩
  · exact .inl h2
  · have hlt : g < w.heap.size := by
      rcases Nat.lt_or_ge g w.heap.size with hl | hl
      · exact hl
      · rw [Array.getElem?_eq_none hl] at hh; cases hh
    exact .inr ⟨g, cap, cur, a, b, (hb.block g hlt).trans hh, c⟩
theorem SlB.any {A : Option Addr} (h : Sl f w A xs) {G : Nat → Prop} (hG : ∀ g, g < w.heap.size → G g) : ∃ e, SlB f e G w A xs := by
  by_cases h0 : xs.length = 0
  · exact ⟨0, h.1, fun hn => by omega⟩
  · obtain ⟨b, o, rfl, hlt, hc⟩ := h.at (k := 0) (by omega)
    have h1 := hc 0 (by omega)
    unfold World.cell? at h1
    cases hb : w.heap[b]? with
    | none => simp [hb] at h1
    | some ob =>
      cases ob with
      | cells cs t fr =>
        refine ⟨t, h.1, fun _ => ⟨b, o, cs, fr, rfl, hG b hlt, hb, fun j hj => ?_⟩⟩
        have h2 := hc j hj
        simpa [World.cell?, hb] using h2
      | _ => simp [hb] at h1
end

section
variable {P : Program} (w : World)
theorem run_append_of_nil (base : Nat) (t ty e : TypeId) (i : TypeInfo) (size : Nat) (ht : P.underlying t = some (.slice e)) (hi : P.info? e = some i)
    (v : Value) (n : Nat) (xs : List Value) (hown : w.ownsRow base e size v n xs) (c : Nat) : (Builtin.append_ #[t, t] ty #[v, .slice none 0 c]).run P w = .ok v w := by
  rcases hown.2 with ⟨rfl, rfl⟩ | ⟨g, cap, cur, rfl, _, _, hnc, _⟩
  · simp [Builtin.append_, run_underlying ht, sizeOf, typeInfo, hi, Builtin.lenOf, Builtin.firstCells]
  · simp [Builtin.append_, run_underlying ht, sizeOf, typeInfo, hi, Builtin.lenOf, Builtin.firstCells, hnc, storeCells]
end
/-- append of a slice that reads as a list, nil too -/
theorem wpList_appendNt {P : Program} {α : Type} {f : α → Value} {ops : Array Oper} {rest : List Oper} {o : Oper} {a : Act} {Q : Exit → Act → World → Prop} {w : World} (hgd : o.guard = none) (s x : Operand) (t : TypeId)
    (ho : o.op = .call { callee := .builtin .append, args := #[s, x], argTypes := #[t, t] })
    {base : Nat} {e : TypeId} {z : Value} {bytes : Nat} (ht : SliceT P t e z bytes)
    {v : Value} {xs : List α} (hs : a.eval s = v) (hown : Own f base e w v xs)
    {A : Option Addr} {c : Nat} {ys : List α} (hx : a.eval x = .slice A ys.length c) (hys : Sl f w A ys) (h1 : ∀ u, (f u).oneCell' = true)
    (h63 : xs.length + ys.length ≤ maxLen) (hbytes : (xs.length + ys.length) * bytes ≤ 140737488355328) (hbase : base ≤ w.heap.size)
    (h : ∀ v' w', Own f base e w' v' (xs ++ ys) → w.grownBy w' v.ownBlock → wpList P ops Q rest (a.put o.dst v') w') : wpList P ops Q (o :: rest) a w := by
  obtain ⟨ht, hz1, i, hi, hz, hsz, hby⟩ := ht
  cases A with
  | none =>
    obtain rfl : ys = [] := by
      cases ys with
      | nil => rfl
      | cons x r => obtain ⟨b, o, e, _⟩ := hys.2 (by simp); cases e
    refine wpList_plain hgd fun K hK => ?_
    have hrun := run_append_of_nil (P := P) w base t o.type e i 1 ht hi v xs.length (xs.map f) hown c
    unfold Oper.wp execOp
    simp only [ho, resolve, invoke, builtin, Sem.run_bind, Sem.run_pure, Result.andThen_ok, List.map_toArray, List.map_cons, List.map_nil, hs, hx, List.length_nil, hrun]
    exact hK _ _ (h v w (by simpa using hown) (World.grownBy.refl w _))
  | some ad =>
    refine wpList_append_own (P := P) _ hgd s x t ho base e i z 1 bytes ht hi hz hsz hby hz1 (by decide) v xs.length (xs.map f) hs hown ad ys.length c (ys.map f) hx (by simp) ?_ ?_ h63 hbytes hbase ?_
    · intro j y hy
      have hj : j < ys.length := by
        rcases Nat.lt_or_ge j ys.length with h | h
        · exact h
        · rw [List.getElem?_eq_none (by simpa using h)] at hy; cases hy
      obtain ⟨b, o, e, hc⟩ := hys.2 (by omega)
      injection e with e
      subst e
      have e2 : (⟨b, o, none⟩ : Addr).add j = ⟨b, o + j, none⟩ := by
        unfold Addr.add; split
        · rename_i h0; subst h0; rfl
        · rfl
      rw [e2, hc j hj]
      simp [hj] at hy; rw [← hy]
    · intro y hy
      obtain ⟨u, _, rfl⟩ := List.mem_map.1 hy
      exact h1 u
    · intro v' w' ho' hgr _
      refine h v' w' ?_ hgr
      unfold Own; rw [List.length_append, List.map_append]; exact ho'
end Go.Proofs.Ytakebmbdcjbbgaa.Mem
