/- append(s, make([]T, k)...) onto a row of the call's own; copy into a row of the call's own. Over any program. -/
import Derived.Lib.AppendZerosOnto
import Derived.Laws.CopyOwn
import Derived.Laws.MakeOwn
import Derived.Test.YtifgajinfcihmaaGreatDoorJAa
namespace Go.Proofs.YtifgajinfcihmaaGreatDoor.Mem
open Go Go.RowKit Go.Lib
theorem zeroCells_one (z : Value) (k : Nat) : Builtin.zeroCells #[z] k = (List.replicate k z).toArray := by
 unfold Builtin.zeroCells
 apply Array.ext
 ·simp
 ·intro i h1 h2
  simp [Nat.mod_one]
section
variable {P : Program} (w : World)
theorem run_append_zeros_room (t tn ty e : TypeId) (i : TypeInfo) (z : Value) (kq kn : IntKind) (ht : P.underlying t = some (.slice e)) (htn : P.underlying tn = some (.int kn)) (hi : P.info? e = some i) (hz : i.zero = some z)
 (hsz : i.size = 1) (hz1 : z.cells = #[z]) (h1 : z.oneCell' = true)
 (g sLen sCap : Nat) (cur : Array Value) (hg : w.heap[g]? = some (.cells cur e (0, 0)))
 (k : Nat) (hk0 : 0 < k) (hroom : sLen + k ≤ sCap) (hfit : sLen + k ≤ cur.size) (h63 : k ≤ 9223372036854775807) (h48 : k * i.bytes ≤ 281474976710656) :
 (Builtin.append_ #[t, tn] ty #[.slice (some ⟨g, 0, none⟩) sLen sCap, .int kq k]).run P w =
  .ok (.slice (some ⟨g, 0, none⟩) (sLen + k) sCap) (w.setRow g (cur.toList.take sLen ++ List.replicate k z ++ cur.toList.drop (sLen + k)).toArray) := by
 have hst := run_storeCells_at P g sLen e (List.replicate k z) 0 cur w hg (by simpa using hfit) (fun v hv => by rw [List.eq_of_mem_replicate hv]; exact h1)
 simp only [Nat.add_zero, List.length_replicate] at hst
 have hw : IntKind.i64.wrap (k : Int) = k := by rw [IntKind.wrap_i64]; omega
 have hneg : ¬ ((k : Int) < 0) := by omega
 have h48i : ¬ (281474976710656 < (k : Int) * (i.bytes : Int)) := by rw [← Int.natCast_mul]; omega
 have hk : ¬ k = 0 := by omega
 simp [Builtin.append_, run_underlying ht, run_underlying htn, sizeOf, typeInfo, zeroValue, hi, hz, asInt, asIntOf, hw, hneg, hsz, h48i, hroom, hk, hz1, zeroCells_one, Addr.add_lit, hst]
theorem run_append_zeros_own {α : Type} {f : α → Value} (base : Nat) (t tn ty e : TypeId) (z : α) (kq kn : IntKind) {bytes : Nat} (ht : SliceT P t e (f z) bytes) (htn : P.underlying tn = some (.int kn))
 (hz1 : (f z).cells = #[f z]) (h1 : (f z).oneCell' = true) (v : Value) (xs : List α) (hown : Mem.Own f base e w v xs) (k : Nat) (hk0 : 0 < k) (h63 : xs.length + k ≤ maxLen) (hbytes : (xs.length + k) * bytes ≤ 140737488355328) (hbase : base ≤ w.heap.size) :
 ∃ v' w', (Builtin.append_ #[t, tn] ty #[v, .int kq k]).run P w = .ok v' w' ∧ Mem.Own f base e w' v' (xs ++ List.replicate k z) ∧ w.grownBy w' v.ownBlock := by
 obtain ⟨ht, _, i, hi, hz, hsz, hby⟩ := ht
 have h63' : k ≤ 9223372036854775807 := by unfold maxLen at h63; omega
 have h48 : k * i.bytes ≤ 281474976710656 := by
  rw [hby]; have := Nat.mul_le_mul_right bytes (show k ≤ xs.length + k by omega); omega
 have hlen : ((xs ++ List.replicate k z).map f).length = (xs.length + k) * 1 := by simp
 have hlen2 : (xs ++ List.replicate k z).length = xs.length + k := by simp
 rcases hown.2 with ⟨rfl, h0⟩ | ⟨g, cap, cur, rfl, hbg, hg, hnc, hcm, hcs, htake⟩
 ·have hx : xs = [] := List.eq_nil_of_length_eq_zero h0
  subst hx
  have hr := run_append_nil_zeros (P := P) w t tn ty e i (f z) kq kn ht htn hi hz k hk0 (by omega) (by omega) h48
  refine ⟨_, _, hr, ?_, ⟨rfl, rfl, rfl, by simp, fun j hj _ => (by first | exact heap_alloc_old w.drew _ j hj | exact heap_alloc_old w.drew _ hj)⟩⟩
  unfold Mem.Own
  rw [hlen2]
  refine ⟨hlen, .inr ⟨w.heap.size, grownCap w k 0 e, _, by simp, hbase, heap_alloc_new w.drew _, ?_, ?_, ?_, ?_⟩⟩
  ·rw [List.length_nil, Nat.zero_add]; exact grownCap_ge w k 0 e
  ·refine grownCap_le_maxLen w k 0 e ?_; simpa using h63
  ·rw [hz1]; simp [zeroCells_one]; have := grownCap_ge w k 0 e; omega
  ·rw [hz1]; simp [zeroCells_one]
 ·have hcur : cur.size = cap := by omega
  by_cases hroom : xs.length + k ≤ cap
  ·have hr := run_append_zeros_room (P := P) w t tn ty e i (f z) kq kn ht htn hi hz hsz hz1 h1 g xs.length cap cur hg k hk0 hroom (by omega) h63' h48
   refine ⟨_, _, hr, ?_, ⟨rfl, rfl, rfl, by simp, fun j _ hj => setRow_other w g j _ (fun e => hj (by simp [Value.ownBlock, e]))⟩⟩
   unfold Mem.Own
   rw [hlen2]
   refine ⟨hlen, .inr ⟨g, cap, _, rfl, hbg, setRow_heap w g cur _ e _ hg, hroom, hcm, ?_, ?_⟩⟩
   ·simp; omega
   ·rw [Nat.mul_one] at htake
    rw [htake, Nat.mul_one]
    have e2 : (xs.length + k) = (List.map f xs ++ List.replicate k (f z)).length := by simp
    rw [e2, List.take_left]
    simp
  ·have holds : ∀ j u, (xs.map f)[j]? = some u → w.cell? ((⟨g, 0, none⟩ : Addr).add j) = some u := World.ownsRow.cells hown (g := g) rfl
   have hfc : (Builtin.firstCells i.size xs.length (.slice (some ⟨g, 0, none⟩) xs.length cap)).run P w.drew = .ok (xs.map f).toArray w.drew :=
    run_firstCells_some (P := P) w.drew i.size xs.length ⟨g, 0, none⟩ xs.length cap (xs.map f) (by rw [hsz]; simp) (fun j u hj => holds j u hj)
   have hfit := growslice_fits (need := xs.length + k) (old := cap) (bytes := bytes) (by omega) hbytes
   have hr := run_append_grow_zeros (P := P) w t tn ty e i (f z) kq kn ht htn hi hz (some ⟨g, 0, none⟩) xs.length cap (xs.map f) hfc k hk0 (by omega) (by omega) (by unfold maxLen at h63; omega) h48 (by rw [hby]; exact hfit)
   refine ⟨_, _, hr, ?_, ⟨rfl, rfl, rfl, by simp, fun j hj _ => (by first | exact heap_alloc_old w.drew _ j hj | exact heap_alloc_old w.drew _ hj)⟩⟩
   unfold Mem.Own
   rw [hlen2]
   refine ⟨hlen, .inr ⟨w.heap.size, _, _, rfl, hbase, heap_alloc_new w.drew _, grownCap_ge w _ cap e, grownCap_le_maxLen w _ cap e h63, ?_, ?_⟩⟩
   ·rw [hz1]; simp [zeroCells_one]; have := grownCap_ge w (xs.length + k) cap e; omega
   ·rw [hz1, Nat.mul_one]; simp only [zeroCells_one, Array.toList_append, List.append_assoc]
    have e2 : (xs.length + k) = (List.map f xs ++ List.replicate k (f z)).length := by simp
    rw [← List.append_assoc, e2, List.take_left]
    simp
end
theorem wpList_append0 {P : Program} {α : Type} {f : α → Value} {ops : Array Oper} {rest : List Oper} {o : Oper} {a : Act} {Q : Exit → Act → World → Prop} {w : World} (hgd : o.guard = none) (s x : Operand) (t tn : TypeId)
 (ho : o.op = .call { callee := .builtin .append, args := #[s, x], argTypes := #[t, tn] })
 {base : Nat} {e : TypeId} {bytes : Nat} {kn kq : IntKind} (z : α) (ht : SliceT P t e (f z) bytes) (htn : P.underlying tn = some (.int kn)) (hz1 : (f z).cells = #[f z]) (h1 : (f z).oneCell' = true)
 {v : Value} {xs : List α} (hs : a.eval s = v) (hown : Mem.Own f base e w v xs) {k : Nat} (hx : a.eval x = .int kq k) (hk0 : 0 < k)
 (h63 : xs.length + k ≤ maxLen) (hbytes : (xs.length + k) * bytes ≤ 140737488355328) (hbase : base ≤ w.heap.size)
 (h : ∀ v' w', Mem.Own f base e w' v' (xs ++ List.replicate k z) → Below base w w' → wpList P ops Q rest (a.put o.dst v') w') : wpList P ops Q (o :: rest) a w := by
 obtain ⟨v', w', hr, h2, h3⟩ := run_append_zeros_own (P := P) w base t tn o.type e z kq kn ht htn hz1 h1 v xs hown k hk0 h63 hbytes hbase
 exact wpList_append_run w hgd s x t tn ho v (.int kq k) hs hx v' w' hr (h v' w' h2 ((Below.refl _ _).grown h3 hbase (fun k hk => (hown.lt k hk).1)))
theorem wpList_copy1 {P : Program} {α : Type} {f : α → Value} {ops : Array Oper} {rest : List Oper} {o : Oper} {a : Act} {Q : Exit → Act → World → Prop} {w : World} (hgd : o.guard = none) (d s : Operand) (t : TypeId)
 (ho : o.op = .call { callee := .builtin .copy, args := #[d, s], argTypes := #[t, t] })
 {base : Nat} {e : TypeId} {z : Value} {bytes : Nat} (ht : SliceT P t e z bytes) (h1 : ∀ u, (f u).oneCell' = true)
 {g cap : Nat} {xs : List α} (hown : Mem.Own f base e w (.slice (some ⟨g, 0, none⟩) xs.length cap) xs) {off dLen dCap : Nat} {dp : Option Addr} (hd : a.eval d = .slice dp dLen dCap) (hdp : 0 < dLen → dp = some ⟨g, off, none⟩)
 {A : Option Addr} {c : Nat} {ys : List α} (hx : a.eval s = .slice A ys.length c) (hys : Sl f w A ys) (hfit : ys.length ≤ dLen) (hoff : off + ys.length ≤ xs.length) (_hbase : base ≤ w.heap.size)
 (h : ∀ w', Mem.Own f base e w' (.slice (some ⟨g, 0, none⟩) xs.length cap) (xs.take off ++ ys ++ xs.drop (off + ys.length)) → Below base w w' → wpList P ops Q rest (a.put o.dst (.int .i64 ys.length)) w') : wpList P ops Q (o :: rest) a w := by
 obtain ⟨ht, _, i, hi, hz, hsz, hby⟩ := ht
 rcases hown.2 with ⟨hv, h0⟩ | ⟨g', cap', cur, hv, hbg, hg, hnc, hcm, hcs, htake⟩
 ·injection hv with hv; cases hv
 injection hv with hv1 _ hv2
 injection hv1 with hv1; injection hv1 with hv1
 subst hv1; subst hv2
 rw [Nat.mul_one] at htake hcs
 have hcl : cur.toList.length = cap := by simpa using hcs
 refine wpList_copy_splice (P := P) hgd d s t t ho e ht (by rw [hi]; simp [hsz]) dp A dLen dCap ys.length c hd hx g off cur.toList e (by simpa using hg) (ys.map f) (by rw [List.length_map]; exact (Nat.min_eq_left hfit).symm) ?_ (by simp; omega) (fun v hv => by obtain ⟨u, _, rfl⟩ := List.mem_map.1 hv; exact h1 u) base w (Below.refl _ _) hbg ?_
 ·intro h0
  have h0 : 0 < ys.length := by simpa using h0
  obtain ⟨b, o', e2, hc⟩ := hys.2 h0
  refine ⟨hdp (by omega), ⟨b, o', none⟩, e2, fun j v hj => ?_⟩
  have hjl : j < ys.length := by
   rcases Nat.lt_or_ge j ys.length with h | h
   ·exact h
   ·rw [List.getElem?_eq_none (by simpa using h)] at hj; cases hj
  have e3 : (⟨b, o', none⟩ : Addr).add j = ⟨b, o' + j, none⟩ := by
   unfold Addr.add; split
   ·rename_i h0; subst h0; rfl
   ·rfl
  rw [e3, hc j hjl]
  simp [hjl] at hj; rw [← hj]
 ·intro w' hh hb
  have hh := hh.out
  have hm : (ys.map f).length = ys.length := by simp
  have hgo : goInt ((ys.map f).length : Nat) = .int .i64 ys.length := by rw [hm]; rfl
  rw [hgo]
  refine h w' ?_ hb
  have hl2 : (xs.take off ++ ys ++ xs.drop (off + ys.length)).length = xs.length := by simp; omega
  unfold Mem.Own
  rw [hl2]
  refine ⟨by simp; omega, .inr ⟨g, cap, _, rfl, hbg, hh, hnc, hcm, ?_, ?_⟩⟩
  ·rw [List.size_toArray, length_splice _ _ _ (by simp; omega)]; omega
  ·rw [Nat.mul_one]
   show List.take xs.length (splice cur.toList off (ys.map f)) = _
   have hcur : cur.toList = xs.map f ++ cur.toList.drop xs.length := by rw [← htake]; exact (List.take_append_drop _ _).symm
   unfold splice
   rw [hm]
   generalize List.drop xs.length cur.toList = J at hcur
   have e1 : List.take off (List.map f xs ++ J) = List.take off (List.map f xs) := List.take_append_of_le_length (by simp; omega)
   have e2 : List.drop (off + ys.length) (List.map f xs ++ J) = List.drop (off + ys.length) (List.map f xs) ++ J := List.drop_append_of_le_length (by simp; omega)
   rw [hcur, e1, e2, ← List.append_assoc, ← List.append_assoc]
   rw [List.take_left' (by simp; omega)]
   simp [List.map_take, List.map_drop]
end Go.Proofs.YtifgajinfcihmaaGreatDoor.Mem
namespace Go.Proofs.YtifgajinfcihmaaGreatDoor.Mem
open Go Go.RowKit Go.Maps Go.Lib
section
variable {α β : Type} {f : α → Value} {f' : β → Value} {e e' : TypeId} {F G : Nat → Prop} {w w' : World} {v : Value} {A : Option Addr} {xs : List α} {ys : List β} {base : Nat}
theorem SlB.apart (h : SlB f' e' G w A ys) (ho : Mem.Own f base e w v xs) (hne : e' ≠ e) (hg : w.grownBy w' v.ownBlock) : SlB f' e' G w' A ys :=
 h.keep fun g cur fr _ hgb => hg.block g (by
  rcases Nat.lt_or_ge g w.heap.size with hl | hl
  ·exact hl
  ·rw [Array.getElem?_eq_none hl] at hgb; cases hgb) (fun hk => by
   rcases ho.2 with ⟨hv, _⟩ | ⟨g', cap, cur', hv, _, hh, _⟩
   ·rw [hv] at hk; simp [Value.ownBlock] at hk
   ·rw [hv] at hk; simp [Value.ownBlock] at hk
    subst hk
    rw [hh] at hgb
    injection hgb with h1; injection h1 with _ h2
    exact hne h2.symm)
theorem Blk.apart {g : Nat} {t : TypeId} {cs : Array Value} (h : Blk w g t cs) (ho : Mem.Own f base e w v xs) (hne : t ≠ e) (hg : w.grownBy w' v.ownBlock) : Blk w' g t cs :=
 (hg.block g h.lt (fun hk => by
  unfold Blk at h
  rcases ho.2 with ⟨hv, _⟩ | ⟨g', cap, cur', hv, _, hh, _⟩
  ·rw [hv] at hk; simp [Value.ownBlock] at hk
  ·rw [hv] at hk; simp [Value.ownBlock] at hk
   subst hk
   rw [hh] at h
   injection h with h1; injection h1 with _ h2
   exact hne h2.symm)).trans h
theorem Own.below_ (ho : Mem.Own f base e w v xs) (hb : base ≤ w.heap.size) (hg : w.grownBy w' v.ownBlock) : Below base w w' :=
 (Below.refl _ _).grown hg hb (fun k hk => (ho.lt k hk).1)
end
theorem wpList_append1t {P : Program} {α : Type} {f : α → Value} {ops : Array Oper} {rest : List Oper} {o : Oper} {a : Act} {Q : Exit → Act → World → Prop} {w0 : World} (hgd : o.guard = none) (s x : Operand) (t : TypeId)
 (ho : o.op = .call { callee := .builtin .append, args := #[s, x], argTypes := #[t, t] })
 {base : Nat} {e : TypeId} {z : Value} {bytes : Nat} (ht : SliceT P t e z bytes)
 {v : Value} {xs : List α} (u : α) (h1 : (f u).oneCell' = true) (hs : a.eval s = v) (hown : Mem.Own f base e w0 v xs)
 {g c : Nat} (hx : a.eval x = .slice (some ⟨g, 0, none⟩) 1 c) (hg : g = w0.heap.size)
 (h63 : xs.length + 1 ≤ maxLen) (hbytes : (xs.length + 1) * bytes ≤ 140737488355328) (hbase : base ≤ w0.heap.size)
 (h : ∀ v' w', Mem.Own f base e w' v' (xs ++ [u]) → (w0.alloc (.cells #[f u] e)).grownBy w' v.ownBlock → wpList P ops Q rest (a.put o.dst v') w') : wpList P ops Q (o :: rest) a (w0.alloc (.cells #[f u] e)) := by
 obtain ⟨ht, hz1, i, hi, hz, hsz, hby⟩ := ht
 subst hg
 have hcell : (w0.alloc (.cells #[f u] e)).cell? ⟨w0.heap.size, 0, none⟩ = some (f u) := by
  have := heap_alloc_new w0 (.cells #[f u] e)
  unfold World.cell?
  simp only [this]; rfl
 refine wpList_append_own (P := P) _ hgd s x t ho base e i z 1 bytes ht hi hz hsz hby hz1 (by decide) v xs.length (xs.map f) hs (hown.alloc _) ⟨w0.heap.size, 0, none⟩ 1 c [f u] hx rfl ?_ ?_ h63 hbytes ?_ ?_
 ·intro j y hy
  match j, hy with
  | 0, hy => simp at hy; subst hy; exact hcell
  | j + 1, hy => simp at hy
 ·intro y hy; simp at hy; subst hy; exact h1
 ·rw [World.size_alloc]; omega
 ·intro v' w' ho' hgr _
  refine h v' w' ?_ hgr
  unfold Mem.Own; rw [List.length_append, List.map_append]; exact ho'
theorem wpList_append0t {P : Program} {α : Type} {f : α → Value} {ops : Array Oper} {rest : List Oper} {o : Oper} {a : Act} {Q : Exit → Act → World → Prop} {w : World} (hgd : o.guard = none) (s x : Operand) (t tn : TypeId)
 (ho : o.op = .call { callee := .builtin .append, args := #[s, x], argTypes := #[t, tn] })
 {base : Nat} {e : TypeId} {bytes : Nat} {kn kq : IntKind} (z : α) (ht : SliceT P t e (f z) bytes) (htn : P.underlying tn = some (.int kn)) (hz1 : (f z).cells = #[f z]) (h1 : (f z).oneCell' = true)
 {v : Value} {xs : List α} (hs : a.eval s = v) (hown : Mem.Own f base e w v xs) {k : Nat} (hx : a.eval x = .int kq k) (hk0 : 0 < k)
 (h63 : xs.length + k ≤ maxLen) (hbytes : (xs.length + k) * bytes ≤ 140737488355328) (hbase : base ≤ w.heap.size)
 (h : ∀ v' w', Mem.Own f base e w' v' (xs ++ List.replicate k z) → w.grownBy w' v.ownBlock → wpList P ops Q rest (a.put o.dst v') w') : wpList P ops Q (o :: rest) a w := by
 obtain ⟨v', w', hr, h2, h3⟩ := run_append_zeros_own (P := P) w base t tn o.type e z kq kn ht htn hz1 h1 v xs hown k hk0 h63 hbytes hbase
 exact wpList_append_run w hgd s x t tn ho v (.int kq k) hs hx v' w' hr (h v' w' h2 h3)
theorem grownBy_setRow (w : World) (g : Nat) (cs : Array Value) : w.grownBy (w.setRow g cs) (some g) :=
 ⟨rfl, rfl, rfl, by simp [World.setRow], fun k _ hn => setRow_other w g k cs (fun e => hn (by rw [e]))⟩
theorem wpList_copyt {P : Program} {α : Type} {f : α → Value} {ops : Array Oper} {rest : List Oper} {o : Oper} {a : Act} {Q : Exit → Act → World → Prop} {w : World} (hgd : o.guard = none) (d s : Operand) (t : TypeId)
 (ho : o.op = .call { callee := .builtin .copy, args := #[d, s], argTypes := #[t, t] })
 {base : Nat} {e : TypeId} {z : Value} {bytes : Nat} (ht : SliceT P t e z bytes) (h1 : ∀ u, (f u).oneCell' = true)
 {v : Value} {xs : List α} (hown : Mem.Own f base e w v xs) {off dLen dCap : Nat} {dp : Option Addr} (hd : a.eval d = .slice dp dLen dCap) (hdp : 0 < dLen → ∃ g n cap, v = .slice (some ⟨g, 0, none⟩) n cap ∧ dp = some ⟨g, off, none⟩)
 {A : Option Addr} {c : Nat} {ys : List α} (hx : a.eval s = .slice A ys.length c) (hys : Sl f w A ys) (hfit : ys.length ≤ dLen) (hoff : off + ys.length ≤ xs.length)
 (h : ∀ w', Mem.Own f base e w' v (xs.take off ++ ys ++ xs.drop (off + ys.length)) → w.grownBy w' v.ownBlock → wpList P ops Q rest (a.put o.dst (.int .i64 ys.length)) w') : wpList P ops Q (o :: rest) a w := by
 obtain ⟨ht, _, i, hi, hz, hsz, hby⟩ := ht
 by_cases h0 : ys.length = 0
 ·obtain rfl : ys = [] := List.eq_nil_of_length_eq_zero h0
  refine wpList_copy_nothing hgd d s t t ho e ht (by rw [hi]; simp [hsz]) dp A dLen dCap 0 c hd hx (by exact Nat.zero_min _) ?_
  have := h w (by simpa using hown) (World.grownBy.refl w _)
  exact this
 obtain ⟨g, n, cap, rfl, rfl⟩ := hdp (by omega)
 obtain ⟨b, o', rfl, hc⟩ := hys.2 (by omega)
 rcases hown.2 with ⟨hv, _⟩ | ⟨g', cap', cur, hv, hbg, hg, hnc, hcm, hcs, htake⟩
 ·cases hv
 injection hv with hv1 hv3 hv2
 injection hv1 with hv1; injection hv1 with hv1
 subst hv1; subst hv2; subst hv3
 rw [Nat.mul_one] at htake hcs
 have hcl : cur.toList.length = cap := by simpa using hcs
 have hm : (ys.map f).length = ys.length := by simp
 refine wpList_copy_own (P := P) hgd d s t t ho e ht (by rw [hi]; simp [hsz]) g off dLen dCap ⟨b, o', none⟩ ys.length c hd hx cur e hg (ys.map f) (by rw [hm]; exact (Nat.min_eq_left hfit).symm) ?_ (by rw [hm]; omega) (fun v hv => by obtain ⟨u, _, rfl⟩ := List.mem_map.1 hv; exact h1 u) ?_
 ·intro j v hj
  have hjl : j < ys.length := by
   rcases Nat.lt_or_ge j ys.length with h | h
   ·exact h
   ·rw [List.getElem?_eq_none (by simpa using h)] at hj; cases hj
  have e3 : (⟨b, o', none⟩ : Addr).add j = ⟨b, o' + j, none⟩ := by
   unfold Addr.add; split
   ·rename_i h0; subst h0; rfl
   ·rfl
  rw [e3, hc j hjl]
  simp [hjl] at hj; rw [← hj]
 ·have hgo : goInt ((ys.map f).length : Nat) = .int .i64 ys.length := by rw [hm]; rfl
  rw [hgo]
  refine h _ ?_ (grownBy_setRow w g _)
  have hlt : g < w.heap.size := by
   rcases Nat.lt_or_ge g w.heap.size with hl | hl
   ·exact hl
   ·rw [Array.getElem?_eq_none hl] at hg; cases hg
  have hl2 : (xs.take off ++ ys ++ xs.drop (off + ys.length)).length = xs.length := by simp; omega
  unfold Mem.Own
  rw [hl2]
  refine ⟨by simp; omega, .inr ⟨g, cap, _, rfl, hbg, setRow_heap w g cur _ e (0, 0) hg, hnc, hcm, ?_, ?_⟩⟩
  ·simp; omega
  ·rw [Nat.mul_one]
   have hcur : cur.toList = xs.map f ++ cur.toList.drop xs.length := by rw [← htake]; exact (List.take_append_drop _ _).symm
   rw [hm]
   generalize List.drop xs.length cur.toList = J at hcur
   have e1 : List.take off (List.map f xs ++ J) = List.take off (List.map f xs) := List.take_append_of_le_length (by simp; omega)
   have e2 : List.drop (off + ys.length) (List.map f xs ++ J) = List.drop (off + ys.length) (List.map f xs) ++ J := List.drop_append_of_le_length (by simp; omega)
   show List.take xs.length (cur.toList.take off ++ (ys.map f ++ cur.toList.drop (off + ys.length))) = _
   rw [hcur, e1, e2, ← List.append_assoc, ← List.append_assoc]
   rw [List.take_left' (by simp; omega)]
   simp [List.map_take, List.map_drop]
end Go.Proofs.YtifgajinfcihmaaGreatDoor.Mem
namespace Go.Proofs.YtifgajinfcihmaaGreatDoor.Mem
open Go Go.RowKit Go.Maps Go.Lib
section
variable {α : Type} {f : α → Value} {w w' : World} {v : Value} {xs : List α} {base : Nat} {e : TypeId}
theorem Own.below (ho : Mem.Own f base e w v xs) (hb : Below w.heap.size w w') : Mem.Own f base e w' v xs := by
 obtain ⟨h1, h2⟩ := ho
 refine ⟨h1, ?_⟩
 rcases h2 with h2 | ⟨g, cap, cur, a, b, hh, c⟩
 ·exact .inl h2
 ·have hlt : g < w.heap.size := by
   rcases Nat.lt_or_ge g w.heap.size with hl | hl
   ·exact hl
   ·rw [Array.getElem?_eq_none hl] at hh; cases hh
  exact .inr ⟨g, cap, cur, a, b, (hb.block g hlt).trans hh, c⟩
theorem SlB.any {A : Option Addr} (h : Sl f w A xs) {G : Nat → Prop} (hG : ∀ g, g < w.heap.size → G g) : ∃ e, SlB f e G w A xs := by
 by_cases h0 : xs.length = 0
 ·exact ⟨0, h.1, fun hn => by omega⟩
 ·obtain ⟨b, o, rfl, hlt, hc⟩ := h.at (k := 0) (by omega)
  have h1 := hc 0 (by omega)
  unfold World.cell? at h1
  cases hb : w.heap[b]? with
  | none => simp [hb] at h1
  | some ob =>
    cases ob with
    | cells cs t fr =>
      refine ⟨t, h.1, fun _ => ⟨b, o, cs, fr, rfl, hG b hlt, hb, fun j hj => ?_⟩⟩
      have h2 := hc j hj
      simpa [World.cell?, hb] using h2
    | _ => simp [hb] at h1
end
end Go.Proofs.YtifgajinfcihmaaGreatDoor.Mem
