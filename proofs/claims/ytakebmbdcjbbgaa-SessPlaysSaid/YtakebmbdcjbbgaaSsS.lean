/- Layer 13: Sessions, Kept. -/
import Derived.Test.YtakebmbdcjbbgaaLibK
import Derived.Test.YtakebmbdcjbbgaaSsR
import Derived.Test.YtakebmbdcjbbgaaSsI
import Derived.Test.YtakebmbdcjbbgaaSrt
import Derived.Shelf.Abstract
namespace Go.Proofs.Ytakebmbdcjbbgaa
open Go Go.RowKit Go.Maps Go.Sort Go.Lib Go.Shelf Mem Ss

theorem sortsS (m : Nat) : AnyZI.SortsIn Try.prog Try.sortedS_ren Fence.wide m :=
  ⟨fun blk off cap ss W hH hblk hsz => callsIn_wide.2 (AnyM.slices_Sort_int Try.sortS blk off cap ss W hH hblk hsz),
   fun p cap W => callsIn_wide.2 (AnyM.slices_Sort_int_none Try.sortS p cap W)⟩
theorem keysS_any (mb : Option Nat) (W : World) : CallsIn Fence.wide 5 Try.prog 32 #[.map mb] W fun e w' => e = .returned (.func (.func 56) #[] #[.pointer (some ⟨W.heap.size, 0, none⟩)]) ∧ w' = W.alloc (.cells #[.map mb] 65) :=
  AnyZI.keys_in Try.keysS Fence.wide 5 trivial rfl mb W
set_option maxHeartbeats 1000000 in
theorem sortedS_any {H : Type} (b nn : Nat) (D0 : DataW H) (R : Value → Option (DataW H × List MemPlace)) (w : World) (hown : w.ownsMap Try.prog 2 R b nn D0) (hmax : Maps.size D0 ≤ maxLen) (hbytes : Maps.size D0 * 8 ≤ 140737488355328) :
    CallsIn Fence.wide 5 Try.prog 31 #[.func (.func 56) #[] #[.pointer (some ⟨w.heap.size, 0, none⟩)]] (w.alloc (.cells #[.map (some b)] 65)) fun e w' => ∃ (v : Value) (ss : List Int), e = .returned v ∧ ss.Perm (intKeys D0) ∧
      w'.ownsRow (w.alloc (.cells #[.map (some b)] 65)).heap.size 2 1 v ss.length ((ss.mergeSort (fun x y => decide (x ≤ y))).map encZ) ∧ (v = .slice none 0 0 ↔ ss = []) ∧ Below (w.alloc (.cells #[.map (some b)] 65)).heap.size (w.alloc (.cells #[.map (some b)] 65)) w' := by
  have hbl := hown.lt
  have hseq : SeqGives Fence.wide 2 Try.prog 56 #[.pointer (some ⟨w.heap.size, 0, none⟩)] encZ (fun ss => ss.Perm (intKeys D0)) (Maps.size D0) (w.alloc (.cells #[.map (some b)] 65)) :=
    AnyZI.keys_gives (ρ := Try.keysS_ren) { Try.keysS with } Fence.wide _ trivial rfl (by omega) w.heap.size b nn D0 _ (by simp) (by simp) (by
      obtain ⟨es, clock, hb, Ft, hs, hD⟩ := hown
      exact ⟨es, clock, (Below.heap_alloc _ _ b hbl).trans hb, Ft, hs, hD⟩)
  exact AnyZI.sorted_in Try.sortedS Fence.wide 5 trivial trivial trivial trivial rfl (by omega) (sortsS _) (enters_of Try.func55 (by kernel_rfl) rfl) 56 #[.pointer (some ⟨w.heap.size, 0, none⟩)] trivial (enters_of Try.func56 (by kernel_rfl) rfl) _ _ hmax hbytes _ hseq
theorem sorted_int {l m : List Int} (h : l.Pairwise (· < ·)) (hp : m.Perm l) : m.mergeSort (fun x y => decide (x ≤ y)) = l := by
  refine List.Perm.eq_of_pairwise (le := fun a b => decide (a ≤ b) = true) (fun a b _ _ h1 h2 => by simp at h1 h2; omega) ?_ (h.imp fun {a b} h => by simp; omega) ((List.mergeSort_perm _ _).trans hp)
  exact List.pairwise_mergeSort (fun a b c h1 h2 => by simp at *; omega) (fun a b => by simp; omega) m
theorem intKeys_entries (rs : List Rec) : intKeys (DataW.map (rs.map entry)) = (rs.map Rec.s).map Sn.id := by
  unfold intKeys
  show (rs.map entry).map (fun p => Go.intOf p.1) = _
  rw [List.map_map, List.map_map]; rfl
theorem Mem.Own.baseI {w : World} {v : Value} {xs : List Int} {base base' : Nat} {e : TypeId} (h : Own fI base e w v xs) (hb : base' ≤ base) : Own fI base' e w v xs := by
  obtain ⟨h1, h2⟩ := h
  refine ⟨h1, ?_⟩
  rcases h2 with h2 | ⟨g, cap, cur, a, b, c⟩
  · exact .inl h2
  · exact .inr ⟨g, cap, cur, a, Nat.le_trans hb b, c⟩
def SessP (xs : List Int) (w : World) (e : Ending) (w' : World) : Prop :=
  ∃ A c, e = .returned (.slice A xs.length c) ∧ Mem.Own fI w.heap.size 2 w' (.slice A xs.length c) xs ∧ Below w.heap.size w w'
set_option maxHeartbeats 400000 in
theorem Sessions_any {base : Nat} {w : World} {p : Nat} {t : Tb} (h : TabAt base w p t) :
    Calls Try.prog 12 #[.pointer (some ⟨p, 0, none⟩)] w (SessP (t.map Sn.id) w) := by
  obtain ⟨mb, rs, h⟩ := h
  have hown := h.map
  have c0 : w.cell? ⟨p, 0, none⟩ = some (.map (some mb)) := h.blk.cell 0
  have hct : Maps.size (DataW.map (rs.map entry)) ≤ 16 := by
    have := h.ok.few
    rw [← h.sess, List.length_map] at this
    rw [Maps.size_eq, List.length_map]; exact this
  have h1 : Maps.size (DataW.map (rs.map entry)) ≤ maxLen := by unfold maxLen; omega
  have h2 : Maps.size (DataW.map (rs.map entry)) * 8 ≤ 140737488355328 := by omega
  have hk := (callsIn_wide (n := 5)).1 (keysS_any (some mb) w)
  have hs := (callsIn_wide (n := 5)).1 (sortedS_any mb rs.length _ ptrR w hown h1 h2)
  have hso : (t.map Sn.id).Pairwise (· < ·) := by rw [List.pairwise_map]; exact h.ok.rise
  have hkeys : intKeys (DataW.map (rs.map entry)) = t.map Sn.id := by rw [intKeys_entries, h.sess]
  have HK := Lib.hid hk; clear hk
  have HS := Lib.hid hs; clear hs
  have HKEYS := Lib.hid hkeys; clear hkeys
  have HSO := Lib.hid hso; clear hso
  obtain ⟨ids, hids⟩ : ∃ z, z = t.map Sn.id := ⟨_, rfl⟩
  rw [← hids] at HSO HKEYS ⊢
  clear h1 h2 hct h hown hids
  go_enter Try.func12, Try.ntmps12
  go_wp2_with fail
  (with_reducible refine HK.out.mono ?_); rintro e w1 ⟨rfl, rfl⟩
  go_wp2_with fail
  (with_reducible refine HS.out.mono ?_); rintro e w2 ⟨v, ss, rfl, hperm, hrow, _, hb⟩
  have hss : ss.mergeSort (fun x y => decide (x ≤ y)) = ids := sorted_int HSO.out (by rw [← HKEYS.out]; exact hperm)
  have hl : ss.length = ids.length := by rw [← hss, List.length_mergeSort]
  rw [hss, hl] at hrow
  have ho : Mem.Own fI w.heap.size 2 w2 v ids := Mem.Own.baseI hrow (by simp)
  have HB := Lib.hid hb; clear hb
  have HO := Lib.hid ho; clear ho hrow hss hl
  obtain ⟨A, c, rfl⟩ := HO.out.form
  go_wp2_with fail
  go_ret
  exact ⟨A, c, rfl, HO.out, ((Below.refl _ _).alloc (Nat.le_refl _) _).trans (HB.out.mono (by simp))⟩
/-- append of a row of structs onto an empty one -/
theorem wpList_appendKN {P : Program} {α : Type} {k : Nat} {f : α → List Value} {ops : Array Oper} {rest : List Oper} {o : Oper} {a : Act} {Q : Exit → Act → World → Prop} {w : World} (hgd : o.guard = none) (s x : Operand) (t : TypeId)
    (ho : o.op = .call { callee := .builtin .append, args := #[s, x], argTypes := #[t, t] })
    {base : Nat} {e : TypeId} {z : Value} {bytes : Nat} (ht : SliceTK P t e z k bytes)
    {v : Value} {xs : List α} (us : List α) (hk : ∀ u, (f u).length = k) (h1 : ∀ u, ∀ y ∈ f u, y.oneCell' = true) (hs : a.eval s = v) (hown : OwnK k f base e w v xs)
    {ad : Addr} {c : Nat} {F : Nat → Prop} {e' : TypeId} (hx : a.eval x = .slice (some ad) us.length c) (hsl : SlK k f e' F w (some ad) us)
    (h63 : xs.length + us.length ≤ maxLen) (hbytes : (xs.length + us.length) * bytes ≤ 140737488355328) (hbase : base ≤ w.heap.size)
    (h : ∀ v' w', OwnK k f base e w' v' (xs ++ us) → w.grownBy w' v.ownBlock → (v' = .slice none 0 0 ↔ v = .slice none 0 0 ∧ us.length = 0) → wpList P ops Q rest (a.put o.dst v') w') : wpList P ops Q (o :: rest) a w := by
  obtain ⟨ht, hz1, hk0, i, hi, hz, hsz, hby⟩ := ht
  refine wpList_append_own (P := P) _ hgd s x t ho base e i z k bytes ht hi hz hsz hby hz1 hk0 v xs.length (xs.flatMap f) hs hown ad us.length c (us.flatMap f) hx (flatMap_len hk us) ?_ ?_ h63 hbytes hbase ?_
  · intro j u hj
    have hjl : j < us.length * k := by
      rw [← flatMap_len hk us]
      exact (List.getElem?_eq_some_iff.1 hj).1
    have hq : j / k < us.length := by rw [Nat.div_lt_iff_lt_mul hk0]; exact hjl
    obtain ⟨b, o', hA, -, -, hc⟩ := hsl.at hq
    injection hA with hA
    have hm : j % k < k := Nat.mod_lt _ hk0
    have h2 := hc (j % k) hm
    have hj2 : j / k * k + j % k = j := Nat.div_add_mod' j k
    rw [← flatMap_get hk us hq hm, hj2] at h2
    rw [hA]
    have e2 : (⟨b, o', none⟩ : Addr).add j = ⟨b, o' + j, none⟩ := by
      unfold Addr.add; split
      · rename_i h0; subst h0; rfl
      · simp
    rw [e2, ← hj, ← h2]
    congr 2
    omega
  · intro u hu
    obtain ⟨y, -, hy⟩ := List.mem_flatMap.1 hu
    exact h1 y u hy
  · intro v' w' ho' hgr hn
    refine h v' w' ?_ hgr hn
    unfold OwnK; rw [List.length_append, List.flatMap_append]; exact ho'
def KeptP (k : List It) (w : World) (e : Ending) (w' : World) : Prop :=
  ∃ A c, e = .returned (.slice A k.length c) ∧ OwnK 3 itN w.heap.size 76 w' (.slice A k.length c) k ∧ Below w.heap.size w w'
theorem Clone_it {F : Nat → Prop} (A : Option Addr) (c : Nat) (xs : List It) (hl : xs.length ≤ 1000000000) (w : World) (hs : SlK 3 itN 76 F w A xs) :
    Calls Try.prog 34 #[.slice A xs.length c] w (KeptP xs w) := by
  have hnil := fun (w : World) (a : Option Addr) (n c : Nat) => Lib.run_eql_slice_nil (P := Try.prog) w 38 76 a n c 0 0 Try.underlying38
  have hl1 : xs.length ≤ maxLen := by unfold maxLen; omega
  have hl2 : xs.length * 24 ≤ 140737488355328 := by omega
  have HL1 := Lib.hid hl1; clear hl1
  have HL2 := Lib.hid hl2; clear hl2
  cases A with
  | none =>
    obtain rfl : xs = [] := by
      cases xs with
      | nil => rfl
      | cons x r => obtain ⟨b, o, e, -⟩ := hs.at (j := 0) (by simp); cases e
    go_enter Try.func34, Try.ntmps34
    go_wp2_with fail
    go_ret
    exact ⟨none, 0, rfl, OwnK.nil, Below.refl _ _⟩
  | some ad =>
    go_enter Try.func34, Try.ntmps34
    go_wp2_with (at_builtin; refine wpList_appendKN (f := itN) rfl (.tmp 5) (.tmp 6) 38 rfl itT xs itN_len itN_one rfl (OwnK.mk_ (Nat.le_refl _)) rfl (hs.below ((Below.refl _ _).alloc (Nat.le_refl _) _)) (by rw [List.length_nil, Nat.zero_add]; exact HL1.out) (by rw [List.length_nil, Nat.zero_add]; exact HL2.out) (by simp) ?_; intro v1 w1 hown1 hg1 _; obtain ⟨A', c', rfl⟩ := hown1.form)
    go_ret
    rw [List.nil_append] at hown1
    have hb1 := OwnK.below_ (base := w.heap.size) (OwnK.mk_ (k := 3) (f := itN) (e := 76) (Nat.le_refl _)) (by rw [World.size_alloc]; omega) hg1
    exact ⟨A', c', rfl, hown1, ((Below.refl _ _).alloc (Nat.le_refl _) _).trans hb1⟩
theorem Kept_any {base : Nat} {w : World} {p : Nat} {t : Tb} (h : TabAt base w p t) (id : Int) (hid : (Lit.int .i64 id).wf = true) :
    Calls Try.prog 15 #[.pointer (some ⟨p, 0, none⟩), .int .i64 id] w (KeptP (keptT t id) w) := by
  obtain ⟨mb, rs, h⟩ := h
  have hlk := h.lookup id hid
  have c0 : w.cell? ⟨p, 0, none⟩ = some (.map (some mb)) := h.blk.cell 0
  have hf := h.find id
  obtain ⟨n, hn⟩ : ∃ n, n = keptT t id := ⟨_, rfl⟩
  rw [← hn]
  unfold keptT at hn
  cases hr : findR id rs with
  | none =>
    rw [hr] at hlk hf
    unfold ptrOf at hlk
    simp only at hlk
    rw [hf] at hn
    have hn0 : n = [] := hn
    subst hn0
    clear hn hf hr h
    go_enter Try.func15, Try.ntmps15
    go_wp2_with fail
    go_ret
    exact ⟨none, 0, rfl, OwnK.nil, Below.refl _ _⟩
  | some r =>
    rw [hr] at hlk hf
    unfold ptrOf at hlk
    simp only at hlk
    rw [hf] at hn
    have hn0 : n = r.s.kept := hn
    have hrm := (findR_some hr).2
    have d1 : w.cell? ⟨r.sb, 1, none⟩ = some (.slice r.A r.s.kept.length r.c) := (h.recs r hrm).1.cell 1
    have hlen := (h.okS hrm).kept.len
    have HC := Lib.hid (Clone_it r.A r.c r.s.kept (by omega) w (h.slK hrm))
    have HN := Lib.hid hn0
    clear hn hn0 hf hr h hrm hlen
    go_enter Try.func15, Try.ntmps15
    go_wp2_with fail
    (with_reducible refine HC.out.mono ?_); rintro e w1 ⟨A1, c1, rfl, ho, hb⟩
    go_wp2_with fail
    go_ret
    rw [HN.out]
    exact ⟨A1, c1, rfl, ho, hb⟩
end Go.Proofs.Ytakebmbdcjbbgaa
