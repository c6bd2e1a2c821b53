/- Layer 13: slices.Insert at a session's list. -/
import Derived.Test.YtakebmbdcjbbgaaSsF
import Derived.Test.YtakebmbdcjbbgaaRowK
import Derived.Lib.Overlaps
import Derived.Shelf.Spec.SlicesInsert
import Derived.Deep.RegionLaw
import Derived.Deep.DeepCutAuto
namespace Go.Proofs.Ytakebmbdcjbbgaa
open Go Go.RowKit Go.Maps Go.Lib Mem Ss

theorem itT : SliceTK Try.prog 38 76 (.agg #[.int .i64 0, .int .i64 0, .int .i64 0]) 3 24 := sliceTK_mk Try.underlying38 rfl (by decide) (by kernel_rfl)
theorem itSize (w : World) : (sizeOf 76).run Try.prog w = .ok 3 w := by kernel_rfl
theorem itInfo : (Try.prog.info? 76).map (·.size) = some 3 := by kernel_rfl
def partK (A : Option Addr) (c l : Nat) : Option Addr := if c = l then A else A.map (·.add (l * 3))
theorem cutK (A : Option Addr) (len cap l : Nat) (h1 : l ≤ len) (w : World) : (Instr.slice 38 (.slice A len cap) (some (.int .i64 (l : Int))) none none).run Try.prog w = .ok (.slice (partK A cap l) (len - l) (cap - l)) w := by
  have hu : Try.prog.underlying 38 = some (.slice 76) := Try.underlying38
  have he : Try.prog.elem 38 = 76 := by simp [Program.elem, hu]
  have hu' : Try.prog.underlying 38 = some (.slice (Try.prog.elem 38)) := by rw [he]; exact hu
  rw [run_slice_l w 38 A len cap hu' .i64 l (by omega) (by omega), he, itSize]
  show Result.ok (sliced A (l : Int).toNat len cap 3) w = _
  simp [sliced, partK]
def InsP (base : Nat) (v : Value) (ks : List It) (w : World) (e : Ending) (w' : World) : Prop :=
  ∃ v', e = .returned v' ∧ OwnK 3 itN base 76 w' v' ks ∧ w.grownBy w' v.ownBlock ∧ (v'.ownBlock = v.ownBlock ∨ ∃ g, v'.ownBlock = some g ∧ w.heap.size ≤ g)
theorem InsP.drew {base : Nat} {v : Value} {ks : List It} {w W : World} {e : Ending} (h : InsP base v ks w e W) : InsP base v ks w e W.drew := by
  obtain ⟨v', he, ho, hg, ha⟩ := h
  exact ⟨v', he, ho, ⟨hg.os, hg.tape, hg.output, hg.size, hg.block⟩, ha⟩
theorem blk_cells {w : World} {g : Nat} {t : TypeId} {l : List Value} (h : Blk w g t l.toArray) (j : Nat) (u : Value) (hj : l[j]? = some u) : w.cell? ((⟨g, 0, none⟩ : Addr).add j) = some u := by
  have e2 : (⟨g, 0, none⟩ : Addr).add j = ⟨g, j, none⟩ := by
    unfold Addr.add; split
    · rename_i h0; subst h0; rfl
    · simp
  rw [e2, h.cell j]
  simpa using hj
set_option maxRecDepth 100000 in
set_option maxHeartbeats 2000000 in
theorem Insert_end {base : Nat} {w : World} {v : Value} {ks : List It} (h : OwnK 3 itN base 76 w v ks) (hb : base ≤ w.heap.size) (hl : ks.length ≤ 100) (x : It) (xb : Nat) (hx : Blk w xb 76 (itN x).toArray) :
    Calls Try.prog 28 #[v, .int .i64 (ks.length : Int), .slice (some ⟨xb, 0, none⟩) 1 1] w (InsP base v (ks ++ [x]) w) := by
  obtain ⟨A, c, rfl⟩ := h.form
  have kk := cutK A ks.length c ks.length (Nat.le_refl _) w
  obtain ⟨ht, hz1, hk0, i, hi, hz, hsz, hby⟩ := itT
  have H := Lib.hid h; clear h
  have HB := Lib.hid hb; clear hb
  have HX := Lib.hid hx; clear hx
  have HI := Lib.hid hi; clear hi
  have HZ := Lib.hid hz; clear hz
  have HSZ := Lib.hid hsz; clear hsz
  have HBY := Lib.hid hby; clear hby
  have HL := Lib.hid hl
  have hlz : (0 : Int) ≤ (ks.length : Int) := by omega
  go_enter Try.func28, Try.ntmps28
  go_wp2_with (at_builtin; refine wpList_append_own_at (P := Try.prog) _ rfl (.tmp 23) (.tmp 24) 38 rfl base 76 i _ 3 24 Try.underlying38 HI.out HZ.out HSZ.out HBY.out rfl (by decide) _ ks.length (ks.flatMap itN) rfl H.out ⟨xb, 0, none⟩ 1 1 (itN x) rfl rfl (blk_cells HX.out) (itN_one x) (by have := HL.out; unfold maxLen; omega) (by have := HL.out; omega) HB.out ?_; intro v7 w7 ho7 hg7 _ hat7)
  go_ret
  refine ⟨_, rfl, ?_, hg7, ?_⟩
  · unfold OwnK
    rw [List.length_append, List.flatMap_append, List.flatMap_singleton]
    exact ho7
  · rcases hat7 with h | h
    · exact .inl h
    · exact .inr ⟨_, h, Nat.le_refl _⟩
theorem shape_blk {w : World} {g : Nat} {t : TypeId} {cs : Array Value} (h : Blk w g t cs) : w.shape? g = some (t, cs.size) := by unfold Blk at h; unfold World.shape?; rw [h]
theorem flat_take (ks : List It) (i : Nat) : (ks.take i).flatMap itN = (ks.flatMap itN).take (i * 3) := by
  induction ks generalizing i with
  | nil => simp
  | cons k r ih =>
    cases i with
    | zero => simp
    | succ i =>
      rw [List.take_succ_cons, List.flatMap_cons, List.flatMap_cons, ih, show (i + 1) * 3 = (itN k).length + i * 3 by rw [itN_len]; omega, List.take_length_add_append]
theorem ins_spl {cur : List Value} {ks : List It} {x : It} {i c : Nat} (hc : cur.length = c * 3) (ht : cur.take (ks.length * 3) = ks.flatMap itN) (hroom : ks.length + 1 ≤ c) (hi : i < ks.length) :
    (spl (spl cur ((i + 1) * 3) ((ks.drop i).flatMap itN)) (i * 3) (itN x)).take ((ks.take i ++ x :: ks.drop i).length * 3) = (ks.take i ++ x :: ks.drop i).flatMap itN := by
  have hL : ((ks.drop i).flatMap itN).length = (ks.length - i) * 3 := by rw [flatMap_len itN_len, List.length_drop]
  obtain ⟨L, hLe⟩ : ∃ L, L = (ks.drop i).flatMap itN := ⟨_, rfl⟩
  rw [← hLe] at hL ⊢
  have h1 : (spl cur ((i + 1) * 3) L).take (i * 3) = (ks.take i).flatMap itN := by
    unfold spl
    rw [List.append_assoc, List.take_append_of_le_length (by rw [List.length_take]; omega), List.take_take, Nat.min_eq_left (by omega), flat_take, ← ht, List.take_take, Nat.min_eq_left (by omega)]
  have h2 : (spl cur ((i + 1) * 3) L).drop (i * 3 + (itN x).length) = L ++ cur.drop ((i + 1) * 3 + L.length) := by
    unfold spl
    rw [itN_len, List.append_assoc, show i * 3 + 3 = (cur.take ((i + 1) * 3)).length by rw [List.length_take]; omega, List.drop_left]
  have h3 : spl (spl cur ((i + 1) * 3) L) (i * 3) (itN x) = ((ks.take i ++ x :: ks.drop i).flatMap itN) ++ cur.drop ((i + 1) * 3 + L.length) := by
    rw [spl, h1, h2, List.flatMap_append, List.flatMap_cons, ← hLe]
    simp
  rw [h3, ← flatMap_len itN_len, List.take_left]
set_option maxRecDepth 100000 in
set_option maxHeartbeats 4000000 in
/-- there is room -/
theorem Insert_room {base : Nat} {w : World} {b c : Nat} {ks : List It} (h : OwnK 3 itN base 76 w (.slice (some ⟨b, 0, none⟩) ks.length c) ks) (hl : ks.length ≤ 100) (hroom : ks.length + 1 ≤ c) (i : Nat) (hi : i < ks.length) (x : It) (xb : Nat) (hx : Blk w xb 76 (itN x).toArray) (hne : xb ≠ b) :
    Calls Try.prog 28 #[.slice (some ⟨b, 0, none⟩) ks.length c, .int .i64 (i : Int), .slice (some ⟨xb, 0, none⟩) 1 1] w (InsP base (.slice (some ⟨b, 0, none⟩) ks.length c) (ks.take i ++ x :: ks.drop i) w) := by
  obtain ⟨-, hbb, hnc, hcm, cur, hcur, hcs, hct⟩ := h.block
  obtain ⟨n, hn⟩ : ∃ n, n = ks.length := ⟨_, rfl⟩
  rw [← hn] at hroom hi hl hct ⊢
  have hz2 : ¬ ((i : Int) = (n : Int)) := by omega
  have hb2 : ¬ (c = i + 1) := by omega
  have hb3 : (i : Int) ≤ (n : Int) + 1 := by omega
  have hb4 : ¬ (c = i) := by omega
  have hin : i ≤ n := by omega
  have hc63 : c ≤ 9223372036854775807 := hcm
  have hov : ∀ o lb cb, (callFunc 51 #[.slice (some ⟨xb, 0, none⟩) 1 1, .slice (some ⟨b, o, none⟩) lb cb]).run Try.prog w = .ok (.value (.bool false)) w := fun o lb cb => by
    rw [run_callFunc_extern Try.func51 (by kernel_rfl) (by kernel_rfl) (by kernel_rfl) (e := Extern.SlicesOverlaps.overlaps #[38, 38] #[4]) (by kernel_rfl),
      Lib.run_overlaps_apart w 38 4 76 Try.underlying38 3 itSize ⟨xb, 0, none⟩ ⟨b, o, none⟩ 1 1 lb cb hne 76 76 3 cur.size (shape_blk hx) (shape_blk hcur) (by rw [hcs]; omega) (hx.free 0) (hx.free 3)]
    rfl
  have hdl : ((ks.drop i).flatMap itN).length = (n - i) * 3 := by rw [flatMap_len itN_len, List.length_drop, hn]
  have hone : ∀ (l : List It), ∀ u ∈ l.flatMap itN, u.oneCell' = true := fun l u hu => by
    obtain ⟨y, -, hy⟩ := List.mem_flatMap.1 hu
    exact itN_one y u hy
  have hcell : ∀ (j : Nat), j < c * 3 → (w.cell? ⟨b, j, none⟩).isSome = true := fun j hj => by
    rw [hcur.cell j, Array.getElem?_eq_getElem (by omega)]; rfl
  have hcp1 : ∀ ty dc sc, (Builtin.copy_ #[38, 38] ty #[.slice (some ⟨b, (i + 1) * 3, none⟩) (n + 1 - (i + 1)) dc, .slice (some ⟨b, i * 3, none⟩) (n + 1 - i) sc]).run Try.prog w.drew = .ok (goInt ((n - i : Nat) : Int)) (w.drew.setCells b ((i + 1) * 3) ((ks.drop i).flatMap itN)) := fun ty dc sc =>
    run_copy_cellsK w.drew _ _ ty 76 b ((i + 1) * 3) (n + 1 - (i + 1)) dc ⟨b, i * 3, none⟩ (n + 1 - i) sc 3 ((ks.drop i).flatMap itN) (n - i) (by simp only [Nat.min_def]; split <;> omega) Try.underlying38 itInfo hdl
      (fun j u hj => by
        rw [Addr.add_lit]
        show w.cell? ⟨b, i * 3 + j, none⟩ = some u
        have hjl : j < (n - i) * 3 := by
          rcases Nat.lt_or_ge j ((ks.drop i).flatMap itN).length with h9 | h9
          · omega
          · rw [List.getElem?_eq_none h9] at hj; cases hj
        rw [hcur.cell]
        have h9 : (cur.toList.take (n * 3))[i * 3 + j]? = some u := by
          rw [hct, ← hj]
          have e9 : ks.flatMap itN = (ks.take i).flatMap itN ++ (ks.drop i).flatMap itN := by rw [← List.flatMap_append, List.take_append_drop]
          rw [e9, List.getElem?_append_right (by rw [flatMap_len itN_len, List.length_take]; omega), flatMap_len itN_len, List.length_take]
          congr 1; omega
        rw [List.getElem?_take_of_lt (by omega)] at h9
        simpa using h9)
      (fun j hj => hcell _ (by omega)) (fun j hj => hcur.free _) (hone _)
  obtain ⟨W1, hW1⟩ : ∃ W1, W1 = w.drew.setCells b ((i + 1) * 3) ((ks.drop i).flatMap itN) := ⟨_, rfl⟩
  have hb1 : Blk W1 b 76 (spl cur.toList ((i + 1) * 3) ((ks.drop i).flatMap itN)).toArray := by rw [hW1]; exact Blk.setCells_ _ (Blk.drew hcur) (by omega)
  have hx1 : Blk W1 xb 76 (itN x).toArray := by
    have hg := grown_setCells (g := b) ((ks.drop i).flatMap itN) w.drew ((i + 1) * 3) (grownBy_refl _ _)
    rw [← hW1] at hg
    exact (hg.block xb hx.lt (fun e => hne (Option.some.inj e))).trans hx
  have hg1 : w.grownBy W1 (some b) := by rw [hW1]; exact grown_setCells _ _ _ ⟨rfl, rfl, rfl, Nat.le_refl _, fun _ _ _ => rfl⟩
  have hsz1 : (spl cur.toList ((i + 1) * 3) ((ks.drop i).flatMap itN)).toArray.size = c * 3 := by
    have h9 : (spl cur.toList ((i + 1) * 3) ((ks.drop i).flatMap itN)).length = cur.toList.length := spl_len (by rw [hdl, Array.length_toList]; omega)
    rw [List.size_toArray, h9, Array.length_toList, hcs]
  have hcp2 : ∀ (W : World), W.heap = W1.heap → ∀ ty dc, (Builtin.copy_ #[38, 38] ty #[.slice (some ⟨b, i * 3, none⟩) (n + 1 - i) dc, .slice (some ⟨xb, 0, none⟩) 1 1]).run Try.prog W = .ok (goInt 1) (W.setCells b (i * 3) (itN x)) := fun W hW ty dc => by
    have hbW : Blk W b 76 (spl cur.toList ((i + 1) * 3) ((ks.drop i).flatMap itN)).toArray := by unfold Blk; rw [hW]; exact hb1
    have hxW : Blk W xb 76 (itN x).toArray := by unfold Blk; rw [hW]; exact hx1
    exact run_copy_cellsK W _ _ ty 76 b (i * 3) (n + 1 - i) dc ⟨xb, 0, none⟩ 1 1 3 (itN x) 1 (by simp only [Nat.min_def]; split <;> omega) Try.underlying38 itInfo rfl (blk_cells hxW)
      (fun j hj => by
        rw [itN_len] at hj
        rw [hbW.cell, Array.getElem?_eq_getElem (by rw [hsz1]; omega)]; rfl)
      (fun j hj => hbW.free _) (itN_one x)
  rw [← hW1] at hcp1
  have HW1 := Lib.hid hW1; clear hW1
  have HB1 := Lib.hid hb1; clear hb1
  have HX1 := Lib.hid hx1; clear hx1
  have HG1 := Lib.hid hg1; clear hg1
  have HCUR := Lib.hid hcur; clear hcur
  have HX := Lib.hid hx; clear hx
  have hw1 : IntKind.i64.wrap ((i : Int) + 1) = (i : Int) + 1 := by rw [IntKind.wrap_i64]; omega
  have hb1 : (0 : Int) ≤ (i : Int) + 1 := by omega
  have htn : ((i : Int) + 1).toNat = i + 1 := by omega
  have HS1 := Lib.hid hsz1
  clear hdl hone hcell hsz1
  have HCT := Lib.hid hct; clear hct
  have HCS := Lib.hid hcs; clear hcs
  have HN := Lib.hid hn; clear hn
  clear h
  go_enter Try.func28, Try.ntmps28
  go_wp2_with (simp only [hov])
  go_region_law (refine step_copy_runI rfl _ _ 38 38 rfl (.slice (some ⟨b, (i + 1) * 3, none⟩) (n + 1 - (i + 1)) (c - (i + 1))) (.slice (some ⟨b, i * 3, none⟩) (n + 1 - i) (c - i)) (by simp [Act.eval, Act.put]) (by simp [Act.eval, Act.put]) (hcp1 _ _ _) ?_)
  clear hov hcp1
  go_wp2_with (at_builtin; refine wpList_copy_runI _ rfl _ _ 38 38 rfl _ _ rfl rfl (hcp2 _ rfl _ _) ?_)
  go_ret
  have hln : (ks.take i ++ x :: ks.drop i).length = n + 1 := by rw [List.length_append, List.length_cons, List.length_take, List.length_drop, ← HN.out]; omega
  refine ⟨_, rfl, ?_, grown_setCells _ _ _ HG1.out, .inl rfl⟩
  have hB2 := Blk.setCells_ (itN x) (o := i * 3) HB1.out (by rw [HS1.out, itN_len]; omega)
  have hcl : cur.toList.length = c * 3 := by rw [Array.length_toList]; exact HCS.out
  have hroom' : ks.length + 1 ≤ c := by rw [← HN.out]; exact hroom
  have hi' : i < ks.length := by rw [← HN.out]; exact hi
  have hsp := ins_spl (x := x) hcl (by rw [← HN.out]; exact HCT.out) hroom' hi'
  have hz9 : (spl (spl cur.toList ((i + 1) * 3) ((ks.drop i).flatMap itN)) (i * 3) (itN x)).length = c * 3 := by
    have h8 := HS1.out
    rw [List.size_toArray] at h8
    rw [spl_len (by rw [h8, itN_len]; omega), h8]
  have h9 := OwnK.mkB (f := itN) (c := c) (xs := ks.take i ++ x :: ks.drop i) itN_len hbb (by rw [hln]; exact hroom) hcm hB2 (by rw [List.size_toArray]; exact hz9) hsp
  rw [hln] at h9
  exact h9
theorem zeroCells_size (z : Array Value) (k : Nat) : (Builtin.zeroCells z k).size = z.size * k := by
  unfold Builtin.zeroCells
  simp [Nat.mul_comm]
theorem ins_spl2 {R : List Value} {ks : List It} {x : It} {i : Nat} (hl : (ks.length + 1) * 3 ≤ R.length) (ht : R.take (i * 3) = (ks.take i).flatMap itN) (hi : i < ks.length) :
    (spl (spl R (i * 3) (itN x)) ((i + 1) * 3) ((ks.drop i).flatMap itN)).take ((ks.take i ++ x :: ks.drop i).length * 3) = (ks.take i ++ x :: ks.drop i).flatMap itN := by
  have hti : ((ks.take i).flatMap itN).length = i * 3 := by rw [flatMap_len itN_len, List.length_take]; omega
  have h1 : (spl R (i * 3) (itN x)).take ((i + 1) * 3) = (ks.take i).flatMap itN ++ itN x := by
    unfold spl
    rw [ht, show (i + 1) * 3 = ((ks.take i).flatMap itN ++ itN x).length by rw [List.length_append, hti, itN_len]; omega, List.take_left]
  have h3 : spl (spl R (i * 3) (itN x)) ((i + 1) * 3) ((ks.drop i).flatMap itN) = ((ks.take i ++ x :: ks.drop i).flatMap itN) ++ (spl R (i * 3) (itN x)).drop ((i + 1) * 3 + ((ks.drop i).flatMap itN).length) := by
    rw [spl, h1, List.flatMap_append, List.flatMap_cons]
    simp
  rw [h3, ← flatMap_len itN_len, List.take_left]
set_option maxRecDepth 100000 in
set_option maxHeartbeats 4000000 in
/-- there is no room -/
theorem Insert_grow {base : Nat} {w : World} {b : Nat} {ks : List It} (h : OwnK 3 itN base 76 w (.slice (some ⟨b, 0, none⟩) ks.length ks.length) ks) (hbw : base ≤ w.heap.size) (hl : ks.length ≤ 100) (i : Nat) (hi : i < ks.length) (x : It) (xb : Nat) (hx : Blk w xb 76 (itN x).toArray) :
    Calls Try.prog 28 #[.slice (some ⟨b, 0, none⟩) ks.length ks.length, .int .i64 (i : Int), .slice (some ⟨xb, 0, none⟩) 1 1] w (InsP base (.slice (some ⟨b, 0, none⟩) ks.length ks.length) (ks.take i ++ x :: ks.drop i) w) := by
  obtain ⟨-, hbb, -, hcm, cur, hcur, hcs, hct⟩ := h.block
  obtain ⟨ht, hz1, hk0, inf, hinf, hz, hsz, hby⟩ := itT
  obtain ⟨n, hn⟩ : ∃ n, n = ks.length := ⟨_, rfl⟩
  rw [← hn] at hi hl hct hcm hcs ⊢
  have hdl : ((ks.drop i).flatMap itN).length = (n - i) * 3 := by rw [flatMap_len itN_len, List.length_drop, hn]
  have htl : ((ks.take i).flatMap itN).length = i * 3 := by rw [flatMap_len itN_len, List.length_take]; omega
  have hone : ∀ (l : List It), ∀ u ∈ l.flatMap itN, u.oneCell' = true := fun l u hu => by
    obtain ⟨y, -, hy⟩ := List.mem_flatMap.1 hu
    exact itN_one y u hy
  have hct' : cur.toList = ks.flatMap itN := by rw [← hct, List.take_of_length_le (by rw [Array.length_toList]; omega)]
  have hat : ∀ j u, (ks.flatMap itN)[j]? = some u → w.cell? ⟨b, j, none⟩ = some u := fun j u hj => by
    rw [hcur.cell, ← Array.getElem?_toList, hct']; exact hj
  have hsplit : ks.flatMap itN = (ks.take i).flatMap itN ++ (ks.drop i).flatMap itN := by rw [← List.flatMap_append, List.take_append_drop]
  have hold : (Builtin.firstCells inf.size i (.slice (some ⟨b, 0, none⟩) i n)).run Try.prog w.drew = .ok ((ks.take i).flatMap itN).toArray w.drew :=
    run_firstCells_some (P := Try.prog) w.drew inf.size i ⟨b, 0, none⟩ i n ((ks.take i).flatMap itN) (by rw [hsz, htl]) (fun j u hj => by
      have e2 : (⟨b, 0, none⟩ : Addr).add j = ⟨b, j, none⟩ := by
        unfold Addr.add; split
        · rename_i h0; subst h0; rfl
        · simp
      rw [e2]
      show w.cell? ⟨b, j, none⟩ = some u
      refine hat j u ?_
      rw [hsplit, List.getElem?_append_left (by
        rcases Nat.lt_or_ge j ((ks.take i).flatMap itN).length with h9 | h9
        · exact h9
        · rw [List.getElem?_eq_none h9] at hj; cases hj)]
      exact hj)
  have hfit := growslice_fits (need := n + 1) (old := n) (bytes := 24) (by omega) (by omega)
  have hrz : ∀ ty, (Builtin.append_ #[38, 3] ty #[.slice (some ⟨b, 0, none⟩) i n, .int .i64 ((n + 1 - i : Nat) : Int)]).run Try.prog w = _ := fun ty =>
    run_append_grow_zeros (P := Try.prog) w 38 3 ty 76 inf _ .i64 .i64 ht Try.underlying3 hinf hz (some ⟨b, 0, none⟩) i n ((ks.take i).flatMap itN) hold (n + 1 - i) (by omega) (by omega) (by omega) (by omega) (by rw [hby]; omega) (by rw [hby, show i + (n + 1 - i) = n + 1 by omega]; exact hfit)
  obtain ⟨G, hG⟩ : ∃ G, G = grownCap w (n + 1) n 76 := ⟨_, rfl⟩
  have hGn : n + 1 ≤ G := by rw [hG]; exact grownCap_ge w _ _ _
  have hGm : G ≤ maxLen := by rw [hG]; exact grownCap_le_maxLen w _ _ _ (by unfold maxLen; omega)
  rw [show i + (n + 1 - i) = n + 1 by omega, ← hG] at hrz
  obtain ⟨R, hR⟩ : ∃ R, R = ((ks.take i).flatMap itN).toArray ++ Builtin.zeroCells (Value.agg #[.int .i64 0, .int .i64 0, .int .i64 0]).cells (n + 1 - i) ++ Builtin.zeroCells (Value.agg #[.int .i64 0, .int .i64 0, .int .i64 0]).cells (G - (n + 1)) := ⟨_, rfl⟩
  rw [← hR] at hrz
  have hRs : R.size = G * 3 := by
    rw [hR, Array.size_append, Array.size_append, zeroCells_size, zeroCells_size, List.size_toArray, htl, hz1]
    omega
  have hRt : R.toList.take (i * 3) = (ks.take i).flatMap itN := by
    rw [hR, Array.toList_append, Array.toList_append, List.append_assoc, ← htl, List.take_left]
  obtain ⟨W1, hW1⟩ : ∃ W1, W1 = w.drew.alloc (.cells R 76) := ⟨_, rfl⟩
  have hb1 : Blk W1 w.heap.size 76 R := by rw [hW1]; exact Blk.new_ w.drew _ _
  have hB1 : Below w.heap.size w W1 := by rw [hW1]; exact ((Below.refl _ _).drew).alloc (Nat.le_refl _) _
  have hx1 : Blk W1 xb 76 (itN x).toArray := hx.below hB1 hx.lt
  have hc1 : Blk W1 b 76 cur := hcur.below hB1 hcur.lt
  have hcpA : ∀ (W : World), W.heap = W1.heap → ∀ ty dc, (Builtin.copy_ #[38, 38] ty #[.slice (some ⟨w.heap.size, i * 3, none⟩) (n + 1 - i) dc, .slice (some ⟨xb, 0, none⟩) 1 1]).run Try.prog W = .ok (goInt 1) (W.setCells w.heap.size (i * 3) (itN x)) := fun W hW ty dc => by
    have hbW : Blk W w.heap.size 76 R := by unfold Blk; rw [hW]; exact hb1
    have hxW : Blk W xb 76 (itN x).toArray := by unfold Blk; rw [hW]; exact hx1
    exact run_copy_cellsK W _ _ ty 76 w.heap.size (i * 3) (n + 1 - i) dc ⟨xb, 0, none⟩ 1 1 3 (itN x) 1 (by simp only [Nat.min_def]; split <;> omega) Try.underlying38 itInfo rfl (blk_cells hxW)
      (fun j hj => by
        rw [itN_len] at hj
        rw [hbW.cell, Array.getElem?_eq_getElem (by rw [hRs]; omega)]; rfl)
      (fun j hj => hbW.free _) (itN_one x)
  have hb2 : Blk (W1.setCells w.heap.size (i * 3) (itN x)) w.heap.size 76 (spl R.toList (i * 3) (itN x)).toArray := Blk.setCells_ _ hb1 (by rw [itN_len, hRs]; omega)
  have hB2 : Below w.heap.size w (W1.setCells w.heap.size (i * 3) (itN x)) := below_setCells (Nat.le_refl _) _ _ _ hB1
  have hc2 : Blk (W1.setCells w.heap.size (i * 3) (itN x)) b 76 cur := hcur.below hB2 hcur.lt
  have hs2 : (spl R.toList (i * 3) (itN x)).length = G * 3 := by rw [spl_len (by rw [itN_len, Array.length_toList, hRs]; omega), Array.length_toList, hRs]
  have hcpB : ∀ (W : World), W.heap = (W1.setCells w.heap.size (i * 3) (itN x)).heap → ∀ ty dc sc, (Builtin.copy_ #[38, 38] ty #[.slice (some ⟨w.heap.size, (i + 1) * 3, none⟩) (n + 1 - (i + 1)) dc, .slice (some ⟨b, i * 3, none⟩) (n - i) sc]).run Try.prog W = .ok (goInt ((n - i : Nat) : Int)) (W.setCells w.heap.size ((i + 1) * 3) ((ks.drop i).flatMap itN)) := fun W hW ty dc sc => by
    have hbW : Blk W w.heap.size 76 (spl R.toList (i * 3) (itN x)).toArray := by unfold Blk; rw [hW]; exact hb2
    have hcW : Blk W b 76 cur := by unfold Blk; rw [hW]; exact hc2
    exact run_copy_cellsK W _ _ ty 76 w.heap.size ((i + 1) * 3) (n + 1 - (i + 1)) dc ⟨b, i * 3, none⟩ (n - i) sc 3 ((ks.drop i).flatMap itN) (n - i) (by simp only [Nat.min_def]; split <;> omega) Try.underlying38 itInfo hdl
      (fun j u hj => by
        rw [Addr.add_lit, hcW.cell, ← Array.getElem?_toList, hct', hsplit, List.getElem?_append_right (by omega), htl, show i * 3 + j - i * 3 = j by omega]
        exact hj)
      (fun j hj => by
        rw [hbW.cell, Array.getElem?_eq_getElem (by rw [List.size_toArray, hs2]; omega)]; rfl)
      (fun j hj => hbW.free _) (hone _)
  have kk := cutK (some ⟨b, 0, none⟩) n n i (by omega) w
  rw [← hW1] at hrz
  have hrz2 : ∀ (ty : TypeId) (z : Int), z = ((n + 1 - i : Nat) : Int) → (Builtin.append_ #[38, 3] ty #[.slice (some ⟨b, 0, none⟩) i n, .int .i64 z]).run Try.prog w = .ok (.slice (some ⟨w.heap.size, 0, none⟩) (n + 1) G) W1 := fun ty z hz => by rw [hz]; exact hrz ty
  have hz2 : ¬ ((i : Int) = (n : Int)) := by omega
  have hb2 : ¬ (n = i) := by omega
  have hb3 : ¬ (G = i) := by omega
  have hb4 : ¬ (G = i + 1) := by omega
  have hin : i ≤ n := by omega
  have hw1 : IntKind.i64.wrap ((i : Int) + 1) = (i : Int) + 1 := by rw [IntKind.wrap_i64]; omega
  have hbb1 : (0 : Int) ≤ (i : Int) + 1 := by omega
  have htn : ((i : Int) + 1).toNat = i + 1 := by omega
  have hin1 : (i : Int) ≤ (n : Int) := by omega
  have HRZ := Lib.hid hrz2
  have HCA := Lib.hid hcpA
  have HCB := Lib.hid hcpB
  have HB2 := Lib.hid hb2
  have hfin : InsP base (.slice (some ⟨b, 0, none⟩) n n) (ks.take i ++ x :: ks.drop i) w (.returned (.slice (some ⟨w.heap.size, 0, none⟩) (n + 1) G)) ((W1.setCells w.heap.size (i * 3) (itN x)).setCells w.heap.size ((i + 1) * 3) ((ks.drop i).flatMap itN)) := by
    have hln : (ks.take i ++ x :: ks.drop i).length = n + 1 := by rw [List.length_append, List.length_cons, List.length_take, List.length_drop, ← hn]; omega
    have hbk : Blk (W1.setCells w.heap.size (i * 3) (itN x)) w.heap.size 76 (spl R.toList (i * 3) (itN x)).toArray := Blk.setCells_ _ hb1 (by rw [itN_len, hRs]; omega)
    have hb5 := Blk.setCells_ ((ks.drop i).flatMap itN) (o := (i + 1) * 3) hbk (by rw [hdl, List.size_toArray, hs2]; omega)
    have hB5 : Below w.heap.size w ((W1.setCells w.heap.size (i * 3) (itN x)).setCells w.heap.size ((i + 1) * 3) ((ks.drop i).flatMap itN)) := below_setCells (Nat.le_refl _) _ _ _ hB2
    have hsz5 : (spl (spl R.toList (i * 3) (itN x)) ((i + 1) * 3) ((ks.drop i).flatMap itN)).length = G * 3 := by rw [spl_len (by rw [hdl, hs2]; omega), hs2]
    have h9 := OwnK.mkB (f := itN) (base := base) (c := G) (xs := ks.take i ++ x :: ks.drop i) itN_len hbw (by rw [hln]; exact hGn) hGm hb5 (by rw [List.size_toArray]; exact hsz5) (ins_spl2 (by rw [← hn, Array.length_toList, hRs]; omega) hRt (by omega))
    rw [hln] at h9
    exact ⟨_, rfl, h9, ⟨hB5.os, hB5.tape, hB5.output, hB5.size, fun k hk _ => hB5.block k hk⟩, .inr ⟨_, rfl, Nat.le_refl _⟩⟩
  have HFIN := Lib.hid hfin
  clear hfin hrz hrz2 hcpA hcpB hat hold hfit hRs hRt hW1 hb1 hB1 hx1 hc1 hB2 hc2 hs2 hct hct' hsplit hone hdl htl h hcur hcs hx ht hz1 hinf hz hsz hby hR hG HB2
  have HN := Lib.hid hn; clear hn
  go_enter Try.func28, Try.ntmps28
  go_upto_region 10 with (at_builtin; refine Lib.wpList_append_run _ rfl _ _ _ _ rfl _ _ rfl rfl _ _ (HRZ.out _ _ (by omega)) ?_)
  go_wp2_with (refine wpList_copy_runI _ rfl (.tmp 43) (.tmp 44) 38 38 rfl (.slice (some ⟨w.heap.size, i * 3, none⟩) (n + 1 - i) (G - i)) (.slice (some ⟨xb, 0, none⟩) 1 1) rfl rfl (HCA.out _ rfl _ _) ?_)
  go_region_law (refine step_copy_runI rfl _ _ 38 38 rfl (.slice (some ⟨w.heap.size, (i + 1) * 3, none⟩) (n + 1 - (i + 1)) (G - (i + 1))) (.slice (some ⟨b, i * 3, none⟩) (n - i) (n - i)) (by simp [Act.eval, Act.put]) (by simp [Act.eval, Act.put]) (HCB.out ((W1.setCells w.heap.size (i * 3) (itN x)).drew) rfl _ _ _) ?_)
  rw [← drew_setCells]
  go_wp2_with fail
  go_ret
  exact HFIN.out.drew
/-- slices.Insert of one item -/
theorem Insert_any {base : Nat} {w : World} {v : Value} {ks : List It} (h : OwnK 3 itN base 76 w v ks) (hbw : base ≤ w.heap.size) (hl : ks.length ≤ 100) (i : Nat) (hi : i ≤ ks.length) (x : It) (xb : Nat) (hx : Blk w xb 76 (itN x).toArray) (hne : v.ownBlock ≠ some xb) :
    Calls Try.prog 28 #[v, .int .i64 (i : Int), .slice (some ⟨xb, 0, none⟩) 1 1] w (InsP base v (ks.take i ++ x :: ks.drop i) w) := by
  by_cases hie : i = ks.length
  · subst hie
    rw [List.take_length, List.drop_length]
    exact Insert_end h hbw hl x xb hx
  · have hlt : i < ks.length := by omega
    rcases h.2 with ⟨-, h0⟩ | ⟨g, cap, cur, rfl, hb, hh, hnc, hcm, hcs, htk⟩
    · omega
    · by_cases hr : ks.length + 1 ≤ cap
      · exact Insert_room h hl hr i hlt x xb hx (fun e => hne (by rw [e]; rfl))
      · obtain rfl : cap = ks.length := by omega
        exact Insert_grow h hbw hl i hlt x xb hx
end Go.Proofs.Ytakebmbdcjbbgaa
