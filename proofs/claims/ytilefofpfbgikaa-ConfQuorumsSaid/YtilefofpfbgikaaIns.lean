/- slices.Insert of one int into a row of the call's own. -/
import Derived.Test.YtilefofpfbgikaaLibI
import Derived.Test.YtilefofpfbgikaaDel
namespace Go.Proofs.Ytilefofpfbgikaa
open Go.RowKit Go.Maps Go.Sort Go.Lib Mem Cf

theorem blk_setCells {g : Nat} {t : TypeId} : ∀ (us : List Value) (w : World) (o : Nat) (cs : Array Value), Blk w g t cs → o + us.length ≤ cs.size →
    ∃ cs', Blk (w.setCells g o us) g t cs' ∧ cs'.size = cs.size ∧ cs'.toList = cs.toList.take o ++ us ++ cs.toList.drop (o + us.length)
  | [], w, o, cs, h, _ => ⟨cs, h, rfl, by simp⟩
  | u :: us, w, o, cs, h, hl => by
    have hl' : o + us.length + 1 ≤ cs.size := by simpa [Nat.add_assoc] using hl
    obtain ⟨cs', h1, h2, h3⟩ := blk_setCells us (w.setCell ⟨g, o, none⟩ u) (o + 1) (cs.setIfInBounds o u) (h.set_ o u) (by simp; omega)
    refine ⟨cs', h1, by rw [h2]; simp, ?_⟩
    rw [h3, Array.toList_setIfInBounds]
    have hlt : o < cs.toList.length := by simp; omega
    have e1 : (cs.toList.set o u).take (o + 1) = cs.toList.take o ++ [u] := by
      rw [List.take_succ_eq_append_getElem (by rw [List.length_set]; exact hlt), List.take_set_of_le (Nat.le_refl _), List.getElem_set_self]
    have e2 : (cs.toList.set o u).drop (o + 1 + us.length) = cs.toList.drop (o + 1 + us.length) := List.drop_set_of_lt (by omega)
    rw [e1, e2, List.append_assoc, List.append_assoc, List.append_assoc]
    simp only [List.singleton_append, List.length_cons]
    have e3 : o + 1 + us.length = o + (us.length + 1) := by omega
    rw [e3]
    simp
theorem own_blk {g n c base : Nat} {e : TypeId} {w : World} {xs : List Int} (h : Own fI base e w (.slice (some ⟨g, 0, none⟩) n c) xs) :
    ∃ cur, Blk w g e cur ∧ n = xs.length ∧ base ≤ g ∧ n ≤ c ∧ c ≤ maxLen ∧ cur.size = c ∧ cur.toList.take n = xs.map fI := by
  have hn := h.sl.1
  rcases h.2 with ⟨hv, _⟩ | ⟨g', cap, cur, hv, hb, hh, hnc, hcm, hcs, htake⟩
  · cases hv
  · injection hv with hv hv2 hv3; injection hv with hv; injection hv with hv
    subst hv; subst hv3; subst hv2
    exact ⟨cur, hh, rfl, hb, hnc, hcm, by omega, by rw [Nat.mul_one] at htake; exact htake⟩
theorem own_mk {g n c base : Nat} {e : TypeId} {w : World} {xs : List Int} {cur : Array Value} (hb : Blk w g e cur) (hn : n = xs.length) (hg : base ≤ g) (hnc : n ≤ c) (hcm : c ≤ maxLen) (hs : cur.size = c) (ht : cur.toList.take n = xs.map fI) :
    Own fI base e w (.slice (some ⟨g, 0, none⟩) n c) xs := by
  subst hn
  exact ⟨by simp, .inr ⟨g, c, cur, rfl, hg, hb, hnc, hcm, by omega, by rw [Nat.mul_one]; exact ht⟩⟩
def insAt (xs : List Int) (i : Nat) (x : Int) : List Int := xs.take i ++ [x] ++ xs.drop i
theorem insAt_len {xs : List Int} {i : Nat} (x : Int) (h : i ≤ xs.length) : (insAt xs i x).length = xs.length + 1 := by unfold insAt; simp; omega
theorem fI_cells {x : Int} : ∀ v ∈ ([fI x] : List Value), v.oneCell' = true := by intro v hv; simp at hv; subst hv; rfl
theorem map_cells (xs : List Int) : ∀ v ∈ xs.map fI, v.oneCell' = true := by intro v hv; obtain ⟨u, _, rfl⟩ := List.mem_map.1 hv; rfl
theorem zeroI_size (k : Nat) : (Builtin.zeroCells (Value.int .i64 0).cells k).size = k := by
  have := zeroCells_one (.int .i64 0) k
  show (Builtin.zeroCells #[.int .i64 0] k).size = k
  rw [this]; simp
theorem own_new {base : Nat} {w0 : World} {e : TypeId} (hb : base ≤ w0.heap.size) (ys : List Int) (C : Nat) (hC : ys.length ≤ C) (hm : C ≤ maxLen) :
    Own fI base e (w0.alloc (.cells ((ys.map fI).toArray ++ Builtin.zeroCells (Value.int .i64 0).cells (C - ys.length)) e)) (.slice (some ⟨w0.heap.size, 0, none⟩) ys.length C) ys := by
  refine own_mk (Blk.new_ _ _ _) rfl hb hC hm ?_ ?_
  · rw [Array.size_append, zeroI_size]; simp; omega
  · rw [Array.toList_append, List.take_append_of_le_length (by simp), List.take_of_length_le (by simp)]
set_option maxRecDepth 100000 in
theorem Insert_any {base : Nat} {w : World} {v : Value} {xs : List Int} (h : Own fI base 3 w v xs) (hbw : base ≤ w.heap.size) (hsz : xs.length ≤ 1000000000) (i : Nat) (hi : i ≤ xs.length) (x : Int) (gv : Nat) (hv : Blk w gv 3 #[fI x]) (hne : v.ownBlock ≠ some gv) (ii : Int) (hii : (i : Int) = ii) :
    Calls Try.prog 107 #[v, .int .i64 ii, .slice (some ⟨gv, 0, none⟩) 1 1] w (OwnPost base (insAt xs i x) w) := by
  subst hii
  have hvs : ∀ j v, [fI x][j]? = some v → w.cell? ⟨gv, 0 + j, none⟩ = some v := by
    intro j v hj
    match j, hj with
    | 0, hj => simp at hj; subst hj; exact hv.cell 0
    | j + 1, hj => simp at hj
  have hm : xs.length + 1 ≤ maxLen := by unfold maxLen; omega
  have hbig : (xs.length + 1) * 8 ≤ 140737488355328 := by omega
  have hzl : ∀ k, (Builtin.zeroCells (Value.int .i64 0).cells k).size = k := fun k => by
    have := zeroCells_one (.int .i64 0) k
    show (Builtin.zeroCells #[.int .i64 0] k).size = k
    rw [this]; simp
  rcases h.2 with ⟨rfl, hn⟩ | ⟨g, cap, cur, rfl, hb, hh, hnc, hcm, hcs, htake⟩
  · have : xs = [] := List.eq_nil_of_length_eq_zero hn
    subst this
    have hi0 : i = 0 := by simpa using hi
    subst hi0
    have hc := Any2.slices_Insert_int_end_grow Try.insI none 0 0 gv 0 1 1 [] [fI x] w (by decide) (Nat.le_refl _) (by decide) (by decide) rfl rfl (fun _ => rfl) (fun a ha => by cases ha) hvs fI_cells
    refine hc.mono ?_
    rintro e w' ⟨rfl, rfl⟩
    exact ⟨_, _, rfl, own_new (w0 := w.drew) hbw [x] _ (grownCap_ge ..) (grownCap_le_maxLen _ _ _ _ hm), (Below.refl base w).drew.alloc hbw _⟩
  · rw [Nat.mul_one] at hcs htake
    have hblk : Blk w g 3 cur := hh
    have hgv : gv ≠ g := fun e => hne (by rw [e]; rfl)
    have hcell : ∀ j v, (xs.map fI)[j]? = some v → w.cell? ⟨g, 0 + j, none⟩ = some v := by
      intro j v hj
      have hjl : j < xs.length := by
        rcases Nat.lt_or_ge j xs.length with h | h
        · exact h
        · rw [List.getElem?_eq_none (by simpa using h)] at hj; cases hj
      rw [Nat.zero_add, hblk.cell j]
      rw [← htake, List.getElem?_take_of_lt hjl] at hj
      rw [← hj]; simp
    have hsome : ∀ k, k < cap → (w.cell? ⟨g, k, none⟩).isSome = true := fun k hk => by rw [hblk.cell k, Array.getElem?_eq_getElem (by omega)]; rfl
    by_cases hroom : xs.length + 1 ≤ cap
    · by_cases hin : i < xs.length
      · have hc := Any2.slices_Insert_int_shift Try.insI g 0 xs.length cap i gv 0 1 1 (xs.map fI) [fI x] w hin (by decide) hroom hcm hgv (by simp) rfl hcell (fun j hj => by rw [Nat.zero_add]; exact hsome j (by omega)) (fun j _ => hblk.free _) hvs (map_cells xs) fI_cells
          3 3 1 cap (by unfold World.shape?; have := hv; unfold Blk at this; rw [this]; rfl) (by unfold World.shape?; rw [hh]; simp [hcs]) (by omega) (hv.free _) (hv.free _)
        refine hc.mono ?_
        rintro e w' ⟨rfl, rfl⟩
        rw [Nat.zero_add, Nat.zero_add]
        have hlc : cur.toList.length = cap := by simp [hcs]
        obtain ⟨c1, hb1, hs1, ht1⟩ := blk_setCells ((xs.map fI).drop i) w.drew (i + 1) cur hblk.drew (by rw [List.length_drop, List.length_map, hcs]; omega)
        obtain ⟨c2, hb2, hs2, ht2⟩ := blk_setCells [fI x] _ i c1 hb1 (by simp; omega)
        refine ⟨_, cap, by rw [insAt_len x hi], own_mk hb2 rfl hb (by rw [insAt_len x hi]; exact hroom) hcm (by rw [hs2, hs1, hcs]) ?_, below_setCells hb _ _ _ (below_setCells hb _ _ _ (Below.refl base w).drew)⟩
        rw [insAt_len x hi, ht2, ht1]
        have hcur : cur.toList.take i = (xs.map fI).take i := by rw [← htake, List.take_take]; congr 1; omega
        have e0 : (cur.toList.take (i + 1) ++ (xs.map fI).drop i ++ cur.toList.drop (i + 1 + ((xs.map fI).drop i).length)).take i = (xs.map fI).take i := by
          rw [List.append_assoc, List.take_append_of_le_length (by rw [List.length_take, hlc]; omega), List.take_take, ← hcur]
          congr 1; omega
        have e1 : (cur.toList.take (i + 1) ++ (xs.map fI).drop i ++ cur.toList.drop (i + 1 + ((xs.map fI).drop i).length)).drop (i + [fI x].length) = (xs.map fI).drop i ++ cur.toList.drop (i + 1 + ((xs.map fI).drop i).length) := by
          rw [List.append_assoc]
          have h5 : (cur.toList.take (i + 1)).length = i + 1 := by rw [List.length_take, hlc]; omega
          have h6 : i + [fI x].length = (cur.toList.take (i + 1)).length := by rw [h5]; rfl
          rw [h6, List.drop_left]
        rw [e0, e1]
        unfold insAt
        rw [List.map_append, List.map_append, List.map_take, List.map_drop, List.map_singleton]
        have h7 : ((xs.map fI).take i ++ [fI x] ++ (xs.map fI).drop i).length = xs.length + 1 := by simp; omega
        rw [← List.append_assoc, List.take_append_of_le_length (by rw [h7]; exact Nat.le_refl _), List.take_of_length_le (by rw [h7]; exact Nat.le_refl _)]
      · have hie : i = xs.length := by omega
        subst hie
        have hc := Any2.slices_Insert_int_end_room Try.insI g 0 xs.length cap gv 0 1 1 [fI x] w (by decide) hroom hcm rfl (fun j hj => by rw [Nat.zero_add]; exact hsome _ (by omega)) (fun j _ => hblk.free _) hvs fI_cells
        refine hc.mono ?_
        rintro e w' ⟨rfl, rfl⟩
        rw [Nat.zero_add]
        have hlc : cur.toList.length = cap := by simp [hcs]
        obtain ⟨c1, hb1, hs1, ht1⟩ := blk_setCells [fI x] w xs.length cur hblk (by simp; omega)
        refine ⟨_, cap, by rw [insAt_len x hi], own_mk hb1 rfl hb (by rw [insAt_len x hi]; exact hroom) hcm (by rw [hs1, hcs]) ?_, below_setCells hb _ _ _ (Below.refl base w)⟩
        rw [insAt_len x hi, ht1, htake]
        unfold insAt
        rw [List.take_length, List.drop_length, List.append_nil, List.map_append, List.map_singleton]
        rw [List.take_append_of_le_length (by simp), List.take_of_length_le (by simp)]
    · have hroom2 : cap < xs.length + 1 := by omega
      by_cases hin : i < xs.length
      · have hc := Any2.slices_Insert_int_grow Try.insI g 0 xs.length cap i gv 0 1 1 (xs.map fI) [fI x] w hin (by decide) hnc hroom2 hbig (by simp) rfl hcell hvs (map_cells xs) fI_cells
        refine hc.mono ?_
        rintro e w' ⟨rfl, rfl⟩
        have hgc := grownCap_ge w (xs.length + 1) cap 3
        have hgm := grownCap_le_maxLen w (xs.length + 1) cap 3 hm
        have hil : i ≤ xs.length := hi
        have ht1 : ((xs.map fI).take i).length = i := by simp; omega
        obtain ⟨C, hC⟩ : ∃ C, C = grownCap w (xs.length + 1) cap 3 := ⟨_, rfl⟩
        rw [← hC] at hgc hgm
        obtain ⟨c0, hc0⟩ : ∃ c0, c0 = (((xs.map fI).take i).toArray ++ Builtin.zeroCells (Value.int .i64 0).cells (xs.length + 1 - i) ++ Builtin.zeroCells (Value.int .i64 0).cells (C - (xs.length + 1))) := ⟨_, rfl⟩
        have hs1 : c0.size = C := by
          rw [hc0, Array.size_append, Array.size_append, zeroI_size, zeroI_size, List.size_toArray, ht1]; omega
        have htk : c0.toList.take i = (xs.map fI).take i := by
          rw [hc0, Array.toList_append, Array.toList_append, List.append_assoc, List.take_append_of_le_length (by simp; omega), List.take_of_length_le (by simp; omega)]
        obtain ⟨w1, hw1⟩ : ∃ w1, w1 = w.alloc (.cells c0 3) := ⟨_, rfl⟩
        have hb1 : Blk w1 w.heap.size 3 c0 := by rw [hw1]; exact Blk.new_ _ _ _
        have hbw1 : Below base w w1 := by rw [hw1]; exact (Below.refl base w).alloc hbw _
        obtain ⟨c1, hb2, hs2, ht2⟩ := blk_setCells [fI x] w1.drew i c0 hb1.drew (by simp; omega)
        obtain ⟨c2, hb3, hs3, ht3⟩ := blk_setCells ((xs.map fI).drop i) _ (i + 1) c1 hb2.drew (by rw [hs2, hs1, List.length_drop, List.length_map]; omega)
        have hpost : OwnPost base (insAt xs i x) w (.returned (.slice (some ⟨w.heap.size, 0, none⟩) (xs.length + 1) C)) (((w1.drew.setCells w.heap.size i [fI x]).drew).setCells w.heap.size (i + 1) ((xs.map fI).drop i)) := by
          refine ⟨_, C, by rw [insAt_len x hi], own_mk hb3 rfl hbw (by rw [insAt_len x hi]; exact hgc) hgm (by rw [hs3, hs2, hs1]) ?_, below_setCells hbw _ _ _ (below_setCells hbw _ _ _ hbw1.drew).drew⟩
          rw [insAt_len x hi, ht3]
          have hc1 : c1.toList.take (i + 1) = (xs.map fI).take i ++ [fI x] := by
            rw [ht2, htk, List.take_append_of_le_length (by simp; omega), List.take_of_length_le (by simp; omega)]
          rw [hc1]
          unfold insAt
          rw [List.map_append, List.map_append, List.map_take, List.map_drop, List.map_singleton, List.take_append_of_le_length (by simp; omega), List.take_of_length_le (by simp; omega)]
        rw [hw1, hc0, hC] at hpost
        exact hpost
      · have hie : i = xs.length := by omega
        subst hie
        have hc := Any2.slices_Insert_int_end_grow Try.insI (some ⟨g, 0, none⟩) xs.length cap gv 0 1 1 (xs.map fI) [fI x] w (by decide) hnc hroom2 hbig (by simp) rfl (fun e => by cases e) (fun a ha j v hj => by
          injection ha with ha; subst ha
          have e2 : (⟨g, 0, none⟩ : Addr).add j = ⟨g, 0 + j, none⟩ := by
            unfold Addr.add; split
            · rename_i h0; subst h0; rfl
            · rfl
          rw [e2]; exact hcell j v hj) hvs fI_cells
        refine hc.mono ?_
        rintro e w' ⟨rfl, rfl⟩
        have he : insAt xs xs.length x = xs ++ [x] := by unfold insAt; rw [List.take_length, List.drop_length, List.append_nil]
        have hl1 : (xs ++ [x]).length = xs.length + 1 := by simp
        have ho := own_new (w0 := w.drew) (e := 3) (base := base) hbw (xs ++ [x]) (grownCap w (xs.length + 1) cap 3) (by rw [hl1]; exact grownCap_ge ..) (grownCap_le_maxLen _ _ _ _ hm)
        rw [hl1, List.map_append, List.map_singleton] at ho
        rw [he]
        exact ⟨_, _, by rw [hl1], by rw [hl1]; exact ho, (Below.refl base w).drew.alloc hbw _⟩
end Go.Proofs.Ytilefofpfbgikaa
