/- Layer 15: conf.Others at a right configuration. -/
import Derived.Test.YtilefofpfbgikaaCmp
import Derived.Deep.RegionHeld3
import Derived.Deep.AppendLies
import Derived.Test.YtilefofpfbgikaaSrt
namespace Go.Proofs.Ytilefofpfbgikaa
open Go Go.RowKit Go.Maps Go.Lib Mem Cf

section
variable {P : Program} {α : Type} {f : α → Value}
/-- append of a row that may be nothing: what it answers -/
theorem run_appendX {w : World} {t ty : TypeId} {base : Nat} {e : TypeId} {z : Value} {bytes : Nat} (ht : SliceT P t e z bytes)
    {v : Value} {xs : List α} (hown : Own f base e w v xs) {B : Option Addr} {d : Nat} {ys : List α} (hys : Sl f w B ys) (h1 : ∀ u, (f u).oneCell' = true)
    (h63 : xs.length + ys.length ≤ maxLen) (hbytes : (xs.length + ys.length) * bytes ≤ 140737488355328) (hbase : base ≤ w.heap.size) :
    ∃ v' w', (Builtin.append_ #[t, t] ty #[v, .slice B ys.length d]).run P w = .ok v' w' ∧ Own f base e w' v' (xs ++ ys) ∧ Below base w w' := by
  obtain ⟨ht, hz1, i, hi, hz, hsz, hby⟩ := ht
  cases B with
  | none =>
    obtain rfl : ys = [] := by
      cases ys with
      | nil => rfl
      | cons x r => obtain ⟨b, o, e, _⟩ := hys.2 (by simp); cases e
    refine ⟨v, w, ?_, by rw [List.append_nil]; exact hown, Below.refl _ _⟩
    obtain ⟨A, c, rfl⟩ := hown.form
    have hc := hown.cap.1
    cases A with
    | none =>
      obtain rfl : xs = [] := by
        cases xs with
        | nil => rfl
        | cons x r => obtain ⟨b, o, e, _⟩ := hown.sl.2.2 (by simp); cases e
      have hc0 : c = 0 := by
        rcases hown.2 with ⟨hv, _⟩ | ⟨g, cap, cur, hv, _⟩
        · injection hv
        · injection hv with hv; cases hv
      subst hc0
      simp [Builtin.append_, run_underlying ht, sizeOf, typeInfo, zeroValue, hi, hz, Builtin.lenOf, Builtin.firstCells, storeCells]
    | some a9 => simp [Builtin.append_, run_underlying ht, sizeOf, typeInfo, zeroValue, hi, hz, hc, Builtin.lenOf, Builtin.firstCells, storeCells]
  | some ad =>
    obtain ⟨v', w', hr, h2, h3, _, _⟩ := run_append_own_at (P := P) w base t ty e i z 1 bytes ht hi hz hsz hby hz1 (by decide) v xs.length (xs.map f) hown ad ys.length d (ys.map f) (by simp) (by
      intro j y hy
      have hj : j < ys.length := by
        rcases Nat.lt_or_ge j ys.length with h | h
        · exact h
        · rw [List.getElem?_eq_none (by simpa using h)] at hy; cases hy
      obtain ⟨b, o, e, hc⟩ := hys.2 (by omega)
      injection e with e
      subst e
      have e2 : (⟨b, o, none⟩ : Addr).add j = ⟨b, o + j, none⟩ := by
        unfold Addr.add; split
        · rename_i h0; subst h0; rfl
        · rfl
      rw [e2, hc j hj]
      simp [hj] at hy; rw [← hy]) (by
      intro y hy
      obtain ⟨u, _, rfl⟩ := List.mem_map.1 hy
      exact h1 u) h63 hbytes hbase
    refine ⟨v', w', hr, ?_, (Below.refl _ _).grown h3 hbase (fun k hk => (hown.lt k hk).1)⟩
    unfold Own; rw [List.length_append, List.map_append]; exact h2
/-- .. at a step of a region that draws its order -/
theorem step_appendX {w : World} {ops : Array Oper} {o : Oper} {a : Act} {K : Act → World → Prop} {Q : Exit → Act → World → Prop} {E : Prop} (hgd : o.guard = none) (s x : Operand) (t : TypeId)
    (ho : o.op = .call { callee := .builtin .append, args := #[s, x], argTypes := #[t, t] })
    {base : Nat} {e : TypeId} {z : Value} {bytes : Nat} (ht : SliceT P t e z bytes)
    {v : Value} {xs : List α} (hs : a.eval s = v) (hown : Own f base e w v xs)
    {B : Option Addr} {d : Nat} {ys : List α} (hx : a.eval x = .slice B ys.length d) (hys : Sl f w B ys) (h1 : ∀ u, (f u).oneCell' = true)
    (h63 : xs.length + ys.length ≤ maxLen) (hbytes : (xs.length + ys.length) * bytes ≤ 140737488355328) (hbase : base ≤ w.heap.size)
    (h : ∀ v' w', Own f base e w' v' (xs ++ ys) → Below base w w' → K (a.put o.dst v') w') :
    if Region.wanted o (yielded ops a.tmps) = true then Oper.wp P o a w K Q else E := by
  have hw : Region.wanted o (yielded ops a.tmps) = true := by simp [Region.wanted, hgd]
  rw [if_pos hw]
  obtain ⟨v', w', hr, h2, h3⟩ := run_appendX (P := P) (t := t) (ty := o.type) ht hown (d := d) hys h1 h63 hbytes hbase
  unfold Oper.wp execOp
  simp only [ho, resolve, invoke, builtin, Sem.run_bind, Sem.run_pure, Result.andThen_ok, List.map_toArray, List.map_cons, List.map_nil, hs, hx, hr]
  exact h v' w' h2 h3
end
theorem isO_any (W : World) (m n : Int) (bx : Nat) (hc : W.cell? ⟨bx, 0, none⟩ = some (.int .i64 n)) :
    Calls Try.prog 73 #[.int .i64 m, .pointer (some ⟨bx, 0, none⟩)] W fun e w' => e = .returned (.bool (decide (m = n))) ∧ W = w' := by
  have h1 : (m == n) = decide (m = n) := rfl
  go_enter Try.func73, Try.ntmps73
  go_wp2_with fail
  go_ret
  exact ⟨ret_bool (by simp), rfl⟩
/-- all of a right configuration, sorted, rise -/
theorem srt_rise {vs ls : List Int} (h : rightB vs ls = true) : (srt (vs ++ ls)).Pairwise (· < ·) := by
  obtain ⟨hv, hl, -⟩ := right_rise h
  have h1 : (vs ++ ls).Nodup := by
    rw [List.nodup_append]
    refine ⟨(rise_pair hv).imp fun h => by omega, (rise_pair hl).imp fun h => by omega, fun a ha b hb e => ?_⟩
    subst e
    exact right_apart h ha hb
  have h2 : (srt (vs ++ ls)).Nodup := (srt_perm _).nodup_iff.2 h1
  have h3 := srt_sorted (vs ++ ls)
  exact (h3.and h2).imp fun h => by omega
theorem others_eq {vs ls : List Int} (h : rightB vs ls = true) (n : Int) : without n (srt (vs ++ ls)) = others vs ls n 7 := by
  obtain ⟨hv, hl, -⟩ := right_rise h
  refine pair_ext ((srt_rise h).filter _) ?_ fun m => ?_
  · unfold others
    refine List.Pairwise.filter _ ?_
    rw [List.pairwise_map]
    exact List.pairwise_lt_range.imp fun {a b} hab => by omega
  · unfold without others
    rw [List.mem_filter, List.mem_filter, List.mem_map, (srt_perm _).mem_iff, List.mem_append]
    unfold other1 hasB
    simp only [Bool.and_eq_true, Bool.not_eq_true', decide_eq_false_iff_not, Bool.or_eq_true, decide_eq_true_eq]
    constructor
    · rintro ⟨hm, hn⟩
      have hr : 1 ≤ m ∧ m ≤ 7 := hm.elim (rise_mem hv) (rise_mem hl)
      exact ⟨⟨(m - 1).toNat, List.mem_range.2 (by omega), by omega⟩, hn, hm⟩
    · rintro ⟨_, hn, hm⟩
      exact ⟨hm, hn⟩
end Go.Proofs.Ytilefofpfbgikaa
namespace Go.Proofs.Ytilefofpfbgikaa
open Go Go.RowKit Go.Maps Go.Lib Mem Cf

set_option maxRecDepth 100000 in
set_option maxHeartbeats 4000000 in
theorem Others_any {w : World} {A B : Option Addr} {c d : Nat} {vs ls : List Int} (h : CI w A vs B ls) (n : Int) (hr : rightB vs ls = true) :
    Calls Try.prog 33 #[.agg #[.slice A vs.length c, .slice B ls.length d], .int .i64 n] w (OwnPost w.heap.size (others vs ls n 7) w) := by
  have hmf : ∀ (fn : Fn) (first cap : Array Value) (w : World), (Instr.makeFunc fn first cap).run Try.prog w = .ok (.func fn first cap) w := fun _ _ _ _ => rfl
  have hv7 := rise_small (right_rise hr).1
  have hl7 := rise_small (right_rise hr).2.1
  have H63 : Hid (vs.length + ls.length ≤ maxLen) := by show _ ≤ _; unfold maxLen; omega
  have HBY : Hid ((vs.length + ls.length) * 8 ≤ 140737488355328) := by show _ ≤ _; omega
  have HSL : Hid ((srt (vs ++ ls)).length ≤ 1000000000) := by show _ ≤ _; rw [srt_len, List.length_append]; omega
  have HSL2 : Hid ((vs ++ ls).length < 4611686018427387904) := by show _ < _; rw [List.length_append]; omega
  have HV7 : Hid (vs.length ≤ 1000000000) := by show _ ≤ _; omega
  clear hv7 hl7
  have HRT := Lib.hid hr; clear hr
  have H := Lib.hid h; clear h
  go_enter Try.func33, Try.ntmps33
  go_upto_region 1 with fail
  obtain ⟨w1, hw1⟩ : ∃ x, x = (w.alloc (.cells #[.slice A vs.length c, .slice B ls.length d] 24)).alloc (.cells #[.int .i64 n] 3) := ⟨_, rfl⟩
  rw [← hw1]
  have hb1 : Below w.heap.size w w1 := by rw [hw1]; exact ((Below.refl _ _).alloc (Nat.le_refl _) _).alloc (by simp) _
  have hx1 : Blk w1 w.heap.size 24 #[.slice A vs.length c, .slice B ls.length d] := by rw [hw1]; exact (Blk.new_ w _ _).alloc _
  have hr1 : Blk w1 (w.heap.size + 1) 3 #[.int .i64 n] := by
    have := Blk.new_ (w.alloc (.cells #[.slice A vs.length c, .slice B ls.length d] 24)) 3 #[.int .i64 n]
    rw [World.size_alloc] at this; rw [hw1]; exact this
  have H1 := Lib.hid (H.out.below hb1)
  have HB1 := Lib.hid hb1
  have HX1 := Lib.hid hx1
  have HR1 := Lib.hid hr1
  have d0 : w1.cell? ⟨w.heap.size, 0, none⟩ = some (.slice A vs.length c) := hx1.cell 0
  have d1 : w1.cell? ⟨w.heap.size, 1, none⟩ = some (.slice B ls.length d) := hx1.cell 1
  clear hw1 hb1 hx1 hr1 H
  have hC1 : ∀ W, Below w1.heap.size w1 W → Calls Try.prog 69 #[.slice A vs.length c] W (Own2 w1 vs W) := fun W hb => (CloneI_any A c vs HV7.out W (H1.out.v.below hb)).mono fun _ _ h => own2_of hb h
  have HC1 := Lib.hid hC1; clear hC1
  have hdr := below_drew0 w1
  go_region_held3 (fun W => W.cell? ⟨w.heap.size, 0, none⟩ = some (.slice A vs.length c) ∧ W.cell? ⟨w.heap.size, 1, none⟩ = some (.slice B ls.length d)) (first | exact heldN HX1.out (by assumption) | exact heldN HX1.out (below_drewN (by assumption) _))
    (first | (go_at_call 69; (with_reducible refine (HC1.out _ ?_).mono ?_); (assumption); rintro e wN ⟨AN, cN, rfl, hsN, hbN, hBN⟩)
           | (refine step_appendX (f := fI) (by rfl) _ _ 22 (by rfl) intTI (by rfl) hsN (by rfl) (H1.out.l.below hBN) fI_oneI H63.out HBY.out hbN.size ?_; intro v7 w7 ho7 hb7; have hB7 := hBN.trans (hb7.mono hdr.size)))
  obtain ⟨xs, hxs⟩ : ∃ xs, xs = vs ++ ls := ⟨_, rfl⟩
  rw [← hxs] at ho7
  have HN2 : Hid (xs.length < 4611686018427387904) := by show _ < _; rw [hxs]; exact HSL2.out
  have HN : Hid ((srt xs).length ≤ 1000000000) := by show _ ≤ _; rw [hxs]; exact HSL.out
  have HSR : Hid ((srt xs).Pairwise (· < ·)) := by show List.Pairwise _ _; rw [hxs]; exact srt_rise HRT.out
  have HOE : Hid (without n (srt xs) = others vs ls n 7) := by show _ = _; rw [hxs]; exact others_eq HRT.out n
  clear hxs HSL HSL2
  have ho8 : Own fI w1.heap.size 3 w7 v7 xs := Own.lower ho7 hdr.size
  have hs7 := SortI_any ho8 HN2.out
  have HS7 := Lib.hid hs7; clear hs7
  obtain ⟨A7, c7, rfl⟩ := ho8.form
  have HO8 := Lib.hid ho8
  have HB7 := Lib.hid hB7
  clear ho7 hb7 hsN hbN hBN hdr d0 d1 hB7 ho8
  go_wp2_with fail
  (with_reducible refine HS7.out.mono ?_); rintro e w8 ⟨rfl, ho9, hg9⟩
  have HB8 : Hid (Below w1.heap.size w1 w8) := HB7.out.trans (HO8.out.below_ HB7.out.size hg9)
  clear hg9
  have hlen : xs.length = (srt xs).length := (srt_len _).symm
  rw [hlen] at ho9 ⊢
  have hcm := Compact_rise A7 c7 (srt xs) w8 ho9.sl.2 HSR.out HN.out
  have HCM := Lib.hid hcm; clear hcm hlen
  have HO9 := Lib.hid ho9; clear ho9
  go_wp2_with fail
  (with_reducible refine HCM.out.mono ?_); rintro e w9 ⟨rfl, hb9⟩
  have HOA := Lib.hid (HO9.out.below hb9)
  have HB9 := Lib.hid (HB8.out.trans (hb9.mono HB8.out.size))
  clear hb9
  have hx9 := HR1.out.below HB9.out HR1.out.lt
  have hdf := DeleteFunc_eq HOA.out n HB9.out.size HN.out 73 (w.heap.size + 1) (enters_of Try.func73 (by kernel_rfl) rfl) HR1.out.lt (hx9.cell 0) (fun W m hc => isO_any W m n _ hc)
  have HDF := Lib.hid hdf; clear hdf hx9
  go_wp2_with fail
  (with_reducible refine HDF.out.mono ?_); rintro e wA ⟨A3, c3, rfl, hown3, hb3⟩
  rw [HOE.out] at hown3 ⊢
  have HO := Lib.hid hown3; clear hown3
  have HB3 : Hid (Below w.heap.size w wA) := HB1.out.trans ((HB9.out.trans hb3).mono HB1.out.size)
  clear hb3
  go_wp2_with fail
  go_ret
  exact ⟨A3, c3, rfl, Own.lower HO.out HB1.out.size, HB3.out⟩
end Go.Proofs.Ytilefofpfbgikaa
