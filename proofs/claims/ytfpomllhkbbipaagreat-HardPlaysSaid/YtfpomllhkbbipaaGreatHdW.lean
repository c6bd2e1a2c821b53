/- Layer 7: the walks of right, read, Open. -/
import Derived.Test.YtfpomllhkbbipaaGreatHdL
import Derived.Test.YtfpomllhkbbipaaGreatPkG
import Derived.Test.YtfpomllhkbbipaaGreatStC
import Derived.Test.YtfpomllhkbbipaaGreatDskX
namespace Go.Proofs.YtfpomllhkbbipaaGreat
open Go Go.RowKit Go.Maps Go.Lib Mem Pk Dsk Hd

theorem hright_any (t v : Int) (w : World) : Calls Tryz.prog 28 #[.int .i64 t, .int .i64 v] w fun e w' => e = .returned (.bool (rightH t v)) ∧ w = w' := by
  obtain ⟨a, ha⟩ : ∃ p, p = decide (0 ≤ t) := ⟨_, rfl⟩
  obtain ⟨b, hb⟩ : ∃ p, p = decide (t ≤ 1099511627776) := ⟨_, rfl⟩
  obtain ⟨c, hc⟩ : ∃ p, p = decide (0 ≤ v) := ⟨_, rfl⟩
  obtain ⟨d, hd⟩ : ∃ p, p = decide (v ≤ 7) := ⟨_, rfl⟩
  have e : rightH t v = (a && (b && (c && d))) := by unfold rightH; rw [ha, hb, hc, hd]
  have t1 := ha.symm
  have t2 := hb.symm
  have t3 := hc.symm
  have t4 := hd.symm
  rw [e]
  clear ha hb hc hd e
  cases a <;> cases b <;> cases c <;> cases d <;>
  · go_enter Tryz.func28, Tryz.ntmps28
    go_wp2_with fail
    go_ret
    exact ⟨rfl, rfl⟩
theorem getV_two (p : List UInt8) : getV [1, 1] p = (twoN p).map fun x => [⟨1, x.1, []⟩, ⟨1, x.2, []⟩] := by
  unfold getV twoN
  cases h1 : getNum p with
  | none => simp [valsV, oneV, h1]
  | some x =>
    obtain ⟨a, k⟩ := x
    cases h2 : getNum (p.drop k) with
    | none => simp [valsV, oneV, h1, h2]
    | some y =>
      obtain ⟨b, m⟩ := y
      simp only [valsV, oneV, h1, h2, Option.map_some, if_true]
      cases hr : (p.drop k).drop m with
      | nil => simp
      | cons z zs => simp
/-- what read leaves -/
def RdHP (tv : Int × Int) (w : World) (e : Ending) (w' : World) : Prop := e = .returned (.tuple #[.int .i64 tv.1, .int .i64 tv.2]) ∧ Below w.heap.size w w'
theorem RdHP.zero {bs : List UInt8} {w w' : World} (h : readH bs = (0, 0)) (hb : Below w.heap.size w w') : RdHP (readH bs) w (.returned (.tuple #[.int .i64 0, .int .i64 0])) w' := by rw [h]; exact ⟨rfl, hb⟩
theorem RdHP.mk {bs : List UInt8} {a b : Int} {w w' : World} (h : readH bs = (a, b)) (hb : Below w.heap.size w w') : RdHP (readH bs) w (.returned (.tuple #[.int .i64 a, .int .i64 b])) w' := by rw [h]; exact ⟨rfl, hb⟩
theorem readH_a {bs : List UInt8} (h : ¬ ((unframe bs).2.2 = 0 ∧ (unframe bs).2.1 = bs.length)) : readH bs = (0, 0) := by unfold readH; rw [if_neg h]
theorem readH_b {bs : List UInt8} (h : twoN (unframe bs).1 = none) : readH bs = (0, 0) := by
  unfold readH
  split
  · rw [h]
  · rfl
theorem readH_c {bs : List UInt8} {a b : Int} (h : twoN (unframe bs).1 = some (a, b)) (hr : rightH a b = false) : readH bs = (0, 0) := by
  unfold readH
  split
  · rw [h]; simp only; rw [if_neg (by rw [hr]; decide)]
  · rfl
theorem readH_d {bs : List UInt8} {a b : Int} (h1 : (unframe bs).2.2 = 0 ∧ (unframe bs).2.1 = bs.length) (h : twoN (unframe bs).1 = some (a, b)) (hr : rightH a b = true) : readH bs = (a, b) := by
  unfold readH
  rw [if_pos h1, h]; simp only; rw [if_pos hr]
set_option maxRecDepth 100000 in
set_option maxHeartbeats 2000000 in
theorem hread_any {w : World} {A : Option Addr} {c : Nat} {bs : List UInt8} (h : Sl fB w A bs) (hc : bs.length ≤ c) (hm : c ≤ maxLen) :
    Calls Tryz.prog 21 #[.slice A bs.length c] w (RdHP (readH bs) w) := by
  have HU := Lib.hid (Unframe_any h hc hm)
  have hl := h.len
  obtain ⟨p, hp⟩ : ∃ z, z = (unframe bs).1 := ⟨_, rfl⟩
  obtain ⟨n, hn⟩ : ∃ z, z = (unframe bs).2.1 := ⟨_, rfl⟩
  obtain ⟨k, hk⟩ : ∃ z, z = (unframe bs).2.2 := ⟨_, rfl⟩
  unfold UfPost at HU
  rw [← hp, ← hn, ← hk] at HU
  have HP := Lib.hid hp
  have HN := Lib.hid hn
  have HK := Lib.hid hk
  clear h hc hm hp hn hk
  by_cases hk0 : k = 0
  · have tk : (k != 0) = false := by rw [hk0]; rfl
    by_cases hnl : n = bs.length
    · have tn : ((n : Int) != (bs.length : Int)) = false := by rw [hnl]; simp
      have H1 : Hid ((unframe bs).2.2 = 0 ∧ (unframe bs).2.1 = bs.length) := Lib.hid ⟨by rw [← HK.out]; exact hk0, by rw [← HN.out]; exact hnl⟩
      clear hk0 hnl
      go_enter Tryz.func21, Tryz.ntmps21
      go_wp2_with fail
      (with_reducible refine HU.out.mono ?_); rintro e w1 ⟨A1, c1, rfl, ho1, hb1⟩
      have hcap := ho1.cap
      have hk2 : SlB (Value.int .i64) 3 (fun g => g = w1.heap.size) (w1.alloc (.cells #[.int .i64 1, .int .i64 1] 3)) (some ⟨w1.heap.size, 0, none⟩) [1, 1] := ⟨by unfold maxLen; decide, fun _ => ⟨_, 0, _, _, rfl, rfl, heap_alloc_new w1 _, fun j hj => by match j, hj with | 0, _ => rfl | 1, _ => rfl⟩⟩
      have HG := Lib.hid (Get_any (kc := 2) ((ho1.alloc (.cells #[.int .i64 1, .int .i64 1] 3)).sl.2) hcap.1 hcap.2 hk2 (by intro k hk; simp at hk; exact .inl hk) (by decide))
      rw [getV_two] at HG
      have HB1 : Hid (Below w.heap.size w (w1.alloc (.cells #[.int .i64 1, .int .i64 1] 3))) := Lib.hid (hb1.alloc hb1.size _)
      clear ho1 hb1 hcap hk2 HU
      change Hid (Calls _ _ #[.slice A1 p.length c1, .slice (some ⟨w1.heap.size, 0, none⟩) 2 2] _ _) at HG
      go_wp2_with fail
      (with_reducible refine HG.out.mono ?_); rintro e w2 ⟨hb2, hno, hyes⟩
      have HB2 : Hid (Below w.heap.size w w2) := Lib.hid (HB1.out.trans (hb2.mono HB1.out.size))
      clear hb2 HB1
      cases ht : twoN p with
      | none =>
        rw [ht] at hno hyes
        obtain rfl := hno rfl
        have HZ := Lib.hid (readH_b (bs := bs) (by rw [← HP.out]; exact ht))
        clear ht hno hyes
        go_upto_region 5 with fail
        refine AnyZ.start (S := (fun _ => True)) (z := 1014) (by kernel_rfl) ?_ (fun hHeld => ?_)
        · exact ⟨⟩
        refine AnyZ.take (i := 0) (v := ?_) rfl (by kernel_rfl) (by kernel_rfl) (by kernel_rfl) (by kernel_rfl) (fun _ _ _ h => h) (Or.inl ⟨by kernel_rfl, ?_⟩) (by assumption) ?_
        rotate_left
        · intro w hSw; (try dsimp only at hSw); go_simp; try with_reducible rfl
        try simp only [Act.put, List.getElem_toArray, List.getElem_cons_succ, List.getElem_cons_zero, List.setIfInBounds_toArray, List.set_cons_zero, List.set_cons_succ]
        refine AnyZ.take (i := 1) (v := ?_) rfl (by kernel_rfl) (by kernel_rfl) (by kernel_rfl) (by kernel_rfl) (fun _ _ _ h => h) (Or.inl ⟨by kernel_rfl, ?_⟩) (by assumption) ?_
        rotate_left
        · intro w hSw; (try dsimp only at hSw); go_simp; try with_reducible rfl
        try simp only [Act.put, List.getElem_toArray, List.getElem_cons_succ, List.getElem_cons_zero, List.setIfInBounds_toArray, List.set_cons_zero, List.set_cons_succ]
        refine AnyZ.take (i := 2) (v := ?_) rfl (by kernel_rfl) (by kernel_rfl) (by kernel_rfl) (by kernel_rfl) (fun _ _ _ h => h) (Or.inl ⟨by kernel_rfl, ?_⟩) (by assumption) ?_
        rotate_left
        · intro w hSw; (try dsimp only at hSw); go_simp; try with_reducible rfl
        try simp only [Act.put, List.getElem_toArray, List.getElem_cons_succ, List.getElem_cons_zero, List.setIfInBounds_toArray, List.set_cons_zero, List.set_cons_succ]
        refine AnyZ.takeAny (i := 3) (v := undef) rfl (by kernel_rfl) (by kernel_rfl) (by kernel_rfl) (by kernel_rfl) (fun _ _ _ h => h) (Or.inr ⟨by kernel_rfl, rfl⟩) (by assumption) ?_
        try simp only [Act.put, List.getElem_toArray, List.getElem_cons_succ, List.getElem_cons_zero, List.setIfInBounds_toArray, List.set_cons_zero, List.set_cons_succ]
        refine AnyZ.takeAny (i := 4) (v := undef) rfl (by kernel_rfl) (by kernel_rfl) (by kernel_rfl) (by kernel_rfl) (fun _ _ _ h => h) (Or.inr ⟨by kernel_rfl, rfl⟩) (by assumption) ?_
        try simp only [Act.put, List.getElem_toArray, List.getElem_cons_succ, List.getElem_cons_zero, List.setIfInBounds_toArray, List.set_cons_zero, List.set_cons_succ]
        refine AnyZ.takeAny (i := 5) (v := undef) rfl (by kernel_rfl) (by kernel_rfl) (by kernel_rfl) (by kernel_rfl) (fun _ _ _ h => h) (Or.inr ⟨by kernel_rfl, rfl⟩) (by assumption) ?_
        try simp only [Act.put, List.getElem_toArray, List.getElem_cons_succ, List.getElem_cons_zero, List.setIfInBounds_toArray, List.set_cons_zero, List.set_cons_succ]
        refine AnyZ.takeAny (i := 6) (v := undef) rfl (by kernel_rfl) (by kernel_rfl) (by kernel_rfl) (by kernel_rfl) (fun _ _ _ h => h) (Or.inr ⟨by kernel_rfl, rfl⟩) (by assumption) ?_
        try simp only [Act.put, List.getElem_toArray, List.getElem_cons_succ, List.getElem_cons_zero, List.setIfInBounds_toArray, List.set_cons_zero, List.set_cons_succ]
        refine AnyZ.takeAny (i := 7) (v := undef) rfl (by kernel_rfl) (by kernel_rfl) (by kernel_rfl) (by kernel_rfl) (fun _ _ _ h => h) (Or.inr ⟨by kernel_rfl, rfl⟩) (by assumption) ?_
        try simp only [Act.put, List.getElem_toArray, List.getElem_cons_succ, List.getElem_cons_zero, List.setIfInBounds_toArray, List.set_cons_zero, List.set_cons_succ]
        refine AnyZ.takeAny (i := 8) (v := undef) rfl (by kernel_rfl) (by kernel_rfl) (by kernel_rfl) (by kernel_rfl) (fun _ _ _ h => h) (Or.inr ⟨by kernel_rfl, rfl⟩) (by assumption) ?_
        try simp only [Act.put, List.getElem_toArray, List.getElem_cons_succ, List.getElem_cons_zero, List.setIfInBounds_toArray, List.set_cons_zero, List.set_cons_succ]
        refine AnyZ.takeAny (i := 9) (v := undef) rfl (by kernel_rfl) (by kernel_rfl) (by kernel_rfl) (by kernel_rfl) (fun _ _ _ h => h) (Or.inr ⟨by kernel_rfl, rfl⟩) (by assumption) ?_
        try simp only [Act.put, List.getElem_toArray, List.getElem_cons_succ, List.getElem_cons_zero, List.setIfInBounds_toArray, List.set_cons_zero, List.set_cons_succ]
        refine AnyZ.takeAny (i := 10) (v := undef) rfl (by kernel_rfl) (by kernel_rfl) (by kernel_rfl) (by kernel_rfl) (fun _ _ _ h => h) (Or.inr ⟨by kernel_rfl, rfl⟩) (by assumption) ?_
        try simp only [Act.put, List.getElem_toArray, List.getElem_cons_succ, List.getElem_cons_zero, List.setIfInBounds_toArray, List.set_cons_zero, List.set_cons_succ]
        refine AnyZ.takeAny (i := 11) (v := undef) rfl (by kernel_rfl) (by kernel_rfl) (by kernel_rfl) (by kernel_rfl) (fun _ _ _ h => h) (Or.inr ⟨by kernel_rfl, rfl⟩) (by assumption) ?_
        try simp only [Act.put, List.getElem_toArray, List.getElem_cons_succ, List.getElem_cons_zero, List.setIfInBounds_toArray, List.set_cons_zero, List.set_cons_succ]
        refine AnyZ.takeAny (i := 12) (v := undef) rfl (by kernel_rfl) (by kernel_rfl) (by kernel_rfl) (by kernel_rfl) (fun _ _ _ h => h) (Or.inr ⟨by kernel_rfl, rfl⟩) (by assumption) ?_
        try simp only [Act.put, List.getElem_toArray, List.getElem_cons_succ, List.getElem_cons_zero, List.setIfInBounds_toArray, List.set_cons_zero, List.set_cons_succ]
        refine AnyZ.take (i := 13) (v := ?_) rfl (by kernel_rfl) (by kernel_rfl) (by kernel_rfl) (by kernel_rfl) (fun _ _ _ h => h) (Or.inl ⟨by kernel_rfl, ?_⟩) (by assumption) ?_
        rotate_left
        · intro w hSw; (try dsimp only at hSw); go_simp; try with_reducible rfl
        try simp only [Act.put, List.getElem_toArray, List.getElem_cons_succ, List.getElem_cons_zero, List.setIfInBounds_toArray, List.set_cons_zero, List.set_cons_succ]
        refine AnyZ.done (by kernel_rfl) ?_ _
        go_wp2_with fail
        go_ret2
        exact RdHP.zero HZ.out HB2.out.drew
      | some q =>
        obtain ⟨a, b⟩ := q
        rw [ht] at hno hyes
        obtain ⟨A2, c2, done, rfl, ho2, hd2, -⟩ := hyes [⟨1, a, []⟩, ⟨1, b, []⟩] rfl
        obtain ⟨x, y, rfl⟩ : ∃ x y, done = [x, y] := by
          match done, hd2 with
          | [x, y], _ => exact ⟨x, y, rfl⟩
        have hx : x.v = ⟨1, a, []⟩ := by have h9 := hd2; simp at h9; exact h9.1
        have hy : y.v = ⟨1, b, []⟩ := by have h9 := hd2; simp at h9; exact h9.2
        obtain ⟨b2, o2, rfl, -, -, hc0⟩ := (ho2.slK prN_len).2.at (j := 0) (by simp)
        obtain ⟨b3, o3, he3, -, -, hc1⟩ := (ho2.slK prN_len).2.at (j := 1) (by simp)
        injection he3 with he3; injection he3 with e1 e2
        subst e1; subst e2
        have d0 : w2.cell? ⟨b2, o2 + 1, none⟩ = some (.int .i64 a) := by
          have h1 := hc0 1 (by decide)
          rw [Nat.zero_mul, Nat.add_zero] at h1
          rw [h1]; show some (Value.int .i64 x.v.n) = _; rw [hx]
        have d1 : w2.cell? ⟨b2, o2 + 5 + 1, none⟩ = some (.int .i64 b) := by
          have h1 := hc1 1 (by decide)
          rw [Nat.one_mul] at h1
          rw [h1]; show some (Value.int .i64 y.v.n) = _; rw [hy]
        have HT : Hid (twoN (unframe bs).1 = some (a, b)) := Lib.hid (by rw [← HP.out]; exact ht)
        have HR : Hid (∀ W, Calls Tryz.prog 28 #[.int .i64 a, .int .i64 b] W fun e w' => e = .returned (.bool (rightH a b)) ∧ W = w') := Lib.hid fun W => hright_any a b W
        obtain ⟨q, hq⟩ : ∃ z, z = rightH a b := ⟨_, rfl⟩
        rw [← hq] at HR
        have HQ := Lib.hid hq
        clear ht hno hyes ho2 hd2 hx hy hc0 hc1 hq
        go_upto_region 5 with fail
        refine AnyZ.start (S := (fun W => W.cell? ⟨b2, o2 + 1, none⟩ = some (.int .i64 a) ∧ W.cell? ⟨b2, o2 + 5 + 1, none⟩ = some (.int .i64 b))) (z := 1014) (by kernel_rfl) ?_ (fun hHeld => ?_)
        · exact ⟨d0, d1⟩
        refine AnyZ.take (i := 0) (v := ?_) rfl (by kernel_rfl) (by kernel_rfl) (by kernel_rfl) (by kernel_rfl) (fun _ _ _ h => h) (Or.inl ⟨by kernel_rfl, ?_⟩) (by assumption) ?_
        rotate_left
        · intro w hSw; (try dsimp only at hSw); go_simp; try with_reducible rfl
        try simp only [Act.put, List.getElem_toArray, List.getElem_cons_succ, List.getElem_cons_zero, List.setIfInBounds_toArray, List.set_cons_zero, List.set_cons_succ]
        refine AnyZ.take (i := 1) (v := ?_) rfl (by kernel_rfl) (by kernel_rfl) (by kernel_rfl) (by kernel_rfl) (fun _ _ _ h => h) (Or.inl ⟨by kernel_rfl, ?_⟩) (by assumption) ?_
        rotate_left
        · intro w hSw; (try dsimp only at hSw); go_simp; try with_reducible rfl
        try simp only [Act.put, List.getElem_toArray, List.getElem_cons_succ, List.getElem_cons_zero, List.setIfInBounds_toArray, List.set_cons_zero, List.set_cons_succ]
        refine AnyZ.take (i := 2) (v := ?_) rfl (by kernel_rfl) (by kernel_rfl) (by kernel_rfl) (by kernel_rfl) (fun _ _ _ h => h) (Or.inl ⟨by kernel_rfl, ?_⟩) (by assumption) ?_
        rotate_left
        · intro w hSw; (try dsimp only at hSw); go_simp; try with_reducible rfl
        try simp only [Act.put, List.getElem_toArray, List.getElem_cons_succ, List.getElem_cons_zero, List.setIfInBounds_toArray, List.set_cons_zero, List.set_cons_succ]
        refine AnyZ.take (i := 3) (v := ?_) rfl (by kernel_rfl) (by kernel_rfl) (by kernel_rfl) (by kernel_rfl) (fun _ _ _ h => h) (Or.inl ⟨by kernel_rfl, ?_⟩) (by assumption) ?_
        rotate_left
        · intro w hSw; (try dsimp only at hSw); go_simp; try with_reducible rfl
        try simp only [Act.put, List.getElem_toArray, List.getElem_cons_succ, List.getElem_cons_zero, List.setIfInBounds_toArray, List.set_cons_zero, List.set_cons_succ]
        refine AnyZ.take (i := 4) (v := ?_) rfl (by kernel_rfl) (by kernel_rfl) (by kernel_rfl) (by kernel_rfl) (fun _ _ _ h => h) (Or.inl ⟨by kernel_rfl, ?_⟩) (by assumption) ?_
        rotate_left
        · intro w hSw; (try dsimp only at hSw); go_simp; try with_reducible rfl
        try simp only [Act.put, List.getElem_toArray, List.getElem_cons_succ, List.getElem_cons_zero, List.setIfInBounds_toArray, List.set_cons_zero, List.set_cons_succ]
        refine AnyZ.take (i := 5) (v := ?_) rfl (by kernel_rfl) (by kernel_rfl) (by kernel_rfl) (by kernel_rfl) (fun _ _ _ h => h) (Or.inl ⟨by kernel_rfl, ?_⟩) (by assumption) ?_
        rotate_left
        · intro w hSw; (try dsimp only at hSw); go_simp; try with_reducible rfl
        try simp only [Act.put, List.getElem_toArray, List.getElem_cons_succ, List.getElem_cons_zero, List.setIfInBounds_toArray, List.set_cons_zero, List.set_cons_succ]
        refine AnyZ.take (i := 6) (v := ?_) rfl (by kernel_rfl) (by kernel_rfl) (by kernel_rfl) (by kernel_rfl) (fun _ _ _ h => h) (Or.inl ⟨by kernel_rfl, ?_⟩) (by assumption) ?_
        rotate_left
        · intro w hSw; (try dsimp only at hSw); go_simp; try with_reducible rfl
        try simp only [Act.put, List.getElem_toArray, List.getElem_cons_succ, List.getElem_cons_zero, List.setIfInBounds_toArray, List.set_cons_zero, List.set_cons_succ]
        refine AnyZ.take (i := 7) (v := ?_) rfl (by kernel_rfl) (by kernel_rfl) (by kernel_rfl) (by kernel_rfl) (fun _ _ _ h => h) (Or.inl ⟨by kernel_rfl, ?_⟩) (by assumption) ?_
        rotate_left
        · intro w hSw; (try dsimp only at hSw); go_simp; try with_reducible rfl
        try simp only [Act.put, List.getElem_toArray, List.getElem_cons_succ, List.getElem_cons_zero, List.setIfInBounds_toArray, List.set_cons_zero, List.set_cons_succ]
        refine AnyZ.take (i := 8) (v := ?_) rfl (by kernel_rfl) (by kernel_rfl) (by kernel_rfl) (by kernel_rfl) (fun _ _ _ h => h) (Or.inl ⟨by kernel_rfl, ?_⟩) (by assumption) ?_
        rotate_left
        · intro w hSw; (try dsimp only at hSw); go_simp; try with_reducible rfl
        try simp only [Act.put, List.getElem_toArray, List.getElem_cons_succ, List.getElem_cons_zero, List.setIfInBounds_toArray, List.set_cons_zero, List.set_cons_succ]
        refine AnyZ.take (i := 9) (v := ?_) rfl (by kernel_rfl) (by kernel_rfl) (by kernel_rfl) (by kernel_rfl) (fun _ _ _ h => h) (Or.inl ⟨by kernel_rfl, ?_⟩) (by assumption) ?_
        rotate_left
        · intro w hSw; (try dsimp only at hSw); go_simp; try with_reducible rfl
        try simp only [Act.put, List.getElem_toArray, List.getElem_cons_succ, List.getElem_cons_zero, List.setIfInBounds_toArray, List.set_cons_zero, List.set_cons_succ]
        refine AnyZ.take (i := 10) (v := ?_) rfl (by kernel_rfl) (by kernel_rfl) (by kernel_rfl) (by kernel_rfl) (fun _ _ _ h => h) (Or.inl ⟨by kernel_rfl, ?_⟩) (by assumption) ?_
        rotate_left
        · intro w hSw; (try dsimp only at hSw); go_simp; try with_reducible rfl
        try simp only [Act.put, List.getElem_toArray, List.getElem_cons_succ, List.getElem_cons_zero, List.setIfInBounds_toArray, List.set_cons_zero, List.set_cons_succ]
        refine AnyZ.ready (rs := [11]) (by kernel_rfl) (by simp) ?_
        refine AllZ.cons rfl (fun K hK => ?_) AllZ.nil
        go_simp
        (with_reducible refine (HR.out _).mono ?_); rintro e wx ⟨rfl, rfl⟩
        refine hK.out _ _ ?_ (fun hHeld => ?_)
        · exact hHeld
        clear hK K
        try simp only [Act.put, List.getElem_toArray, List.getElem_cons_succ, List.getElem_cons_zero, List.setIfInBounds_toArray, List.set_cons_zero, List.set_cons_succ]
        refine AnyZ.take (i := 12) (v := ?_) rfl (by kernel_rfl) (by kernel_rfl) (by kernel_rfl) (by kernel_rfl) (fun _ _ _ h => h) (Or.inl ⟨by kernel_rfl, ?_⟩) (by assumption) ?_
        rotate_left
        · intro w hSw; (try dsimp only at hSw); go_simp; try with_reducible rfl
        try simp only [Act.put, List.getElem_toArray, List.getElem_cons_succ, List.getElem_cons_zero, List.setIfInBounds_toArray, List.set_cons_zero, List.set_cons_succ]
        refine AnyZ.take (i := 13) (v := ?_) rfl (by kernel_rfl) (by kernel_rfl) (by kernel_rfl) (by kernel_rfl) (fun _ _ _ h => h) (Or.inl ⟨by kernel_rfl, ?_⟩) (by assumption) ?_
        rotate_left
        · intro w hSw; (try dsimp only at hSw); go_simp; try with_reducible rfl
        try simp only [Act.put, List.getElem_toArray, List.getElem_cons_succ, List.getElem_cons_zero, List.setIfInBounds_toArray, List.set_cons_zero, List.set_cons_succ]
        refine AnyZ.done (by kernel_rfl) ?_ _
        skip
        cases q with
        | false =>
          have HZ := Lib.hid (readH_c HT.out HQ.out.symm)
          go_wp2_with fail
          go_ret2
          exact RdHP.zero HZ.out HB2.out.drew
        | true =>
          have HZ := Lib.hid (readH_d H1.out HT.out HQ.out.symm)
          go_upto_region 7 with fail
          refine AnyZ.start (S := (fun W => W.cell? ⟨b2, o2 + 1, none⟩ = some (.int .i64 a) ∧ W.cell? ⟨b2, o2 + 5 + 1, none⟩ = some (.int .i64 b))) (z := 1010) (by kernel_rfl) ?_ (fun hHeld => ?_)
          · exact ⟨d0, d1⟩
          refine AnyZ.take (i := 0) (v := ?_) rfl (by kernel_rfl) (by kernel_rfl) (by kernel_rfl) (by kernel_rfl) (fun _ _ _ h => h) (Or.inl ⟨by kernel_rfl, ?_⟩) (by assumption) ?_
          rotate_left
          · intro w hSw; (try dsimp only at hSw); go_simp; try with_reducible rfl
          try simp only [Act.put, List.getElem_toArray, List.getElem_cons_succ, List.getElem_cons_zero, List.setIfInBounds_toArray, List.set_cons_zero, List.set_cons_succ]
          refine AnyZ.take (i := 1) (v := ?_) rfl (by kernel_rfl) (by kernel_rfl) (by kernel_rfl) (by kernel_rfl) (fun _ _ _ h => h) (Or.inl ⟨by kernel_rfl, ?_⟩) (by assumption) ?_
          rotate_left
          · intro w hSw; (try dsimp only at hSw); go_simp; try with_reducible rfl
          try simp only [Act.put, List.getElem_toArray, List.getElem_cons_succ, List.getElem_cons_zero, List.setIfInBounds_toArray, List.set_cons_zero, List.set_cons_succ]
          refine AnyZ.take (i := 2) (v := ?_) rfl (by kernel_rfl) (by kernel_rfl) (by kernel_rfl) (by kernel_rfl) (fun _ _ _ h => h) (Or.inl ⟨by kernel_rfl, ?_⟩) (by assumption) ?_
          rotate_left
          · intro w hSw; (try dsimp only at hSw); go_simp; try with_reducible rfl
          try simp only [Act.put, List.getElem_toArray, List.getElem_cons_succ, List.getElem_cons_zero, List.setIfInBounds_toArray, List.set_cons_zero, List.set_cons_succ]
          refine AnyZ.take (i := 3) (v := ?_) rfl (by kernel_rfl) (by kernel_rfl) (by kernel_rfl) (by kernel_rfl) (fun _ _ _ h => h) (Or.inl ⟨by kernel_rfl, ?_⟩) (by assumption) ?_
          rotate_left
          · intro w hSw; (try dsimp only at hSw); go_simp; try with_reducible rfl
          try simp only [Act.put, List.getElem_toArray, List.getElem_cons_succ, List.getElem_cons_zero, List.setIfInBounds_toArray, List.set_cons_zero, List.set_cons_succ]
          refine AnyZ.take (i := 4) (v := ?_) rfl (by kernel_rfl) (by kernel_rfl) (by kernel_rfl) (by kernel_rfl) (fun _ _ _ h => h) (Or.inl ⟨by kernel_rfl, ?_⟩) (by assumption) ?_
          rotate_left
          · intro w hSw; (try dsimp only at hSw); go_simp; try with_reducible rfl
          try simp only [Act.put, List.getElem_toArray, List.getElem_cons_succ, List.getElem_cons_zero, List.setIfInBounds_toArray, List.set_cons_zero, List.set_cons_succ]
          refine AnyZ.take (i := 5) (v := ?_) rfl (by kernel_rfl) (by kernel_rfl) (by kernel_rfl) (by kernel_rfl) (fun _ _ _ h => h) (Or.inl ⟨by kernel_rfl, ?_⟩) (by assumption) ?_
          rotate_left
          · intro w hSw; (try dsimp only at hSw); go_simp; try with_reducible rfl
          try simp only [Act.put, List.getElem_toArray, List.getElem_cons_succ, List.getElem_cons_zero, List.setIfInBounds_toArray, List.set_cons_zero, List.set_cons_succ]
          refine AnyZ.take (i := 6) (v := ?_) rfl (by kernel_rfl) (by kernel_rfl) (by kernel_rfl) (by kernel_rfl) (fun _ _ _ h => h) (Or.inl ⟨by kernel_rfl, ?_⟩) (by assumption) ?_
          rotate_left
          · intro w hSw; (try dsimp only at hSw); go_simp; try with_reducible rfl
          try simp only [Act.put, List.getElem_toArray, List.getElem_cons_succ, List.getElem_cons_zero, List.setIfInBounds_toArray, List.set_cons_zero, List.set_cons_succ]
          refine AnyZ.take (i := 7) (v := ?_) rfl (by kernel_rfl) (by kernel_rfl) (by kernel_rfl) (by kernel_rfl) (fun _ _ _ h => h) (Or.inl ⟨by kernel_rfl, ?_⟩) (by assumption) ?_
          rotate_left
          · intro w hSw; (try dsimp only at hSw); go_simp; try with_reducible rfl
          try simp only [Act.put, List.getElem_toArray, List.getElem_cons_succ, List.getElem_cons_zero, List.setIfInBounds_toArray, List.set_cons_zero, List.set_cons_succ]
          refine AnyZ.take (i := 8) (v := ?_) rfl (by kernel_rfl) (by kernel_rfl) (by kernel_rfl) (by kernel_rfl) (fun _ _ _ h => h) (Or.inl ⟨by kernel_rfl, ?_⟩) (by assumption) ?_
          rotate_left
          · intro w hSw; (try dsimp only at hSw); go_simp; try with_reducible rfl
          try simp only [Act.put, List.getElem_toArray, List.getElem_cons_succ, List.getElem_cons_zero, List.setIfInBounds_toArray, List.set_cons_zero, List.set_cons_succ]
          refine AnyZ.take (i := 9) (v := ?_) rfl (by kernel_rfl) (by kernel_rfl) (by kernel_rfl) (by kernel_rfl) (fun _ _ _ h => h) (Or.inl ⟨by kernel_rfl, ?_⟩) (by assumption) ?_
          rotate_left
          · intro w hSw; (try dsimp only at hSw); go_simp; try with_reducible rfl
          try simp only [Act.put, List.getElem_toArray, List.getElem_cons_succ, List.getElem_cons_zero, List.setIfInBounds_toArray, List.set_cons_zero, List.set_cons_succ]
          refine AnyZ.done (by kernel_rfl) ?_ _
          go_wp2_with fail
          go_ret2
          exact RdHP.mk HZ.out HB2.out.drew.drew
    · have tn : ((n : Int) != (bs.length : Int)) = true := by rw [bne_iff_ne]; omega
      have HZ := Lib.hid (readH_a (bs := bs) (fun h => hnl (by rw [HN.out]; exact h.2)))
      clear hk0 hnl
      go_enter Tryz.func21, Tryz.ntmps21
      go_wp2_with fail
      (with_reducible refine HU.out.mono ?_); rintro e w1 ⟨A1, c1, rfl, ho1, hb1⟩
      go_wp2_with fail
      go_ret2
      exact RdHP.zero HZ.out hb1
  · have tk : (k != 0) = true := by rw [bne_iff_ne]; exact hk0
    have HZ := Lib.hid (readH_a (bs := bs) (fun h => hk0 (by rw [HK.out]; exact h.1)))
    clear hk0
    go_enter Tryz.func21, Tryz.ntmps21
    go_wp2_with fail
    (with_reducible refine HU.out.mono ?_); rintro e w1 ⟨A1, c1, rfl, ho1, hb1⟩
    go_wp2_with fail
    go_ret2
    exact RdHP.zero HZ.out hb1
end Go.Proofs.YtfpomllhkbbipaaGreat
