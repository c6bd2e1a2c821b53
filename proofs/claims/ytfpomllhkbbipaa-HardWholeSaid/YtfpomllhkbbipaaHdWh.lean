/- Layer 7: HardWhole: the walk. -/
import Derived.Test.YtfpomllhkbbipaaHdC
import Derived.Test.YtfpomllhkbbipaaAnd
namespace Go.Proofs.Ytfpomllhkbbipaa
open Go Go.RowKit Go.Maps Go.Lib Mem Pk Dsk Hd

/-- a step of a script, as far as these laws read it -/
def hopC (k t v n : Int) (kv : Value) : Array Value := #[.int .i64 k, .int .i64 t, .int .i64 v, .int .i64 n, kv]
theorem wf_nat7 {m : Nat} (h : m ≤ 7) : (Lit.int .i64 (m : Int)).wf = true := by
  have e3 : IntKind.i64.min = -9223372036854775808 := rfl
  have e4 : IntKind.i64.max = 9223372036854775807 := rfl
  simp [Lit.wf, e3, e4]; omega
/-- the state behind the first Save: what is kept, and that it is told -/
theorem first_save {t v : Int} (hr : rightH t v = true) : ∃ o, saveH ⟨old none, false, 0⟩ (0, 0) t v = (⟨old o, false, 0⟩, (t, v), 0) ∧ tvO o = (t, v) := by
  by_cases h : ((0, 0) : Int × Int) = (t, v)
  · exact ⟨none, by rw [saveH_same hr h, ← h], h⟩
  · refine ⟨some (bytesH t v), saveH_ok hr h (steps_after none (bytesH t v) 0 (by have := bytesH_len t v; omega)), readH_bytes hr⟩
/-- whatever the second one comes to -/
theorem second_save {o : Option (List UInt8)} {t v t2 v2 : Int} (ho : tvO o = (t, v)) (f : Nat) (keep : List Bool) :
    ∃ s' tv' k s2 tv2, saveH ⟨old o, false, f⟩ (t, v) t2 v2 = (s', tv', k) ∧ openH (crash s' keep) = (s2, tv2, 0) ∧
      ((k = 1 ∧ tv2 = (t, v)) ∨ (k = 0 ∧ tv2 = (t2, v2)) ∨ (k = 50 ∧ tv2 = (t, v))) := by
  cases hr : rightH t2 v2 with
  | false => exact ⟨_, _, _, _, _, saveH_no hr, by rw [crash_old, open_old], .inl ⟨rfl, ho⟩⟩
  | true =>
    by_cases h : (t, v) = (t2, v2)
    · exact ⟨_, _, _, _, _, saveH_same hr h, by rw [crash_old, open_old], .inr (.inl ⟨rfl, by rw [ho]; exact h⟩)⟩
    · have hs := steps_after o (bytesH t2 v2) f (by have := bytesH_len t2 v2; omega)
      rcases after_crash o (bytesH t2 v2) f keep with ⟨h1, h2⟩ | ⟨h1, -, h2⟩
      · have h3 : stepsH ⟨old o, false, f⟩ (bytesH t2 v2) = ((afterH o (bytesH t2 v2) f).1, 0) := by rw [hs, ← h1]
        exact ⟨_, _, _, _, _, saveH_ok hr h h3, h2, .inr (.inl ⟨rfl, readH_bytes hr⟩)⟩
      · have h3 : stepsH ⟨old o, false, f⟩ (bytesH t2 v2) = ((afterH o (bytesH t2 v2) f).1, 50) := by rw [hs, ← h1]
        exact ⟨_, _, _, _, _, saveH_bad hr h h3 (by decide), h2, .inr (.inr ⟨rfl, ho⟩)⟩
theorem slb_under {α : Type} {f : α → Value} {w w' : World} {A : Option Addr} {xs : List α} {B : Nat} {e : TypeId} (h : SlB f e (fun g => g < B) w A xs) (hb : Below B w w') : SlB f e (fun g => g < B) w' A xs := h.keep fun g _ _ hg _ => hb.block g hg
set_option maxRecDepth 100000 in
set_option maxHeartbeats 4000000 in
theorem hardWhole_walk {w : World} (k1 t v n1 : Int) (kv1 : Value) (k2 t2 v2 n2 : Int) (kv2 : Value) (n : Int) (_ : (Lit.int .i64 n).wf = true) (A : Option Addr) (c : Nat) (keep : List Bool) (_ : keep.length ≤ c) (_ : c ≤ maxLen) (hkeep : Sl fBool w A keep) :
    Calls Try.prog 3 #[.agg (hopC k1 t v n1 kv1), .agg (hopC k2 t2 v2 n2 kv2), .int .i64 n, .slice A keep.length c] w fun e w' => e = .returned (.bool true) ∧ Below w.heap.size w w' := by
  obtain ⟨m, hm, e1⟩ := and_lit n 7 (by decide)
  have E1 : Hid (bits BinOp.and IntKind.i64 n 7 = (m : Int)) := Lib.hid e1
  obtain ⟨w0, hw0⟩ : ∃ z, z = (w.alloc (.cells (hopC k1 t v n1 kv1) 24)).alloc (.cells (hopC k2 t2 v2 n2 kv2) 24) := ⟨_, rfl⟩
  have HB0 : Hid (Below w.heap.size w w0) := Lib.hid (by rw [hw0]; exact ((Below.refl _ _).alloc (Nat.le_refl _) _).alloc (by rw [World.size_alloc]; omega) _)
  have HX0 : Hid (Blk w0 w.heap.size 24 (hopC k1 t v n1 kv1)) := Lib.hid (by rw [hw0]; exact (Blk.new_ w _ _).alloc _)
  have HY0 : Hid (Blk w0 (w.heap.size + 1) 24 (hopC k2 t2 v2 n2 kv2)) := Lib.hid (by
    have := Blk.new_ (w.alloc (.cells (hopC k1 t v n1 kv1) 24)) 24 (hopC k2 t2 v2 n2 kv2)
    rw [World.size_alloc] at this; rw [hw0]; exact this)
  have HZ0 : Hid (w0.heap.size = w.heap.size + 2) := Lib.hid (by rw [hw0, World.size_alloc, World.size_alloc])
  obtain ⟨te, hke⟩ := SlB.any hkeep (G := fun g => g < w.heap.size) (fun _ h => h)
  have HKE := Lib.hid hke
  unfold hopC at hw0 ⊢
  have HW0 := Lib.hid hw0
  clear hw0 e1 hkeep hke
  go_enter Try.func3, Try.ntmps3
  go_upto_region 1 with fail
  rw [← HW0.out]
  clear HW0
  go_wp2_with fail
  (with_reducible refine (L_New w0 w0.heap.size (Nat.le_refl _)).mono ?_); rintro e w1 ⟨p, rfl, hd1, -, hb1⟩
  have HD1 := Lib.hid hd1
  have HB1 := Lib.hid hb1
  clear hd1 hb1
  go_wp2_with fail
  (with_reducible refine (alive_any _).mono ?_); rintro e w2 ⟨rfl, hb2⟩
  have HD2 := Lib.hid (HD1.out.below hb2)
  have HB2 : Hid (Below w0.heap.size w0 w2) := Lib.hid (HB1.out.trans (hb2.mono HB1.out.size))
  clear hb2 HB1 HD1
  go_wp2_with fail
  (with_reducible refine (L_hOpen HD2.out o0).mono ?_); rintro e w3 ⟨hb, rfl, ha3, hb3⟩
  have HA3 : Hid (HA w0.heap.size p hb ⟨old none, false, 0⟩ (0, 0) w3) := Lib.hid ha3
  have HB3 : Hid (Below w0.heap.size w0 w3) := Lib.hid (HB2.out.trans hb3)
  clear ha3 hb3 HB2 HD2
  have HXR : Hid (∀ W, Below w0.heap.size w0 W → W.cell? ⟨w.heap.size, 1, none⟩ = some (.int .i64 t) ∧ W.cell? ⟨w.heap.size, 2, none⟩ = some (.int .i64 v) ∧ W.cell? ⟨w.heap.size + 1, 1, none⟩ = some (.int .i64 t2) ∧ W.cell? ⟨w.heap.size + 1, 2, none⟩ = some (.int .i64 v2)) := Lib.hid fun W hW => by
    have h1 := HX0.out.below hW (by have := HZ0.out; omega)
    have h2 := HY0.out.below hW (by have := HZ0.out; omega)
    exact ⟨h1.cell 1, h1.cell 2, h2.cell 1, h2.cell 2⟩
  have HFIN : Hid (∀ W, Below w0.heap.size w0 W → Below w.heap.size w W) := Lib.hid fun W hW => HB0.out.trans (hW.mono HB0.out.size)
  obtain ⟨c1, c2, -, -⟩ := HXR.out _ HB3.out
  cases hr : rightH t v with
  | false =>
    have HS := Lib.hid (saveH_no (s := ⟨old none, false, 0⟩) (tv := (0, 0)) hr)
    clear hr
    go_wp2_with fail
    (with_reducible refine (L_hSave HA3.out t v HS.out (ki := 1) rfl).mono ?_); rintro e w4 ⟨rfl, ha4, hb4⟩
    have HA4 := Lib.hid ha4
    have HB4 : Hid (Below w0.heap.size w0 w4) := Lib.hid (HB3.out.trans hb4)
    clear ha4 hb4 c1 c2
    go_wp2_with fail
    (with_reducible refine (L_hTerm HA4.out).mono ?_); rintro e w' ⟨rfl, rfl⟩
    go_wp2_with fail
    (with_reducible refine (L_hVote HA4.out).mono ?_); rintro e w' ⟨rfl, rfl⟩
    go_wp2_with fail
    go_ret
    exact ⟨rfl, HFIN.out _ HB4.out⟩
  | true =>
    obtain ⟨o, hs, ho⟩ := first_save hr
    obtain ⟨s', tv', k, s2, tv2, hs2, ho2, hcase⟩ := second_save (t2 := t2) (v2 := v2) ho m keep
    have HS := Lib.hid hs
    have HS2 := Lib.hid hs2
    have HO2 := Lib.hid ho2
    have HC := Lib.hid hcase
    clear hr hs ho hs2 ho2 hcase
    go_wp2_with fail
    (with_reducible refine (L_hSave HA3.out t v HS.out (ki := 0) rfl).mono ?_); rintro e w4 ⟨rfl, ha4, hb4⟩
    have HB4 : Hid (Below w0.heap.size w0 w4) := Lib.hid (HB3.out.trans hb4)
    have HF := Lib.hid (L_hFail ha4 (m : Int) (wf_nat7 hm))
    clear ha4 hb4 c1 c2 HA3 HB3
    go_wp2_with fail
    rw [E1.out]
    (with_reducible refine HF.out.mono ?_); rintro e w5 ⟨rfl, ha5, hb5⟩
    have HA5 : Hid (HA w0.heap.size p hb ⟨old o, false, m⟩ (t, v) w5) := Lib.hid ha5
    have HB5 : Hid (Below w0.heap.size w0 w5) := Lib.hid (HB4.out.trans hb5)
    obtain ⟨-, -, d1, d2⟩ := HXR.out _ HB5.out
    clear ha5 hb5 HF HB4
    go_wp2_with fail
    (with_reducible refine (L_hSave HA5.out t2 v2 HS2.out (ki := (k : Int)) rfl).mono ?_); rintro e w6 ⟨rfl, ha6, hb6⟩
    have HB6 : Hid (Below w0.heap.size w0 w6) := Lib.hid (HB5.out.trans hb6)
    have HCR := Lib.hid (L_Crash ha6.d (c := c) (slb_under HKE.out (HFIN.out _ HB6.out)) (.inr (fun g hg => by have := HZ0.out; omega)) rfl)
    clear ha6 hb6 d1 d2 HA5 HB5
    go_wp2_with fail
    (with_reducible refine HCR.out.mono ?_); rintro e w7 ⟨rfl, hd7, hb7⟩
    have HD7 := Lib.hid hd7
    have HB7 : Hid (Below w0.heap.size w0 w7) := Lib.hid (HB6.out.trans hb7)
    clear hd7 hb7 HB6 HCR
    go_wp2_with fail
    (with_reducible refine (L_hOpen HD7.out HO2.out).mono ?_); rintro e w8 ⟨h8, rfl, ha8, hb8⟩
    have HA8 := Lib.hid ha8
    have HB8 : Hid (Below w0.heap.size w0 w8) := Lib.hid (HB7.out.trans hb8)
    clear ha8 hb8 HB7 HD7
    obtain ⟨tt, vv⟩ := tv2
    obtain ⟨x1, hx1⟩ : ∃ z, z = (tt == t) := ⟨_, rfl⟩
    obtain ⟨x2, hx2⟩ : ∃ z, z = (vv == v) := ⟨_, rfl⟩
    obtain ⟨y1, hy1⟩ : ∃ z, z = (tt == t2) := ⟨_, rfl⟩
    obtain ⟨y2, hy2⟩ : ∃ z, z = (vv == v2) := ⟨_, rfl⟩
    have HFC : Hid ((k = 1 ∧ (x1 && x2) = true) ∨ (k = 0 ∧ (y1 && y2) = true) ∨ (k = 50 ∧ (x1 && x2) = true)) := Lib.hid (by
      rcases HC.out with ⟨h1, h2⟩ | ⟨h1, h2⟩ | ⟨h1, h2⟩
      all_goals injection h2 with e1 e2
      · exact .inl ⟨h1, by rw [hx1, hx2, e1, e2]; simp⟩
      · exact .inr (.inl ⟨h1, by rw [hy1, hy2, e1, e2]; simp⟩)
      · exact .inr (.inr ⟨h1, by rw [hx1, hx2, e1, e2]; simp⟩))
    have q1 := hx1.symm
    have q2 := hx2.symm
    have r1 := hy1.symm
    have r2 := hy2.symm
    have HT8 : Hid (∀ W, Below w8.heap.size w8 W → Calls Try.prog 10 #[.pointer (some ⟨h8, 0, none⟩)] W fun e w' => e = .returned (.int .i64 tt) ∧ W = w') := Lib.hid fun W hW => L_hTerm (HA8.out.below hW)
    have HV8 : Hid (∀ W, Below w8.heap.size w8 W → Calls Try.prog 11 #[.pointer (some ⟨h8, 0, none⟩)] W fun e w' => e = .returned (.int .i64 vv) ∧ W = w') := Lib.hid fun W hW => L_hVote (HA8.out.below hW)
    clear hx1 hx2 hy1 hy2 HC
    go_upto_region 15 with fail
    go_cut [15] (fun s15 wx => s15 = .bool (x1 && x2) ∧ wx = w8.drew)
    case first =>
      cases x1 with
      | true =>
        refine AnyZ.start (S := (fun W => W.cell? ⟨w.heap.size, 1, none⟩ = some (.int .i64 t) ∧ W.cell? ⟨w.heap.size, 2, none⟩ = some (.int .i64 v))) (z := 1013) (by kernel_rfl) ?_ (fun hHeld => ?_)
        · exact ⟨(HXR.out _ HB8.out).1, (HXR.out _ HB8.out).2.1⟩
        refine AnyZ.take (i := 0) (v := ?_) rfl (by kernel_rfl) (by kernel_rfl) (by kernel_rfl) (by kernel_rfl) (fun _ _ _ h => h) (Or.inl ⟨by kernel_rfl, ?_⟩) (by assumption) ?_
        rotate_left
        · intro w hSw; (try dsimp only at hSw); go_simp; try with_reducible rfl
        try simp only [Act.put, List.getElem_toArray, List.getElem_cons_succ, List.getElem_cons_zero, List.setIfInBounds_toArray, List.set_cons_zero, List.set_cons_succ]
        refine AnyZ.take (i := 2) (v := ?_) rfl (by kernel_rfl) (by kernel_rfl) (by kernel_rfl) (by kernel_rfl) (fun _ _ _ h => h) (Or.inl ⟨by kernel_rfl, ?_⟩) (by assumption) ?_
        rotate_left
        · intro w hSw; (try dsimp only at hSw); go_simp; try with_reducible rfl
        try simp only [Act.put, List.getElem_toArray, List.getElem_cons_succ, List.getElem_cons_zero, List.setIfInBounds_toArray, List.set_cons_zero, List.set_cons_succ]
        refine AnyZ.take (i := 3) (v := ?_) rfl (by kernel_rfl) (by kernel_rfl) (by kernel_rfl) (by kernel_rfl) (fun _ _ _ h => h) (Or.inl ⟨by kernel_rfl, ?_⟩) (by assumption) ?_
        rotate_left
        · intro w hSw; (try dsimp only at hSw); go_simp; try with_reducible rfl
        try simp only [Act.put, List.getElem_toArray, List.getElem_cons_succ, List.getElem_cons_zero, List.setIfInBounds_toArray, List.set_cons_zero, List.set_cons_succ]
        refine AnyZ.ready (rs := [1]) (by kernel_rfl) (by simp) ?_
        refine AllZ.cons rfl (fun K hK => ?_) AllZ.nil
        go_simp
        (with_reducible refine (HT8.out _ (Below.refl _ _).drew).mono ?_); rintro e w' ⟨rfl, rfl⟩
        refine hK.out _ _ ?_ (fun hHeld => ?_)
        · exact hHeld
        clear hK K
        try simp only [Act.put, List.getElem_toArray, List.getElem_cons_succ, List.getElem_cons_zero, List.setIfInBounds_toArray, List.set_cons_zero, List.set_cons_succ]
        refine AnyZ.take (i := 4) (v := ?_) rfl (by kernel_rfl) (by kernel_rfl) (by kernel_rfl) (by kernel_rfl) (fun _ _ _ h => h) (Or.inl ⟨by kernel_rfl, ?_⟩) (by assumption) ?_
        rotate_left
        · intro w hSw; (try dsimp only at hSw); go_simp; try with_reducible rfl
        try simp only [Act.put, List.getElem_toArray, List.getElem_cons_succ, List.getElem_cons_zero, List.setIfInBounds_toArray, List.set_cons_zero, List.set_cons_succ]
        refine AnyZ.take (i := 5) (v := ?_) rfl (by kernel_rfl) (by kernel_rfl) (by kernel_rfl) (by kernel_rfl) (fun _ _ _ h => h) (Or.inl ⟨by kernel_rfl, ?_⟩) (by assumption) ?_
        rotate_left
        · intro w hSw; (try dsimp only at hSw); go_simp; try with_reducible rfl
        try simp only [Act.put, List.getElem_toArray, List.getElem_cons_succ, List.getElem_cons_zero, List.setIfInBounds_toArray, List.set_cons_zero, List.set_cons_succ]
        refine AnyZ.take (i := 6) (v := ?_) rfl (by kernel_rfl) (by kernel_rfl) (by kernel_rfl) (by kernel_rfl) (fun _ _ _ h => h) (Or.inl ⟨by kernel_rfl, ?_⟩) (by assumption) ?_
        rotate_left
        · intro w hSw; (try dsimp only at hSw); go_simp; try with_reducible rfl
        try simp only [Act.put, List.getElem_toArray, List.getElem_cons_succ, List.getElem_cons_zero, List.setIfInBounds_toArray, List.set_cons_zero, List.set_cons_succ]
        refine AnyZ.take (i := 8) (v := ?_) rfl (by kernel_rfl) (by kernel_rfl) (by kernel_rfl) (by kernel_rfl) (fun _ _ _ h => h) (Or.inl ⟨by kernel_rfl, ?_⟩) (by assumption) ?_
        rotate_left
        · intro w hSw; (try dsimp only at hSw); go_simp; try with_reducible rfl
        try simp only [Act.put, List.getElem_toArray, List.getElem_cons_succ, List.getElem_cons_zero, List.setIfInBounds_toArray, List.set_cons_zero, List.set_cons_succ]
        refine AnyZ.take (i := 9) (v := ?_) rfl (by kernel_rfl) (by kernel_rfl) (by kernel_rfl) (by kernel_rfl) (fun _ _ _ h => h) (Or.inl ⟨by kernel_rfl, ?_⟩) (by assumption) ?_
        rotate_left
        · intro w hSw; (try dsimp only at hSw); go_simp; try with_reducible rfl
        try simp only [Act.put, List.getElem_toArray, List.getElem_cons_succ, List.getElem_cons_zero, List.setIfInBounds_toArray, List.set_cons_zero, List.set_cons_succ]
        refine AnyZ.ready (rs := [7]) (by kernel_rfl) (by simp) ?_
        refine AllZ.cons rfl (fun K hK => ?_) AllZ.nil
        go_simp
        (with_reducible refine (HV8.out _ (Below.refl _ _).drew).mono ?_); rintro e w' ⟨rfl, rfl⟩
        refine hK.out _ _ ?_ (fun hHeld => ?_)
        · exact hHeld
        clear hK K
        try simp only [Act.put, List.getElem_toArray, List.getElem_cons_succ, List.getElem_cons_zero, List.setIfInBounds_toArray, List.set_cons_zero, List.set_cons_succ]
        refine AnyZ.take (i := 10) (v := ?_) rfl (by kernel_rfl) (by kernel_rfl) (by kernel_rfl) (by kernel_rfl) (fun _ _ _ h => h) (Or.inl ⟨by kernel_rfl, ?_⟩) (by assumption) ?_
        rotate_left
        · intro w hSw; (try dsimp only at hSw); go_simp; try with_reducible rfl
        try simp only [Act.put, List.getElem_toArray, List.getElem_cons_succ, List.getElem_cons_zero, List.setIfInBounds_toArray, List.set_cons_zero, List.set_cons_succ]
        refine AnyZ.take (i := 11) (v := ?_) rfl (by kernel_rfl) (by kernel_rfl) (by kernel_rfl) (by kernel_rfl) (fun _ _ _ h => h) (Or.inl ⟨by kernel_rfl, ?_⟩) (by assumption) ?_
        rotate_left
        · intro w hSw; (try dsimp only at hSw); go_simp; try with_reducible rfl
        try simp only [Act.put, List.getElem_toArray, List.getElem_cons_succ, List.getElem_cons_zero, List.setIfInBounds_toArray, List.set_cons_zero, List.set_cons_succ]
        refine AnyZ.take (i := 12) (v := ?_) rfl (by kernel_rfl) (by kernel_rfl) (by kernel_rfl) (by kernel_rfl) (fun _ _ _ h => h) (Or.inl ⟨by kernel_rfl, ?_⟩) (by assumption) ?_
        rotate_left
        · intro w hSw; (try dsimp only at hSw); go_simp; try with_reducible rfl
        try simp only [Act.put, List.getElem_toArray, List.getElem_cons_succ, List.getElem_cons_zero, List.setIfInBounds_toArray, List.set_cons_zero, List.set_cons_succ]
        refine AnyZ.done (by kernel_rfl) ?_ _
        (try go_wp2_with fail)
        go_meet
        exact ⟨rfl, rfl⟩
      | false =>
        refine AnyZ.start (S := (fun W => W.cell? ⟨w.heap.size, 1, none⟩ = some (.int .i64 t) ∧ W.cell? ⟨w.heap.size, 2, none⟩ = some (.int .i64 v))) (z := 1013) (by kernel_rfl) ?_ (fun hHeld => ?_)
        · exact ⟨(HXR.out _ HB8.out).1, (HXR.out _ HB8.out).2.1⟩
        refine AnyZ.take (i := 0) (v := ?_) rfl (by kernel_rfl) (by kernel_rfl) (by kernel_rfl) (by kernel_rfl) (fun _ _ _ h => h) (Or.inl ⟨by kernel_rfl, ?_⟩) (by assumption) ?_
        rotate_left
        · intro w hSw; (try dsimp only at hSw); go_simp; try with_reducible rfl
        try simp only [Act.put, List.getElem_toArray, List.getElem_cons_succ, List.getElem_cons_zero, List.setIfInBounds_toArray, List.set_cons_zero, List.set_cons_succ]
        refine AnyZ.take (i := 2) (v := ?_) rfl (by kernel_rfl) (by kernel_rfl) (by kernel_rfl) (by kernel_rfl) (fun _ _ _ h => h) (Or.inl ⟨by kernel_rfl, ?_⟩) (by assumption) ?_
        rotate_left
        · intro w hSw; (try dsimp only at hSw); go_simp; try with_reducible rfl
        try simp only [Act.put, List.getElem_toArray, List.getElem_cons_succ, List.getElem_cons_zero, List.setIfInBounds_toArray, List.set_cons_zero, List.set_cons_succ]
        refine AnyZ.take (i := 3) (v := ?_) rfl (by kernel_rfl) (by kernel_rfl) (by kernel_rfl) (by kernel_rfl) (fun _ _ _ h => h) (Or.inl ⟨by kernel_rfl, ?_⟩) (by assumption) ?_
        rotate_left
        · intro w hSw; (try dsimp only at hSw); go_simp; try with_reducible rfl
        try simp only [Act.put, List.getElem_toArray, List.getElem_cons_succ, List.getElem_cons_zero, List.setIfInBounds_toArray, List.set_cons_zero, List.set_cons_succ]
        refine AnyZ.ready (rs := [1]) (by kernel_rfl) (by simp) ?_
        refine AllZ.cons rfl (fun K hK => ?_) AllZ.nil
        go_simp
        (with_reducible refine (HT8.out _ (Below.refl _ _).drew).mono ?_); rintro e w' ⟨rfl, rfl⟩
        refine hK.out _ _ ?_ (fun hHeld => ?_)
        · exact hHeld
        clear hK K
        try simp only [Act.put, List.getElem_toArray, List.getElem_cons_succ, List.getElem_cons_zero, List.setIfInBounds_toArray, List.set_cons_zero, List.set_cons_succ]
        refine AnyZ.take (i := 4) (v := ?_) rfl (by kernel_rfl) (by kernel_rfl) (by kernel_rfl) (by kernel_rfl) (fun _ _ _ h => h) (Or.inl ⟨by kernel_rfl, ?_⟩) (by assumption) ?_
        rotate_left
        · intro w hSw; (try dsimp only at hSw); go_simp; try with_reducible rfl
        try simp only [Act.put, List.getElem_toArray, List.getElem_cons_succ, List.getElem_cons_zero, List.setIfInBounds_toArray, List.set_cons_zero, List.set_cons_succ]
        refine AnyZ.take (i := 5) (v := ?_) rfl (by kernel_rfl) (by kernel_rfl) (by kernel_rfl) (by kernel_rfl) (fun _ _ _ h => h) (Or.inl ⟨by kernel_rfl, ?_⟩) (by assumption) ?_
        rotate_left
        · intro w hSw; (try dsimp only at hSw); go_simp; try with_reducible rfl
        try simp only [Act.put, List.getElem_toArray, List.getElem_cons_succ, List.getElem_cons_zero, List.setIfInBounds_toArray, List.set_cons_zero, List.set_cons_succ]
        refine AnyZ.takeAny (i := 6) (v := undef) rfl (by kernel_rfl) (by kernel_rfl) (by kernel_rfl) (by kernel_rfl) (fun _ _ _ h => h) (Or.inr ⟨by kernel_rfl, rfl⟩) (by assumption) ?_
        try simp only [Act.put, List.getElem_toArray, List.getElem_cons_succ, List.getElem_cons_zero, List.setIfInBounds_toArray, List.set_cons_zero, List.set_cons_succ]
        refine AnyZ.takeAny (i := 7) (v := undef) rfl (by kernel_rfl) (by kernel_rfl) (by kernel_rfl) (by kernel_rfl) (fun _ _ _ h => h) (Or.inr ⟨by kernel_rfl, rfl⟩) (by assumption) ?_
        try simp only [Act.put, List.getElem_toArray, List.getElem_cons_succ, List.getElem_cons_zero, List.setIfInBounds_toArray, List.set_cons_zero, List.set_cons_succ]
        refine AnyZ.takeAny (i := 8) (v := undef) rfl (by kernel_rfl) (by kernel_rfl) (by kernel_rfl) (by kernel_rfl) (fun _ _ _ h => h) (Or.inr ⟨by kernel_rfl, rfl⟩) (by assumption) ?_
        try simp only [Act.put, List.getElem_toArray, List.getElem_cons_succ, List.getElem_cons_zero, List.setIfInBounds_toArray, List.set_cons_zero, List.set_cons_succ]
        refine AnyZ.takeAny (i := 9) (v := undef) rfl (by kernel_rfl) (by kernel_rfl) (by kernel_rfl) (by kernel_rfl) (fun _ _ _ h => h) (Or.inr ⟨by kernel_rfl, rfl⟩) (by assumption) ?_
        try simp only [Act.put, List.getElem_toArray, List.getElem_cons_succ, List.getElem_cons_zero, List.setIfInBounds_toArray, List.set_cons_zero, List.set_cons_succ]
        refine AnyZ.takeAny (i := 10) (v := undef) rfl (by kernel_rfl) (by kernel_rfl) (by kernel_rfl) (by kernel_rfl) (fun _ _ _ h => h) (Or.inr ⟨by kernel_rfl, rfl⟩) (by assumption) ?_
        try simp only [Act.put, List.getElem_toArray, List.getElem_cons_succ, List.getElem_cons_zero, List.setIfInBounds_toArray, List.set_cons_zero, List.set_cons_succ]
        refine AnyZ.take (i := 11) (v := ?_) rfl (by kernel_rfl) (by kernel_rfl) (by kernel_rfl) (by kernel_rfl) (fun _ _ _ h => h) (Or.inl ⟨by kernel_rfl, ?_⟩) (by assumption) ?_
        rotate_left
        · intro w hSw; (try dsimp only at hSw); go_simp; try with_reducible rfl
        try simp only [Act.put, List.getElem_toArray, List.getElem_cons_succ, List.getElem_cons_zero, List.setIfInBounds_toArray, List.set_cons_zero, List.set_cons_succ]
        refine AnyZ.take (i := 12) (v := ?_) rfl (by kernel_rfl) (by kernel_rfl) (by kernel_rfl) (by kernel_rfl) (fun _ _ _ h => h) (Or.inl ⟨by kernel_rfl, ?_⟩) (by assumption) ?_
        rotate_left
        · intro w hSw; (try dsimp only at hSw); go_simp; try with_reducible rfl
        try simp only [Act.put, List.getElem_toArray, List.getElem_cons_succ, List.getElem_cons_zero, List.setIfInBounds_toArray, List.set_cons_zero, List.set_cons_succ]
        refine AnyZ.done (by kernel_rfl) ?_ _
        (try go_wp2_with fail)
        go_meet
        exact ⟨rfl, rfl⟩
    case rest =>
      obtain ⟨rfl, hwc⟩ := hcut
      rw [hwc]; clear hwc
      clear q1 q2
      go_upto_region 16 with fail
      go_cut [16] (fun s16 wx => s16 = .bool (y1 && y2) ∧ wx = w8.drew.drew)
      case first =>
        cases y1 with
        | true =>
          refine AnyZ.start (S := (fun W => W.cell? ⟨w.heap.size + 1, 1, none⟩ = some (.int .i64 t2) ∧ W.cell? ⟨w.heap.size + 1, 2, none⟩ = some (.int .i64 v2))) (z := 1013) (by kernel_rfl) ?_ (fun hHeld => ?_)
          · exact ⟨(HXR.out _ HB8.out).2.2.1, (HXR.out _ HB8.out).2.2.2⟩
          refine AnyZ.take (i := 0) (v := ?_) rfl (by kernel_rfl) (by kernel_rfl) (by kernel_rfl) (by kernel_rfl) (fun _ _ _ h => h) (Or.inl ⟨by kernel_rfl, ?_⟩) (by assumption) ?_
          rotate_left
          · intro w hSw; (try dsimp only at hSw); go_simp; try with_reducible rfl
          try simp only [Act.put, List.getElem_toArray, List.getElem_cons_succ, List.getElem_cons_zero, List.setIfInBounds_toArray, List.set_cons_zero, List.set_cons_succ]
          refine AnyZ.take (i := 2) (v := ?_) rfl (by kernel_rfl) (by kernel_rfl) (by kernel_rfl) (by kernel_rfl) (fun _ _ _ h => h) (Or.inl ⟨by kernel_rfl, ?_⟩) (by assumption) ?_
          rotate_left
          · intro w hSw; (try dsimp only at hSw); go_simp; try with_reducible rfl
          try simp only [Act.put, List.getElem_toArray, List.getElem_cons_succ, List.getElem_cons_zero, List.setIfInBounds_toArray, List.set_cons_zero, List.set_cons_succ]
          refine AnyZ.take (i := 3) (v := ?_) rfl (by kernel_rfl) (by kernel_rfl) (by kernel_rfl) (by kernel_rfl) (fun _ _ _ h => h) (Or.inl ⟨by kernel_rfl, ?_⟩) (by assumption) ?_
          rotate_left
          · intro w hSw; (try dsimp only at hSw); go_simp; try with_reducible rfl
          try simp only [Act.put, List.getElem_toArray, List.getElem_cons_succ, List.getElem_cons_zero, List.setIfInBounds_toArray, List.set_cons_zero, List.set_cons_succ]
          refine AnyZ.ready (rs := [1]) (by kernel_rfl) (by simp) ?_
          refine AllZ.cons rfl (fun K hK => ?_) AllZ.nil
          go_simp
          (with_reducible refine (HT8.out _ (Below.refl _ _).drew.drew).mono ?_); rintro e w' ⟨rfl, rfl⟩
          refine hK.out _ _ ?_ (fun hHeld => ?_)
          · exact hHeld
          clear hK K
          try simp only [Act.put, List.getElem_toArray, List.getElem_cons_succ, List.getElem_cons_zero, List.setIfInBounds_toArray, List.set_cons_zero, List.set_cons_succ]
          refine AnyZ.take (i := 4) (v := ?_) rfl (by kernel_rfl) (by kernel_rfl) (by kernel_rfl) (by kernel_rfl) (fun _ _ _ h => h) (Or.inl ⟨by kernel_rfl, ?_⟩) (by assumption) ?_
          rotate_left
          · intro w hSw; (try dsimp only at hSw); go_simp; try with_reducible rfl
          try simp only [Act.put, List.getElem_toArray, List.getElem_cons_succ, List.getElem_cons_zero, List.setIfInBounds_toArray, List.set_cons_zero, List.set_cons_succ]
          refine AnyZ.take (i := 5) (v := ?_) rfl (by kernel_rfl) (by kernel_rfl) (by kernel_rfl) (by kernel_rfl) (fun _ _ _ h => h) (Or.inl ⟨by kernel_rfl, ?_⟩) (by assumption) ?_
          rotate_left
          · intro w hSw; (try dsimp only at hSw); go_simp; try with_reducible rfl
          try simp only [Act.put, List.getElem_toArray, List.getElem_cons_succ, List.getElem_cons_zero, List.setIfInBounds_toArray, List.set_cons_zero, List.set_cons_succ]
          refine AnyZ.take (i := 6) (v := ?_) rfl (by kernel_rfl) (by kernel_rfl) (by kernel_rfl) (by kernel_rfl) (fun _ _ _ h => h) (Or.inl ⟨by kernel_rfl, ?_⟩) (by assumption) ?_
          rotate_left
          · intro w hSw; (try dsimp only at hSw); go_simp; try with_reducible rfl
          try simp only [Act.put, List.getElem_toArray, List.getElem_cons_succ, List.getElem_cons_zero, List.setIfInBounds_toArray, List.set_cons_zero, List.set_cons_succ]
          refine AnyZ.take (i := 8) (v := ?_) rfl (by kernel_rfl) (by kernel_rfl) (by kernel_rfl) (by kernel_rfl) (fun _ _ _ h => h) (Or.inl ⟨by kernel_rfl, ?_⟩) (by assumption) ?_
          rotate_left
          · intro w hSw; (try dsimp only at hSw); go_simp; try with_reducible rfl
          try simp only [Act.put, List.getElem_toArray, List.getElem_cons_succ, List.getElem_cons_zero, List.setIfInBounds_toArray, List.set_cons_zero, List.set_cons_succ]
          refine AnyZ.take (i := 9) (v := ?_) rfl (by kernel_rfl) (by kernel_rfl) (by kernel_rfl) (by kernel_rfl) (fun _ _ _ h => h) (Or.inl ⟨by kernel_rfl, ?_⟩) (by assumption) ?_
          rotate_left
          · intro w hSw; (try dsimp only at hSw); go_simp; try with_reducible rfl
          try simp only [Act.put, List.getElem_toArray, List.getElem_cons_succ, List.getElem_cons_zero, List.setIfInBounds_toArray, List.set_cons_zero, List.set_cons_succ]
          refine AnyZ.ready (rs := [7]) (by kernel_rfl) (by simp) ?_
          refine AllZ.cons rfl (fun K hK => ?_) AllZ.nil
          go_simp
          (with_reducible refine (HV8.out _ (Below.refl _ _).drew.drew).mono ?_); rintro e w' ⟨rfl, rfl⟩
          refine hK.out _ _ ?_ (fun hHeld => ?_)
          · exact hHeld
          clear hK K
          try simp only [Act.put, List.getElem_toArray, List.getElem_cons_succ, List.getElem_cons_zero, List.setIfInBounds_toArray, List.set_cons_zero, List.set_cons_succ]
          refine AnyZ.take (i := 10) (v := ?_) rfl (by kernel_rfl) (by kernel_rfl) (by kernel_rfl) (by kernel_rfl) (fun _ _ _ h => h) (Or.inl ⟨by kernel_rfl, ?_⟩) (by assumption) ?_
          rotate_left
          · intro w hSw; (try dsimp only at hSw); go_simp; try with_reducible rfl
          try simp only [Act.put, List.getElem_toArray, List.getElem_cons_succ, List.getElem_cons_zero, List.setIfInBounds_toArray, List.set_cons_zero, List.set_cons_succ]
          refine AnyZ.take (i := 11) (v := ?_) rfl (by kernel_rfl) (by kernel_rfl) (by kernel_rfl) (by kernel_rfl) (fun _ _ _ h => h) (Or.inl ⟨by kernel_rfl, ?_⟩) (by assumption) ?_
          rotate_left
          · intro w hSw; (try dsimp only at hSw); go_simp; try with_reducible rfl
          try simp only [Act.put, List.getElem_toArray, List.getElem_cons_succ, List.getElem_cons_zero, List.setIfInBounds_toArray, List.set_cons_zero, List.set_cons_succ]
          refine AnyZ.take (i := 12) (v := ?_) rfl (by kernel_rfl) (by kernel_rfl) (by kernel_rfl) (by kernel_rfl) (fun _ _ _ h => h) (Or.inl ⟨by kernel_rfl, ?_⟩) (by assumption) ?_
          rotate_left
          · intro w hSw; (try dsimp only at hSw); go_simp; try with_reducible rfl
          try simp only [Act.put, List.getElem_toArray, List.getElem_cons_succ, List.getElem_cons_zero, List.setIfInBounds_toArray, List.set_cons_zero, List.set_cons_succ]
          refine AnyZ.done (by kernel_rfl) ?_ _
          (try go_wp2_with fail)
          go_meet
          exact ⟨rfl, rfl⟩
        | false =>
          refine AnyZ.start (S := (fun W => W.cell? ⟨w.heap.size + 1, 1, none⟩ = some (.int .i64 t2) ∧ W.cell? ⟨w.heap.size + 1, 2, none⟩ = some (.int .i64 v2))) (z := 1013) (by kernel_rfl) ?_ (fun hHeld => ?_)
          · exact ⟨(HXR.out _ HB8.out).2.2.1, (HXR.out _ HB8.out).2.2.2⟩
          refine AnyZ.take (i := 0) (v := ?_) rfl (by kernel_rfl) (by kernel_rfl) (by kernel_rfl) (by kernel_rfl) (fun _ _ _ h => h) (Or.inl ⟨by kernel_rfl, ?_⟩) (by assumption) ?_
          rotate_left
          · intro w hSw; (try dsimp only at hSw); go_simp; try with_reducible rfl
          try simp only [Act.put, List.getElem_toArray, List.getElem_cons_succ, List.getElem_cons_zero, List.setIfInBounds_toArray, List.set_cons_zero, List.set_cons_succ]
          refine AnyZ.take (i := 2) (v := ?_) rfl (by kernel_rfl) (by kernel_rfl) (by kernel_rfl) (by kernel_rfl) (fun _ _ _ h => h) (Or.inl ⟨by kernel_rfl, ?_⟩) (by assumption) ?_
          rotate_left
          · intro w hSw; (try dsimp only at hSw); go_simp; try with_reducible rfl
          try simp only [Act.put, List.getElem_toArray, List.getElem_cons_succ, List.getElem_cons_zero, List.setIfInBounds_toArray, List.set_cons_zero, List.set_cons_succ]
          refine AnyZ.take (i := 3) (v := ?_) rfl (by kernel_rfl) (by kernel_rfl) (by kernel_rfl) (by kernel_rfl) (fun _ _ _ h => h) (Or.inl ⟨by kernel_rfl, ?_⟩) (by assumption) ?_
          rotate_left
          · intro w hSw; (try dsimp only at hSw); go_simp; try with_reducible rfl
          try simp only [Act.put, List.getElem_toArray, List.getElem_cons_succ, List.getElem_cons_zero, List.setIfInBounds_toArray, List.set_cons_zero, List.set_cons_succ]
          refine AnyZ.ready (rs := [1]) (by kernel_rfl) (by simp) ?_
          refine AllZ.cons rfl (fun K hK => ?_) AllZ.nil
          go_simp
          (with_reducible refine (HT8.out _ (Below.refl _ _).drew.drew).mono ?_); rintro e w' ⟨rfl, rfl⟩
          refine hK.out _ _ ?_ (fun hHeld => ?_)
          · exact hHeld
          clear hK K
          try simp only [Act.put, List.getElem_toArray, List.getElem_cons_succ, List.getElem_cons_zero, List.setIfInBounds_toArray, List.set_cons_zero, List.set_cons_succ]
          refine AnyZ.take (i := 4) (v := ?_) rfl (by kernel_rfl) (by kernel_rfl) (by kernel_rfl) (by kernel_rfl) (fun _ _ _ h => h) (Or.inl ⟨by kernel_rfl, ?_⟩) (by assumption) ?_
          rotate_left
          · intro w hSw; (try dsimp only at hSw); go_simp; try with_reducible rfl
          try simp only [Act.put, List.getElem_toArray, List.getElem_cons_succ, List.getElem_cons_zero, List.setIfInBounds_toArray, List.set_cons_zero, List.set_cons_succ]
          refine AnyZ.take (i := 5) (v := ?_) rfl (by kernel_rfl) (by kernel_rfl) (by kernel_rfl) (by kernel_rfl) (fun _ _ _ h => h) (Or.inl ⟨by kernel_rfl, ?_⟩) (by assumption) ?_
          rotate_left
          · intro w hSw; (try dsimp only at hSw); go_simp; try with_reducible rfl
          try simp only [Act.put, List.getElem_toArray, List.getElem_cons_succ, List.getElem_cons_zero, List.setIfInBounds_toArray, List.set_cons_zero, List.set_cons_succ]
          refine AnyZ.takeAny (i := 6) (v := undef) rfl (by kernel_rfl) (by kernel_rfl) (by kernel_rfl) (by kernel_rfl) (fun _ _ _ h => h) (Or.inr ⟨by kernel_rfl, rfl⟩) (by assumption) ?_
          try simp only [Act.put, List.getElem_toArray, List.getElem_cons_succ, List.getElem_cons_zero, List.setIfInBounds_toArray, List.set_cons_zero, List.set_cons_succ]
          refine AnyZ.takeAny (i := 7) (v := undef) rfl (by kernel_rfl) (by kernel_rfl) (by kernel_rfl) (by kernel_rfl) (fun _ _ _ h => h) (Or.inr ⟨by kernel_rfl, rfl⟩) (by assumption) ?_
          try simp only [Act.put, List.getElem_toArray, List.getElem_cons_succ, List.getElem_cons_zero, List.setIfInBounds_toArray, List.set_cons_zero, List.set_cons_succ]
          refine AnyZ.takeAny (i := 8) (v := undef) rfl (by kernel_rfl) (by kernel_rfl) (by kernel_rfl) (by kernel_rfl) (fun _ _ _ h => h) (Or.inr ⟨by kernel_rfl, rfl⟩) (by assumption) ?_
          try simp only [Act.put, List.getElem_toArray, List.getElem_cons_succ, List.getElem_cons_zero, List.setIfInBounds_toArray, List.set_cons_zero, List.set_cons_succ]
          refine AnyZ.takeAny (i := 9) (v := undef) rfl (by kernel_rfl) (by kernel_rfl) (by kernel_rfl) (by kernel_rfl) (fun _ _ _ h => h) (Or.inr ⟨by kernel_rfl, rfl⟩) (by assumption) ?_
          try simp only [Act.put, List.getElem_toArray, List.getElem_cons_succ, List.getElem_cons_zero, List.setIfInBounds_toArray, List.set_cons_zero, List.set_cons_succ]
          refine AnyZ.takeAny (i := 10) (v := undef) rfl (by kernel_rfl) (by kernel_rfl) (by kernel_rfl) (by kernel_rfl) (fun _ _ _ h => h) (Or.inr ⟨by kernel_rfl, rfl⟩) (by assumption) ?_
          try simp only [Act.put, List.getElem_toArray, List.getElem_cons_succ, List.getElem_cons_zero, List.setIfInBounds_toArray, List.set_cons_zero, List.set_cons_succ]
          refine AnyZ.take (i := 11) (v := ?_) rfl (by kernel_rfl) (by kernel_rfl) (by kernel_rfl) (by kernel_rfl) (fun _ _ _ h => h) (Or.inl ⟨by kernel_rfl, ?_⟩) (by assumption) ?_
          rotate_left
          · intro w hSw; (try dsimp only at hSw); go_simp; try with_reducible rfl
          try simp only [Act.put, List.getElem_toArray, List.getElem_cons_succ, List.getElem_cons_zero, List.setIfInBounds_toArray, List.set_cons_zero, List.set_cons_succ]
          refine AnyZ.take (i := 12) (v := ?_) rfl (by kernel_rfl) (by kernel_rfl) (by kernel_rfl) (by kernel_rfl) (fun _ _ _ h => h) (Or.inl ⟨by kernel_rfl, ?_⟩) (by assumption) ?_
          rotate_left
          · intro w hSw; (try dsimp only at hSw); go_simp; try with_reducible rfl
          try simp only [Act.put, List.getElem_toArray, List.getElem_cons_succ, List.getElem_cons_zero, List.setIfInBounds_toArray, List.set_cons_zero, List.set_cons_succ]
          refine AnyZ.done (by kernel_rfl) ?_ _
          (try go_wp2_with fail)
          go_meet
          exact ⟨rfl, rfl⟩
      case rest =>
        obtain ⟨rfl, hwc⟩ := hcut
        rw [hwc]; clear hwc
        clear r1 r2
        obtain ⟨x, hx⟩ : ∃ z, z = (x1 && x2) := ⟨_, rfl⟩
        obtain ⟨y, hy⟩ : ∃ z, z = (y1 && y2) := ⟨_, rfl⟩
        have hfc := HFC.out
        rw [← hx, ← hy] at hfc
        rw [← hx, ← hy]
        have HBF : Hid (Below w.heap.size w w8.drew.drew) := Lib.hid (HFIN.out _ HB8.out.drew.drew)
        clear hx hy HFC
        rcases hfc with ⟨rfl, rfl⟩ | ⟨rfl, rfl⟩ | ⟨rfl, rfl⟩
        · go_wp2_with fail
          go_ret
          exact ⟨rfl, HBF.out⟩
        · go_wp2_with fail
          go_ret
          exact ⟨rfl, HBF.out⟩
        · cases y <;>
          · go_wp2_with fail
            go_ret
            exact ⟨rfl, HBF.out⟩
end Go.Proofs.Ytfpomllhkbbipaa
