/- Layer 3: frames read: the program's. -/
import Derived.Test.YtfnmofoecehcfaaFrm3
namespace Go.Proofs.Ytfnmofoecehcfaa
open Go Go.RowKit Go.Maps Go.Lib Mem Pk

theorem cut_lhk {P : Program} {t e : TypeId} (hu : P.underlying t = some (.slice e)) (hs : ∀ w, (sizeOf e).run P w = .ok 1 w) (kl kh : IntKind) (A : Option Addr) (len cap l h : Nat) (h1 : l ≤ h) (h2 : h ≤ cap) (w : World) :
    (Instr.slice t (.slice A len cap) (some (.int kl (l : Int))) (some (.int kh (h : Int))) none).run P w = .ok (.slice (partA A cap l) (h - l) (cap - l)) w := by
  have he : P.elem t = e := by simp [Program.elem, hu]
  have hu' : P.underlying t = some (.slice (P.elem t)) := by rw [he]; exact hu
  rw [run_slice_lh w t A len cap hu' kl kh l h (by omega) (by omega) (by omega), he, hs]
  show Result.ok (sliced A (l : Int).toNat (h : Int).toNat cap 1) w = _
  simp [sliced, partA]
theorem cut_h {P : Program} {t e : TypeId} (hu : P.underlying t = some (.slice e)) (hs : ∀ w, (sizeOf e).run P w = .ok 1 w) (kh : IntKind) (A : Option Addr) (len cap h : Nat) (h2 : h ≤ cap) (w : World) :
    (Instr.slice t (.slice A len cap) none (some (.int kh (h : Int))) none).run P w = .ok (.slice (partA A cap 0) h cap) w := by
  have he : P.elem t = e := by simp [Program.elem, hu]
  have hu' : P.underlying t = some (.slice (P.elem t)) := by rw [he]; exact hu
  rw [run_slice_h w t A len cap hu' kh h (by omega) (by omega), he, hs]
  show Result.ok (sliced A 0 (h : Int).toNat cap 1) w = _
  simp [sliced, partA]
/-- a payload, how many bytes it has, a code -/
def UfPost (res : List UInt8 × Nat × Int) (w : World) (e : Ending) (w' : World) : Prop :=
  ∃ A c, e = .returned (.tuple #[.slice A res.1.length c, .int .i64 (res.2.1 : Int), .int .i64 res.2.2]) ∧ Own fB w.heap.size 5 w' (.slice A res.1.length c) res.1 ∧ Below w.heap.size w w'
theorem UfPost.no {w w' : World} {k : Int} (h : Below w.heap.size w w') : UfPost ([], 0, k) w (.returned (.tuple #[.slice none 0 0, .int .i64 0, .int .i64 k])) w' := ⟨none, 0, rfl, Own.nil, h⟩
def ClPost (xs : List UInt8) (w : World) (e : Ending) (w' : World) : Prop := ∃ A c, e = .returned (.slice A xs.length c) ∧ Own fB w.heap.size 5 w' (.slice A xs.length c) xs ∧ Below w.heap.size w w'
theorem CloneB_any (A : Option Addr) (c : Nat) (xs : List UInt8) (hl : xs.length ≤ 140737488355328) (w : World) (hs : Sl fB w A xs) :
    Calls Try.prog 43 #[.slice A xs.length c] w (ClPost xs w) := by
  have hnil := fun (w : World) (a : Option Addr) (n c : Nat) => Lib.run_eql_slice_nil (P := Try.prog) w 25 5 a n c 0 0 Try.underlying25
  have hl1 : xs.length ≤ maxLen := by unfold maxLen; omega
  have hl2 : xs.length * 1 ≤ 140737488355328 := by omega
  have HL1 := Lib.hid hl1; clear hl1
  have HL2 := Lib.hid hl2; clear hl2
  cases A with
  | none =>
    obtain rfl : xs = [] := by
      cases xs with
      | nil => rfl
      | cons x r => obtain ⟨b, o, e, _⟩ := hs.2 (by simp); cases e
    go_enter Try.func43, Try.ntmps43
    go_wp2_with fail
    go_ret
    exact ⟨none, 0, rfl, Own.nil, Below.refl _ _⟩
  | some ad =>
    go_enter Try.func43, Try.ntmps43
    go_wp2_with (at_builtin; refine wpList_appendN (f := fB) rfl (.tmp 5) (.tmp 6) 25 rfl u8T rfl (Own.mk_ (Nat.le_refl _)) rfl (hs.below ((Below.refl _ _).alloc (Nat.le_refl _) _)) fB_oneJ (by rw [List.length_nil, Nat.zero_add]; exact HL1.out) (by rw [List.length_nil, Nat.zero_add]; exact HL2.out) (by simp) ?_; intro v1 w1 hown1 hb1; obtain ⟨A', c', rfl⟩ := hown1.form)
    go_ret
    rw [List.nil_append] at hown1
    exact ⟨A', c', rfl, hown1, ((Below.refl _ _).alloc (Nat.le_refl _) _).trans hb1⟩
theorem Sum_q {w : World} {A : Option Addr} {c n : Nat} {bs : List UInt8} (h : Sl fB w A bs) : Calls Try.prog 38 #[.slice A bs.length c] (w.drewN n) fun e w'' => e = .returned (.int .u32 (sumN bs : Int)) ∧ ∃ m, w'' = w.drewN m :=
  quiet_mine (Sum_any (c := c) (h.drewN n))
theorem unword_q {w : World} {A : Option Addr} {c n : Nat} {bs : List UInt8} (h : Sl fB w A bs) (h4 : 4 ≤ bs.length) : Calls Try.prog 42 #[.slice A bs.length c] (w.drewN n) fun e w'' => e = .returned (.int .u32 (unwordN bs : Int)) ∧ ∃ m, w'' = w.drewN m :=
  Calls.quiet_of (unword_any (c := c) (h.drewN n) h4)
set_option maxRecDepth 100000 in
set_option maxHeartbeats 1000000 in
theorem Unframe_any {w : World} {A : Option Addr} {c : Nat} {bs : List UInt8} (h : Sl fB w A bs) (hc : bs.length ≤ c) (hm : c ≤ maxLen) :
    Calls Try.prog 19 #[.slice A bs.length c] w (UfPost (unframe bs) w) := by
  have hl := h.len
  obtain ⟨u, hu⟩ : ∃ u, u = unwordN bs := ⟨_, rfl⟩
  unfold unframe
  rw [← hu]
  by_cases h8 : bs.length < 8
  · rw [if_pos h8]
    have t1 : (bs.length : Int) < 8 := by omega
    clear h hc hm hu h8
    go_enter Try.func19, Try.ntmps19
    go_wp2_with fail
    refine bodyPost_ret (v := .tuple #[.slice none 0 0, .int .i64 0, .int .i64 31]) (by simp [results, Try.results19, go_sem]) rfl ?_
    exact UfPost.no (Below.refl _ _)
  · rw [if_neg h8]
    have t1 : ¬ (bs.length : Int) < 8 := by omega
    have HUW := Lib.hid (unword_any (c := c) h (by omega))
    rw [← hu] at HUW
    have H := Lib.hid h; clear h
    have HU := Lib.hid hu; clear hu
    have H8 := Lib.hid h8; clear h8
    have HC := Lib.hid hc; clear hc
    have HM := Lib.hid hm; clear hm
    have HU32 : Hid (u < 4294967296) := Lib.hid (by rw [HU.out]; exact unwordN_lt bs)
    by_cases h2 : 4096 < u
    · rw [if_pos h2]
      have t2 : (4096 : Int) < (u : Int) := by omega
      clear h2
      go_enter Try.func19, Try.ntmps19
      go_wp2_with fail
      (with_reducible refine HUW.out.mono ?_); rintro e w2 ⟨rfl, m, rfl⟩
      go_wp2_with fail
      refine bodyPost_ret (v := .tuple #[.slice none 0 0, .int .i64 0, .int .i64 2]) (by simp [results, Try.results19, go_sem]) rfl ?_
      exact UfPost.no (below_drewN (Below.refl _ _) _)
    · rw [if_neg h2]
      have t2 : ¬ (4096 : Int) < (u : Int) := by omega
      obtain ⟨v, hv⟩ : ∃ v, v = 8 + u := ⟨_, rfl⟩
      have e1 : IntKind.i64.wrap (u : Int) = (u : Int) := by rw [IntKind.wrap_i64]; omega
      have e2 : IntKind.i64.wrap (8 + (u : Int)) = (v : Int) := by rw [IntKind.wrap_i64]; omega
      have e2b : 8 + (u : Int) = (v : Int) := by omega
      have e3 : IntKind.u32.wrap (v : Int) = (v : Int) := by rw [IntKind.wrap_u32]; omega
      have e3b : (v : Int) % 4294967296 = (v : Int) := by omega
      have hu4 : u ≤ 4096 := by omega
      by_cases h3 : bs.length < 8 + u
      · rw [if_pos h3]
        have t3 : (bs.length : Int) < (v : Int) := by omega
        clear h2 h3 hv hu4
        go_enter Try.func19, Try.ntmps19
        go_wp2_with fail
        (with_reducible refine HUW.out.mono ?_); rintro e w2 ⟨rfl, m, rfl⟩
        go_wp2_with fail
        refine bodyPost_ret (v := .tuple #[.slice none 0 0, .int .i64 0, .int .i64 31]) (by simp [results, Try.results19, go_sem]) rfl ?_
        exact UfPost.no (below_drewN (Below.refl _ _) _)
      · rw [if_neg h3]
        have t3 : ¬ (bs.length : Int) < (v : Int) := by omega
        have hcl := HC.out
        obtain ⟨p, hp⟩ : ∃ p, p = (bs.drop 8).take u := ⟨_, rfl⟩
        have hpl : p.length = u := by rw [hp, List.length_take, List.length_drop]; omega
        obtain ⟨P8, hP8⟩ : ∃ x, x = partA A c 8 := ⟨_, rfl⟩
        obtain ⟨c8, hc8⟩ : ∃ x, x = c - 8 := ⟨_, rfl⟩
        obtain ⟨P4, hP4⟩ : ∃ x, x = partA A c 4 := ⟨_, rfl⟩
        obtain ⟨c4, hc4⟩ : ∃ x, x = c - 4 := ⟨_, rfl⟩
        obtain ⟨q, hq⟩ : ∃ q, q = bs.drop 4 := ⟨_, rfl⟩
        have hql : q.length = bs.length - 4 := by rw [hq, List.length_drop]
        have k8 : ∀ W : World, (Instr.slice 25 (.slice A bs.length c) (some (.int .i64 8)) (some (.int .u32 (v : Int))) none).run Try.prog W = .ok (.slice P8 p.length c8) W := fun W => by
          have h := cut_lhk Try.underlying25 sizeU8 .i64 .u32 A bs.length c 8 v (by omega) (by omega) W
          rw [← hP8, ← hc8, show v - 8 = p.length by omega] at h; exact h
        have k4 : ∀ W : World, (Instr.slice 25 (.slice A bs.length c) (some (.int .i64 4)) none none).run Try.prog W = .ok (.slice P4 q.length c4) W := fun W => by
          have h := cutB A bs.length c 4 (by omega) W
          rw [← hP4, ← hc4, ← hql] at h; exact h
        have hsp : Sl fB w P8 p := by rw [hp, hP8]; exact H.out.part (by omega) hcl
        have hsq : Sl fB w P4 q := by
          have h := H.out.part (c := c) (k := 4) (m := bs.length - 4) (by omega) hcl
          rw [List.take_of_length_le (by rw [List.length_drop]; omega), ← hq] at h
          rw [hP4]; exact h
        have HSP := Lib.hid hsp
        have HSQ := Lib.hid hsq
        have HQL : Hid (4 ≤ q.length) := Lib.hid (by have := H8.out; omega)
        have HPL := Lib.hid hpl
        rw [← hp, ← hq]
        obtain ⟨s1, hs1⟩ : ∃ s, s = sumN p := ⟨_, rfl⟩
        obtain ⟨s2, hs2⟩ : ∃ s, s = unwordN q := ⟨_, rfl⟩
        rw [← hs1, ← hs2]
        obtain ⟨res, hres⟩ : ∃ r, r = (if s1 = s2 then (p, 8 + u, (0 : Int)) else ([], 0, 32)) := ⟨_, rfl⟩
        rw [← hres]
        have HRES := Lib.hid hres; clear hres
        have HQ1 : Hid (∀ (W : World) (B : Option Addr) (d n : Nat), Sl fB W B p → Calls Try.prog 38 #[.slice B p.length d] (W.drewN n) fun e w'' => e = .returned (.int .u32 (s1 : Int)) ∧ ∃ m, w'' = W.drewN m) := Lib.hid fun W B d n h => by rw [hs1]; exact Sum_q h
        have HQ2 : Hid (∀ (W : World) (n : Nat), Sl fB W P4 q → Calls Try.prog 42 #[.slice P4 q.length c4] (W.drewN n) fun e w'' => e = .returned (.int .u32 (s2 : Int)) ∧ ∃ m, w'' = W.drewN m) := Lib.hid fun W n h => by rw [hs2]; exact unword_q h HQL.out
        have HV := Lib.hid hv
        clear h2 h3 hv hcl hp hpl hP8 hc8 hP4 hc4 hq hql hsp hsq hs1 hs2
        go_enter Try.func19, Try.ntmps19
        go_wp2_with fail
        (with_reducible refine HUW.out.mono ?_); rintro e w2 ⟨rfl, m, rfl⟩
        have HCL := Lib.hid (CloneB_any P8 c8 p (by rw [HPL.out]; omega) (w.drewN m) (HSP.out.drewN m))
        go_wp2_with fail
        (with_reducible refine HCL.out.mono ?_); rintro e w3 ⟨A3, c3, rfl, ho3, hb3⟩
        have HB3 : Hid (Below w.heap.size w w3) := Lib.hid ((below_drewN (Below.refl _ _) m).trans hb3)
        have HO3 : Hid (Own fB w.heap.size 5 w3 (.slice A3 p.length c3) p) := Lib.hid ho3
        have hs3 := HO3.out.sl.2
        have hq3 := HSQ.out.below HB3.out
        clear ho3 hb3 HCL
        by_cases h5 : s1 = s2
        · have H5 := Lib.hid h5
          have t5 : ((s1 : Int) == (s2 : Int)) = true := by rw [beq_iff_eq]; omega
          clear h5
          go_wp2_with fail
          go_quiet (first | (go_at_call 38; exact HQ1.out _ _ _ _ hs3) | (go_at_call 42; exact HQ2.out _ _ hq3))
          go_wp2_with fail
          refine bodyPost_ret (v := .tuple #[.slice A3 p.length c3, .int .i64 (v : Int), .int .i64 0]) (by simp [results, Try.results19, go_sem]) rfl ?_
          rw [HRES.out, if_pos H5.out]
          exact ⟨A3, c3, by rw [HV.out], HO3.out, below_drewN HB3.out _⟩
        · have H5 := Lib.hid h5
          have t5 : ((s1 : Int) == (s2 : Int)) = false := by rw [beq_eq_false_iff_ne]; omega
          clear h5
          go_wp2_with fail
          go_quiet (first | (go_at_call 38; exact HQ1.out _ _ _ _ hs3) | (go_at_call 42; exact HQ2.out _ _ hq3))
          go_wp2_with fail
          refine bodyPost_ret (v := .tuple #[.slice none 0 0, .int .i64 0, .int .i64 32]) (by simp [results, Try.results19, go_sem]) rfl ?_
          rw [HRES.out, if_neg H5.out]
          exact UfPost.no (below_drewN HB3.out _)
end Go.Proofs.Ytfnmofoecehcfaa
