/- Layer 13's document: Put. -/
import Derived.Test.YtakebmbdcjbbgaaSsLk
import Derived.Test.YtakebmbdcjbbgaaSsP
import Derived.Test.YtakebmbdcjbbgaaReg
namespace Go.Proofs.Ytakebmbdcjbbgaa
open Go Go.RowKit Go.Maps Go.Lib Mem Ss

/-- the document's Put, on lists -/
def rPut (its : List RI) (t : Tb) (x : RI) : List RI := if lookC t x.id x.seq = 0 ∧ vdOk x.code x.num = true then rPutL its x else its
theorem Ss.R.putR {its : List RI} {t : Tb} (h : R its t) (x : RI) : R (rPut its t x) (putT t x.id x.seq x.code x.num).1 := by
  unfold rPut
  by_cases h0 : lookC t x.id x.seq = 0
  · by_cases hv : vdOk x.code x.num = true
    · rw [if_pos ⟨h0, hv⟩]; exact h.put x h0 hv
    · rw [if_neg (fun e => hv e.2)]
      unfold putT; rw [if_neg (by omega), if_neg hv]; exact h
  · rw [if_neg (fun e => h0 e.1)]
    unfold putT; rw [if_pos h0]; exact h
/-- the list that is left lies where the elder one lay, or in a new block -/
def RPutP (A0 : Option Addr) (its0 its' : List RI) (k : Int) (w : World) (e : Ending) (w' : World) : Prop :=
  ∃ A c, e = .returned (.tuple #[.agg #[.slice A its'.length c], .int .i64 k]) ∧ SlC 4 riN w' A its' ∧ ((A = A0 ∧ its' = its0) ∨ ∀ b o q, A = some ⟨b, o, q⟩ → w.heap.size ≤ b) ∧ Below w.heap.size w w'
theorem OwnK.blk_ge {α : Type} {k : Nat} {f : α → List Value} {base : Nat} {e : TypeId} {w : World} {A : Option Addr} {n c : Nat} {xs : List α} (h : OwnK k f base e w (.slice A n c) xs) : ∀ b o q, A = some ⟨b, o, q⟩ → base ≤ b := fun b o q hA => by
  rcases h.2 with ⟨h1, -⟩ | ⟨g, cap, cur, hv, hb, -⟩
  · rw [hA] at h1; cases h1
  · rw [hA] at hv; injection hv with a; injection a with a; injection a with a; omega
theorem SlC.of_ownK {k : Nat} {f : RI → List Value} {base : Nat} {e : TypeId} {w : World} {A : Option Addr} {n c : Nat} {xs : List RI} (hf : ∀ x, (f x).length = k) (h : OwnK k f base e w (.slice A n c) xs) : SlC k f w A xs := by
  have hs := (h.slK hf).2
  refine ⟨hs.1, fun h0 => ?_⟩
  obtain ⟨b, o, hA, hF, hb, hc⟩ := hs.at h0
  refine ⟨b, o, hA, hb, fun j hj i hi => ?_⟩
  obtain ⟨b', o', hA', -, -, hc'⟩ := hs.at hj
  rw [hA] at hA'
  injection hA' with hA'; injection hA' with h1 h2
  subst h1; subst h2
  exact hc' i hi
theorem blkK {α : Type} {k : Nat} {f : α → List Value} {base : Nat} {e t : TypeId} {w w' : World} {v : Value} {xs : List α} {g : Nat} {cs : Array Value} (h : Blk w g t cs) (ho : OwnK k f base e w v xs) (hne : t ≠ e) (hg : w.grownBy w' v.ownBlock) : Blk w' g t cs :=
  h.frm ((Frm.refl (fun g => v.ownBlock = some g) w).grown hg (fun _ hk _ => hk)) (fun hk => by obtain ⟨cur, hc⟩ := OwnK.blkOf ho hk; exact h.ne_ (g' := g) (cs' := cur) hc hne rfl)
/-- the copy, the list that stays -/
def CpRel (its : List RI) (w1 : World) (ov iv : Value) (wr : World) : Prop := ∃ i : Nat, i ≤ its.length ∧ iv = .int .i64 i ∧ OwnK 4 riN w1.heap.size 46 wr ov (its.take i) ∧ Below w1.heap.size w1 wr
def FlRel (all : List RI) (P : RI → Bool) (w1 : World) (ov iv : Value) (wr : World) : Prop := ∃ i : Nat, i ≤ all.length ∧ iv = .int .i64 i ∧ OwnK 4 riN w1.heap.size 46 wr ov ((all.take i).filter P) ∧ Below w1.heap.size w1 wr
theorem filter_take {P : RI → Bool} {all : List RI} {i : Nat} (h : i < all.length) : (all.take (i + 1)).filter P = (all.take i).filter P ++ (if P all[i] = true then [all[i]] else []) := by
  rw [List.take_succ_eq_append_getElem h, List.filter_append, List.filter_cons, List.filter_nil]
set_option maxRecDepth 100000 in
set_option maxHeartbeats 8000000 in
theorem RPut_any {w : World} {A : Option Addr} {c : Nat} {its : List RI} {t : Tb} (hs : SlC 4 riN w A its) (hr : R its t) (x : RI) :
    Calls Try.prog 17 #[.agg #[.slice A its.length c], .agg #[.int .i64 x.id, .int .i64 x.seq, .int .i64 x.code, .int .i64 x.num]] w (RPutP A its (rPut its t x) (putT t x.id x.seq x.code x.num).2 w) := by
  have hl : its.length ≤ 128 := hr.few
  obtain ⟨w1, hw1⟩ : ∃ z, z = ((w.alloc (.cells #[.slice A its.length c] 44)).alloc (.cells #[.int .i64 x.id, .int .i64 x.seq, .int .i64 x.code, .int .i64 x.num] 46)).alloc (.cells #[.slice none 0 0] 44) := ⟨_, rfl⟩
  have HB1 : Hid (Below w.heap.size w w1) := Lib.hid (by rw [hw1]; exact (((Below.refl _ _).alloc (Nat.le_refl _) _).alloc (by rw [World.size_alloc]; omega) _).alloc (by rw [World.size_alloc, World.size_alloc]; omega) _)
  have HX1 : Hid (Blk w1 w.heap.size 44 #[.slice A its.length c]) := Lib.hid (by rw [hw1]; exact ((Blk.new_ w _ _).alloc _).alloc _)
  have HY1 : Hid (Blk w1 (w.heap.size + 1) 46 #[.int .i64 x.id, .int .i64 x.seq, .int .i64 x.code, .int .i64 x.num]) := Lib.hid (by
    have := (Blk.new_ (w.alloc (.cells #[.slice A its.length c] 44)) 46 #[.int .i64 x.id, .int .i64 x.seq, .int .i64 x.code, .int .i64 x.num]).alloc (.cells #[.slice none 0 0] 44)
    rw [World.size_alloc] at this; rw [hw1]; exact this)
  have HQ1 : Hid (Blk w1 (w.heap.size + 2) 44 #[.slice none 0 0]) := Lib.hid (by
    have := Blk.new_ ((w.alloc (.cells #[.slice A its.length c] 44)).alloc (.cells #[.int .i64 x.id, .int .i64 x.seq, .int .i64 x.code, .int .i64 x.num] 46)) 44 #[.slice none 0 0]
    rw [World.size_alloc, World.size_alloc] at this; rw [hw1]; exact this)
  have HZ1 : Hid (w1.heap.size = w.heap.size + 3) := Lib.hid (by rw [hw1, World.size_alloc, World.size_alloc, World.size_alloc])
  have HS1 := Lib.hid (hs.below HB1.out)
  have HS := Lib.hid hs
  have HW1 := Lib.hid hw1; clear hw1
  have HR := Lib.hid hr
  have t0 : w1.cell? ⟨w.heap.size, 0, none⟩ = some (.slice A its.length c) := HX1.out.cell 0
  have y0 : w1.cell? ⟨w.heap.size + 1, 0, none⟩ = some (.int .i64 x.id) := HY1.out.cell 0
  have y1 : w1.cell? ⟨w.heap.size + 1, 1, none⟩ = some (.int .i64 x.seq) := HY1.out.cell 1
  have hlk := RLook_any (c := c) HS1.out HR.out x.id x.seq
  unfold RLkP at hlk
  obtain ⟨la, hla⟩ : ∃ z, z = (lookI t x.id x.seq).1 := ⟨_, rfl⟩
  obtain ⟨lb, hlb⟩ : ∃ z, z = (lookI t x.id x.seq).2 := ⟨_, rfl⟩
  obtain ⟨k0, hk0⟩ : ∃ z, z = lookC t x.id x.seq := ⟨_, rfl⟩
  rw [← hla, ← hlb, ← hk0] at hlk
  have HLK := Lib.hid hlk
  clear hs hr hlk hla hlb
  by_cases h0 : k0 = 0
  · subst h0
    have h0' : lookC t x.id x.seq = 0 := hk0.symm
    cases hv : vdOk x.code x.num with
    | false =>
      have HPT : Hid ((putT t x.id x.seq x.code x.num).2 = 1) := Lib.hid (by unfold putT; rw [if_neg (by omega), if_neg (by rw [hv]; decide)])
      have HPL : Hid (rPut its t x = its) := Lib.hid (by unfold rPut; rw [if_neg (fun e => by rw [hv] at e; exact absurd e.2 (by decide))])
      obtain ⟨a1, ha1⟩ : ∃ z, z = decide (x.code < 0) := ⟨_, rfl⟩
      obtain ⟨a2, ha2⟩ : ∃ z, z = decide (999 < x.code) := ⟨_, rfl⟩
      obtain ⟨a3, ha3⟩ : ∃ z, z = decide (x.num < 0) := ⟨_, rfl⟩
      obtain ⟨a4, ha4⟩ : ∃ z, z = decide (1099511627776 < x.num) := ⟨_, rfl⟩
      have hor : (a1 || (a2 || (a3 || a4))) = true := by
        rw [ha1, ha2, ha3, ha4]
        have hv' : ¬ ((0 ≤ x.code ∧ x.code ≤ 999) ∧ 0 ≤ x.num ∧ x.num ≤ 1099511627776) := fun h => by rw [vdOk_iff.2 h] at hv; cases hv
        simp only [Bool.or_eq_true, decide_eq_true_eq]; omega
      have t1 := ha1.symm
      have t2 := ha2.symm
      have t3 := ha3.symm
      have t4 := ha4.symm
      clear ha1 ha2 ha3 ha4 hv h0' hk0
      cases a1 <;> cases a2 <;> cases a3 <;> cases a4 <;> simp only [Bool.or_true, Bool.true_or, Bool.or_false, Bool.false_or, Bool.false_eq_true] at hor <;> clear hor <;>
      · go_enter Try.func17, Try.ntmps17
        go_upto_region 1 with fail
        rw [← HW1.out]
        clear HW1
        go_wp2_with fail
        (with_reducible refine HLK.out.mono ?_); rintro e w2 ⟨ia, ib, rfl, hb2⟩
        have HB2 : Hid (Below w.heap.size w (w2.alloc (.cells #[.int .i64 ia, .int .i64 ib, .int .i64 la, .int .i64 lb] 46))) := Lib.hid ((HB1.out.trans (hb2.mono HB1.out.size)).alloc (by have := HB1.out.size; have := hb2.size; omega) _)
        have HX2 := Lib.hid ((HX1.out.below hb2 HX1.out.lt).alloc (.cells #[.int .i64 ia, .int .i64 ib, .int .i64 la, .int .i64 lb] 46))
        have HY2 := Lib.hid ((HY1.out.below hb2 HY1.out.lt).alloc (.cells #[.int .i64 ia, .int .i64 ib, .int .i64 la, .int .i64 lb] 46))
        have HQ2 := Lib.hid ((HQ1.out.below hb2 HQ1.out.lt).alloc (.cells #[.int .i64 ia, .int .i64 ib, .int .i64 la, .int .i64 lb] 46))
        have HZ2 : Hid (w1.heap.size ≤ w2.heap.size + 1) := Lib.hid (by have := hb2.size; omega)
        clear hb2 t0 y0 y1 HLK
        go_upto_region 2 with fail
        obtain ⟨w3, hw3⟩ : ∃ z, z = w2.alloc (.cells #[.int .i64 ia, .int .i64 ib, .int .i64 la, .int .i64 lb] 46) := ⟨_, rfl⟩
        have HZ3 : Hid (w1.heap.size ≤ w3.heap.size) := Lib.hid (by rw [hw3, World.size_alloc]; exact HZ2.out)
        rw [← hw3] at HB2 HX2 HY2 HQ2 ⊢
        clear hw3 HZ2
        have t0 : w3.cell? ⟨w.heap.size, 0, none⟩ = some (.slice A its.length c) := HX2.out.cell 0
        have y0 : w3.cell? ⟨w.heap.size + 1, 0, none⟩ = some (.int .i64 x.id) := HY2.out.cell 0
        have y1 : w3.cell? ⟨w.heap.size + 1, 1, none⟩ = some (.int .i64 x.seq) := HY2.out.cell 1
        have y2 : w3.cell? ⟨w.heap.size + 1, 2, none⟩ = some (.int .i64 x.code) := HY2.out.cell 2
        have y3 : w3.cell? ⟨w.heap.size + 1, 3, none⟩ = some (.int .i64 x.num) := HY2.out.cell 3
        have r0 : w3.cell? ⟨w.heap.size + 2, 0, none⟩ = some (.slice none 0 0) := HQ2.out.cell 0
        have rf := HQ2.out.free 0
        go_wp2_with fail
        have r9 : (w3.setCell ⟨w.heap.size + 2, 0, none⟩ (.slice A its.length c)).cell? ⟨w.heap.size + 2, 0, none⟩ = some (.slice A its.length c) := (HQ2.out.set_ 0 _).cell 0
        refine bodyPost_ret (v := .tuple #[.agg #[.slice A its.length c], .int .i64 1]) (by simp [results, Try.results17, go_sem, r9]) rfl ?_
        rw [HPT.out, HPL.out]
        exact ⟨A, c, rfl, HS.out.below (HB2.out.setCell (p := ⟨w.heap.size + 2, 0, none⟩) (by show w.heap.size ≤ w.heap.size + 2; omega) _), .inl ⟨rfl, rfl⟩, HB2.out.setCell (p := ⟨w.heap.size + 2, 0, none⟩) (by show w.heap.size ≤ w.heap.size + 2; omega) _⟩
    | true =>
      have HPT : Hid ((putT t x.id x.seq x.code x.num).2 = 0) := Lib.hid (by
        unfold putT; rw [if_neg (by omega), if_pos hv]
        cases findS x.id t <;> rfl)
      have HPL : Hid (rPut its t x = rPutL its x) := Lib.hid (by unfold rPut; rw [if_pos ⟨h0', hv⟩])
      obtain ⟨v1, v2, v3, v4⟩ : 0 ≤ x.code ∧ x.code ≤ 999 ∧ 0 ≤ x.num ∧ x.num ≤ 1099511627776 := by have := vdOk_iff.1 hv; omega
      have t1 : decide (x.code < 0) = false := decide_eq_false (by omega)
      have t2 : decide (999 < x.code) = false := decide_eq_false (by omega)
      have t3 : decide (x.num < 0) = false := decide_eq_false (by omega)
      have t4 : decide (1099511627776 < x.num) = false := decide_eq_false (by omega)
      obtain ⟨-, l2, -, -⟩ := lookC_zero h0'
      have hsq := numOk_iff.1 l2
      have HHB : Hid (1 ≤ rHigh (its ++ [x]) x.id ∧ rHigh (its ++ [x]) x.id ≤ 1099511627776) := Lib.hid (by
        rw [rHigh_snoc, HR.out.high]
        have hh : highT t x.id ≤ 1099511627776 := by
          unfold highT
          cases hf : findS x.id t with
          | none => simp
          | some s => exact (HR.out.ok.each s (findS_some hf).1).top
        omega)
      clear v1 v2 v3 v4 l2 hsq hv h0' hk0
      go_enter Try.func17, Try.ntmps17
      go_upto_region 1 with fail
      rw [← HW1.out]
      clear HW1
      go_wp2_with fail
      (with_reducible refine HLK.out.mono ?_); rintro e w2 ⟨ia, ib, rfl, hb2⟩
      have HB2 : Hid (Below w.heap.size w (w2.alloc (.cells #[.int .i64 ia, .int .i64 ib, .int .i64 la, .int .i64 lb] 46))) := Lib.hid ((HB1.out.trans (hb2.mono HB1.out.size)).alloc (by have := HB1.out.size; have := hb2.size; omega) _)
      have HX2 := Lib.hid ((HX1.out.below hb2 HX1.out.lt).alloc (.cells #[.int .i64 ia, .int .i64 ib, .int .i64 la, .int .i64 lb] 46))
      have HY2 := Lib.hid ((HY1.out.below hb2 HY1.out.lt).alloc (.cells #[.int .i64 ia, .int .i64 ib, .int .i64 la, .int .i64 lb] 46))
      have HQ2 := Lib.hid ((HQ1.out.below hb2 HQ1.out.lt).alloc (.cells #[.int .i64 ia, .int .i64 ib, .int .i64 la, .int .i64 lb] 46))
      have HZ2 : Hid (w1.heap.size ≤ w2.heap.size + 1) := Lib.hid (by have := hb2.size; omega)
      clear hb2 t0 y0 y1 HLK
      go_upto_region 2 with fail
      obtain ⟨w3, hw3⟩ : ∃ z, z = w2.alloc (.cells #[.int .i64 ia, .int .i64 ib, .int .i64 la, .int .i64 lb] 46) := ⟨_, rfl⟩
      have HZ3 : Hid (w1.heap.size ≤ w3.heap.size) := Lib.hid (by rw [hw3, World.size_alloc]; exact HZ2.out)
      rw [← hw3] at HB2 HX2 HY2 HQ2 ⊢
      clear hw3 HZ2
      have t0 : w3.cell? ⟨w.heap.size, 0, none⟩ = some (.slice A its.length c) := HX2.out.cell 0
      have y0 : w3.cell? ⟨w.heap.size + 1, 0, none⟩ = some (.int .i64 x.id) := HY2.out.cell 0
      have y1 : w3.cell? ⟨w.heap.size + 1, 1, none⟩ = some (.int .i64 x.seq) := HY2.out.cell 1
      have y2 : w3.cell? ⟨w.heap.size + 1, 2, none⟩ = some (.int .i64 x.code) := HY2.out.cell 2
      have y3 : w3.cell? ⟨w.heap.size + 1, 3, none⟩ = some (.int .i64 x.num) := HY2.out.cell 3
      have r0 : w3.cell? ⟨w.heap.size + 2, 0, none⟩ = some (.slice none 0 0) := HQ2.out.cell 0
      have rf := HQ2.out.free 0
      go_upto_region 6 with fail
      clear t1 t2 t3 t4
      go_wp2_with fail
      go_loopw [8, 9] (fun ov iv wr => CpRel its w3 ov iv wr) (fun _ iv _ => its.length - (RowKit.intOf iv).toNat)
      case atStart => exact ⟨0, Nat.zero_le _, rfl, OwnK.mk_ (Nat.le_refl _), (Below.refl _ _).alloc (Nat.le_refl _) _⟩
      case round =>
        obtain ⟨i, hi, rfl, hown, hbw⟩ := hrel
        obtain ⟨wo, rfl⟩ : ∃ wo, wo = wr := ⟨_, rfl⟩
        have HB := Lib.hid hbw; clear hbw
        have HO := Lib.hid hown; clear hown
        clear t0 y0 y1 y2 y3 r0 rf
        have t0 : wo.cell? ⟨w.heap.size, 0, none⟩ = some (.slice A its.length c) := (HX2.out.below HB.out HX2.out.lt).cell 0
        have htl : (its.take i).length = i := by rw [List.length_take]; omega
        by_cases hlt : i < its.length
        · obtain ⟨z, hz⟩ : ∃ z, z = its[i] := ⟨_, rfl⟩
          obtain ⟨b, o, hAA, -, hc⟩ := ((HS.out.below HB2.out).below HB.out).at hlt
          rw [← hz] at hc
          have c0 : wo.cell? ⟨b, o + i * 4, none⟩ = some (.int .i64 z.id) := hc 0 (by decide)
          have c1 : wo.cell? ⟨b, o + i * 4 + 1, none⟩ = some (.int .i64 z.seq) := hc 1 (by decide)
          have c2 : wo.cell? ⟨b, o + i * 4 + 2, none⟩ = some (.int .i64 z.code) := hc 2 (by decide)
          have c3 : wo.cell? ⟨b, o + i * 4 + 3, none⟩ = some (.int .i64 z.num) := hc 3 (by decide)
          rw [hAA] at t0
          have hk0 : (0 : Int) ≤ (i : Int) := by omega
          have hk1 : (i : Int) < (its.length : Int) := by omega
          have htk : its.take (i + 1) = its.take i ++ [z] := by rw [List.take_succ_eq_append_getElem hlt, hz]
          have HTK := Lib.hid htk
          have HTL := Lib.hid htl
          have HAA := Lib.hid hAA
          clear hc hz htk htl hAA
          go_wp2_with (at_builtin; refine wpList_appendK1 (f := riN) rfl _ _ _ rfl riT z rfl (riN_one z) rfl HO.out rfl rfl rfl (by rw [HTL.out]; unfold maxLen; omega) (by rw [HTL.out]; omega) HB.out.size ?_; intro v2 wn hown2 hg2)
          have HBN : Hid (Below w3.heap.size w3 wn) := Lib.hid ((HB.out.alloc HB.out.size _).trans (OwnK.below_ (HO.out.alloc _) (Nat.le_trans HB.out.size (by rw [World.size_alloc]; omega)) hg2))
          rw [← HTK.out] at hown2
          have HON := Lib.hid hown2
          clear hown2 hg2
          go_wp2_with fail
          go_roundw
          case rel => exact ⟨i + 1, by omega, by go_num, HON.out, HBN.out⟩
          case measure => simp [RowKit.intOf]; omega
        · have hie : i = its.length := by omega
          subst hie
          have ho := HO.out
          rw [List.take_length] at ho
          obtain ⟨Ao, co, rfl⟩ := ho.form
          have HO' := Lib.hid ho
          clear ho htl
          have HX4 := Lib.hid (HX2.out.below HB.out HX2.out.lt)
          have HY4 := Lib.hid (HY2.out.below HB.out HY2.out.lt)
          have HQ4 := Lib.hid (HQ2.out.below HB.out HQ2.out.lt)
          have tf := HX4.out.free 0
          have y0 : wo.cell? ⟨w.heap.size + 1, 0, none⟩ = some (.int .i64 x.id) := HY4.out.cell 0
          have y1 : wo.cell? ⟨w.heap.size + 1, 1, none⟩ = some (.int .i64 x.seq) := HY4.out.cell 1
          have y2 : wo.cell? ⟨w.heap.size + 1, 2, none⟩ = some (.int .i64 x.code) := HY4.out.cell 2
          have y3 : wo.cell? ⟨w.heap.size + 1, 3, none⟩ = some (.int .i64 x.num) := HY4.out.cell 3
          obtain ⟨all, hall⟩ : ∃ z, z = its ++ [x] := ⟨_, rfl⟩
          have HALL := Lib.hid hall
          have hal : all.length ≤ 129 := by rw [hall, List.length_append, List.length_singleton]; omega
          clear hall
          go_upto_region 12 with (at_builtin; refine wpList_appendK1 (f := riN) rfl _ _ _ rfl riT x rfl (riN_one x) rfl HO'.out rfl rfl rfl (by unfold maxLen; omega) (by omega) HB.out.size ?_; intro v5 w5 hown5 hg5; rw [← HALL.out] at hown5; obtain ⟨A5, c5, rfl⟩ := hown5.form; have tb5 : w5.cell? ⟨w.heap.size, 0, none⟩ = some (.slice A its.length c) := (blkK (HX4.out.alloc _) (HO'.out.alloc _) (by decide) hg5).cell 0; have tf5 := (blkK (HX4.out.alloc _) (HO'.out.alloc _) (by decide) hg5).free 0)
          have HX5 := Lib.hid ((blkK (HX4.out.alloc _) (HO'.out.alloc _) (by decide) hg5).set_ 0 (.slice A5 all.length c5))
          have HY5 : Hid (Blk w5 (w.heap.size + 1) 46 #[.int .i64 x.id, .int .i64 x.seq, .int .i64 x.code, .int .i64 x.num]) := Lib.hid ((HY4.out.alloc _).frm ((Frm.refl (fun g => (Value.slice Ao its.length co).ownBlock = some g) _).grown hg5 (fun k hk _ => hk)) (fun e => by have := (OwnK.lt HO'.out _ e).1; have := HZ3.out; have := HZ1.out; omega))
          have HQ5 := Lib.hid (blkK (HQ4.out.alloc _) (HO'.out.alloc _) (by decide) hg5)
          have HB5 : Hid (Below w.heap.size w w5) := Lib.hid (HB2.out.trans ((HB.out.alloc HB.out.size _).trans (OwnK.below_ (HO'.out.alloc _) (Nat.le_trans HB.out.size (by rw [World.size_alloc]; omega)) hg5) |>.mono HB2.out.size))
          have HO5 := Lib.hid hown5
          have HZ5 : Hid (w3.heap.size ≤ w5.heap.size) := Lib.hid (Nat.le_trans HB.out.size (Nat.le_trans (by rw [World.size_alloc]; omega) hg5.size))
          clear hown5 hg5 tb5 tf5 tf y0 y1 y2 y3 t0
          obtain ⟨w6, hw6⟩ : ∃ z, z = w5.setCell ⟨w.heap.size, 0, none⟩ (.slice A5 all.length c5) := ⟨_, rfl⟩
          rw [← hw6] at HX5 ⊢
          have hf6 : Frm (fun k => k = w.heap.size) w5 w6 := by rw [hw6]; exact (Frm.refl (fun k => k = w.heap.size) _).setCell (p := ⟨w.heap.size, 0, none⟩) (fun _ => rfl) _
          have HY6 := Lib.hid (HY5.out.frm hf6 (by omega))
          have HQ6 := Lib.hid (HQ5.out.frm hf6 (by omega))
          have HZ6 : Hid (w5.heap.size ≤ w6.heap.size) := Lib.hid hf6.size
          have HO6 := Lib.hid (OwnK.frmA HO5.out hf6 (fun g hg e => by have := (OwnK.lt HO5.out _ hg).1; have := HZ3.out; have := HZ1.out; omega))
          have HB6 : Hid (Below w.heap.size w w6) := Lib.hid (HB5.out.trans (hf6.to_below (fun k _ h1 h2 => by omega) HB5.out.size))
          clear hw6 hf6 HB5 HY5 HQ5 HO5
          have t0 : w6.cell? ⟨w.heap.size, 0, none⟩ = some (.slice A5 all.length c5) := HX5.out.cell 0
          have y0 : w6.cell? ⟨w.heap.size + 1, 0, none⟩ = some (.int .i64 x.id) := HY6.out.cell 0
          have HHI := Lib.hid (RHighest_any (c := c5) (SlC.of_ownK riN_len HO6.out) x.id)
          unfold IntB at HHI
          obtain ⟨hh, hhh⟩ : ∃ z, z = rHigh all x.id := ⟨_, rfl⟩
          rw [← hhh] at HHI
          have HHH := Lib.hid hhh
          have hb9 : 1 ≤ hh ∧ hh ≤ 1099511627776 := by rw [hhh, HALL.out]; exact HHB.out
          obtain ⟨h8, hh8⟩ : ∃ z, z = hh - 8 := ⟨_, rfl⟩
          have e8 : IntKind.i64.wrap (hh - 8) = h8 := by rw [IntKind.wrap_i64]; omega
          have HH8 := Lib.hid hh8
          clear hhh hh8 hb9
          go_wp2_with fail
          (with_reducible refine HHI.out.mono ?_); rintro e w7 ⟨rfl, hb7⟩
          have HX7 := Lib.hid (HX5.out.below hb7 HX5.out.lt)
          have HY7 := Lib.hid (HY6.out.below hb7 HY6.out.lt)
          have HQ7 := Lib.hid (HQ6.out.below hb7 HQ6.out.lt)
          have HO7 := Lib.hid (HO6.out.below hb7)
          have HB7 : Hid (Below w.heap.size w w7) := Lib.hid (HB6.out.trans (hb7.mono HB6.out.size))
          have HZ7 : Hid (w3.heap.size ≤ w7.heap.size) := Lib.hid (by
            have h1 := HX7.out.lt
            have h2 := HZ5.out
            have h3 := hb7.size
            have h4 := HB6.out.size
            have h5 : w5.heap.size ≤ w6.heap.size := HZ6.out
            omega)
          clear hb7 t0 y0 HX5 HY6 HQ6 HO6 HB6 HHI
          obtain ⟨P, hP⟩ : ∃ z : RI → Bool, z = fun y => !(y.id == x.id) || decide (rHigh (its ++ [x]) x.id - 8 < y.seq) := ⟨_, rfl⟩
          have HPP : Hid (∀ y, P y = (!(y.id == x.id) || decide (h8 < y.seq))) := Lib.hid fun y => by
            rw [hP, HH8.out, HHH.out, HALL.out]
          have HRL : Hid (rPutL its x = all.filter P) := Lib.hid (by unfold rPutL; rw [hP, HALL.out])
          clear hP
          go_wp2_with fail
          go_loopw [11, 12] (fun ov iv wr => FlRel all P w7 ov iv wr) (fun _ iv _ => all.length - (RowKit.intOf iv).toNat)
          case atStart => exact ⟨0, Nat.zero_le _, rfl, OwnK.mk_ (Nat.le_refl _), (Below.refl _ _).alloc (Nat.le_refl _) _⟩
          case round =>
            obtain ⟨m, hm, rfl, hown, hbw⟩ := hrel
            obtain ⟨wf, rfl⟩ : ∃ wo, wo = wr := ⟨_, rfl⟩
            have HBF := Lib.hid hbw; clear hbw
            obtain ⟨Af, cf, rfl⟩ := hown.form
            have HOF := Lib.hid hown; clear hown
            have HXF := Lib.hid (HX7.out.below HBF.out HX7.out.lt)
            have HYF := Lib.hid (HY7.out.below HBF.out HY7.out.lt)
            have HQF := Lib.hid (HQ7.out.below HBF.out HQ7.out.lt)
            have hfl : ((all.take m).filter P).length ≤ m := Nat.le_trans (List.length_filter_le _ _) (by rw [List.length_take]; omega)
            have t0 : wf.cell? ⟨w.heap.size, 0, none⟩ = some (.slice A5 all.length c5) := HXF.out.cell 0
            by_cases hlt : m < all.length
            · have hst := filter_take (P := P) hlt
              obtain ⟨y, hy⟩ : ∃ z, z = all[m] := ⟨_, rfl⟩
              obtain ⟨b, o, hAA, -, hc⟩ := ((SlC.of_ownK riN_len HO7.out).below HBF.out).at hlt
              rw [← hy] at hc hst
              have c0 : wf.cell? ⟨b, o + m * 4, none⟩ = some (.int .i64 y.id) := hc 0 (by decide)
              have c1 : wf.cell? ⟨b, o + m * 4 + 1, none⟩ = some (.int .i64 y.seq) := hc 1 (by decide)
              have c2 : wf.cell? ⟨b, o + m * 4 + 2, none⟩ = some (.int .i64 y.code) := hc 2 (by decide)
              have c3 : wf.cell? ⟨b, o + m * 4 + 3, none⟩ = some (.int .i64 y.num) := hc 3 (by decide)
              rw [hAA] at t0
              have hk0 : (0 : Int) ≤ (m : Int) := by omega
              have hk1 : (m : Int) < (all.length : Int) := by omega
              have hPy := HPP.out y
              have HLT := Lib.hid hlt
              have HT0 := Lib.hid t0
              have HC0 := Lib.hid c0
              have HC1 := Lib.hid c1
              have HAA := Lib.hid hAA
              clear hc hy hAA
              by_cases e1 : y.id = x.id
              · have u1 : (y.id != x.id) = false := by rw [bne_eq_false_iff_eq]; exact e1
                have u2 : (y.id == x.id) = true := by rw [beq_iff_eq]; exact e1
                obtain ⟨q, hq⟩ : ∃ z, z = decide (h8 < y.seq) := ⟨_, rfl⟩
                have u3 : decide (h8 < y.seq) = q := hq.symm
                have hPq : P y = q := by rw [hPy, u2, u3]; rfl
                rw [hPq] at hst
                have HST := Lib.hid hst
                clear hst hPq hPy hq u2 e1
                cases q with
                | true =>
                  go_upto_region 17 with fail
                  refine AnyZ.start (S := (fun W => W.cell? ⟨w.heap.size, 0, none⟩ = some (.slice (some ⟨b, o, none⟩) all.length c5) ∧ W.cell? ⟨b, o + m * 4, none⟩ = some (.int .i64 y.id) ∧ W.cell? ⟨b, o + m * 4 + 1, none⟩ = some (.int .i64 y.seq) ∧ W.cell? ⟨w.heap.size + 1, 0, none⟩ = some (.int .i64 x.id))) (z := 1020) (by kernel_rfl) ?_ (fun hHeld => ?_)
                  · exact ⟨HT0.out, HC0.out, HC1.out, HYF.out.cell 0⟩
                  refine AnyZ.take (i := 0) (v := ?_) rfl (by kernel_rfl) (by kernel_rfl) (by kernel_rfl) (by kernel_rfl) (fun _ _ _ h => h) (Or.inl ⟨by kernel_rfl, ?_⟩) (by assumption) ?_
                  rotate_left
                  · intro w hSw; (try dsimp only at hSw); go_simp; try with_reducible rfl
                  try simp only [Act.put, List.getElem_toArray, List.getElem_cons_succ, List.getElem_cons_zero, List.setIfInBounds_toArray, List.set_cons_zero, List.set_cons_succ]
                  refine AnyZ.take (i := 1) (v := ?_) rfl (by kernel_rfl) (by kernel_rfl) (by kernel_rfl) (by kernel_rfl) (fun _ _ _ h => h) (Or.inl ⟨by kernel_rfl, ?_⟩) (by assumption) ?_
                  rotate_left
                  · intro w hSw; (try dsimp only at hSw); go_simp; try with_reducible rfl
                  try simp only [Act.put, List.getElem_toArray, List.getElem_cons_succ, List.getElem_cons_zero, List.setIfInBounds_toArray, List.set_cons_zero, List.set_cons_succ]
                  refine AnyZ.take (i := 2) (v := ?_) rfl (by kernel_rfl) (by kernel_rfl) (by kernel_rfl) (by kernel_rfl) (fun _ _ _ h => h) (Or.inl ⟨by kernel_rfl, ?_⟩) (by assumption) ?_
                  rotate_left
                  · intro w hSw; (try dsimp only at hSw); go_simp; try with_reducible rfl
                  try simp only [Act.put, List.getElem_toArray, List.getElem_cons_succ, List.getElem_cons_zero, List.setIfInBounds_toArray, List.set_cons_zero, List.set_cons_succ]
                  refine AnyZ.take (i := 3) (v := ?_) rfl (by kernel_rfl) (by kernel_rfl) (by kernel_rfl) (by kernel_rfl) (fun _ _ _ h => h) (Or.inl ⟨by kernel_rfl, ?_⟩) (by assumption) ?_
                  rotate_left
                  · intro w hSw; (try dsimp only at hSw); go_simp; try with_reducible rfl
                  try simp only [Act.put, List.getElem_toArray, List.getElem_cons_succ, List.getElem_cons_zero, List.setIfInBounds_toArray, List.set_cons_zero, List.set_cons_succ]
                  refine AnyZ.take (i := 4) (v := ?_) rfl (by kernel_rfl) (by kernel_rfl) (by kernel_rfl) (by kernel_rfl) (fun _ _ _ h => h) (Or.inl ⟨by kernel_rfl, ?_⟩) (by assumption) ?_
                  rotate_left
                  · intro w hSw; (try dsimp only at hSw); go_simp; try with_reducible rfl
                  try simp only [Act.put, List.getElem_toArray, List.getElem_cons_succ, List.getElem_cons_zero, List.setIfInBounds_toArray, List.set_cons_zero, List.set_cons_succ]
                  refine AnyZ.take (i := 5) (v := ?_) rfl (by kernel_rfl) (by kernel_rfl) (by kernel_rfl) (by kernel_rfl) (fun _ _ _ h => h) (Or.inl ⟨by kernel_rfl, ?_⟩) (by assumption) ?_
                  rotate_left
                  · intro w hSw; (try dsimp only at hSw); go_simp; try with_reducible rfl
                  try simp only [Act.put, List.getElem_toArray, List.getElem_cons_succ, List.getElem_cons_zero, List.setIfInBounds_toArray, List.set_cons_zero, List.set_cons_succ]
                  refine AnyZ.take (i := 6) (v := ?_) rfl (by kernel_rfl) (by kernel_rfl) (by kernel_rfl) (by kernel_rfl) (fun _ _ _ h => h) (Or.inl ⟨by kernel_rfl, ?_⟩) (by assumption) ?_
                  rotate_left
                  · intro w hSw; (try dsimp only at hSw); go_simp; try with_reducible rfl
                  try simp only [Act.put, List.getElem_toArray, List.getElem_cons_succ, List.getElem_cons_zero, List.setIfInBounds_toArray, List.set_cons_zero, List.set_cons_succ]
                  refine AnyZ.take (i := 7) (v := ?_) rfl (by kernel_rfl) (by kernel_rfl) (by kernel_rfl) (by kernel_rfl) (fun _ _ _ h => h) (Or.inl ⟨by kernel_rfl, ?_⟩) (by assumption) ?_
                  rotate_left
                  · intro w hSw; (try dsimp only at hSw); go_simp; try with_reducible rfl
                  try simp only [Act.put, List.getElem_toArray, List.getElem_cons_succ, List.getElem_cons_zero, List.setIfInBounds_toArray, List.set_cons_zero, List.set_cons_succ]
                  refine AnyZ.take (i := 8) (v := ?_) rfl (by kernel_rfl) (by kernel_rfl) (by kernel_rfl) (by kernel_rfl) (fun _ _ _ h => h) (Or.inl ⟨by kernel_rfl, ?_⟩) (by assumption) ?_
                  rotate_left
                  · intro w hSw; (try dsimp only at hSw); go_simp; try with_reducible rfl
                  try simp only [Act.put, List.getElem_toArray, List.getElem_cons_succ, List.getElem_cons_zero, List.setIfInBounds_toArray, List.set_cons_zero, List.set_cons_succ]
                  refine AnyZ.take (i := 9) (v := ?_) rfl (by kernel_rfl) (by kernel_rfl) (by kernel_rfl) (by kernel_rfl) (fun _ _ _ h => h) (Or.inl ⟨by kernel_rfl, ?_⟩) (by assumption) ?_
                  rotate_left
                  · intro w hSw; (try dsimp only at hSw); go_simp; try with_reducible rfl
                  try simp only [Act.put, List.getElem_toArray, List.getElem_cons_succ, List.getElem_cons_zero, List.setIfInBounds_toArray, List.set_cons_zero, List.set_cons_succ]
                  refine AnyZ.take (i := 10) (v := ?_) rfl (by kernel_rfl) (by kernel_rfl) (by kernel_rfl) (by kernel_rfl) (fun _ _ _ h => h) (Or.inl ⟨by kernel_rfl, ?_⟩) (by assumption) ?_
                  rotate_left
                  · intro w hSw; (try dsimp only at hSw); go_simp; try with_reducible rfl
                  try simp only [Act.put, List.getElem_toArray, List.getElem_cons_succ, List.getElem_cons_zero, List.setIfInBounds_toArray, List.set_cons_zero, List.set_cons_succ]
                  refine AnyZ.take (i := 11) (v := ?_) rfl (by kernel_rfl) (by kernel_rfl) (by kernel_rfl) (by kernel_rfl) (fun _ _ _ h => h) (Or.inl ⟨by kernel_rfl, ?_⟩) (by assumption) ?_
                  rotate_left
                  · intro w hSw; (try dsimp only at hSw); go_simp; try with_reducible rfl
                  try simp only [Act.put, List.getElem_toArray, List.getElem_cons_succ, List.getElem_cons_zero, List.setIfInBounds_toArray, List.set_cons_zero, List.set_cons_succ]
                  refine AnyZ.take (i := 12) (v := ?_) rfl (by kernel_rfl) (by kernel_rfl) (by kernel_rfl) (by kernel_rfl) (fun _ _ _ h => h) (Or.inl ⟨by kernel_rfl, ?_⟩) (by assumption) ?_
                  rotate_left
                  · intro w hSw; (try dsimp only at hSw); go_simp; try with_reducible rfl
                  try simp only [Act.put, List.getElem_toArray, List.getElem_cons_succ, List.getElem_cons_zero, List.setIfInBounds_toArray, List.set_cons_zero, List.set_cons_succ]
                  refine AnyZ.take (i := 13) (v := ?_) rfl (by kernel_rfl) (by kernel_rfl) (by kernel_rfl) (by kernel_rfl) (fun _ _ _ h => h) (Or.inl ⟨by kernel_rfl, ?_⟩) (by assumption) ?_
                  rotate_left
                  · intro w hSw; (try dsimp only at hSw); go_simp; try with_reducible rfl
                  try simp only [Act.put, List.getElem_toArray, List.getElem_cons_succ, List.getElem_cons_zero, List.setIfInBounds_toArray, List.set_cons_zero, List.set_cons_succ]
                  refine AnyZ.take (i := 14) (v := ?_) rfl (by kernel_rfl) (by kernel_rfl) (by kernel_rfl) (by kernel_rfl) (fun _ _ _ h => h) (Or.inl ⟨by kernel_rfl, ?_⟩) (by assumption) ?_
                  rotate_left
                  · intro w hSw; (try dsimp only at hSw); go_simp; try with_reducible rfl
                  try simp only [Act.put, List.getElem_toArray, List.getElem_cons_succ, List.getElem_cons_zero, List.setIfInBounds_toArray, List.set_cons_zero, List.set_cons_succ]
                  refine AnyZ.take (i := 15) (v := ?_) rfl (by kernel_rfl) (by kernel_rfl) (by kernel_rfl) (by kernel_rfl) (fun _ _ _ h => h) (Or.inl ⟨by kernel_rfl, ?_⟩) (by assumption) ?_
                  rotate_left
                  · intro w hSw; (try dsimp only at hSw); go_simp; try with_reducible rfl
                  try simp only [Act.put, List.getElem_toArray, List.getElem_cons_succ, List.getElem_cons_zero, List.setIfInBounds_toArray, List.set_cons_zero, List.set_cons_succ]
                  refine AnyZ.take (i := 16) (v := ?_) rfl (by kernel_rfl) (by kernel_rfl) (by kernel_rfl) (by kernel_rfl) (fun _ _ _ h => h) (Or.inl ⟨by kernel_rfl, ?_⟩) (by assumption) ?_
                  rotate_left
                  · intro w hSw; (try dsimp only at hSw); go_simp; try with_reducible rfl
                  try simp only [Act.put, List.getElem_toArray, List.getElem_cons_succ, List.getElem_cons_zero, List.setIfInBounds_toArray, List.set_cons_zero, List.set_cons_succ]
                  refine AnyZ.take (i := 17) (v := ?_) rfl (by kernel_rfl) (by kernel_rfl) (by kernel_rfl) (by kernel_rfl) (fun _ _ _ h => h) (Or.inl ⟨by kernel_rfl, ?_⟩) (by assumption) ?_
                  rotate_left
                  · intro w hSw; (try dsimp only at hSw); go_simp; try with_reducible rfl
                  try simp only [Act.put, List.getElem_toArray, List.getElem_cons_succ, List.getElem_cons_zero, List.setIfInBounds_toArray, List.set_cons_zero, List.set_cons_succ]
                  refine AnyZ.take (i := 18) (v := ?_) rfl (by kernel_rfl) (by kernel_rfl) (by kernel_rfl) (by kernel_rfl) (fun _ _ _ h => h) (Or.inl ⟨by kernel_rfl, ?_⟩) (by assumption) ?_
                  rotate_left
                  · intro w hSw; (try dsimp only at hSw); go_simp; try with_reducible rfl
                  try simp only [Act.put, List.getElem_toArray, List.getElem_cons_succ, List.getElem_cons_zero, List.setIfInBounds_toArray, List.set_cons_zero, List.set_cons_succ]
                  refine AnyZ.take (i := 19) (v := ?_) rfl (by kernel_rfl) (by kernel_rfl) (by kernel_rfl) (by kernel_rfl) (fun _ _ _ h => h) (Or.inl ⟨by kernel_rfl, ?_⟩) (by assumption) ?_
                  rotate_left
                  · intro w hSw; (try dsimp only at hSw); go_simp; try with_reducible rfl
                  try simp only [Act.put, List.getElem_toArray, List.getElem_cons_succ, List.getElem_cons_zero, List.setIfInBounds_toArray, List.set_cons_zero, List.set_cons_succ]
                  refine AnyZ.done (by kernel_rfl) ?_ _
                  go_upto_region 18 with fail
                  go_wp2_with (at_builtin; refine wpList_appendK1 (w0 := wf.drew) (f := riN) rfl _ _ _ rfl riT y rfl (riN_one y) rfl (HOF.out.drewN 1) rfl rfl rfl (by unfold maxLen; omega) (by omega) HBF.out.size ?_; intro v9 w9 hown9 hg9)
                  have HB9 : Hid (Below w7.heap.size w7 w9) := Lib.hid ((HBF.out.drew.alloc HBF.out.size _).trans (OwnK.below_ ((HOF.out.drewN 1).alloc _) (Nat.le_trans HBF.out.size (by rw [World.size_alloc]; exact Nat.le_succ _)) hg9))
                  have HO9 : Hid (OwnK 4 riN w7.heap.size 46 w9 v9 ((all.take (m + 1)).filter P)) := Lib.hid (by rw [HST.out]; exact hown9)
                  clear hown9 hg9
                  go_wp2_with fail
                  go_roundw
                  case rel => exact ⟨m + 1, HLT.out, by go_num, HO9.out, HB9.out⟩
                  case measure => simp [RowKit.intOf]; have := HLT.out; omega
                | false =>
                  go_upto_region 17 with fail
                  refine AnyZ.start (S := (fun W => W.cell? ⟨w.heap.size, 0, none⟩ = some (.slice (some ⟨b, o, none⟩) all.length c5) ∧ W.cell? ⟨b, o + m * 4, none⟩ = some (.int .i64 y.id) ∧ W.cell? ⟨b, o + m * 4 + 1, none⟩ = some (.int .i64 y.seq) ∧ W.cell? ⟨w.heap.size + 1, 0, none⟩ = some (.int .i64 x.id))) (z := 1020) (by kernel_rfl) ?_ (fun hHeld => ?_)
                  · exact ⟨HT0.out, HC0.out, HC1.out, HYF.out.cell 0⟩
                  refine AnyZ.take (i := 0) (v := ?_) rfl (by kernel_rfl) (by kernel_rfl) (by kernel_rfl) (by kernel_rfl) (fun _ _ _ h => h) (Or.inl ⟨by kernel_rfl, ?_⟩) (by assumption) ?_
                  rotate_left
                  · intro w hSw; (try dsimp only at hSw); go_simp; try with_reducible rfl
                  try simp only [Act.put, List.getElem_toArray, List.getElem_cons_succ, List.getElem_cons_zero, List.setIfInBounds_toArray, List.set_cons_zero, List.set_cons_succ]
                  refine AnyZ.take (i := 1) (v := ?_) rfl (by kernel_rfl) (by kernel_rfl) (by kernel_rfl) (by kernel_rfl) (fun _ _ _ h => h) (Or.inl ⟨by kernel_rfl, ?_⟩) (by assumption) ?_
                  rotate_left
                  · intro w hSw; (try dsimp only at hSw); go_simp; try with_reducible rfl
                  try simp only [Act.put, List.getElem_toArray, List.getElem_cons_succ, List.getElem_cons_zero, List.setIfInBounds_toArray, List.set_cons_zero, List.set_cons_succ]
                  refine AnyZ.take (i := 2) (v := ?_) rfl (by kernel_rfl) (by kernel_rfl) (by kernel_rfl) (by kernel_rfl) (fun _ _ _ h => h) (Or.inl ⟨by kernel_rfl, ?_⟩) (by assumption) ?_
                  rotate_left
                  · intro w hSw; (try dsimp only at hSw); go_simp; try with_reducible rfl
                  try simp only [Act.put, List.getElem_toArray, List.getElem_cons_succ, List.getElem_cons_zero, List.setIfInBounds_toArray, List.set_cons_zero, List.set_cons_succ]
                  refine AnyZ.take (i := 3) (v := ?_) rfl (by kernel_rfl) (by kernel_rfl) (by kernel_rfl) (by kernel_rfl) (fun _ _ _ h => h) (Or.inl ⟨by kernel_rfl, ?_⟩) (by assumption) ?_
                  rotate_left
                  · intro w hSw; (try dsimp only at hSw); go_simp; try with_reducible rfl
                  try simp only [Act.put, List.getElem_toArray, List.getElem_cons_succ, List.getElem_cons_zero, List.setIfInBounds_toArray, List.set_cons_zero, List.set_cons_succ]
                  refine AnyZ.take (i := 4) (v := ?_) rfl (by kernel_rfl) (by kernel_rfl) (by kernel_rfl) (by kernel_rfl) (fun _ _ _ h => h) (Or.inl ⟨by kernel_rfl, ?_⟩) (by assumption) ?_
                  rotate_left
                  · intro w hSw; (try dsimp only at hSw); go_simp; try with_reducible rfl
                  try simp only [Act.put, List.getElem_toArray, List.getElem_cons_succ, List.getElem_cons_zero, List.setIfInBounds_toArray, List.set_cons_zero, List.set_cons_succ]
                  refine AnyZ.take (i := 5) (v := ?_) rfl (by kernel_rfl) (by kernel_rfl) (by kernel_rfl) (by kernel_rfl) (fun _ _ _ h => h) (Or.inl ⟨by kernel_rfl, ?_⟩) (by assumption) ?_
                  rotate_left
                  · intro w hSw; (try dsimp only at hSw); go_simp; try with_reducible rfl
                  try simp only [Act.put, List.getElem_toArray, List.getElem_cons_succ, List.getElem_cons_zero, List.setIfInBounds_toArray, List.set_cons_zero, List.set_cons_succ]
                  refine AnyZ.take (i := 6) (v := ?_) rfl (by kernel_rfl) (by kernel_rfl) (by kernel_rfl) (by kernel_rfl) (fun _ _ _ h => h) (Or.inl ⟨by kernel_rfl, ?_⟩) (by assumption) ?_
                  rotate_left
                  · intro w hSw; (try dsimp only at hSw); go_simp; try with_reducible rfl
                  try simp only [Act.put, List.getElem_toArray, List.getElem_cons_succ, List.getElem_cons_zero, List.setIfInBounds_toArray, List.set_cons_zero, List.set_cons_succ]
                  refine AnyZ.take (i := 7) (v := ?_) rfl (by kernel_rfl) (by kernel_rfl) (by kernel_rfl) (by kernel_rfl) (fun _ _ _ h => h) (Or.inl ⟨by kernel_rfl, ?_⟩) (by assumption) ?_
                  rotate_left
                  · intro w hSw; (try dsimp only at hSw); go_simp; try with_reducible rfl
                  try simp only [Act.put, List.getElem_toArray, List.getElem_cons_succ, List.getElem_cons_zero, List.setIfInBounds_toArray, List.set_cons_zero, List.set_cons_succ]
                  refine AnyZ.take (i := 8) (v := ?_) rfl (by kernel_rfl) (by kernel_rfl) (by kernel_rfl) (by kernel_rfl) (fun _ _ _ h => h) (Or.inl ⟨by kernel_rfl, ?_⟩) (by assumption) ?_
                  rotate_left
                  · intro w hSw; (try dsimp only at hSw); go_simp; try with_reducible rfl
                  try simp only [Act.put, List.getElem_toArray, List.getElem_cons_succ, List.getElem_cons_zero, List.setIfInBounds_toArray, List.set_cons_zero, List.set_cons_succ]
                  refine AnyZ.take (i := 9) (v := ?_) rfl (by kernel_rfl) (by kernel_rfl) (by kernel_rfl) (by kernel_rfl) (fun _ _ _ h => h) (Or.inl ⟨by kernel_rfl, ?_⟩) (by assumption) ?_
                  rotate_left
                  · intro w hSw; (try dsimp only at hSw); go_simp; try with_reducible rfl
                  try simp only [Act.put, List.getElem_toArray, List.getElem_cons_succ, List.getElem_cons_zero, List.setIfInBounds_toArray, List.set_cons_zero, List.set_cons_succ]
                  refine AnyZ.take (i := 10) (v := ?_) rfl (by kernel_rfl) (by kernel_rfl) (by kernel_rfl) (by kernel_rfl) (fun _ _ _ h => h) (Or.inl ⟨by kernel_rfl, ?_⟩) (by assumption) ?_
                  rotate_left
                  · intro w hSw; (try dsimp only at hSw); go_simp; try with_reducible rfl
                  try simp only [Act.put, List.getElem_toArray, List.getElem_cons_succ, List.getElem_cons_zero, List.setIfInBounds_toArray, List.set_cons_zero, List.set_cons_succ]
                  refine AnyZ.take (i := 11) (v := ?_) rfl (by kernel_rfl) (by kernel_rfl) (by kernel_rfl) (by kernel_rfl) (fun _ _ _ h => h) (Or.inl ⟨by kernel_rfl, ?_⟩) (by assumption) ?_
                  rotate_left
                  · intro w hSw; (try dsimp only at hSw); go_simp; try with_reducible rfl
                  try simp only [Act.put, List.getElem_toArray, List.getElem_cons_succ, List.getElem_cons_zero, List.setIfInBounds_toArray, List.set_cons_zero, List.set_cons_succ]
                  refine AnyZ.take (i := 12) (v := ?_) rfl (by kernel_rfl) (by kernel_rfl) (by kernel_rfl) (by kernel_rfl) (fun _ _ _ h => h) (Or.inl ⟨by kernel_rfl, ?_⟩) (by assumption) ?_
                  rotate_left
                  · intro w hSw; (try dsimp only at hSw); go_simp; try with_reducible rfl
                  try simp only [Act.put, List.getElem_toArray, List.getElem_cons_succ, List.getElem_cons_zero, List.setIfInBounds_toArray, List.set_cons_zero, List.set_cons_succ]
                  refine AnyZ.take (i := 13) (v := ?_) rfl (by kernel_rfl) (by kernel_rfl) (by kernel_rfl) (by kernel_rfl) (fun _ _ _ h => h) (Or.inl ⟨by kernel_rfl, ?_⟩) (by assumption) ?_
                  rotate_left
                  · intro w hSw; (try dsimp only at hSw); go_simp; try with_reducible rfl
                  try simp only [Act.put, List.getElem_toArray, List.getElem_cons_succ, List.getElem_cons_zero, List.setIfInBounds_toArray, List.set_cons_zero, List.set_cons_succ]
                  refine AnyZ.take (i := 14) (v := ?_) rfl (by kernel_rfl) (by kernel_rfl) (by kernel_rfl) (by kernel_rfl) (fun _ _ _ h => h) (Or.inl ⟨by kernel_rfl, ?_⟩) (by assumption) ?_
                  rotate_left
                  · intro w hSw; (try dsimp only at hSw); go_simp; try with_reducible rfl
                  try simp only [Act.put, List.getElem_toArray, List.getElem_cons_succ, List.getElem_cons_zero, List.setIfInBounds_toArray, List.set_cons_zero, List.set_cons_succ]
                  refine AnyZ.take (i := 15) (v := ?_) rfl (by kernel_rfl) (by kernel_rfl) (by kernel_rfl) (by kernel_rfl) (fun _ _ _ h => h) (Or.inl ⟨by kernel_rfl, ?_⟩) (by assumption) ?_
                  rotate_left
                  · intro w hSw; (try dsimp only at hSw); go_simp; try with_reducible rfl
                  try simp only [Act.put, List.getElem_toArray, List.getElem_cons_succ, List.getElem_cons_zero, List.setIfInBounds_toArray, List.set_cons_zero, List.set_cons_succ]
                  refine AnyZ.take (i := 16) (v := ?_) rfl (by kernel_rfl) (by kernel_rfl) (by kernel_rfl) (by kernel_rfl) (fun _ _ _ h => h) (Or.inl ⟨by kernel_rfl, ?_⟩) (by assumption) ?_
                  rotate_left
                  · intro w hSw; (try dsimp only at hSw); go_simp; try with_reducible rfl
                  try simp only [Act.put, List.getElem_toArray, List.getElem_cons_succ, List.getElem_cons_zero, List.setIfInBounds_toArray, List.set_cons_zero, List.set_cons_succ]
                  refine AnyZ.take (i := 17) (v := ?_) rfl (by kernel_rfl) (by kernel_rfl) (by kernel_rfl) (by kernel_rfl) (fun _ _ _ h => h) (Or.inl ⟨by kernel_rfl, ?_⟩) (by assumption) ?_
                  rotate_left
                  · intro w hSw; (try dsimp only at hSw); go_simp; try with_reducible rfl
                  try simp only [Act.put, List.getElem_toArray, List.getElem_cons_succ, List.getElem_cons_zero, List.setIfInBounds_toArray, List.set_cons_zero, List.set_cons_succ]
                  refine AnyZ.take (i := 18) (v := ?_) rfl (by kernel_rfl) (by kernel_rfl) (by kernel_rfl) (by kernel_rfl) (fun _ _ _ h => h) (Or.inl ⟨by kernel_rfl, ?_⟩) (by assumption) ?_
                  rotate_left
                  · intro w hSw; (try dsimp only at hSw); go_simp; try with_reducible rfl
                  try simp only [Act.put, List.getElem_toArray, List.getElem_cons_succ, List.getElem_cons_zero, List.setIfInBounds_toArray, List.set_cons_zero, List.set_cons_succ]
                  refine AnyZ.take (i := 19) (v := ?_) rfl (by kernel_rfl) (by kernel_rfl) (by kernel_rfl) (by kernel_rfl) (fun _ _ _ h => h) (Or.inl ⟨by kernel_rfl, ?_⟩) (by assumption) ?_
                  rotate_left
                  · intro w hSw; (try dsimp only at hSw); go_simp; try with_reducible rfl
                  try simp only [Act.put, List.getElem_toArray, List.getElem_cons_succ, List.getElem_cons_zero, List.setIfInBounds_toArray, List.set_cons_zero, List.set_cons_succ]
                  refine AnyZ.done (by kernel_rfl) ?_ _
                  go_wp2_with fail
                  go_roundw
                  case rel => exact ⟨m + 1, HLT.out, by go_num, by rw [HST.out]; simp only [Bool.false_eq_true, if_false, List.append_nil]; exact HOF.out.drewN 1, HBF.out.drew⟩
                  case measure => simp [RowKit.intOf]; have := HLT.out; omega
              · have u1 : (y.id != x.id) = true := by rw [bne_iff_ne]; exact e1
                have u2 : (y.id == x.id) = false := by rw [beq_eq_false_iff_ne]; exact e1
                have hPq : P y = true := by rw [hPy, u2]; rfl
                rw [hPq] at hst
                have HST := Lib.hid hst
                clear hst hPq hPy u2 e1
                go_upto_region 17 with fail
                refine AnyZ.start (S := (fun W => W.cell? ⟨w.heap.size, 0, none⟩ = some (.slice (some ⟨b, o, none⟩) all.length c5) ∧ W.cell? ⟨b, o + m * 4, none⟩ = some (.int .i64 y.id) ∧ W.cell? ⟨b, o + m * 4 + 1, none⟩ = some (.int .i64 y.seq) ∧ W.cell? ⟨w.heap.size + 1, 0, none⟩ = some (.int .i64 x.id))) (z := 1020) (by kernel_rfl) ?_ (fun hHeld => ?_)
                · exact ⟨HT0.out, HC0.out, HC1.out, HYF.out.cell 0⟩
                refine AnyZ.take (i := 0) (v := ?_) rfl (by kernel_rfl) (by kernel_rfl) (by kernel_rfl) (by kernel_rfl) (fun _ _ _ h => h) (Or.inl ⟨by kernel_rfl, ?_⟩) (by assumption) ?_
                rotate_left
                · intro w hSw; (try dsimp only at hSw); go_simp; try with_reducible rfl
                try simp only [Act.put, List.getElem_toArray, List.getElem_cons_succ, List.getElem_cons_zero, List.setIfInBounds_toArray, List.set_cons_zero, List.set_cons_succ]
                refine AnyZ.take (i := 1) (v := ?_) rfl (by kernel_rfl) (by kernel_rfl) (by kernel_rfl) (by kernel_rfl) (fun _ _ _ h => h) (Or.inl ⟨by kernel_rfl, ?_⟩) (by assumption) ?_
                rotate_left
                · intro w hSw; (try dsimp only at hSw); go_simp; try with_reducible rfl
                try simp only [Act.put, List.getElem_toArray, List.getElem_cons_succ, List.getElem_cons_zero, List.setIfInBounds_toArray, List.set_cons_zero, List.set_cons_succ]
                refine AnyZ.take (i := 2) (v := ?_) rfl (by kernel_rfl) (by kernel_rfl) (by kernel_rfl) (by kernel_rfl) (fun _ _ _ h => h) (Or.inl ⟨by kernel_rfl, ?_⟩) (by assumption) ?_
                rotate_left
                · intro w hSw; (try dsimp only at hSw); go_simp; try with_reducible rfl
                try simp only [Act.put, List.getElem_toArray, List.getElem_cons_succ, List.getElem_cons_zero, List.setIfInBounds_toArray, List.set_cons_zero, List.set_cons_succ]
                refine AnyZ.take (i := 3) (v := ?_) rfl (by kernel_rfl) (by kernel_rfl) (by kernel_rfl) (by kernel_rfl) (fun _ _ _ h => h) (Or.inl ⟨by kernel_rfl, ?_⟩) (by assumption) ?_
                rotate_left
                · intro w hSw; (try dsimp only at hSw); go_simp; try with_reducible rfl
                try simp only [Act.put, List.getElem_toArray, List.getElem_cons_succ, List.getElem_cons_zero, List.setIfInBounds_toArray, List.set_cons_zero, List.set_cons_succ]
                refine AnyZ.take (i := 4) (v := ?_) rfl (by kernel_rfl) (by kernel_rfl) (by kernel_rfl) (by kernel_rfl) (fun _ _ _ h => h) (Or.inl ⟨by kernel_rfl, ?_⟩) (by assumption) ?_
                rotate_left
                · intro w hSw; (try dsimp only at hSw); go_simp; try with_reducible rfl
                try simp only [Act.put, List.getElem_toArray, List.getElem_cons_succ, List.getElem_cons_zero, List.setIfInBounds_toArray, List.set_cons_zero, List.set_cons_succ]
                refine AnyZ.take (i := 5) (v := ?_) rfl (by kernel_rfl) (by kernel_rfl) (by kernel_rfl) (by kernel_rfl) (fun _ _ _ h => h) (Or.inl ⟨by kernel_rfl, ?_⟩) (by assumption) ?_
                rotate_left
                · intro w hSw; (try dsimp only at hSw); go_simp; try with_reducible rfl
                try simp only [Act.put, List.getElem_toArray, List.getElem_cons_succ, List.getElem_cons_zero, List.setIfInBounds_toArray, List.set_cons_zero, List.set_cons_succ]
                refine AnyZ.take (i := 6) (v := ?_) rfl (by kernel_rfl) (by kernel_rfl) (by kernel_rfl) (by kernel_rfl) (fun _ _ _ h => h) (Or.inl ⟨by kernel_rfl, ?_⟩) (by assumption) ?_
                rotate_left
                · intro w hSw; (try dsimp only at hSw); go_simp; try with_reducible rfl
                try simp only [Act.put, List.getElem_toArray, List.getElem_cons_succ, List.getElem_cons_zero, List.setIfInBounds_toArray, List.set_cons_zero, List.set_cons_succ]
                refine AnyZ.take (i := 7) (v := ?_) rfl (by kernel_rfl) (by kernel_rfl) (by kernel_rfl) (by kernel_rfl) (fun _ _ _ h => h) (Or.inl ⟨by kernel_rfl, ?_⟩) (by assumption) ?_
                rotate_left
                · intro w hSw; (try dsimp only at hSw); go_simp; try with_reducible rfl
                try simp only [Act.put, List.getElem_toArray, List.getElem_cons_succ, List.getElem_cons_zero, List.setIfInBounds_toArray, List.set_cons_zero, List.set_cons_succ]
                refine AnyZ.take (i := 8) (v := ?_) rfl (by kernel_rfl) (by kernel_rfl) (by kernel_rfl) (by kernel_rfl) (fun _ _ _ h => h) (Or.inl ⟨by kernel_rfl, ?_⟩) (by assumption) ?_
                rotate_left
                · intro w hSw; (try dsimp only at hSw); go_simp; try with_reducible rfl
                try simp only [Act.put, List.getElem_toArray, List.getElem_cons_succ, List.getElem_cons_zero, List.setIfInBounds_toArray, List.set_cons_zero, List.set_cons_succ]
                refine AnyZ.take (i := 9) (v := ?_) rfl (by kernel_rfl) (by kernel_rfl) (by kernel_rfl) (by kernel_rfl) (fun _ _ _ h => h) (Or.inl ⟨by kernel_rfl, ?_⟩) (by assumption) ?_
                rotate_left
                · intro w hSw; (try dsimp only at hSw); go_simp; try with_reducible rfl
                try simp only [Act.put, List.getElem_toArray, List.getElem_cons_succ, List.getElem_cons_zero, List.setIfInBounds_toArray, List.set_cons_zero, List.set_cons_succ]
                refine AnyZ.takeAny (i := 10) (v := undef) rfl (by kernel_rfl) (by kernel_rfl) (by kernel_rfl) (by kernel_rfl) (fun _ _ _ h => h) (Or.inr ⟨by kernel_rfl, rfl⟩) (by assumption) ?_
                try simp only [Act.put, List.getElem_toArray, List.getElem_cons_succ, List.getElem_cons_zero, List.setIfInBounds_toArray, List.set_cons_zero, List.set_cons_succ]
                refine AnyZ.takeAny (i := 11) (v := undef) rfl (by kernel_rfl) (by kernel_rfl) (by kernel_rfl) (by kernel_rfl) (fun _ _ _ h => h) (Or.inr ⟨by kernel_rfl, rfl⟩) (by assumption) ?_
                try simp only [Act.put, List.getElem_toArray, List.getElem_cons_succ, List.getElem_cons_zero, List.setIfInBounds_toArray, List.set_cons_zero, List.set_cons_succ]
                refine AnyZ.takeAny (i := 12) (v := undef) rfl (by kernel_rfl) (by kernel_rfl) (by kernel_rfl) (by kernel_rfl) (fun _ _ _ h => h) (Or.inr ⟨by kernel_rfl, rfl⟩) (by assumption) ?_
                try simp only [Act.put, List.getElem_toArray, List.getElem_cons_succ, List.getElem_cons_zero, List.setIfInBounds_toArray, List.set_cons_zero, List.set_cons_succ]
                refine AnyZ.takeAny (i := 13) (v := undef) rfl (by kernel_rfl) (by kernel_rfl) (by kernel_rfl) (by kernel_rfl) (fun _ _ _ h => h) (Or.inr ⟨by kernel_rfl, rfl⟩) (by assumption) ?_
                try simp only [Act.put, List.getElem_toArray, List.getElem_cons_succ, List.getElem_cons_zero, List.setIfInBounds_toArray, List.set_cons_zero, List.set_cons_succ]
                refine AnyZ.takeAny (i := 14) (v := undef) rfl (by kernel_rfl) (by kernel_rfl) (by kernel_rfl) (by kernel_rfl) (fun _ _ _ h => h) (Or.inr ⟨by kernel_rfl, rfl⟩) (by assumption) ?_
                try simp only [Act.put, List.getElem_toArray, List.getElem_cons_succ, List.getElem_cons_zero, List.setIfInBounds_toArray, List.set_cons_zero, List.set_cons_succ]
                refine AnyZ.takeAny (i := 15) (v := undef) rfl (by kernel_rfl) (by kernel_rfl) (by kernel_rfl) (by kernel_rfl) (fun _ _ _ h => h) (Or.inr ⟨by kernel_rfl, rfl⟩) (by assumption) ?_
                try simp only [Act.put, List.getElem_toArray, List.getElem_cons_succ, List.getElem_cons_zero, List.setIfInBounds_toArray, List.set_cons_zero, List.set_cons_succ]
                refine AnyZ.takeAny (i := 16) (v := undef) rfl (by kernel_rfl) (by kernel_rfl) (by kernel_rfl) (by kernel_rfl) (fun _ _ _ h => h) (Or.inr ⟨by kernel_rfl, rfl⟩) (by assumption) ?_
                try simp only [Act.put, List.getElem_toArray, List.getElem_cons_succ, List.getElem_cons_zero, List.setIfInBounds_toArray, List.set_cons_zero, List.set_cons_succ]
                refine AnyZ.takeAny (i := 17) (v := undef) rfl (by kernel_rfl) (by kernel_rfl) (by kernel_rfl) (by kernel_rfl) (fun _ _ _ h => h) (Or.inr ⟨by kernel_rfl, rfl⟩) (by assumption) ?_
                try simp only [Act.put, List.getElem_toArray, List.getElem_cons_succ, List.getElem_cons_zero, List.setIfInBounds_toArray, List.set_cons_zero, List.set_cons_succ]
                refine AnyZ.takeAny (i := 18) (v := undef) rfl (by kernel_rfl) (by kernel_rfl) (by kernel_rfl) (by kernel_rfl) (fun _ _ _ h => h) (Or.inr ⟨by kernel_rfl, rfl⟩) (by assumption) ?_
                try simp only [Act.put, List.getElem_toArray, List.getElem_cons_succ, List.getElem_cons_zero, List.setIfInBounds_toArray, List.set_cons_zero, List.set_cons_succ]
                refine AnyZ.take (i := 19) (v := ?_) rfl (by kernel_rfl) (by kernel_rfl) (by kernel_rfl) (by kernel_rfl) (fun _ _ _ h => h) (Or.inl ⟨by kernel_rfl, ?_⟩) (by assumption) ?_
                rotate_left
                · intro w hSw; (try dsimp only at hSw); go_simp; try with_reducible rfl
                try simp only [Act.put, List.getElem_toArray, List.getElem_cons_succ, List.getElem_cons_zero, List.setIfInBounds_toArray, List.set_cons_zero, List.set_cons_succ]
                refine AnyZ.done (by kernel_rfl) ?_ _
                go_upto_region 18 with fail
                go_wp2_with (at_builtin; refine wpList_appendK1 (w0 := wf.drew) (f := riN) rfl _ _ _ rfl riT y rfl (riN_one y) rfl (HOF.out.drewN 1) rfl rfl rfl (by unfold maxLen; omega) (by omega) HBF.out.size ?_; intro v9 w9 hown9 hg9)
                have HB9 : Hid (Below w7.heap.size w7 w9) := Lib.hid ((HBF.out.drew.alloc HBF.out.size _).trans (OwnK.below_ ((HOF.out.drewN 1).alloc _) (Nat.le_trans HBF.out.size (by rw [World.size_alloc]; exact Nat.le_succ _)) hg9))
                have HO9 : Hid (OwnK 4 riN w7.heap.size 46 w9 v9 ((all.take (m + 1)).filter P)) := Lib.hid (by rw [HST.out]; exact hown9)
                clear hown9 hg9
                go_wp2_with fail
                go_roundw
                case rel => exact ⟨m + 1, HLT.out, by go_num, HO9.out, HB9.out⟩
                case measure => simp [RowKit.intOf]; have := HLT.out; omega
            · have hme : m = all.length := by omega
              subst hme
              have ho := HOF.out
              rw [List.take_length] at ho ⊢
              rw [← HRL.out] at ho ⊢
              have HOZ := Lib.hid ho
              clear ho hfl
              have tf := HXF.out.free 0
              have qf := HQF.out.free 0
              have q0 : wf.cell? ⟨w.heap.size + 2, 0, none⟩ = some (.slice none 0 0) := HQF.out.cell 0
              have tz : (wf.setCell ⟨w.heap.size, 0, none⟩ (.slice Af (rPutL its x).length cf)).cell? ⟨w.heap.size, 0, none⟩ = some (.slice Af (rPutL its x).length cf) := (HXF.out.set_ 0 _).cell 0
              have hqz := HQF.out.far (p := ⟨w.heap.size, 0, none⟩) (by show w.heap.size + 2 ≠ w.heap.size; omega) (.slice Af (rPutL its x).length cf)
              have qz : (wf.setCell ⟨w.heap.size, 0, none⟩ (.slice Af (rPutL its x).length cf)).cell? ⟨w.heap.size + 2, 0, none⟩ = some (.slice none 0 0) := hqz.cell 0
              have qzf := hqz.free 0
              have HQZ := Lib.hid hqz
              clear hqz
              go_wp2_with fail
              have rz : ((wf.setCell ⟨w.heap.size, 0, none⟩ (.slice Af (rPutL its x).length cf)).setCell ⟨w.heap.size + 2, 0, none⟩ (.slice Af (rPutL its x).length cf)).cell? ⟨w.heap.size + 2, 0, none⟩ = some (.slice Af (rPutL its x).length cf) := (HQZ.out.set_ 0 _).cell 0
              refine bodyPost_ret (v := .tuple #[.agg #[.slice Af (rPutL its x).length cf], .int .i64 0]) (by simp [results, Try.results17, go_sem, rz]) rfl ?_
              rw [HPT.out, HPL.out]
              have hfz : Frm (fun k => k = w.heap.size ∨ k = w.heap.size + 2) wf ((wf.setCell ⟨w.heap.size, 0, none⟩ (.slice Af (rPutL its x).length cf)).setCell ⟨w.heap.size + 2, 0, none⟩ (.slice Af (rPutL its x).length cf)) :=
                ((Frm.refl (fun k => k = w.heap.size ∨ k = w.heap.size + 2) wf).setCell (p := ⟨w.heap.size, 0, none⟩) (fun _ => .inl rfl) _).setCell (p := ⟨w.heap.size + 2, 0, none⟩) (fun _ => .inr rfl) _
              have hbwf : Below w.heap.size w wf := HB7.out.trans (HBF.out.mono HB7.out.size)
              refine ⟨Af, cf, rfl, SlC.of_ownK riN_len (OwnK.frmA HOZ.out hfz (fun g hg e => ?_)), .inr (fun b o q h => Nat.le_trans HB7.out.size (OwnK.blk_ge HOZ.out b o q h)), hbwf.trans (hfz.to_below (fun k _ h1 h2 => by omega) hbwf.size)⟩
              have h1 := (OwnK.lt HOZ.out _ hg).1
              have h2 := HZ7.out; have h3 := HZ3.out; have h4 := HZ1.out
              omega
  · have t1 : (k0 == 0) = false := by rw [beq_eq_false_iff_ne]; exact h0
    have t2 : (k0 != 0) = true := by rw [bne_iff_ne]; exact h0
    have HPT : Hid ((putT t x.id x.seq x.code x.num).2 = k0) := Lib.hid (by unfold putT; rw [if_pos (by rw [← hk0]; exact h0)]; exact hk0.symm)
    have HPL : Hid (rPut its t x = its) := Lib.hid (by unfold rPut; rw [if_neg (fun e => h0 (by rw [hk0]; exact e.1))])
    clear h0 hk0
    go_enter Try.func17, Try.ntmps17
    go_upto_region 1 with fail
    rw [← HW1.out]
    clear HW1
    go_wp2_with fail
    (with_reducible refine HLK.out.mono ?_); rintro e w2 ⟨ia, ib, rfl, hb2⟩
    have HB2 : Hid (Below w.heap.size w (w2.alloc (.cells #[.int .i64 ia, .int .i64 ib, .int .i64 la, .int .i64 lb] 46))) := Lib.hid ((HB1.out.trans (hb2.mono HB1.out.size)).alloc (by have := HB1.out.size; have := hb2.size; omega) _)
    have HX2 := Lib.hid ((HX1.out.below hb2 HX1.out.lt).alloc (.cells #[.int .i64 ia, .int .i64 ib, .int .i64 la, .int .i64 lb] 46))
    have HY2 := Lib.hid ((HY1.out.below hb2 HY1.out.lt).alloc (.cells #[.int .i64 ia, .int .i64 ib, .int .i64 la, .int .i64 lb] 46))
    have HQ2 := Lib.hid ((HQ1.out.below hb2 HQ1.out.lt).alloc (.cells #[.int .i64 ia, .int .i64 ib, .int .i64 la, .int .i64 lb] 46))
    have HZ2 : Hid (w1.heap.size ≤ w2.heap.size + 1) := Lib.hid (by have := hb2.size; omega)
    clear hb2 t0 y0 y1 HLK
    go_upto_region 2 with fail
    obtain ⟨w3, hw3⟩ : ∃ z, z = w2.alloc (.cells #[.int .i64 ia, .int .i64 ib, .int .i64 la, .int .i64 lb] 46) := ⟨_, rfl⟩
    have HZ3 : Hid (w1.heap.size ≤ w3.heap.size) := Lib.hid (by rw [hw3, World.size_alloc]; exact HZ2.out)
    rw [← hw3] at HB2 HX2 HY2 HQ2 ⊢
    clear hw3 HZ2
    have t0 : w3.cell? ⟨w.heap.size, 0, none⟩ = some (.slice A its.length c) := HX2.out.cell 0
    have y0 : w3.cell? ⟨w.heap.size + 1, 0, none⟩ = some (.int .i64 x.id) := HY2.out.cell 0
    have y1 : w3.cell? ⟨w.heap.size + 1, 1, none⟩ = some (.int .i64 x.seq) := HY2.out.cell 1
    have y2 : w3.cell? ⟨w.heap.size + 1, 2, none⟩ = some (.int .i64 x.code) := HY2.out.cell 2
    have y3 : w3.cell? ⟨w.heap.size + 1, 3, none⟩ = some (.int .i64 x.num) := HY2.out.cell 3
    have r0 : w3.cell? ⟨w.heap.size + 2, 0, none⟩ = some (.slice none 0 0) := HQ2.out.cell 0
    have rf := HQ2.out.free 0
    go_wp2_with fail
    have r9 : (w3.setCell ⟨w.heap.size + 2, 0, none⟩ (.slice A its.length c)).cell? ⟨w.heap.size + 2, 0, none⟩ = some (.slice A its.length c) := (HQ2.out.set_ 0 _).cell 0
    refine bodyPost_ret (v := .tuple #[.agg #[.slice A its.length c], .int .i64 k0]) (by simp [results, Try.results17, go_sem, r9]) rfl ?_
    rw [HPT.out, HPL.out]
    exact ⟨A, c, rfl, HS.out.below (HB2.out.setCell (p := ⟨w.heap.size + 2, 0, none⟩) (by show w.heap.size ≤ w.heap.size + 2; omega) _), .inl ⟨rfl, rfl⟩, HB2.out.setCell (p := ⟨w.heap.size + 2, 0, none⟩) (by show w.heap.size ≤ w.heap.size + 2; omega) _⟩
end Go.Proofs.Ytakebmbdcjbbgaa
