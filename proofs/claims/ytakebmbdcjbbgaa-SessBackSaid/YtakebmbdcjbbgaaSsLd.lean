/- Layer 13: what Load's closure does with a reader and a table. -/
import Derived.Test.YtakebmbdcjbbgaaSsPa
import Derived.Test.YtakebmbdcjbbgaaSsU
import Derived.Test.YtakebmbdcjbbgaaSsA
import Derived.Test.YtakebmbdcjbbgaaSsY
import Derived.Test.YtakebmbdcjbbgaaReg
namespace Go.Proofs.Ytakebmbdcjbbgaa
open Go Go.RowKit Go.Maps Go.Lib Mem Ss Pk

theorem TX.frmG {G F : Nat → Prop} {w w' : World} {p : Nat} {t : Tb} (h : TX G w p t) (hf : Frm F w w') (hF : ∀ g, F g → G g) : TX G w' p t := by
  obtain ⟨mb, rs, h, h1, h2⟩ := h
  exact ⟨mb, rs, h.frmF hf (fun g hg hFg => h1 g hg (hF g hFg)), h1, fun g hg => Nat.lt_of_lt_of_le (h2 g hg) hf.size⟩
theorem rd_frm {F G : Nat → Prop} {w w' : World} {r : Nat} {bs : List UInt8} (h : Rd F w r bs) (hf : Frm G w w') (hr : ¬ G r) (hd : ∀ g, F g → ¬ G g) : Rd F w' r bs := by
  obtain ⟨A, c, h0, h1, h2, h3⟩ := h
  exact ⟨A, c, h0, h1.frm hf hr, h2.frm hf hd, h3⟩
theorem num_yes {F : Nat → Prop} {w : World} {r : Nat} {bs rest : List UInt8} {n : Int} (h : Rd F w r bs) (hg : numP bs = some (n, rest)) :
    Calls Try.prog 47 #[.pointer (some ⟨r, 0, none⟩)] w (RdOk F r rest (.int .i64 n) w) := by
  unfold numP at hg
  cases hn : getNum bs with
  | none => rw [hn] at hg; cases hg
  | some x =>
    obtain ⟨a, k⟩ := x
    rw [hn] at hg
    injection hg with hg; injection hg with h1 h2
    subst h1; subst h2
    exact Num_yes h hn
theorem num_no {F : Nat → Prop} {w : World} {r : Nat} {bs : List UInt8} (h : Rd F w r bs) (hg : numP bs = none) :
    Calls Try.prog 47 #[.pointer (some ⟨r, 0, none⟩)] w (RdNo r 30 w) := by
  unfold numP at hg
  cases hn : getNum bs with
  | none => exact Num_none h hn
  | some x => rw [hn] at hg; cases hg
theorem cnt_yes {F : Nat → Prop} {w : World} {r : Nat} {bs rest : List UInt8} {most n : Int} (h : Rd F w r bs) (hg : cntP most bs = some (n, rest)) :
    Calls Try.prog 46 #[.pointer (some ⟨r, 0, none⟩), .int .i64 most] w (RdOk F r rest (.int .i64 n) w) := by
  unfold cntP at hg
  cases hn : getCount most bs with
  | none => rw [hn] at hg; cases hg
  | some x =>
    obtain ⟨a, k⟩ := x
    rw [hn] at hg
    injection hg with hg; injection hg with h1 h2
    subst h1; subst h2
    exact Count_yes h hn
theorem cnt_no {F : Nat → Prop} {w : World} {r : Nat} {bs : List UInt8} {most : Int} (h : Rd F w r bs) (hg : cntP most bs = none) :
    Calls Try.prog 46 #[.pointer (some ⟨r, 0, none⟩), .int .i64 most] w (RdNo r 30 w) := by
  unfold cntP at hg
  cases hn : getCount most bs with
  | none => exact Count_none h hn
  | some x => rw [hn] at hg; cases hg
/-- need: it panics where it is told no -/
theorem need_yes {w : World} (g : Value) : Calls Try.prog 44 #[.bool true, g] w fun e w' => e = .returned (.tuple #[]) ∧ w = w' := by
  go_enter Try.func44, Try.ntmps44
  go_wp2_with fail
  go_end0
  exact ⟨rfl, rfl⟩
theorem need_no {w : World} {g r : Nat} (hb : Blk w g 97 #[.pointer (some ⟨r, 0, none⟩)]) : Calls Try.prog 44 #[.bool false, .pointer (some ⟨g, 0, none⟩)] w fun e w' => e = .panicked [{ v := wrongV 30, recovered := false }] ∧ w = w' := by
  have c0 : w.cell? ⟨g, 0, none⟩ = some (.pointer (some ⟨r, 0, none⟩)) := hb.cell 0
  clear hb
  go_enter Try.func44, Try.ntmps44
  go_wp2_with fail
  (with_reducible refine (Fail_any _ _ 30 (by decide)).mono ?_); rintro e w3 ⟨rfl, rfl⟩
  go_wp2_with fail
  exact ⟨rfl, rfl, rfl⟩
/-- what the closure leaves -/
def LdP (F G : Nat → Prop) (r p : Nat) (res : Option (Tb × List UInt8)) (w : World) (e : Ending) (w' : World) : Prop :=
  (∀ t rest, res = some (t, rest) → e = .returned (.tuple #[]) ∧ Rd F w' r rest ∧ TX G w' p t ∧ TopT t) ∧ (res = none → e = .panicked [{ v := wrongV 30, recovered := false }]) ∧ Frm (fun g => g = r ∨ ¬ G g) w w'
/-- a reader, a table, between two steps -/
structure LdS (F G : Nat → Prop) (r p : Nat) (w : World) (t : Tb) (bs : List UInt8) (W : World) : Prop where
  rd : Rd F W r bs
  tx : TX G W p t
  top : TopT t
  frm : Frm (fun g => g = r ∨ ¬ G g) w W
section
variable {F G : Nat → Prop} {r p : Nat} {w W W' : World} {t : Tb} {bs rest : List UInt8}
theorem LdS.read (h : LdS F G r p w t bs W) (hG : G r) (hr : Rd F W' r rest) (hf : Frm (fun g => g = r) W W') : LdS F G r p w t rest W' :=
  ⟨hr, h.tx.frmG hf (fun g e => e ▸ hG), h.top, h.frm.trans (hf.mono fun _ _ e => .inl e)⟩
theorem LdS.alloc (h : LdS F G r p w t bs W) (o : Obj) : LdS F G r p w t bs (W.alloc o) := by
  have hb := (Below.refl W.heap.size W).alloc (Nat.le_refl _) o
  obtain ⟨A, c, h0, h1, h2, h3⟩ := h.rd
  exact ⟨⟨A, c, h0, h1.alloc o, h2.below hb, h3⟩, h.tx.below hb, h.top, h.frm.alloc o⟩
theorem LdS.drew (h : LdS F G r p w t bs W) : LdS F G r p w t bs W.drew := by
  have hb := (Below.refl W.heap.size W).drew
  obtain ⟨A, c, h0, h1, h2, h3⟩ := h.rd
  exact ⟨⟨A, c, h0, h1, h2.below hb, h3⟩, h.tx.below hb, h.top, h.frm.drew⟩
theorem LdS.put (h : LdS F G r p w t bs W) (hG : G r) (hF : ∀ g, F g → G g) {t' : Tb} (ht : TX G W' p t') (hf : Frm (fun g => ¬ G g) W W') (htop : TopT t') : LdS F G r p w t' bs W' :=
  ⟨rd_frm h.rd hf (fun e => e hG) (fun g hg e => e (hF g hg)), ht, htop, h.frm.trans (hf.mono fun _ _ e => .inr e)⟩
/-- a block beside is written -/
theorem LdS.other (h : LdS F G r p w t bs W) {g : Nat} {e : TypeId} {cs : Array Value} (hb : Blk W g e cs) (he : e ≠ 67 ∧ e ≠ 71 ∧ e ≠ 76) (hf : Frm (fun k => k = g) W W') (hr : r ≠ g) (hg : ¬ G g) (hF : ∀ k, F k → G k) : LdS F G r p w t bs W' :=
  ⟨rd_frm h.rd hf (fun e => hr e) (fun k hk e => hg (e ▸ hF k hk)), h.tx.frmT hf (fun k _ hk => by subst hk; exact ⟨_, _, _, hb, he⟩), h.top, h.frm.trans (hf.mono fun k _ e => .inr (e ▸ hg))⟩
theorem LdP.no {res : Option (Tb × List UInt8)} (hn : res = none) (hf : Frm (fun g => g = r ∨ ¬ G g) w W) : LdP F G r p res w (.panicked [{ v := wrongV 30, recovered := false }]) W :=
  ⟨(fun t rest h => by rw [hn] at h; cases h), fun _ => rfl, hf⟩
end
theorem wf_ok {n : Int} (h : i64ok n) : (Lit.int .i64 n).wf = true := by
  obtain ⟨h1, h2⟩ := h
  simp [Lit.wf, IntKind.min, IntKind.max, IntKind.signed, IntKind.bits]; omega
theorem cond_eq {seq next high : Int} (h0 : 0 ≤ seq) (hh : i64ok high) : (decide (seq < next) && (decide (IntKind.i64.wrap (high - 8) < next) && decide (next ≤ high))) = (decide (seq < next) && (decide (high - 8 < next) && decide (next ≤ high))) := by
  obtain ⟨h1, h2⟩ := hh
  by_cases a : seq < next
  · by_cases b : next ≤ high
    · have : IntKind.i64.wrap (high - 8) = high - 8 := by rw [IntKind.wrap_i64]; omega
      rw [this]
    · rw [decide_eq_false b]; simp
  · rw [decide_eq_false a]; rfl
def LoRel (F G : Nat → Prop) (r p : Nat) (w : World) (n : Nat) (res : Option (Tb × List UInt8)) (lv iv : Value) (W : World) : Prop :=
  ∃ (i : Nat) (last : Int) (t : Tb) (bs : List UInt8), i ≤ n ∧ iv = .int .i64 i ∧ lv = .int .i64 last ∧ LdS F G r p w t bs W ∧ sessL (n - i) last t bs = res
def LiRel (F G : Nat → Prop) (r p : Nat) (w : World) (id high : Int) (m : Nat) (res : Option (Tb × Int × List UInt8)) (sv jv : Value) (W : World) : Prop :=
  ∃ (j : Nat) (seq : Int) (t : Tb) (bs : List UInt8), j ≤ m ∧ jv = .int .i64 j ∧ sv = .int .i64 seq ∧ 0 ≤ seq ∧ LdS F G r p w t bs W ∧ itemsL id high (m - j) seq t bs = res
set_option maxRecDepth 100000 in
set_option maxHeartbeats 8000000 in
theorem Load1_any {F G : Nat → Prop} {r tb p : Nat} {w : World} {bs : List UInt8} (hr : Rd F w r bs) (hb : Blk w tb 28 #[.pointer (some ⟨p, 0, none⟩)]) (ht : TX G w p []) (hF : ∀ g, F g → G g) (hG : G r) (hGb : G tb) (hne : tb ≠ r) :
    Calls Try.prog 43 #[.pointer (some ⟨r, 0, none⟩), .pointer (some ⟨tb, 0, none⟩)] w (LdP F G r p (loadL bs) w) := by
  have hmf : ∀ (fn : Fn) (first cap : Array Value) (w : World), (Instr.makeFunc fn first cap).run Try.prog w = .ok (.func fn first cap) w := fun _ _ _ _ => rfl
  obtain ⟨res, hres⟩ : ∃ z, z = loadL bs := ⟨_, rfl⟩
  rw [← hres]
  have HRES := Lib.hid hres; clear hres
  obtain ⟨w1, hw1⟩ : ∃ z, z = w.alloc (.cells #[.pointer (some ⟨r, 0, none⟩)] 97) := ⟨_, rfl⟩
  obtain ⟨G1, hG1⟩ : ∃ z : Nat → Prop, z = fun g => G g ∨ g = w.heap.size := ⟨_, rfl⟩
  have hGw : ∀ g, G g → g < w.heap.size := by obtain ⟨_, _, _, _, h⟩ := ht; exact h
  have HX1 : Hid (Blk w1 w.heap.size 97 #[.pointer (some ⟨r, 0, none⟩)]) := Lib.hid (by rw [hw1]; exact Blk.new_ w _ _)
  have HTB1 : Hid (Blk w1 tb 28 #[.pointer (some ⟨p, 0, none⟩)]) := Lib.hid (by rw [hw1]; exact hb.alloc _)
  have HST : Hid (LdS F G1 r p w1 [] bs w1) := Lib.hid (by
    rw [hw1, hG1]
    refine ⟨?_, ht.more _, (fun s hs => by cases hs), Frm.refl _ _⟩
    obtain ⟨A, c, h0, h1, h2, h3⟩ := hr
    exact ⟨A, c, h0, h1.alloc _, h2.below ((Below.refl _ _).alloc (Nat.le_refl _) _), h3⟩)
  have HGR : Hid (G1 r) := Lib.hid (by rw [hG1]; exact .inl hG)
  have HGT : Hid (G1 tb) := Lib.hid (by rw [hG1]; exact .inl hGb)
  have HGX : Hid (G1 w.heap.size) := Lib.hid (by rw [hG1]; exact .inr rfl)
  have HGF : Hid (∀ g, F g → G1 g) := Lib.hid fun g hg => by rw [hG1]; exact .inl (hF g hg)
  have HNE : Hid (tb ≠ r) := Lib.hid hne
  have HNX : Hid (w.heap.size ≠ r) := Lib.hid (by have := hGw r hG; omega)
  have HGV : Hid (∀ g, w1.heap.size ≤ g → ¬ G1 g) := Lib.hid fun g hg h => by
    rw [hG1] at h
    rw [hw1, World.size_alloc] at hg
    rcases h with h | h
    · have := hGw g h; omega
    · omega
  -- back to the first world
  have HBK : Hid (∀ W : World, Frm (fun g => g = r ∨ ¬ G1 g) w1 W → Frm (fun g => g = r ∨ ¬ G g) w W) := Lib.hid fun W hf => by
    have e1 : Frm (fun g => g = r ∨ ¬ G g) w w1 := by rw [hw1]; exact (Frm.refl _ _).alloc _
    refine e1.trans (hf.mono fun g _ hg => ?_)
    rcases hg with hg | hg
    · exact .inl hg
    · exact .inr fun h => hg (by rw [hG1]; exact .inl h)
  have HTL : Hid (∀ (W : World) (t : Tb), TX G1 W p t → TX G W p t) := Lib.hid fun W t h => h.less fun g hg => by rw [hG1]; exact .inl hg
  -- the two boxes, at whatever world between
  have HCX : Hid (∀ W : World, Frm (fun g => g = r ∨ ¬ G1 g) w1 W → Blk W w.heap.size 97 #[.pointer (some ⟨r, 0, none⟩)] ∧ Blk W tb 28 #[.pointer (some ⟨p, 0, none⟩)])   := Lib.hid fun W hf =>
    ⟨HX1.out.frm hf (fun e => e.elim HNX.out (fun e => e HGX.out)), HTB1.out.frm hf (fun e => e.elim HNE.out (fun e => e HGT.out))⟩
  have HW1 := Lib.hid hw1; clear hw1
  clear hr hb ht hF hG hGb hne hGw hG1
  have x0 : w1.cell? ⟨w.heap.size, 0, none⟩ = some (.pointer (some ⟨r, 0, none⟩)) := HX1.out.cell 0
  cases hc : cntP 16 bs with
  | none =>
    have hno : res = none := by rw [HRES.out]; unfold loadL; rw [hc]
    have HNO := Lib.hid hno
    have HCT := Lib.hid (cnt_no HST.out.rd hc)
    clear hc hno
    go_enter Try.func43, Try.ntmps43
    go_upto_region 1 with fail
    rw [← HW1.out]
    clear HW1
    go_wp2_with fail
    (with_reducible refine HCT.out.mono ?_); rintro e w2 ⟨rfl, hf2⟩
    go_wp2_with fail
    exact ⟨rfl, LdP.no HNO.out (HBK.out _ (hf2.mono fun _ _ e => .inl e))⟩
  | some q =>
    obtain ⟨n, r1⟩ := q
    obtain ⟨-, hn0, hn16⟩ := cntP_inv hc
    obtain ⟨k, rfl⟩ := Int.eq_ofNat_of_zero_le hn0
    have hrs : sessL k 0 [] r1 = res := by
      rw [HRES.out]; unfold loadL; rw [hc]; rfl
    have HRS := Lib.hid hrs
    have HCT := Lib.hid (cnt_yes HST.out.rd hc)
    have hk16 : k ≤ 16 := by omega
    clear hc hrs hn0 hn16
    go_enter Try.func43, Try.ntmps43
    go_upto_region 1 with fail
    rw [← HW1.out]
    clear HW1
    go_wp2_with fail
    (with_reducible refine HCT.out.mono ?_); rintro e w2 ⟨rfl, hr2, hf2⟩
    have HS2 := Lib.hid (HST.out.read HGR.out hr2 hf2)
    clear hr2 hf2 HCT x0 HST
    go_wp2_with fail
    go_loopw [4, 13] (fun lv iv wr => LoRel F G1 r p w1 k res lv iv wr) (fun _ iv _ => k - (RowKit.intOf iv).toNat)
    case atStart => exact ⟨0, 0, [], r1, Nat.zero_le _, rfl, rfl, HS2.out, HRS.out⟩
    case round =>
      obtain ⟨i, last, t, bs2, hi, rfl, rfl, hst, hsl⟩ := hrel
      obtain ⟨wo, rfl⟩ : ∃ wo, wo = wr := ⟨_, rfl⟩
      have HSO := Lib.hid hst
      have HSL := Lib.hid hsl
      obtain ⟨hbx, hbt⟩ := HCX.out _ hst.frm
      have HBX := Lib.hid hbx
      have x0 : wo.cell? ⟨w.heap.size, 0, none⟩ = some (.pointer (some ⟨r, 0, none⟩)) := hbx.cell 0
      clear hst hsl hbx hbt
      by_cases hlt : i < k
      · obtain ⟨m', hm'⟩ : ∃ m', k - i = m' + 1 := ⟨k - i - 1, by omega⟩
        have hsl := HSL.out
        rw [hm'] at hsl
        unfold sessL at hsl
        have HM' := Lib.hid hm'
        have HLT := Lib.hid hlt
        clear hm' hlt
        have HSO' := Lib.hid HSO.out.drew
        cases hq1 : numP bs2 with
        | none =>
          rw [hq1] at hsl
          have HNO : Hid (res = none) := Lib.hid hsl.symm
          have HCT := Lib.hid (num_no HSO'.out.rd hq1)
          clear hq1 hsl
          go_upto_region 5 with fail
          refine AnyZ.start (S := (fun W => W.cell? ⟨w.heap.size, 0, none⟩ = some (.pointer (some ⟨r, 0, none⟩)))) (z := 1006) (by kernel_rfl) ?_ (fun hHeld => ?_)
          · exact x0
          refine AnyZ.take (i := 0) (v := ?_) rfl (by kernel_rfl) (by kernel_rfl) (by kernel_rfl) (by kernel_rfl) (fun _ _ _ h => h) (Or.inl ⟨by kernel_rfl, ?_⟩) (by assumption) ?_
          rotate_left
          · intro w hSw; (try dsimp only at hSw); go_simp; try with_reducible rfl
          try simp only [Act.put, List.getElem_toArray, List.getElem_cons_succ, List.getElem_cons_zero, List.setIfInBounds_toArray, List.set_cons_zero, List.set_cons_succ]
          refine AnyZ.take (i := 2) (v := ?_) rfl (by kernel_rfl) (by kernel_rfl) (by kernel_rfl) (by kernel_rfl) (fun _ _ _ h => h) (Or.inl ⟨by kernel_rfl, ?_⟩) (by assumption) ?_
          rotate_left
          · intro w hSw; (try dsimp only at hSw); go_simp; try with_reducible rfl
          try simp only [Act.put, List.getElem_toArray, List.getElem_cons_succ, List.getElem_cons_zero, List.setIfInBounds_toArray, List.set_cons_zero, List.set_cons_succ]
          refine AnyZ.ready (rs := [1]) (by kernel_rfl) (by simp) ?_
          refine AllZ.cons rfl (fun K hK => ?_) AllZ.nil
          go_simp
          (with_reducible refine HCT.out.mono ?_); rintro e wz ⟨rfl, hfz⟩
          exact ⟨rfl, LdP.no HNO.out (HBK.out _ (HSO'.out.frm.trans (hfz.mono fun _ _ e => .inl e)))⟩
        | some q =>
          obtain ⟨id, r1'⟩ := q
          rw [hq1] at hsl
          simp only at hsl
          have HCT := Lib.hid (num_yes HSO'.out.rd hq1)
          have HIW : Hid ((Lit.int .i64 id).wf = true) := Lib.hid (wf_ok (numP_inv hq1).2)
          clear hq1
          cases hq2 : numP r1' with
          | none =>
            rw [hq2] at hsl
            have HNO : Hid (res = none) := Lib.hid hsl.symm
            have HCT2 : Hid (∀ W, Rd F W r r1' → Calls Try.prog 47 #[.pointer (some ⟨r, 0, none⟩)] W (RdNo r 30 W)) := Lib.hid fun W h => num_no h hq2
            clear hq2 hsl
            go_upto_region 5 with fail
            refine AnyZ.start (S := (fun W => W.cell? ⟨w.heap.size, 0, none⟩ = some (.pointer (some ⟨r, 0, none⟩)))) (z := 1006) (by kernel_rfl) ?_ (fun hHeld => ?_)
            · exact x0
            refine AnyZ.take (i := 0) (v := ?_) rfl (by kernel_rfl) (by kernel_rfl) (by kernel_rfl) (by kernel_rfl) (fun _ _ _ h => h) (Or.inl ⟨by kernel_rfl, ?_⟩) (by assumption) ?_
            rotate_left
            · intro w hSw; (try dsimp only at hSw); go_simp; try with_reducible rfl
            try simp only [Act.put, List.getElem_toArray, List.getElem_cons_succ, List.getElem_cons_zero, List.setIfInBounds_toArray, List.set_cons_zero, List.set_cons_succ]
            refine AnyZ.take (i := 2) (v := ?_) rfl (by kernel_rfl) (by kernel_rfl) (by kernel_rfl) (by kernel_rfl) (fun _ _ _ h => h) (Or.inl ⟨by kernel_rfl, ?_⟩) (by assumption) ?_
            rotate_left
            · intro w hSw; (try dsimp only at hSw); go_simp; try with_reducible rfl
            try simp only [Act.put, List.getElem_toArray, List.getElem_cons_succ, List.getElem_cons_zero, List.setIfInBounds_toArray, List.set_cons_zero, List.set_cons_succ]
            refine AnyZ.ready (rs := [1]) (by kernel_rfl) (by simp) ?_
            refine AllZ.cons rfl (fun K hK => ?_) AllZ.nil
            go_simp
            (with_reducible refine HCT.out.mono ?_); rintro e w4 ⟨rfl, hr4, hf4⟩
            have HS4 := Lib.hid (HSO'.out.read HGR.out hr4 hf4)
            have x4 : w4.cell? ⟨w.heap.size, 0, none⟩ = some (.pointer (some ⟨r, 0, none⟩)) := (HCX.out _ HS4.out.frm).1.cell 0
            clear hr4 hf4
            refine hK.out _ _ ?_ (fun hHeld => ?_)
            · exact x4
            clear hK K
            try simp only [Act.put, List.getElem_toArray, List.getElem_cons_succ, List.getElem_cons_zero, List.setIfInBounds_toArray, List.set_cons_zero, List.set_cons_succ]
            refine AnyZ.ready (rs := [3]) (by kernel_rfl) (by simp) ?_
            refine AllZ.cons rfl (fun K hK => ?_) AllZ.nil
            go_simp
            (with_reducible refine (HCT2.out _ HS4.out.rd).mono ?_); rintro e wz ⟨rfl, hfz⟩
            exact ⟨rfl, LdP.no HNO.out (HBK.out _ (HS4.out.frm.trans (hfz.mono fun _ _ e => .inl e)))⟩
          | some q =>
            obtain ⟨high, r2⟩ := q
            rw [hq2] at hsl
            simp only at hsl
            have HHK : Hid (i64ok high) := Lib.hid (numP_inv hq2).2
            have HCT2 : Hid (∀ W, Rd F W r r1' → Calls Try.prog 47 #[.pointer (some ⟨r, 0, none⟩)] W (RdOk F r r2 (.int .i64 high) W)) := Lib.hid fun W h => num_yes h hq2
            clear hq2
            go_upto_region 5 with fail
            refine AnyZ.start (S := (fun W => W.cell? ⟨w.heap.size, 0, none⟩ = some (.pointer (some ⟨r, 0, none⟩)))) (z := 1006) (by kernel_rfl) ?_ (fun hHeld => ?_)
            · exact x0
            refine AnyZ.take (i := 0) (v := ?_) rfl (by kernel_rfl) (by kernel_rfl) (by kernel_rfl) (by kernel_rfl) (fun _ _ _ h => h) (Or.inl ⟨by kernel_rfl, ?_⟩) (by assumption) ?_
            rotate_left
            · intro w hSw; (try dsimp only at hSw); go_simp; try with_reducible rfl
            try simp only [Act.put, List.getElem_toArray, List.getElem_cons_succ, List.getElem_cons_zero, List.setIfInBounds_toArray, List.set_cons_zero, List.set_cons_succ]
            refine AnyZ.take (i := 2) (v := ?_) rfl (by kernel_rfl) (by kernel_rfl) (by kernel_rfl) (by kernel_rfl) (fun _ _ _ h => h) (Or.inl ⟨by kernel_rfl, ?_⟩) (by assumption) ?_
            rotate_left
            · intro w hSw; (try dsimp only at hSw); go_simp; try with_reducible rfl
            try simp only [Act.put, List.getElem_toArray, List.getElem_cons_succ, List.getElem_cons_zero, List.setIfInBounds_toArray, List.set_cons_zero, List.set_cons_succ]
            refine AnyZ.ready (rs := [1]) (by kernel_rfl) (by simp) ?_
            refine AllZ.cons rfl (fun K hK => ?_) AllZ.nil
            go_simp
            (with_reducible refine HCT.out.mono ?_); rintro e w4 ⟨rfl, hr4, hf4⟩
            have HS4 := Lib.hid (HSO'.out.read HGR.out hr4 hf4)
            have x4 : w4.cell? ⟨w.heap.size, 0, none⟩ = some (.pointer (some ⟨r, 0, none⟩)) := (HCX.out _ HS4.out.frm).1.cell 0
            clear hr4 hf4
            refine hK.out _ _ ?_ (fun hHeld => ?_)
            · exact x4
            clear hK K
            try simp only [Act.put, List.getElem_toArray, List.getElem_cons_succ, List.getElem_cons_zero, List.setIfInBounds_toArray, List.set_cons_zero, List.set_cons_succ]
            refine AnyZ.ready (rs := [3]) (by kernel_rfl) (by simp) ?_
            refine AllZ.cons rfl (fun K hK => ?_) AllZ.nil
            go_simp
            (with_reducible refine (HCT2.out _ HS4.out.rd).mono ?_); rintro e w5 ⟨rfl, hr5, hf5⟩
            have HS5 := Lib.hid (HS4.out.read HGR.out hr5 hf5)
            have x5 : w5.cell? ⟨w.heap.size, 0, none⟩ = some (.pointer (some ⟨r, 0, none⟩)) := (HCX.out _ HS5.out.frm).1.cell 0
            clear hr5 hf5
            refine hK.out _ _ ?_ (fun hHeld => ?_)
            · exact x5
            clear hK K
            try simp only [Act.put, List.getElem_toArray, List.getElem_cons_succ, List.getElem_cons_zero, List.setIfInBounds_toArray, List.set_cons_zero, List.set_cons_succ]
            refine AnyZ.take (i := 4) (v := ?_) rfl (by kernel_rfl) (by kernel_rfl) (by kernel_rfl) (by kernel_rfl) (fun _ _ _ h => h) (Or.inl ⟨by kernel_rfl, ?_⟩) (by assumption) ?_
            rotate_left
            · intro w hSw; (try dsimp only at hSw); go_simp; try with_reducible rfl
            try simp only [Act.put, List.getElem_toArray, List.getElem_cons_succ, List.getElem_cons_zero, List.setIfInBounds_toArray, List.set_cons_zero, List.set_cons_succ]
            refine AnyZ.take (i := 5) (v := ?_) rfl (by kernel_rfl) (by kernel_rfl) (by kernel_rfl) (by kernel_rfl) (fun _ _ _ h => h) (Or.inl ⟨by kernel_rfl, ?_⟩) (by assumption) ?_
            rotate_left
            · intro w hSw; (try dsimp only at hSw); go_simp; try with_reducible rfl
            try simp only [Act.put, List.getElem_toArray, List.getElem_cons_succ, List.getElem_cons_zero, List.setIfInBounds_toArray, List.set_cons_zero, List.set_cons_succ]
            refine AnyZ.done (by kernel_rfl) ?_ _
            go_upto_region 6 with fail
            have HBX5 := Lib.hid (HCX.out _ HS5.out.frm).1
            clear hHeld
            clear x0 x4 HCT HCT2 HSO' HSO HS4 HBX
            by_cases hli : last < id
            · have tli : decide (last < id) = true := decide_eq_true hli
              rw [if_pos hli] at hsl
              clear hli
              cases hq3 : cntP 8 r2 with
              | none =>
                rw [hq3] at hsl
                have HNO : Hid (res = none) := Lib.hid hsl.symm
                have HCT := Lib.hid (cnt_no HS5.out.rd hq3)
                clear hq3 hsl
                go_wp2_with fail
                (with_reducible refine (need_yes _).mono ?_); rintro e wz ⟨rfl, rfl⟩
                go_wp2_with fail
                (with_reducible refine HCT.out.mono ?_); rintro e wz ⟨rfl, hfz⟩
                go_wp2_with fail
                exact ⟨rfl, LdP.no HNO.out (HBK.out _ (HS5.out.frm.trans (hfz.mono fun _ _ e => .inl e)))⟩
              | some q =>
                obtain ⟨mI, r3⟩ := q
                rw [hq3] at hsl
                simp only at hsl
                obtain ⟨-, hm0, hm8⟩ := cntP_inv hq3
                obtain ⟨m, rfl⟩ := Int.eq_ofNat_of_zero_le hm0
                rw [Int.toNat_natCast] at hsl
                have HCT := Lib.hid (cnt_yes HS5.out.rd hq3)
                have hm8' : m ≤ 8 := by omega
                clear hq3 hm0 hm8
                go_wp2_with fail
                (with_reducible refine (need_yes _).mono ?_); rintro e wz ⟨rfl, rfl⟩
                go_wp2_with fail
                (with_reducible refine HCT.out.mono ?_); rintro e w6 ⟨rfl, hr6, hf6⟩
                have HS6 := Lib.hid (HS5.out.read HGR.out hr6 hf6)
                clear hr6 hf6 HCT x5 tli HBX5 HS5
                obtain ⟨res2, hres2⟩ : ∃ z, z = itemsL id high m 0 t r3 := ⟨_, rfl⟩
                rw [← hres2] at hsl
                have HR2 : Hid (itemsL id high (m - 0) 0 t r3 = res2) := Lib.hid hres2.symm
                have HRN : Hid (res2 = none → res = none) := Lib.hid fun h => by rw [h] at hsl; exact hsl.symm
                have HFI : Hid (∀ t' seq r4, res2 = some (t', seq, r4) → (if (seq == high && highT t' id == high) = true then sessL (k - (i + 1)) id t' r4 else none) = res) := Lib.hid fun t' seq r4 h => by
                  rw [h] at hsl
                  rw [show k - (i + 1) = m' by have := HM'.out; omega]
                  exact hsl
                clear hsl hres2
                obtain ⟨wv, hwv⟩ : ∃ z, z = w6 := ⟨_, rfl⟩
                clear hwv
                go_wp2_with fail
                go_loopw [7, 27] (fun sv jv wr => LiRel F G1 r p w1 id high m res2 sv jv wr) (fun _ jv _ => m - (RowKit.intOf jv).toNat)
                case atStart => exact ⟨0, 0, t, r3, Nat.zero_le _, rfl, rfl, Int.le_refl _, HS6.out, HR2.out⟩
                case round =>
                  obtain ⟨j, seq, tt, bs3, hj, rfl, rfl, hseq0, hst, hil⟩ := hrel
                  obtain ⟨wi, rfl⟩ : ∃ wo, wo = wr := ⟨_, rfl⟩
                  have HSI := Lib.hid hst
                  have HIL := Lib.hid hil
                  obtain ⟨hbx, hbt⟩ := HCX.out _ hst.frm
                  have HBX := Lib.hid hbx
                  have x0 : wi.cell? ⟨w.heap.size, 0, none⟩ = some (.pointer (some ⟨r, 0, none⟩)) := hbx.cell 0
                  clear hst hil hbx hbt
                  by_cases hjl : j < m
                  · obtain ⟨j', hj'⟩ : ∃ j', m - j = j' + 1 := ⟨m - j - 1, by omega⟩
                    have hil := HIL.out
                    rw [hj'] at hil
                    unfold itemsL at hil
                    cases hq1 : numP bs3 with
                    | none =>
                      rw [hq1] at hil
                      have HNO : Hid (res = none) := Lib.hid (HRN.out hil.symm)
                      have HCT := Lib.hid (num_no HSI.out.rd hq1)
                      clear hq1 hil hj'
                      go_wp2_with fail
                      (with_reducible refine HCT.out.mono ?_); rintro e wz ⟨rfl, hfz⟩
                      go_wp2_with fail
                      exact ⟨rfl, LdP.no HNO.out (HBK.out _ (HSI.out.frm.trans (hfz.mono fun _ _ e => .inl e)))⟩
                    | some q =>
                      obtain ⟨next, b1⟩ := q
                      rw [hq1] at hil
                      simp only at hil
                      have HCT := Lib.hid (num_yes HSI.out.rd hq1)
                      rw [← cond_eq hseq0 HHK.out] at hil
                      obtain ⟨h8, hh8⟩ : ∃ z, z = IntKind.i64.wrap (high - 8) := ⟨_, rfl⟩
                      have e8 : IntKind.i64.wrap (high - 8) = h8 := hh8.symm
                      rw [← hh8] at hil
                      obtain ⟨u1, hu1⟩ : ∃ z, z = decide (seq < next) := ⟨_, rfl⟩
                      obtain ⟨u2, hu2⟩ : ∃ z, z = decide (h8 < next) := ⟨_, rfl⟩
                      obtain ⟨u3, hu3⟩ : ∃ z, z = decide (next ≤ high) := ⟨_, rfl⟩
                      rw [← hu1, ← hu2, ← hu3] at hil
                      have t1 : decide (seq < next) = u1 := hu1.symm
                      have t2 : decide (h8 < next) = u2 := hu2.symm
                      have t3 : decide (next ≤ high) = u3 := hu3.symm
                      have HT1 := Lib.hid hu1
                      have HSQ0 := Lib.hid hseq0
                      clear hh8 hu1 hu2 hu3 hq1 hseq0
                      have HJ' := Lib.hid hj'
                      clear hj'
                      by_cases hcc : (u1 && (u2 && u3)) = true
                      · rw [if_pos hcc] at hil
                        simp only [Bool.and_eq_true] at hcc
                        obtain ⟨rfl, rfl, rfl⟩ := hcc
                        have hnx : 0 ≤ next := by have := of_decide_eq_true HT1.out.symm; have := HSQ0.out; omega
                        have HNX0 := Lib.hid hnx
                        clear hnx
                        go_wp2_with fail
                        (with_reducible refine HCT.out.mono ?_); rintro e w7 ⟨rfl, hr7, hf7⟩
                        have HS7 := Lib.hid (HSI.out.read HGR.out hr7 hf7)
                        clear hr7 hf7 HCT x0 HSI HBX
                        obtain ⟨hbx, hbt⟩ := HCX.out _ HS7.out.frm
                        have HBX := Lib.hid hbx
                        have x0 : w7.cell? ⟨w.heap.size, 0, none⟩ = some (.pointer (some ⟨r, 0, none⟩)) := hbx.cell 0
                        clear hbx hbt
                        go_wp2_with fail
                        (with_reducible refine (need_yes _).mono ?_); rintro e wz ⟨rfl, rfl⟩
                        clear t1 t2 t3 e8
                        cases hq2 : cntP 999 b1 with
                        | none =>
                          rw [hq2] at hil
                          have HNO : Hid (res = none) := Lib.hid (HRN.out hil.symm)
                          have HCT := Lib.hid (cnt_no HS7.out.rd hq2)
                          clear hq2 hil
                          go_wp2_with fail
                          (with_reducible refine HCT.out.mono ?_); rintro e wz ⟨rfl, hfz⟩
                          go_wp2_with fail
                          exact ⟨rfl, LdP.no HNO.out (HBK.out _ (HS7.out.frm.trans (hfz.mono fun _ _ e => .inl e)))⟩
                        | some q =>
                          obtain ⟨c, b2⟩ := q
                          rw [hq2] at hil
                          simp only at hil
                          have HCT := Lib.hid (cnt_yes HS7.out.rd hq2)
                          clear hq2
                          go_wp2_with fail
                          (with_reducible refine HCT.out.mono ?_); rintro e w8 ⟨rfl, hr8, hf8⟩
                          have HS8 := Lib.hid ((HS7.out.read HGR.out hr8 hf8).alloc (.cells #[.int .i64 c, .int .i64 0] 25))
                          have HVB := Lib.hid (Blk.new_ w8 25 #[.int .i64 c, .int .i64 0])
                          have HS7SZ : Hid (w1.heap.size ≤ w8.heap.size) := Lib.hid (HS7.out.read HGR.out hr8 hf8).frm.size
                          have HRV : Hid (r ≠ w8.heap.size) := Lib.hid (by obtain ⟨A', c', h0, h1, h2⟩ := hr8; have := h1.lt; omega)
                          clear hr8 hf8 HCT x0 HS7 HBX
                          go_upto_region 15 with fail
                          obtain ⟨w9, hw9⟩ : ∃ z, z = w8.alloc (.cells #[.int .i64 c, .int .i64 0] 25) := ⟨_, rfl⟩
                          rw [← hw9] at HS8 HVB ⊢
                          clear hw9
                          obtain ⟨hbx, hbt⟩ := HCX.out _ HS8.out.frm
                          have x0 : w9.cell? ⟨w.heap.size, 0, none⟩ = some (.pointer (some ⟨r, 0, none⟩)) := hbx.cell 0
                          clear hbx hbt
                          cases hq3 : numP b2 with
                          | none =>
                            rw [hq3] at hil
                            have HNO : Hid (res = none) := Lib.hid (HRN.out hil.symm)
                            have HCT := Lib.hid (num_no HS8.out.rd hq3)
                            clear hq3 hil
                            go_wp2_with fail
                            (with_reducible refine HCT.out.mono ?_); rintro e wz ⟨rfl, hfz⟩
                            go_wp2_with fail
                            exact ⟨rfl, LdP.no HNO.out (HBK.out _ (HS8.out.frm.trans (hfz.mono fun _ _ e => .inl e)))⟩
                          | some q =>
                            obtain ⟨n, b3⟩ := q
                            rw [hq3] at hil
                            simp only at hil
                            have HCT := Lib.hid (num_yes HS8.out.rd hq3)
                            clear hq3
                            go_wp2_with fail
                            (with_reducible refine HCT.out.mono ?_); rintro e w10 ⟨rfl, hr10, hf10⟩
                            have HS10 := Lib.hid (HS8.out.read HGR.out hr10 hf10)
                            have hvb := HVB.out.frm hf10 (fun e => HRV.out e.symm)
                            have HVB2 := Lib.hid hvb
                            have v1 : w10.cell? ⟨w8.heap.size, 1, none⟩ = some (.int .i64 0) := hvb.cell 1
                            have vf := hvb.free 1
                            clear hr10 hf10 HCT x0 hvb
                            go_upto_region 16 with fail
                            obtain ⟨w11, hw11⟩ : ∃ z, z = w10.setCell ⟨w8.heap.size, 1, none⟩ (.int .i64 n) := ⟨_, rfl⟩
                            rw [← hw11]
                            have HVB3 : Hid (Blk w11 w8.heap.size 25 #[.int .i64 c, .int .i64 n]) := Lib.hid (by rw [hw11]; exact HVB2.out.set_ 1 _)
                            have HS11 : Hid (LdS F G1 r p w1 tt b3 w11) := Lib.hid (by
                              have hf : Frm (fun g => g = w8.heap.size) w10 w11 := by rw [hw11]; exact (Frm.refl (fun g => g = w8.heap.size) _).setCell (p := ⟨w8.heap.size, 1, none⟩) (fun _ => rfl) _
                              exact HS10.out.other HVB2.out (by decide) hf HRV.out (HGV.out _ HS7SZ.out) HGF.out)
                            clear hw11 v1 vf HVB2 HS10
                            obtain ⟨hbx, hbt⟩ := HCX.out _ HS11.out.frm
                            have HBX := Lib.hid hbx
                            have b0 : w11.cell? ⟨tb, 0, none⟩ = some (.pointer (some ⟨p, 0, none⟩)) := hbt.cell 0
                            have v0 : w11.cell? ⟨w8.heap.size, 0, none⟩ = some (.int .i64 c) := HVB3.out.cell 0
                            have v1 : w11.cell? ⟨w8.heap.size, 1, none⟩ = some (.int .i64 n) := HVB3.out.cell 1
                            clear hbx hbt
                            have HPT := Lib.hid (X_Put HS11.out.tx id next c n HIW.out)
                            have HTP := Lib.hid (topT_put HS11.out.tx.ok HS11.out.top id next c n)
                            unfold XPut at HPT
                            obtain ⟨k2, hk2⟩ : ∃ z, z = (putT tt id next c n).2 := ⟨_, rfl⟩
                            obtain ⟨t2, ht2⟩ : ∃ z, z = (putT tt id next c n).1 := ⟨_, rfl⟩
                            rw [← hk2, ← ht2] at hil HPT
                            rw [← ht2] at HTP
                            have HIL2 := Lib.hid hil
                            clear hil hk2 ht2
                            by_cases hk0 : k2 = 0
                            · subst hk0
                              go_wp2_with fail
                              (with_reducible refine HPT.out.mono ?_); rintro e w12 ⟨rfl, ht12, hf12⟩
                              have HS12 := Lib.hid (HS11.out.put HGR.out HGF.out ht12 hf12 HTP.out)
                              clear ht12 hf12 HPT HTP b0 v0 v1 HS11 HBX
                              have hil := HIL2.out
                              first | rw [if_pos rfl] at hil | rw [if_pos trivial] at hil
                              have HIL3 : Hid (itemsL id high (m - (j + 1)) next t2 b3 = res2) := Lib.hid (by
                                rw [show m - (j + 1) = j' by have := HJ'.out; omega]; exact hil)
                              clear hil
                              go_wp2_with fail
                              (with_reducible refine (need_yes _).mono ?_); rintro e wz ⟨rfl, rfl⟩
                              go_wp2_with fail
                              go_roundw
                              case rel => exact ⟨j + 1, next, t2, b3, by omega, by go_num, rfl, HNX0.out, HS12.out, HIL3.out⟩
                              case measure => simp [RowKit.intOf]; omega
                            · have hil := HIL2.out
                              rw [if_neg hk0] at hil
                              have HNO : Hid (res = none) := Lib.hid (HRN.out hil.symm)
                              have tk : (k2 == 0) = false := by rw [beq_eq_false_iff_ne]; exact hk0
                              clear hil hk0
                              go_wp2_with fail
                              (with_reducible refine HPT.out.mono ?_); rintro e w12 ⟨rfl, ht12, hf12⟩
                              have HS12 := Lib.hid (HS11.out.put HGR.out HGF.out ht12 hf12 HTP.out)
                              clear ht12 hf12 HPT HTP b0 v0 v1 HS11 HBX
                              obtain ⟨hbx, hbt⟩ := HCX.out _ HS12.out.frm
                              have HBX := Lib.hid hbx
                              clear hbx hbt
                              go_wp2_with fail
                              (with_reducible refine (need_no HBX.out).mono ?_); rintro e wz ⟨rfl, rfl⟩
                              go_wp2_with fail
                              exact ⟨rfl, LdP.no HNO.out (HBK.out _ HS12.out.frm)⟩
                      · rw [if_neg hcc] at hil
                        have HNO : Hid (res = none) := Lib.hid (HRN.out hil.symm)
                        clear hil HT1 HSQ0
                        cases u1 <;> cases u2 <;> cases u3 <;> simp only [Bool.and_true, Bool.and_false, Bool.true_and, Bool.false_and, not_true, not_false_eq_true, Bool.false_eq_true] at hcc <;>
                        · go_wp2_with fail
                          (with_reducible refine HCT.out.mono ?_); rintro e w7 ⟨rfl, hr7, hf7⟩
                          have HS7 := Lib.hid (HSI.out.read HGR.out hr7 hf7)
                          clear hr7 hf7 HCT x0
                          obtain ⟨hbx, hbt⟩ := HCX.out _ HS7.out.frm
                          have HBX2 := Lib.hid hbx
                          clear hbx hbt
                          go_wp2_with fail
                          (with_reducible refine (need_no HBX2.out).mono ?_); rintro e wz ⟨rfl, rfl⟩
                          go_wp2_with fail
                          exact ⟨rfl, LdP.no HNO.out (HBK.out _ HS7.out.frm)⟩
                  · have hje : j = m := by omega
                    subst hje
                    have hil := HIL.out
                    rw [Nat.sub_self] at hil
                    have hr2 : res2 = some (tt, seq, bs3) := hil.symm
                    have hfin := HFI.out tt seq bs3 hr2
                    have HFIN := Lib.hid hfin
                    obtain ⟨hbx, hbt⟩ := HCX.out _ HSI.out.frm
                    have b0 : wi.cell? ⟨tb, 0, none⟩ = some (.pointer (some ⟨p, 0, none⟩)) := hbt.cell 0
                    clear hil hr2 hfin hbx hbt x0
                    have HHI := Lib.hid (Highest_any HSI.out.tx.tab id HIW.out)
                    unfold HiP at HHI
                    obtain ⟨hh, hhh⟩ : ∃ z, z = highT tt id := ⟨_, rfl⟩
                    rw [← hhh] at HHI HFIN
                    clear hhh
                    by_cases f1 : seq = high
                    · have tf1 : (seq == high) = true := by rw [beq_iff_eq]; exact f1
                      by_cases f2 : hh = high
                      · have tf2 : (hh == high) = true := by rw [beq_iff_eq]; exact f2
                        have hs := HFIN.out
                        rw [tf1, tf2] at hs
                        have HS2 : Hid (sessL (k - (i + 1)) id tt bs3 = res) := Lib.hid hs
                        clear hs f1 f2
                        go_wp2_with fail
                        (with_reducible refine HHI.out.mono ?_); rintro e wz ⟨rfl, rfl⟩
                        go_wp2_with fail
                        (with_reducible refine (need_yes _).mono ?_); rintro e wz ⟨rfl, rfl⟩
                        go_wp2_with fail
                        go_roundw
                        case rel => exact ⟨i + 1, id, tt, bs3, by have := HLT.out; omega, by go_num, rfl, HSI.out, HS2.out⟩
                        case measure => simp [RowKit.intOf]; have := HLT.out; omega
                      · have tf2 : (hh == high) = false := by rw [beq_eq_false_iff_ne]; exact f2
                        have hs := HFIN.out
                        rw [tf1, tf2] at hs
                        have HNO : Hid (res = none) := Lib.hid hs.symm
                        clear hs f1 f2
                        go_wp2_with fail
                        (with_reducible refine HHI.out.mono ?_); rintro e wz ⟨rfl, rfl⟩
                        go_wp2_with fail
                        (with_reducible refine (need_no HBX.out).mono ?_); rintro e wz ⟨rfl, rfl⟩
                        go_wp2_with fail
                        exact ⟨rfl, LdP.no HNO.out (HBK.out _ HSI.out.frm)⟩
                    · have tf1 : (seq == high) = false := by rw [beq_eq_false_iff_ne]; exact f1
                      have hs := HFIN.out
                      rw [tf1] at hs
                      have HNO : Hid (res = none) := Lib.hid hs.symm
                      clear hs f1
                      go_wp2_with fail
                      (with_reducible refine (need_no HBX.out).mono ?_); rintro e wz ⟨rfl, rfl⟩
                      go_wp2_with fail
                      exact ⟨rfl, LdP.no HNO.out (HBK.out _ HSI.out.frm)⟩
            · have tli : decide (last < id) = false := decide_eq_false hli
              rw [if_neg hli] at hsl
              have HNO : Hid (res = none) := Lib.hid hsl.symm
              clear hli hsl
              go_wp2_with fail
              (with_reducible refine (need_no HBX5.out).mono ?_); rintro e wz ⟨rfl, rfl⟩
              go_wp2_with fail
              exact ⟨rfl, LdP.no HNO.out (HBK.out _ HS5.out.frm)⟩
      · have hie : i = k := by omega
        subst hie
        have hres := HSL.out
        rw [Nat.sub_self] at hres
        have HRS2 : Hid (res = some (t, bs2)) := Lib.hid hres.symm
        clear hres
        go_wp2_with fail
        go_end0
        refine ⟨fun t' rest h => ?_, fun h => ?_, HBK.out _ HSO.out.frm⟩
        · rw [HRS2.out] at h
          injection h with h; injection h with h1 h2
          subst h1; subst h2
          exact ⟨rfl, HSO.out.rd, HTL.out _ _ HSO.out.tx, HSO.out.top⟩
        · rw [HRS2.out] at h; cases h
end Go.Proofs.Ytakebmbdcjbbgaa
