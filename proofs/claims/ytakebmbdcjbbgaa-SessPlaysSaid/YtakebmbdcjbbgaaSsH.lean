/- Layer 13's document: Highest, Sessions. -/
import Derived.Test.YtakebmbdcjbbgaaSsZ
import Derived.Test.YtakebmbdcjbbgaaSsS
import Derived.Test.YtakebmbdcjbbgaaOpenR
namespace Go.Proofs.Ytakebmbdcjbbgaa
open Go Go.RowKit Go.Maps Go.Lib Mem Ss

def riN (x : RI) : List Value := [.int .i64 x.id, .int .i64 x.seq, .int .i64 x.code, .int .i64 x.num]
theorem riN_len (x : RI) : (riN x).length = 4 := rfl
theorem riN_one (x : RI) : ∀ y ∈ riN x, y.oneCell' = true := by
  intro y hy
  simp only [riN, List.mem_cons, List.not_mem_nil, or_false] at hy
  rcases hy with rfl | rfl | rfl | rfl <;> rfl
def IntB (n : Int) (w : World) (e : Ending) (w' : World) : Prop := e = .returned (.int .i64 n) ∧ Below w.heap.size w w'
def RhRel (its : List RI) (id : Int) (nv iv : Value) : Prop := ∃ i : Nat, i ≤ its.length ∧ iv = .int .i64 i ∧ nv = .int .i64 ((its.take i).foldl (hiF id) 0)
theorem fold_take {α β : Type} (f : α → β → α) (a : α) (l : List β) {i : Nat} (h : i < l.length) : (l.take (i + 1)).foldl f a = f ((l.take i).foldl f a) l[i] := by
  rw [List.take_succ_eq_append_getElem h, List.foldl_append, List.foldl_cons, List.foldl_nil]
set_option maxRecDepth 100000 in
set_option maxHeartbeats 2000000 in
theorem RHighest_any {w : World} {A : Option Addr} {c : Nat} {its : List RI} (hs : SlC 4 riN w A its) (id : Int) :
    Calls Try.prog 20 #[.agg #[.slice A its.length c], .int .i64 id] w (IntB (rHigh its id) w) := by
  have hl : its.length ≤ 9223372036854775807 := hs.1
  obtain ⟨w1, hw1⟩ : ∃ z, z = w.alloc (.cells #[.slice A its.length c] 44) := ⟨_, rfl⟩
  have HB1 : Hid (Below w.heap.size w w1) := Lib.hid (by rw [hw1]; exact (Below.refl _ _).alloc (Nat.le_refl _) _)
  have hx1 : Blk w1 w.heap.size 44 #[.slice A its.length c] := by rw [hw1]; exact Blk.new_ w _ _
  have HS := Lib.hid (hs.below HB1.out)
  have HW1 := Lib.hid hw1; clear hw1
  have t0 : w1.cell? ⟨w.heap.size, 0, none⟩ = some (.slice A its.length c) := hx1.cell 0
  clear hx1 hs
  go_enter Try.func20, Try.ntmps20
  go_upto_region 1 with fail
  rw [← HW1.out]
  clear HW1
  go_wp2_with fail
  go_loop [5, 6] (fun nv iv => RhRel its id nv iv) (fun _ iv => its.length - (RowKit.intOf iv).toNat)
  case atStart => exact ⟨0, Nat.zero_le _, rfl, rfl⟩
  case round =>
    obtain ⟨i, hi, rfl, rfl⟩ := hrel
    by_cases hlt : i < its.length
    · have hst := fold_take (hiF id) 0 its hlt
      obtain ⟨n, hn⟩ : ∃ z, z = (its.take i).foldl (hiF id) 0 := ⟨_, rfl⟩
      rw [← hn] at hst ⊢
      obtain ⟨x, hx⟩ : ∃ z, z = its[i] := ⟨_, rfl⟩
      obtain ⟨b, o, rfl, -, hc⟩ := HS.out.at hlt
      rw [← hx] at hst hc
      have c0 : w1.cell? ⟨b, o + i * 4, none⟩ = some (.int .i64 x.id) := hc 0 (by decide)
      have c1 : w1.cell? ⟨b, o + i * 4 + 1, none⟩ = some (.int .i64 x.seq) := hc 1 (by decide)
      obtain ⟨q1, hq1⟩ : ∃ z, z = (x.id == id) := ⟨_, rfl⟩
      obtain ⟨q2, hq2⟩ : ∃ z, z = decide (n < x.seq) := ⟨_, rfl⟩
      change _ = (if ((x.id == id) && decide (n < x.seq)) = true then x.seq else n) at hst
      rw [← hq1, ← hq2] at hst
      have t1 : (x.id == id) = q1 := hq1.symm
      have t2 : decide (n < x.seq) = q2 := hq2.symm
      have HST := Lib.hid hst
      have hk0 : (0 : Int) ≤ (i : Int) := by omega
      have hk1 : (i : Int) < (its.length : Int) := by omega
      clear hst hn hx hc hq1 hq2
      cases q1 <;> cases q2 <;>
      · go_wp2_with fail
        go_round
        case rel => exact ⟨i + 1, by omega, by go_num, by rw [HST.out]; rfl⟩
        case measure => simp [RowKit.intOf]; omega
    · have hie : i = its.length := by omega
      subst hie
      rw [List.take_length]
      go_wp2_with fail
      go_ret
      exact ⟨rfl, HB1.out⟩
def ShRel (its : List RI) (last : Int) (nv iv : Value) : Prop := ∃ i : Nat, i ≤ its.length ∧ iv = .int .i64 i ∧ nv = .int .i64 ((its.take i).foldl (nxF last) 0)
def SgRel (ids : List Int) (w1 : World) (ov : Value) (wr : World) : Prop := ∃ k : Nat, k ≤ ids.length ∧ Mem.Own fI w1.heap.size 2 wr ov (ids.take k) ∧ Below w1.heap.size w1 wr
theorem i64T' : SliceT Try.prog 32 2 (.int .i64 0) 8 := sliceT_mk Try.underlying32 rfl (by kernel_rfl)
set_option maxRecDepth 100000 in
set_option maxHeartbeats 4000000 in
theorem RSessions_any {w : World} {A : Option Addr} {c : Nat} {its : List RI} {t : Tb} (hs : SlC 4 riN w A its) (hr : R its t) :
    Calls Try.prog 36 #[.agg #[.slice A its.length c]] w (SessP (t.map Sn.id) w) := by
  have hl : its.length ≤ 9223372036854775807 := hs.1
  obtain ⟨w1, hw1⟩ : ∃ z, z = w.alloc (.cells #[.slice A its.length c] 44) := ⟨_, rfl⟩
  have HB1 : Hid (Below w.heap.size w w1) := Lib.hid (by rw [hw1]; exact (Below.refl _ _).alloc (Nat.le_refl _) _)
  have HX1 : Hid (Blk w1 w.heap.size 44 #[.slice A its.length c]) := Lib.hid (by rw [hw1]; exact Blk.new_ w _ _)
  have HZ1 : Hid (w1.heap.size = w.heap.size + 1) := Lib.hid (by rw [hw1, World.size_alloc])
  have HS := Lib.hid (hs.below HB1.out)
  have HW1 := Lib.hid hw1; clear hw1
  have HR := Lib.hid hr
  obtain ⟨ids, hids⟩ : ∃ z, z = t.map Sn.id := ⟨_, rfl⟩
  have hil : ids.length ≤ 16 := by rw [hids, List.length_map]; exact hr.ok.few
  have hnx : ∀ k, k ≤ ids.length → nxt its (lastOf ids k) = ids.getD k 0 := fun k hk => by
    rw [hids] at hk ⊢; exact hr.next (by simpa using hk)
  have hip : ∀ j (hj : j < ids.length), 1 ≤ ids[j] := fun j hj => by
    subst hids
    rw [List.getElem_map]
    exact (numOk_iff.1 (hr.ok.each _ (List.getElem_mem (by simpa using hj))).id).1
  have hxp : ∀ x ∈ its, 1 ≤ x.id := fun x hx => (hr.pos hx).1.1
  have HNX := Lib.hid hnx
  have HIP := Lib.hid hip
  have HXP := Lib.hid hxp
  rw [← hids]
  clear hs hr hids hnx hip hxp
  go_enter Try.func36, Try.ntmps36
  go_upto_region 1 with fail
  rw [← HW1.out]
  clear HW1
  go_wp2_with fail
  go_loopw [3] (fun ov wr => SgRel ids w1 ov wr) (fun ov _ => 17 - (match ov with | .slice _ n _ => n | _ => 0))
  case atStart => exact ⟨0, Nat.zero_le _, Own.mk_ (Nat.le_refl _), (Below.refl _ _).alloc (Nat.le_refl _) _⟩
  case round =>
    obtain ⟨k, hk, hown, hbw⟩ := hrel
    obtain ⟨wo, rfl⟩ : ∃ wo, wo = wr := ⟨_, rfl⟩
    have HB := Lib.hid hbw; clear hbw
    obtain ⟨Ao, co, rfl⟩ := hown.form
    have hkl : (ids.take k).length = k := by rw [List.length_take]; omega
    have HKL := Lib.hid hkl
    rw [hkl]
    rw [hkl] at hown
    have HO := Lib.hid hown; clear hown hkl
    have hx := HX1.out.below HB.out (by have := HZ1.out; omega)
    have t0 : wo.cell? ⟨w.heap.size, 0, none⟩ = some (.slice A its.length c) := hx.cell 0
    have HS2 := Lib.hid (HS.out.below HB.out)
    obtain ⟨last, hlast⟩ : ∃ z, z = lastOf ids k := ⟨_, rfl⟩
    have HLAST := Lib.hid hlast
    have hk16 : k ≤ 16 := by omega
    clear hx hlast
    go_wp2_with fail
    go_loop [4, 5] (fun nv iv => ShRel its last nv iv) (fun _ iv => its.length - (RowKit.intOf iv).toNat)
    case atStart => exact ⟨0, Nat.zero_le _, rfl, rfl⟩
    case round =>
      obtain ⟨i, hi, rfl, rfl⟩ := hrel
      by_cases hlt : i < its.length
      · have hst := fold_take (nxF last) 0 its hlt
        obtain ⟨n, hn⟩ : ∃ z, z = (its.take i).foldl (nxF last) 0 := ⟨_, rfl⟩
        rw [← hn] at hst ⊢
        have hxp := HXP.out _ (List.getElem_mem hlt)
        obtain ⟨x, hx⟩ : ∃ z, z = its[i] := ⟨_, rfl⟩
        obtain ⟨b, o, rfl, -, hc⟩ := HS2.out.at hlt
        rw [← hx] at hst hc hxp
        have c0 : wo.cell? ⟨b, o + i * 4, none⟩ = some (.int .i64 x.id) := hc 0 (by decide)
        obtain ⟨q1, hq1⟩ : ∃ z, z = decide (last < x.id) := ⟨_, rfl⟩
        obtain ⟨q2, hq2⟩ : ∃ z, z = (n == 0) := ⟨_, rfl⟩
        obtain ⟨q3, hq3⟩ : ∃ z, z = decide (x.id < n) := ⟨_, rfl⟩
        change _ = (if (decide (last < x.id) && ((n == 0) || decide (x.id < n))) = true then x.id else n) at hst
        rw [← hq1, ← hq2, ← hq3] at hst
        have t1 : decide (last < x.id) = q1 := hq1.symm
        have t2 : (n == 0) = q2 := hq2.symm
        have t3 : decide (x.id < n) = q3 := hq3.symm
        have hk0 : (0 : Int) ≤ (i : Int) := by omega
        have hk1 : (i : Int) < (its.length : Int) := by omega
        by_cases hk0' : k = 0
        · subst hk0'
          have hq : q1 = true := by rw [hq1, HLAST.out]; exact decide_eq_true (by show lastOf ids 0 < x.id; unfold lastOf; simp; omega)
          subst hq
          have HST := Lib.hid hst
          clear hst hn hx hc hq1 hq2 hq3 hxp
          cases q2 <;> cases q3 <;>
          · go_wp2_with fail
            go_round
            case rel => exact ⟨i + 1, by omega, by go_num, by rw [HST.out]; rfl⟩
            case measure => simp [RowKit.intOf]; omega
        · have tk : ((k : Int) == 0) = false := by rw [beq_eq_false_iff_ne]; omega
          have hkm : k - 1 < (ids.take k).length := by rw [HKL.out]; omega
          obtain ⟨b', o', rfl, -, hcj⟩ := HO.out.sl.2.at hkm
          have cl : wo.cell? ⟨b', o' + (k - 1), none⟩ = some (.int .i64 last) := by
            rw [hcj (k - 1) hkm, HLAST.out]
            unfold lastOf
            rw [if_neg hk0', List.getElem_take, List.getD_eq_getElem?_getD, List.getElem?_eq_getElem (by omega)]
            rfl
          have ek : IntKind.i64.wrap ((k : Int) - 1) = ((k - 1 : Nat) : Int) := by rw [IntKind.wrap_i64]; omega
          have ek1 : ((k - 1 : Nat) : Int) < (k : Int) := by omega
          have HST := Lib.hid hst
          clear hst hn hx hc hq1 hq2 hq3 hxp hcj hkm hk0'
          cases q1 <;> cases q2 <;> cases q3 <;>
          · go_wp2_with fail
            go_round
            case rel => exact ⟨i + 1, by omega, by go_num, by rw [HST.out]; rfl⟩
            case measure => simp [RowKit.intOf]; omega
      · have hie : i = its.length := by omega
        subst hie
        rw [List.take_length]
        have hnx : its.foldl (nxF last) 0 = ids.getD k 0 := by rw [HLAST.out]; exact HNX.out k hk
        rw [hnx]
        by_cases hkl : k < ids.length
        · have hge : 1 ≤ ids.getD k 0 := by
            rw [List.getD_eq_getElem?_getD, List.getElem?_eq_getElem hkl]; exact HIP.out k hkl
          have htk : ids.take (k + 1) = ids.take k ++ [ids.getD k 0] := by
            rw [List.take_succ_eq_append_getElem hkl, List.getD_eq_getElem?_getD, List.getElem?_eq_getElem hkl]; rfl
          obtain ⟨n, hn⟩ : ∃ z, z = ids.getD k 0 := ⟨_, rfl⟩
          rw [← hn] at hge htk ⊢
          have tn : (n == 0) = false := by rw [beq_eq_false_iff_ne]; omega
          have HTK := Lib.hid htk
          clear htk hn hnx hge
          go_wp2_with (at_builtin; refine wpList_append1 (f := fI) rfl _ _ _ rfl i64T' n rfl rfl HO.out rfl rfl (by rw [HKL.out]; unfold maxLen; omega) (by rw [HKL.out]; omega) HB.out.size ?_; intro v2 w2 hown2 hb2)
          rw [← HTK.out] at hown2
          obtain ⟨A2, c2, rfl⟩ := hown2.form
          have HO2 := Lib.hid hown2
          have HB2 := Lib.hid (HB.out.trans hb2)
          clear hown2 hb2
          go_roundw
          case rel => exact ⟨k + 1, by omega, HO2.out, HB2.out⟩
          case measure => simp; omega
        · have hke : k = ids.length := by omega
          subst hke
          have h0 : ids.getD ids.length 0 = 0 := by
            rw [List.getD_eq_getElem?_getD, List.getElem?_eq_none (Nat.le_refl _)]; rfl
          rw [h0]
          have ho := HO.out
          rw [List.take_length] at ho
          have HO' := Lib.hid ho
          clear ho h0 hnx
          go_wp2_with fail
          go_ret
          exact ⟨Ao, co, rfl, Mem.Own.baseI HO'.out HB1.out.size, HB1.out.trans (HB.out.mono HB1.out.size)⟩
end Go.Proofs.Ytakebmbdcjbbgaa
