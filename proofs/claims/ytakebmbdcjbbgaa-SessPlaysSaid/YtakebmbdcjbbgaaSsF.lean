/- Layer 13: number, the search in a session's list. -/
import Derived.Test.YtakebmbdcjbbgaaProg
import Derived.Test.YtakebmbdcjbbgaaSsL
import Derived.Test.YtakebmbdcjbbgaaRow
import Derived.Test.YtakebmbdcjbbgaaByt
namespace Go.Proofs.Ytakebmbdcjbbgaa
open Go.RowKit Go.Maps Go.Lib Mem Ss

def itN (i : It) : List Value := [.int .i64 i.seq, .int .i64 i.code, .int .i64 i.num]
theorem itN_len (i : It) : (itN i).length = 3 := rfl
theorem itN_one (i : It) : ∀ y ∈ itN i, y.oneCell' = true := by
  intro y hy
  simp only [itN, List.mem_cons, List.not_mem_nil, or_false] at hy
  rcases hy with rfl | rfl | rfl <;> rfl
def BoolW (b : Bool) (w : World) (e : Ending) (w' : World) : Prop := e = .returned (.bool b) ∧ w = w'
def maxN : Int := 1099511627776
theorem number_any (n : Int) (w : World) : Calls Try.prog 33 #[.int .i64 n] w (BoolW (numOk n) w) := by
  obtain ⟨p, hp⟩ : ∃ p, p = decide (1 ≤ n) := ⟨_, rfl⟩
  obtain ⟨q, hq⟩ : ∃ q, q = decide (n ≤ 1099511627776) := ⟨_, rfl⟩
  have e : numOk n = (p && q) := by unfold numOk; rw [hp, hq]
  have t1 : decide (1 ≤ n) = p := hp.symm
  have t2 : decide (n ≤ 1099511627776) = q := hq.symm
  rw [e]
  clear hp hq e
  cases p <;> cases q <;>
  · go_enter Try.func33, Try.ntmps33
    go_wp2_with fail
    go_ret
    exact ⟨by simp, rfl⟩
/-- the sign of a difference -/
def CmpP (seq n : Int) (w : World) (e : Ending) (w' : World) : Prop := ∃ r : Int, e = .returned (.int .i64 r) ∧ r = (if seq < n then -1 else if seq = n then 0 else 1) ∧ Below w.heap.size w w'
set_option maxRecDepth 100000 in
theorem cmp_any (i : It) (n : Int) (w : World) (h1 : -1099511627776 ≤ i.seq - n) (h2 : i.seq - n ≤ 1099511627776) :
    Calls Try.prog 50 #[.agg #[.int .i64 i.seq, .int .i64 i.code, .int .i64 i.num], .int .i64 n] w (CmpP i.seq n w) := by
  obtain ⟨d, hd⟩ : ∃ d, d = i.seq - n := ⟨_, rfl⟩
  have e1 : IntKind.i64.wrap (i.seq - n) = d := by rw [IntKind.wrap_i64]; omega
  have hr : (if i.seq < n then (-1 : Int) else if i.seq = n then 0 else 1) = (if d < 0 then -1 else if d = 0 then 0 else 1) := by (repeat' split) <;> omega
  unfold CmpP
  rw [hr]
  clear hr h1 h2 hd
  obtain ⟨r, hrr⟩ : ∃ r : Int, r = (if d < 0 then -1 else if d = 0 then 0 else 1) := ⟨_, rfl⟩
  rw [← hrr]
  rcases (show d ≤ -2 ∨ d = -1 ∨ d = 0 ∨ d = 1 ∨ 2 ≤ d by omega) with h | h | h | h | h
  · have t1 : ¬ -1 ≤ d := by omega
    obtain rfl : r = -1 := by rw [hrr]; (repeat' split) <;> omega
    clear hrr
    go_enter Try.func50, Try.ntmps50
    go_wp2_with fail
    go_ret
    exact ⟨-1, rfl, rfl, (Below.refl _ _).alloc (Nat.le_refl _) _⟩
  · obtain rfl : r = -1 := by rw [hrr]; (repeat' split) <;> omega
    clear hrr
    subst h
    go_enter Try.func50, Try.ntmps50
    go_wp2_with fail
    go_ret
    exact ⟨-1, rfl, rfl, (Below.refl _ _).alloc (Nat.le_refl _) _⟩
  · obtain rfl : r = 0 := by rw [hrr]; (repeat' split) <;> omega
    clear hrr
    subst h
    go_enter Try.func50, Try.ntmps50
    go_wp2_with fail
    go_ret
    exact ⟨0, rfl, rfl, (Below.refl _ _).alloc (Nat.le_refl _) _⟩
  · obtain rfl : r = 1 := by rw [hrr]; (repeat' split) <;> omega
    clear hrr
    subst h
    go_enter Try.func50, Try.ntmps50
    go_wp2_with fail
    go_ret
    exact ⟨1, rfl, rfl, (Below.refl _ _).alloc (Nat.le_refl _) _⟩
  · have t1 : -1 ≤ d := by omega
    have t2 : 1 < d := by omega
    obtain rfl : r = 1 := by rw [hrr]; (repeat' split) <;> omega
    clear hrr
    go_enter Try.func50, Try.ntmps50
    go_wp2_with fail
    go_ret
    exact ⟨1, rfl, rfl, (Below.refl _ _).alloc (Nat.le_refl _) _⟩
theorem low_lt {k : List It} (h : k.Pairwise fun a b => a.seq < b.seq) (seq : Int) {j : Nat} (hj : j < k.length) : k[j].seq < seq ↔ j < lowI seq k := by
  obtain ⟨a, b⟩ := low_parts h seq
  constructor
  · intro h1
    rcases Nat.lt_or_ge j (lowI seq k) with h2 | h2
    · exact h2
    · have h3 := b k[j] (by rw [List.mem_drop_iff_getElem]; exact ⟨j - lowI seq k, by omega, by congr 1; omega⟩)
      omega
  · intro h1
    exact a k[j] (by rw [List.mem_take_iff_getElem]; exact ⟨j, by omega, rfl⟩)
def FdP (seq : Int) (k : List It) (w : World) (e : Ending) (w' : World) : Prop := e = .returned (.tuple #[.int .i64 (lowI seq k : Int), .bool (itAt seq k).isSome]) ∧ Below w.heap.size w w'
def BsRel (seq : Int) (k : List It) (w : World) (iv jv : Value) (wr : World) : Prop :=
  ∃ i j : Nat, iv = .int .i64 i ∧ jv = .int .i64 j ∧ i ≤ lowI seq k ∧ lowI seq k ≤ j ∧ j ≤ k.length ∧ Below w.heap.size w wr
theorem at_low {k : List It} (h : k.Pairwise fun a b => a.seq < b.seq) (seq : Int) : (∀ hl : lowI seq k < k.length, (itAt seq k).isSome = decide (k[lowI seq k].seq = seq)) ∧ (¬ lowI seq k < k.length → (itAt seq k).isSome = false) := by
  have key : ∀ (j : Nat) (hj : j < k.length), k[j].seq = seq → j = lowI seq k := fun j hj e => by
    have h1 := low_lt h seq hj
    rcases Nat.lt_trichotomy j (lowI seq k) with h2 | h2 | h2
    · have := h1.2 h2; omega
    · exact h2
    · have hl : lowI seq k < k.length := by omega
      have h3 := low_lt h seq hl
      have h4 := List.pairwise_iff_getElem.1 h _ _ hl hj h2
      have : ¬ k[lowI seq k].seq < seq := fun e => Nat.lt_irrefl _ (h3.1 e)
      omega
  have hno : (∀ hl : lowI seq k < k.length, k[lowI seq k].seq ≠ seq) → (itAt seq k).isSome = false := fun hn => by
    have : itAt seq k = none := itAt_none.2 fun i hi e => by
      obtain ⟨j, hj, rfl⟩ := List.getElem_of_mem hi
      have h1 := key j hj e
      subst h1
      exact hn hj e
    rw [this]; rfl
  refine ⟨fun hl => ?_, fun hl => hno fun hl' => absurd hl' hl⟩
  by_cases he : k[lowI seq k].seq = seq
  · rw [decide_eq_true he]
    have := itAt_mem h (List.getElem_mem hl)
    rw [he] at this
    rw [this]; rfl
  · rw [decide_eq_false he]; exact hno fun _ => he
set_option maxRecDepth 100000 in
set_option maxHeartbeats 2000000 in
theorem Bsf_any {F : Nat → Prop} (A : Option Addr) (c : Nat) (k : List It) (seq : Int) (w : World) (hs : SlK 3 itN 76 F w A k) (hp : k.Pairwise fun a b => a.seq < b.seq) (hl : k.length ≤ 100)
    (hq : ∀ i ∈ k, -1099511627776 ≤ i.seq - seq ∧ i.seq - seq ≤ 1099511627776) :
    Calls Try.prog 49 #[.slice A k.length c, .int .i64 seq, .func (.func 50) #[] #[]] w (FdP seq k w) := by
  have HP := Lib.hid hp; clear hp
  have HQ := Lib.hid hq; clear hq
  have HS := Lib.hid hs; clear hs
  go_enter Try.func49, Try.ntmps49
  go_wp2_with fail
  go_loopw [9, 10] (fun iv jv wr => BsRel seq k w iv jv wr) (fun iv jv _ => (intOf jv - intOf iv).toNat)
  case atStart => exact ⟨0, k.length, rfl, rfl, Nat.zero_le _, low_le _ _, Nat.le_refl _, Below.refl _ _⟩
  case round =>
    obtain ⟨i, j, rfl, rfl, hi, hj, hjl, hbw⟩ := hrel
    have HBW := Lib.hid hbw; clear hbw
    obtain ⟨wo, rfl⟩ : ∃ wo, wo = wr := ⟨_, rfl⟩
    by_cases hlt : i < j
    · obtain ⟨h, hh⟩ : ∃ h, h = (i + j) / 2 := ⟨_, rfl⟩
      have hhl : h < k.length := by omega
      obtain ⟨b, o, rfl, _, _, hc⟩ := (HS.out.below HBW.out).at hhl
      obtain ⟨x, hx⟩ : ∃ x, x = k[h] := ⟨_, rfl⟩
      have HX := Lib.hid (low_lt HP.out seq hhl)
      obtain ⟨q1, q2⟩ := HQ.out x (by rw [hx]; exact List.getElem_mem hhl)
      rw [← hx] at hc HX
      have c0 : wo.cell? ⟨b, o + h * 3, none⟩ = some (.int .i64 x.seq) := hc 0 (by decide)
      have c1 : wo.cell? ⟨b, o + h * 3 + 1, none⟩ = some (.int .i64 x.code) := hc 1 (by decide)
      have c2 : wo.cell? ⟨b, o + h * 3 + 2, none⟩ = some (.int .i64 x.num) := hc 2 (by decide)
      have HCM := Lib.hid (cmp_any x seq wo q1 q2)
      clear hx hc q1 q2
      have hz1 : ((i : Int) + (j : Int)) / 2 = (h : Int) := by omega
      have hih : i ≤ h := by omega
      have hhj : h < j := by omega
      clear hh
      by_cases hxn : x.seq < seq
      · have HB : Hid (h < lowI seq k) := Lib.hid (HX.out.1 hxn)
        go_wp2_with fail
        (with_reducible refine HCM.out.mono ?_); rintro e w2 ⟨r, rfl, hr, hb2⟩
        rw [if_pos hxn] at hr
        subst hr
        have HB2 : Hid (Below w.heap.size w w2) := Lib.hid (HBW.out.trans (hb2.mono HBW.out.size))
        clear hb2 hxn c0 c1 c2 HCM HX
        go_wp2_with fail
        go_roundw
        case rel => exact ⟨h + 1, j, by go_num, rfl, HB.out, hj, hjl, HB2.out⟩
        case measure => simp [intOf]; omega
      · have HB : Hid (lowI seq k ≤ h) := Lib.hid (by
          rcases Nat.lt_or_ge h (lowI seq k) with h2 | h2
          · exact absurd (HX.out.2 h2) hxn
          · exact h2)
        obtain ⟨r, hr⟩ : ∃ r : Int, r = (if x.seq = seq then 0 else 1) := ⟨_, rfl⟩
        have hr0 : ¬ r < 0 := by rw [hr]; split <;> omega
        have HR := Lib.hid hr; clear hr
        go_wp2_with fail
        (with_reducible refine HCM.out.mono ?_); rintro e w2 ⟨r', rfl, hr', hb2⟩
        rw [if_neg (by omega), ← HR.out] at hr'
        subst hr'
        have HB2 : Hid (Below w.heap.size w w2) := Lib.hid (HBW.out.trans (hb2.mono HBW.out.size))
        clear hb2 hxn c0 c1 c2 HCM HX
        go_wp2_with fail
        go_roundw
        case rel => exact ⟨i, h, rfl, rfl, hi, HB.out, by omega, HB2.out⟩
        case measure => simp [intOf]; omega
    · have hie : i = lowI seq k := by omega
      have HIE := Lib.hid hie; clear hie hi hj
      by_cases hil : i < k.length
      · obtain ⟨b, o, rfl, _, _, hc⟩ := (HS.out.below HBW.out).at hil
        obtain ⟨x, hx⟩ : ∃ x, x = k[i] := ⟨_, rfl⟩
        obtain ⟨q1, q2⟩ := HQ.out x (by rw [hx]; exact List.getElem_mem hil)
        have hf : (itAt seq k).isSome = decide (x.seq = seq) := by
          have hl' : lowI seq k < k.length := by rw [← HIE.out]; exact hil
          rw [(at_low HP.out seq).1 hl', hx]
          congr 2
          exact congrArg It.seq (getElem_congr_idx HIE.out.symm)
        rw [← hx] at hc
        have c0 : wo.cell? ⟨b, o + i * 3, none⟩ = some (.int .i64 x.seq) := hc 0 (by decide)
        have c1 : wo.cell? ⟨b, o + i * 3 + 1, none⟩ = some (.int .i64 x.code) := hc 1 (by decide)
        have c2 : wo.cell? ⟨b, o + i * 3 + 2, none⟩ = some (.int .i64 x.num) := hc 2 (by decide)
        have HCM := Lib.hid (cmp_any x seq wo q1 q2)
        have HF := Lib.hid hf
        have d0 : decide ((i : Int) < (k.length : Int)) = true := decide_eq_true (by omega)
        have HIL := Lib.hid hil
        have HXL : Hid (¬ x.seq < seq) := Lib.hid (by
          have h1 := low_lt HP.out seq hil
          rw [← hx] at h1
          intro h2
          have := h1.1 h2
          have := HIE.out
          omega)
        clear hx hc q1 q2 hf
        go_wp2_with fail
        (with_reducible refine HCM.out.mono ?_); rintro e w2 ⟨r', rfl, hr', hb2⟩
        rw [if_neg (by have := HXL.out; omega)] at hr'
        have HB2 : Hid (Below w.heap.size w w2) := Lib.hid (HBW.out.trans (hb2.mono HBW.out.size))
        clear hb2 c0 c1 c2 HCM
        by_cases he : x.seq = seq
        · rw [if_pos he] at hr'
          subst hr'
          rw [decide_eq_true he] at HF
          clear he
          go_wp2_with fail
          go_ret2
          exact ⟨by rw [← HIE.out, HF.out]; rfl, HB2.out⟩
        · rw [if_neg he] at hr'
          subst hr'
          rw [decide_eq_false he] at HF
          clear he
          go_wp2_with fail
          go_ret2
          exact ⟨by rw [← HIE.out, HF.out]; rfl, HB2.out⟩
      · have HF : Hid ((itAt seq k).isSome = false) := Lib.hid ((at_low HP.out seq).2 (by rw [← HIE.out]; exact hil))
        go_wp2_with fail
        go_ret2
        exact ⟨by rw [← HIE.out, HF.out]; rfl, HBW.out⟩
theorem find_any {F : Nat → Prop} {A : Option Addr} {c : Nat} {k : List It} {seq high : Int} {w : World} {sb : Nat} (hb : Blk w sb 71 #[.int .i64 high, .slice A k.length c]) (hs : SlK 3 itN 76 F w A k) (hp : k.Pairwise fun a b => a.seq < b.seq) (hl : k.length ≤ 100)
    (hq : ∀ i ∈ k, -1099511627776 ≤ i.seq - seq ∧ i.seq - seq ≤ 1099511627776) :
    Calls Try.prog 27 #[.pointer (some ⟨sb, 0, none⟩), .int .i64 seq] w (FdP seq k w) := by
  have HB := Lib.hid (Bsf_any A c k seq w hs hp hl hq)
  have c1 : w.cell? ⟨sb, 1, none⟩ = some (.slice A k.length c) := hb.cell 1
  clear hs hp hl hq hb
  go_enter Try.func27, Try.ntmps27
  go_wp2_with fail
  (with_reducible refine HB.out.mono ?_); rintro e w2 ⟨rfl, hb2⟩
  have HB2 := Lib.hid hb2; clear hb2
  go_wp2_with fail
  go_ret2
  exact ⟨rfl, HB2.out⟩
end Go.Proofs.Ytakebmbdcjbbgaa
