/- Layer 3: the reader. -/
import Derived.Recover
import Derived.Defers
import Derived.Deep.DeepCutAuto
import Derived.Laws.BitsAllLaws
import Derived.Laws.BitsLemmas
import Derived.WalkKit
import Derived.BigQuiet
import Derived.Deep.RegionHeld3
import Derived.Test.YtifgajinfcihmaaGreatDoorJAb
import Derived.Test.YtifgajinfcihmaaGreatDoorJAd
import Derived.Test.YtifgajinfcihmaaGreatDoorJAe
import Derived.Test.YtifgajinfcihmaaGreatDoorJAc
import Derived.Test.YtifgajinfcihmaaGreatDoorJAf
import Derived.Test.YtifgajinfcihmaaGreatDoorJAw
namespace Go.Proofs.YtifgajinfcihmaaGreatDoor
open Go.RowKit Go.Maps Mem
def wrongV (k : Int) : Value := .iface 258 (.agg #[.int .i64 k])
theorem Mem.SlB.dropM {α : Type} {f : α → Value} {e : TypeId} {F : Nat → Prop} {w : World} {A : Option Addr} {xs : List α} (h : SlB f e F w A xs) (n : Nat) : SlB f e F w (A.map fun x => x.add n) (xs.drop n) := by
 by_cases hn : n < xs.length
 ·obtain ⟨b, o, rfl, _, _⟩ := h.sl.at hn
  have h1 := h.piece (k := n) (m := xs.length - n) (by omega) rfl
  rw [List.take_of_length_le (by simp)] at h1
  have e2 : (⟨b, o, none⟩ : Addr).add n = ⟨b, o + n, none⟩ := by
   unfold Addr.add; split
   ·rename_i h0; subst h0; rfl
   ·rfl
  show SlB f e F w (some ((⟨b, o, none⟩ : Addr).add n)) _
  rw [e2]; exact h1
 ·rw [List.drop_of_length_le (by omega)]; exact SlB.nil
theorem Mem.SlB.takeM {α : Type} {f : α → Value} {e : TypeId} {F : Nat → Prop} {w : World} {A : Option Addr} {xs : List α} (h : SlB f e F w A xs) (n : Nat) : SlB f e F w A (xs.take n) := by
 by_cases hx : 0 < xs.length
 ·obtain ⟨b, o, rfl, _, _⟩ := h.sl.at hx
  by_cases hn : n ≤ xs.length
  ·have h1 := h.piece (k := 0) (m := n) (by omega) rfl
   rw [List.drop_zero, Nat.add_zero] at h1; exact h1
  ·rw [List.take_of_length_le (by omega)]; exact h
 ·have : xs = [] := List.eq_nil_of_length_eq_zero (by omega)
  subst this; rw [List.take_nil]; exact SlB.nil
def SlF (F : Nat → Prop) (w : World) (A : Option Addr) (xs : List UInt8) : Prop := ∃ e, SlB fB e F w A xs
section
variable {F G : Nat → Prop} {w w' : World} {A : Option Addr} {xs : List UInt8}
theorem SlF.nil : SlF F w A [] := ⟨0, SlB.nil⟩
theorem SlF.sl (h : SlF F w A xs) : Sl fB w A xs := by obtain ⟨e, h⟩ := h; exact h.sl
theorem SlF.mono (h : SlF F w A xs) (hF : ∀ g, g < w.heap.size → F g → G g) : SlF G w A xs := by obtain ⟨e, h⟩ := h; exact ⟨e, h.mono hF⟩
theorem SlF.frm (h : SlF F w A xs) (hf : Frm G w w') (hd : ∀ g, F g → ¬ G g) : SlF F w' A xs := by obtain ⟨e, h⟩ := h; exact ⟨e, h.frm hf hd⟩
theorem SlF.below (h : SlF F w A xs) (hb : Below w.heap.size w w') : SlF F w' A xs := by obtain ⟨e, h⟩ := h; exact ⟨e, h.below hb⟩
theorem SlF.dropM (h : SlF F w A xs) (n : Nat) : SlF F w (A.map fun x => x.add n) (xs.drop n) := by obtain ⟨e, h⟩ := h; exact ⟨e, Mem.SlB.dropM h n⟩
theorem SlF.takeM (h : SlF F w A xs) (n : Nat) : SlF F w A (xs.take n) := by obtain ⟨e, h⟩ := h; exact ⟨e, Mem.SlB.takeM h n⟩
theorem SlF.of_sl (h : Sl fB w A xs) : SlF (fun g => g < w.heap.size) w A xs := by
 by_cases hx : 0 < xs.length
 ·obtain ⟨b, o, rfl, hb, hc⟩ := h.at hx
  have h0 := hc 0 hx
  have hheap : ∃ cur e fr, w.heap[b]? = some (.cells cur e fr) := by
   unfold World.cell? at h0
   split at h0
   ·rename_i c e fr hh; exact ⟨c, e, fr, hh⟩
   ·cases h0
  obtain ⟨cur, e, fr, hh⟩ := hheap
  refine ⟨e, h.1, fun _ => ⟨b, o, cur, fr, rfl, hb, hh, fun j hj => ?_⟩⟩
  have h2 := hc j hj
  unfold World.cell? at h2
  rw [hh] at h2
  simpa using h2
 ·obtain rfl : xs = [] := List.eq_nil_of_length_eq_zero (by omega)
  exact SlF.nil
end
def Rd (F : Nat → Prop) (w : World) (r : Nat) (bs : List UInt8) : Prop :=
 ∃ A c, ¬ F r ∧ Blk w r 256 #[.slice A bs.length c] ∧ SlF F w A bs ∧ bs.length ≤ c ∧ c ≤ maxLen
def RdOk (F : Nat → Prop) (r : Nat) (rest : List UInt8) (v : Value) (w : World) (e : Ending) (w' : World) : Prop := e = .returned v ∧ Rd F w' r rest ∧ Frm (fun g => g = r) w w'
def RdNo (r : Nat) (k : Int) (w : World) (e : Ending) (w' : World) : Prop := e = .panicked [{ v := wrongV k, recovered := false }] ∧ Frm (fun g => g = r) w w'
theorem rdFail_any (w : World) (p : Value) (k : Int) (hk : k ≠ 0) : Calls Tryz.prog 200 #[p, .int .i64 k] w fun e w' => e = .panicked [{ v := wrongV k, recovered := false }] ∧ w = w' := by
 have hk1 : (k == 0) = false := by simpa using hk
 clear hk
 go_enter Tryz.func200, Tryz.ntmps200
 go_wp2_with fail
 exact ⟨rfl, rfl, rfl⟩
theorem take_no {F : Nat → Prop} {w : World} {r : Nat} {bs : List UInt8} (h : Rd F w r bs) (n : Int) (hn : (bs.length : Int) < n) :
 Calls Tryz.prog 199 #[.pointer (some ⟨r, 0, none⟩), .int .i64 n] w (RdNo r 30 w) := by
 obtain ⟨A, c, -, hb, hs, hc, hm⟩ := h
 have c0 : w.cell? ⟨r, 0, none⟩ = some (.slice A bs.length c) := hb.cell 0
 clear hb hs
 go_enter Tryz.func199, Tryz.ntmps199
 go_wp2_with fail
 (with_reducible refine (rdFail_any w _ 30 (by decide)).mono ?_); rintro e w' ⟨rfl, rfl⟩
 go_wp2_with fail
 exact ⟨rfl, rfl, Frm.refl _ _⟩
def TakeOk (F : Nat → Prop) (r : Nat) (bs : List UInt8) (n : Nat) (w : World) (e : Ending) (w' : World) : Prop :=
 ∃ A c, e = .returned (.slice A n c) ∧ SlF F w' A (bs.take n) ∧ Rd F w' r (bs.drop n) ∧ Frm (fun g => g = r) w w'
theorem take_ok {F : Nat → Prop} {w : World} {r : Nat} {bs : List UInt8} (h : Rd F w r bs) (n : Nat) (hn : n ≤ bs.length) (ni : Int) (hni : (n : Int) = ni) :
 Calls Tryz.prog 199 #[.pointer (some ⟨r, 0, none⟩), .int .i64 ni] w (TakeOk F r bs n w) := by
 subst hni
 obtain ⟨A, c, hr, hb, hs, hc, hm⟩ := h
 have c0 : w.cell? ⟨r, 0, none⟩ = some (.slice A bs.length c) := hb.cell 0
 have q0 := hb.free 0
 have hl := hs.sl.len
 have hfin : ∀ A', (A' = A.map (fun x => x.add n) ∨ c = n) → TakeOk F r bs n w (.returned (.slice A n c)) (w.setCell ⟨r, 0, none⟩ (.slice A' (bs.length - n) (c - n))) := by
  intro A' hA'
  have hset : Frm (fun g => g = r) w (w.setCell ⟨r, 0, none⟩ (.slice A' (bs.length - n) (c - n))) := (Frm.refl (fun g => g = r) w).setCell (p := ⟨r, 0, none⟩) (fun _ => rfl) _
  have hd : ∀ g, F g → ¬ g = r := fun g hg e => hr (e ▸ hg)
  refine ⟨A, c, rfl, (hs.takeM n).frm hset hd, ⟨A', c - n, hr, by rw [List.length_drop]; exact hb.set_ 0 _, ?_, by rw [List.length_drop]; omega, by omega⟩, (Frm.refl (fun g => g = r) w).setCell (p := ⟨r, 0, none⟩) (fun _ => rfl) _⟩
  refine SlF.frm ?_ hset hd
  rcases hA' with rfl | h
  ·exact hs.dropM n
  ·rw [List.drop_of_length_le (by omega)]; exact SlF.nil
 unfold maxLen at hm
 by_cases hcn : c = n
 ·have h1 := hfin A (.inr hcn)
  rw [show bs.length - n = 0 by omega, show c - n = 0 by omega] at h1
  have HF := Lib.hid h1; clear h1 hfin hb hs
  subst hcn
  go_enter Tryz.func199, Tryz.ntmps199
  go_wp2_with fail
  go_ret
  exact HF.out
 ·have HF := Lib.hid (hfin _ (.inl rfl)); clear hfin hb hs
  go_enter Tryz.func199, Tryz.ntmps199
  go_wp2_with fail
  go_ret
  exact HF.out
end Go.Proofs.YtifgajinfcihmaaGreatDoor
namespace Go.Proofs.YtifgajinfcihmaaGreatDoor
open Go.RowKit Go.Maps Mem Pk
def NumPost (F : Nat → Prop) (r : Nat) (bs : List UInt8) (w : World) (e : Ending) (w' : World) : Prop :=
 (∀ n k, getNum bs = some (n, k) → RdOk F r (bs.drop k) (.int .i64 n) w e w') ∧ (getNum bs = none → RdNo r 30 w e w')
def NumRel (F : Nat → Prop) (r : Nat) (bs : List UInt8) (w : World) (uv sv : Value) (wr : World) : Prop :=
 ∃ i u : Nat, i ≤ 9 ∧ i ≤ bs.length ∧ uv = .int .u64 u ∧ sv = .int .i64 (7 * (i : Int)) ∧ u < 128 ^ i ∧ getNum bs = gnGo i u (bs.drop i) ∧ Rd F wr r (bs.drop i) ∧ Frm (fun g => g = r) w wr
theorem NumPost.no {F : Nat → Prop} {r : Nat} {bs : List UInt8} {w w' : World} (h : getNum bs = none) (hf : Frm (fun g => g = r) w w') : NumPost F r bs w (.panicked [{ v := wrongV 30, recovered := false }]) w' :=
 ⟨(fun n k hs => by rw [h] at hs; cases hs), fun _ => ⟨rfl, hf⟩⟩
theorem NumPost.yes {F : Nat → Prop} {r : Nat} {bs : List UInt8} {n : Int} {k : Nat} {w w' : World} {e : Ending} (h : getNum bs = some (n, k)) (he : e = .returned (.int .i64 n)) (hr : Rd F w' r (bs.drop k)) (hf : Frm (fun g => g = r) w w') : NumPost F r bs w e w' :=
 ⟨(fun n' k' hs => by rw [h] at hs; injection hs with hs; injection hs with h1 h2; subst h1; subst h2; exact ⟨he, hr, hf⟩), (fun hn => by rw [h] at hn; cases hn)⟩
theorem num_pow {u n i : Nat} (h : u < 128 ^ i) : u + n % 128 * 128 ^ i < 128 ^ (i + 1) := by
 have e1 : n % 128 * 128 ^ i ≤ 127 * 128 ^ i := Nat.mul_le_mul_right _ (by omega)
 rw [pow_step]; omega
theorem num_fits {u n i : Nat} (h : u < 128 ^ i) (hi : i ≤ 9) (hb : ¬ ((i = 9 ∧ 1 < n) ∨ (0 < i ∧ n = 0))) : u + n % 128 * 128 ^ i < 18446744073709551616 := by
 rcases Nat.lt_or_ge i 9 with h9 | h9
 ·have h1 := num_pow (n := n) h
  have e2 : 128 ^ (i + 1) ≤ 128 ^ 9 := Nat.pow_le_pow_right (by omega) (by omega)
  have e3 : (128 : Nat) ^ 9 = 9223372036854775808 := by decide
  omega
 ·have : i = 9 := by omega
  subst this
  have e3 : (128 : Nat) ^ 9 = 9223372036854775808 := by decide
  rw [e3] at h ⊢
  have : n ≤ 1 := by omega
  omega
set_option maxRecDepth 100000 in
set_option maxHeartbeats 4000000 in
theorem Num_any {F : Nat → Prop} {w : World} {r : Nat} {bs : List UInt8} (h : Rd F w r bs) :
 Calls Tryz.prog 188 #[.pointer (some ⟨r, 0, none⟩)] w (NumPost F r bs w) := by
 have H := Lib.hid h; clear h
 go_enter Tryz.func188, Tryz.ntmps188
 go_wp2_with fail
 go_loopw [3, 4] (fun uv sv wr => NumRel F r bs w uv sv wr) (fun _ sv _ => 70 - (intOf sv).toNat)
 case atStart => exact ⟨0, 0, Nat.zero_le _, Nat.zero_le _, rfl, rfl, by decide, rfl, H.out, Frm.refl _ _⟩
 case round =>
  obtain ⟨i, u, hi, hil, rfl, rfl, hu, hgn, hrd, hfr⟩ := hrel
  have HU := Lib.hid hu; clear hu
  have HGN := Lib.hid hgn; clear hgn
  have HRD := Lib.hid hrd; clear hrd
  have HFR := Lib.hid hfr; clear hfr
  by_cases hlt : i < bs.length
  ·obtain ⟨b, hb⟩ : ∃ b, b = bs[i] := ⟨_, rfl⟩
   have hdr : bs.drop i = b :: bs.drop (i + 1) := by rw [hb]; exact List.drop_eq_getElem_cons hlt
   have htk := take_ok HRD.out 1 (by rw [hdr]; simp) 1 rfl
   rw [hdr] at htk
   rw [hdr] at HGN HRD
   have HTK := Lib.hid htk; clear htk hdr hb
   go_wp2_with fail
   (with_reducible refine HTK.out.mono ?_); rintro e w2 ⟨A2, c2, rfl, hs2, hrd2, hf2⟩
   obtain ⟨b2, o2, rfl, _, hcA⟩ := hs2.sl.at (k := 0) (by simp)
   have hcB := hcA 0 (by simp)
   obtain ⟨n, hn⟩ : ∃ n, n = b.toNat := ⟨_, rfl⟩
   have hc2 : w2.cell? ⟨b2, o2, none⟩ = some (.int .u8 (n : Int)) := by rw [hn]; exact hcB
   have hn256 : n < 256 := by rw [hn]; exact b.toNat_lt
   have HN := Lib.hid hn; clear hn
   have HRD2 : Hid (Rd F w2 r (bs.drop (i + 1))) := hrd2
   have HF2 : Hid (Frm (fun g => g = r) w w2) := HFR.out.trans hf2
   clear hcA hcB hs2 hrd2 hf2 HRD HFR HTK
   by_cases h9 : i = 9
   ·have t2 : (7 * (i : Int) == 63) = true := by rw [beq_iff_eq]; omega
    have t3 : (0 : Int) < 7 * (i : Int) := by omega
    by_cases h1 : 1 < n
    ·go_wp2_with fail
     (with_reducible refine (rdFail_any _ _ 30 (by decide)).mono ?_); rintro e w3 ⟨rfl, rfl⟩
     go_wp2_with fail
     exact ⟨rfl, NumPost.no (by rw [HGN.out]; exact gnGo_bad (.inl ⟨h9, by rw [← HN.out]; exact h1⟩)) HF2.out⟩
    ·by_cases hz : n = 0
     ·have hz1 : ((n : Int) == 0) = true := by rw [beq_iff_eq]; omega
      go_wp2_with fail
      (with_reducible refine (rdFail_any _ _ 30 (by decide)).mono ?_); rintro e w3 ⟨rfl, rfl⟩
      go_wp2_with fail
      exact ⟨rfl, NumPost.no (by rw [HGN.out]; exact gnGo_bad (.inr ⟨by omega, by rw [← HN.out]; exact hz⟩)) HF2.out⟩
     ·have hz2 : ((n : Int) == 0) = false := by rw [beq_eq_false_iff_ne]; omega
      have hnb : ¬ ((i = 9 ∧ 1 < b.toNat) ∨ (0 < i ∧ b.toNat = 0)) := by rw [← HN.out]; omega
      have hv : u + n % 128 * 128 ^ i < 18446744073709551616 := num_fits HU.out hi (by rw [HN.out]; exact hnb)
      have hor := num_or HU.out hn256 hv
      rw [show (2 : Int) ^ (7 * i) = 9223372036854775808 by rw [h9]; decide] at hor
      have HOR := Lib.hid hor; clear hor
      have HNB := Lib.hid hnb; clear hnb
      have HV := Lib.hid hv; clear hv
      have h128 : n < 128 := by omega
      go_wp2_with fail
      go_ret
      refine NumPost.yes (HGN.out.trans (gnGo_end HNB.out (by rw [← HN.out]; exact h128))) ?_ HRD2.out HF2.out
      rw [← HN.out]
      exact ret_i64 (by rw [HOR.out]; exact unzig_bits _ HV.out)
   ·have t2 : (7 * (i : Int) == 63) = false := by rw [beq_eq_false_iff_ne]; omega
    by_cases h0 : i = 0
    ·have t3 : 7 * (i : Int) ≤ 0 := by omega
     have hnb : ¬ ((i = 9 ∧ 1 < b.toNat) ∨ (0 < i ∧ b.toNat = 0)) := by rw [← HN.out]; omega
     have hv : u + n % 128 * 128 ^ i < 18446744073709551616 := num_fits HU.out hi (by rw [HN.out]; exact hnb)
     have hor := num_or HU.out hn256 hv
     rw [show (2 : Int) ^ (7 * i) = 1 by rw [h0]; decide, Int.mul_one] at hor
     have HOR := Lib.hid hor; clear hor
     have HNB := Lib.hid hnb; clear hnb
     have HV := Lib.hid hv; clear hv
     by_cases h128 : n < 128
     ·go_wp2_with fail
      go_ret
      refine NumPost.yes (HGN.out.trans (gnGo_end HNB.out (by rw [← HN.out]; exact h128))) ?_ HRD2.out HF2.out
      rw [← HN.out]
      exact ret_i64 (by rw [HOR.out]; exact unzig_bits _ HV.out)
     ·go_wp2_with fail
      go_roundw
      case rel => exact ⟨i + 1, u + n % 128 * 128 ^ i, by have := HNB.out; omega, hlt, by rw [HOR.out], by go_num, num_pow HU.out, by rw [HGN.out, gnGo_on HNB.out (by rw [← HN.out]; exact h128), HN.out], HRD2.out, HF2.out⟩
      case measure => simp [intOf]; omega
    ·have t3 : (0 : Int) < 7 * (i : Int) := by omega
     by_cases hz : n = 0
     ·have hz1 : ((n : Int) == 0) = true := by rw [beq_iff_eq]; omega
      go_wp2_with fail
      (with_reducible refine (rdFail_any _ _ 30 (by decide)).mono ?_); rintro e w3 ⟨rfl, rfl⟩
      go_wp2_with fail
      exact ⟨rfl, NumPost.no (by rw [HGN.out]; exact gnGo_bad (.inr ⟨by omega, by rw [← HN.out]; exact hz⟩)) HF2.out⟩
     ·have hz2 : ((n : Int) == 0) = false := by rw [beq_eq_false_iff_ne]; omega
      have hnb : ¬ ((i = 9 ∧ 1 < b.toNat) ∨ (0 < i ∧ b.toNat = 0)) := by rw [← HN.out]; omega
      have hv : u + n % 128 * 128 ^ i < 18446744073709551616 := num_fits HU.out hi (by rw [HN.out]; exact hnb)
      have HOR := Lib.hid (num_or HU.out hn256 hv)
      have HNB := Lib.hid hnb; clear hnb
      have HV := Lib.hid hv; clear hv
      by_cases h128 : n < 128
      ·go_wp2_with fail
       go_ret
       refine NumPost.yes (HGN.out.trans (gnGo_end HNB.out (by rw [← HN.out]; exact h128))) ?_ HRD2.out HF2.out
       rw [← HN.out]
       exact ret_i64 (by rw [HOR.out]; exact unzig_bits _ HV.out)
      ·go_wp2_with fail
       go_roundw
       case rel => exact ⟨i + 1, u + n % 128 * 128 ^ i, by have := HNB.out; omega, hlt, by rw [HOR.out], by go_num, num_pow HU.out, by rw [HGN.out, gnGo_on HNB.out (by rw [← HN.out]; exact h128), HN.out], HRD2.out, HF2.out⟩
       case measure => simp [intOf]; omega
  ·have hdr : bs.drop i = [] := List.drop_of_length_le (by omega)
   have htk := take_no HRD.out 1 (by rw [hdr]; simp)
   have HTK := Lib.hid htk; clear htk
   have HDR := Lib.hid hdr; clear hdr
   go_wp2_with fail
   (with_reducible refine HTK.out.mono ?_); rintro e w2 ⟨rfl, hf2⟩
   go_wp2_with fail
   exact ⟨rfl, NumPost.no (by rw [HGN.out, HDR.out]; exact gnGo_nil _ _) (HFR.out.trans hf2)⟩
end Go.Proofs.YtifgajinfcihmaaGreatDoor
namespace Go.Proofs.YtifgajinfcihmaaGreatDoor
open Go.RowKit Go.Maps Mem Pk
theorem Num_yes {F : Nat → Prop} {w : World} {r : Nat} {bs : List UInt8} (h : Rd F w r bs) {n : Int} {k : Nat} (hg : getNum bs = some (n, k)) :
 Calls Tryz.prog 188 #[.pointer (some ⟨r, 0, none⟩)] w (RdOk F r (bs.drop k) (.int .i64 n) w) := (Num_any h).mono fun _ _ hp => hp.1 n k hg
theorem Num_none {F : Nat → Prop} {w : World} {r : Nat} {bs : List UInt8} (h : Rd F w r bs) (hg : getNum bs = none) :
 Calls Tryz.prog 188 #[.pointer (some ⟨r, 0, none⟩)] w (RdNo r 30 w) := (Num_any h).mono fun _ _ hp => hp.2 hg
def getCount (most : Int) (bs : List UInt8) : Option (Int × Nat) := (getNum bs).filter fun x => decide (0 ≤ x.1 ∧ x.1 ≤ most)
theorem getCount_some {most : Int} {bs : List UInt8} {n : Int} {k : Nat} (h : getCount most bs = some (n, k)) : getNum bs = some (n, k) ∧ 0 ≤ n ∧ n ≤ most := by
 unfold getCount at h
 rw [Option.filter_eq_some_iff] at h
 exact ⟨h.1, by simpa using h.2⟩
theorem getCount_none {most : Int} {bs : List UInt8} (h : getCount most bs = none) : getNum bs = none ∨ ∃ n k, getNum bs = some (n, k) ∧ (n < 0 ∨ most < n) := by
 unfold getCount at h
 cases hg : getNum bs with
 | none => exact .inl rfl
 | some x =>
   obtain ⟨n, k⟩ := x
   rw [hg] at h
   refine .inr ⟨n, k, rfl, ?_⟩
   rw [Option.filter_eq_none_iff] at h
   have h2 := h (n, k) rfl
   simp at h2
   omega
theorem Count_yes {F : Nat → Prop} {w : World} {r : Nat} {bs : List UInt8} (h : Rd F w r bs) {most n : Int} {k : Nat} (hg : getCount most bs = some (n, k)) :
 Calls Tryz.prog 202 #[.pointer (some ⟨r, 0, none⟩), .int .i64 most] w (RdOk F r (bs.drop k) (.int .i64 n) w) := by
 obtain ⟨h1, h2, h3⟩ := getCount_some hg
 have HN := Lib.hid (Num_yes h h1)
 clear hg h1 h
 go_enter Tryz.func202, Tryz.ntmps202
 go_wp2_with fail
 (with_reducible refine HN.out.mono ?_); rintro e w2 ⟨rfl, hr2, hf2⟩
 have HR2 := Lib.hid hr2; clear hr2
 have HF2 := Lib.hid hf2; clear hf2
 go_wp2_with fail
 go_ret
 exact ⟨rfl, HR2.out, HF2.out⟩
theorem Count_none {F : Nat → Prop} {w : World} {r : Nat} {bs : List UInt8} (h : Rd F w r bs) {most : Int} (hg : getCount most bs = none) :
 Calls Tryz.prog 202 #[.pointer (some ⟨r, 0, none⟩), .int .i64 most] w (RdNo r 30 w) := by
 rcases getCount_none hg with h1 | ⟨n, k, h1, h2⟩
 ·have HN := Lib.hid (Num_none h h1)
  clear hg h1 h
  go_enter Tryz.func202, Tryz.ntmps202
  go_wp2_with fail
  (with_reducible refine HN.out.mono ?_); rintro e w2 ⟨rfl, hf2⟩
  go_wp2_with fail
  exact ⟨rfl, rfl, hf2⟩
 ·have HN := Lib.hid (Num_yes h h1)
  clear hg h1 h
  by_cases h3 : n < 0
  ·go_enter Tryz.func202, Tryz.ntmps202
   go_wp2_with fail
   (with_reducible refine HN.out.mono ?_); rintro e w2 ⟨rfl, hr2, hf2⟩
   have HF2 := Lib.hid hf2; clear hf2 hr2
   go_wp2_with fail
   (with_reducible refine (rdFail_any _ _ 30 (by decide)).mono ?_); rintro e w3 ⟨rfl, rfl⟩
   go_wp2_with fail
   exact ⟨rfl, rfl, HF2.out⟩
  ·have h4 : most < n := by omega
   clear h2
   go_enter Tryz.func202, Tryz.ntmps202
   go_wp2_with fail
   (with_reducible refine HN.out.mono ?_); rintro e w2 ⟨rfl, hr2, hf2⟩
   have HF2 := Lib.hid hf2; clear hf2 hr2
   go_wp2_with fail
   (with_reducible refine (rdFail_any _ _ 30 (by decide)).mono ?_); rintro e w3 ⟨rfl, rfl⟩
   go_wp2_with fail
   exact ⟨rfl, rfl, HF2.out⟩
end Go.Proofs.YtifgajinfcihmaaGreatDoor
namespace Go.Proofs.YtifgajinfcihmaaGreatDoor.Mem
open Go Go.RowKit Go.Maps Go.Lib
theorem flatMap_get {α β : Type} {f : α → List β} {k : Nat} (hf : ∀ x, (f x).length = k) (xs : List α) {j i : Nat} (hj : j < xs.length) (hi : i < k) : (xs.flatMap f)[j * k + i]? = (f xs[j])[i]? := by
 induction xs generalizing j with
 | nil => simp at hj
 | cons x r ih =>
   rw [List.flatMap_cons]
   cases j with
   | zero => rw [List.getElem?_append_left (by rw [hf]; omega)]; simp
   | succ j =>
     rw [List.getElem?_append_right (by rw [hf, Nat.succ_mul]; omega), hf, show (j + 1) * k + i - k = j * k + i by rw [Nat.succ_mul]; omega]
     rw [ih (by simpa using hj)]
     simp
theorem flatMap_len {α β : Type} {f : α → List β} {k : Nat} (hf : ∀ x, (f x).length = k) (xs : List α) : (xs.flatMap f).length = xs.length * k := by
 induction xs with
 | nil => simp
 | cons x r ih => rw [List.flatMap_cons, List.length_append, ih, hf, List.length_cons, Nat.succ_mul]; omega
def SlK {α : Type} (k : Nat) (f : α → List Value) (e : TypeId) (F : Nat → Prop) (w : World) (A : Option Addr) (xs : List α) : Prop :=
 xs.length ≤ maxLen ∧ (0 < xs.length → ∃ b o cur fr, A = some ⟨b, o, none⟩ ∧ F b ∧ w.heap[b]? = some (.cells cur e fr) ∧ ∀ j (h : j < xs.length) i, i < k → cur[o + j * k + i]? = (f xs[j])[i]?)
section
variable {α : Type} {k : Nat} {f : α → List Value} {e : TypeId} {F G : Nat → Prop} {w w' : World} {A : Option Addr} {xs : List α}
theorem SlK.nil : SlK k f e F w A ([] : List α) := ⟨by unfold maxLen; simp, fun h => absurd h (by simp)⟩
theorem lt_of_block {w : World} {g : Nat} {o : Obj} (h : w.heap[g]? = some o) : g < w.heap.size := by
 rcases Nat.lt_or_ge g w.heap.size with hl | hl
 ·exact hl
 ·rw [Array.getElem?_eq_none hl] at h; cases h
theorem SlK.at (h : SlK k f e F w A xs) {j : Nat} (hj : j < xs.length) : ∃ b o, A = some ⟨b, o, none⟩ ∧ F b ∧ b < w.heap.size ∧ ∀ i, i < k → w.cell? ⟨b, o + j * k + i, none⟩ = (f xs[j])[i]? := by
 obtain ⟨b, o, cur, fr, e1, hF, hb, hc⟩ := h.2 (by omega)
 exact ⟨b, o, e1, hF, lt_of_block hb, fun i hi => by rw [← hc j hj i hi]; simp [World.cell?, hb]⟩
theorem SlK.keep (h : SlK k f e F w A xs) (hk : ∀ g cur fr, F g → w.heap[g]? = some (.cells cur e fr) → w'.heap[g]? = w.heap[g]?) : SlK k f e F w' A xs := ⟨h.1, fun hn => by
 obtain ⟨b, o, cur, fr, e1, hf, hb, hc⟩ := h.2 hn
 exact ⟨b, o, cur, fr, e1, hf, (hk b cur fr hf hb).trans hb, hc⟩⟩
theorem SlK.frm (h : SlK k f e F w A xs) (hf : Frm G w w') (hd : ∀ g, F g → ¬ G g) : SlK k f e F w' A xs := h.keep fun g _ _ hF hg => hf.block g (lt_of_block hg) (hd g hF)
theorem SlK.below (h : SlK k f e F w A xs) (hb : Below w.heap.size w w') : SlK k f e F w' A xs := h.frm (G := fun _ => False) (Frm.below hb) (fun _ _ h => h)
end
def SliceTK (P : Program) (t e : TypeId) (z : Value) (k bytes : Nat) : Prop :=
 P.underlying t = some (.slice e) ∧ z.cells.size = k ∧ 0 < k ∧ ∃ i, P.info? e = some i ∧ i.zero = some z ∧ i.size = k ∧ i.bytes = bytes
theorem sliceTK_mk {P : Program} {t e : TypeId} {z : Value} {k bytes : Nat} (ht : P.underlying t = some (.slice e)) (hz : z.cells.size = k) (hk : 0 < k)
 (h : (P.info? e).map (fun i => (i.zero, i.size, i.bytes)) = some (some z, k, bytes)) : SliceTK P t e z k bytes := ⟨ht, hz, hk, info_parts h⟩
def OwnK {α : Type} (k : Nat) (f : α → List Value) (base : Nat) (e : TypeId) (w : World) (v : Value) (xs : List α) : Prop := w.ownsRow base e k v xs.length (xs.flatMap f)
section
variable {α : Type} {k : Nat} {f : α → List Value} {e : TypeId} {w w' : World} {v : Value} {xs : List α} {base : Nat}
theorem OwnK.nil : OwnK k f base e w (.slice none 0 0) ([] : List α) := World.ownsRow_nil w base e k
theorem OwnK.drewN (h : OwnK k f base e w v xs) (n : Nat) : OwnK k f base e (w.drewN n) v xs := h
theorem OwnK.alloc (h : OwnK k f base e w v xs) (o : Obj) : OwnK k f base e (w.alloc o) v xs := World.ownsRow.alloc h o
theorem OwnK.lt (h : OwnK k f base e w v xs) : ∀ g, v.ownBlock = some g → base ≤ g ∧ g < w.heap.size := World.ownsRow.lt h
theorem OwnK.form (h : OwnK k f base e w v xs) : ∃ A c, v = .slice A xs.length c := by
 rcases h.2 with ⟨h1, h2⟩ | ⟨g, cap, cur, hv, _⟩
 ·exact ⟨none, 0, by rw [h1, h2]⟩
 ·exact ⟨_, _, hv⟩
theorem OwnK.slK (hf : ∀ x, (f x).length = k) {A : Option Addr} {n c : Nat} (h : OwnK k f base e w (.slice A n c) xs) : n = xs.length ∧ SlK k f e (fun g => base ≤ g) w A xs := by
 rcases h.2 with ⟨h1, h2⟩ | ⟨g, cap, cur, hv, hb, hh, hnc, hcap, hsz, htake⟩
 ·injection h1 with a b c
  refine ⟨by omega, ?_⟩
  have : xs = [] := List.eq_nil_of_length_eq_zero h2
  subst this; exact SlK.nil
 ·injection hv with a b c
  subst a; subst b; subst c
  refine ⟨rfl, Nat.le_trans hnc hcap, fun hn => ⟨g, 0, cur, (0, 0), rfl, hb, hh, fun j hj i hi => ?_⟩⟩
  have h1 := flatMap_get hf xs hj hi
  rw [← htake, List.getElem?_take] at h1
  rw [if_pos] at h1
  ·rw [Nat.zero_add]; simpa using h1
  ·have : (j + 1) * k ≤ xs.length * k := Nat.mul_le_mul_right k hj
   rw [Nat.succ_mul] at this; omega
theorem OwnK.base_ {base' : Nat} (h : OwnK k f base e w v xs) (hb : base' ≤ base) : OwnK k f base' e w v xs := by
 obtain ⟨h1, h2⟩ := h
 refine ⟨h1, ?_⟩
 rcases h2 with h2 | ⟨g, cap, cur, a, b, c⟩
 ·exact .inl h2
 ·exact .inr ⟨g, cap, cur, a, Nat.le_trans hb b, c⟩
end
end Go.Proofs.YtifgajinfcihmaaGreatDoor.Mem
namespace Go.Proofs.YtifgajinfcihmaaGreatDoor
open Go.RowKit Go.Maps Mem Pk
def i64ok (n : Int) : Prop := -9223372036854775808 ≤ n ∧ n ≤ 9223372036854775807
def PutPost (out : List UInt8) (w : World) (e : Ending) (w' : World) : Prop :=
 ∃ A c, e = .returned (.tuple #[.slice A out.length c, .int .i64 0]) ∧ Mem.Own fB w.heap.size 5 w' (.slice A out.length c) out ∧ Below w.heap.size w w'
end Go.Proofs.YtifgajinfcihmaaGreatDoor
namespace Go.Proofs.YtifgajinfcihmaaGreatDoor
open Go.RowKit Go.Maps Mem Pk
theorem catch_idle (p : Addr) (w : World) :
 CallsD Tryz.prog 187 #[.pointer (some p)] .returning w fun e u' w' => e = .returned (.tuple #[]) ∧ u' = .returning ∧ w' = w := by
 refine callsD_of_wpS Tryz.func187 rfl fun c₀ cs hu => ?_
 apply wpS_seq
 apply wpS_region
 simp [wpOpsS, go_sem, recoverD, hu, Tryz.ntmps187, Exit.thenS]
 refine wpS_of_wp ?_
 rw [show (#[Value.pointer (some p)] ++ (Array.replicate 11 undef).setIfInBounds 3 Value.nilIface) = #[.pointer (some p), undef, undef, undef, Value.nilIface, undef, undef, undef, undef, undef, undef, undef] from rfl]
 go_wp2_with fail
 cases c₀
 simp_all [bodyPostS, results, Tryz.results187]
set_option maxRecDepth 100000 in
theorem catch_panicking (b : Nat) (k x : Int) (older : List PanicEntry) (w : World) (hc : w.cell? ⟨b, 0, none⟩ = some (.int .i64 x)) (hz : w.frozen? ⟨b, 0, none⟩ = false) (hl : b < w.heap.size) :
 CallsD Tryz.prog 187 #[.pointer (some ⟨b, 0, none⟩)] (.panicking ({ v := wrongV k, recovered := false } :: older)) w fun e u' w' =>
  e = .returned (.tuple #[]) ∧ u' = .panicking ({ v := wrongV k, recovered := true } :: older) ∧ w' = (w.setCell ⟨b, 0, none⟩ (.int .i64 k)).alloc (.cells #[.int .i64 k] 258) := by
 have hta : ∀ (v : Value) (w : World), (Instr.typeAssert (.iface 258 v) 20 258 true).run Tryz.prog w = .ok (.tuple #[v, .bool true]) w := fun _ _ => by kernel_rfl
 refine callsD_of_wpS Tryz.func187 rfl fun c₀ cs hu => ?_
 apply wpS_seq
 apply wpS_region
 simp [wpOpsS, go_sem, recoverD, hu, Tryz.ntmps187, Exit.thenS]
 refine wpS_of_wp ?_
 rw [show (#[Value.pointer (some ⟨b, 0, none⟩)] ++ (Array.replicate 11 undef).setIfInBounds 3 (wrongV k)) = #[.pointer (some ⟨b, 0, none⟩), undef, undef, undef, wrongV k, undef, undef, undef, undef, undef, undef, undef] from rfl]
 unfold wrongV
 have HU := Lib.hid hu; clear hu
 go_wp2_with fail
 simp [bodyPostS, results, Tryz.results187]
def rdW (w : World) (A : Option Addr) (n c : Nat) : World := (w.alloc (.cells #[.int .i64 0] 30)).alloc (.cells #[.slice A n c] 256)
theorem rdW_below (w : World) (A : Option Addr) (n c : Nat) : Below w.heap.size w (rdW w A n c) := ((Below.refl _ _).alloc (Nat.le_refl _) _).alloc (by simp) _
theorem rdW_size (w : World) (A : Option Addr) (n c : Nat) : (rdW w A n c).heap.size = w.heap.size + 2 := by unfold rdW; simp
theorem rdW_code (w : World) (A : Option Addr) (n c : Nat) : Blk (rdW w A n c) w.heap.size 30 #[.int .i64 0] := (Blk.new_ w _ _).alloc _
theorem rdW_rd {F : Nat → Prop} {w : World} {A : Option Addr} {c : Nat} {bs : List UInt8} (h : SlF F w A bs) (hn : ¬ F (w.heap.size + 1)) (hc : bs.length ≤ c) (hm : c ≤ maxLen) : Rd F (rdW w A bs.length c) (w.heap.size + 1) bs := by
 refine ⟨A, c, hn, ?_, h.below (rdW_below ..), hc, hm⟩
 have := Blk.new_ (w.alloc (.cells #[.int .i64 0] 30)) 256 #[.slice A bs.length c]
 rw [World.size_alloc] at this; exact this
def ReadPost3 (R : World → Prop) (code : Int) (w : World) (e : Ending) (w' : World) : Prop :=
 e = .returned (.int .i64 code) ∧ ∃ W, R W ∧ Frm (fun g => g = w.heap.size) W w' ∧ w.heap.size < W.heap.size
theorem Read_yes {F : Nat → Prop} {w : World} {A : Option Addr} {c : Nat} {bs rest : List UInt8} (_hs : SlF F w A bs) (_hc : bs.length ≤ c) (_hm : c ≤ maxLen) (g : Nat) (cb : Array Value) (R : World → Prop)
 (eg : ∀ args w, (callFunc g args).run Tryz.prog w = .ok (.enter g args) w)
 (hf : Calls Tryz.prog g (#[.pointer (some ⟨w.heap.size + 1, 0, none⟩)] ++ cb) (rdW w A bs.length c) fun e W => e = .returned (.tuple #[]) ∧ Rd F W (w.heap.size + 1) rest ∧ Blk W w.heap.size 30 #[.int .i64 0] ∧ R W)
 (code : Int) (hcd : code = if rest = [] then 0 else 30) :
 Calls Tryz.prog 165 #[.slice A bs.length c, .func (.func g) #[] cb] w (ReadPost3 R code w) := by
 have hmf : ∀ (fn : Fn) (first cap : Array Value) (w : World), (Instr.makeFunc fn first cap).run Tryz.prog w = .ok (.func fn first cap) w := fun _ _ _ _ => rfl
 have HF := Lib.hid hf; clear hf
 have HCD := Lib.hid hcd; clear hcd
 have hW : (w.alloc (.cells #[.int .i64 0] 30)).alloc (.cells #[.slice A bs.length c] 256) = rdW w A bs.length c := rfl
 have HW := Lib.hid hW; clear hW
 go_enter_defers Tryz.func165, Tryz.ntmps165
 go_upto_region 3 with fail
 rw [HW.out]
 go_wp2_with fail
 (with_reducible refine HF.out.mono ?_); rintro e W ⟨rfl, ⟨A2, c2, -, hrb, hrs, hrc, hrm⟩, hcode, hR⟩
 have d0 : W.cell? ⟨w.heap.size + 1, 0, none⟩ = some (.slice A2 rest.length c2) := hrb.cell 0
 have e0 : W.cell? ⟨w.heap.size, 0, none⟩ = some (.int .i64 0) := hcode.cell 0
 have q0 := hcode.free 0
 have hrl := hrs.sl.len
 have HR := Lib.hid hR; clear hR
 have HC := Lib.hid hcode; clear hcode
 clear hrb hrs hrc hrm HF HW
 by_cases hr : rest = []
 ·have h0 : code = 0 := by rw [HCD.out, if_pos hr]
  have H0 := Lib.hid h0; clear h0
  have hrz : rest.length = 0 := by rw [hr]; rfl
  clear hr HCD
  rw [hrz] at d0
  go_wp2_with fail
  refine leaves_cons (f := 187) (args := #[.pointer (some ⟨w.heap.size, 0, none⟩)]) (by simp) (by simp [go_sem]) ?_
  refine (catch_idle ⟨w.heap.size, 0, none⟩ _).mono ?_
  rintro e u' w'' ⟨rfl, rfl, rfl⟩
  simp [Leaves, settle, results, Tryz.results165, go_sem, e0]
  exact ⟨by rw [H0.out], W, HR.out, (Frm.refl (fun g => g = w.heap.size) W).setCell (p := ⟨w.heap.size, 0, none⟩) (fun _ => rfl) _, HC.out.lt⟩
 ·have h0 : code = 30 := by rw [HCD.out, if_neg hr]
  have H0 := Lib.hid h0; clear h0
  have hrz : 0 < rest.length := List.length_pos_iff.2 hr
  clear hr HCD
  go_wp2_with fail
  refine leaves_cons (f := 187) (args := #[.pointer (some ⟨w.heap.size, 0, none⟩)]) (by simp) (by simp [go_sem]) ?_
  refine (catch_idle ⟨w.heap.size, 0, none⟩ _).mono ?_
  rintro e u' w'' ⟨rfl, rfl, rfl⟩
  simp [Leaves, settle, results, Tryz.results165, go_sem, e0]
  exact ⟨by rw [H0.out], W, HR.out, (Frm.refl (fun g => g = w.heap.size) W).setCell (p := ⟨w.heap.size, 0, none⟩) (fun _ => rfl) _, HC.out.lt⟩
theorem Read_no {_F : Nat → Prop} {w : World} {A : Option Addr} {c : Nat} {bs : List UInt8} (_hc : bs.length ≤ c) (_hm : c ≤ maxLen) (g : Nat) (cb : Array Value) (R : World → Prop)
 (eg : ∀ args w, (callFunc g args).run Tryz.prog w = .ok (.enter g args) w) (k : Int)
 (hf : Calls Tryz.prog g (#[.pointer (some ⟨w.heap.size + 1, 0, none⟩)] ++ cb) (rdW w A bs.length c) fun e W => e = .panicked [{ v := wrongV k, recovered := false }] ∧ Blk W w.heap.size 30 #[.int .i64 0] ∧ R W) :
 Calls Tryz.prog 165 #[.slice A bs.length c, .func (.func g) #[] cb] w (ReadPost3 R k w) := by
 have hmf : ∀ (fn : Fn) (first cap : Array Value) (w : World), (Instr.makeFunc fn first cap).run Tryz.prog w = .ok (.func fn first cap) w := fun _ _ _ _ => rfl
 have HF := Lib.hid hf; clear hf
 have hW : (w.alloc (.cells #[.int .i64 0] 30)).alloc (.cells #[.slice A bs.length c] 256) = rdW w A bs.length c := rfl
 have HW := Lib.hid hW; clear hW
 go_enter_defers Tryz.func165, Tryz.ntmps165
 go_upto_region 3 with fail
 rw [HW.out]
 go_wp2_with fail
 (with_reducible refine HF.out.mono ?_); rintro e W ⟨rfl, hcode, hR⟩
 have e0 : W.cell? ⟨w.heap.size, 0, none⟩ = some (.int .i64 0) := hcode.cell 0
 have q0 := hcode.free 0
 have hlt := hcode.lt
 have HR := Lib.hid hR; clear hR
 have r0 : ((W.setCell ⟨w.heap.size, 0, none⟩ (.int .i64 k)).alloc (.cells #[.int .i64 k] 258)).cell? ⟨w.heap.size, 0, none⟩ = some (.int .i64 k) := ((hcode.set_ 0 (.int .i64 k)).alloc (.cells #[.int .i64 k] 258)).cell 0
 have R0 := Lib.hid r0; clear r0
 clear hcode HF HW
 go_wp2_with fail
 refine leaves_cons (f := 187) (args := #[.pointer (some ⟨w.heap.size, 0, none⟩)]) (by simp) (by simp [go_sem]) ?_
 refine (catch_panicking w.heap.size k 0 [] _ e0 q0 hlt).mono ?_
 rintro e u' w'' ⟨rfl, rfl, rfl⟩
 have r0 := R0.out
 simp [Leaves, settle, results, Tryz.results165, go_sem, r0]
 exact ⟨rfl, W, HR.out, ((Frm.refl (fun g => g = w.heap.size) W).setCell (p := ⟨w.heap.size, 0, none⟩) (fun _ => rfl) _).alloc _, hlt⟩
end Go.Proofs.YtifgajinfcihmaaGreatDoor
namespace Go.Proofs.YtifgajinfcihmaaGreatDoor.Pk
open Go
def crcS (s : Nat) : Nat := if s % 2 = 1 then s / 2 ^^^ 2197175160 else s / 2
def crcN : Nat → Nat → Nat
 | 0, s => s
 | k + 1, s => crcS (crcN k s)
def crcB (s c : Nat) : Nat := crcN 8 (s ^^^ c)
theorem crcS_lt {s : Nat} (h : s < 4294967296) : crcS s < 4294967296 := by
 unfold crcS
 split
 ·exact Nat.xor_lt_two_pow (n := 32) (by omega) (by decide)
 ·omega
def sumS : List UInt8 → Nat → Nat
 | [], s => s
 | b :: bs, s => sumS bs (crcB s b.toNat)
theorem sumS_append : ∀ (xs ys : List UInt8) (s : Nat), sumS (xs ++ ys) s = sumS ys (sumS xs s)
 | [], _ys, _s => rfl
 | _x :: xs, _ys, _s => sumS_append xs _ys _
def sumN (bs : List UInt8) : Nat := 4294967295 - sumS bs 4294967295
theorem sumN_lt (bs : List UInt8) : sumN bs < 4294967296 := by unfold sumN; omega
def wordB (u : Nat) : List UInt8 := [UInt8.ofNat (u % 256), UInt8.ofNat (u / 256 % 256), UInt8.ofNat (u / 65536 % 256), UInt8.ofNat (u / 16777216 % 256)]
theorem wordB_len (u : Nat) : (wordB u).length = 4 := rfl
def unwordN (bs : List UInt8) : Nat := (bs.getD 0 0).toNat + (bs.getD 1 0).toNat * 256 + (bs.getD 2 0).toNat * 65536 + (bs.getD 3 0).toNat * 16777216
theorem byte_of {n : Nat} (h : n < 256) : (UInt8.ofNat n).toNat = n := by rw [UInt8.toNat_ofNat']; omega
theorem unword_word {u : Nat} (h : u < 4294967296) (r : List UInt8) : unwordN (wordB u ++ r) = u := by
 unfold unwordN wordB
 simp only [List.cons_append, List.getD_cons_zero, List.getD_cons_succ]
 rw [byte_of (by omega), byte_of (by omega), byte_of (by omega), byte_of (by omega)]
 omega
theorem unwordN_lt (bs : List UInt8) : unwordN bs < 4294967296 := by
 unfold unwordN
 have h0 := (bs.getD 0 0).toNat_lt
 have h1 := (bs.getD 1 0).toNat_lt
 have h2 := (bs.getD 2 0).toNat_lt
 have h3 := (bs.getD 3 0).toNat_lt
 omega
theorem word_unword {a b c d : UInt8} (r : List UInt8) : wordB (unwordN (a :: b :: c :: d :: r)) = [a, b, c, d] := by
 have h0 := a.toNat_lt
 have h1 := b.toNat_lt
 have h2 := c.toNat_lt
 have h3 := d.toNat_lt
 unfold wordB unwordN
 simp only [List.getD_cons_zero, List.getD_cons_succ]
 have e0 : (a.toNat + b.toNat * 256 + c.toNat * 65536 + d.toNat * 16777216) % 256 = a.toNat := by omega
 have e1 : (a.toNat + b.toNat * 256 + c.toNat * 65536 + d.toNat * 16777216) / 256 % 256 = b.toNat := by omega
 have e2 : (a.toNat + b.toNat * 256 + c.toNat * 65536 + d.toNat * 16777216) / 65536 % 256 = c.toNat := by omega
 have e3 : (a.toNat + b.toNat * 256 + c.toNat * 65536 + d.toNat * 16777216) / 16777216 % 256 = d.toNat := by omega
 rw [e0, e1, e2, e3, UInt8.ofNat_toNat, UInt8.ofNat_toNat, UInt8.ofNat_toNat, UInt8.ofNat_toNat]
def frameB (p : List UInt8) : List UInt8 := wordB p.length ++ wordB (sumN p) ++ p
def unframe (bs : List UInt8) : List UInt8 × Nat × Int :=
 if bs.length < 8 then ([], 0, 31)
 else if 4096 < unwordN bs then ([], 0, 2)
 else if bs.length < 8 + unwordN bs then ([], 0, 31)
 else if sumN ((bs.drop 8).take (unwordN bs)) = unwordN (bs.drop 4) then ((bs.drop 8).take (unwordN bs), 8 + unwordN bs, 0)
 else ([], 0, 32)
theorem frameB_len (p : List UInt8) : (frameB p).length = 8 + p.length := by unfold frameB; rw [List.length_append, List.length_append, wordB_len, wordB_len]
theorem unframe_frame {p : List UInt8} (hp : p.length ≤ 4096) (r : List UInt8) : unframe (frameB p ++ r) = (p, 8 + p.length, 0) := by
 have e1 : unwordN (frameB p ++ r) = p.length := by unfold frameB; rw [List.append_assoc, List.append_assoc]; exact unword_word (by omega) _
 have e2 : (frameB p ++ r).drop 4 = wordB (sumN p) ++ (p ++ r) := by
  unfold frameB
  rw [List.append_assoc, List.append_assoc, List.drop_left' (wordB_len _)]
 have e3 : (frameB p ++ r).drop 8 = p ++ r := by
  rw [show (8 : Nat) = 4 + 4 from rfl, ← List.drop_drop, e2, List.drop_left' (wordB_len _)]
 unfold unframe
 rw [e1, e2, e3, unword_word (sumN_lt p), List.take_left, if_neg (by rw [List.length_append, frameB_len]; omega), if_neg (by omega), if_neg (by rw [List.length_append, frameB_len]; omega), if_pos rfl]
theorem unframe_ok {bs p : List UInt8} {n : Nat} (h : unframe bs = (p, n, 0)) : bs.take n = frameB p ∧ n = 8 + p.length ∧ n ≤ bs.length ∧ p.length ≤ 4096 ∧ p = (bs.drop 8).take p.length := by
 unfold unframe at h
 by_cases h1 : bs.length < 8
 ·rw [if_pos h1] at h; cases h
 ·rw [if_neg h1] at h
  by_cases h2 : 4096 < unwordN bs
  ·rw [if_pos h2] at h; cases h
  ·rw [if_neg h2] at h
   by_cases h3 : bs.length < 8 + unwordN bs
   ·rw [if_pos h3] at h; cases h
   ·rw [if_neg h3] at h
    by_cases h4 : sumN ((bs.drop 8).take (unwordN bs)) = unwordN (bs.drop 4)
    ·rw [if_pos h4] at h
     injection h with hp h; injection h with hn _
     have hpl : p.length = unwordN bs := by rw [← hp, List.length_take, List.length_drop]; omega
     refine ⟨?_, by omega, by omega, by omega, by rw [hpl]; exact hp.symm⟩
     have hw : ∀ xs : List UInt8, 4 ≤ xs.length → wordB (unwordN xs) = xs.take 4 := by
      intro xs hx
      match xs, hx with
      | a :: b :: c :: d :: r, _ => rw [word_unword]; rfl
     unfold frameB
     rw [hpl, ← hp, h4, hw bs (by omega), hw (bs.drop 4) (by rw [List.length_drop]; omega), ← hn]
     have e1 : bs.take (8 + unwordN bs) = bs.take 8 ++ (bs.drop 8).take (unwordN bs) := List.take_add
     have e2 : bs.take 8 = bs.take 4 ++ (bs.drop 4).take 4 := List.take_add (i := 4) (j := 4)
     rw [e1, e2]
    ·rw [if_neg h4] at h; cases h
end Go.Proofs.YtifgajinfcihmaaGreatDoor.Pk
namespace Go.Proofs.YtifgajinfcihmaaGreatDoor
open Go Go.RowKit Go.Maps Go.Lib Mem Pk
def sum0 : Nat := 4294967295
def SmRel (bs : List UInt8) (w : World) (sv iv : Value) (wr : World) : Prop := ∃ k s : Nat, k ≤ bs.length ∧ s = sumS (bs.take k) sum0 ∧ s < 2 ^ 32 ∧ sv = .int .u32 (s : Int) ∧ iv = .int .i64 (k : Int) ∧ w = wr
def SmIn (x : Nat) (w : World) (sv iv : Value) (wr : World) : Prop := ∃ j s : Nat, j ≤ 8 ∧ s = crcN j x ∧ s < 2 ^ 32 ∧ sv = .int .u32 (s : Int) ∧ iv = .int .i64 (j : Int) ∧ w = wr
theorem sumS_snoc {bs : List UInt8} {k : Nat} (h : k < bs.length) (s : Nat) : sumS (bs.take (k + 1)) s = crcB (sumS (bs.take k) s) bs[k].toNat := by
 rw [List.take_succ_eq_append_getElem h, sumS_append]; rfl
structure CrcLine (s : Nat) (b m q h z : Nat) : Prop where
 r1 : bits BinOp.and IntKind.u32 (s : Int) 1 = (b : Int)
 r2 : IntKind.u32.wrap (-(b : Int)) = (m : Int)
 r3 : bits BinOp.and IntKind.u32 2197175160 (m : Int) = (q : Int)
 r4 : (s : Int) / 2 = (h : Int)
 r5 : bits BinOp.xor IntKind.u32 (h : Int) (q : Int) = (z : Int)
theorem crc_line {s : Nat} (hs : s < 2 ^ 32) : ∃ b m q h, CrcLine s b m q h (crcS s) := by
 have hs' : s < 4294967296 := hs
 have h1 : bits BinOp.and IntKind.u32 (s : Int) 1 = ((s % 2 : Nat) : Int) := by
  have h := u32_and_nat s 1 hs' (by decide)
  rw [nat_mask1] at h; exact h
 have h4 : (s : Int) / 2 = ((s / 2 : Nat) : Int) := by omega
 unfold crcS
 by_cases hb : s % 2 = 1
 ·rw [if_pos hb]
  refine ⟨1, 4294967295, 2197175160, s / 2, by rw [h1, hb], by rw [IntKind.wrap_u32]; rfl, ?_, h4, u32_xor_nat _ _ (by omega) (by decide)⟩
  have h := u32_and_nat 2197175160 4294967295 (by decide) (by decide)
  rw [show 2197175160 &&& 4294967295 = 2197175160 by decide] at h; exact h
 ·rw [if_neg hb]
  refine ⟨0, 0, 0, s / 2, by rw [h1, show s % 2 = 0 by omega], by rw [IntKind.wrap_u32]; rfl, ?_, h4, ?_⟩
  ·have h := u32_and_nat 2197175160 0 (by decide) (by decide)
   rw [Nat.and_zero] at h; exact h
  ·have h := u32_xor_nat (s / 2) 0 (by omega) (by decide)
   rw [Nat.xor_zero] at h; exact h
theorem u32_not {s : Nat} (h : s < 2 ^ 32) : bits BinOp.xor IntKind.u32 IntKind.u32.max (s : Int) = ((4294967295 - s : Nat) : Int) := by
 have h' : s < 4294967296 := h
 show IntKind.u32.wrap ((BitVec.ofInt 32 4294967295 ^^^ BitVec.ofInt 32 (s : Int)).toNat : Int) = _
 have h0 : BitVec.ofInt 32 4294967295 = BitVec.allOnes 32 := by decide
 rw [h0, BitVec.xor_comm, BitVec.xor_allOnes, BitVec.toNat_not, ofInt_u32 s h', IntKind.wrap_u32]; omega
def NumIs (v : Value) (w : World) (e : Ending) (w' : World) : Prop := e = .returned v ∧ w = w'
set_option maxRecDepth 100000 in
set_option maxHeartbeats 4000000 in
theorem Sum_any {w : World} {A : Option Addr} {c : Nat} {bs : List UInt8} (h : Sl fB w A bs) :
 Calls Tryz.prog 135 #[.slice A bs.length c] w (NumIs (.int .u32 (sumN bs)) w) := by
 have hl := h.len
 have H := Lib.hid h; clear h
 go_enter Tryz.func135, Tryz.ntmps135
 go_wp2_with fail
 go_loopw [3, 8] (fun sv iv wr => SmRel bs w sv iv wr) (fun _ iv _ => bs.length - (intOf iv).toNat)
 case atStart => exact ⟨0, sum0, Nat.zero_le _, rfl, by decide, rfl, rfl, rfl⟩
 case round =>
  obtain ⟨k, s, hk, hs, hs32, rfl, rfl, rfl⟩ := hrel
  have HS := Lib.hid hs; clear hs
  have HS32 := Lib.hid hs32; clear hs32
  by_cases hlt : k < bs.length
  ·obtain ⟨b0, o0, rfl, _, hcl⟩ := H.out.at hlt
   have c1 := hcl k hlt
   obtain ⟨n, hn⟩ : ∃ n, n = bs[k].toNat := ⟨_, rfl⟩
   have c2 : w.cell? ⟨b0, o0 + k, none⟩ = some (.int .u8 (n : Int)) := by rw [hn]; exact c1
   have hn256 : n < 256 := by rw [hn]; exact (bs[k]).toNat_lt
   have HN := Lib.hid hn; clear hn
   have tk0 : (0 : Int) ≤ (k : Int) := by omega
   have tk1 : (k : Int) < (bs.length : Int) := by omega
   have e1 : IntKind.u32.wrap (n : Int) = (n : Int) := by rw [IntKind.wrap_u32]; omega
   obtain ⟨x, hx⟩ : ∃ x, x = s ^^^ n := ⟨_, rfl⟩
   have e2 : bits BinOp.xor IntKind.u32 (s : Int) (n : Int) = (x : Int) := by rw [hx]; exact u32_xor_nat _ _ HS32.out (by omega)
   have HX32 : Hid (x < 2 ^ 32) := Lib.hid (by rw [hx]; exact Nat.xor_lt_two_pow HS32.out (by omega))
   have HX := Lib.hid hx; clear hx hcl c1
   go_wp2_with fail
   clear e1 e2 c2
   go_loopw [3, 16] (fun sv iv wx => SmIn x w sv iv wx) (fun _ iv _ => 8 - (intOf iv).toNat)
   case atStart => exact ⟨0, x, by omega, rfl, HX32.out, rfl, rfl, rfl⟩
   case round =>
    obtain ⟨j, y, hj, hy, hy32, rfl, rfl, rfl⟩ := hrel
    have HY := Lib.hid hy; clear hy
    have HY32 := Lib.hid hy32; clear hy32
    by_cases hj8 : j < 8
    ·have tj : (j : Int) < 8 := by omega
     obtain ⟨b, m, q, h, hc⟩ := crc_line HY32.out
     obtain ⟨z, hz⟩ : ∃ z, z = crcS y := ⟨_, rfl⟩
     rw [← hz] at hc
     obtain ⟨r1, r2, r3, r4, r5⟩ := hc
     have HZ : Hid (z = crcN (j + 1) x) := Lib.hid (by rw [hz, HY.out]; rfl)
     have HZ32 : Hid (z < 2 ^ 32) := Lib.hid (by rw [hz]; exact crcS_lt HY32.out)
     clear hz
     go_wp2_with fail
     go_roundw
     case rel => exact ⟨j + 1, z, by omega, HZ.out, HZ32.out, rfl, by go_num, rfl⟩
     case measure => simp [intOf]; omega
    ·have hj9 : j = 8 := by omega
     subst hj9
     have hs' : y = sumS (bs.take (k + 1)) sum0 := by rw [HY.out, HX.out, sumS_snoc hlt, ← HS.out, ← HN.out]; rfl
     have HS' := Lib.hid hs'; clear hs'
     go_wp2_with fail
     go_roundw
     case rel => exact ⟨k + 1, y, by omega, HS'.out, HY32.out, rfl, by go_num, rfl⟩
     case measure => simp [intOf]; omega
  ·have hke : k = bs.length := by omega
   subst hke
   have tk1 : ¬ (bs.length : Int) < (bs.length : Int) := by omega
   rw [List.take_length] at HS
   have hnot := u32_not HS32.out
   go_wp2_with fail
   go_ret
   exact ⟨by unfold sumN; rw [HS.out]; rfl, rfl⟩
end Go.Proofs.YtifgajinfcihmaaGreatDoor
namespace Go.Proofs.YtifgajinfcihmaaGreatDoor
open Go Go.RowKit Go.Maps Go.Lib Mem
theorem Mem.SlB.cutL {α : Type} {f : α → Value} {e : TypeId} {F : Nat → Prop} {w : World} {A : Option Addr} {xs : List α} (h : SlB f e F w A xs) {c : Nat} (k : Nat) (hk : k ≤ xs.length) (hc : xs.length ≤ c) : SlB f e F w (partA A c k) (xs.drop k) := by
 unfold partA
 by_cases h0 : c = k
 ·rw [if_pos h0, List.drop_of_length_le (by omega)]; exact SlB.nil
 ·rw [if_neg h0]; exact h.dropM k
theorem sizeU8 (w : World) : (sizeOf 5).run Tryz.prog w = .ok 1 w := by kernel_rfl
theorem cutB (A : Option Addr) (len cap l : Nat) (h1 : l ≤ len) (w : World) : (Instr.slice 28 (.slice A len cap) (some (.int .i64 (l : Int))) none none).run Tryz.prog w = .ok (.slice (partA A cap l) (len - l) (cap - l)) w :=
 cut_l Tryz.underlying28 sizeU8 A len cap l l rfl h1 w
end Go.Proofs.YtifgajinfcihmaaGreatDoor
namespace Go.Proofs.YtifgajinfcihmaaGreatDoor
open Go Go.RowKit Go.Maps Go.Lib Mem Pk
theorem Mem.Own.lit {α : Type} {f : α → Value} {base : Nat} {e : TypeId} {w : World} (xs : List α) (hm : xs.length ≤ maxLen) (hb : base ≤ w.heap.size) :
 Mem.Own f base e (w.alloc (.cells (xs.map f).toArray e)) (.slice (some ⟨w.heap.size, 0, none⟩) xs.length xs.length) xs := by
 refine ⟨by simp, .inr ⟨w.heap.size, xs.length, (xs.map f).toArray, rfl, hb, heap_alloc_new w _, Nat.le_refl _, hm, by simp, ?_⟩⟩
 rw [Nat.mul_one]
 exact List.take_of_length_le (by simp)
theorem word_row (u : Nat) : (wordB u).map fB = [.int .u8 ((u % 256 : Nat) : Int), .int .u8 ((u / 256 % 256 : Nat) : Int), .int .u8 ((u / 65536 % 256 : Nat) : Int), .int .u8 ((u / 16777216 % 256 : Nat) : Int)] := by
 have h : ∀ n : Nat, n < 256 → fB (UInt8.ofNat n) = .int .u8 (n : Int) := fun n hn => by unfold fB; rw [byte_of hn]
 unfold wordB
 simp only [List.map_cons, List.map_nil]
 rw [h _ (by omega), h _ (by omega), h _ (by omega), h _ (by omega)]
theorem word_own {w : World} (u : Nat) : Mem.Own fB w.heap.size 5 (w.alloc (.cells #[.int .u8 ((u % 256 : Nat) : Int), .int .u8 ((u / 256 % 256 : Nat) : Int), .int .u8 ((u / 65536 % 256 : Nat) : Int), .int .u8 ((u / 16777216 % 256 : Nat) : Int)] 5)) (.slice (some ⟨w.heap.size, 0, none⟩) 4 4) (wordB u) := by
 have h := Mem.Own.lit (f := fB) (base := w.heap.size) (e := 5) (w := w) (wordB u) (by rw [wordB_len]; decide) (Nat.le_refl _)
 rw [word_row, wordB_len] at h
 exact h
set_option maxRecDepth 100000 in
theorem word_any {w : World} (u : Nat) (hu : u < 2 ^ 32) : Calls Tryz.prog 134 #[.int .u32 (u : Int)] w (AppPost w.heap.size (wordB u) w) := by
 have hu' : u < 4294967296 := hu
 have HO := word_own (w := w) u
 obtain ⟨x0, h0⟩ : ∃ x, x = u % 256 := ⟨_, rfl⟩
 obtain ⟨x1, h1⟩ : ∃ x, x = u / 256 % 256 := ⟨_, rfl⟩
 obtain ⟨x2, h2⟩ : ∃ x, x = u / 65536 % 256 := ⟨_, rfl⟩
 obtain ⟨x3, h3⟩ : ∃ x, x = u / 16777216 % 256 := ⟨_, rfl⟩
 have a0 : (u : Int) % 256 = (x0 : Int) := by omega
 have a1 : (u : Int) / 256 % 256 = (x1 : Int) := by omega
 have a2 : (u : Int) / 65536 % 256 = (x2 : Int) := by omega
 have a3 : (u : Int) / 16777216 % 256 = (x3 : Int) := by omega
 have b0 : (x0 : Int) % 256 = (x0 : Int) := by omega
 have b1 : (x1 : Int) % 256 = (x1 : Int) := by omega
 have b2 : (x2 : Int) % 256 = (x2 : Int) := by omega
 have b3 : (x3 : Int) % 256 = (x3 : Int) := by omega
 rw [← h0, ← h1, ← h2, ← h3] at HO
 have HO := Lib.hid HO
 clear h0 h1 h2 h3 hu'
 clear hu
 go_enter Tryz.func134, Tryz.ntmps134
 go_wp2_with fail
 go_ret
 exact ⟨_, rfl, HO.out, (Below.refl _ _).alloc (Nat.le_refl _) _⟩
end Go.Proofs.YtifgajinfcihmaaGreatDoor
namespace Go.Proofs.YtifgajinfcihmaaGreatDoor
open Go Go.RowKit Go.Maps Go.Lib Mem Pk
theorem or_join {a b k : Nat} (h : a < 2 ^ k) (ha : a < 2 ^ 32) (hb : b * 2 ^ k < 2 ^ 32) : bits BinOp.or IntKind.u32 (a : Int) ((b * 2 ^ k : Nat) : Int) = ((a + b * 2 ^ k : Nat) : Int) := by
 rw [u32_or_nat _ _ ha hb]
 have h1 := Nat.shiftLeft_add_eq_or_of_lt (b := a) (i := k) h b
 rw [Nat.shiftLeft_eq] at h1
 rw [Nat.or_comm, ← h1, Nat.add_comm]
theorem word_cells {w : World} {A : Option Addr} {bs : List UInt8} (h : Sl fB w A bs) (h4 : 4 ≤ bs.length) : ∃ b o, ∃ n0 n1 n2 n3 : Nat, A = some ⟨b, o, none⟩ ∧ n0 < 256 ∧ n1 < 256 ∧ n2 < 256 ∧ n3 < 256 ∧ unwordN bs = n0 + n1 * 256 + n2 * 65536 + n3 * 16777216 ∧
 w.cell? ⟨b, o, none⟩ = some (.int .u8 (n0 : Int)) ∧ w.cell? ⟨b, o + 1, none⟩ = some (.int .u8 (n1 : Int)) ∧ w.cell? ⟨b, o + 2, none⟩ = some (.int .u8 (n2 : Int)) ∧ w.cell? ⟨b, o + 3, none⟩ = some (.int .u8 (n3 : Int)) := by
 obtain ⟨b, o, rfl, _, hc⟩ := h.at (k := 0) (by omega)
 have e : ∀ (j : Nat) (hj : j < bs.length), bs.getD j 0 = bs[j] := fun j hj => by rw [List.getD_eq_getElem?_getD, List.getElem?_eq_getElem hj, Option.getD_some]
 refine ⟨b, o, bs[0].toNat, bs[1].toNat, bs[2].toNat, bs[3].toNat, rfl, (bs[0]).toNat_lt, (bs[1]).toNat_lt, (bs[2]).toNat_lt, (bs[3]).toNat_lt, ?_, hc 0 (by omega), hc 1 (by omega), hc 2 (by omega), hc 3 (by omega)⟩
 unfold unwordN
 rw [e 0 (by omega), e 1 (by omega), e 2 (by omega), e 3 (by omega)]
set_option maxRecDepth 100000 in
theorem unword_any {w : World} {A : Option Addr} {c : Nat} {bs : List UInt8} (h : Sl fB w A bs) (h4 : 4 ≤ bs.length) :
 Calls Tryz.prog 161 #[.slice A bs.length c] w (Quiet (.int .u32 (unwordN bs : Int)) w) := by
 have hl := h.len
 obtain ⟨b, o, n0, n1, n2, n3, rfl, l0, l1, l2, l3, hu, c0, c1, c2, c3⟩ := word_cells h h4
 obtain ⟨u, hu2⟩ : ∃ u, u = unwordN bs := ⟨_, rfl⟩
 rw [← hu2]
 have i0 : (0 : Int) < (bs.length : Int) := by omega
 have i1 : (1 : Int) < (bs.length : Int) := by omega
 have i2 : (2 : Int) < (bs.length : Int) := by omega
 have i3 : (3 : Int) < (bs.length : Int) := by omega
 have v0 : (n0 : Int) % 4294967296 = (n0 : Int) := by omega
 have v1 : (n1 : Int) % 4294967296 = (n1 : Int) := by omega
 have v2 : (n2 : Int) % 4294967296 = (n2 : Int) := by omega
 have v3 : (n3 : Int) % 4294967296 = (n3 : Int) := by omega
 obtain ⟨p1, hp1⟩ : ∃ p, p = n1 * 2 ^ 8 := ⟨_, rfl⟩
 obtain ⟨p2, hp2⟩ : ∃ p, p = n2 * 2 ^ 16 := ⟨_, rfl⟩
 obtain ⟨p3, hp3⟩ : ∃ p, p = n3 * 2 ^ 24 := ⟨_, rfl⟩
 have t1 : (n1 : Int) * 256 % 4294967296 = (p1 : Int) := by omega
 have t2 : (n2 : Int) * 65536 % 4294967296 = (p2 : Int) := by omega
 have t3 : (n3 : Int) * 16777216 % 4294967296 = (p3 : Int) := by omega
 obtain ⟨m1, hm1⟩ : ∃ m, m = n0 + p1 := ⟨_, rfl⟩
 obtain ⟨m2, hm2⟩ : ∃ m, m = m1 + p2 := ⟨_, rfl⟩
 have r1 : bits BinOp.or IntKind.u32 (n0 : Int) (p1 : Int) = (m1 : Int) := by rw [hm1, hp1]; exact or_join (by omega) (by omega) (by omega)
 have r2 : bits BinOp.or IntKind.u32 (m1 : Int) (p2 : Int) = (m2 : Int) := by rw [hm2, hp2]; exact or_join (by omega) (by omega) (by omega)
 have r3 : bits BinOp.or IntKind.u32 (m2 : Int) (p3 : Int) = (u : Int) := by
  have e : u = m2 + n3 * 2 ^ 24 := by omega
  rw [e, hp3]; exact or_join (by omega) (by omega) (by omega)
 have z1 : (1 : Nat) < bs.length := by omega
 clear h h4 hu hu2 hp1 hp2 hp3 hm1 hm2 l0 l1 l2 l3 hl z1
 go_enter Tryz.func161, Tryz.ntmps161
 go_wp2_with fail
 go_quiet (fail)
 go_wp2_with fail
 go_ret
 exact ⟨rfl, _, rfl⟩
end Go.Proofs.YtifgajinfcihmaaGreatDoor
namespace Go.Proofs.YtifgajinfcihmaaGreatDoor
open Go Go.RowKit Go.Maps Go.Lib Mem Pk
def FrPost (res : List UInt8 × Int) (w : World) (e : Ending) (w' : World) : Prop :=
 ∃ A c, e = .returned (.tuple #[.slice A res.1.length c, .int .i64 res.2]) ∧ Mem.Own fB w.heap.size 5 w' (.slice A res.1.length c) res.1 ∧ Below w.heap.size w w'
def frameR (p : List UInt8) : List UInt8 × Int := if p.length ≤ 4096 then (frameB p, 0) else ([], 2)
set_option maxRecDepth 100000 in
theorem Frame_any {w : World} {A : Option Addr} {c : Nat} {p : List UInt8} (h : Sl fB w A p) :
 Calls Tryz.prog 104 #[.slice A p.length c] w (FrPost (frameR p) w) := by
 have hl := h.len
 unfold frameR
 by_cases h4 : p.length ≤ 4096
 ·rw [if_pos h4]
  have t1 : ¬ (4096 : Int) < (p.length : Int) := by omega
  have H := Lib.hid h; clear h
  have e1 : IntKind.u32.wrap (p.length : Int) = (p.length : Int) := by rw [IntKind.wrap_u32]; omega
  have HW1 := Lib.hid (word_any (w := w) p.length (show p.length < 4294967296 by omega))
  have H4 := Lib.hid h4; clear h4
  go_enter Tryz.func104, Tryz.ntmps104
  go_wp2_with fail
  (with_reducible refine HW1.out.mono ?_); rintro e w1 ⟨v1, rfl, ho1, hb1⟩
  have HS1 := Lib.hid (Sum_any (c := c) (H.out.below hb1))
  have HO1 := Lib.hid ho1
  have HB1 := Lib.hid hb1
  clear ho1 hb1 e1 HW1
  go_wp2_with fail
  (with_reducible refine HS1.out.mono ?_); rintro e w2 ⟨rfl, rfl⟩
  have HW2 := Lib.hid (word_any (w := w1) (sumN p) (sumN_lt p))
  clear HS1
  go_wp2_with fail
  (with_reducible refine HW2.out.mono ?_); rintro e w3 ⟨v3, rfl, ho3, hb3⟩
  have HO3 := Lib.hid (HO1.out.below hb3)
  have HB3 : Hid (Below w.heap.size w w3) := HB1.out.trans (hb3.mono HB1.out.size)
  obtain ⟨A3, c3, rfl⟩ := ho3.form
  have HS3 := Lib.hid ho3.sl.2
  clear ho3 hb3 HO1 HB1 HW2
  have HB1w : Hid (w.heap.size ≤ w3.heap.size) := Lib.hid HB3.out.size
  have h63 : Hid ((wordB p.length).length + (wordB (sumN p)).length ≤ maxLen) := Lib.hid (by rw [wordB_len, wordB_len]; decide)
  have hby : Hid (((wordB p.length).length + (wordB (sumN p)).length) * 1 ≤ 140737488355328) := Lib.hid (by rw [wordB_len, wordB_len]; decide)
  go_upto_region 4 with (at_builtin; refine wpList_appendX (f := fB) rfl (.tmp 11) (.tmp 14) 28 rfl u8T rfl HO3.out rfl HS3.out fB_oneJ h63.out hby.out HB1w.out ?_; intro v4 w4 ho4 hb4)
  obtain ⟨hd, hhd⟩ : ∃ x, x = wordB p.length ++ wordB (sumN p) := ⟨_, rfl⟩
  rw [← hhd] at ho4
  obtain ⟨A4, c4, rfl⟩ := ho4.form
  have HHD := Lib.hid hhd
  have hhl : hd.length = 8 := by rw [hhd, List.length_append, wordB_len, wordB_len]
  have HO4 := Lib.hid ho4
  have HB4 : Hid (Below w.heap.size w w4) := HB3.out.trans hb4
  have h63' : Hid (hd.length + p.length ≤ maxLen) := Lib.hid (by rw [hhl]; have := H4.out; unfold maxLen; omega)
  have hby' : Hid ((hd.length + p.length) * 1 ≤ 140737488355328) := Lib.hid (by rw [hhl]; have := H4.out; omega)
  have HP4 := Lib.hid (H.out.below HB4.out)
  clear hhd hhl ho4 hb4 h63 hby HO3 HS3 HB1w
  go_wp2_with (at_builtin; refine wpList_appendX (f := fB) rfl (.tmp 16) (.tmp 17) 28 rfl u8T rfl HO4.out rfl HP4.out fB_oneJ h63'.out hby'.out HB4.out.size ?_; intro v5 w5 ho5 hb5)
  obtain ⟨fr, hfr⟩ : ∃ x, x = frameB p := ⟨_, rfl⟩
  have he : hd ++ p = fr := by rw [hfr, HHD.out]; rfl
  rw [he] at ho5
  obtain ⟨A5, c5, rfl⟩ := ho5.form
  rw [← hfr]
  refine bodyPost_ret (v := .tuple #[.slice A5 fr.length c5, .int .i64 0]) (by simp [results, Tryz.results104, go_sem]) rfl ?_
  exact ⟨A5, c5, rfl, ho5, HB4.out.trans hb5⟩
 ·rw [if_neg h4]
  have t1 : (4096 : Int) < (p.length : Int) := by omega
  clear h4 h
  go_enter Tryz.func104, Tryz.ntmps104
  go_wp2_with fail
  refine bodyPost_ret (v := .tuple #[.slice none 0 0, .int .i64 2]) (by simp [results, Tryz.results104, go_sem]) rfl ?_
  exact ⟨none, 0, rfl, Own.nil, Below.refl _ _⟩
end Go.Proofs.YtifgajinfcihmaaGreatDoor
namespace Go.Proofs.YtifgajinfcihmaaGreatDoor
open Go Go.RowKit Go.Maps Go.Lib Mem Pk
theorem cut_lhk {P : Program} {t e : TypeId} (hu : P.underlying t = some (.slice e)) (hs : ∀ w, (sizeOf e).run P w = .ok 1 w) (kl kh : IntKind) (A : Option Addr) (len cap l h : Nat) (h1 : l ≤ h) (h2 : h ≤ cap) (w : World) :
 (Instr.slice t (.slice A len cap) (some (.int kl (l : Int))) (some (.int kh (h : Int))) none).run P w = .ok (.slice (partA A cap l) (h - l) (cap - l)) w := by
 have he : P.elem t = e := by simp [Program.elem, hu]
 have hu' : P.underlying t = some (.slice (P.elem t)) := by rw [he]; exact hu
 rw [run_slice_lh w t A len cap hu' kl kh l h (by omega) (by omega) (by omega), he, hs]
 show Result.ok (sliced A (l : Int).toNat (h : Int).toNat cap 1) w = _
 simp [sliced, partA]
def UfPost (res : List UInt8 × Nat × Int) (w : World) (e : Ending) (w' : World) : Prop :=
 ∃ A c, e = .returned (.tuple #[.slice A res.1.length c, .int .i64 (res.2.1 : Int), .int .i64 res.2.2]) ∧ Mem.Own fB w.heap.size 5 w' (.slice A res.1.length c) res.1 ∧ Below w.heap.size w w'
theorem UfPost.no {w w' : World} {k : Int} (h : Below w.heap.size w w') : UfPost ([], 0, k) w (.returned (.tuple #[.slice none 0 0, .int .i64 0, .int .i64 k])) w' := ⟨none, 0, rfl, Own.nil, h⟩
def ClPost (xs : List UInt8) (w : World) (e : Ending) (w' : World) : Prop := ∃ A c, e = .returned (.slice A xs.length c) ∧ Mem.Own fB w.heap.size 5 w' (.slice A xs.length c) xs ∧ Below w.heap.size w w'
theorem CloneB_any (A : Option Addr) (c : Nat) (xs : List UInt8) (hl : xs.length ≤ 140737488355328) (w : World) (hs : Sl fB w A xs) :
 Calls Tryz.prog 39 #[.slice A xs.length c] w (ClPost xs w) := by
 have hnil := fun (w : World) (a : Option Addr) (n c : Nat) => Lib.run_eql_slice_nil (P := Tryz.prog) w 28 5 a n c 0 0 Tryz.underlying28
 have hl1 : xs.length ≤ maxLen := by unfold maxLen; omega
 have hl2 : xs.length * 1 ≤ 140737488355328 := by omega
 have HL1 := Lib.hid hl1; clear hl1
 have HL2 := Lib.hid hl2; clear hl2
 cases A with
 | none =>
   obtain rfl : xs = [] := by
    cases xs with
    | nil => rfl
    | cons x r => obtain ⟨b, o, e, _⟩ := hs.2 (by simp); cases e
   go_enter Tryz.func39, Tryz.ntmps39
   go_wp2_with fail
   go_ret
   exact ⟨none, 0, rfl, Own.nil, Below.refl _ _⟩
 | some ad =>
   go_enter Tryz.func39, Tryz.ntmps39
   go_wp2_with (at_builtin; refine wpList_appendN (f := fB) rfl (.tmp 5) (.tmp 6) 28 rfl u8T rfl (Own.mk_ (Nat.le_refl _)) rfl (hs.below ((Below.refl _ _).alloc (Nat.le_refl _) _)) fB_oneJ (by rw [List.length_nil, Nat.zero_add]; exact HL1.out) (by rw [List.length_nil, Nat.zero_add]; exact HL2.out) (by simp) ?_; intro v1 w1 hown1 hb1; obtain ⟨A', c', rfl⟩ := hown1.form)
   go_ret
   rw [List.nil_append] at hown1
   exact ⟨A', c', rfl, hown1, ((Below.refl _ _).alloc (Nat.le_refl _) _).trans hb1⟩
theorem Sum_q {w : World} {A : Option Addr} {c n : Nat} {bs : List UInt8} (h : Sl fB w A bs) : Calls Tryz.prog 135 #[.slice A bs.length c] (w.drewN n) fun e w'' => e = .returned (.int .u32 (sumN bs : Int)) ∧ ∃ m, w'' = w.drewN m :=
 quiet_mine (Sum_any (c := c) (h.drewN n))
theorem unword_q {w : World} {A : Option Addr} {c n : Nat} {bs : List UInt8} (h : Sl fB w A bs) (h4 : 4 ≤ bs.length) : Calls Tryz.prog 161 #[.slice A bs.length c] (w.drewN n) fun e w'' => e = .returned (.int .u32 (unwordN bs : Int)) ∧ ∃ m, w'' = w.drewN m :=
 Calls.quiet_of (unword_any (c := c) (h.drewN n) h4)
set_option maxRecDepth 100000 in
set_option maxHeartbeats 1000000 in
theorem Unframe_any {w : World} {A : Option Addr} {c : Nat} {bs : List UInt8} (h : Sl fB w A bs) (hc : bs.length ≤ c) (hm : c ≤ maxLen) :
 Calls Tryz.prog 126 #[.slice A bs.length c] w (UfPost (unframe bs) w) := by
 have hl := h.len
 obtain ⟨u, hu⟩ : ∃ u, u = unwordN bs := ⟨_, rfl⟩
 unfold unframe
 rw [← hu]
 by_cases h8 : bs.length < 8
 ·rw [if_pos h8]
  have t1 : (bs.length : Int) < 8 := by omega
  clear h hc hm hu h8
  go_enter Tryz.func126, Tryz.ntmps126
  go_wp2_with fail
  refine bodyPost_ret (v := .tuple #[.slice none 0 0, .int .i64 0, .int .i64 31]) (by simp [results, Tryz.results126, go_sem]) rfl ?_
  exact UfPost.no (Below.refl _ _)
 ·rw [if_neg h8]
  have t1 : ¬ (bs.length : Int) < 8 := by omega
  have HUW := Lib.hid (unword_any (c := c) h (by omega))
  rw [← hu] at HUW
  have H := Lib.hid h; clear h
  have HU := Lib.hid hu; clear hu
  have H8 := Lib.hid h8; clear h8
  have HC := Lib.hid hc; clear hc
  have HM := Lib.hid hm; clear hm
  have HU32 : Hid (u < 4294967296) := Lib.hid (by rw [HU.out]; exact unwordN_lt bs)
  by_cases h2 : 4096 < u
  ·rw [if_pos h2]
   have t2 : (4096 : Int) < (u : Int) := by omega
   clear h2
   go_enter Tryz.func126, Tryz.ntmps126
   go_wp2_with fail
   (with_reducible refine HUW.out.mono ?_); rintro e w2 ⟨rfl, m, rfl⟩
   go_wp2_with fail
   refine bodyPost_ret (v := .tuple #[.slice none 0 0, .int .i64 0, .int .i64 2]) (by simp [results, Tryz.results126, go_sem]) rfl ?_
   exact UfPost.no (below_drewN (Below.refl _ _) _)
  ·rw [if_neg h2]
   have t2 : ¬ (4096 : Int) < (u : Int) := by omega
   obtain ⟨v, hv⟩ : ∃ v, v = 8 + u := ⟨_, rfl⟩
   have e1 : IntKind.i64.wrap (u : Int) = (u : Int) := by rw [IntKind.wrap_i64]; omega
   have e2 : IntKind.i64.wrap (8 + (u : Int)) = (v : Int) := by rw [IntKind.wrap_i64]; omega
   have e2b : 8 + (u : Int) = (v : Int) := by omega
   have e3 : IntKind.u32.wrap (v : Int) = (v : Int) := by rw [IntKind.wrap_u32]; omega
   have e3b : (v : Int) % 4294967296 = (v : Int) := by omega
   have hu4 : u ≤ 4096 := by omega
   by_cases h3 : bs.length < 8 + u
   ·rw [if_pos h3]
    have t3 : (bs.length : Int) < (v : Int) := by omega
    clear h2 h3 hv hu4
    go_enter Tryz.func126, Tryz.ntmps126
    go_wp2_with fail
    (with_reducible refine HUW.out.mono ?_); rintro e w2 ⟨rfl, m, rfl⟩
    go_wp2_with fail
    refine bodyPost_ret (v := .tuple #[.slice none 0 0, .int .i64 0, .int .i64 31]) (by simp [results, Tryz.results126, go_sem]) rfl ?_
    exact UfPost.no (below_drewN (Below.refl _ _) _)
   ·rw [if_neg h3]
    have t3 : ¬ (bs.length : Int) < (v : Int) := by omega
    have hcl := HC.out
    obtain ⟨p, hp⟩ : ∃ p, p = (bs.drop 8).take u := ⟨_, rfl⟩
    have hpl : p.length = u := by rw [hp, List.length_take, List.length_drop]; omega
    obtain ⟨P8, hP8⟩ : ∃ x, x = partA A c 8 := ⟨_, rfl⟩
    obtain ⟨c8, hc8⟩ : ∃ x, x = c - 8 := ⟨_, rfl⟩
    obtain ⟨P4, hP4⟩ : ∃ x, x = partA A c 4 := ⟨_, rfl⟩
    obtain ⟨c4, hc4⟩ : ∃ x, x = c - 4 := ⟨_, rfl⟩
    obtain ⟨q, hq⟩ : ∃ q, q = bs.drop 4 := ⟨_, rfl⟩
    have hql : q.length = bs.length - 4 := by rw [hq, List.length_drop]
    have k8 : ∀ W : World, (Instr.slice 28 (.slice A bs.length c) (some (.int .i64 8)) (some (.int .u32 (v : Int))) none).run Tryz.prog W = .ok (.slice P8 p.length c8) W := fun W => by
     have h := cut_lhk Tryz.underlying28 sizeU8 .i64 .u32 A bs.length c 8 v (by omega) (by omega) W
     rw [← hP8, ← hc8, show v - 8 = p.length by omega] at h; exact h
    have k4 : ∀ W : World, (Instr.slice 28 (.slice A bs.length c) (some (.int .i64 4)) none none).run Tryz.prog W = .ok (.slice P4 q.length c4) W := fun W => by
     have h := cutB A bs.length c 4 (by omega) W
     rw [← hP4, ← hc4, ← hql] at h; exact h
    have hsp : Sl fB w P8 p := by rw [hp, hP8]; exact H.out.part (by omega) hcl
    have hsq : Sl fB w P4 q := by
     have h := H.out.part (c := c) (k := 4) (m := bs.length - 4) (by omega) hcl
     rw [List.take_of_length_le (by rw [List.length_drop]; omega), ← hq] at h
     rw [hP4]; exact h
    have HSP := Lib.hid hsp
    have HSQ := Lib.hid hsq
    have HQL : Hid (4 ≤ q.length) := Lib.hid (by have := H8.out; omega)
    have HPL := Lib.hid hpl
    rw [← hp, ← hq]
    obtain ⟨s1, hs1⟩ : ∃ s, s = sumN p := ⟨_, rfl⟩
    obtain ⟨s2, hs2⟩ : ∃ s, s = unwordN q := ⟨_, rfl⟩
    rw [← hs1, ← hs2]
    obtain ⟨res, hres⟩ : ∃ r, r = (if s1 = s2 then (p, 8 + u, (0 : Int)) else ([], 0, 32)) := ⟨_, rfl⟩
    rw [← hres]
    have HRES := Lib.hid hres; clear hres
    have HQ1 : Hid (∀ (W : World) (B : Option Addr) (d n : Nat), Sl fB W B p → Calls Tryz.prog 135 #[.slice B p.length d] (W.drewN n) fun e w'' => e = .returned (.int .u32 (s1 : Int)) ∧ ∃ m, w'' = W.drewN m) := Lib.hid fun W B d n h => by rw [hs1]; exact Sum_q h
    have HQ2 : Hid (∀ (W : World) (n : Nat), Sl fB W P4 q → Calls Tryz.prog 161 #[.slice P4 q.length c4] (W.drewN n) fun e w'' => e = .returned (.int .u32 (s2 : Int)) ∧ ∃ m, w'' = W.drewN m) := Lib.hid fun W n h => by rw [hs2]; exact unword_q h HQL.out
    have HV := Lib.hid hv
    clear h2 h3 hv hcl hp hpl hP8 hc8 hP4 hc4 hq hql hsp hsq hs1 hs2
    go_enter Tryz.func126, Tryz.ntmps126
    go_wp2_with fail
    (with_reducible refine HUW.out.mono ?_); rintro e w2 ⟨rfl, m, rfl⟩
    have HCL := Lib.hid (CloneB_any P8 c8 p (by rw [HPL.out]; omega) (w.drewN m) (HSP.out.drewN m))
    go_wp2_with fail
    (with_reducible refine HCL.out.mono ?_); rintro e w3 ⟨A3, c3, rfl, ho3, hb3⟩
    have HB3 : Hid (Below w.heap.size w w3) := Lib.hid ((below_drewN (Below.refl _ _) m).trans hb3)
    have HO3 : Hid (Mem.Own fB w.heap.size 5 w3 (.slice A3 p.length c3) p) := Lib.hid ho3
    have hs3 := HO3.out.sl.2
    have hq3 := HSQ.out.below HB3.out
    clear ho3 hb3 HCL
    by_cases h5 : s1 = s2
    ·have H5 := Lib.hid h5
     have t5 : ((s1 : Int) == (s2 : Int)) = true := by rw [beq_iff_eq]; omega
     clear h5
     go_wp2_with fail
     go_quiet (first | (go_at_call 135; exact HQ1.out _ _ _ _ hs3) | (go_at_call 161; exact HQ2.out _ _ hq3))
     go_wp2_with fail
     refine bodyPost_ret (v := .tuple #[.slice A3 p.length c3, .int .i64 (v : Int), .int .i64 0]) (by simp [results, Tryz.results126, go_sem]) rfl ?_
     rw [HRES.out, if_pos H5.out]
     exact ⟨A3, c3, by rw [HV.out], HO3.out, below_drewN HB3.out _⟩
    ·have H5 := Lib.hid h5
     have t5 : ((s1 : Int) == (s2 : Int)) = false := by rw [beq_eq_false_iff_ne]; omega
     clear h5
     go_wp2_with fail
     go_quiet (first | (go_at_call 135; exact HQ1.out _ _ _ _ hs3) | (go_at_call 161; exact HQ2.out _ _ hq3))
     go_wp2_with fail
     refine bodyPost_ret (v := .tuple #[.slice none 0 0, .int .i64 0, .int .i64 32]) (by simp [results, Tryz.results126, go_sem]) rfl ?_
     rw [HRES.out, if_neg H5.out]
     exact UfPost.no (below_drewN HB3.out _)
end Go.Proofs.YtifgajinfcihmaaGreatDoor
namespace Go.Proofs.YtifgajinfcihmaaGreatDoor
open Go Go.RowKit Go.Maps Go.Lib Mem Pk
structure PV where
 k : Int
 n : Int
 b : List UInt8
def pvC (v : PV) (A : Option Addr) (c : Nat) : Array Value := #[.int .i64 v.k, .int .i64 v.n, .float .f64 0, .slice A v.b.length c, .bool false]
def oneV (k : Int) (bs : List UInt8) : Option (PV × List UInt8) :=
 if k = 1 then (getNum bs).map fun x => (⟨1, x.1, []⟩, bs.drop x.2)
 else match getCount 4096 bs with
  | none => none
  | some (n, m) => if n.toNat ≤ (bs.drop m).length then some (⟨3, 0, (bs.drop m).take n.toNat⟩, (bs.drop m).drop n.toNat) else none
def ValOk (F : Nat → Prop) (r : Nat) (v : PV) (rest : List UInt8) (w : World) (e : Ending) (w' : World) : Prop :=
 ∃ A c, e = .returned (.agg (pvC v A c)) ∧ Mem.Own fB w.heap.size 5 w' (.slice A v.b.length c) v.b ∧ Rd F w' r rest ∧ Frm (fun g => g = r) w w'
theorem Rd.frmG {F G : Nat → Prop} {w w' : World} {r : Nat} {bs : List UInt8} (h : Rd F w r bs) (hf : Frm G w w') (hr : ¬ G r) (hG : ∀ g, F g → ¬ G g) : Rd F w' r bs := by
 obtain ⟨A, c, h1, h2, h3, h4⟩ := h
 exact ⟨A, c, h1, h2.frm hf hr, h3.frm hf hG, h4⟩
theorem Rd.below_ {F : Nat → Prop} {w w' : World} {r : Nat} {bs : List UInt8} (h : Rd F w r bs) (hb : Below w.heap.size w w') : Rd F w' r bs := h.frmG (G := fun _ => False) (Frm.below hb) (fun e => e) (fun _ _ e => e)
theorem Rd.lt {F : Nat → Prop} {w : World} {r : Nat} {bs : List UInt8} (h : Rd F w r bs) : r < w.heap.size := by
 obtain ⟨A, c, h1, h2, h3, h4⟩ := h; exact h2.lt
theorem Rd.notF {F : Nat → Prop} {w : World} {r : Nat} {bs : List UInt8} (h : Rd F w r bs) : ¬ F r := by
 obtain ⟨A, c, h1, h2, h3, h4⟩ := h; exact h1
theorem Rd.cut {F : Nat → Prop} {w : World} {r : Nat} {bs : List UInt8} (h : Rd F w r bs) : Rd (fun g => F g ∧ g < w.heap.size) w r bs := by
 obtain ⟨A, c, h1, h2, h3, h4⟩ := h
 exact ⟨A, c, fun e => h1 e.1, h2, h3.mono fun g hg e => ⟨e, hg⟩, h4⟩
theorem Rd.uncut {F : Nat → Prop} {w W : World} {r : Nat} {bs : List UInt8} (h : Rd (fun g => F g ∧ g < w.heap.size) W r bs) (hn : ¬ F r) : Rd F W r bs := by
 obtain ⟨A, c, h1, h2, h3, h4⟩ := h
 exact ⟨A, c, hn, h2, h3.mono fun g hg e => e.1, h4⟩
theorem ownLow {α : Type} {f : α → Value} {base base' : Nat} {e : TypeId} {w : World} {v : Value} {xs : List α} (h : Mem.Own f base e w v xs) (hb : base' ≤ base) : Mem.Own f base' e w v xs := by
 obtain ⟨h1, h2⟩ := h
 refine ⟨h1, ?_⟩
 rcases h2 with h2 | ⟨g, cap, cur, a, b, c⟩
 ·exact .inl h2
 ·exact .inr ⟨g, cap, cur, a, Nat.le_trans hb b, c⟩
theorem ownFrm {α : Type} {f : α → Value} {base : Nat} {e : TypeId} {w w' : World} {v : Value} {xs : List α} {G : Nat → Prop} (h : Mem.Own f base e w v xs) (hf : Frm G w w') (hG : ∀ g, base ≤ g → ¬ G g) : Mem.Own f base e w' v xs := by
 obtain ⟨h1, h2⟩ := h
 refine ⟨h1, ?_⟩
 rcases h2 with h2 | ⟨g, cap, cur, a, b, hh, c⟩
 ·exact .inl h2
 ·exact .inr ⟨g, cap, cur, a, b, (hf.block g (lt_of_block hh) (hG g b)).trans hh, c⟩
def put5 (W : World) (g : Nat) (a b c d e : Value) : World := ((((W.setCell ⟨g, 0, none⟩ a).setCell ⟨g, 1, none⟩ b).setCell ⟨g, 2, none⟩ c).setCell ⟨g, 3, none⟩ d).setCell ⟨g, 4, none⟩ e
theorem put5_blk {W : World} {g : Nat} {t : TypeId} {a b c d e a' b' c' d' e' : Value} (h : Blk W g t #[a', b', c', d', e']) : Blk (put5 W g a b c d e) g t #[a, b, c, d, e] := ((((h.set_ 0 a).set_ 1 b).set_ 2 c).set_ 3 d).set_ 4 e
def vlW (w : World) (k : Int) : World := (w.alloc (.cells #[.int .i64 0, .int .i64 0, .float .f64 0, .slice none 0 0, .bool false] 155)).alloc (.cells #[.int .i64 k, .int .i64 0, .float .f64 0, .slice none 0 0, .bool false] 155)
theorem vlW_below (w : World) (k : Int) : Below w.heap.size w (vlW w k) := ((Below.refl _ _).alloc (Nat.le_refl _) _).alloc (by simp) _
theorem vlW_a (w : World) (k : Int) : Blk (vlW w k) w.heap.size 155 #[.int .i64 0, .int .i64 0, .float .f64 0, .slice none 0 0, .bool false] := (Blk.new_ w _ _).alloc _
theorem vlW_b (w : World) (k : Int) : Blk (vlW w k) (w.heap.size + 1) 155 #[.int .i64 k, .int .i64 0, .float .f64 0, .slice none 0 0, .bool false] := by
 have := Blk.new_ (w.alloc (.cells #[.int .i64 0, .int .i64 0, .float .f64 0, .slice none 0 0, .bool false] 155)) 155 #[.int .i64 k, .int .i64 0, .float .f64 0, .slice none 0 0, .bool false]
 rw [World.size_alloc] at this; exact this
theorem vl_frm (W : World) (g : Nat) (x : Value) (i : Nat) (a b c d e : Value) : Frm (fun k => k = g ∨ k = g + 1) W (put5 (W.setCell ⟨g + 1, i, none⟩ x) g a b c d e) :=
 (((((((Frm.refl (fun k => k = g ∨ k = g + 1) W).setCell (p := ⟨g + 1, i, none⟩) (fun _ => .inr rfl) x).setCell (p := ⟨g, 0, none⟩) (fun _ => .inl rfl) a).setCell (p := ⟨g, 1, none⟩) (fun _ => .inl rfl) b).setCell (p := ⟨g, 2, none⟩) (fun _ => .inl rfl) c).setCell (p := ⟨g, 3, none⟩) (fun _ => .inl rfl) d).setCell (p := ⟨g, 4, none⟩) (fun _ => .inl rfl) e)
theorem vl_rd {F : Nat → Prop} {w w2 W : World} {r : Nat} {bs : List UInt8} (h : Rd F w2 r bs) (hf : Frm (fun k => k = w.heap.size ∨ k = w.heap.size + 1) w2 W) (hr : r < w.heap.size) (hF : ∀ g, F g → g ≠ w.heap.size ∧ g ≠ w.heap.size + 1) : Rd F W r bs :=
 h.frmG hf (by omega) (fun g hg e => by have := hF g hg; omega)
theorem vl_end {w w1 w2 W : World} {r : Nat} (hb : Below w.heap.size w w1) (hf : Frm (fun g => g = r) w1 w2) (h9 : Frm (fun k => k = w.heap.size ∨ k = w.heap.size + 1) w2 W) : Frm (fun g => g = r) w W :=
 ((Frm.below hb).trans hf).then_up (h9.mono fun k _ e => .inr (by omega))
set_option maxRecDepth 100000 in
set_option maxHeartbeats 2000000 in
theorem value_num0 {F : Nat → Prop} {w : World} {r : Nat} {bs : List UInt8} (h : Rd F w r bs) (hF : ∀ g, F g → g < w.heap.size) {n : Int} {m : Nat} (hg : getNum bs = some (n, m)) :
 Calls Tryz.prog 167 #[.pointer (some ⟨r, 0, none⟩), .int .i64 1] w (ValOk F r ⟨1, n, []⟩ (bs.drop m) w) := by
 have hrl := h.lt
 have HN := Lib.hid (Num_yes (h.below_ (vlW_below w 1)) hg)
 obtain ⟨rest, hrest⟩ : ∃ z, z = bs.drop m := ⟨_, rfl⟩
 rw [← hrest] at HN ⊢
 have HRL := Lib.hid hrl
 have HNF : Hid (∀ g, F g → g ≠ w.heap.size ∧ g ≠ w.heap.size + 1) := Lib.hid fun g hg => by have := hF g hg; omega
 have HW : Hid ((w.alloc (.cells #[.int .i64 0, .int .i64 0, .float .f64 0, .slice none 0 0, .bool false] 155)).alloc (.cells #[.int .i64 1, .int .i64 0, .float .f64 0, .slice none 0 0, .bool false] 155) = vlW w 1) := Lib.hid rfl
 have HB1 := Lib.hid (vlW_below w 1)
 have HA := Lib.hid (vlW_a w 1)
 have HB := Lib.hid (vlW_b w 1)
 have hsf : ∀ (a : Addr) (w : World), (store a (.float .f64 0) .plain).run Tryz.prog w = stored Tryz.prog w a (.float .f64 0) .plain := fun a w => run_store _ w a _ _ rfl
 clear h hg hrest hrl hF
 go_enter Tryz.func167, Tryz.ntmps167
 go_upto_region 3 with fail
 rw [HW.out]
 obtain ⟨w1, hw1⟩ : ∃ z, z = vlW w 1 := ⟨_, rfl⟩
 rw [← hw1] at HN HA HB HB1 ⊢
 clear HW hw1
 go_wp2_with fail
 (with_reducible refine HN.out.mono ?_); rintro e w2 ⟨rfl, hr2, hf2⟩
 have HR2 := Lib.hid hr2
 have HF2 := Lib.hid hf2
 have ha := HA.out.frm hf2 (by have := HRL.out; omega)
 have hb := HB.out.frm hf2 (by have := HRL.out; omega)
 have HA2 := Lib.hid ha
 have HB2 := Lib.hid hb
 have b0 : w2.cell? ⟨w.heap.size + 1, 0, none⟩ = some (.int .i64 1) := hb.cell 0
 have b1 : w2.cell? ⟨w.heap.size + 1, 1, none⟩ = some (.int .i64 0) := hb.cell 1
 have b2 : w2.cell? ⟨w.heap.size + 1, 2, none⟩ = some (.float .f64 0) := hb.cell 2
 have b3 : w2.cell? ⟨w.heap.size + 1, 3, none⟩ = some (.slice none 0 0) := hb.cell 3
 have b4 : w2.cell? ⟨w.heap.size + 1, 4, none⟩ = some (.bool false) := hb.cell 4
 have a0 : w2.cell? ⟨w.heap.size, 0, none⟩ = some (.int .i64 0) := ha.cell 0
 have a1 : w2.cell? ⟨w.heap.size, 1, none⟩ = some (.int .i64 0) := ha.cell 1
 have a2 : w2.cell? ⟨w.heap.size, 2, none⟩ = some (.float .f64 0) := ha.cell 2
 have a3 : w2.cell? ⟨w.heap.size, 3, none⟩ = some (.slice none 0 0) := ha.cell 3
 have a4 : w2.cell? ⟨w.heap.size, 4, none⟩ = some (.bool false) := ha.cell 4
 have fa0 := ha.free 0
 have fa1 := ha.free 1
 have fa2 := ha.free 2
 have fa3 := ha.free 3
 have fa4 := ha.free 4
 have fb1 := hb.free 1
 clear hr2 hf2 ha hb HN
 go_wp2_with fail
 obtain ⟨W9, hW9⟩ : ∃ z, z = put5 (w2.setCell ⟨w.heap.size + 1, 1, none⟩ (.int .i64 n)) w.heap.size (.int .i64 1) (.int .i64 n) (.float .f64 0) (.slice none 0 0) (.bool false) := ⟨_, rfl⟩
 have hx9 : Blk W9 w.heap.size 155 #[.int .i64 1, .int .i64 n, .float .f64 0, .slice none 0 0, .bool false] := by rw [hW9]; exact put5_blk (HA2.out.far (p := ⟨w.heap.size + 1, 1, none⟩) (by show w.heap.size ≠ w.heap.size + 1; omega) _)
 have hf9 := vl_frm w2 w.heap.size (.int .i64 n) 1 (.int .i64 1) (.int .i64 n) (.float .f64 0) (.slice none 0 0) (.bool false)
 rw [← hW9] at hf9
 unfold put5 at hW9
 rw [← hW9]
 have r0 := hx9.cell 0
 have r1 := hx9.cell 1
 have r2 := hx9.cell 2
 have r3 := hx9.cell 3
 have r4 := hx9.cell 4
 refine bodyPost_ret (v := .agg #[.int .i64 1, .int .i64 n, .float .f64 0, .slice none 0 0, .bool false]) (by simp [results, Tryz.results167, go_sem, r0, r1, r2, r3, r4]) rfl ?_
 have hlt2 := HR2.out.lt
 exact ⟨none, 0, rfl, Own.nil, vl_rd HR2.out hf9 HRL.out HNF.out, vl_end HB1.out HF2.out hf9⟩
theorem ValOk.uncut {F : Nat → Prop} {r : Nat} {v : PV} {rest : List UInt8} {w : World} {e : Ending} {w' : World} (h : ValOk (fun g => F g ∧ g < w.heap.size) r v rest w e w') (hn : ¬ F r) : ValOk F r v rest w e w' := by
 obtain ⟨A, c, h1, h2, h3, h4⟩ := h
 exact ⟨A, c, h1, h2, h3.uncut hn, h4⟩
theorem value_num {F : Nat → Prop} {w : World} {r : Nat} {bs : List UInt8} (h : Rd F w r bs) {n : Int} {m : Nat} (hg : getNum bs = some (n, m)) :
 Calls Tryz.prog 167 #[.pointer (some ⟨r, 0, none⟩), .int .i64 1] w (ValOk F r ⟨1, n, []⟩ (bs.drop m) w) :=
 (value_num0 h.cut (fun _g hg => hg.2) hg).mono fun _ _ hp => hp.uncut h.notF
def BtOk (F : Nat → Prop) (r : Nat) (b rest : List UInt8) (w : World) (e : Ending) (w' : World) : Prop :=
 ∃ A c, e = .returned (.slice A b.length c) ∧ Mem.Own fB w.heap.size 5 w' (.slice A b.length c) b ∧ Rd F w' r rest ∧ Frm (fun g => g = r) w w'
set_option maxHeartbeats 1000000 in
theorem Bytes_yes {F : Nat → Prop} {w : World} {r : Nat} {bs : List UInt8} (h : Rd F w r bs) {n : Int} {m : Nat} (hg : getCount 4096 bs = some (n, m)) (hn : n.toNat ≤ (bs.drop m).length) :
 Calls Tryz.prog 190 #[.pointer (some ⟨r, 0, none⟩)] w (BtOk F r ((bs.drop m).take n.toNat) ((bs.drop m).drop n.toNat) w) := by
 obtain ⟨-, h2, h3⟩ := getCount_some hg
 have HC := Lib.hid (Count_yes h hg)
 obtain ⟨rs, hrs⟩ : ∃ z, z = bs.drop m := ⟨_, rfl⟩
 rw [← hrs] at HC hn ⊢
 obtain ⟨k, rfl⟩ := Int.eq_ofNat_of_zero_le h2
 rw [Int.toNat_natCast] at hn ⊢
 have HN := Lib.hid hn
 have hk : k ≤ 4096 := by omega
 have hlk : (rs.take k).length = k := by rw [List.length_take]; omega
 have HLK := Lib.hid hlk
 clear h hg hrs hn h2 h3 hlk
 go_enter Tryz.func190, Tryz.ntmps190
 go_wp2_with fail
 (with_reducible refine HC.out.mono ?_); rintro e w1 ⟨rfl, hr1, hf1⟩
 have HT := Lib.hid (take_ok hr1 k HN.out (k : Int) rfl)
 have HF1 := Lib.hid hf1
 clear hr1 hf1 HC
 go_wp2_with fail
 (with_reducible refine HT.out.mono ?_); rintro e w2 ⟨A2, c2, rfl, hs2, hr2, hf2⟩
 have hcl := CloneB_any A2 c2 (rs.take k) (by rw [HLK.out]; omega) w2 hs2.sl
 rw [HLK.out] at hcl
 have HCL := Lib.hid hcl
 have HR2 := Lib.hid hr2
 have HF2 : Hid (Frm (fun g => g = r) w w2) := Lib.hid (HF1.out.trans hf2)
 clear hs2 hr2 hf2 hcl HT HF1
 go_wp2_with fail
 (with_reducible refine HCL.out.mono ?_); rintro e w3 ⟨A3, c3, rfl, ho3, hb3⟩
 rw [HLK.out] at ho3
 rw [HLK.out]
 go_wp2_with fail
 go_ret
 refine ⟨A3, c3, by rw [HLK.out]; rfl, ?_, HR2.out.below_ hb3, HF2.out.trans (Frm.below hb3)⟩
 rw [HLK.out]
 exact ownLow ho3 HF2.out.size
theorem Bytes_no {F : Nat → Prop} {w : World} {r : Nat} {bs : List UInt8} (h : Rd F w r bs) (hg : ∀ n m, getCount 4096 bs = some (n, m) → (bs.drop m).length < n.toNat) :
 Calls Tryz.prog 190 #[.pointer (some ⟨r, 0, none⟩)] w (RdNo r 30 w) := by
 cases hc : getCount 4096 bs with
 | none =>
   have HC := Lib.hid (Count_none h hc)
   clear h hg hc
   go_enter Tryz.func190, Tryz.ntmps190
   go_wp2_with fail
   (with_reducible refine HC.out.mono ?_); rintro e w1 ⟨rfl, hf1⟩
   go_wp2_with fail
   exact ⟨rfl, rfl, hf1⟩
 | some x =>
   obtain ⟨n, m⟩ := x
   have hlt := hg n m hc
   obtain ⟨-, h2, h3⟩ := getCount_some hc
   have HC := Lib.hid (Count_yes h hc)
   obtain ⟨rs, hrs⟩ : ∃ z, z = bs.drop m := ⟨_, rfl⟩
   rw [← hrs] at HC hlt
   have HLT : Hid ((rs.length : Int) < n) := Lib.hid (by omega)
   clear h hg hrs hlt hc
   go_enter Tryz.func190, Tryz.ntmps190
   go_wp2_with fail
   (with_reducible refine HC.out.mono ?_); rintro e w1 ⟨rfl, hr1, hf1⟩
   have HT := Lib.hid (take_no hr1 n HLT.out)
   have HF1 := Lib.hid hf1
   clear hr1 hf1 HC
   go_wp2_with fail
   (with_reducible refine HT.out.mono ?_); rintro e w2 ⟨rfl, hf2⟩
   go_wp2_with fail
   exact ⟨rfl, rfl, HF1.out.trans hf2⟩
set_option maxRecDepth 100000 in
set_option maxHeartbeats 2000000 in
theorem value_bytes0 {F : Nat → Prop} {w : World} {r : Nat} {bs : List UInt8} (h : Rd F w r bs) (hF : ∀ g, F g → g < w.heap.size) {n : Int} {m : Nat} (hg : getCount 4096 bs = some (n, m)) (hn : n.toNat ≤ (bs.drop m).length) :
 Calls Tryz.prog 167 #[.pointer (some ⟨r, 0, none⟩), .int .i64 3] w (ValOk F r ⟨3, 0, (bs.drop m).take n.toNat⟩ ((bs.drop m).drop n.toNat) w) := by
 have hrl := h.lt
 have HN := Lib.hid (Bytes_yes (h.below_ (vlW_below w 3)) hg hn)
 obtain ⟨b, hb⟩ : ∃ z, z = (bs.drop m).take n.toNat := ⟨_, rfl⟩
 obtain ⟨rest, hrest⟩ : ∃ z, z = (bs.drop m).drop n.toNat := ⟨_, rfl⟩
 rw [← hrest, ← hb] at HN ⊢
 have HRL := Lib.hid hrl
 have HNF : Hid (∀ g, F g → g ≠ w.heap.size ∧ g ≠ w.heap.size + 1) := Lib.hid fun g hg => by have := hF g hg; omega
 have HW : Hid ((w.alloc (.cells #[.int .i64 0, .int .i64 0, .float .f64 0, .slice none 0 0, .bool false] 155)).alloc (.cells #[.int .i64 3, .int .i64 0, .float .f64 0, .slice none 0 0, .bool false] 155) = vlW w 3) := Lib.hid rfl
 have HB1 := Lib.hid (vlW_below w 3)
 have HA := Lib.hid (vlW_a w 3)
 have HB := Lib.hid (vlW_b w 3)
 have HSZ : Hid ((vlW w 3).heap.size = w.heap.size + 2) := Lib.hid (by unfold vlW; simp)
 have hsf : ∀ (a : Addr) (w : World), (store a (.float .f64 0) .plain).run Tryz.prog w = stored Tryz.prog w a (.float .f64 0) .plain := fun a w => run_store _ w a _ _ rfl
 clear h hg hrest hrl hF hn hb
 go_enter Tryz.func167, Tryz.ntmps167
 go_upto_region 3 with fail
 rw [HW.out]
 obtain ⟨w1, hw1⟩ : ∃ z, z = vlW w 3 := ⟨_, rfl⟩
 rw [← hw1] at HN HA HB HB1 HSZ ⊢
 clear HW hw1
 go_wp2_with fail
 (with_reducible refine HN.out.mono ?_); rintro e w2 ⟨A2, c2, rfl, ho2, hr2, hf2⟩
 have HO2 := Lib.hid ho2
 have HR2 := Lib.hid hr2
 have HF2 := Lib.hid hf2
 have ha := HA.out.frm hf2 (by have := HRL.out; omega)
 have hb := HB.out.frm hf2 (by have := HRL.out; omega)
 have HA2 := Lib.hid ha
 have HB2 := Lib.hid hb
 have b0 : w2.cell? ⟨w.heap.size + 1, 0, none⟩ = some (.int .i64 3) := hb.cell 0
 have b1 : w2.cell? ⟨w.heap.size + 1, 1, none⟩ = some (.int .i64 0) := hb.cell 1
 have b2 : w2.cell? ⟨w.heap.size + 1, 2, none⟩ = some (.float .f64 0) := hb.cell 2
 have b3 : w2.cell? ⟨w.heap.size + 1, 3, none⟩ = some (.slice none 0 0) := hb.cell 3
 have b4 : w2.cell? ⟨w.heap.size + 1, 4, none⟩ = some (.bool false) := hb.cell 4
 have a0 : w2.cell? ⟨w.heap.size, 0, none⟩ = some (.int .i64 0) := ha.cell 0
 have a1 : w2.cell? ⟨w.heap.size, 1, none⟩ = some (.int .i64 0) := ha.cell 1
 have a2 : w2.cell? ⟨w.heap.size, 2, none⟩ = some (.float .f64 0) := ha.cell 2
 have a3 : w2.cell? ⟨w.heap.size, 3, none⟩ = some (.slice none 0 0) := ha.cell 3
 have a4 : w2.cell? ⟨w.heap.size, 4, none⟩ = some (.bool false) := ha.cell 4
 have fa0 := ha.free 0
 have fa1 := ha.free 1
 have fa2 := ha.free 2
 have fa3 := ha.free 3
 have fa4 := ha.free 4
 have fb3 := hb.free 3
 clear hr2 hf2 ha hb HN ho2
 go_wp2_with fail
 obtain ⟨W9, hW9⟩ : ∃ z, z = put5 (w2.setCell ⟨w.heap.size + 1, 3, none⟩ (.slice A2 b.length c2)) w.heap.size (.int .i64 3) (.int .i64 0) (.float .f64 0) (.slice A2 b.length c2) (.bool false) := ⟨_, rfl⟩
 have hx9 : Blk W9 w.heap.size 155 #[.int .i64 3, .int .i64 0, .float .f64 0, .slice A2 b.length c2, .bool false] := by rw [hW9]; exact put5_blk (HA2.out.far (p := ⟨w.heap.size + 1, 3, none⟩) (by show w.heap.size ≠ w.heap.size + 1; omega) _)
 have hf9 := vl_frm w2 w.heap.size (.slice A2 b.length c2) 3 (.int .i64 3) (.int .i64 0) (.float .f64 0) (.slice A2 b.length c2) (.bool false)
 rw [← hW9] at hf9
 unfold put5 at hW9
 rw [← hW9]
 have r0 := hx9.cell 0
 have r1 := hx9.cell 1
 have r2 := hx9.cell 2
 have r3 := hx9.cell 3
 have r4 := hx9.cell 4
 refine bodyPost_ret (v := .agg #[.int .i64 3, .int .i64 0, .float .f64 0, .slice A2 b.length c2, .bool false]) (by simp [results, Tryz.results167, go_sem, r0, r1, r2, r3, r4]) rfl ?_
 have hlt2 := HR2.out.lt
 refine ⟨A2, c2, rfl, ownLow (ownFrm HO2.out hf9 (fun g hg e => ?_)) (by have := HSZ.out; omega), vl_rd HR2.out hf9 HRL.out HNF.out, vl_end HB1.out HF2.out hf9⟩
 have := HSZ.out
 omega
theorem value_bytes {F : Nat → Prop} {w : World} {r : Nat} {bs : List UInt8} (h : Rd F w r bs) {n : Int} {m : Nat} (hg : getCount 4096 bs = some (n, m)) (hn : n.toNat ≤ (bs.drop m).length) :
 Calls Tryz.prog 167 #[.pointer (some ⟨r, 0, none⟩), .int .i64 3] w (ValOk F r ⟨3, 0, (bs.drop m).take n.toNat⟩ ((bs.drop m).drop n.toNat) w) :=
 (value_bytes0 h.cut (fun _g hg => hg.2) hg hn).mono fun _ _ hp => hp.uncut h.notF
theorem value_yes {F : Nat → Prop} {w : World} {r : Nat} {bs : List UInt8} (h : Rd F w r bs) {k : Int} (hk : k = 1 ∨ k = 3) {v : PV} {rest : List UInt8} (hv : oneV k bs = some (v, rest)) :
 Calls Tryz.prog 167 #[.pointer (some ⟨r, 0, none⟩), .int .i64 k] w (ValOk F r v rest w) := by
 rcases hk with rfl | rfl
 ·unfold oneV at hv
  rw [if_pos rfl] at hv
  cases hg : getNum bs with
  | none => rw [hg] at hv; cases hv
  | some x =>
    obtain ⟨n, m⟩ := x
    rw [hg] at hv
    injection hv with hv; injection hv with h1 h2
    subst h1; subst h2
    exact value_num h hg
 ·unfold oneV at hv
  rw [if_neg (by decide)] at hv
  cases hg : getCount 4096 bs with
  | none => rw [hg] at hv; cases hv
  | some x =>
    obtain ⟨n, m⟩ := x
    rw [hg] at hv
    simp only at hv
    split at hv
    ·injection hv with hv; injection hv with h1 h2
     subst h1; subst h2
     exact value_bytes h hg ‹_›
    ·cases hv
set_option maxRecDepth 100000 in
set_option maxHeartbeats 2000000 in
theorem value_no {F : Nat → Prop} {w : World} {r : Nat} {bs : List UInt8} (h : Rd F w r bs) {k : Int} (hk : k = 1 ∨ k = 3) (hv : oneV k bs = none) :
 Calls Tryz.prog 167 #[.pointer (some ⟨r, 0, none⟩), .int .i64 k] w (RdNo r 30 w) := by
 have hsf : ∀ (a : Addr) (w : World), (store a (.float .f64 0) .plain).run Tryz.prog w = stored Tryz.prog w a (.float .f64 0) .plain := fun a w => run_store _ w a _ _ rfl
 have HB1 := Lib.hid (vlW_below w k)
 have hr1 := h.below_ (vlW_below w k)
 have HW : Hid ((w.alloc (.cells #[.int .i64 0, .int .i64 0, .float .f64 0, .slice none 0 0, .bool false] 155)).alloc (.cells #[.int .i64 k, .int .i64 0, .float .f64 0, .slice none 0 0, .bool false] 155) = vlW w k) := Lib.hid rfl
 rcases hk with rfl | rfl
 ·unfold oneV at hv
  rw [if_pos rfl] at hv
  have hg : getNum bs = none := by
   cases hg : getNum bs with
   | none => rfl
   | some x => rw [hg] at hv; cases hv
  have HN := Lib.hid (Num_none hr1 hg)
  clear h hv hg hr1
  go_enter Tryz.func167, Tryz.ntmps167
  go_upto_region 3 with fail
  rw [HW.out]
  obtain ⟨w1, hw1⟩ : ∃ z, z = vlW w 1 := ⟨_, rfl⟩
  rw [← hw1] at HN HB1 ⊢
  clear HW hw1
  go_wp2_with fail
  (with_reducible refine HN.out.mono ?_); rintro e w2 ⟨rfl, hf2⟩
  go_wp2_with fail
  exact ⟨rfl, rfl, (Frm.below HB1.out).trans hf2⟩
 ·unfold oneV at hv
  rw [if_neg (by decide)] at hv
  have hg : ∀ n m, getCount 4096 bs = some (n, m) → (bs.drop m).length < n.toNat := fun n m hg => by
   rw [hg] at hv
   simp only at hv
   split at hv
   ·cases hv
   ·omega
  have HN := Lib.hid (Bytes_no hr1 hg)
  clear h hv hg hr1
  go_enter Tryz.func167, Tryz.ntmps167
  go_upto_region 3 with fail
  rw [HW.out]
  obtain ⟨w1, hw1⟩ : ∃ z, z = vlW w 3 := ⟨_, rfl⟩
  rw [← hw1] at HN HB1 ⊢
  clear HW hw1
  go_wp2_with fail
  (with_reducible refine HN.out.mono ?_); rintro e w2 ⟨rfl, hf2⟩
  go_wp2_with fail
  exact ⟨rfl, rfl, (Frm.below HB1.out).trans hf2⟩
end Go.Proofs.YtifgajinfcihmaaGreatDoor
namespace Go.Proofs.YtifgajinfcihmaaGreatDoor
open Go Go.RowKit Go.Maps Go.Lib Mem Pk
theorem Own.lowerS {base base' : Nat} {w : World} {v : Value} {xs : List UInt8} (h : Mem.Own fB base 5 w v xs) (hb : base' ≤ base) : Mem.Own fB base' 5 w v xs := by
 obtain ⟨h1, h2⟩ := h
 refine ⟨h1, ?_⟩
 rcases h2 with h2 | ⟨g, cap, cur, a, b, c⟩
 ·exact .inl h2
 ·exact .inr ⟨g, cap, cur, a, Nat.le_trans hb b, c⟩
def piece (ds : List UInt8) (j : Nat) : List UInt8 := (ds.drop (j * 2048)).take 2048
end Go.Proofs.YtifgajinfcihmaaGreatDoor
