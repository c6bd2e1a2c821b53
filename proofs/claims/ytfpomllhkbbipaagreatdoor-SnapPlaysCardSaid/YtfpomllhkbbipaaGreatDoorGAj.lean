/- Layer 3: the reader. -/
import Derived.Recover
import Derived.Defers
import Derived.Deep.DeepCutAuto
import Derived.Laws.BitsAllLaws
import Derived.Laws.BitsLemmas
import Derived.WalkKit
import Derived.BigQuiet
import Derived.Deep.RegionHeld3
import Derived.Test.YtfpomllhkbbipaaGreatDoorGAe
import Derived.Test.YtfpomllhkbbipaaGreatDoorGAg
import Derived.Test.YtfpomllhkbbipaaGreatDoorGAh
import Derived.Test.YtfpomllhkbbipaaGreatDoorGAf
import Derived.Test.YtfpomllhkbbipaaGreatDoorGAi
import Derived.Test.YtfpomllhkbbipaaGreatDoorGAk
namespace Go.Proofs.YtfpomllhkbbipaaGreatDoor
open Go.RowKit Go.Maps Mem
def wrongV (k : Int) : Value := .iface 194 (.agg #[.int .i64 k])
theorem Mem.SlB.dropM {α : Type} {f : α → Value} {e : TypeId} {F : Nat → Prop} {w : World} {A : Option Addr} {xs : List α} (h : SlB f e F w A xs) (n : Nat) : SlB f e F w (A.map fun x => x.add n) (xs.drop n) := by
 by_cases hn : n < xs.length
 ·obtain ⟨b, o, rfl, _, _⟩ := h.sl.at hn
  have h1 := h.piece (k := n) (m := xs.length - n) (by omega) rfl
  rw [List.take_of_length_le (by simp)] at h1
  have e2 : (⟨b, o, none⟩ : Addr).add n = ⟨b, o + n, none⟩ := by
   unfold Addr.add; split
   ·rename_i h0; subst h0; rfl
   ·rfl
  show SlB f e F w (some ((⟨b, o, none⟩ : Addr).add n)) _
  rw [e2]; exact h1
 ·rw [List.drop_of_length_le (by omega)]; exact SlB.nil
theorem Mem.SlB.takeM {α : Type} {f : α → Value} {e : TypeId} {F : Nat → Prop} {w : World} {A : Option Addr} {xs : List α} (h : SlB f e F w A xs) (n : Nat) : SlB f e F w A (xs.take n) := by
 by_cases hx : 0 < xs.length
 ·obtain ⟨b, o, rfl, _, _⟩ := h.sl.at hx
  by_cases hn : n ≤ xs.length
  ·have h1 := h.piece (k := 0) (m := n) (by omega) rfl
   rw [List.drop_zero, Nat.add_zero] at h1; exact h1
  ·rw [List.take_of_length_le (by omega)]; exact h
 ·have : xs = [] := List.eq_nil_of_length_eq_zero (by omega)
  subst this; rw [List.take_nil]; exact SlB.nil
def SlF (F : Nat → Prop) (w : World) (A : Option Addr) (xs : List UInt8) : Prop := ∃ e, SlB fB e F w A xs
section
variable {F G : Nat → Prop} {w w' : World} {A : Option Addr} {xs : List UInt8}
theorem SlF.nil : SlF F w A [] := ⟨0, SlB.nil⟩
theorem SlF.sl (h : SlF F w A xs) : Sl fB w A xs := by obtain ⟨e, h⟩ := h; exact h.sl
theorem SlF.mono (h : SlF F w A xs) (hF : ∀ g, g < w.heap.size → F g → G g) : SlF G w A xs := by obtain ⟨e, h⟩ := h; exact ⟨e, h.mono hF⟩
theorem SlF.frm (h : SlF F w A xs) (hf : Frm G w w') (hd : ∀ g, F g → ¬ G g) : SlF F w' A xs := by obtain ⟨e, h⟩ := h; exact ⟨e, h.frm hf hd⟩
theorem SlF.below (h : SlF F w A xs) (hb : Below w.heap.size w w') : SlF F w' A xs := by obtain ⟨e, h⟩ := h; exact ⟨e, h.below hb⟩
theorem SlF.dropM (h : SlF F w A xs) (n : Nat) : SlF F w (A.map fun x => x.add n) (xs.drop n) := by obtain ⟨e, h⟩ := h; exact ⟨e, Mem.SlB.dropM h n⟩
theorem SlF.takeM (h : SlF F w A xs) (n : Nat) : SlF F w A (xs.take n) := by obtain ⟨e, h⟩ := h; exact ⟨e, Mem.SlB.takeM h n⟩
theorem SlF.of_sl (h : Sl fB w A xs) : SlF (fun g => g < w.heap.size) w A xs := by
 by_cases hx : 0 < xs.length
 ·obtain ⟨b, o, rfl, hb, hc⟩ := h.at hx
  have h0 := hc 0 hx
  have hheap : ∃ cur e fr, w.heap[b]? = some (.cells cur e fr) := by
   unfold World.cell? at h0
   split at h0
   ·rename_i c e fr hh; exact ⟨c, e, fr, hh⟩
   ·cases h0
  obtain ⟨cur, e, fr, hh⟩ := hheap
  refine ⟨e, h.1, fun _ => ⟨b, o, cur, fr, rfl, hb, hh, fun j hj => ?_⟩⟩
  have h2 := hc j hj
  unfold World.cell? at h2
  rw [hh] at h2
  simpa using h2
 ·obtain rfl : xs = [] := List.eq_nil_of_length_eq_zero (by omega)
  exact SlF.nil
end
def Rd (F : Nat → Prop) (w : World) (r : Nat) (bs : List UInt8) : Prop :=
 ∃ A c, ¬ F r ∧ Blk w r 192 #[.slice A bs.length c] ∧ SlF F w A bs ∧ bs.length ≤ c ∧ c ≤ maxLen
def RdOk (F : Nat → Prop) (r : Nat) (rest : List UInt8) (v : Value) (w : World) (e : Ending) (w' : World) : Prop := e = .returned v ∧ Rd F w' r rest ∧ Frm (fun g => g = r) w w'
def RdNo (r : Nat) (k : Int) (w : World) (e : Ending) (w' : World) : Prop := e = .panicked [{ v := wrongV k, recovered := false }] ∧ Frm (fun g => g = r) w w'
theorem rdFail_any (w : World) (p : Value) (k : Int) (hk : k ≠ 0) : Calls Tryz.prog 125 #[p, .int .i64 k] w fun e w' => e = .panicked [{ v := wrongV k, recovered := false }] ∧ w = w' := by
 have hk1 : (k == 0) = false := by simpa using hk
 clear hk
 go_enter Tryz.func125, Tryz.ntmps125
 go_wp2_with fail
 exact ⟨rfl, rfl, rfl⟩
theorem take_no {F : Nat → Prop} {w : World} {r : Nat} {bs : List UInt8} (h : Rd F w r bs) (n : Int) (hn : (bs.length : Int) < n) :
 Calls Tryz.prog 124 #[.pointer (some ⟨r, 0, none⟩), .int .i64 n] w (RdNo r 30 w) := by
 obtain ⟨A, c, -, hb, hs, hc, hm⟩ := h
 have c0 : w.cell? ⟨r, 0, none⟩ = some (.slice A bs.length c) := hb.cell 0
 clear hb hs
 go_enter Tryz.func124, Tryz.ntmps124
 go_wp2_with fail
 (with_reducible refine (rdFail_any w _ 30 (by decide)).mono ?_); rintro e w' ⟨rfl, rfl⟩
 go_wp2_with fail
 exact ⟨rfl, rfl, Frm.refl _ _⟩
def TakeOk (F : Nat → Prop) (r : Nat) (bs : List UInt8) (n : Nat) (w : World) (e : Ending) (w' : World) : Prop :=
 ∃ A c, e = .returned (.slice A n c) ∧ SlF F w' A (bs.take n) ∧ Rd F w' r (bs.drop n) ∧ Frm (fun g => g = r) w w'
theorem take_ok {F : Nat → Prop} {w : World} {r : Nat} {bs : List UInt8} (h : Rd F w r bs) (n : Nat) (hn : n ≤ bs.length) (ni : Int) (hni : (n : Int) = ni) :
 Calls Tryz.prog 124 #[.pointer (some ⟨r, 0, none⟩), .int .i64 ni] w (TakeOk F r bs n w) := by
 subst hni
 obtain ⟨A, c, hr, hb, hs, hc, hm⟩ := h
 have c0 : w.cell? ⟨r, 0, none⟩ = some (.slice A bs.length c) := hb.cell 0
 have q0 := hb.free 0
 have hl := hs.sl.len
 have hfin : ∀ A', (A' = A.map (fun x => x.add n) ∨ c = n) → TakeOk F r bs n w (.returned (.slice A n c)) (w.setCell ⟨r, 0, none⟩ (.slice A' (bs.length - n) (c - n))) := by
  intro A' hA'
  have hset : Frm (fun g => g = r) w (w.setCell ⟨r, 0, none⟩ (.slice A' (bs.length - n) (c - n))) := (Frm.refl (fun g => g = r) w).setCell (p := ⟨r, 0, none⟩) (fun _ => rfl) _
  have hd : ∀ g, F g → ¬ g = r := fun g hg e => hr (e ▸ hg)
  refine ⟨A, c, rfl, (hs.takeM n).frm hset hd, ⟨A', c - n, hr, by rw [List.length_drop]; exact hb.set_ 0 _, ?_, by rw [List.length_drop]; omega, by omega⟩, (Frm.refl (fun g => g = r) w).setCell (p := ⟨r, 0, none⟩) (fun _ => rfl) _⟩
  refine SlF.frm ?_ hset hd
  rcases hA' with rfl | h
  ·exact hs.dropM n
  ·rw [List.drop_of_length_le (by omega)]; exact SlF.nil
 unfold maxLen at hm
 by_cases hcn : c = n
 ·have h1 := hfin A (.inr hcn)
  rw [show bs.length - n = 0 by omega, show c - n = 0 by omega] at h1
  have HF := Lib.hid h1; clear h1 hfin hb hs
  subst hcn
  go_enter Tryz.func124, Tryz.ntmps124
  go_wp2_with fail
  go_ret
  exact HF.out
 ·have HF := Lib.hid (hfin _ (.inl rfl)); clear hfin hb hs
  go_enter Tryz.func124, Tryz.ntmps124
  go_wp2_with fail
  go_ret
  exact HF.out
end Go.Proofs.YtfpomllhkbbipaaGreatDoor
namespace Go.Proofs.YtfpomllhkbbipaaGreatDoor
open Go.RowKit Go.Maps Mem Pk
def NumPost (F : Nat → Prop) (r : Nat) (bs : List UInt8) (w : World) (e : Ending) (w' : World) : Prop :=
 (∀ n k, getNum bs = some (n, k) → RdOk F r (bs.drop k) (.int .i64 n) w e w') ∧ (getNum bs = none → RdNo r 30 w e w')
def NumRel (F : Nat → Prop) (r : Nat) (bs : List UInt8) (w : World) (uv sv : Value) (wr : World) : Prop :=
 ∃ i u : Nat, i ≤ 9 ∧ i ≤ bs.length ∧ uv = .int .u64 u ∧ sv = .int .i64 (7 * (i : Int)) ∧ u < 128 ^ i ∧ getNum bs = gnGo i u (bs.drop i) ∧ Rd F wr r (bs.drop i) ∧ Frm (fun g => g = r) w wr
theorem NumPost.no {F : Nat → Prop} {r : Nat} {bs : List UInt8} {w w' : World} (h : getNum bs = none) (hf : Frm (fun g => g = r) w w') : NumPost F r bs w (.panicked [{ v := wrongV 30, recovered := false }]) w' :=
 ⟨(fun n k hs => by rw [h] at hs; cases hs), fun _ => ⟨rfl, hf⟩⟩
theorem NumPost.yes {F : Nat → Prop} {r : Nat} {bs : List UInt8} {n : Int} {k : Nat} {w w' : World} {e : Ending} (h : getNum bs = some (n, k)) (he : e = .returned (.int .i64 n)) (hr : Rd F w' r (bs.drop k)) (hf : Frm (fun g => g = r) w w') : NumPost F r bs w e w' :=
 ⟨(fun n' k' hs => by rw [h] at hs; injection hs with hs; injection hs with h1 h2; subst h1; subst h2; exact ⟨he, hr, hf⟩), (fun hn => by rw [h] at hn; cases hn)⟩
theorem num_pow {u n i : Nat} (h : u < 128 ^ i) : u + n % 128 * 128 ^ i < 128 ^ (i + 1) := by
 have e1 : n % 128 * 128 ^ i ≤ 127 * 128 ^ i := Nat.mul_le_mul_right _ (by omega)
 rw [pow_step]; omega
theorem num_fits {u n i : Nat} (h : u < 128 ^ i) (hi : i ≤ 9) (hb : ¬ ((i = 9 ∧ 1 < n) ∨ (0 < i ∧ n = 0))) : u + n % 128 * 128 ^ i < 18446744073709551616 := by
 rcases Nat.lt_or_ge i 9 with h9 | h9
 ·have h1 := num_pow (n := n) h
  have e2 : 128 ^ (i + 1) ≤ 128 ^ 9 := Nat.pow_le_pow_right (by omega) (by omega)
  have e3 : (128 : Nat) ^ 9 = 9223372036854775808 := by decide
  omega
 ·have : i = 9 := by omega
  subst this
  have e3 : (128 : Nat) ^ 9 = 9223372036854775808 := by decide
  rw [e3] at h ⊢
  have : n ≤ 1 := by omega
  omega
set_option maxRecDepth 100000 in
set_option maxHeartbeats 4000000 in
theorem Num_any {F : Nat → Prop} {w : World} {r : Nat} {bs : List UInt8} (h : Rd F w r bs) :
 Calls Tryz.prog 89 #[.pointer (some ⟨r, 0, none⟩)] w (NumPost F r bs w) := by
 have H := Lib.hid h; clear h
 go_enter Tryz.func89, Tryz.ntmps89
 go_wp2_with fail
 go_loopw [3, 4] (fun uv sv wr => NumRel F r bs w uv sv wr) (fun _ sv _ => 70 - (intOf sv).toNat)
 case atStart => exact ⟨0, 0, Nat.zero_le _, Nat.zero_le _, rfl, rfl, by decide, rfl, H.out, Frm.refl _ _⟩
 case round =>
  obtain ⟨i, u, hi, hil, rfl, rfl, hu, hgn, hrd, hfr⟩ := hrel
  have HU := Lib.hid hu; clear hu
  have HGN := Lib.hid hgn; clear hgn
  have HRD := Lib.hid hrd; clear hrd
  have HFR := Lib.hid hfr; clear hfr
  by_cases hlt : i < bs.length
  ·obtain ⟨b, hb⟩ : ∃ b, b = bs[i] := ⟨_, rfl⟩
   have hdr : bs.drop i = b :: bs.drop (i + 1) := by rw [hb]; exact List.drop_eq_getElem_cons hlt
   have htk := take_ok HRD.out 1 (by rw [hdr]; simp) 1 rfl
   rw [hdr] at htk
   rw [hdr] at HGN HRD
   have HTK := Lib.hid htk; clear htk hdr hb
   go_wp2_with fail
   (with_reducible refine HTK.out.mono ?_); rintro e w2 ⟨A2, c2, rfl, hs2, hrd2, hf2⟩
   obtain ⟨b2, o2, rfl, _, hcA⟩ := hs2.sl.at (k := 0) (by simp)
   have hcB := hcA 0 (by simp)
   obtain ⟨n, hn⟩ : ∃ n, n = b.toNat := ⟨_, rfl⟩
   have hc2 : w2.cell? ⟨b2, o2, none⟩ = some (.int .u8 (n : Int)) := by rw [hn]; exact hcB
   have hn256 : n < 256 := by rw [hn]; exact b.toNat_lt
   have HN := Lib.hid hn; clear hn
   have HRD2 : Hid (Rd F w2 r (bs.drop (i + 1))) := hrd2
   have HF2 : Hid (Frm (fun g => g = r) w w2) := HFR.out.trans hf2
   clear hcA hcB hs2 hrd2 hf2 HRD HFR HTK
   by_cases h9 : i = 9
   ·have t2 : (7 * (i : Int) == 63) = true := by rw [beq_iff_eq]; omega
    have t3 : (0 : Int) < 7 * (i : Int) := by omega
    by_cases h1 : 1 < n
    ·go_wp2_with fail
     (with_reducible refine (rdFail_any _ _ 30 (by decide)).mono ?_); rintro e w3 ⟨rfl, rfl⟩
     go_wp2_with fail
     exact ⟨rfl, NumPost.no (by rw [HGN.out]; exact gnGo_bad (.inl ⟨h9, by rw [← HN.out]; exact h1⟩)) HF2.out⟩
    ·by_cases hz : n = 0
     ·have hz1 : ((n : Int) == 0) = true := by rw [beq_iff_eq]; omega
      go_wp2_with fail
      (with_reducible refine (rdFail_any _ _ 30 (by decide)).mono ?_); rintro e w3 ⟨rfl, rfl⟩
      go_wp2_with fail
      exact ⟨rfl, NumPost.no (by rw [HGN.out]; exact gnGo_bad (.inr ⟨by omega, by rw [← HN.out]; exact hz⟩)) HF2.out⟩
     ·have hz2 : ((n : Int) == 0) = false := by rw [beq_eq_false_iff_ne]; omega
      have hnb : ¬ ((i = 9 ∧ 1 < b.toNat) ∨ (0 < i ∧ b.toNat = 0)) := by rw [← HN.out]; omega
      have hv : u + n % 128 * 128 ^ i < 18446744073709551616 := num_fits HU.out hi (by rw [HN.out]; exact hnb)
      have hor := num_or HU.out hn256 hv
      rw [show (2 : Int) ^ (7 * i) = 9223372036854775808 by rw [h9]; decide] at hor
      have HOR := Lib.hid hor; clear hor
      have HNB := Lib.hid hnb; clear hnb
      have HV := Lib.hid hv; clear hv
      have h128 : n < 128 := by omega
      go_wp2_with fail
      go_ret
      refine NumPost.yes (HGN.out.trans (gnGo_end HNB.out (by rw [← HN.out]; exact h128))) ?_ HRD2.out HF2.out
      rw [← HN.out]
      exact ret_i64 (by rw [HOR.out]; exact unzig_bits _ HV.out)
   ·have t2 : (7 * (i : Int) == 63) = false := by rw [beq_eq_false_iff_ne]; omega
    by_cases h0 : i = 0
    ·have t3 : 7 * (i : Int) ≤ 0 := by omega
     have hnb : ¬ ((i = 9 ∧ 1 < b.toNat) ∨ (0 < i ∧ b.toNat = 0)) := by rw [← HN.out]; omega
     have hv : u + n % 128 * 128 ^ i < 18446744073709551616 := num_fits HU.out hi (by rw [HN.out]; exact hnb)
     have hor := num_or HU.out hn256 hv
     rw [show (2 : Int) ^ (7 * i) = 1 by rw [h0]; decide, Int.mul_one] at hor
     have HOR := Lib.hid hor; clear hor
     have HNB := Lib.hid hnb; clear hnb
     have HV := Lib.hid hv; clear hv
     by_cases h128 : n < 128
     ·go_wp2_with fail
      go_ret
      refine NumPost.yes (HGN.out.trans (gnGo_end HNB.out (by rw [← HN.out]; exact h128))) ?_ HRD2.out HF2.out
      rw [← HN.out]
      exact ret_i64 (by rw [HOR.out]; exact unzig_bits _ HV.out)
     ·go_wp2_with fail
      go_roundw
      case rel => exact ⟨i + 1, u + n % 128 * 128 ^ i, by have := HNB.out; omega, hlt, by rw [HOR.out], by go_num, num_pow HU.out, by rw [HGN.out, gnGo_on HNB.out (by rw [← HN.out]; exact h128), HN.out], HRD2.out, HF2.out⟩
      case measure => simp [intOf]; omega
    ·have t3 : (0 : Int) < 7 * (i : Int) := by omega
     by_cases hz : n = 0
     ·have hz1 : ((n : Int) == 0) = true := by rw [beq_iff_eq]; omega
      go_wp2_with fail
      (with_reducible refine (rdFail_any _ _ 30 (by decide)).mono ?_); rintro e w3 ⟨rfl, rfl⟩
      go_wp2_with fail
      exact ⟨rfl, NumPost.no (by rw [HGN.out]; exact gnGo_bad (.inr ⟨by omega, by rw [← HN.out]; exact hz⟩)) HF2.out⟩
     ·have hz2 : ((n : Int) == 0) = false := by rw [beq_eq_false_iff_ne]; omega
      have hnb : ¬ ((i = 9 ∧ 1 < b.toNat) ∨ (0 < i ∧ b.toNat = 0)) := by rw [← HN.out]; omega
      have hv : u + n % 128 * 128 ^ i < 18446744073709551616 := num_fits HU.out hi (by rw [HN.out]; exact hnb)
      have HOR := Lib.hid (num_or HU.out hn256 hv)
      have HNB := Lib.hid hnb; clear hnb
      have HV := Lib.hid hv; clear hv
      by_cases h128 : n < 128
      ·go_wp2_with fail
       go_ret
       refine NumPost.yes (HGN.out.trans (gnGo_end HNB.out (by rw [← HN.out]; exact h128))) ?_ HRD2.out HF2.out
       rw [← HN.out]
       exact ret_i64 (by rw [HOR.out]; exact unzig_bits _ HV.out)
      ·go_wp2_with fail
       go_roundw
       case rel => exact ⟨i + 1, u + n % 128 * 128 ^ i, by have := HNB.out; omega, hlt, by rw [HOR.out], by go_num, num_pow HU.out, by rw [HGN.out, gnGo_on HNB.out (by rw [← HN.out]; exact h128), HN.out], HRD2.out, HF2.out⟩
       case measure => simp [intOf]; omega
  ·have hdr : bs.drop i = [] := List.drop_of_length_le (by omega)
   have htk := take_no HRD.out 1 (by rw [hdr]; simp)
   have HTK := Lib.hid htk; clear htk
   have HDR := Lib.hid hdr; clear hdr
   go_wp2_with fail
   (with_reducible refine HTK.out.mono ?_); rintro e w2 ⟨rfl, hf2⟩
   go_wp2_with fail
   exact ⟨rfl, NumPost.no (by rw [HGN.out, HDR.out]; exact gnGo_nil _ _) (HFR.out.trans hf2)⟩
end Go.Proofs.YtfpomllhkbbipaaGreatDoor
namespace Go.Proofs.YtfpomllhkbbipaaGreatDoor
open Go.RowKit Go.Maps Mem Pk
theorem Num_yes {F : Nat → Prop} {w : World} {r : Nat} {bs : List UInt8} (h : Rd F w r bs) {n : Int} {k : Nat} (hg : getNum bs = some (n, k)) :
 Calls Tryz.prog 89 #[.pointer (some ⟨r, 0, none⟩)] w (RdOk F r (bs.drop k) (.int .i64 n) w) := (Num_any h).mono fun _ _ hp => hp.1 n k hg
theorem Num_none {F : Nat → Prop} {w : World} {r : Nat} {bs : List UInt8} (h : Rd F w r bs) (hg : getNum bs = none) :
 Calls Tryz.prog 89 #[.pointer (some ⟨r, 0, none⟩)] w (RdNo r 30 w) := (Num_any h).mono fun _ _ hp => hp.2 hg
def getCount (most : Int) (bs : List UInt8) : Option (Int × Nat) := (getNum bs).filter fun x => decide (0 ≤ x.1 ∧ x.1 ≤ most)
theorem getCount_some {most : Int} {bs : List UInt8} {n : Int} {k : Nat} (h : getCount most bs = some (n, k)) : getNum bs = some (n, k) ∧ 0 ≤ n ∧ n ≤ most := by
 unfold getCount at h
 rw [Option.filter_eq_some_iff] at h
 exact ⟨h.1, by simpa using h.2⟩
theorem getCount_none {most : Int} {bs : List UInt8} (h : getCount most bs = none) : getNum bs = none ∨ ∃ n k, getNum bs = some (n, k) ∧ (n < 0 ∨ most < n) := by
 unfold getCount at h
 cases hg : getNum bs with
 | none => exact .inl rfl
 | some x =>
   obtain ⟨n, k⟩ := x
   rw [hg] at h
   refine .inr ⟨n, k, rfl, ?_⟩
   rw [Option.filter_eq_none_iff] at h
   have h2 := h (n, k) rfl
   simp at h2
   omega
theorem Count_yes {F : Nat → Prop} {w : World} {r : Nat} {bs : List UInt8} (h : Rd F w r bs) {most n : Int} {k : Nat} (hg : getCount most bs = some (n, k)) :
 Calls Tryz.prog 90 #[.pointer (some ⟨r, 0, none⟩), .int .i64 most] w (RdOk F r (bs.drop k) (.int .i64 n) w) := by
 obtain ⟨h1, h2, h3⟩ := getCount_some hg
 have HN := Lib.hid (Num_yes h h1)
 clear hg h1 h
 go_enter Tryz.func90, Tryz.ntmps90
 go_wp2_with fail
 (with_reducible refine HN.out.mono ?_); rintro e w2 ⟨rfl, hr2, hf2⟩
 have HR2 := Lib.hid hr2; clear hr2
 have HF2 := Lib.hid hf2; clear hf2
 go_wp2_with fail
 go_ret
 exact ⟨rfl, HR2.out, HF2.out⟩
theorem Count_none {F : Nat → Prop} {w : World} {r : Nat} {bs : List UInt8} (h : Rd F w r bs) {most : Int} (hg : getCount most bs = none) :
 Calls Tryz.prog 90 #[.pointer (some ⟨r, 0, none⟩), .int .i64 most] w (RdNo r 30 w) := by
 rcases getCount_none hg with h1 | ⟨n, k, h1, h2⟩
 ·have HN := Lib.hid (Num_none h h1)
  clear hg h1 h
  go_enter Tryz.func90, Tryz.ntmps90
  go_wp2_with fail
  (with_reducible refine HN.out.mono ?_); rintro e w2 ⟨rfl, hf2⟩
  go_wp2_with fail
  exact ⟨rfl, rfl, hf2⟩
 ·have HN := Lib.hid (Num_yes h h1)
  clear hg h1 h
  by_cases h3 : n < 0
  ·go_enter Tryz.func90, Tryz.ntmps90
   go_wp2_with fail
   (with_reducible refine HN.out.mono ?_); rintro e w2 ⟨rfl, hr2, hf2⟩
   have HF2 := Lib.hid hf2; clear hf2 hr2
   go_wp2_with fail
   (with_reducible refine (rdFail_any _ _ 30 (by decide)).mono ?_); rintro e w3 ⟨rfl, rfl⟩
   go_wp2_with fail
   exact ⟨rfl, rfl, HF2.out⟩
  ·have h4 : most < n := by omega
   clear h2
   go_enter Tryz.func90, Tryz.ntmps90
   go_wp2_with fail
   (with_reducible refine HN.out.mono ?_); rintro e w2 ⟨rfl, hr2, hf2⟩
   have HF2 := Lib.hid hf2; clear hf2 hr2
   go_wp2_with fail
   (with_reducible refine (rdFail_any _ _ 30 (by decide)).mono ?_); rintro e w3 ⟨rfl, rfl⟩
   go_wp2_with fail
   exact ⟨rfl, rfl, HF2.out⟩
end Go.Proofs.YtfpomllhkbbipaaGreatDoor
namespace Go.Proofs.YtfpomllhkbbipaaGreatDoor.Mem
open Go Go.RowKit Go.Maps Go.Lib
theorem flatMap_get {α β : Type} {f : α → List β} {k : Nat} (hf : ∀ x, (f x).length = k) (xs : List α) {j i : Nat} (hj : j < xs.length) (hi : i < k) : (xs.flatMap f)[j * k + i]? = (f xs[j])[i]? := by
 induction xs generalizing j with
 | nil => simp at hj
 | cons x r ih =>
   rw [List.flatMap_cons]
   cases j with
   | zero => rw [List.getElem?_append_left (by rw [hf]; omega)]; simp
   | succ j =>
     rw [List.getElem?_append_right (by rw [hf, Nat.succ_mul]; omega), hf, show (j + 1) * k + i - k = j * k + i by rw [Nat.succ_mul]; omega]
     rw [ih (by simpa using hj)]
     simp
theorem flatMap_len {α β : Type} {f : α → List β} {k : Nat} (hf : ∀ x, (f x).length = k) (xs : List α) : (xs.flatMap f).length = xs.length * k := by
 induction xs with
 | nil => simp
 | cons x r ih => rw [List.flatMap_cons, List.length_append, ih, hf, List.length_cons, Nat.succ_mul]; omega
def SlK {α : Type} (k : Nat) (f : α → List Value) (e : TypeId) (F : Nat → Prop) (w : World) (A : Option Addr) (xs : List α) : Prop :=
 xs.length ≤ maxLen ∧ (0 < xs.length → ∃ b o cur fr, A = some ⟨b, o, none⟩ ∧ F b ∧ w.heap[b]? = some (.cells cur e fr) ∧ ∀ j (h : j < xs.length) i, i < k → cur[o + j * k + i]? = (f xs[j])[i]?)
section
variable {α : Type} {k : Nat} {f : α → List Value} {e : TypeId} {F G : Nat → Prop} {w w' : World} {A : Option Addr} {xs : List α}
theorem SlK.nil : SlK k f e F w A ([] : List α) := ⟨by unfold maxLen; simp, fun h => absurd h (by simp)⟩
theorem SlK.len (h : SlK k f e F w A xs) : xs.length ≤ 9223372036854775807 := h.1
theorem lt_of_block {w : World} {g : Nat} {o : Obj} (h : w.heap[g]? = some o) : g < w.heap.size := by
 rcases Nat.lt_or_ge g w.heap.size with hl | hl
 ·exact hl
 ·rw [Array.getElem?_eq_none hl] at h; cases h
theorem SlK.at (h : SlK k f e F w A xs) {j : Nat} (hj : j < xs.length) : ∃ b o, A = some ⟨b, o, none⟩ ∧ F b ∧ b < w.heap.size ∧ ∀ i, i < k → w.cell? ⟨b, o + j * k + i, none⟩ = (f xs[j])[i]? := by
 obtain ⟨b, o, cur, fr, e1, hF, hb, hc⟩ := h.2 (by omega)
 exact ⟨b, o, e1, hF, lt_of_block hb, fun i hi => by rw [← hc j hj i hi]; simp [World.cell?, hb]⟩
theorem SlK.mono (h : SlK k f e F w A xs) (hF : ∀ g, g < w.heap.size → F g → G g) : SlK k f e G w A xs := ⟨h.1, fun hn => by
 obtain ⟨b, o, cur, fr, e1, hf, hb, hc⟩ := h.2 hn
 exact ⟨b, o, cur, fr, e1, hF b (lt_of_block hb) hf, hb, hc⟩⟩
theorem SlK.keep (h : SlK k f e F w A xs) (hk : ∀ g cur fr, F g → w.heap[g]? = some (.cells cur e fr) → w'.heap[g]? = w.heap[g]?) : SlK k f e F w' A xs := ⟨h.1, fun hn => by
 obtain ⟨b, o, cur, fr, e1, hf, hb, hc⟩ := h.2 hn
 exact ⟨b, o, cur, fr, e1, hf, (hk b cur fr hf hb).trans hb, hc⟩⟩
theorem SlK.frm (h : SlK k f e F w A xs) (hf : Frm G w w') (hd : ∀ g, F g → ¬ G g) : SlK k f e F w' A xs := h.keep fun g _ _ hF hg => hf.block g (lt_of_block hg) (hd g hF)
theorem SlK.below (h : SlK k f e F w A xs) (hb : Below w.heap.size w w') : SlK k f e F w' A xs := h.frm (G := fun _ => False) (Frm.below hb) (fun _ _ h => h)
theorem SlK.far {t : TypeId} {cs : Array Value} {g : Nat} (h : SlK k f e F w A xs) (hb : Blk w g t cs) (hne : e ≠ t ∨ ¬ F g) (i : Nat) (u : Value) : SlK k f e F (w.setCell ⟨g, i, none⟩ u) A xs :=
 h.keep fun q cur fr hF hk => Below.heap_setCell w _ u q (by
  intro e2
  have e2 : q = g := e2
  subst e2
  rcases hne with hne | hne
  ·unfold Blk at hb; rw [hk] at hb
   injection hb with hb; injection hb with _ h2
   exact hne h2
  ·exact hne hF)
end
def SliceTK (P : Program) (t e : TypeId) (z : Value) (k bytes : Nat) : Prop :=
 P.underlying t = some (.slice e) ∧ z.cells.size = k ∧ 0 < k ∧ ∃ i, P.info? e = some i ∧ i.zero = some z ∧ i.size = k ∧ i.bytes = bytes
theorem sliceTK_mk {P : Program} {t e : TypeId} {z : Value} {k bytes : Nat} (ht : P.underlying t = some (.slice e)) (hz : z.cells.size = k) (hk : 0 < k)
 (h : (P.info? e).map (fun i => (i.zero, i.size, i.bytes)) = some (some z, k, bytes)) : SliceTK P t e z k bytes := ⟨ht, hz, hk, info_parts h⟩
def OwnK {α : Type} (k : Nat) (f : α → List Value) (base : Nat) (e : TypeId) (w : World) (v : Value) (xs : List α) : Prop := w.ownsRow base e k v xs.length (xs.flatMap f)
section
variable {α : Type} {k : Nat} {f : α → List Value} {e : TypeId} {w w' : World} {v : Value} {xs : List α} {base : Nat}
theorem OwnK.drewN (h : OwnK k f base e w v xs) (n : Nat) : OwnK k f base e (w.drewN n) v xs := h
theorem OwnK.alloc (h : OwnK k f base e w v xs) (o : Obj) : OwnK k f base e (w.alloc o) v xs := World.ownsRow.alloc h o
theorem OwnK.mk_ (hb : base ≤ w.heap.size) : OwnK k f base e (w.alloc (.cells #[] e)) (.slice (some ⟨w.heap.size, 0, none⟩) 0 0) ([] : List α) := by
 unfold OwnK
 refine ⟨by simp, .inr ⟨w.heap.size, 0, #[], rfl, hb, heap_alloc_new w _, Nat.le_refl _, Nat.zero_le _, by simp, by simp⟩⟩
theorem OwnK.lt (h : OwnK k f base e w v xs) : ∀ g, v.ownBlock = some g → base ≤ g ∧ g < w.heap.size := World.ownsRow.lt h
theorem OwnK.form (h : OwnK k f base e w v xs) : ∃ A c, v = .slice A xs.length c := by
 rcases h.2 with ⟨h1, h2⟩ | ⟨g, cap, cur, hv, _⟩
 ·exact ⟨none, 0, by rw [h1, h2]⟩
 ·exact ⟨_, _, hv⟩
theorem OwnK.slK (hf : ∀ x, (f x).length = k) {A : Option Addr} {n c : Nat} (h : OwnK k f base e w (.slice A n c) xs) : n = xs.length ∧ SlK k f e (fun g => base ≤ g) w A xs := by
 rcases h.2 with ⟨h1, h2⟩ | ⟨g, cap, cur, hv, hb, hh, hnc, hcap, hsz, htake⟩
 ·injection h1 with a b c
  refine ⟨by omega, ?_⟩
  have : xs = [] := List.eq_nil_of_length_eq_zero h2
  subst this; exact SlK.nil
 ·injection hv with a b c
  subst a; subst b; subst c
  refine ⟨rfl, Nat.le_trans hnc hcap, fun hn => ⟨g, 0, cur, (0, 0), rfl, hb, hh, fun j hj i hi => ?_⟩⟩
  have h1 := flatMap_get hf xs hj hi
  rw [← htake, List.getElem?_take] at h1
  rw [if_pos] at h1
  ·rw [Nat.zero_add]; simpa using h1
  ·have : (j + 1) * k ≤ xs.length * k := Nat.mul_le_mul_right k hj
   rw [Nat.succ_mul] at this; omega
theorem OwnK.below (ho : OwnK k f base e w v xs) (hb : Below w.heap.size w w') : OwnK k f base e w' v xs := by
 obtain ⟨h1, h2⟩ := ho
 refine ⟨h1, ?_⟩
 rcases h2 with h2 | ⟨g, cap, cur, a, b, hh, c⟩
 ·exact .inl h2
 ·exact .inr ⟨g, cap, cur, a, b, (hb.block g (lt_of_block hh)).trans hh, c⟩
theorem OwnK.below_ (ho : OwnK k f base e w v xs) (hb : base ≤ w.heap.size) (hg : w.grownBy w' v.ownBlock) : Below base w w' :=
 (Below.refl _ _).grown hg hb (fun k hk => (ho.lt k hk).1)
theorem OwnK.base_ {base' : Nat} (h : OwnK k f base e w v xs) (hb : base' ≤ base) : OwnK k f base' e w v xs := by
 obtain ⟨h1, h2⟩ := h
 refine ⟨h1, ?_⟩
 rcases h2 with h2 | ⟨g, cap, cur, a, b, c⟩
 ·exact .inl h2
 ·exact .inr ⟨g, cap, cur, a, Nat.le_trans hb b, c⟩
end
theorem wpList_appendK1 {P : Program} {α : Type} {k : Nat} {f : α → List Value} {ops : Array Oper} {rest : List Oper} {o : Oper} {a : Act} {Q : Exit → Act → World → Prop} {w0 : World} (hgd : o.guard = none) (s x : Operand) (t : TypeId)
 (ho : o.op = .call { callee := .builtin .append, args := #[s, x], argTypes := #[t, t] })
 {base : Nat} {e : TypeId} {z : Value} {bytes : Nat} (ht : SliceTK P t e z k bytes)
 {v : Value} {xs : List α} (u : α) (hk : (f u).length = k) (h1 : ∀ y ∈ f u, y.oneCell' = true) (hs : a.eval s = v) (hown : OwnK k f base e w0 v xs) {cs : Array Value} (hcs : cs = (f u).toArray)
 {g c : Nat} (hx : a.eval x = .slice (some ⟨g, 0, none⟩) 1 c) (hg : g = w0.heap.size)
 (h63 : xs.length + 1 ≤ maxLen) (hbytes : (xs.length + 1) * bytes ≤ 140737488355328) (hbase : base ≤ w0.heap.size)
 (h : ∀ v' w', OwnK k f base e w' v' (xs ++ [u]) → (w0.alloc (.cells cs e)).grownBy w' v.ownBlock → wpList P ops Q rest (a.put o.dst v') w') : wpList P ops Q (o :: rest) a (w0.alloc (.cells cs e)) := by
 obtain ⟨ht, hz1, hk0, i, hi, hz, hsz, hby⟩ := ht
 subst hg; subst hcs
 have hcell : ∀ j y, (f u)[j]? = some y → (w0.alloc (.cells (f u).toArray e)).cell? ((⟨w0.heap.size, 0, none⟩ : Addr).add j) = some y := by
  intro j y hy
  have e2 : (⟨w0.heap.size, 0, none⟩ : Addr).add j = ⟨w0.heap.size, j, none⟩ := by
   unfold Addr.add; split
   ·rename_i h0; subst h0; rfl
   ·simp
  rw [e2]
  have := heap_alloc_new w0 (.cells (f u).toArray e)
  unfold World.cell?
  simp only [this]
  simpa using hy
 refine wpList_append_own (P := P) _ hgd s x t ho base e i z k bytes ht hi hz hsz hby hz1 hk0 v xs.length (xs.flatMap f) hs (hown.alloc _) ⟨w0.heap.size, 0, none⟩ 1 c (f u) hx (by rw [hk]; omega) hcell h1 h63 hbytes ?_ ?_
 ·rw [World.size_alloc]; omega
 ·intro v' w' ho' hgr _
  refine h v' w' ?_ hgr
  unfold OwnK; rw [List.length_append, List.flatMap_append]; simpa using ho'
end Go.Proofs.YtfpomllhkbbipaaGreatDoor.Mem
namespace Go.Proofs.YtfpomllhkbbipaaGreatDoor
open Go.RowKit Go.Maps Mem Pk
def valN (n : Int) : List Value := [.int .i64 1, .int .i64 n, .float .f64 0, .slice none 0 0, .bool false]
def numsB (ns : List Int) : List UInt8 := ns.flatMap numB
theorem numsB_snoc (ns : List Int) (n : Int) : numsB (ns ++ [n]) = numsB ns ++ numB n := by unfold numsB; simp
theorem numsB_len (ns : List Int) : (numsB ns).length ≤ 10 * ns.length := by
 unfold numsB
 induction ns with
 | nil => simp
 | cons n r ih =>
   have := (numB_len n).2
   simp only [List.flatMap_cons, List.length_append, List.length_cons]
   omega
def i64ok (n : Int) : Prop := -9223372036854775808 ≤ n ∧ n ≤ 9223372036854775807
def PtRel (ns : List Int) (w : World) (ov iv : Value) (wr : World) : Prop :=
 ∃ k : Nat, k ≤ ns.length ∧ iv = .int .i64 k ∧ Mem.Own fB w.heap.size 5 wr ov (numsB (ns.take k)) ∧ Below w.heap.size w wr
def PutPost (out : List UInt8) (w : World) (e : Ending) (w' : World) : Prop :=
 ∃ A c, e = .returned (.tuple #[.slice A out.length c, .int .i64 0]) ∧ Mem.Own fB w.heap.size 5 w' (.slice A out.length c) out ∧ Below w.heap.size w w'
set_option maxRecDepth 100000 in
set_option maxHeartbeats 2000000 in
theorem Put_nums {F : Nat → Prop} {w : World} (A : Option Addr) (c : Nat) (ns : List Int) (h : SlK 5 valN 132 F w A ns) (hl : ns.length ≤ 1000000) (hn : ∀ n ∈ ns, i64ok n) :
 Calls Tryz.prog 65 #[.slice A ns.length c] w (PutPost (numsB ns) w) := by
 have H := Lib.hid h; clear h
 have HN := Lib.hid hn; clear hn
 have hst := fun (a : Addr) (r : Nat) (w : World) => run_store Tryz.prog w a (.float .f64 r) .plain rfl
 go_enter Tryz.func65, Tryz.ntmps65
 go_wp2_with fail
 go_loopw [4, 12] (fun ov iv wr => PtRel ns w ov iv wr) (fun _ iv _ => ns.length - (intOf iv).toNat)
 case atStart => exact ⟨0, Nat.zero_le _, rfl, Own.nil, Below.refl _ _⟩
 case round =>
  obtain ⟨k, hk, rfl, hown, hbw⟩ := hrel
  have HOWN := Lib.hid hown; clear hown
  have HBW := Lib.hid hbw; clear hbw
  by_cases hlt : k < ns.length
  ·obtain ⟨b, o, rfl, _, _, hc⟩ := (H.out.below HBW.out).at hlt
   obtain ⟨n, hnk⟩ : ∃ n, n = ns[k] := ⟨_, rfl⟩
   have HNS : Hid (numsB (ns.take (k + 1)) = numsB (ns.take k) ++ numB n) := by show _ = _; rw [List.take_succ_eq_append_getElem hlt, numsB_snoc, hnk]
   have hok : i64ok n := by rw [hnk]; exact HN.out _ (List.getElem_mem hlt)
   rw [← hnk] at hc
   have c0 : wr.cell? ⟨b, o + k * 5, none⟩ = some (.int .i64 1) := hc 0 (by decide)
   have c1 : wr.cell? ⟨b, o + k * 5 + 1, none⟩ = some (.int .i64 n) := hc 1 (by decide)
   have c2 : wr.cell? ⟨b, o + k * 5 + 2, none⟩ = some (.float .f64 0) := hc 2 (by decide)
   have c3 : wr.cell? ⟨b, o + k * 5 + 3, none⟩ = some (.slice none 0 0) := hc 3 (by decide)
   have c4 : wr.cell? ⟨b, o + k * 5 + 4, none⟩ = some (.bool false) := hc 4 (by decide)
   clear hc hnk
   obtain ⟨M, hM⟩ : ∃ M, M = numsB (ns.take k) := ⟨_, rfl⟩
   have hMl : M.length ≤ 10 * k := by rw [hM]; have := numsB_len (ns.take k); rw [List.length_take] at this; omega
   rw [← hM] at HOWN HNS
   clear hM
   have HOK := Lib.hid hok; clear hok
   have HML := Lib.hid hMl; clear hMl
   go_upto_region 5 with fail
   obtain ⟨w1, hw1⟩ : ∃ x, x = wr.alloc (.cells #[.int .i64 1, .int .i64 n, .float .f64 0, .slice none 0 0, .bool false] 132) := ⟨_, rfl⟩
   rw [← hw1]
   have hx1 : Blk w1 wr.heap.size 132 #[.int .i64 1, .int .i64 n, .float .f64 0, .slice none 0 0, .bool false] := by rw [hw1]; exact Blk.new_ wr _ _
   have hown1 := HOWN.out.alloc (.cells #[.int .i64 1, .int .i64 n, .float .f64 0, .slice none 0 0, .bool false] 132)
   rw [← hw1] at hown1
   have HB1 : Hid (Below w.heap.size w w1) := by rw [hw1]; exact HBW.out.alloc HBW.out.size _
   clear hw1 c0 c1 c2 c3 c4
   have d0 : w1.cell? ⟨wr.heap.size, 0, none⟩ = some (.int .i64 1) := hx1.cell 0
   have d1 : w1.cell? ⟨wr.heap.size, 1, none⟩ = some (.int .i64 n) := hx1.cell 1
   have hap := appendNum_any hown1 HB1.out.size n HOK.out.1 HOK.out.2 (by have h1 := HML.out; have h2 : M.length ≤ 10 * k := h1; omega)
   have HAP := Lib.hid hap; clear hap hown1 hx1
   go_wp2_with fail
   (with_reducible refine HAP.out.mono ?_); rintro e w2 ⟨v2, rfl, hown2, hb2⟩
   go_wp2_with fail
   go_roundw
   case rel => exact ⟨k + 1, hlt, by go_num, by rw [HNS.out]; exact hown2, HB1.out.trans hb2⟩
   case measure => simp [intOf]; omega
  ·have hkn : k = ns.length := by omega
   have HO : Hid (Mem.Own fB w.heap.size 5 wr u4 (numsB ns)) := by have h1 := HOWN.out; rw [hkn, List.take_length] at h1; exact h1
   clear HOWN hkn
   obtain ⟨A4, c4, rfl⟩ := HO.out.form
   go_wp2_with fail
   go_ret2
   exact ⟨A4, c4, rfl, HO.out, HBW.out⟩
end Go.Proofs.YtfpomllhkbbipaaGreatDoor
namespace Go.Proofs.YtfpomllhkbbipaaGreatDoor
open Go.RowKit Go.Maps Mem Pk
theorem catch_idle (p : Addr) (w : World) :
 CallsD Tryz.prog 123 #[.pointer (some p)] .returning w fun e u' w' => e = .returned (.tuple #[]) ∧ u' = .returning ∧ w' = w := by
 refine callsD_of_wpS Tryz.func123 rfl fun c₀ cs hu => ?_
 apply wpS_seq
 apply wpS_region
 simp [wpOpsS, go_sem, recoverD, hu, Tryz.ntmps123, Exit.thenS]
 refine wpS_of_wp ?_
 rw [show (#[Value.pointer (some p)] ++ (Array.replicate 11 undef).setIfInBounds 3 Value.nilIface) = #[.pointer (some p), undef, undef, undef, Value.nilIface, undef, undef, undef, undef, undef, undef, undef] from rfl]
 go_wp2_with fail
 cases c₀
 simp_all [bodyPostS, results, Tryz.results123]
set_option maxRecDepth 100000 in
theorem catch_panicking (b : Nat) (k x : Int) (older : List PanicEntry) (w : World) (hc : w.cell? ⟨b, 0, none⟩ = some (.int .i64 x)) (hz : w.frozen? ⟨b, 0, none⟩ = false) (hl : b < w.heap.size) :
 CallsD Tryz.prog 123 #[.pointer (some ⟨b, 0, none⟩)] (.panicking ({ v := wrongV k, recovered := false } :: older)) w fun e u' w' =>
  e = .returned (.tuple #[]) ∧ u' = .panicking ({ v := wrongV k, recovered := true } :: older) ∧ w' = (w.setCell ⟨b, 0, none⟩ (.int .i64 k)).alloc (.cells #[.int .i64 k] 194) := by
 have hta : ∀ (v : Value) (w : World), (Instr.typeAssert (.iface 194 v) 20 194 true).run Tryz.prog w = .ok (.tuple #[v, .bool true]) w := fun _ _ => by kernel_rfl
 refine callsD_of_wpS Tryz.func123 rfl fun c₀ cs hu => ?_
 apply wpS_seq
 apply wpS_region
 simp [wpOpsS, go_sem, recoverD, hu, Tryz.ntmps123, Exit.thenS]
 refine wpS_of_wp ?_
 rw [show (#[Value.pointer (some ⟨b, 0, none⟩)] ++ (Array.replicate 11 undef).setIfInBounds 3 (wrongV k)) = #[.pointer (some ⟨b, 0, none⟩), undef, undef, undef, wrongV k, undef, undef, undef, undef, undef, undef, undef] from rfl]
 unfold wrongV
 have HU := Lib.hid hu; clear hu
 go_wp2_with fail
 simp [bodyPostS, results, Tryz.results123]
def rdW (w : World) (A : Option Addr) (n c : Nat) : World := (w.alloc (.cells #[.int .i64 0] 27)).alloc (.cells #[.slice A n c] 192)
theorem rdW_below (w : World) (A : Option Addr) (n c : Nat) : Below w.heap.size w (rdW w A n c) := ((Below.refl _ _).alloc (Nat.le_refl _) _).alloc (by simp) _
theorem rdW_size (w : World) (A : Option Addr) (n c : Nat) : (rdW w A n c).heap.size = w.heap.size + 2 := by unfold rdW; simp
theorem rdW_code (w : World) (A : Option Addr) (n c : Nat) : Blk (rdW w A n c) w.heap.size 27 #[.int .i64 0] := (Blk.new_ w _ _).alloc _
theorem rdW_rd {F : Nat → Prop} {w : World} {A : Option Addr} {c : Nat} {bs : List UInt8} (h : SlF F w A bs) (hn : ¬ F (w.heap.size + 1)) (hc : bs.length ≤ c) (hm : c ≤ maxLen) : Rd F (rdW w A bs.length c) (w.heap.size + 1) bs := by
 refine ⟨A, c, hn, ?_, h.below (rdW_below ..), hc, hm⟩
 have := Blk.new_ (w.alloc (.cells #[.int .i64 0] 27)) 192 #[.slice A bs.length c]
 rw [World.size_alloc] at this; exact this
def ReadPost3 (R : World → Prop) (code : Int) (w : World) (e : Ending) (w' : World) : Prop :=
 e = .returned (.int .i64 code) ∧ ∃ W, R W ∧ Frm (fun g => g = w.heap.size) W w' ∧ w.heap.size < W.heap.size
theorem Read_yes {F : Nat → Prop} {w : World} {A : Option Addr} {c : Nat} {bs rest : List UInt8} (_hs : SlF F w A bs) (_hc : bs.length ≤ c) (_hm : c ≤ maxLen) (g : Nat) (cb : Array Value) (R : World → Prop)
 (eg : ∀ args w, (callFunc g args).run Tryz.prog w = .ok (.enter g args) w)
 (hf : Calls Tryz.prog g (#[.pointer (some ⟨w.heap.size + 1, 0, none⟩)] ++ cb) (rdW w A bs.length c) fun e W => e = .returned (.tuple #[]) ∧ Rd F W (w.heap.size + 1) rest ∧ Blk W w.heap.size 27 #[.int .i64 0] ∧ R W)
 (code : Int) (hcd : code = if rest = [] then 0 else 30) :
 Calls Tryz.prog 87 #[.slice A bs.length c, .func (.func g) #[] cb] w (ReadPost3 R code w) := by
 have hmf : ∀ (fn : Fn) (first cap : Array Value) (w : World), (Instr.makeFunc fn first cap).run Tryz.prog w = .ok (.func fn first cap) w := fun _ _ _ _ => rfl
 have HF := Lib.hid hf; clear hf
 have HCD := Lib.hid hcd; clear hcd
 have hW : (w.alloc (.cells #[.int .i64 0] 27)).alloc (.cells #[.slice A bs.length c] 192) = rdW w A bs.length c := rfl
 have HW := Lib.hid hW; clear hW
 go_enter_defers Tryz.func87, Tryz.ntmps87
 go_upto_region 3 with fail
 rw [HW.out]
 go_wp2_with fail
 (with_reducible refine HF.out.mono ?_); rintro e W ⟨rfl, ⟨A2, c2, -, hrb, hrs, hrc, hrm⟩, hcode, hR⟩
 have d0 : W.cell? ⟨w.heap.size + 1, 0, none⟩ = some (.slice A2 rest.length c2) := hrb.cell 0
 have e0 : W.cell? ⟨w.heap.size, 0, none⟩ = some (.int .i64 0) := hcode.cell 0
 have q0 := hcode.free 0
 have hrl := hrs.sl.len
 have HR := Lib.hid hR; clear hR
 have HC := Lib.hid hcode; clear hcode
 clear hrb hrs hrc hrm HF HW
 by_cases hr : rest = []
 ·have h0 : code = 0 := by rw [HCD.out, if_pos hr]
  have H0 := Lib.hid h0; clear h0
  have hrz : rest.length = 0 := by rw [hr]; rfl
  clear hr HCD
  rw [hrz] at d0
  go_wp2_with fail
  refine leaves_cons (f := 123) (args := #[.pointer (some ⟨w.heap.size, 0, none⟩)]) (by simp) (by simp [go_sem]) ?_
  refine (catch_idle ⟨w.heap.size, 0, none⟩ _).mono ?_
  rintro e u' w'' ⟨rfl, rfl, rfl⟩
  simp [Leaves, settle, results, Tryz.results87, go_sem, e0]
  exact ⟨by rw [H0.out], W, HR.out, (Frm.refl (fun g => g = w.heap.size) W).setCell (p := ⟨w.heap.size, 0, none⟩) (fun _ => rfl) _, HC.out.lt⟩
 ·have h0 : code = 30 := by rw [HCD.out, if_neg hr]
  have H0 := Lib.hid h0; clear h0
  have hrz : 0 < rest.length := List.length_pos_iff.2 hr
  clear hr HCD
  go_wp2_with fail
  refine leaves_cons (f := 123) (args := #[.pointer (some ⟨w.heap.size, 0, none⟩)]) (by simp) (by simp [go_sem]) ?_
  refine (catch_idle ⟨w.heap.size, 0, none⟩ _).mono ?_
  rintro e u' w'' ⟨rfl, rfl, rfl⟩
  simp [Leaves, settle, results, Tryz.results87, go_sem, e0]
  exact ⟨by rw [H0.out], W, HR.out, (Frm.refl (fun g => g = w.heap.size) W).setCell (p := ⟨w.heap.size, 0, none⟩) (fun _ => rfl) _, HC.out.lt⟩
theorem Read_no {_F : Nat → Prop} {w : World} {A : Option Addr} {c : Nat} {bs : List UInt8} (_hc : bs.length ≤ c) (_hm : c ≤ maxLen) (g : Nat) (cb : Array Value) (R : World → Prop)
 (eg : ∀ args w, (callFunc g args).run Tryz.prog w = .ok (.enter g args) w) (k : Int)
 (hf : Calls Tryz.prog g (#[.pointer (some ⟨w.heap.size + 1, 0, none⟩)] ++ cb) (rdW w A bs.length c) fun e W => e = .panicked [{ v := wrongV k, recovered := false }] ∧ Blk W w.heap.size 27 #[.int .i64 0] ∧ R W) :
 Calls Tryz.prog 87 #[.slice A bs.length c, .func (.func g) #[] cb] w (ReadPost3 R k w) := by
 have hmf : ∀ (fn : Fn) (first cap : Array Value) (w : World), (Instr.makeFunc fn first cap).run Tryz.prog w = .ok (.func fn first cap) w := fun _ _ _ _ => rfl
 have HF := Lib.hid hf; clear hf
 have hW : (w.alloc (.cells #[.int .i64 0] 27)).alloc (.cells #[.slice A bs.length c] 192) = rdW w A bs.length c := rfl
 have HW := Lib.hid hW; clear hW
 go_enter_defers Tryz.func87, Tryz.ntmps87
 go_upto_region 3 with fail
 rw [HW.out]
 go_wp2_with fail
 (with_reducible refine HF.out.mono ?_); rintro e W ⟨rfl, hcode, hR⟩
 have e0 : W.cell? ⟨w.heap.size, 0, none⟩ = some (.int .i64 0) := hcode.cell 0
 have q0 := hcode.free 0
 have hlt := hcode.lt
 have HR := Lib.hid hR; clear hR
 have r0 : ((W.setCell ⟨w.heap.size, 0, none⟩ (.int .i64 k)).alloc (.cells #[.int .i64 k] 194)).cell? ⟨w.heap.size, 0, none⟩ = some (.int .i64 k) := ((hcode.set_ 0 (.int .i64 k)).alloc (.cells #[.int .i64 k] 194)).cell 0
 have R0 := Lib.hid r0; clear r0
 clear hcode HF HW
 go_wp2_with fail
 refine leaves_cons (f := 123) (args := #[.pointer (some ⟨w.heap.size, 0, none⟩)]) (by simp) (by simp [go_sem]) ?_
 refine (catch_panicking w.heap.size k 0 [] _ e0 q0 hlt).mono ?_
 rintro e u' w'' ⟨rfl, rfl, rfl⟩
 have r0 := R0.out
 simp [Leaves, settle, results, Tryz.results87, go_sem, r0]
 exact ⟨rfl, W, HR.out, ((Frm.refl (fun g => g = w.heap.size) W).setCell (p := ⟨w.heap.size, 0, none⟩) (fun _ => rfl) _).alloc _, hlt⟩
end Go.Proofs.YtfpomllhkbbipaaGreatDoor
namespace Go.Proofs.YtfpomllhkbbipaaGreatDoor
open Go Go.RowKit Go.Maps Go.Lib Mem Pk Cf
theorem apart_new {α β : Type} {f : α → Value} {g : β → Value} {base : Nat} {e e' : TypeId} {w w' : World} {va vb : Value} {xs : List α} {ys : List β} (h : Mem.Own f base e w va xs) (h' : Mem.Own g w.heap.size e' w' vb ys) : Apart va vb := by
 intro k h1 h2
 have := (h.lt k h1).2
 have := (h'.lt k h2).1
 omega
theorem joinNum {base : Nat} {w w2 : World} {va vb : Value} {xs : List UInt8} {n : Int} (h : Mem.Own fB base 5 w va xs) (hb : base ≤ w.heap.size) (hl : xs.length ≤ 10000000) (h2 : Mem.Own fB w.heap.size 5 w2 vb (numB n)) (hbw : Below w.heap.size w w2) :
 Calls Tryz.prog 62 #[va, vb] w2 (AppPost base (xs ++ numB n) w2) :=
 Join_any (h.below hbw) h2 (apart_new h h2) (Nat.le_trans hb hbw.size) (by have := numB_len n; omega)
theorem numsB_consS (n : Int) (ns : List Int) : numsB (n :: ns) = numB n ++ numsB ns := by unfold numsB; rw [List.flatMap_cons]
def IsRel (ns : List Int) (w0 : World) (ov iv : Value) (wr : World) : Prop :=
 ∃ k : Nat, k ≤ ns.length ∧ iv = .int .i64 k ∧ Mem.Own fB w0.heap.size 5 wr ov (numB ns.length ++ numsB (ns.take k)) ∧ Below w0.heap.size w0 wr
set_option maxRecDepth 100000 in
set_option maxHeartbeats 2000000 in
theorem RInts_any {w : World} {B : Option Addr} {d : Nat} {ns : List Int} (hs : Sl fI w B ns) (hl2 : ns.length ≤ 1000) (hn : ∀ n ∈ ns, 0 ≤ n ∧ n ≤ 9223372036854775807) :
 Calls Tryz.prog 74 #[.slice B ns.length d] w (AppPost w.heap.size (numsB ((ns.length : Int) :: ns)) w) := by
 rw [numsB_consS]
 have HS := Lib.hid hs; clear hs
 have HN := Lib.hid hn; clear hn
 have HNM := Lib.hid (RNum_pos (w := w) (ns.length : Int) (by omega) (by omega))
 go_enter Tryz.func74, Tryz.ntmps74
 go_wp2_with fail
 (with_reducible refine HNM.out.mono ?_); rintro e w2 ⟨vb, rfl, ho2, hb2⟩
 have HO2 := Lib.hid ho2
 have HB2 := Lib.hid hb2; clear hb2 ho2
 go_wp2_with fail
 go_loopw [3, 4] (fun ov iv wr => IsRel ns w ov iv wr) (fun _ iv _ => ns.length - (intOf iv).toNat)
 case atStart => exact ⟨0, Nat.zero_le _, rfl, by rw [List.take_zero]; unfold numsB; rw [List.flatMap_nil, List.append_nil]; exact HO2.out, HB2.out⟩
 case round =>
  obtain ⟨k, hk, rfl, hown, hbw⟩ := hrel
  have HOWN := Lib.hid hown; clear hown
  have HBW := Lib.hid hbw; clear hbw
  by_cases hlt : k < ns.length
  ·obtain ⟨b, o, rfl, _, hc⟩ := (HS.out.below HBW.out).at hlt
   have c1 := hc k hlt
   obtain ⟨y, hy⟩ : ∃ y, y = ns[k] := ⟨_, rfl⟩
   rw [← hy] at c1; unfold fI at c1
   have hyn := HN.out ns[k] (List.getElem_mem hlt)
   rw [← hy] at hyn
   have HTK : Hid (ns.take (k + 1) = ns.take k ++ [y]) := by show _ = _; rw [hy]; exact List.take_succ_eq_append_getElem hlt
   have HNK := Lib.hid (RNum_pos (w := wr) y hyn.1 hyn.2)
   clear hy hc
   have HXL : Hid ((numB ns.length ++ numsB (ns.take k)).length ≤ 10000000) := by
    show _ ≤ _
    rw [List.length_append]
    have h3 := numsB_len (ns.take k)
    rw [List.length_take] at h3
    have h4 := (numB_len ns.length).2
    omega
   have hk0 : (0 : Int) ≤ (k : Int) := by omega
   have hk1 : (k : Int) < (ns.length : Int) := by omega
   go_wp2_with fail
   (with_reducible refine HNK.out.mono ?_); rintro e w4 ⟨vb4, rfl, ho4, hb4⟩
   have HJ4 := Lib.hid (joinNum HOWN.out HBW.out.size HXL.out ho4 hb4)
   have HB4 := Lib.hid hb4; clear hb4 ho4
   go_wp2_with fail
   (with_reducible refine HJ4.out.mono ?_); rintro e w5 ⟨va5, rfl, ho5, hb5⟩
   go_wp2_with fail
   go_roundw
   case rel => exact ⟨k + 1, by omega, by go_num, by rw [HTK.out, numsB_snoc, ← List.append_assoc]; exact ho5, HBW.out.trans ((HB4.out.mono HBW.out.size).trans hb5)⟩
   case measure => simp [intOf]; omega
  ·have hk9 : k = ns.length := by omega
   subst hk9
   rw [List.take_length] at HOWN
   go_wp2_with fail
   go_ret
   exact ⟨_, rfl, HOWN.out, HBW.out⟩
end Go.Proofs.YtfpomllhkbbipaaGreatDoor
namespace Go.Proofs.YtfpomllhkbbipaaGreatDoor
open Go Go.RowKit Go.Maps Go.Lib Mem Pk
def AtOr (w : World) (va v : Value) : Prop := v.ownBlock = va.ownBlock ∨ ∃ g, v.ownBlock = some g ∧ w.heap.size ≤ g
theorem AtOr.step {w wr : World} {va v v' : Value} (h : AtOr w va v) (hw : w.heap.size ≤ wr.heap.size) (hat : v'.ownBlock = v.ownBlock ∨ v'.ownBlock = some (wr.heap.size + 1)) : AtOr w va v' := by
 rcases hat with hat | hat
 ·unfold AtOr; rw [hat]; exact h
 ·exact .inr ⟨_, hat, by omega⟩
theorem AtOr.inside {w : World} {va v : Value} (h : AtOr w va v) {k : Nat} (hk : v.ownBlock = some k) (hlt : k < w.heap.size) : va.ownBlock = some k := by
 rcases h with h | ⟨g, h1, h2⟩
 ·rw [← h]; exact hk
 ·rw [hk] at h1; injection h1 with h1; omega
def JfPost (base : Nat) (va : Value) (ys : List UInt8) (w : World) (e : Ending) (w' : World) : Prop :=
 ∃ v', e = .returned v' ∧ Mem.Own fB base 5 w' v' ys ∧ AtOr w va v' ∧ Frm (fun g => va.ownBlock = some g) w w'
def JfRel (base base' : Nat) (va : Value) (xs ys : List UInt8) (vb : Value) (w : World) (av iv : Value) (wr : World) : Prop :=
 ∃ k : Nat, k ≤ ys.length ∧ iv = .int .i64 k ∧ Mem.Own fB base 5 wr av (xs ++ ys.take k) ∧ Mem.Own fB base' 5 wr vb ys ∧ Apart av vb ∧ AtOr w va av ∧ Frm (fun g => va.ownBlock = some g) w wr
set_option maxRecDepth 100000 in
set_option maxHeartbeats 2000000 in
theorem Join_f {base base' : Nat} {w : World} {va vb : Value} {xs ys : List UInt8} (h : Mem.Own fB base 5 w va xs) (h' : Mem.Own fB base' 5 w vb ys) (hap : Apart va vb) (hb : base ≤ w.heap.size) (hl : xs.length + ys.length ≤ 140737488355000) :
 Calls Tryz.prog 62 #[va, vb] w (JfPost base va (xs ++ ys) w) := by
 obtain ⟨B, c, rfl⟩ := h'.form
 have H := Lib.hid h; clear h
 have H' := Lib.hid h'; clear h'
 have HAP := Lib.hid hap; clear hap
 go_enter Tryz.func62, Tryz.ntmps62
 go_wp2_with fail
 go_loopw [0, 5] (fun av iv wr => JfRel base base' va xs ys (.slice B ys.length c) w av iv wr) (fun _ iv _ => ys.length - (intOf iv).toNat)
 case atStart => exact ⟨0, Nat.zero_le _, rfl, by rw [List.take_zero, List.append_nil]; exact H.out, H'.out, HAP.out, .inl rfl, Frm.refl _ _⟩
 case round =>
  obtain ⟨k, hk, rfl, hown, hown', hap, hat, hbw⟩ := hrel
  have HAT := Lib.hid hat; clear hat
  have HOWN := Lib.hid hown; clear hown
  have HOWN' := Lib.hid hown'; clear hown'
  have HAP2 := Lib.hid hap; clear hap
  have HBW := Lib.hid hbw; clear hbw
  have hwz := HBW.out.size
  have hbz := Nat.le_trans hb hwz
  by_cases hlt : k < ys.length
  ·obtain ⟨b, o, rfl, _, hc⟩ := HOWN'.out.sl.2.at hlt
   have c1 := hc k hlt
   obtain ⟨y, hy⟩ : ∃ y, y = ys[k] := ⟨_, rfl⟩
   rw [← hy] at c1; unfold fB at c1
   have HTK : Hid (ys.take (k + 1) = ys.take k ++ [y]) := by show _ = _; rw [hy]; exact List.take_succ_eq_append_getElem hlt
   clear hy hc
   have hxl : (xs ++ ys.take k).length ≤ xs.length + ys.length := by rw [List.length_append, List.length_take]; omega
   have H63 : Hid ((xs ++ ys.take k).length + 1 ≤ maxLen) := by show _ ≤ _; unfold maxLen; omega
   have HBY : Hid (((xs ++ ys.take k).length + 1) * 1 ≤ 140737488355328) := by show _ ≤ _; omega
   clear hxl
   have hk0 : (0 : Int) ≤ (k : Int) := by omega
   have hk1 : (k : Int) < (ys.length : Int) := by omega
   go_wp2_with (at_builtin; refine wpList_append1at (f := fB) rfl (.tmp 12) (.tmp 17) 36 rfl u8T y (fB_oneJ _) rfl HOWN.out rfl rfl H63.out HBY.out hbz ?_; intro v7 w7 ho7 hg7 hat7)
   go_roundw
   case rel => exact ⟨k + 1, by omega, by go_num, by rw [HTK.out, ← List.append_assoc]; exact ho7, (HOWN'.out.alloc _).other HAP2.out.symm hg7, HAP2.out.grown HOWN'.out hat7, HAT.out.step hwz hat7, (HBW.out.alloc _).grown hg7 (fun k hk hlt => HAT.out.inside hk hlt)⟩
   case measure => simp [intOf]; omega
  ·have hk9 : k = ys.length := by omega
   subst hk9
   rw [List.take_length] at HOWN
   go_wp2_with fail
   go_ret
   exact ⟨_, rfl, HOWN.out, HAT.out, HBW.out⟩
end Go.Proofs.YtfpomllhkbbipaaGreatDoor
namespace Go.Proofs.YtfpomllhkbbipaaGreatDoor.Pk
open Go
def crcS (s : Nat) : Nat := if s % 2 = 1 then s / 2 ^^^ 2197175160 else s / 2
def crcN : Nat → Nat → Nat
 | 0, s => s
 | k + 1, s => crcS (crcN k s)
def crcD (c k s : Nat) : Nat := if s % 2 ≠ c / 2 ^ k % 2 then s / 2 ^^^ 2197175160 else s / 2
def crcE (c : Nat) : Nat → Nat → Nat
 | 0, s => s
 | k + 1, s => crcD c k (crcE c k s)
theorem xor_half (d e : Nat) : (d ^^^ e) / 2 = d / 2 ^^^ e / 2 := by
 have h := @Nat.shiftRight_xor_distrib 1 d e
 simpa [Nat.shiftRight_eq_div_pow] using h
theorem crc_step (d e : Nat) : crcS (d ^^^ e) = (if d % 2 ≠ e % 2 then d / 2 ^^^ 2197175160 else d / 2) ^^^ e / 2 := by
 unfold crcS
 have h2 : (d ^^^ e) % 2 = 1 ↔ ¬ (d % 2 = 1 ↔ e % 2 = 1) := Nat.xor_mod_two_eq_one
 rw [xor_half]
 by_cases h3 : (d ^^^ e) % 2 = 1
 ·rw [if_pos h3, if_pos (by have h4 := h2.1 h3; intro h5; exact h4 (by rw [h5]))]
  rw [Nat.xor_assoc, Nat.xor_assoc, Nat.xor_comm (e / 2)]
 ·have h4 : d % 2 = 1 ↔ e % 2 = 1 := Classical.byContradiction fun h => h3 (h2.2 h)
  rw [if_neg h3, if_neg (by
   intro h5
   rcases Nat.mod_two_eq_zero_or_one d with h6 | h6 <;> rcases Nat.mod_two_eq_zero_or_one e with h7 | h7
   ·exact h5 (by rw [h6, h7])
   ·have := h4.2 h7; omega
   ·have := h4.1 h6; omega
   ·exact h5 (by rw [h6, h7]))]
theorem crc_same (c : Nat) : ∀ (k s : Nat), crcN k (s ^^^ c) = crcE c k s ^^^ (c / 2 ^ k)
 | 0, s => by simp [crcN, crcE]
 | k + 1, s => by
   have hd : c / 2 ^ (k + 1) = c / 2 ^ k / 2 := by rw [Nat.pow_succ, Nat.div_div_eq_div_mul]
   show crcS (crcN k (s ^^^ c)) = crcD c k (crcE c k s) ^^^ (c / 2 ^ (k + 1))
   rw [crc_same c k s, hd, crc_step]
   rfl
def crcB (s c : Nat) : Nat := crcN 8 (s ^^^ c)
theorem crcB_doc {s c : Nat} (h : c < 256) : crcB s c = crcE c 8 s := by
 unfold crcB
 rw [crc_same, Nat.div_eq_of_lt (by omega), Nat.xor_zero]
theorem crcS_lt {s : Nat} (h : s < 4294967296) : crcS s < 4294967296 := by
 unfold crcS
 split
 ·exact Nat.xor_lt_two_pow (n := 32) (by omega) (by decide)
 ·omega
def sumS : List UInt8 → Nat → Nat
 | [], s => s
 | b :: bs, s => sumS bs (crcB s b.toNat)
theorem sumS_append : ∀ (xs ys : List UInt8) (s : Nat), sumS (xs ++ ys) s = sumS ys (sumS xs s)
 | [], _ys, _s => rfl
 | _x :: xs, ys, _s => sumS_append xs ys _
def sumN (bs : List UInt8) : Nat := 4294967295 - sumS bs 4294967295
theorem sumN_lt (bs : List UInt8) : sumN bs < 4294967296 := by unfold sumN; omega
def wordB (u : Nat) : List UInt8 := [UInt8.ofNat (u % 256), UInt8.ofNat (u / 256 % 256), UInt8.ofNat (u / 65536 % 256), UInt8.ofNat (u / 16777216 % 256)]
theorem wordB_len (u : Nat) : (wordB u).length = 4 := rfl
def unwordN (bs : List UInt8) : Nat := (bs.getD 0 0).toNat + (bs.getD 1 0).toNat * 256 + (bs.getD 2 0).toNat * 65536 + (bs.getD 3 0).toNat * 16777216
theorem byte_of {n : Nat} (h : n < 256) : (UInt8.ofNat n).toNat = n := by rw [UInt8.toNat_ofNat']; omega
theorem unword_word {u : Nat} (h : u < 4294967296) (r : List UInt8) : unwordN (wordB u ++ r) = u := by
 unfold unwordN wordB
 simp only [List.cons_append, List.getD_cons_zero, List.getD_cons_succ]
 rw [byte_of (by omega), byte_of (by omega), byte_of (by omega), byte_of (by omega)]
 omega
theorem unwordN_lt (bs : List UInt8) : unwordN bs < 4294967296 := by
 unfold unwordN
 have h0 := (bs.getD 0 0).toNat_lt
 have h1 := (bs.getD 1 0).toNat_lt
 have h2 := (bs.getD 2 0).toNat_lt
 have h3 := (bs.getD 3 0).toNat_lt
 omega
theorem word_unword {a b c d : UInt8} (r : List UInt8) : wordB (unwordN (a :: b :: c :: d :: r)) = [a, b, c, d] := by
 have h0 := a.toNat_lt
 have h1 := b.toNat_lt
 have h2 := c.toNat_lt
 have h3 := d.toNat_lt
 unfold wordB unwordN
 simp only [List.getD_cons_zero, List.getD_cons_succ]
 have e0 : (a.toNat + b.toNat * 256 + c.toNat * 65536 + d.toNat * 16777216) % 256 = a.toNat := by omega
 have e1 : (a.toNat + b.toNat * 256 + c.toNat * 65536 + d.toNat * 16777216) / 256 % 256 = b.toNat := by omega
 have e2 : (a.toNat + b.toNat * 256 + c.toNat * 65536 + d.toNat * 16777216) / 65536 % 256 = c.toNat := by omega
 have e3 : (a.toNat + b.toNat * 256 + c.toNat * 65536 + d.toNat * 16777216) / 16777216 % 256 = d.toNat := by omega
 rw [e0, e1, e2, e3, UInt8.ofNat_toNat, UInt8.ofNat_toNat, UInt8.ofNat_toNat, UInt8.ofNat_toNat]
def frameB (p : List UInt8) : List UInt8 := wordB p.length ++ wordB (sumN p) ++ p
def unframe (bs : List UInt8) : List UInt8 × Nat × Int :=
 if bs.length < 8 then ([], 0, 31)
 else if 4096 < unwordN bs then ([], 0, 2)
 else if bs.length < 8 + unwordN bs then ([], 0, 31)
 else if sumN ((bs.drop 8).take (unwordN bs)) = unwordN (bs.drop 4) then ((bs.drop 8).take (unwordN bs), 8 + unwordN bs, 0)
 else ([], 0, 32)
theorem frameB_len (p : List UInt8) : (frameB p).length = 8 + p.length := by unfold frameB; rw [List.length_append, List.length_append, wordB_len, wordB_len]
theorem unframe_frame {p : List UInt8} (hp : p.length ≤ 4096) (r : List UInt8) : unframe (frameB p ++ r) = (p, 8 + p.length, 0) := by
 have e1 : unwordN (frameB p ++ r) = p.length := by unfold frameB; rw [List.append_assoc, List.append_assoc]; exact unword_word (by omega) _
 have e2 : (frameB p ++ r).drop 4 = wordB (sumN p) ++ (p ++ r) := by
  unfold frameB
  rw [List.append_assoc, List.append_assoc, List.drop_left' (wordB_len _)]
 have e3 : (frameB p ++ r).drop 8 = p ++ r := by
  rw [show (8 : Nat) = 4 + 4 from rfl, ← List.drop_drop, e2, List.drop_left' (wordB_len _)]
 unfold unframe
 rw [e1, e2, e3, unword_word (sumN_lt p), List.take_left, if_neg (by rw [List.length_append, frameB_len]; omega), if_neg (by omega), if_neg (by rw [List.length_append, frameB_len]; omega), if_pos rfl]
theorem unframe_ok {bs p : List UInt8} {n : Nat} (h : unframe bs = (p, n, 0)) : bs.take n = frameB p ∧ n = 8 + p.length ∧ n ≤ bs.length ∧ p.length ≤ 4096 ∧ p = (bs.drop 8).take p.length := by
 unfold unframe at h
 by_cases h1 : bs.length < 8
 ·rw [if_pos h1] at h; cases h
 ·rw [if_neg h1] at h
  by_cases h2 : 4096 < unwordN bs
  ·rw [if_pos h2] at h; cases h
  ·rw [if_neg h2] at h
   by_cases h3 : bs.length < 8 + unwordN bs
   ·rw [if_pos h3] at h; cases h
   ·rw [if_neg h3] at h
    by_cases h4 : sumN ((bs.drop 8).take (unwordN bs)) = unwordN (bs.drop 4)
    ·rw [if_pos h4] at h
     injection h with hp h; injection h with hn _
     have hpl : p.length = unwordN bs := by rw [← hp, List.length_take, List.length_drop]; omega
     refine ⟨?_, by omega, by omega, by omega, by rw [hpl]; exact hp.symm⟩
     have hw : ∀ xs : List UInt8, 4 ≤ xs.length → wordB (unwordN xs) = xs.take 4 := by
      intro xs hx
      match xs, hx with
      | a :: b :: c :: d :: r, _ => rw [word_unword]; rfl
     unfold frameB
     rw [hpl, ← hp, h4, hw bs (by omega), hw (bs.drop 4) (by rw [List.length_drop]; omega), ← hn]
     have e1 : bs.take (8 + unwordN bs) = bs.take 8 ++ (bs.drop 8).take (unwordN bs) := List.take_add
     have e2 : bs.take 8 = bs.take 4 ++ (bs.drop 4).take 4 := List.take_add (i := 4) (j := 4)
     rw [e1, e2]
    ·rw [if_neg h4] at h; cases h
end Go.Proofs.YtfpomllhkbbipaaGreatDoor.Pk
namespace Go.Proofs.YtfpomllhkbbipaaGreatDoor
open Go Go.RowKit Go.Maps Go.Lib Mem Pk
def sum0 : Nat := 4294967295
def SmRel (bs : List UInt8) (w : World) (sv iv : Value) (wr : World) : Prop := ∃ k s : Nat, k ≤ bs.length ∧ s = sumS (bs.take k) sum0 ∧ s < 2 ^ 32 ∧ sv = .int .u32 (s : Int) ∧ iv = .int .i64 (k : Int) ∧ w = wr
def SmIn (x : Nat) (w : World) (sv iv : Value) (wr : World) : Prop := ∃ j s : Nat, j ≤ 8 ∧ s = crcN j x ∧ s < 2 ^ 32 ∧ sv = .int .u32 (s : Int) ∧ iv = .int .i64 (j : Int) ∧ w = wr
theorem sumS_snoc {bs : List UInt8} {k : Nat} (h : k < bs.length) (s : Nat) : sumS (bs.take (k + 1)) s = crcB (sumS (bs.take k) s) bs[k].toNat := by
 rw [List.take_succ_eq_append_getElem h, sumS_append]; rfl
structure CrcLine (s : Nat) (b m q h z : Nat) : Prop where
 r1 : bits BinOp.and IntKind.u32 (s : Int) 1 = (b : Int)
 r2 : IntKind.u32.wrap (-(b : Int)) = (m : Int)
 r3 : bits BinOp.and IntKind.u32 2197175160 (m : Int) = (q : Int)
 r4 : (s : Int) / 2 = (h : Int)
 r5 : bits BinOp.xor IntKind.u32 (h : Int) (q : Int) = (z : Int)
theorem crc_line {s : Nat} (hs : s < 2 ^ 32) : ∃ b m q h, CrcLine s b m q h (crcS s) := by
 have hs' : s < 4294967296 := hs
 have h1 : bits BinOp.and IntKind.u32 (s : Int) 1 = ((s % 2 : Nat) : Int) := by
  have h := u32_and_nat s 1 hs' (by decide)
  rw [nat_mask1] at h; exact h
 have h4 : (s : Int) / 2 = ((s / 2 : Nat) : Int) := by omega
 unfold crcS
 by_cases hb : s % 2 = 1
 ·rw [if_pos hb]
  refine ⟨1, 4294967295, 2197175160, s / 2, by rw [h1, hb], by rw [IntKind.wrap_u32]; rfl, ?_, h4, u32_xor_nat _ _ (by omega) (by decide)⟩
  have h := u32_and_nat 2197175160 4294967295 (by decide) (by decide)
  rw [show 2197175160 &&& 4294967295 = 2197175160 by decide] at h; exact h
 ·rw [if_neg hb]
  refine ⟨0, 0, 0, s / 2, by rw [h1, show s % 2 = 0 by omega], by rw [IntKind.wrap_u32]; rfl, ?_, h4, ?_⟩
  ·have h := u32_and_nat 2197175160 0 (by decide) (by decide)
   rw [Nat.and_zero] at h; exact h
  ·have h := u32_xor_nat (s / 2) 0 (by omega) (by decide)
   rw [Nat.xor_zero] at h; exact h
theorem u32_not {s : Nat} (h : s < 2 ^ 32) : bits BinOp.xor IntKind.u32 IntKind.u32.max (s : Int) = ((4294967295 - s : Nat) : Int) := by
 have h' : s < 4294967296 := h
 show IntKind.u32.wrap ((BitVec.ofInt 32 4294967295 ^^^ BitVec.ofInt 32 (s : Int)).toNat : Int) = _
 have h0 : BitVec.ofInt 32 4294967295 = BitVec.allOnes 32 := by decide
 rw [h0, BitVec.xor_comm, BitVec.xor_allOnes, BitVec.toNat_not, ofInt_u32 s h', IntKind.wrap_u32]; omega
def NumIs (v : Value) (w : World) (e : Ending) (w' : World) : Prop := e = .returned v ∧ w = w'
set_option maxRecDepth 100000 in
set_option maxHeartbeats 4000000 in
theorem Sum_any {w : World} {A : Option Addr} {c : Nat} {bs : List UInt8} (h : Sl fB w A bs) :
 Calls Tryz.prog 108 #[.slice A bs.length c] w (NumIs (.int .u32 (sumN bs)) w) := by
 have hl := h.len
 have H := Lib.hid h; clear h
 go_enter Tryz.func108, Tryz.ntmps108
 go_wp2_with fail
 go_loopw [3, 8] (fun sv iv wr => SmRel bs w sv iv wr) (fun _ iv _ => bs.length - (intOf iv).toNat)
 case atStart => exact ⟨0, sum0, Nat.zero_le _, rfl, by decide, rfl, rfl, rfl⟩
 case round =>
  obtain ⟨k, s, hk, hs, hs32, rfl, rfl, rfl⟩ := hrel
  have HS := Lib.hid hs; clear hs
  have HS32 := Lib.hid hs32; clear hs32
  by_cases hlt : k < bs.length
  ·obtain ⟨b0, o0, rfl, _, hcl⟩ := H.out.at hlt
   have c1 := hcl k hlt
   obtain ⟨n, hn⟩ : ∃ n, n = bs[k].toNat := ⟨_, rfl⟩
   have c2 : w.cell? ⟨b0, o0 + k, none⟩ = some (.int .u8 (n : Int)) := by rw [hn]; exact c1
   have hn256 : n < 256 := by rw [hn]; exact (bs[k]).toNat_lt
   have HN := Lib.hid hn; clear hn
   have tk0 : (0 : Int) ≤ (k : Int) := by omega
   have tk1 : (k : Int) < (bs.length : Int) := by omega
   have e1 : IntKind.u32.wrap (n : Int) = (n : Int) := by rw [IntKind.wrap_u32]; omega
   obtain ⟨x, hx⟩ : ∃ x, x = s ^^^ n := ⟨_, rfl⟩
   have e2 : bits BinOp.xor IntKind.u32 (s : Int) (n : Int) = (x : Int) := by rw [hx]; exact u32_xor_nat _ _ HS32.out (by omega)
   have HX32 : Hid (x < 2 ^ 32) := Lib.hid (by rw [hx]; exact Nat.xor_lt_two_pow HS32.out (by omega))
   have HX := Lib.hid hx; clear hx hcl c1
   go_wp2_with fail
   clear e1 e2 c2
   go_loopw [3, 16] (fun sv iv wx => SmIn x w sv iv wx) (fun _ iv _ => 8 - (intOf iv).toNat)
   case atStart => exact ⟨0, x, by omega, rfl, HX32.out, rfl, rfl, rfl⟩
   case round =>
    obtain ⟨j, y, hj, hy, hy32, rfl, rfl, rfl⟩ := hrel
    have HY := Lib.hid hy; clear hy
    have HY32 := Lib.hid hy32; clear hy32
    by_cases hj8 : j < 8
    ·have tj : (j : Int) < 8 := by omega
     obtain ⟨b, m, q, h, hc⟩ := crc_line HY32.out
     obtain ⟨z, hz⟩ : ∃ z, z = crcS y := ⟨_, rfl⟩
     rw [← hz] at hc
     obtain ⟨r1, r2, r3, r4, r5⟩ := hc
     have HZ : Hid (z = crcN (j + 1) x) := Lib.hid (by rw [hz, HY.out]; rfl)
     have HZ32 : Hid (z < 2 ^ 32) := Lib.hid (by rw [hz]; exact crcS_lt HY32.out)
     clear hz
     go_wp2_with fail
     go_roundw
     case rel => exact ⟨j + 1, z, by omega, HZ.out, HZ32.out, rfl, by go_num, rfl⟩
     case measure => simp [intOf]; omega
    ·have hj9 : j = 8 := by omega
     subst hj9
     have hs' : y = sumS (bs.take (k + 1)) sum0 := by rw [HY.out, HX.out, sumS_snoc hlt, ← HS.out, ← HN.out]; rfl
     have HS' := Lib.hid hs'; clear hs'
     go_wp2_with fail
     go_roundw
     case rel => exact ⟨k + 1, y, by omega, HS'.out, HY32.out, rfl, by go_num, rfl⟩
     case measure => simp [intOf]; omega
  ·have hke : k = bs.length := by omega
   subst hke
   have tk1 : ¬ (bs.length : Int) < (bs.length : Int) := by omega
   rw [List.take_length] at HS
   have hnot := u32_not HS32.out
   go_wp2_with fail
   go_ret
   exact ⟨by unfold sumN; rw [HS.out]; rfl, rfl⟩
def SdIn (n s0 : Nat) (w : World) (sv iv : Value) (wr : World) : Prop := ∃ j s : Nat, j ≤ 8 ∧ s = crcE n j s0 ∧ s < 2 ^ 32 ∧ sv = .int .u32 (s : Int) ∧ iv = .int .i64 (j : Int) ∧ w = wr
set_option maxRecDepth 100000 in
set_option maxHeartbeats 4000000 in
theorem RSum_any {w : World} {A : Option Addr} {c : Nat} {bs : List UInt8} (h : Sl fB w A bs) :
 Calls Tryz.prog 96 #[.slice A bs.length c] w (NumIs (.int .u32 (sumN bs)) w) := by
 have hl := h.len
 have H := Lib.hid h; clear h
 go_enter Tryz.func96, Tryz.ntmps96
 go_wp2_with fail
 go_loopw [3, 4] (fun sv iv wr => SmRel bs w sv iv wr) (fun _ iv _ => bs.length - (intOf iv).toNat)
 case atStart => exact ⟨0, sum0, Nat.zero_le _, rfl, by decide, rfl, rfl, rfl⟩
 case round =>
  obtain ⟨k, s, hk, hs, hs32, rfl, rfl, rfl⟩ := hrel
  have HS := Lib.hid hs; clear hs
  have HS32 := Lib.hid hs32; clear hs32
  by_cases hlt : k < bs.length
  ·obtain ⟨b0, o0, rfl, _, hcl⟩ := H.out.at hlt
   have c1 := hcl k hlt
   obtain ⟨n, hn⟩ : ∃ n, n = bs[k].toNat := ⟨_, rfl⟩
   have c2 : w.cell? ⟨b0, o0 + k, none⟩ = some (.int .u8 (n : Int)) := by rw [hn]; exact c1
   have hn256 : n < 256 := by rw [hn]; exact (bs[k]).toNat_lt
   have HN := Lib.hid hn; clear hn
   have tk0 : (0 : Int) ≤ (k : Int) := by omega
   have tk1 : (k : Int) < (bs.length : Int) := by omega
   clear hcl c1
   go_wp2_with fail
   go_loopw [3, 5] (fun sv iv wx => SdIn n s w sv iv wx) (fun _ iv _ => 8 - (intOf iv).toNat)
   case atStart => exact ⟨0, s, by omega, rfl, HS32.out, rfl, rfl, rfl⟩
   case round =>
    obtain ⟨j, y, hj, hy, hy32, rfl, rfl, rfl⟩ := hrel
    have HY := Lib.hid hy; clear hy
    have HY32 := Lib.hid hy32; clear hy32
    by_cases hj8 : j < 8
    ·have tj : (j : Int) < 8 := by omega
     have tj0 : (0 : Int) ≤ (j : Int) := by omega
     obtain ⟨g, hg⟩ : ∃ g, g = n / 2 ^ j := ⟨_, rfl⟩
     have hg256 : g < 256 := by rw [hg]; exact Nat.lt_of_le_of_lt (Nat.div_le_self _ _) hn256
     have e3 : (n : Int) / 2 ^ j = (g : Int) := by rw [hg]; simp
     have e4 : IntKind.u32.wrap (g : Int) = (g : Int) := by rw [IntKind.wrap_u32]; omega
     obtain ⟨p, hp⟩ : ∃ p, p = g % 2 := ⟨_, rfl⟩
     obtain ⟨q, hq⟩ : ∃ q, q = y % 2 := ⟨_, rfl⟩
     obtain ⟨h2, hh⟩ : ∃ h, h = y / 2 := ⟨_, rfl⟩
     have e5 : (g : Int) % 2 = (p : Int) := by omega
     have e6 : (y : Int) % 2 = (q : Int) := by omega
     have e7 : (y : Int) / 2 = (h2 : Int) := by omega
     have e7b : (h2 : Int) % 4294967296 = (h2 : Int) := by have : y < 4294967296 := HY32.out; omega
     have hh32 : h2 < 4294967296 := by have : y < 4294967296 := HY32.out; omega
     obtain ⟨x, hx⟩ : ∃ x, x = h2 ^^^ 2197175160 := ⟨_, rfl⟩
     have e8 : bits BinOp.xor IntKind.u32 (h2 : Int) 2197175160 = (x : Int) := by rw [hx]; exact u32_xor_nat h2 2197175160 hh32 (by decide)
     have HE : Hid (crcE n (j + 1) s = if q ≠ p then x else h2) := Lib.hid (by
      show crcD n j (crcE n j s) = _
      rw [← HY.out, hx, hq, hp, hh, hg]; rfl)
     have HX32 : Hid (x < 2 ^ 32 ∧ h2 < 2 ^ 32) := Lib.hid ⟨by rw [hx]; exact Nat.xor_lt_two_pow (n := 32) hh32 (by decide), hh32⟩
     clear hg hp hq hh hx hh32
     by_cases hpq : q = p
     ·have t1 : ((q : Int) == (p : Int)) = true := by rw [beq_iff_eq]; omega
      have HP := Lib.hid hpq; clear hpq
      go_wp2_with fail
      go_roundw
      case rel => exact ⟨j + 1, h2, by omega, by rw [HE.out, if_neg (fun h => h HP.out)], HX32.out.2, rfl, by go_num, rfl⟩
      case measure => simp [intOf]; omega
     ·have t1 : ((q : Int) == (p : Int)) = false := by rw [beq_eq_false_iff_ne]; omega
      have HP := Lib.hid hpq; clear hpq
      go_wp2_with fail
      go_roundw
      case rel => exact ⟨j + 1, x, by omega, by rw [HE.out, if_pos HP.out], HX32.out.1, rfl, by go_num, rfl⟩
      case measure => simp [intOf]; omega
    ·have hj9 : j = 8 := by omega
     subst hj9
     have hs' : y = sumS (bs.take (k + 1)) sum0 := by rw [HY.out, sumS_snoc hlt, ← HS.out, ← HN.out, crcB_doc hn256]
     have HS' := Lib.hid hs'; clear hs'
     go_wp2_with fail
     go_roundw
     case rel => exact ⟨k + 1, y, by omega, HS'.out, HY32.out, rfl, by go_num, rfl⟩
     case measure => simp [intOf]; omega
  ·have hke : k = bs.length := by omega
   subst hke
   have tk1 : ¬ (bs.length : Int) < (bs.length : Int) := by omega
   rw [List.take_length] at HS
   have hs4 : s < 4294967296 := HS32.out
   have e9 : IntKind.u32.wrap (4294967295 - (s : Int)) = ((4294967295 - s : Nat) : Int) := by rw [IntKind.wrap_u32]; omega
   go_wp2_with fail
   go_ret
   exact ⟨by unfold sumN; rw [HS.out]; rfl, rfl⟩
end Go.Proofs.YtfpomllhkbbipaaGreatDoor
namespace Go.Proofs.YtfpomllhkbbipaaGreatDoor
open Go Go.RowKit Go.Maps Go.Lib Mem
theorem sizeU8 (w : World) : (sizeOf 5).run Tryz.prog w = .ok 1 w := by kernel_rfl
theorem cutB (A : Option Addr) (len cap l : Nat) (h1 : l ≤ len) (w : World) : (Instr.slice 36 (.slice A len cap) (some (.int .i64 (l : Int))) none none).run Tryz.prog w = .ok (.slice (partA A cap l) (len - l) (cap - l)) w :=
 cut_l Tryz.underlying36 sizeU8 A len cap l l rfl h1 w
end Go.Proofs.YtfpomllhkbbipaaGreatDoor
namespace Go.Proofs.YtfpomllhkbbipaaGreatDoor
open Go Go.RowKit Go.Maps Go.Lib Mem Pk
theorem Mem.Own.lit {α : Type} {f : α → Value} {base : Nat} {e : TypeId} {w : World} (xs : List α) (hm : xs.length ≤ maxLen) (hb : base ≤ w.heap.size) :
 Mem.Own f base e (w.alloc (.cells (xs.map f).toArray e)) (.slice (some ⟨w.heap.size, 0, none⟩) xs.length xs.length) xs := by
 refine ⟨by simp, .inr ⟨w.heap.size, xs.length, (xs.map f).toArray, rfl, hb, heap_alloc_new w _, Nat.le_refl _, hm, by simp, ?_⟩⟩
 rw [Nat.mul_one]
 exact List.take_of_length_le (by simp)
theorem word_row (u : Nat) : (wordB u).map fB = [.int .u8 ((u % 256 : Nat) : Int), .int .u8 ((u / 256 % 256 : Nat) : Int), .int .u8 ((u / 65536 % 256 : Nat) : Int), .int .u8 ((u / 16777216 % 256 : Nat) : Int)] := by
 have h : ∀ n : Nat, n < 256 → fB (UInt8.ofNat n) = .int .u8 (n : Int) := fun n hn => by unfold fB; rw [byte_of hn]
 unfold wordB
 simp only [List.map_cons, List.map_nil]
 rw [h _ (by omega), h _ (by omega), h _ (by omega), h _ (by omega)]
theorem word_own {w : World} (u : Nat) : Mem.Own fB w.heap.size 5 (w.alloc (.cells #[.int .u8 ((u % 256 : Nat) : Int), .int .u8 ((u / 256 % 256 : Nat) : Int), .int .u8 ((u / 65536 % 256 : Nat) : Int), .int .u8 ((u / 16777216 % 256 : Nat) : Int)] 5)) (.slice (some ⟨w.heap.size, 0, none⟩) 4 4) (wordB u) := by
 have h := Mem.Own.lit (f := fB) (base := w.heap.size) (e := 5) (w := w) (wordB u) (by rw [wordB_len]; decide) (Nat.le_refl _)
 rw [word_row, wordB_len] at h
 exact h
set_option maxRecDepth 100000 in
theorem word_any {w : World} (u : Nat) (hu : u < 2 ^ 32) : Calls Tryz.prog 107 #[.int .u32 (u : Int)] w (AppPost w.heap.size (wordB u) w) := by
 have hu' : u < 4294967296 := hu
 have HO := word_own (w := w) u
 obtain ⟨x0, h0⟩ : ∃ x, x = u % 256 := ⟨_, rfl⟩
 obtain ⟨x1, h1⟩ : ∃ x, x = u / 256 % 256 := ⟨_, rfl⟩
 obtain ⟨x2, h2⟩ : ∃ x, x = u / 65536 % 256 := ⟨_, rfl⟩
 obtain ⟨x3, h3⟩ : ∃ x, x = u / 16777216 % 256 := ⟨_, rfl⟩
 have a0 : (u : Int) % 256 = (x0 : Int) := by omega
 have a1 : (u : Int) / 256 % 256 = (x1 : Int) := by omega
 have a2 : (u : Int) / 65536 % 256 = (x2 : Int) := by omega
 have a3 : (u : Int) / 16777216 % 256 = (x3 : Int) := by omega
 have b0 : (x0 : Int) % 256 = (x0 : Int) := by omega
 have b1 : (x1 : Int) % 256 = (x1 : Int) := by omega
 have b2 : (x2 : Int) % 256 = (x2 : Int) := by omega
 have b3 : (x3 : Int) % 256 = (x3 : Int) := by omega
 rw [← h0, ← h1, ← h2, ← h3] at HO
 have HO := Lib.hid HO
 clear h0 h1 h2 h3 hu'
 clear hu
 go_enter Tryz.func107, Tryz.ntmps107
 go_wp2_with fail
 go_ret
 exact ⟨_, rfl, HO.out, (Below.refl _ _).alloc (Nat.le_refl _) _⟩
set_option maxRecDepth 100000 in
theorem Rword_any {w : World} (u : Nat) (hu : u < 2 ^ 32) : Calls Tryz.prog 117 #[.int .u32 (u : Int)] w (AppPost w.heap.size (wordB u) w) := by
 have hu' : u < 4294967296 := hu
 have HO := word_own (w := w) u
 obtain ⟨x0, h0⟩ : ∃ x, x = u % 256 := ⟨_, rfl⟩
 obtain ⟨x1, h1⟩ : ∃ x, x = u / 256 % 256 := ⟨_, rfl⟩
 obtain ⟨x2, h2⟩ : ∃ x, x = u / 65536 % 256 := ⟨_, rfl⟩
 obtain ⟨x3, h3⟩ : ∃ x, x = u / 16777216 % 256 := ⟨_, rfl⟩
 have a0 : (u : Int) % 256 = (x0 : Int) := by omega
 have a1 : (u : Int) / 256 % 256 = (x1 : Int) := by omega
 have a2 : (u : Int) / 65536 % 256 = (x2 : Int) := by omega
 have a3 : (u : Int) / 16777216 % 256 = (x3 : Int) := by omega
 have b0 : (x0 : Int) % 256 = (x0 : Int) := by omega
 have b1 : (x1 : Int) % 256 = (x1 : Int) := by omega
 have b2 : (x2 : Int) % 256 = (x2 : Int) := by omega
 have b3 : (x3 : Int) % 256 = (x3 : Int) := by omega
 rw [← h0, ← h1, ← h2, ← h3] at HO
 have HO := Lib.hid HO
 clear h0 h1 h2 h3 hu'
 clear hu
 go_enter Tryz.func117, Tryz.ntmps117
 go_wp2_with fail
 go_ret
 exact ⟨_, rfl, HO.out, (Below.refl _ _).alloc (Nat.le_refl _) _⟩
end Go.Proofs.YtfpomllhkbbipaaGreatDoor
namespace Go.Proofs.YtfpomllhkbbipaaGreatDoor
open Go Go.RowKit Go.Maps Go.Lib Mem Pk
theorem or_join {a b k : Nat} (h : a < 2 ^ k) (ha : a < 2 ^ 32) (hb : b * 2 ^ k < 2 ^ 32) : bits BinOp.or IntKind.u32 (a : Int) ((b * 2 ^ k : Nat) : Int) = ((a + b * 2 ^ k : Nat) : Int) := by
 rw [u32_or_nat _ _ ha hb]
 have h1 := Nat.shiftLeft_add_eq_or_of_lt (b := a) (i := k) h b
 rw [Nat.shiftLeft_eq] at h1
 rw [Nat.or_comm, ← h1, Nat.add_comm]
theorem word_cells {w : World} {A : Option Addr} {bs : List UInt8} (h : Sl fB w A bs) (h4 : 4 ≤ bs.length) : ∃ b o, ∃ n0 n1 n2 n3 : Nat, A = some ⟨b, o, none⟩ ∧ n0 < 256 ∧ n1 < 256 ∧ n2 < 256 ∧ n3 < 256 ∧ unwordN bs = n0 + n1 * 256 + n2 * 65536 + n3 * 16777216 ∧
 w.cell? ⟨b, o, none⟩ = some (.int .u8 (n0 : Int)) ∧ w.cell? ⟨b, o + 1, none⟩ = some (.int .u8 (n1 : Int)) ∧ w.cell? ⟨b, o + 2, none⟩ = some (.int .u8 (n2 : Int)) ∧ w.cell? ⟨b, o + 3, none⟩ = some (.int .u8 (n3 : Int)) := by
 obtain ⟨b, o, rfl, _, hc⟩ := h.at (k := 0) (by omega)
 have e : ∀ (j : Nat) (hj : j < bs.length), bs.getD j 0 = bs[j] := fun j hj => by rw [List.getD_eq_getElem?_getD, List.getElem?_eq_getElem hj, Option.getD_some]
 refine ⟨b, o, bs[0].toNat, bs[1].toNat, bs[2].toNat, bs[3].toNat, rfl, (bs[0]).toNat_lt, (bs[1]).toNat_lt, (bs[2]).toNat_lt, (bs[3]).toNat_lt, ?_, hc 0 (by omega), hc 1 (by omega), hc 2 (by omega), hc 3 (by omega)⟩
 unfold unwordN
 rw [e 0 (by omega), e 1 (by omega), e 2 (by omega), e 3 (by omega)]
set_option maxRecDepth 100000 in
theorem unword_any {w : World} {A : Option Addr} {c : Nat} {bs : List UInt8} (h : Sl fB w A bs) (h4 : 4 ≤ bs.length) :
 Calls Tryz.prog 122 #[.slice A bs.length c] w (Quiet (.int .u32 (unwordN bs : Int)) w) := by
 have hl := h.len
 obtain ⟨b, o, n0, n1, n2, n3, rfl, l0, l1, l2, l3, hu, c0, c1, c2, c3⟩ := word_cells h h4
 obtain ⟨u, hu2⟩ : ∃ u, u = unwordN bs := ⟨_, rfl⟩
 rw [← hu2]
 have i0 : (0 : Int) < (bs.length : Int) := by omega
 have i1 : (1 : Int) < (bs.length : Int) := by omega
 have i2 : (2 : Int) < (bs.length : Int) := by omega
 have i3 : (3 : Int) < (bs.length : Int) := by omega
 have v0 : (n0 : Int) % 4294967296 = (n0 : Int) := by omega
 have v1 : (n1 : Int) % 4294967296 = (n1 : Int) := by omega
 have v2 : (n2 : Int) % 4294967296 = (n2 : Int) := by omega
 have v3 : (n3 : Int) % 4294967296 = (n3 : Int) := by omega
 obtain ⟨p1, hp1⟩ : ∃ p, p = n1 * 2 ^ 8 := ⟨_, rfl⟩
 obtain ⟨p2, hp2⟩ : ∃ p, p = n2 * 2 ^ 16 := ⟨_, rfl⟩
 obtain ⟨p3, hp3⟩ : ∃ p, p = n3 * 2 ^ 24 := ⟨_, rfl⟩
 have t1 : (n1 : Int) * 256 % 4294967296 = (p1 : Int) := by omega
 have t2 : (n2 : Int) * 65536 % 4294967296 = (p2 : Int) := by omega
 have t3 : (n3 : Int) * 16777216 % 4294967296 = (p3 : Int) := by omega
 obtain ⟨m1, hm1⟩ : ∃ m, m = n0 + p1 := ⟨_, rfl⟩
 obtain ⟨m2, hm2⟩ : ∃ m, m = m1 + p2 := ⟨_, rfl⟩
 have r1 : bits BinOp.or IntKind.u32 (n0 : Int) (p1 : Int) = (m1 : Int) := by rw [hm1, hp1]; exact or_join (by omega) (by omega) (by omega)
 have r2 : bits BinOp.or IntKind.u32 (m1 : Int) (p2 : Int) = (m2 : Int) := by rw [hm2, hp2]; exact or_join (by omega) (by omega) (by omega)
 have r3 : bits BinOp.or IntKind.u32 (m2 : Int) (p3 : Int) = (u : Int) := by
  have e : u = m2 + n3 * 2 ^ 24 := by omega
  rw [e, hp3]; exact or_join (by omega) (by omega) (by omega)
 have z1 : (1 : Nat) < bs.length := by omega
 clear h h4 hu hu2 hp1 hp2 hp3 hm1 hm2 l0 l1 l2 l3 hl z1
 go_enter Tryz.func122, Tryz.ntmps122
 go_wp2_with fail
 go_quiet (fail)
 go_wp2_with fail
 go_ret
 exact ⟨rfl, _, rfl⟩
set_option maxRecDepth 100000 in
theorem Runword_any {w : World} {A : Option Addr} {c : Nat} {bs : List UInt8} (h : Sl fB w A bs) (h4 : 4 ≤ bs.length) :
 Calls Tryz.prog 95 #[.slice A bs.length c] w (Quiet (.int .u32 (unwordN bs : Int)) w) := by
 have hl := h.len
 obtain ⟨b, o, n0, n1, n2, n3, rfl, l0, l1, l2, l3, hu, c0, c1, c2, c3⟩ := word_cells h h4
 obtain ⟨u, hu2⟩ : ∃ u, u = unwordN bs := ⟨_, rfl⟩
 rw [← hu2]
 have i0 : (0 : Int) < (bs.length : Int) := by omega
 have i1 : (1 : Int) < (bs.length : Int) := by omega
 have i2 : (2 : Int) < (bs.length : Int) := by omega
 have i3 : (3 : Int) < (bs.length : Int) := by omega
 have v0 : (n0 : Int) % 4294967296 = (n0 : Int) := by omega
 have v1 : (n1 : Int) % 4294967296 = (n1 : Int) := by omega
 have v2 : (n2 : Int) % 4294967296 = (n2 : Int) := by omega
 have v3 : (n3 : Int) % 4294967296 = (n3 : Int) := by omega
 obtain ⟨p1, hp1⟩ : ∃ p, p = n1 * 2 ^ 8 := ⟨_, rfl⟩
 obtain ⟨p2, hp2⟩ : ∃ p, p = n2 * 2 ^ 16 := ⟨_, rfl⟩
 obtain ⟨p3, hp3⟩ : ∃ p, p = n3 * 2 ^ 24 := ⟨_, rfl⟩
 have t1 : (n1 : Int) * 256 % 4294967296 = (p1 : Int) := by omega
 have t2 : (n2 : Int) * 65536 % 4294967296 = (p2 : Int) := by omega
 have t3 : (n3 : Int) * 16777216 % 4294967296 = (p3 : Int) := by omega
 obtain ⟨m1, hm1⟩ : ∃ m, m = n0 + p1 := ⟨_, rfl⟩
 obtain ⟨m2, hm2⟩ : ∃ m, m = m1 + p2 := ⟨_, rfl⟩
 have r1 : ((n0 : Int) + (p1 : Int)) % 4294967296 = (m1 : Int) := by omega
 have r2 : ((m1 : Int) + (p2 : Int)) % 4294967296 = (m2 : Int) := by omega
 have r3 : ((m2 : Int) + (p3 : Int)) % 4294967296 = (u : Int) := by omega
 have z1 : (1 : Nat) < bs.length := by omega
 clear h h4 hu hu2 hp1 hp2 hp3 hm1 hm2 l0 l1 l2 l3 hl z1
 go_enter Tryz.func95, Tryz.ntmps95
 go_wp2_with fail
 go_quiet (fail)
 go_wp2_with fail
 go_ret
 exact ⟨by rw [r3]; rfl, _, rfl⟩
end Go.Proofs.YtfpomllhkbbipaaGreatDoor
namespace Go.Proofs.YtfpomllhkbbipaaGreatDoor
open Go Go.RowKit Go.Maps Go.Lib Mem Pk
def FrPost (res : List UInt8 × Int) (w : World) (e : Ending) (w' : World) : Prop :=
 ∃ A c, e = .returned (.tuple #[.slice A res.1.length c, .int .i64 res.2]) ∧ Mem.Own fB w.heap.size 5 w' (.slice A res.1.length c) res.1 ∧ Below w.heap.size w w'
def frameR (p : List UInt8) : List UInt8 × Int := if p.length ≤ 4096 then (frameB p, 0) else ([], 2)
set_option maxRecDepth 100000 in
theorem Frame_any {w : World} {A : Option Addr} {c : Nat} {p : List UInt8} (h : Sl fB w A p) :
 Calls Tryz.prog 66 #[.slice A p.length c] w (FrPost (frameR p) w) := by
 have hl := h.len
 unfold frameR
 by_cases h4 : p.length ≤ 4096
 ·rw [if_pos h4]
  have t1 : ¬ (4096 : Int) < (p.length : Int) := by omega
  have H := Lib.hid h; clear h
  have e1 : IntKind.u32.wrap (p.length : Int) = (p.length : Int) := by rw [IntKind.wrap_u32]; omega
  have HW1 := Lib.hid (word_any (w := w) p.length (show p.length < 4294967296 by omega))
  have H4 := Lib.hid h4; clear h4
  go_enter Tryz.func66, Tryz.ntmps66
  go_wp2_with fail
  (with_reducible refine HW1.out.mono ?_); rintro e w1 ⟨v1, rfl, ho1, hb1⟩
  have HS1 := Lib.hid (Sum_any (c := c) (H.out.below hb1))
  have HO1 := Lib.hid ho1
  have HB1 := Lib.hid hb1
  clear ho1 hb1 e1 HW1
  go_wp2_with fail
  (with_reducible refine HS1.out.mono ?_); rintro e w2 ⟨rfl, rfl⟩
  have HW2 := Lib.hid (word_any (w := w1) (sumN p) (sumN_lt p))
  clear HS1
  go_wp2_with fail
  (with_reducible refine HW2.out.mono ?_); rintro e w3 ⟨v3, rfl, ho3, hb3⟩
  have HO3 := Lib.hid (HO1.out.below hb3)
  have HB3 : Hid (Below w.heap.size w w3) := HB1.out.trans (hb3.mono HB1.out.size)
  obtain ⟨A3, c3, rfl⟩ := ho3.form
  have HS3 := Lib.hid ho3.sl.2
  clear ho3 hb3 HO1 HB1 HW2
  have HB1w : Hid (w.heap.size ≤ w3.heap.size) := Lib.hid HB3.out.size
  have h63 : Hid ((wordB p.length).length + (wordB (sumN p)).length ≤ maxLen) := Lib.hid (by rw [wordB_len, wordB_len]; decide)
  have hby : Hid (((wordB p.length).length + (wordB (sumN p)).length) * 1 ≤ 140737488355328) := Lib.hid (by rw [wordB_len, wordB_len]; decide)
  go_upto_region 4 with (at_builtin; refine wpList_appendX (f := fB) rfl (.tmp 11) (.tmp 14) 36 rfl u8T rfl HO3.out rfl HS3.out fB_oneJ h63.out hby.out HB1w.out ?_; intro v4 w4 ho4 hb4)
  obtain ⟨hd, hhd⟩ : ∃ x, x = wordB p.length ++ wordB (sumN p) := ⟨_, rfl⟩
  rw [← hhd] at ho4
  obtain ⟨A4, c4, rfl⟩ := ho4.form
  have HHD := Lib.hid hhd
  have hhl : hd.length = 8 := by rw [hhd, List.length_append, wordB_len, wordB_len]
  have HO4 := Lib.hid ho4
  have HB4 : Hid (Below w.heap.size w w4) := HB3.out.trans hb4
  have h63' : Hid (hd.length + p.length ≤ maxLen) := Lib.hid (by rw [hhl]; have := H4.out; unfold maxLen; omega)
  have hby' : Hid ((hd.length + p.length) * 1 ≤ 140737488355328) := Lib.hid (by rw [hhl]; have := H4.out; omega)
  have HP4 := Lib.hid (H.out.below HB4.out)
  clear hhd hhl ho4 hb4 h63 hby HO3 HS3 HB1w
  go_wp2_with (at_builtin; refine wpList_appendX (f := fB) rfl (.tmp 16) (.tmp 17) 36 rfl u8T rfl HO4.out rfl HP4.out fB_oneJ h63'.out hby'.out HB4.out.size ?_; intro v5 w5 ho5 hb5)
  obtain ⟨fr, hfr⟩ : ∃ x, x = frameB p := ⟨_, rfl⟩
  have he : hd ++ p = fr := by rw [hfr, HHD.out]; rfl
  rw [he] at ho5
  obtain ⟨A5, c5, rfl⟩ := ho5.form
  rw [← hfr]
  refine bodyPost_ret (v := .tuple #[.slice A5 fr.length c5, .int .i64 0]) (by simp [results, Tryz.results66, go_sem]) rfl ?_
  exact ⟨A5, c5, rfl, ho5, HB4.out.trans hb5⟩
 ·rw [if_neg h4]
  have t1 : (4096 : Int) < (p.length : Int) := by omega
  clear h4 h
  go_enter Tryz.func66, Tryz.ntmps66
  go_wp2_with fail
  refine bodyPost_ret (v := .tuple #[.slice none 0 0, .int .i64 2]) (by simp [results, Tryz.results66, go_sem]) rfl ?_
  exact ⟨none, 0, rfl, Own.nil, Below.refl _ _⟩
theorem apart_base {base : Nat} {w w' : World} {va vb : Value} {xs ys : List UInt8} (h : Mem.Own fB base 5 w va xs) (h' : Mem.Own fB w.heap.size 5 w' vb ys) : Apart va vb := by
 intro k h1 h2
 have := (h.lt k h1).2
 have := (h'.lt k h2).1
 omega
set_option maxRecDepth 100000 in
theorem RFrame_any {w : World} {A : Option Addr} {c : Nat} {p : List UInt8} (h : Sl fB w A p) :
 Calls Tryz.prog 75 #[.slice A p.length c] w (FrPost (frameR p) w) := by
 have hl := h.len
 unfold frameR
 by_cases h4 : p.length ≤ 4096
 ·rw [if_pos h4]
  have t1 : ¬ (4096 : Int) < (p.length : Int) := by omega
  have H := Lib.hid h; clear h
  have e1 : IntKind.u32.wrap (p.length : Int) = (p.length : Int) := by rw [IntKind.wrap_u32]; omega
  have HW1 := Lib.hid (Rword_any (w := w) p.length (show p.length < 4294967296 by omega))
  have H4 := Lib.hid h4; clear h4
  go_enter Tryz.func75, Tryz.ntmps75
  go_wp2_with fail
  (with_reducible refine HW1.out.mono ?_); rintro e w1 ⟨v1, rfl, ho1, hb1⟩
  have HS1 := Lib.hid (RSum_any (c := c) (H.out.below hb1))
  have HO1 := Lib.hid ho1
  have HB1 := Lib.hid hb1
  clear ho1 hb1 e1 HW1
  go_wp2_with fail
  (with_reducible refine HS1.out.mono ?_); rintro e w2 ⟨rfl, rfl⟩
  have HW2 := Lib.hid (Rword_any (w := w1) (sumN p) (sumN_lt p))
  clear HS1
  go_wp2_with fail
  (with_reducible refine HW2.out.mono ?_); rintro e w3 ⟨v3, rfl, ho3, hb3⟩
  have hj := Join_any (HO1.out.below hb3) ho3 (apart_base HO1.out ho3) (Nat.le_trans HB1.out.size hb3.size) (by rw [wordB_len, wordB_len]; decide)
  have HB3 : Hid (Below w.heap.size w w3) := HB1.out.trans (hb3.mono HB1.out.size)
  obtain ⟨hd, hhd⟩ : ∃ x, x = wordB p.length ++ wordB (sumN p) := ⟨_, rfl⟩
  rw [← hhd] at hj
  have hhl : hd.length = 8 := by rw [hhd, List.length_append, wordB_len, wordB_len]
  have HHD := Lib.hid hhd
  have HJ := Lib.hid hj
  clear ho3 hb3 HO1 HB1 HW2 hj hhd
  go_wp2_with fail
  (with_reducible refine HJ.out.mono ?_); rintro e w4 ⟨v4, rfl, ho4, hb4⟩
  have HB4 : Hid (Below w.heap.size w w4) := HB3.out.trans hb4
  have HJ2 := Lib.hid (Join_sl (c := c) ho4 H.out HB4.out (Nat.le_refl _) HB4.out.size (by rw [hhl]; have := H4.out; omega))
  clear ho4 hb4 HJ HB3 hhl
  go_wp2_with fail
  (with_reducible refine HJ2.out.mono ?_); rintro e w5 ⟨v5, rfl, ho5, hb5⟩
  obtain ⟨fr, hfr⟩ : ∃ x, x = frameB p := ⟨_, rfl⟩
  have he : hd ++ p = fr := by rw [hfr, HHD.out]; rfl
  rw [he] at ho5
  obtain ⟨A5, c5, rfl⟩ := ho5.form
  have HFR := Lib.hid hfr; clear hfr
  clear HJ2 he
  have HO5 := Lib.hid ho5; clear ho5
  have HB5 : Hid (Below w.heap.size w w5) := HB4.out.trans hb5
  clear hb5
  go_wp2_with fail
  rw [← HFR.out]
  refine bodyPost_ret (v := .tuple #[.slice A5 fr.length c5, .int .i64 0]) (by simp [results, Tryz.results75, go_sem]) rfl ?_
  exact ⟨A5, c5, rfl, HO5.out, HB5.out⟩
 ·rw [if_neg h4]
  have t1 : (4096 : Int) < (p.length : Int) := by omega
  clear h4 h
  go_enter Tryz.func75, Tryz.ntmps75
  go_wp2_with fail
  refine bodyPost_ret (v := .tuple #[.slice none 0 0, .int .i64 2]) (by simp [results, Tryz.results75, go_sem]) rfl ?_
  exact ⟨none, 0, rfl, Own.nil, Below.refl _ _⟩
end Go.Proofs.YtfpomllhkbbipaaGreatDoor
namespace Go.Proofs.YtfpomllhkbbipaaGreatDoor
open Go Go.RowKit Go.Maps Go.Lib Mem Pk
theorem cut_lhk {P : Program} {t e : TypeId} (hu : P.underlying t = some (.slice e)) (hs : ∀ w, (sizeOf e).run P w = .ok 1 w) (kl kh : IntKind) (A : Option Addr) (len cap l h : Nat) (h1 : l ≤ h) (h2 : h ≤ cap) (w : World) :
 (Instr.slice t (.slice A len cap) (some (.int kl (l : Int))) (some (.int kh (h : Int))) none).run P w = .ok (.slice (partA A cap l) (h - l) (cap - l)) w := by
 have he : P.elem t = e := by simp [Program.elem, hu]
 have hu' : P.underlying t = some (.slice (P.elem t)) := by rw [he]; exact hu
 rw [run_slice_lh w t A len cap hu' kl kh l h (by omega) (by omega) (by omega), he, hs]
 show Result.ok (sliced A (l : Int).toNat (h : Int).toNat cap 1) w = _
 simp [sliced, partA]
theorem cut_h {P : Program} {t e : TypeId} (hu : P.underlying t = some (.slice e)) (hs : ∀ w, (sizeOf e).run P w = .ok 1 w) (kh : IntKind) (A : Option Addr) (len cap h : Nat) (h2 : h ≤ cap) (w : World) :
 (Instr.slice t (.slice A len cap) none (some (.int kh (h : Int))) none).run P w = .ok (.slice (partA A cap 0) h cap) w := by
 have he : P.elem t = e := by simp [Program.elem, hu]
 have hu' : P.underlying t = some (.slice (P.elem t)) := by rw [he]; exact hu
 rw [run_slice_h w t A len cap hu' kh h (by omega) (by omega), he, hs]
 show Result.ok (sliced A 0 (h : Int).toNat cap 1) w = _
 simp [sliced, partA]
def UfPost (res : List UInt8 × Nat × Int) (w : World) (e : Ending) (w' : World) : Prop :=
 ∃ A c, e = .returned (.tuple #[.slice A res.1.length c, .int .i64 (res.2.1 : Int), .int .i64 res.2.2]) ∧ Mem.Own fB w.heap.size 5 w' (.slice A res.1.length c) res.1 ∧ Below w.heap.size w w'
theorem UfPost.no {w w' : World} {k : Int} (h : Below w.heap.size w w') : UfPost ([], 0, k) w (.returned (.tuple #[.slice none 0 0, .int .i64 0, .int .i64 k])) w' := ⟨none, 0, rfl, Own.nil, h⟩
def ClPost (xs : List UInt8) (w : World) (e : Ending) (w' : World) : Prop := ∃ A c, e = .returned (.slice A xs.length c) ∧ Mem.Own fB w.heap.size 5 w' (.slice A xs.length c) xs ∧ Below w.heap.size w w'
theorem CloneB_any (A : Option Addr) (c : Nat) (xs : List UInt8) (hl : xs.length ≤ 140737488355328) (w : World) (hs : Sl fB w A xs) :
 Calls Tryz.prog 41 #[.slice A xs.length c] w (ClPost xs w) := by
 have hnil := fun (w : World) (a : Option Addr) (n c : Nat) => Lib.run_eql_slice_nil (P := Tryz.prog) w 36 5 a n c 0 0 Tryz.underlying36
 have hl1 : xs.length ≤ maxLen := by unfold maxLen; omega
 have hl2 : xs.length * 1 ≤ 140737488355328 := by omega
 have HL1 := Lib.hid hl1; clear hl1
 have HL2 := Lib.hid hl2; clear hl2
 cases A with
 | none =>
   obtain rfl : xs = [] := by
    cases xs with
    | nil => rfl
    | cons x r => obtain ⟨b, o, e, _⟩ := hs.2 (by simp); cases e
   go_enter Tryz.func41, Tryz.ntmps41
   go_wp2_with fail
   go_ret
   exact ⟨none, 0, rfl, Own.nil, Below.refl _ _⟩
 | some ad =>
   go_enter Tryz.func41, Tryz.ntmps41
   go_wp2_with (at_builtin; refine wpList_appendN (f := fB) rfl (.tmp 5) (.tmp 6) 36 rfl u8T rfl (Own.mk_ (Nat.le_refl _)) rfl (hs.below ((Below.refl _ _).alloc (Nat.le_refl _) _)) fB_oneJ (by rw [List.length_nil, Nat.zero_add]; exact HL1.out) (by rw [List.length_nil, Nat.zero_add]; exact HL2.out) (by simp) ?_; intro v1 w1 hown1 hb1; obtain ⟨A', c', rfl⟩ := hown1.form)
   go_ret
   rw [List.nil_append] at hown1
   exact ⟨A', c', rfl, hown1, ((Below.refl _ _).alloc (Nat.le_refl _) _).trans hb1⟩
theorem Sum_q {w : World} {A : Option Addr} {c n : Nat} {bs : List UInt8} (h : Sl fB w A bs) : Calls Tryz.prog 108 #[.slice A bs.length c] (w.drewN n) fun e w'' => e = .returned (.int .u32 (sumN bs : Int)) ∧ ∃ m, w'' = w.drewN m :=
 quiet_mine (Sum_any (c := c) (h.drewN n))
theorem unword_q {w : World} {A : Option Addr} {c n : Nat} {bs : List UInt8} (h : Sl fB w A bs) (h4 : 4 ≤ bs.length) : Calls Tryz.prog 122 #[.slice A bs.length c] (w.drewN n) fun e w'' => e = .returned (.int .u32 (unwordN bs : Int)) ∧ ∃ m, w'' = w.drewN m :=
 Calls.quiet_of (unword_any (c := c) (h.drewN n) h4)
set_option maxRecDepth 100000 in
set_option maxHeartbeats 1000000 in
theorem Unframe_any {w : World} {A : Option Addr} {c : Nat} {bs : List UInt8} (h : Sl fB w A bs) (hc : bs.length ≤ c) (hm : c ≤ maxLen) :
 Calls Tryz.prog 86 #[.slice A bs.length c] w (UfPost (unframe bs) w) := by
 have hl := h.len
 obtain ⟨u, hu⟩ : ∃ u, u = unwordN bs := ⟨_, rfl⟩
 unfold unframe
 rw [← hu]
 by_cases h8 : bs.length < 8
 ·rw [if_pos h8]
  have t1 : (bs.length : Int) < 8 := by omega
  clear h hc hm hu h8
  go_enter Tryz.func86, Tryz.ntmps86
  go_wp2_with fail
  refine bodyPost_ret (v := .tuple #[.slice none 0 0, .int .i64 0, .int .i64 31]) (by simp [results, Tryz.results86, go_sem]) rfl ?_
  exact UfPost.no (Below.refl _ _)
 ·rw [if_neg h8]
  have t1 : ¬ (bs.length : Int) < 8 := by omega
  have HUW := Lib.hid (unword_any (c := c) h (by omega))
  rw [← hu] at HUW
  have H := Lib.hid h; clear h
  have HU := Lib.hid hu; clear hu
  have H8 := Lib.hid h8; clear h8
  have HC := Lib.hid hc; clear hc
  have HM := Lib.hid hm; clear hm
  have HU32 : Hid (u < 4294967296) := Lib.hid (by rw [HU.out]; exact unwordN_lt bs)
  by_cases h2 : 4096 < u
  ·rw [if_pos h2]
   have t2 : (4096 : Int) < (u : Int) := by omega
   clear h2
   go_enter Tryz.func86, Tryz.ntmps86
   go_wp2_with fail
   (with_reducible refine HUW.out.mono ?_); rintro e w2 ⟨rfl, m, rfl⟩
   go_wp2_with fail
   refine bodyPost_ret (v := .tuple #[.slice none 0 0, .int .i64 0, .int .i64 2]) (by simp [results, Tryz.results86, go_sem]) rfl ?_
   exact UfPost.no (below_drewN (Below.refl _ _) _)
  ·rw [if_neg h2]
   have t2 : ¬ (4096 : Int) < (u : Int) := by omega
   obtain ⟨v, hv⟩ : ∃ v, v = 8 + u := ⟨_, rfl⟩
   have e1 : IntKind.i64.wrap (u : Int) = (u : Int) := by rw [IntKind.wrap_i64]; omega
   have e2 : IntKind.i64.wrap (8 + (u : Int)) = (v : Int) := by rw [IntKind.wrap_i64]; omega
   have e2b : 8 + (u : Int) = (v : Int) := by omega
   have e3 : IntKind.u32.wrap (v : Int) = (v : Int) := by rw [IntKind.wrap_u32]; omega
   have e3b : (v : Int) % 4294967296 = (v : Int) := by omega
   have hu4 : u ≤ 4096 := by omega
   by_cases h3 : bs.length < 8 + u
   ·rw [if_pos h3]
    have t3 : (bs.length : Int) < (v : Int) := by omega
    clear h2 h3 hv hu4
    go_enter Tryz.func86, Tryz.ntmps86
    go_wp2_with fail
    (with_reducible refine HUW.out.mono ?_); rintro e w2 ⟨rfl, m, rfl⟩
    go_wp2_with fail
    refine bodyPost_ret (v := .tuple #[.slice none 0 0, .int .i64 0, .int .i64 31]) (by simp [results, Tryz.results86, go_sem]) rfl ?_
    exact UfPost.no (below_drewN (Below.refl _ _) _)
   ·rw [if_neg h3]
    have t3 : ¬ (bs.length : Int) < (v : Int) := by omega
    have hcl := HC.out
    obtain ⟨p, hp⟩ : ∃ p, p = (bs.drop 8).take u := ⟨_, rfl⟩
    have hpl : p.length = u := by rw [hp, List.length_take, List.length_drop]; omega
    obtain ⟨P8, hP8⟩ : ∃ x, x = partA A c 8 := ⟨_, rfl⟩
    obtain ⟨c8, hc8⟩ : ∃ x, x = c - 8 := ⟨_, rfl⟩
    obtain ⟨P4, hP4⟩ : ∃ x, x = partA A c 4 := ⟨_, rfl⟩
    obtain ⟨c4, hc4⟩ : ∃ x, x = c - 4 := ⟨_, rfl⟩
    obtain ⟨q, hq⟩ : ∃ q, q = bs.drop 4 := ⟨_, rfl⟩
    have hql : q.length = bs.length - 4 := by rw [hq, List.length_drop]
    have k8 : ∀ W : World, (Instr.slice 36 (.slice A bs.length c) (some (.int .i64 8)) (some (.int .u32 (v : Int))) none).run Tryz.prog W = .ok (.slice P8 p.length c8) W := fun W => by
     have h := cut_lhk Tryz.underlying36 sizeU8 .i64 .u32 A bs.length c 8 v (by omega) (by omega) W
     rw [← hP8, ← hc8, show v - 8 = p.length by omega] at h; exact h
    have k4 : ∀ W : World, (Instr.slice 36 (.slice A bs.length c) (some (.int .i64 4)) none none).run Tryz.prog W = .ok (.slice P4 q.length c4) W := fun W => by
     have h := cutB A bs.length c 4 (by omega) W
     rw [← hP4, ← hc4, ← hql] at h; exact h
    have hsp : Sl fB w P8 p := by rw [hp, hP8]; exact H.out.part (by omega) hcl
    have hsq : Sl fB w P4 q := by
     have h := H.out.part (c := c) (k := 4) (m := bs.length - 4) (by omega) hcl
     rw [List.take_of_length_le (by rw [List.length_drop]; omega), ← hq] at h
     rw [hP4]; exact h
    have HSP := Lib.hid hsp
    have HSQ := Lib.hid hsq
    have HQL : Hid (4 ≤ q.length) := Lib.hid (by have := H8.out; omega)
    have HPL := Lib.hid hpl
    rw [← hp, ← hq]
    obtain ⟨s1, hs1⟩ : ∃ s, s = sumN p := ⟨_, rfl⟩
    obtain ⟨s2, hs2⟩ : ∃ s, s = unwordN q := ⟨_, rfl⟩
    rw [← hs1, ← hs2]
    obtain ⟨res, hres⟩ : ∃ r, r = (if s1 = s2 then (p, 8 + u, (0 : Int)) else ([], 0, 32)) := ⟨_, rfl⟩
    rw [← hres]
    have HRES := Lib.hid hres; clear hres
    have HQ1 : Hid (∀ (W : World) (B : Option Addr) (d n : Nat), Sl fB W B p → Calls Tryz.prog 108 #[.slice B p.length d] (W.drewN n) fun e w'' => e = .returned (.int .u32 (s1 : Int)) ∧ ∃ m, w'' = W.drewN m) := Lib.hid fun W B d n h => by rw [hs1]; exact Sum_q h
    have HQ2 : Hid (∀ (W : World) (n : Nat), Sl fB W P4 q → Calls Tryz.prog 122 #[.slice P4 q.length c4] (W.drewN n) fun e w'' => e = .returned (.int .u32 (s2 : Int)) ∧ ∃ m, w'' = W.drewN m) := Lib.hid fun W n h => by rw [hs2]; exact unword_q h HQL.out
    have HV := Lib.hid hv
    clear h2 h3 hv hcl hp hpl hP8 hc8 hP4 hc4 hq hql hsp hsq hs1 hs2
    go_enter Tryz.func86, Tryz.ntmps86
    go_wp2_with fail
    (with_reducible refine HUW.out.mono ?_); rintro e w2 ⟨rfl, m, rfl⟩
    have HCL := Lib.hid (CloneB_any P8 c8 p (by rw [HPL.out]; omega) (w.drewN m) (HSP.out.drewN m))
    go_wp2_with fail
    (with_reducible refine HCL.out.mono ?_); rintro e w3 ⟨A3, c3, rfl, ho3, hb3⟩
    have HB3 : Hid (Below w.heap.size w w3) := Lib.hid ((below_drewN (Below.refl _ _) m).trans hb3)
    have HO3 : Hid (Mem.Own fB w.heap.size 5 w3 (.slice A3 p.length c3) p) := Lib.hid ho3
    have hs3 := HO3.out.sl.2
    have hq3 := HSQ.out.below HB3.out
    clear ho3 hb3 HCL
    by_cases h5 : s1 = s2
    ·have H5 := Lib.hid h5
     have t5 : ((s1 : Int) == (s2 : Int)) = true := by rw [beq_iff_eq]; omega
     clear h5
     go_wp2_with fail
     go_quiet (first | (go_at_call 108; exact HQ1.out _ _ _ _ hs3) | (go_at_call 122; exact HQ2.out _ _ hq3))
     go_wp2_with fail
     refine bodyPost_ret (v := .tuple #[.slice A3 p.length c3, .int .i64 (v : Int), .int .i64 0]) (by simp [results, Tryz.results86, go_sem]) rfl ?_
     rw [HRES.out, if_pos H5.out]
     exact ⟨A3, c3, by rw [HV.out], HO3.out, below_drewN HB3.out _⟩
    ·have H5 := Lib.hid h5
     have t5 : ((s1 : Int) == (s2 : Int)) = false := by rw [beq_eq_false_iff_ne]; omega
     clear h5
     go_wp2_with fail
     go_quiet (first | (go_at_call 108; exact HQ1.out _ _ _ _ hs3) | (go_at_call 122; exact HQ2.out _ _ hq3))
     go_wp2_with fail
     refine bodyPost_ret (v := .tuple #[.slice none 0 0, .int .i64 0, .int .i64 32]) (by simp [results, Tryz.results86, go_sem]) rfl ?_
     rw [HRES.out, if_neg H5.out]
     exact UfPost.no (below_drewN HB3.out _)
end Go.Proofs.YtfpomllhkbbipaaGreatDoor
namespace Go.Proofs.YtfpomllhkbbipaaGreatDoor
open Go Go.RowKit Go.Maps Go.Lib Mem Pk Cf
def Frs (W : World) (v : Value) : Prop := ∀ g, v.ownBlock = some g → W.heap.size ≤ g
theorem frs_of {W w' : World} {v : Value} {ys : List UInt8} (h : Mem.Own fB W.heap.size 5 w' v ys) : Frs W v := fun g hg => (h.lt g hg).1
theorem Frs.apart {base : Nat} {W : World} {va vb : Value} {xs : List UInt8} (h : Frs W vb) (ha : Mem.Own fB base 5 W va xs) : Apart va vb := fun g h1 h2 => by
 have := (ha.lt g h1).2
 have := h g h2
 omega
def NmP (w1 : World) (ys : List UInt8) (W : World) (e : Ending) (w' : World) : Prop :=
 ∃ v, e = .returned v ∧ Mem.Own fB w1.heap.size 5 w' v ys ∧ Frs W v ∧ Below w1.heap.size w1 w' ∧ Below W.heap.size W w'
theorem nmP_of {w1 W : World} {ys : List UInt8} (hb : Below w1.heap.size w1 W) {e : Ending} {w' : World} (h : AppPost W.heap.size ys W e w') : NmP w1 ys W e w' := by
 obtain ⟨v, he, ho, hbb⟩ := h
 refine ⟨v, he, ?_, frs_of ho, hb.trans (hbb.mono hb.size), hbb⟩
 obtain ⟨h1, h2⟩ := ho
 refine ⟨h1, ?_⟩
 rcases h2 with h2 | ⟨g, cap, cur, a, b, c⟩
 ·exact .inl h2
 ·exact .inr ⟨g, cap, cur, a, Nat.le_trans hb.size b, c⟩
theorem num_p {w1 W : World} {n : Int} (hb : Below w1.heap.size w1 W) (h1 : 0 ≤ n) (h2 : n ≤ 9223372036854775807) : Calls Tryz.prog 73 #[.int .i64 n] W (NmP w1 (numB n) W) := (RNum_pos n h1 h2).mono fun _ _ h => nmP_of hb h
theorem ints_p {w1 W : World} {B : Option Addr} {d : Nat} {ns : List Int} (hb : Below w1.heap.size w1 W) (hs : Sl fI w1 B ns) (hl : ns.length ≤ 1000) (hn : ∀ n ∈ ns, 0 ≤ n ∧ n ≤ 9223372036854775807) : Calls Tryz.prog 74 #[.slice B ns.length d] W (NmP w1 (numsB ((ns.length : Int) :: ns)) W) := (RInts_any (hs.below hb) hl hn).mono fun _ _ h => nmP_of hb h
def JnP (w1 : World) (va : Value) (zs : List UInt8) (W : World) (e : Ending) (w' : World) : Prop :=
 ∃ v, e = .returned v ∧ Mem.Own fB w1.heap.size 5 w' v zs ∧ AtOr W va v ∧ Frm (fun g => va.ownBlock = some g) W w' ∧ Below w1.heap.size w1 w'
theorem join_p {w1 W : World} {va vb : Value} {xs ys : List UInt8} (hb : Below w1.heap.size w1 W) (h : Mem.Own fB w1.heap.size 5 W va xs) (h' : Mem.Own fB w1.heap.size 5 W vb ys) (hap : Apart va vb) (hl : xs.length + ys.length ≤ 140737488355000) :
 Calls Tryz.prog 62 #[va, vb] W (JnP w1 va (xs ++ ys) W) :=
 (Join_f h h' hap hb.size hl).mono fun e w' hh => by
  obtain ⟨v, he, ho, hat, hf⟩ := hh
  exact ⟨v, he, ho, hat, hf, hb.trans (hf.to_below (fun k _ h1 h2 => by have := (h.lt k h2).1; omega) hb.size)⟩
theorem join_a {w1 W W' : World} {va vb : Value} {xs ys : List UInt8} (h : Mem.Own fB w1.heap.size 5 W va xs) (hb' : Below W.heap.size W W') (h' : Mem.Own fB w1.heap.size 5 W' vb ys) (hf : Frs W vb) (hb : Below w1.heap.size w1 W') (hl : xs.length + ys.length ≤ 140737488355000) :
 Calls Tryz.prog 62 #[va, vb] W' (JnP w1 va (xs ++ ys) W') := join_p hb (h.below hb') h' (hf.apart h) hl
theorem held5 {w1 W : World} {g : Nat} {t : TypeId} {a b c d e : Value} (h : Blk w1 g t #[a, b, c, d, e]) (hb : Below w1.heap.size w1 W) : W.cell? ⟨g, 0, none⟩ = some a ∧ W.cell? ⟨g, 1, none⟩ = some b ∧ W.cell? ⟨g, 2, none⟩ = some c ∧ W.cell? ⟨g, 3, none⟩ = some d ∧ W.cell? ⟨g, 4, none⟩ = some e :=
 ⟨(h.below hb h.lt).cell 0, (h.below hb h.lt).cell 1, (h.below hb h.lt).cell 2, (h.below hb h.lt).cell 3, (h.below hb h.lt).cell 4⟩
theorem below_drew0 (w : World) : Below w.heap.size w w.drew := (Below.refl _ _).drew
theorem Own.lowerS {base base' : Nat} {w : World} {v : Value} {xs : List UInt8} (h : Mem.Own fB base 5 w v xs) (hb : base' ≤ base) : Mem.Own fB base' 5 w v xs := by
 obtain ⟨h1, h2⟩ := h
 refine ⟨h1, ?_⟩
 rcases h2 with h2 | ⟨g, cap, cur, a, b, c⟩
 ·exact .inl h2
 ·exact .inr ⟨g, cap, cur, a, Nat.le_trans hb b, c⟩
theorem take_min_len {α : Type} (n : Nat) (xs : List α) : xs.take (min n xs.length) = xs.take n := by
 rcases Nat.le_total n xs.length with h | h
 ·rw [Nat.min_eq_left h]
 ·rw [Nat.min_eq_right h, List.take_length, List.take_of_length_le h]
def piece (ds : List UInt8) (j : Nat) : List UInt8 := (ds.drop (j * 2048)).take 2048
def piecesN (k : Nat) (ds : List UInt8) : List UInt8 := (List.range k).flatMap fun j => frameB (piece ds j)
theorem piecesN_succ (k : Nat) (ds : List UInt8) : piecesN (k + 1) ds = piecesN k ds ++ frameB (piece ds k) := by unfold piecesN; rw [List.range_succ, List.flatMap_append]; simp
theorem piece_len (ds : List UInt8) (j : Nat) : (piece ds j).length ≤ 2048 := by unfold piece; rw [List.length_take]; omega
theorem piecesN_len (k : Nat) (ds : List UInt8) : (piecesN k ds).length ≤ k * 2056 := by
 induction k with
 | zero => simp [piecesN]
 | succ k ih =>
   rw [piecesN_succ, List.length_append, frameB_len]
   have := piece_len ds k
   omega
def headN (x t : Int) (vs ls : List Int) (n : Nat) : List UInt8 := ((numB x ++ numB t) ++ numsB ((vs.length : Int) :: vs) ++ numsB ((ls.length : Int) :: ls)) ++ numB (n : Int)
def snB (x t : Int) (vs ls : List Int) (ds : List UInt8) : List UInt8 := frameB (headN x t vs ls ds.length) ++ piecesN ((ds.length + 2047) / 2048) ds
def SnRel (hf : List UInt8) (ds : List UInt8) (w1 : World) (ov iv : Value) (wr : World) : Prop :=
 ∃ k : Nat, k ≤ (ds.length + 2047) / 2048 ∧ iv = .int .i64 ((k * 2048 : Nat) : Int) ∧ Mem.Own fB w1.heap.size 5 wr ov (hf ++ piecesN k ds) ∧ Below w1.heap.size w1 wr
set_option maxRecDepth 100000 in
set_option maxHeartbeats 4000000 in
theorem RSnBytes_any {w : World} {x t : Int} {A B D : Option Addr} {a b d : Nat} {vs ls : List Int} {ds : List UInt8} (h : SnIn w A vs B ls D ds) (hdc : ds.length ≤ d) (hx : 0 ≤ x ∧ x ≤ 9223372036854775807) (ht : 0 ≤ t ∧ t ≤ 9223372036854775807)
 (hvl : vs.length ≤ 7) (hll : ls.length ≤ 7) (hv : ∀ n ∈ vs, 0 ≤ n ∧ n ≤ 9223372036854775807) (hl : ∀ n ∈ ls, 0 ≤ n ∧ n ≤ 9223372036854775807) (hds : ds.length ≤ 32768) :
 Calls Tryz.prog 40 #[.agg #[.int .i64 x, .int .i64 t, .slice A vs.length a, .slice B ls.length b, .slice D ds.length d]] w (AppPost w.heap.size (snB x t vs ls ds) w) := by
 have H := Lib.hid h; clear h
 have HX := Lib.hid hx; clear hx
 have HT := Lib.hid ht; clear ht
 have HV := Lib.hid hv; clear hv
 have HL := Lib.hid hl; clear hl
 go_enter Tryz.func40, Tryz.ntmps40
 go_upto_region 1 with fail
 obtain ⟨w1, hw1⟩ : ∃ x', x' = w.alloc (.cells #[.int .i64 x, .int .i64 t, .slice A vs.length a, .slice B ls.length b, .slice D ds.length d] 38) := ⟨_, rfl⟩
 rw [← hw1]
 have hb1 : Below w.heap.size w w1 := by rw [hw1]; exact (Below.refl _ _).alloc (Nat.le_refl _) _
 have hx1 : Blk w1 w.heap.size 38 #[.int .i64 x, .int .i64 t, .slice A vs.length a, .slice B ls.length b, .slice D ds.length d] := by rw [hw1]; exact Blk.new_ w _ _
 have H1 := Lib.hid (H.out.below hb1)
 have HB1 := Lib.hid hb1
 have HX1 := Lib.hid hx1
 clear hw1 hb1 hx1 H
 have hdr := below_drew0 w1
 have HNX : Hid (∀ W, Below w1.heap.size w1 W → Calls Tryz.prog 73 #[.int .i64 x] W (NmP w1 (numB x) W)) := Lib.hid fun W hb => num_p hb HX.out.1 HX.out.2
 have HNT : Hid (∀ W, Below w1.heap.size w1 W → Calls Tryz.prog 73 #[.int .i64 t] W (NmP w1 (numB t) W)) := Lib.hid fun W hb => num_p hb HT.out.1 HT.out.2
 have HLL : Hid ((numB x).length + (numB t).length ≤ 140737488355000) := Lib.hid (by have := (numB_len x).2; have := (numB_len t).2; omega)
 go_cut [3] (fun v wx => Mem.Own fB w1.heap.size 5 wx v (numB x ++ numB t) ∧ Below w1.heap.size w1 wx)
 case first =>
  go_region_held3 (fun W => W.cell? ⟨w.heap.size, 0, none⟩ = some (.int .i64 x) ∧ W.cell? ⟨w.heap.size, 1, none⟩ = some (.int .i64 t) ∧ W.cell? ⟨w.heap.size, 2, none⟩ = some (.slice A vs.length a) ∧ W.cell? ⟨w.heap.size, 3, none⟩ = some (.slice B ls.length b) ∧ W.cell? ⟨w.heap.size, 4, none⟩ = some (.slice D ds.length d)) (first | exact held5 HX1.out (by assumption) | exact held5 HX1.out (below_drewN (by assumption) _))
   (first | (go_at_call 73; (with_reducible refine (HNX.out _ ?_).mono ?_); (assumption); rintro e wX ⟨vX, rfl, hoX, hfX, hBX, hbX⟩)
          | (go_at_call 73; (with_reducible refine (HNT.out _ ?_).mono ?_); (assumption); rintro e wT ⟨vT, rfl, hoT, hfT, hBT, hbT⟩)
          | (go_at_call 62; (with_reducible refine (join_a (w1 := w1) hoX hbT hoT hfT hBT HLL.out).mono ?_); rintro e wJ ⟨vJ, rfl, hoJ, -, -, hBJ⟩)
          | (go_at_call 62; (with_reducible refine (join_b (w1 := w1) hoT hbX hoX hfX hBX HLL.out).mono ?_); rintro e wJ ⟨vJ, rfl, hoJ, -, -, hBJ⟩))
  all_goals (go_wp2_with fail; go_meet; exact ⟨hoJ, hBJ⟩)
 case rest =>
  obtain ⟨ho2, hb2⟩ := hcut
  clear HNX HNT HLL hdr
  obtain ⟨hd, hhd⟩ : ∃ z, z = numB x ++ numB t := ⟨_, rfl⟩
  rw [← hhd] at ho2
  have hhl : hd.length ≤ 20 := by rw [hhd, List.length_append]; have := (numB_len x).2; have := (numB_len t).2; omega
  have HHD := Lib.hid hhd; clear hhd
  obtain ⟨iv, hiv⟩ : ∃ z, z = numsB ((vs.length : Int) :: vs) := ⟨_, rfl⟩
  obtain ⟨il, hil⟩ : ∃ z, z = numsB ((ls.length : Int) :: ls) := ⟨_, rfl⟩
  have hivl : iv.length ≤ 80 := by rw [hiv]; have := numsB_len ((vs.length : Int) :: vs); rw [List.length_cons] at this; omega
  have hill : il.length ≤ 80 := by rw [hil]; have := numsB_len ((ls.length : Int) :: ls); rw [List.length_cons] at this; omega
  have HIV : Hid (∀ W, Below w1.heap.size w1 W → Calls Tryz.prog 74 #[.slice A vs.length a] W (NmP w1 iv W)) := Lib.hid fun W hb => by rw [hiv]; exact ints_p hb H1.out.v (by omega) HV.out
  have HIL : Hid (∀ W, Below w1.heap.size w1 W → Calls Tryz.prog 74 #[.slice B ls.length b] W (NmP w1 il W)) := Lib.hid fun W hb => by rw [hil]; exact ints_p hb H1.out.l (by omega) HL.out
  have HL1 : Hid (hd.length + iv.length ≤ 140737488355000) := Lib.hid (by omega)
  have HL2 : Hid ((hd ++ iv).length + il.length ≤ 140737488355000) := Lib.hid (by rw [List.length_append]; omega)
  have HLT : Hid (hd.length ≤ 20 ∧ iv.length ≤ 80 ∧ il.length ≤ 80) := Lib.hid ⟨hhl, hivl, hill⟩
  have HIVE := Lib.hid hiv; clear hiv
  have HILE := Lib.hid hil; clear hil
  have ho2d := Own.drew ho2
  have hb2d : Below w1.heap.size w1 wc.drew := hb2.drew
  clear hhl hivl hill
  go_upto_region 2 with fail
  go_cut [3] (fun v wx => Mem.Own fB w1.heap.size 5 wx v ((hd ++ iv) ++ il) ∧ Below w1.heap.size w1 wx)
  case first =>
   go_region_held3 (fun W => W.cell? ⟨w.heap.size, 0, none⟩ = some (.int .i64 x) ∧ W.cell? ⟨w.heap.size, 1, none⟩ = some (.int .i64 t) ∧ W.cell? ⟨w.heap.size, 2, none⟩ = some (.slice A vs.length a) ∧ W.cell? ⟨w.heap.size, 3, none⟩ = some (.slice B ls.length b) ∧ W.cell? ⟨w.heap.size, 4, none⟩ = some (.slice D ds.length d)) (first | exact held5 HX1.out (by assumption) | exact held5 HX1.out (below_drewN (by assumption) _))
    (first | (go_at_call 74; (with_reducible refine (HIV.out _ ?_).mono ?_); (assumption); rintro e wI ⟨vI, rfl, hoI, hfI, hBI, hbI⟩)
           | (go_at_call 74; (with_reducible refine (HIL.out _ ?_).mono ?_); (assumption); rintro e wL ⟨vL, rfl, hoL, hfL, hBL, hbL⟩)
           | (go_at_call 62; (with_reducible refine (join_p (w1 := w1) hBL ((ho2d.below hbI).below hbL) (hoI.below hbL) (hfI.apart ho2d) HL1.out).mono ?_); rintro e wJ ⟨vJ, rfl, hoJ, hatJ, hfJ, hBJ⟩; have hoL2 := hoL.frmA hfJ (hfL.apart (ho2d.below hbI)); have hapL := hatJ.apart (hfL.apart (ho2d.below hbI)) hoL)
           | (go_at_call 62; (with_reducible refine (join_a (w1 := w1) (ho2d.below hbL) hbI hoI hfI hBI HL1.out).mono ?_); rintro e wJ ⟨vJ, rfl, hoJ, hatJ, hfJ, hBJ⟩; have hoL2 := (hoL.below hbI).frmA hfJ (hfL.apart ho2d); have hapL := hatJ.apart (hfL.apart ho2d) (hoL.below hbI))
           | (go_at_call 62; (with_reducible refine (join_a (w1 := w1) ho2d hbI hoI hfI hBI HL1.out).mono ?_); rintro e wJ ⟨vJ, rfl, hoJ, hatJ, hfJ, hBJ⟩)
           | (go_at_call 62; (with_reducible refine (join_p (w1 := w1) hBJ hoJ hoL2 hapL HL2.out).mono ?_); rintro e wK ⟨vK, rfl, hoK, -, -, hBK⟩)
           | (go_at_call 62; (with_reducible refine (join_a (w1 := w1) hoJ hbL hoL hfL hBL HL2.out).mono ?_); rintro e wK ⟨vK, rfl, hoK, -, -, hBK⟩))
   all_goals (go_wp2_with fail; go_meet; exact ⟨hoK, hBK⟩)
  case rest =>
   obtain ⟨ho4, hb4⟩ := hcut
   clear ho2 ho2d hb2 hb2d HL1 HL2 HIV HIL
   have hx4 := HX1.out.below hb4 HX1.out.lt
   have e4 : wc.cell? ⟨w.heap.size, 4, none⟩ = some (.slice D ds.length d) := hx4.cell 4
   have HNL := Lib.hid (num_p (n := (ds.length : Int)) hb4 (by omega) (by omega))
   have HO4 := Lib.hid ho4
   clear hx4 ho4 hb4
   go_wp2_with fail
   (with_reducible refine HNL.out.mono ?_); rintro e w5 ⟨v5, rfl, ho5, hf5, hB5, hb5⟩
   have hll4 : (hd ++ iv ++ il).length + (numB (ds.length : Int)).length ≤ 140737488355000 := by have := HLT.out; have := (numB_len (ds.length : Int)).2; rw [List.length_append, List.length_append]; omega
   have HJ := Lib.hid (join_a (w1 := w1) HO4.out hb5 ho5 hf5 hB5 hll4)
   clear ho5 hf5 hb5 hll4 e4 HNL
   go_wp2_with fail
   (with_reducible refine HJ.out.mono ?_); rintro e w6 ⟨v6, rfl, ho6, -, -, hB6⟩
   obtain ⟨hn, hhn⟩ : ∃ z, z = hd ++ iv ++ il ++ numB (ds.length : Int) := ⟨_, rfl⟩
   rw [← hhn] at ho6
   have hnl : hn.length ≤ 4096 := by have := HLT.out; have := (numB_len (ds.length : Int)).2; rw [hhn, List.length_append, List.length_append, List.length_append]; omega
   obtain ⟨A6, c6, rfl⟩ := ho6.form
   have hfr := RFrame_any (c := c6) ho6.sl.2
   unfold frameR at hfr
   rw [if_pos hnl] at hfr
   obtain ⟨hf, hhf⟩ : ∃ z, z = frameB hn := ⟨_, rfl⟩
   rw [← hhf] at hfr
   have HFR := Lib.hid hfr
   have HHF := Lib.hid hhf
   have HHN := Lib.hid hhn
   have HFL : Hid (hf.length ≤ 5000) := Lib.hid (by rw [hhf, frameB_len]; omega)
   have HB6 := Lib.hid hB6
   clear hhn hnl hfr hhf ho6 hB6 HJ hB5
   go_wp2_with fail
   (with_reducible refine HFR.out.mono ?_); rintro e w7 ⟨A7, c7, rfl, ho7, hb7⟩
   simp only at ho7 ⊢
   have HO7 : Hid (Mem.Own fB w1.heap.size 5 w7 (.slice A7 hf.length c7) hf) := Lib.hid (Own.lowerS ho7 HB6.out.size)
   have HB7 : Hid (Below w1.heap.size w1 w7) := Lib.hid (HB6.out.trans (hb7.mono HB6.out.size))
   clear ho7 hb7 HFR HB6
   go_wp2_with fail
   go_loopw [4, 6] (fun ov iv wr => SnRel hf ds w1 ov iv wr) (fun _ iv _ => ds.length + 2048 - (intOf iv).toNat)
   case atStart => exact ⟨0, Nat.zero_le _, rfl, by rw [show piecesN 0 ds = [] from rfl, List.append_nil]; exact HO7.out, HB7.out⟩
   case round =>
    obtain ⟨k, hk, rfl, hown, hbw⟩ := hrel
    have HOWN := Lib.hid hown; clear hown
    have HBW := Lib.hid hbw; clear hbw
    have hx := HX1.out.below HBW.out HX1.out.lt
    have e4 : wr.cell? ⟨w.heap.size, 4, none⟩ = some (.slice D ds.length d) := hx.cell 4
    clear hx
    obtain ⟨i, hi⟩ : ∃ i, i = k * 2048 := ⟨_, rfl⟩
    rw [← hi]
    by_cases hlt : i < ds.length
    ·have t1 : (i : Int) < (ds.length : Int) := by omega
     obtain ⟨wo, rfl⟩ : ∃ wo, wo = wr := ⟨_, rfl⟩
     obtain ⟨q, hq⟩ : ∃ q, q = piece ds k := ⟨_, rfl⟩
     obtain ⟨j, hj⟩ : ∃ j, j = i + 2048 := ⟨_, rfl⟩
     have hql : q.length = min 2048 (ds.length - i) := by rw [hq, hi]; unfold piece; rw [List.length_take, List.length_drop]
     have e1 : IntKind.i64.wrap ((i : Int) + 2048) = (j : Int) := by rw [IntKind.wrap_i64]; omega
     obtain ⟨P, hP⟩ : ∃ p, p = partA D d i := ⟨_, rfl⟩
     obtain ⟨c9, hc9⟩ : ∃ p, p = d - i := ⟨_, rfl⟩
     have kk : ∀ (h : Nat), h = i + q.length → ∀ W : World, (Instr.slice 36 (.slice D ds.length d) (some (.int .i64 (i : Int))) (some (.int .i64 (h : Int))) none).run Tryz.prog W = .ok (.slice P q.length c9) W := fun h hh W => by
      have h9 := cut_lh Tryz.underlying36 sizeU8 D ds.length d i h i h rfl rfl (by omega) (by omega) W
      rw [← hP, ← hc9, show h - i = q.length by omega] at h9; exact h9
     have HSQ : Hid (Sl fB wo P q) := Lib.hid (by
      have h9 := (H1.out.d.below HBW.out).part (c := d) (k := i) (m := q.length) (by omega) hdc
      rw [hP]
      have : (ds.drop i).take q.length = q := by rw [hq, hi]; unfold piece; rw [List.length_take, take_min_len]
      rw [this] at h9; exact h9)
     have hfr := RFrame_any (c := c9) HSQ.out
     unfold frameR at hfr
     rw [if_pos (show q.length ≤ 4096 by omega)] at hfr
     obtain ⟨fq, hfq⟩ : ∃ z, z = frameB q := ⟨_, rfl⟩
     rw [← hfq] at hfr
     have HFR := Lib.hid hfr
     have HSUC : Hid (hf ++ piecesN (k + 1) ds = (hf ++ piecesN k ds) ++ fq) := Lib.hid (by rw [piecesN_succ, hfq, hq, List.append_assoc])
     have HLJ : Hid ((hf ++ piecesN k ds).length + fq.length ≤ 140737488355000) := Lib.hid (by
      have h1 := HFL.out
      have h2 := piecesN_len k ds
      rw [List.length_append, hfq, frameB_len]; omega)
     have HI := Lib.hid hi
     have HQL := Lib.hid hql
     have HJJ := Lib.hid hj
     have HK2 : Hid (k + 1 ≤ (ds.length + 2047) / 2048) := Lib.hid (by omega)
     have e2 : IntKind.i64.wrap ((i : Int) + 2048) = (((k + 1) * 2048 : Nat) : Int) := by rw [IntKind.wrap_i64]; omega
     clear hfr hfq hq hP hc9 e2
     by_cases hend : ds.length < j
     ·have t2 : (ds.length : Int) < (j : Int) := by omega
      have k1 := kk ds.length (by omega)
      clear kk hql hj hi hend
      go_wp2_with fail
      (with_reducible refine HFR.out.mono ?_); rintro e w8 ⟨A8, c8, rfl, ho8, hb8⟩
      simp only at ho8 ⊢
      have HJ8 := Lib.hid (join_a (w1 := w1) HOWN.out hb8 (Own.lowerS ho8 HBW.out.size) (frs_of ho8) (HBW.out.trans (hb8.mono HBW.out.size)) HLJ.out)
      clear ho8 hb8
      go_wp2_with fail
      (with_reducible refine HJ8.out.mono ?_); rintro e w9 ⟨v9, rfl, ho9, -, -, hB9⟩
      go_wp2_with fail
      go_roundw
      case rel => exact ⟨k + 1, HK2.out, by have := HI.out; have := HJJ.out; congr 1; omega, by rw [HSUC.out]; exact ho9, hB9⟩
      case measure => simp [intOf]; have := HJJ.out; omega
     ·have t2 : ¬ (ds.length : Int) < (j : Int) := by omega
      have k1 := kk j (by omega)
      clear kk hql hj hi hend
      go_wp2_with fail
      (with_reducible refine HFR.out.mono ?_); rintro e w8 ⟨A8, c8, rfl, ho8, hb8⟩
      simp only at ho8 ⊢
      have HJ8 := Lib.hid (join_a (w1 := w1) HOWN.out hb8 (Own.lowerS ho8 HBW.out.size) (frs_of ho8) (HBW.out.trans (hb8.mono HBW.out.size)) HLJ.out)
      clear ho8 hb8
      go_wp2_with fail
      (with_reducible refine HJ8.out.mono ?_); rintro e w9 ⟨v9, rfl, ho9, -, -, hB9⟩
      go_wp2_with fail
      go_roundw
      case rel => exact ⟨k + 1, HK2.out, by have := HI.out; have := HJJ.out; congr 1; omega, by rw [HSUC.out]; exact ho9, hB9⟩
      case measure => simp [intOf]; have := HJJ.out; omega
    ·have t1 : ¬ (i : Int) < (ds.length : Int) := by omega
     have hke : k = (ds.length + 2047) / 2048 := by omega
     have HFIN : Hid (hf ++ piecesN k ds = snB x t vs ls ds) := Lib.hid (by unfold snB headN; rw [HHF.out, HHN.out, HHD.out, HIVE.out, HILE.out, hke])
     clear hke hi
     go_wp2_with fail
     go_ret
     exact ⟨_, rfl, by rw [← HFIN.out]; exact Own.lowerS HOWN.out HB1.out.size, HB1.out.trans (HBW.out.mono HB1.out.size)⟩
end Go.Proofs.YtfpomllhkbbipaaGreatDoor
namespace Go.Proofs.YtfpomllhkbbipaaGreatDoor
open Go.RowKit Go.Maps Go.Lib Mem Pk
def numV (n : Int) (k : Nat) : Value := .tuple #[.int .i64 n, .int .i64 (k : Int)]
def GnPost (bs : List UInt8) (w : World) (e : Ending) (w' : World) : Prop :=
 (∀ n k, getNum bs = some (n, k) → e = .returned (numV n k)) ∧ (getNum bs = none → e = .returned (numV 0 0)) ∧ w = w'
theorem GnPost.no {bs : List UInt8} {w : World} {e : Ending} (h : getNum bs = none) (he : e = .returned (numV 0 0)) : GnPost bs w e w :=
 ⟨(fun n k hs => by rw [h] at hs; cases hs), fun _ => he, rfl⟩
theorem GnPost.yes {bs : List UInt8} {w : World} {e : Ending} {n : Int} {k : Nat} (h : getNum bs = some (n, k)) (he : e = .returned (numV n k)) : GnPost bs w e w :=
 ⟨(fun n' k' hs => by rw [h] at hs; injection hs with hs; injection hs with h1 h2; subst h1; subst h2; exact he), (fun hn => by rw [h] at hn; cases hn), rfl⟩
def GnRel (bs : List UInt8) (w : World) (uv iv : Value) (wr : World) : Prop :=
 ∃ i u : Nat, i ≤ 9 ∧ i ≤ bs.length ∧ uv = .int .u64 u ∧ iv = .int .i64 (i : Int) ∧ u < 128 ^ i ∧ getNum bs = gnGo i u (bs.drop i) ∧ w = wr
def GnIn (q i : Nat) (w : World) (pv kv : Value) (wr : World) : Prop := ∃ k p : Nat, k ≤ i ∧ p = q * 128 ^ k ∧ pv = .int .u64 (p : Int) ∧ kv = .int .i64 (k : Int) ∧ w = wr
theorem odd_num {v : Nat} (_h : v < 18446744073709551616) (ho : v % 2 = 1) : unzig v = -((v / 2 : Nat) : Int) - 1 := by unfold unzig; rw [if_pos ho]
theorem even_num {v : Nat} (ho : ¬ v % 2 = 1) : unzig v = ((v / 2 : Nat) : Int) := by unfold unzig; rw [if_neg ho]
set_option maxRecDepth 100000 in
set_option maxHeartbeats 4000000 in
theorem RGetNum_any {w : World} {A : Option Addr} {c : Nat} {bs : List UInt8} (h : Sl fB w A bs) :
 Calls Tryz.prog 61 #[.slice A bs.length c] w (GnPost bs w) := by
 have hl := h.len
 have H := Lib.hid h; clear h
 go_enter Tryz.func61, Tryz.ntmps61
 go_wp2_with fail
 go_loopw [4, 5] (fun uv iv wr => GnRel bs w uv iv wr) (fun _ iv _ => 10 - (intOf iv).toNat)
 case atStart => exact ⟨0, 0, Nat.zero_le _, Nat.zero_le _, rfl, rfl, by decide, rfl, rfl⟩
 case round =>
  obtain ⟨i, u, hi, hil, rfl, rfl, hu, hgn, rfl⟩ := hrel
  have HU := Lib.hid hu; clear hu
  have HGN := Lib.hid hgn; clear hgn
  have ti : ((i : Int) < 10) := by omega
  by_cases hlt : i < bs.length
  ·obtain ⟨b, hb⟩ : ∃ b, b = bs[i] := ⟨_, rfl⟩
   have hdr : bs.drop i = b :: bs.drop (i + 1) := by rw [hb]; exact List.drop_eq_getElem_cons hlt
   rw [hdr] at HGN
   obtain ⟨b2, o2, rfl, _, hcA⟩ := H.out.at hlt
   have hcB := hcA i hlt
   rw [← hb] at hcB
   obtain ⟨n, hn⟩ : ∃ n, n = b.toNat := ⟨_, rfl⟩
   have hc2 : w.cell? ⟨b2, o2 + i, none⟩ = some (.int .u8 (n : Int)) := by rw [hn]; exact hcB
   have hn256 : n < 256 := by rw [hn]; exact b.toNat_lt
   have HN := Lib.hid hn; clear hn
   clear hcA hcB hb hdr
   have ti2 : (i : Int) < (bs.length : Int) := by omega
   have ti0 : (0 : Int) ≤ (i : Int) := by omega
   by_cases hbad : (i = 9 ∧ 1 < n) ∨ (0 < i ∧ n = 0)
   ·have HBAD := Lib.hid (gnGo_bad (u := u) (r := bs.drop (i + 1)) (show (i = 9 ∧ 1 < b.toNat) ∨ (0 < i ∧ b.toNat = 0) by rw [← HN.out]; exact hbad))
    by_cases h9 : i = 9
    ·have t1 : ((i : Int) == 9) = true := by rw [beq_iff_eq]; omega
     by_cases h1 : 1 < n
     ·have t2 : ((1 : Int) < (n : Int)) := by omega
      clear h9 hbad
      go_wp2_with fail
      refine bodyPost_ret (v := .tuple #[.int .i64 0, .int .i64 0]) (by simp [results, Tryz.results61, go_sem]) rfl ?_
      exact GnPost.no (HGN.out.trans HBAD.out) rfl
     ·have t2 : ¬ ((1 : Int) < (n : Int)) := by omega
      have t3 : ((0 : Int) < (i : Int)) := by omega
      have t4 : ((n : Int) == 0) = true := by rw [beq_iff_eq]; omega
      clear h9 hbad
      go_wp2_with fail
      refine bodyPost_ret (v := .tuple #[.int .i64 0, .int .i64 0]) (by simp [results, Tryz.results61, go_sem]) rfl ?_
      exact GnPost.no (HGN.out.trans HBAD.out) rfl
    ·have t1 : ((i : Int) == 9) = false := by rw [beq_eq_false_iff_ne]; omega
     have t3 : ((0 : Int) < (i : Int)) := by omega
     have t4 : ((n : Int) == 0) = true := by rw [beq_iff_eq]; omega
     clear h9 hbad
     go_wp2_with fail
     refine bodyPost_ret (v := .tuple #[.int .i64 0, .int .i64 0]) (by simp [results, Tryz.results61, go_sem]) rfl ?_
     exact GnPost.no (HGN.out.trans HBAD.out) rfl
   ·have hnb : ¬ ((i = 9 ∧ 1 < b.toNat) ∨ (0 < i ∧ b.toNat = 0)) := by rw [← HN.out]; exact hbad
    have HNB := Lib.hid hnb; clear hnb
    have hv : u + n % 128 * 128 ^ i < 18446744073709551616 := num_fits HU.out hi hbad
    obtain ⟨q, hq⟩ : ∃ q, q = n % 128 := ⟨_, rfl⟩
    have hq1 : (n : Int) % 128 = (q : Int) := by omega
    have hq2 : IntKind.u64.wrap (q : Int) = (q : Int) := by rw [IntKind.wrap_u64]; omega
    rw [← hq] at hv
    have HQ := Lib.hid hq; clear hq
    have HV := Lib.hid hv; clear hv
    have HB := Lib.hid hbad; clear hbad
    rcases (show i = 9 ∨ i = 0 ∨ (i ≠ 9 ∧ 0 < i) by omega) with h9 | h9 | h9
    ·have t1 : ((i : Int) == 9) = true := by rw [beq_iff_eq]; omega
     have t2 : ¬ ((1 : Int) < (n : Int)) := by have := HB.out; omega
     have t3 : ((0 : Int) < (i : Int)) := by omega
     have t4 : ((n : Int) == 0) = false := by rw [beq_eq_false_iff_ne]; have := HB.out; omega
     clear h9
     go_wp2_with fail
     clear hq1 hq2
     go_loopw [6, 7] (fun pv kv wx => GnIn q i w pv kv wx) (fun _ kv _ => i - (intOf kv).toNat)
     case atStart => exact ⟨0, q, Nat.zero_le _, by rw [Nat.pow_zero, Nat.mul_one], rfl, rfl, rfl⟩
     case round =>
      obtain ⟨k, p, hk, hp, rfl, rfl, rfl⟩ := hrel
      by_cases hki : k < i
      ·have t5 : (k : Int) < (i : Int) := by omega
       have hp2 : p * 128 = q * 128 ^ (k + 1) := by rw [hp, pow_step, Nat.mul_assoc]
       have hle : q * 128 ^ (k + 1) ≤ q * 128 ^ i := Nat.mul_le_mul_left _ (Nat.pow_le_pow_right (by omega) (by omega))
       have e8 : IntKind.u64.wrap ((p : Int) * 128) = ((p * 128 : Nat) : Int) := by rw [IntKind.wrap_u64]; have := HV.out; omega
       have HP2 := Lib.hid hp2; clear hp2 hle hp
       go_wp2_with fail
       go_roundw
       case rel => exact ⟨k + 1, p * 128, by omega, HP2.out, rfl, by go_num, rfl⟩
       case measure => simp [intOf]; omega
      ·have hke : k = i := by omega
       subst hke
       obtain ⟨v, hv⟩ : ∃ v, v = u + p := ⟨_, rfl⟩
       have hvv : v = u + n % 128 * 128 ^ k := by rw [hv, hp, HQ.out]
       have hv64 : v < 18446744073709551616 := by rw [hv, hp]; exact HV.out
       have e9 : IntKind.u64.wrap ((u : Int) + (p : Int)) = (v : Int) := by rw [IntKind.wrap_u64]; omega
       have HVV := Lib.hid hvv; clear hvv hp hv
       obtain ⟨m, hm⟩ : ∃ m, m = v / 2 := ⟨_, rfl⟩
       have f1 : (v : Int) / 2 = (m : Int) := by omega
       have f2 : IntKind.u64.wrap (m : Int) = (m : Int) := by rw [IntKind.wrap_u64]; omega
       have f3 : IntKind.i64.wrap (m : Int) = (m : Int) := by rw [IntKind.wrap_i64]; omega
       have f4 : IntKind.i64.wrap (-(m : Int)) = -(m : Int) := by rw [IntKind.wrap_i64]; omega
       have f5 : IntKind.i64.wrap (-(m : Int) - 1) = -(m : Int) - 1 := by rw [IntKind.wrap_i64]; omega
       have HM := Lib.hid hm; clear hm
       by_cases h128 : n < 128
       ·have t6 : (n : Int) < 128 := by omega
        have HEND := Lib.hid (HGN.out.trans (gnGo_end (u := u) (r := bs.drop (k + 1)) HNB.out (by rw [← HN.out]; exact h128)))
        by_cases hodd : v % 2 = 1
        ·have f6 : ((v : Int) % 2 == 1) = true := by rw [beq_iff_eq]; omega
         have HU2 := Lib.hid (odd_num hv64 hodd); clear hodd hv64
         go_wp2_with fail
         refine bodyPost_ret (v := (.tuple #[.int .i64 (-(m : Int) - 1), .int .i64 ((k + 1 : Nat) : Int)])) (by simp [results, Tryz.results61, go_sem]) rfl ?_
         refine GnPost.yes HEND.out ?_
         rw [← HN.out, ← HVV.out, HU2.out, ← HM.out]
         rfl
        ·have f6 : ((v : Int) % 2 == 1) = false := by rw [beq_eq_false_iff_ne]; omega
         have HU2 := Lib.hid (even_num hodd); clear hodd hv64
         go_wp2_with fail
         refine bodyPost_ret (v := (.tuple #[.int .i64 (m : Int), .int .i64 ((k + 1 : Nat) : Int)])) (by simp [results, Tryz.results61, go_sem]) rfl ?_
         refine GnPost.yes HEND.out ?_
         rw [← HN.out, ← HVV.out, HU2.out, ← HM.out]
         rfl
       ·have t6 : ¬ (n : Int) < 128 := by omega
        have HON := Lib.hid (HGN.out.trans (gnGo_on (u := u) (r := bs.drop (k + 1)) HNB.out (by rw [← HN.out]; exact h128)))
        have hi8 : k ≠ 9 := by intro e; have := HNB.out; rw [← HN.out] at this; omega
        clear f1 f2 f3 f4 f5 hv64
        go_wp2_with fail
        go_roundw
        case rel => exact ⟨k + 1, v, by omega, by omega, rfl, by go_num, by rw [HVV.out]; exact num_pow HU.out, by rw [HVV.out, HN.out]; exact HON.out, rfl⟩
        case measure => simp [intOf]; omega
    ·have t1 : ((i : Int) == 9) = false := by rw [beq_eq_false_iff_ne]; omega
     have t3 : ¬ ((0 : Int) < (i : Int)) := by omega
     clear h9
     go_wp2_with fail
     clear hq1 hq2
     go_loopw [6, 7] (fun pv kv wx => GnIn q i w pv kv wx) (fun _ kv _ => i - (intOf kv).toNat)
     case atStart => exact ⟨0, q, Nat.zero_le _, by rw [Nat.pow_zero, Nat.mul_one], rfl, rfl, rfl⟩
     case round =>
      obtain ⟨k, p, hk, hp, rfl, rfl, rfl⟩ := hrel
      by_cases hki : k < i
      ·have t5 : (k : Int) < (i : Int) := by omega
       have hp2 : p * 128 = q * 128 ^ (k + 1) := by rw [hp, pow_step, Nat.mul_assoc]
       have hle : q * 128 ^ (k + 1) ≤ q * 128 ^ i := Nat.mul_le_mul_left _ (Nat.pow_le_pow_right (by omega) (by omega))
       have e8 : IntKind.u64.wrap ((p : Int) * 128) = ((p * 128 : Nat) : Int) := by rw [IntKind.wrap_u64]; have := HV.out; omega
       have HP2 := Lib.hid hp2; clear hp2 hle hp
       go_wp2_with fail
       go_roundw
       case rel => exact ⟨k + 1, p * 128, by omega, HP2.out, rfl, by go_num, rfl⟩
       case measure => simp [intOf]; omega
      ·have hke : k = i := by omega
       subst hke
       obtain ⟨v, hv⟩ : ∃ v, v = u + p := ⟨_, rfl⟩
       have hvv : v = u + n % 128 * 128 ^ k := by rw [hv, hp, HQ.out]
       have hv64 : v < 18446744073709551616 := by rw [hv, hp]; exact HV.out
       have e9 : IntKind.u64.wrap ((u : Int) + (p : Int)) = (v : Int) := by rw [IntKind.wrap_u64]; omega
       have HVV := Lib.hid hvv; clear hvv hp hv
       obtain ⟨m, hm⟩ : ∃ m, m = v / 2 := ⟨_, rfl⟩
       have f1 : (v : Int) / 2 = (m : Int) := by omega
       have f2 : IntKind.u64.wrap (m : Int) = (m : Int) := by rw [IntKind.wrap_u64]; omega
       have f3 : IntKind.i64.wrap (m : Int) = (m : Int) := by rw [IntKind.wrap_i64]; omega
       have f4 : IntKind.i64.wrap (-(m : Int)) = -(m : Int) := by rw [IntKind.wrap_i64]; omega
       have f5 : IntKind.i64.wrap (-(m : Int) - 1) = -(m : Int) - 1 := by rw [IntKind.wrap_i64]; omega
       have HM := Lib.hid hm; clear hm
       by_cases h128 : n < 128
       ·have t6 : (n : Int) < 128 := by omega
        have HEND := Lib.hid (HGN.out.trans (gnGo_end (u := u) (r := bs.drop (k + 1)) HNB.out (by rw [← HN.out]; exact h128)))
        by_cases hodd : v % 2 = 1
        ·have f6 : ((v : Int) % 2 == 1) = true := by rw [beq_iff_eq]; omega
         have HU2 := Lib.hid (odd_num hv64 hodd); clear hodd hv64
         go_wp2_with fail
         refine bodyPost_ret (v := (.tuple #[.int .i64 (-(m : Int) - 1), .int .i64 ((k + 1 : Nat) : Int)])) (by simp [results, Tryz.results61, go_sem]) rfl ?_
         refine GnPost.yes HEND.out ?_
         rw [← HN.out, ← HVV.out, HU2.out, ← HM.out]
         rfl
        ·have f6 : ((v : Int) % 2 == 1) = false := by rw [beq_eq_false_iff_ne]; omega
         have HU2 := Lib.hid (even_num hodd); clear hodd hv64
         go_wp2_with fail
         refine bodyPost_ret (v := (.tuple #[.int .i64 (m : Int), .int .i64 ((k + 1 : Nat) : Int)])) (by simp [results, Tryz.results61, go_sem]) rfl ?_
         refine GnPost.yes HEND.out ?_
         rw [← HN.out, ← HVV.out, HU2.out, ← HM.out]
         rfl
       ·have t6 : ¬ (n : Int) < 128 := by omega
        have HON := Lib.hid (HGN.out.trans (gnGo_on (u := u) (r := bs.drop (k + 1)) HNB.out (by rw [← HN.out]; exact h128)))
        have hi8 : k ≠ 9 := by intro e; have := HNB.out; rw [← HN.out] at this; omega
        clear f1 f2 f3 f4 f5 hv64
        go_wp2_with fail
        go_roundw
        case rel => exact ⟨k + 1, v, by omega, by omega, rfl, by go_num, by rw [HVV.out]; exact num_pow HU.out, by rw [HVV.out, HN.out]; exact HON.out, rfl⟩
        case measure => simp [intOf]; omega
    ·have t1 : ((i : Int) == 9) = false := by rw [beq_eq_false_iff_ne]; omega
     have t3 : ((0 : Int) < (i : Int)) := by omega
     have t4 : ((n : Int) == 0) = false := by rw [beq_eq_false_iff_ne]; have := HB.out; omega
     clear h9
     go_wp2_with fail
     clear hq1 hq2
     go_loopw [6, 7] (fun pv kv wx => GnIn q i w pv kv wx) (fun _ kv _ => i - (intOf kv).toNat)
     case atStart => exact ⟨0, q, Nat.zero_le _, by rw [Nat.pow_zero, Nat.mul_one], rfl, rfl, rfl⟩
     case round =>
      obtain ⟨k, p, hk, hp, rfl, rfl, rfl⟩ := hrel
      by_cases hki : k < i
      ·have t5 : (k : Int) < (i : Int) := by omega
       have hp2 : p * 128 = q * 128 ^ (k + 1) := by rw [hp, pow_step, Nat.mul_assoc]
       have hle : q * 128 ^ (k + 1) ≤ q * 128 ^ i := Nat.mul_le_mul_left _ (Nat.pow_le_pow_right (by omega) (by omega))
       have e8 : IntKind.u64.wrap ((p : Int) * 128) = ((p * 128 : Nat) : Int) := by rw [IntKind.wrap_u64]; have := HV.out; omega
       have HP2 := Lib.hid hp2; clear hp2 hle hp
       go_wp2_with fail
       go_roundw
       case rel => exact ⟨k + 1, p * 128, by omega, HP2.out, rfl, by go_num, rfl⟩
       case measure => simp [intOf]; omega
      ·have hke : k = i := by omega
       subst hke
       obtain ⟨v, hv⟩ : ∃ v, v = u + p := ⟨_, rfl⟩
       have hvv : v = u + n % 128 * 128 ^ k := by rw [hv, hp, HQ.out]
       have hv64 : v < 18446744073709551616 := by rw [hv, hp]; exact HV.out
       have e9 : IntKind.u64.wrap ((u : Int) + (p : Int)) = (v : Int) := by rw [IntKind.wrap_u64]; omega
       have HVV := Lib.hid hvv; clear hvv hp hv
       obtain ⟨m, hm⟩ : ∃ m, m = v / 2 := ⟨_, rfl⟩
       have f1 : (v : Int) / 2 = (m : Int) := by omega
       have f2 : IntKind.u64.wrap (m : Int) = (m : Int) := by rw [IntKind.wrap_u64]; omega
       have f3 : IntKind.i64.wrap (m : Int) = (m : Int) := by rw [IntKind.wrap_i64]; omega
       have f4 : IntKind.i64.wrap (-(m : Int)) = -(m : Int) := by rw [IntKind.wrap_i64]; omega
       have f5 : IntKind.i64.wrap (-(m : Int) - 1) = -(m : Int) - 1 := by rw [IntKind.wrap_i64]; omega
       have HM := Lib.hid hm; clear hm
       by_cases h128 : n < 128
       ·have t6 : (n : Int) < 128 := by omega
        have HEND := Lib.hid (HGN.out.trans (gnGo_end (u := u) (r := bs.drop (k + 1)) HNB.out (by rw [← HN.out]; exact h128)))
        by_cases hodd : v % 2 = 1
        ·have f6 : ((v : Int) % 2 == 1) = true := by rw [beq_iff_eq]; omega
         have HU2 := Lib.hid (odd_num hv64 hodd); clear hodd hv64
         go_wp2_with fail
         refine bodyPost_ret (v := (.tuple #[.int .i64 (-(m : Int) - 1), .int .i64 ((k + 1 : Nat) : Int)])) (by simp [results, Tryz.results61, go_sem]) rfl ?_
         refine GnPost.yes HEND.out ?_
         rw [← HN.out, ← HVV.out, HU2.out, ← HM.out]
         rfl
        ·have f6 : ((v : Int) % 2 == 1) = false := by rw [beq_eq_false_iff_ne]; omega
         have HU2 := Lib.hid (even_num hodd); clear hodd hv64
         go_wp2_with fail
         refine bodyPost_ret (v := (.tuple #[.int .i64 (m : Int), .int .i64 ((k + 1 : Nat) : Int)])) (by simp [results, Tryz.results61, go_sem]) rfl ?_
         refine GnPost.yes HEND.out ?_
         rw [← HN.out, ← HVV.out, HU2.out, ← HM.out]
         rfl
       ·have t6 : ¬ (n : Int) < 128 := by omega
        have HON := Lib.hid (HGN.out.trans (gnGo_on (u := u) (r := bs.drop (k + 1)) HNB.out (by rw [← HN.out]; exact h128)))
        have hi8 : k ≠ 9 := by intro e; have := HNB.out; rw [← HN.out] at this; omega
        clear f1 f2 f3 f4 f5 hv64
        go_wp2_with fail
        go_roundw
        case rel => exact ⟨k + 1, v, by omega, by omega, rfl, by go_num, by rw [HVV.out]; exact num_pow HU.out, by rw [HVV.out, HN.out]; exact HON.out, rfl⟩
        case measure => simp [intOf]; omega
  ·have hdr : bs.drop i = [] := List.drop_of_length_le (by omega)
   rw [hdr] at HGN
   have ti2 : ¬ (i : Int) < (bs.length : Int) := by omega
   go_wp2_with fail
   refine bodyPost_ret (v := .tuple #[.int .i64 0, .int .i64 0]) (by simp [results, Tryz.results61, go_sem]) rfl ?_
   exact GnPost.no (HGN.out.trans (gnGo_nil _ _)) rfl
end Go.Proofs.YtfpomllhkbbipaaGreatDoor
namespace Go.Proofs.YtfpomllhkbbipaaGreatDoor
open Go Go.RowKit Go.Maps Go.Lib Mem Pk
theorem unword_take {bs : List UInt8} (h : 4 ≤ bs.length) : unwordN (bs.take 4) = unwordN bs := by
 match bs, h with
 | a :: b :: c :: d :: r, _ => rfl
theorem RSum_q {w : World} {A : Option Addr} {c n : Nat} {bs : List UInt8} (h : Sl fB w A bs) : Calls Tryz.prog 96 #[.slice A bs.length c] (w.drewN n) fun e w'' => e = .returned (.int .u32 (sumN bs : Int)) ∧ ∃ m, w'' = w.drewN m :=
 quiet_mine (RSum_any (c := c) (h.drewN n))
theorem Runword_q {w : World} {A : Option Addr} {c n : Nat} {bs : List UInt8} (h : Sl fB w A bs) (h4 : 4 ≤ bs.length) : Calls Tryz.prog 95 #[.slice A bs.length c] (w.drewN n) fun e w'' => e = .returned (.int .u32 (unwordN bs : Int)) ∧ ∃ m, w'' = w.drewN m :=
 Calls.quiet_of (Runword_any (c := c) (h.drewN n) h4)
set_option maxRecDepth 100000 in
set_option maxHeartbeats 1000000 in
theorem RUnframe_any {w : World} {A : Option Addr} {c : Nat} {bs : List UInt8} (h : Sl fB w A bs) (hc : bs.length ≤ c) :
 Calls Tryz.prog 60 #[.slice A bs.length c] w (UfPost (unframe bs) w) := by
 have hl := h.len
 obtain ⟨u, hu⟩ : ∃ u, u = unwordN bs := ⟨_, rfl⟩
 unfold unframe
 rw [← hu]
 by_cases h8 : bs.length < 8
 ·rw [if_pos h8]
  have t1 : (bs.length : Int) < 8 := by omega
  clear h hc hu h8
  go_enter Tryz.func60, Tryz.ntmps60
  go_wp2_with fail
  refine bodyPost_ret (v := .tuple #[.slice none 0 0, .int .i64 0, .int .i64 31]) (by simp [results, Tryz.results60, go_sem]) rfl ?_
  exact UfPost.no (Below.refl _ _)
 ·rw [if_neg h8]
  have t1 : ¬ (bs.length : Int) < 8 := by omega
  obtain ⟨q0, hq0⟩ : ∃ q, q = bs.take 4 := ⟨_, rfl⟩
  have hq0l : q0.length = 4 := by rw [hq0, List.length_take]; omega
  obtain ⟨P0, hP0⟩ : ∃ x, x = partA A c 0 := ⟨_, rfl⟩
  have k0 : ∀ W : World, (Instr.slice 36 (.slice A bs.length c) none (some (.int .i64 4)) none).run Tryz.prog W = .ok (.slice P0 q0.length c) W := fun W => by
   have h := cut_h Tryz.underlying36 sizeU8 .i64 A bs.length c 4 (by omega) W
   rw [← hP0, ← hq0l] at h
   rw [hq0l] at h ⊢; exact h
  have hs0 : Sl fB w P0 q0 := by
   have h1 := h.part (c := c) (k := 0) (m := 4) (by omega) hc
   rw [List.drop_zero, ← hq0] at h1
   rw [hP0]; exact h1
  have huw := Runword_any (c := c) hs0 (by omega)
  rw [hq0, unword_take (show 4 ≤ bs.length by omega), ← hu, ← hq0] at huw
  have HUW := Lib.hid huw
  clear huw hs0 hq0 hq0l hP0
  have H := Lib.hid h; clear h
  have HU := Lib.hid hu; clear hu
  have H8 := Lib.hid h8; clear h8
  have HC := Lib.hid hc; clear hc
  have HU32 : Hid (u < 4294967296) := Lib.hid (by rw [HU.out]; exact unwordN_lt bs)
  by_cases h2 : 4096 < u
  ·rw [if_pos h2]
   have t2 : (4096 : Int) < (u : Int) := by omega
   clear h2
   go_enter Tryz.func60, Tryz.ntmps60
   go_wp2_with fail
   (with_reducible refine HUW.out.mono ?_); rintro e w2 ⟨rfl, m, rfl⟩
   go_wp2_with fail
   refine bodyPost_ret (v := .tuple #[.slice none 0 0, .int .i64 0, .int .i64 2]) (by simp [results, Tryz.results60, go_sem]) rfl ?_
   exact UfPost.no (below_drewN (Below.refl _ _) _)
  ·rw [if_neg h2]
   have t2 : ¬ (4096 : Int) < (u : Int) := by omega
   obtain ⟨v, hv⟩ : ∃ v, v = 8 + u := ⟨_, rfl⟩
   have e1 : IntKind.i64.wrap (u : Int) = (u : Int) := by rw [IntKind.wrap_i64]; omega
   have e2 : IntKind.i64.wrap (8 + (u : Int)) = (v : Int) := by rw [IntKind.wrap_i64]; omega
   have e2b : 8 + (u : Int) = (v : Int) := by omega
   have e3 : IntKind.u32.wrap (v : Int) = (v : Int) := by rw [IntKind.wrap_u32]; omega
   have e3b : (v : Int) % 4294967296 = (v : Int) := by omega
   have hu4 : u ≤ 4096 := by omega
   obtain ⟨dl, hdl⟩ : ∃ d, d = bs.length - 8 := ⟨_, rfl⟩
   have e4 : IntKind.i64.wrap ((bs.length : Int) - 8) = (dl : Int) := by have := H8.out; rw [IntKind.wrap_i64]; omega
   have e4b : (bs.length : Int) - 8 = (dl : Int) := by have := H8.out; omega
   by_cases h3 : bs.length < 8 + u
   ·rw [if_pos h3]
    have t3 : (dl : Int) < (u : Int) := by have := H8.out; omega
    clear hdl
    clear h2 h3 hv hu4
    go_enter Tryz.func60, Tryz.ntmps60
    go_wp2_with fail
    (with_reducible refine HUW.out.mono ?_); rintro e w2 ⟨rfl, m, rfl⟩
    go_wp2_with fail
    refine bodyPost_ret (v := .tuple #[.slice none 0 0, .int .i64 0, .int .i64 31]) (by simp [results, Tryz.results60, go_sem]) rfl ?_
    exact UfPost.no (below_drewN (Below.refl _ _) _)
   ·rw [if_neg h3]
    have t3 : ¬ (dl : Int) < (u : Int) := by have := H8.out; omega
    clear hdl
    have hcl := HC.out
    obtain ⟨p, hp⟩ : ∃ p, p = (bs.drop 8).take u := ⟨_, rfl⟩
    have hpl : p.length = u := by rw [hp, List.length_take, List.length_drop]; omega
    obtain ⟨P8, hP8⟩ : ∃ x, x = partA A c 8 := ⟨_, rfl⟩
    obtain ⟨c8, hc8⟩ : ∃ x, x = c - 8 := ⟨_, rfl⟩
    obtain ⟨P4, hP4⟩ : ∃ x, x = partA A c 4 := ⟨_, rfl⟩
    obtain ⟨c4, hc4⟩ : ∃ x, x = c - 4 := ⟨_, rfl⟩
    obtain ⟨q, hq⟩ : ∃ q, q = (bs.drop 4).take 4 := ⟨_, rfl⟩
    have hql : q.length = 4 := by have := H8.out; rw [hq, List.length_take, List.length_drop]; omega
    have hqu : unwordN (bs.drop 4) = unwordN q := by have := H8.out; rw [hq, unword_take (show 4 ≤ (bs.drop 4).length by rw [List.length_drop]; omega)]
    have k8 : ∀ W : World, (Instr.slice 36 (.slice A bs.length c) (some (.int .i64 8)) (some (.int .i64 (v : Int))) none).run Tryz.prog W = .ok (.slice P8 p.length c8) W := fun W => by
     have h := cut_lhk Tryz.underlying36 sizeU8 .i64 .i64 A bs.length c 8 v (by omega) (by omega) W
     rw [← hP8, ← hc8, show v - 8 = p.length by omega] at h; exact h
    have k4 : ∀ W : World, (Instr.slice 36 (.slice A bs.length c) (some (.int .i64 4)) (some (.int .i64 8)) none).run Tryz.prog W = .ok (.slice P4 q.length c4) W := fun W => by
     have h := cut_lhk Tryz.underlying36 sizeU8 .i64 .i64 A bs.length c 4 8 (by omega) (by have := H8.out; omega) W
     rw [← hP4, ← hc4, show 8 - 4 = q.length by omega] at h; exact h
    have hsp : Sl fB w P8 p := by rw [hp, hP8]; exact H.out.part (by omega) hcl
    have hsq : Sl fB w P4 q := by
     have h := H.out.part (c := c) (k := 4) (m := 4) (by have := H8.out; omega) hcl
     rw [← hq] at h
     rw [hP4]; exact h
    have HSP := Lib.hid hsp
    have HSQ := Lib.hid hsq
    have HQL : Hid (4 ≤ q.length) := Lib.hid (by have := H8.out; omega)
    have HPL := Lib.hid hpl
    rw [← hp, hqu]
    obtain ⟨s1, hs1⟩ : ∃ s, s = sumN p := ⟨_, rfl⟩
    obtain ⟨s2, hs2⟩ : ∃ s, s = unwordN q := ⟨_, rfl⟩
    rw [← hs1, ← hs2]
    obtain ⟨res, hres⟩ : ∃ r, r = (if s1 = s2 then (p, 8 + u, (0 : Int)) else ([], 0, 32)) := ⟨_, rfl⟩
    rw [← hres]
    have HRES := Lib.hid hres; clear hres
    have HQ1 : Hid (∀ (W : World) (B : Option Addr) (d n : Nat), Sl fB W B p → Calls Tryz.prog 96 #[.slice B p.length d] (W.drewN n) fun e w'' => e = .returned (.int .u32 (s1 : Int)) ∧ ∃ m, w'' = W.drewN m) := Lib.hid fun W B d n h => by rw [hs1]; exact RSum_q h
    have HQ2 : Hid (∀ (W : World) (n : Nat), Sl fB W P4 q → Calls Tryz.prog 95 #[.slice P4 q.length c4] (W.drewN n) fun e w'' => e = .returned (.int .u32 (s2 : Int)) ∧ ∃ m, w'' = W.drewN m) := Lib.hid fun W n h => by rw [hs2]; exact Runword_q h HQL.out
    have HV := Lib.hid hv
    clear h2 h3 hv hcl hp hpl hP8 hc8 hP4 hc4 hq hql hqu hsp hsq hs1 hs2
    go_enter Tryz.func60, Tryz.ntmps60
    go_wp2_with fail
    (with_reducible refine HUW.out.mono ?_); rintro e w2 ⟨rfl, m, rfl⟩
    have HCL := Lib.hid (Join_sl (c := c8) (base := w.heap.size) (w := w.drewN m) (va := .slice none 0 0) (xs := []) Own.nil HSP.out (below_drewN (Below.refl _ _) m) (Nat.le_refl _) (Nat.le_refl _) (by rw [HPL.out, List.length_nil]; omega))
    go_wp2_with fail
    (with_reducible refine HCL.out.mono ?_); rintro e w3 ⟨v3, rfl, ho3, hb3⟩
    rw [List.nil_append] at ho3
    obtain ⟨A3, c3, rfl⟩ := ho3.form
    have HB3 : Hid (Below w.heap.size w w3) := Lib.hid ((below_drewN (Below.refl _ _) m).trans hb3)
    have HO3 : Hid (Mem.Own fB w.heap.size 5 w3 (.slice A3 p.length c3) p) := Lib.hid ho3
    have hs3 := HO3.out.sl.2
    have hq3 := HSQ.out.below HB3.out
    clear ho3 hb3 HCL
    by_cases h5 : s1 = s2
    ·have H5 := Lib.hid h5
     have t5 : ((s1 : Int) == (s2 : Int)) = true := by rw [beq_iff_eq]; omega
     clear h5
     go_wp2_with fail
     go_quiet (first | (go_at_call 96; exact HQ1.out _ _ _ _ hs3) | (go_at_call 95; exact HQ2.out _ _ hq3))
     go_wp2_with fail
     refine bodyPost_ret (v := .tuple #[.slice A3 p.length c3, .int .i64 (v : Int), .int .i64 0]) (by simp [results, Tryz.results60, go_sem]) rfl ?_
     rw [HRES.out, if_pos H5.out]
     exact ⟨A3, c3, by rw [HV.out], HO3.out, below_drewN HB3.out _⟩
    ·have H5 := Lib.hid h5
     have t5 : ((s1 : Int) == (s2 : Int)) = false := by rw [beq_eq_false_iff_ne]; omega
     clear h5
     go_wp2_with fail
     go_quiet (first | (go_at_call 96; exact HQ1.out _ _ _ _ hs3) | (go_at_call 95; exact HQ2.out _ _ hq3))
     go_wp2_with fail
     refine bodyPost_ret (v := .tuple #[.slice none 0 0, .int .i64 0, .int .i64 32]) (by simp [results, Tryz.results60, go_sem]) rfl ?_
     rw [HRES.out, if_neg H5.out]
     exact UfPost.no (below_drewN HB3.out _)
end Go.Proofs.YtfpomllhkbbipaaGreatDoor
