/- Layer 3: the reader. -/
import Derived.Test.YtfpomllhkbbipaaGreatDoorByt
import Derived.Test.YtfpomllhkbbipaaGreatDoorSrtG
import Derived.Recover
import Derived.Defers
import Derived.Test.YtfpomllhkbbipaaGreatDoorPkX
import Derived.Test.YtfpomllhkbbipaaGreatDoorOwn
import Derived.Test.YtfpomllhkbbipaaGreatDoorPkA
import Derived.Deep.DeepCutAuto
namespace Go.Proofs.YtfpomllhkbbipaaGreatDoor
open Go.RowKit Go.Maps Mem

/-- what a reader panics with -/
def wrongV (k : Int) : Value := .iface 194 (.agg #[.int .i64 k])
theorem Mem.SlB.dropM {α : Type} {f : α → Value} {e : TypeId} {F : Nat → Prop} {w : World} {A : Option Addr} {xs : List α} (h : SlB f e F w A xs) (n : Nat) : SlB f e F w (A.map fun x => x.add n) (xs.drop n) := by
  by_cases hn : n < xs.length
  · obtain ⟨b, o, rfl, _, _⟩ := h.sl.at hn
    have h1 := h.piece (k := n) (m := xs.length - n) (by omega) rfl
    rw [List.take_of_length_le (by simp)] at h1
    have e2 : (⟨b, o, none⟩ : Addr).add n = ⟨b, o + n, none⟩ := by
      unfold Addr.add; split
      · rename_i h0; subst h0; rfl
      · rfl
    show SlB f e F w (some ((⟨b, o, none⟩ : Addr).add n)) _
    rw [e2]; exact h1
  · rw [List.drop_of_length_le (by omega)]; exact SlB.nil
theorem Mem.SlB.takeM {α : Type} {f : α → Value} {e : TypeId} {F : Nat → Prop} {w : World} {A : Option Addr} {xs : List α} (h : SlB f e F w A xs) (n : Nat) : SlB f e F w A (xs.take n) := by
  by_cases hx : 0 < xs.length
  · obtain ⟨b, o, rfl, _, _⟩ := h.sl.at hx
    by_cases hn : n ≤ xs.length
    · have h1 := h.piece (k := 0) (m := n) (by omega) rfl
      rw [List.drop_zero, Nat.add_zero] at h1; exact h1
    · rw [List.take_of_length_le (by omega)]; exact h
  · have : xs = [] := List.eq_nil_of_length_eq_zero (by omega)
    subst this; rw [List.take_nil]; exact SlB.nil
/-- bytes that lie in a block of F, of whatever type -/
def SlF (F : Nat → Prop) (w : World) (A : Option Addr) (xs : List UInt8) : Prop := ∃ e, SlB fB e F w A xs
section
variable {F G : Nat → Prop} {w w' : World} {A : Option Addr} {xs : List UInt8}
theorem SlF.of {e : TypeId} (h : SlB fB e F w A xs) : SlF F w A xs := ⟨e, h⟩
theorem SlF.nil : SlF F w A [] := ⟨0, SlB.nil⟩
theorem SlF.sl (h : SlF F w A xs) : Sl fB w A xs := by obtain ⟨e, h⟩ := h; exact h.sl
theorem SlF.mono (h : SlF F w A xs) (hF : ∀ g, g < w.heap.size → F g → G g) : SlF G w A xs := by obtain ⟨e, h⟩ := h; exact ⟨e, h.mono hF⟩
theorem SlF.frm (h : SlF F w A xs) (hf : Frm G w w') (hd : ∀ g, F g → ¬ G g) : SlF F w' A xs := by obtain ⟨e, h⟩ := h; exact ⟨e, h.frm hf hd⟩
theorem SlF.below (h : SlF F w A xs) (hb : Below w.heap.size w w') : SlF F w' A xs := by obtain ⟨e, h⟩ := h; exact ⟨e, h.below hb⟩
theorem SlF.dropM (h : SlF F w A xs) (n : Nat) : SlF F w (A.map fun x => x.add n) (xs.drop n) := by obtain ⟨e, h⟩ := h; exact ⟨e, Mem.SlB.dropM h n⟩
theorem SlF.takeM (h : SlF F w A xs) (n : Nat) : SlF F w A (xs.take n) := by obtain ⟨e, h⟩ := h; exact ⟨e, Mem.SlB.takeM h n⟩
theorem SlF.of_sl (h : Sl fB w A xs) : SlF (fun g => g < w.heap.size) w A xs := by
  by_cases hx : 0 < xs.length
  · obtain ⟨b, o, rfl, hb, hc⟩ := h.at hx
    have h0 := hc 0 hx
    have hheap : ∃ cur e fr, w.heap[b]? = some (.cells cur e fr) := by
      unfold World.cell? at h0
      split at h0
      · rename_i c e fr hh; exact ⟨c, e, fr, hh⟩
      · cases h0
    obtain ⟨cur, e, fr, hh⟩ := hheap
    refine ⟨e, h.1, fun _ => ⟨b, o, cur, fr, rfl, hb, hh, fun j hj => ?_⟩⟩
    have h2 := hc j hj
    unfold World.cell? at h2
    rw [hh] at h2
    simpa using h2
  · obtain rfl : xs = [] := List.eq_nil_of_length_eq_zero (by omega)
    exact SlF.nil
end
/-- a reader at block r: the bytes that it still has lie in blocks of F -/
def Rd (F : Nat → Prop) (w : World) (r : Nat) (bs : List UInt8) : Prop :=
  ∃ A c, ¬ F r ∧ Blk w r 192 #[.slice A bs.length c] ∧ SlF F w A bs ∧ bs.length ≤ c ∧ c ≤ maxLen
/-- a call of a reader's method that ends well -/
def RdOk (F : Nat → Prop) (r : Nat) (rest : List UInt8) (v : Value) (w : World) (e : Ending) (w' : World) : Prop := e = .returned v ∧ Rd F w' r rest ∧ Frm (fun g => g = r) w w'
/-- one that panics -/
def RdNo (r : Nat) (k : Int) (w : World) (e : Ending) (w' : World) : Prop := e = .panicked [{ v := wrongV k, recovered := false }] ∧ Frm (fun g => g = r) w w'
theorem rdFail_any (w : World) (p : Value) (k : Int) (hk : k ≠ 0) : Calls Tryz.prog 125 #[p, .int .i64 k] w fun e w' => e = .panicked [{ v := wrongV k, recovered := false }] ∧ w = w' := by
  have hk1 : (k == 0) = false := by simpa using hk
  clear hk
  go_enter Tryz.func125, Tryz.ntmps125
  go_wp2_with fail
  exact ⟨rfl, rfl, rfl⟩
theorem take_no {F : Nat → Prop} {w : World} {r : Nat} {bs : List UInt8} (h : Rd F w r bs) (n : Int) (hn : (bs.length : Int) < n) :
    Calls Tryz.prog 124 #[.pointer (some ⟨r, 0, none⟩), .int .i64 n] w (RdNo r 30 w) := by
  obtain ⟨A, c, -, hb, hs, hc, hm⟩ := h
  have c0 : w.cell? ⟨r, 0, none⟩ = some (.slice A bs.length c) := hb.cell 0
  clear hb hs
  go_enter Tryz.func124, Tryz.ntmps124
  go_wp2_with fail
  (with_reducible refine (rdFail_any w _ 30 (by decide)).mono ?_); rintro e w' ⟨rfl, rfl⟩
  go_wp2_with fail
  exact ⟨rfl, rfl, Frm.refl _ _⟩
/-- the bytes that take gives -/
def TakeOk (F : Nat → Prop) (r : Nat) (bs : List UInt8) (n : Nat) (w : World) (e : Ending) (w' : World) : Prop :=
  ∃ A c, e = .returned (.slice A n c) ∧ SlF F w' A (bs.take n) ∧ Rd F w' r (bs.drop n) ∧ Frm (fun g => g = r) w w'
theorem take_ok {F : Nat → Prop} {w : World} {r : Nat} {bs : List UInt8} (h : Rd F w r bs) (n : Nat) (hn : n ≤ bs.length) (ni : Int) (hni : (n : Int) = ni) :
    Calls Tryz.prog 124 #[.pointer (some ⟨r, 0, none⟩), .int .i64 ni] w (TakeOk F r bs n w) := by
  subst hni
  obtain ⟨A, c, hr, hb, hs, hc, hm⟩ := h
  have c0 : w.cell? ⟨r, 0, none⟩ = some (.slice A bs.length c) := hb.cell 0
  have q0 := hb.free 0
  have hl := hs.sl.len
  have hfin : ∀ A', (A' = A.map (fun x => x.add n) ∨ c = n) → TakeOk F r bs n w (.returned (.slice A n c)) (w.setCell ⟨r, 0, none⟩ (.slice A' (bs.length - n) (c - n))) := by
    intro A' hA'
    have hset : Frm (fun g => g = r) w (w.setCell ⟨r, 0, none⟩ (.slice A' (bs.length - n) (c - n))) := (Frm.refl (fun g => g = r) w).setCell (p := ⟨r, 0, none⟩) (fun _ => rfl) _
    have hd : ∀ g, F g → ¬ g = r := fun g hg e => hr (e ▸ hg)
    refine ⟨A, c, rfl, (hs.takeM n).frm hset hd, ⟨A', c - n, hr, by rw [List.length_drop]; exact hb.set_ 0 _, ?_, by rw [List.length_drop]; omega, by omega⟩, (Frm.refl (fun g => g = r) w).setCell (p := ⟨r, 0, none⟩) (fun _ => rfl) _⟩
    refine SlF.frm ?_ hset hd
    rcases hA' with rfl | h
    · exact hs.dropM n
    · rw [List.drop_of_length_le (by omega)]; exact SlF.nil
  unfold maxLen at hm
  by_cases hcn : c = n
  · have h1 := hfin A (.inr hcn)
    rw [show bs.length - n = 0 by omega, show c - n = 0 by omega] at h1
    have HF := Lib.hid h1; clear h1 hfin hb hs
    subst hcn
    go_enter Tryz.func124, Tryz.ntmps124
    go_wp2_with fail
    go_ret
    exact HF.out
  · have HF := Lib.hid (hfin _ (.inl rfl)); clear hfin hb hs
    go_enter Tryz.func124, Tryz.ntmps124
    go_wp2_with fail
    go_ret
    exact HF.out
end Go.Proofs.YtfpomllhkbbipaaGreatDoor
namespace Go.Proofs.YtfpomllhkbbipaaGreatDoor
open Go.RowKit Go.Maps Mem Pk

def NumPost (F : Nat → Prop) (r : Nat) (bs : List UInt8) (w : World) (e : Ending) (w' : World) : Prop :=
  (∀ n k, getNum bs = some (n, k) → RdOk F r (bs.drop k) (.int .i64 n) w e w') ∧ (getNum bs = none → RdNo r 30 w e w')
def NumRel (F : Nat → Prop) (r : Nat) (bs : List UInt8) (w : World) (uv sv : Value) (wr : World) : Prop :=
  ∃ i u : Nat, i ≤ 9 ∧ i ≤ bs.length ∧ uv = .int .u64 u ∧ sv = .int .i64 (7 * (i : Int)) ∧ u < 128 ^ i ∧ getNum bs = gnGo i u (bs.drop i) ∧ Rd F wr r (bs.drop i) ∧ Frm (fun g => g = r) w wr
theorem NumPost.no {F : Nat → Prop} {r : Nat} {bs : List UInt8} {w w' : World} (h : getNum bs = none) (hf : Frm (fun g => g = r) w w') : NumPost F r bs w (.panicked [{ v := wrongV 30, recovered := false }]) w' :=
  ⟨(fun n k hs => by rw [h] at hs; cases hs), fun _ => ⟨rfl, hf⟩⟩
theorem NumPost.yes {F : Nat → Prop} {r : Nat} {bs : List UInt8} {n : Int} {k : Nat} {w w' : World} {e : Ending} (h : getNum bs = some (n, k)) (he : e = .returned (.int .i64 n)) (hr : Rd F w' r (bs.drop k)) (hf : Frm (fun g => g = r) w w') : NumPost F r bs w e w' :=
  ⟨(fun n' k' hs => by rw [h] at hs; injection hs with hs; injection hs with h1 h2; subst h1; subst h2; exact ⟨he, hr, hf⟩), (fun hn => by rw [h] at hn; cases hn)⟩
theorem num_pow {u n i : Nat} (h : u < 128 ^ i) : u + n % 128 * 128 ^ i < 128 ^ (i + 1) := by
  have e1 : n % 128 * 128 ^ i ≤ 127 * 128 ^ i := Nat.mul_le_mul_right _ (by omega)
  rw [pow_step]; omega
theorem num_fits {u n i : Nat} (h : u < 128 ^ i) (hi : i ≤ 9) (hb : ¬ ((i = 9 ∧ 1 < n) ∨ (0 < i ∧ n = 0))) : u + n % 128 * 128 ^ i < 18446744073709551616 := by
  rcases Nat.lt_or_ge i 9 with h9 | h9
  · have h1 := num_pow (n := n) h
    have e2 : 128 ^ (i + 1) ≤ 128 ^ 9 := Nat.pow_le_pow_right (by omega) (by omega)
    have e3 : (128 : Nat) ^ 9 = 9223372036854775808 := by decide
    omega
  · have : i = 9 := by omega
    subst this
    have e3 : (128 : Nat) ^ 9 = 9223372036854775808 := by decide
    rw [e3] at h ⊢
    have : n ≤ 1 := by omega
    omega
set_option maxRecDepth 100000 in
set_option maxHeartbeats 4000000 in
theorem Num_any {F : Nat → Prop} {w : World} {r : Nat} {bs : List UInt8} (h : Rd F w r bs) :
    Calls Tryz.prog 89 #[.pointer (some ⟨r, 0, none⟩)] w (NumPost F r bs w) := by
  have H := Lib.hid h; clear h
  go_enter Tryz.func89, Tryz.ntmps89
  go_wp2_with fail
  go_loopw [3, 4] (fun uv sv wr => NumRel F r bs w uv sv wr) (fun _ sv _ => 70 - (intOf sv).toNat)
  case atStart => exact ⟨0, 0, Nat.zero_le _, Nat.zero_le _, rfl, rfl, by decide, rfl, H.out, Frm.refl _ _⟩
  case round =>
    obtain ⟨i, u, hi, hil, rfl, rfl, hu, hgn, hrd, hfr⟩ := hrel
    have HU := Lib.hid hu; clear hu
    have HGN := Lib.hid hgn; clear hgn
    have HRD := Lib.hid hrd; clear hrd
    have HFR := Lib.hid hfr; clear hfr
    by_cases hlt : i < bs.length
    · obtain ⟨b, hb⟩ : ∃ b, b = bs[i] := ⟨_, rfl⟩
      have hdr : bs.drop i = b :: bs.drop (i + 1) := by rw [hb]; exact List.drop_eq_getElem_cons hlt
      have htk := take_ok HRD.out 1 (by rw [hdr]; simp) 1 rfl
      rw [hdr] at htk
      rw [hdr] at HGN HRD
      have HTK := Lib.hid htk; clear htk hdr hb
      go_wp2_with fail
      (with_reducible refine HTK.out.mono ?_); rintro e w2 ⟨A2, c2, rfl, hs2, hrd2, hf2⟩
      obtain ⟨b2, o2, rfl, _, hcA⟩ := hs2.sl.at (k := 0) (by simp)
      have hcB := hcA 0 (by simp)
      obtain ⟨n, hn⟩ : ∃ n, n = b.toNat := ⟨_, rfl⟩
      have hc2 : w2.cell? ⟨b2, o2, none⟩ = some (.int .u8 (n : Int)) := by rw [hn]; exact hcB
      have hn256 : n < 256 := by rw [hn]; exact b.toNat_lt
      have HN := Lib.hid hn; clear hn
      have HRD2 : Hid (Rd F w2 r (bs.drop (i + 1))) := hrd2
      have HF2 : Hid (Frm (fun g => g = r) w w2) := HFR.out.trans hf2
      clear hcA hcB hs2 hrd2 hf2 HRD HFR HTK
      by_cases h9 : i = 9
      · have t2 : (7 * (i : Int) == 63) = true := by rw [beq_iff_eq]; omega
        have t3 : (0 : Int) < 7 * (i : Int) := by omega
        by_cases h1 : 1 < n
        · go_wp2_with fail
          (with_reducible refine (rdFail_any _ _ 30 (by decide)).mono ?_); rintro e w3 ⟨rfl, rfl⟩
          go_wp2_with fail
          exact ⟨rfl, NumPost.no (by rw [HGN.out]; exact gnGo_bad (.inl ⟨h9, by rw [← HN.out]; exact h1⟩)) HF2.out⟩
        · by_cases hz : n = 0
          · have hz1 : ((n : Int) == 0) = true := by rw [beq_iff_eq]; omega
            go_wp2_with fail
            (with_reducible refine (rdFail_any _ _ 30 (by decide)).mono ?_); rintro e w3 ⟨rfl, rfl⟩
            go_wp2_with fail
            exact ⟨rfl, NumPost.no (by rw [HGN.out]; exact gnGo_bad (.inr ⟨by omega, by rw [← HN.out]; exact hz⟩)) HF2.out⟩
          · have hz2 : ((n : Int) == 0) = false := by rw [beq_eq_false_iff_ne]; omega
            have hnb : ¬ ((i = 9 ∧ 1 < b.toNat) ∨ (0 < i ∧ b.toNat = 0)) := by rw [← HN.out]; omega
            have hv : u + n % 128 * 128 ^ i < 18446744073709551616 := num_fits HU.out hi (by rw [HN.out]; exact hnb)
            have hor := num_or HU.out hn256 hv
            rw [show (2 : Int) ^ (7 * i) = 9223372036854775808 by rw [h9]; decide] at hor
            have HOR := Lib.hid hor; clear hor
            have HNB := Lib.hid hnb; clear hnb
            have HV := Lib.hid hv; clear hv
            have h128 : n < 128 := by omega
            go_wp2_with fail
            go_ret
            refine NumPost.yes (HGN.out.trans (gnGo_end HNB.out (by rw [← HN.out]; exact h128))) ?_ HRD2.out HF2.out
            rw [← HN.out]
            exact ret_i64 (by rw [HOR.out]; exact unzig_bits _ HV.out)
      · have t2 : (7 * (i : Int) == 63) = false := by rw [beq_eq_false_iff_ne]; omega
        by_cases h0 : i = 0
        · have t3 : 7 * (i : Int) ≤ 0 := by omega
          have hnb : ¬ ((i = 9 ∧ 1 < b.toNat) ∨ (0 < i ∧ b.toNat = 0)) := by rw [← HN.out]; omega
          have hv : u + n % 128 * 128 ^ i < 18446744073709551616 := num_fits HU.out hi (by rw [HN.out]; exact hnb)
          have hor := num_or HU.out hn256 hv
          rw [show (2 : Int) ^ (7 * i) = 1 by rw [h0]; decide, Int.mul_one] at hor
          have HOR := Lib.hid hor; clear hor
          have HNB := Lib.hid hnb; clear hnb
          have HV := Lib.hid hv; clear hv
          by_cases h128 : n < 128
          · go_wp2_with fail
            go_ret
            refine NumPost.yes (HGN.out.trans (gnGo_end HNB.out (by rw [← HN.out]; exact h128))) ?_ HRD2.out HF2.out
            rw [← HN.out]
            exact ret_i64 (by rw [HOR.out]; exact unzig_bits _ HV.out)
          · go_wp2_with fail
            go_roundw
            case rel => exact ⟨i + 1, u + n % 128 * 128 ^ i, by have := HNB.out; omega, hlt, by rw [HOR.out], by go_num, num_pow HU.out, by rw [HGN.out, gnGo_on HNB.out (by rw [← HN.out]; exact h128), HN.out], HRD2.out, HF2.out⟩
            case measure => simp [intOf]; omega
        · have t3 : (0 : Int) < 7 * (i : Int) := by omega
          by_cases hz : n = 0
          · have hz1 : ((n : Int) == 0) = true := by rw [beq_iff_eq]; omega
            go_wp2_with fail
            (with_reducible refine (rdFail_any _ _ 30 (by decide)).mono ?_); rintro e w3 ⟨rfl, rfl⟩
            go_wp2_with fail
            exact ⟨rfl, NumPost.no (by rw [HGN.out]; exact gnGo_bad (.inr ⟨by omega, by rw [← HN.out]; exact hz⟩)) HF2.out⟩
          · have hz2 : ((n : Int) == 0) = false := by rw [beq_eq_false_iff_ne]; omega
            have hnb : ¬ ((i = 9 ∧ 1 < b.toNat) ∨ (0 < i ∧ b.toNat = 0)) := by rw [← HN.out]; omega
            have hv : u + n % 128 * 128 ^ i < 18446744073709551616 := num_fits HU.out hi (by rw [HN.out]; exact hnb)
            have HOR := Lib.hid (num_or HU.out hn256 hv)
            have HNB := Lib.hid hnb; clear hnb
            have HV := Lib.hid hv; clear hv
            by_cases h128 : n < 128
            · go_wp2_with fail
              go_ret
              refine NumPost.yes (HGN.out.trans (gnGo_end HNB.out (by rw [← HN.out]; exact h128))) ?_ HRD2.out HF2.out
              rw [← HN.out]
              exact ret_i64 (by rw [HOR.out]; exact unzig_bits _ HV.out)
            · go_wp2_with fail
              go_roundw
              case rel => exact ⟨i + 1, u + n % 128 * 128 ^ i, by have := HNB.out; omega, hlt, by rw [HOR.out], by go_num, num_pow HU.out, by rw [HGN.out, gnGo_on HNB.out (by rw [← HN.out]; exact h128), HN.out], HRD2.out, HF2.out⟩
              case measure => simp [intOf]; omega
    · have hdr : bs.drop i = [] := List.drop_of_length_le (by omega)
      have htk := take_no HRD.out 1 (by rw [hdr]; simp)
      have HTK := Lib.hid htk; clear htk
      have HDR := Lib.hid hdr; clear hdr
      go_wp2_with fail
      (with_reducible refine HTK.out.mono ?_); rintro e w2 ⟨rfl, hf2⟩
      go_wp2_with fail
      exact ⟨rfl, NumPost.no (by rw [HGN.out, HDR.out]; exact gnGo_nil _ _) (HFR.out.trans hf2)⟩
end Go.Proofs.YtfpomllhkbbipaaGreatDoor
namespace Go.Proofs.YtfpomllhkbbipaaGreatDoor
open Go.RowKit Go.Maps Mem Pk

theorem Num_yes {F : Nat → Prop} {w : World} {r : Nat} {bs : List UInt8} (h : Rd F w r bs) {n : Int} {k : Nat} (hg : getNum bs = some (n, k)) :
    Calls Tryz.prog 89 #[.pointer (some ⟨r, 0, none⟩)] w (RdOk F r (bs.drop k) (.int .i64 n) w) := (Num_any h).mono fun _ _ hp => hp.1 n k hg
theorem Num_none {F : Nat → Prop} {w : World} {r : Nat} {bs : List UInt8} (h : Rd F w r bs) (hg : getNum bs = none) :
    Calls Tryz.prog 89 #[.pointer (some ⟨r, 0, none⟩)] w (RdNo r 30 w) := (Num_any h).mono fun _ _ hp => hp.2 hg
def getCount (most : Int) (bs : List UInt8) : Option (Int × Nat) := (getNum bs).filter fun x => decide (0 ≤ x.1 ∧ x.1 ≤ most)
theorem getCount_some {most : Int} {bs : List UInt8} {n : Int} {k : Nat} (h : getCount most bs = some (n, k)) : getNum bs = some (n, k) ∧ 0 ≤ n ∧ n ≤ most := by
  unfold getCount at h
  rw [Option.filter_eq_some_iff] at h
  exact ⟨h.1, by simpa using h.2⟩
theorem getCount_none {most : Int} {bs : List UInt8} (h : getCount most bs = none) : getNum bs = none ∨ ∃ n k, getNum bs = some (n, k) ∧ (n < 0 ∨ most < n) := by
  unfold getCount at h
  cases hg : getNum bs with
  | none => exact .inl rfl
  | some x =>
    obtain ⟨n, k⟩ := x
    rw [hg] at h
    refine .inr ⟨n, k, rfl, ?_⟩
    rw [Option.filter_eq_none_iff] at h
    have h2 := h (n, k) rfl
    simp at h2
    omega
theorem Count_yes {F : Nat → Prop} {w : World} {r : Nat} {bs : List UInt8} (h : Rd F w r bs) {most n : Int} {k : Nat} (hg : getCount most bs = some (n, k)) :
    Calls Tryz.prog 90 #[.pointer (some ⟨r, 0, none⟩), .int .i64 most] w (RdOk F r (bs.drop k) (.int .i64 n) w) := by
  obtain ⟨h1, h2, h3⟩ := getCount_some hg
  have HN := Lib.hid (Num_yes h h1)
  clear hg h1 h
  go_enter Tryz.func90, Tryz.ntmps90
  go_wp2_with fail
  (with_reducible refine HN.out.mono ?_); rintro e w2 ⟨rfl, hr2, hf2⟩
  have HR2 := Lib.hid hr2; clear hr2
  have HF2 := Lib.hid hf2; clear hf2
  go_wp2_with fail
  go_ret
  exact ⟨rfl, HR2.out, HF2.out⟩
theorem Count_none {F : Nat → Prop} {w : World} {r : Nat} {bs : List UInt8} (h : Rd F w r bs) {most : Int} (hg : getCount most bs = none) :
    Calls Tryz.prog 90 #[.pointer (some ⟨r, 0, none⟩), .int .i64 most] w (RdNo r 30 w) := by
  rcases getCount_none hg with h1 | ⟨n, k, h1, h2⟩
  · have HN := Lib.hid (Num_none h h1)
    clear hg h1 h
    go_enter Tryz.func90, Tryz.ntmps90
    go_wp2_with fail
    (with_reducible refine HN.out.mono ?_); rintro e w2 ⟨rfl, hf2⟩
    go_wp2_with fail
    exact ⟨rfl, rfl, hf2⟩
  · have HN := Lib.hid (Num_yes h h1)
    clear hg h1 h
    by_cases h3 : n < 0
    · go_enter Tryz.func90, Tryz.ntmps90
      go_wp2_with fail
      (with_reducible refine HN.out.mono ?_); rintro e w2 ⟨rfl, hr2, hf2⟩
      have HF2 := Lib.hid hf2; clear hf2 hr2
      go_wp2_with fail
      (with_reducible refine (rdFail_any _ _ 30 (by decide)).mono ?_); rintro e w3 ⟨rfl, rfl⟩
      go_wp2_with fail
      exact ⟨rfl, rfl, HF2.out⟩
    · have h4 : most < n := by omega
      clear h2
      go_enter Tryz.func90, Tryz.ntmps90
      go_wp2_with fail
      (with_reducible refine HN.out.mono ?_); rintro e w2 ⟨rfl, hr2, hf2⟩
      have HF2 := Lib.hid hf2; clear hf2 hr2
      go_wp2_with fail
      (with_reducible refine (rdFail_any _ _ 30 (by decide)).mono ?_); rintro e w3 ⟨rfl, rfl⟩
      go_wp2_with fail
      exact ⟨rfl, rfl, HF2.out⟩
end Go.Proofs.YtfpomllhkbbipaaGreatDoor
namespace Go.Proofs.YtfpomllhkbbipaaGreatDoor.Mem
open Go Go.RowKit Go.Maps Go.Lib

theorem flatMap_get {α β : Type} {f : α → List β} {k : Nat} (hf : ∀ x, (f x).length = k) (xs : List α) {j i : Nat} (hj : j < xs.length) (hi : i < k) : (xs.flatMap f)[j * k + i]? = (f xs[j])[i]? := by
  induction xs generalizing j with
  | nil => simp at hj
  | cons x r ih =>
    rw [List.flatMap_cons]
    cases j with
    | zero => rw [List.getElem?_append_left (by rw [hf]; omega)]; simp
    | succ j =>
      rw [List.getElem?_append_right (by rw [hf, Nat.succ_mul]; omega), hf, show (j + 1) * k + i - k = j * k + i by rw [Nat.succ_mul]; omega]
      rw [ih (by simpa using hj)]
      simp
theorem flatMap_len {α β : Type} {f : α → List β} {k : Nat} (hf : ∀ x, (f x).length = k) (xs : List α) : (xs.flatMap f).length = xs.length * k := by
  induction xs with
  | nil => simp
  | cons x r ih => rw [List.flatMap_cons, List.length_append, ih, hf, List.length_cons, Nat.succ_mul]; omega
/-- a slice of elements of k cells that lies in a block of F -/
def SlK {α : Type} (k : Nat) (f : α → List Value) (e : TypeId) (F : Nat → Prop) (w : World) (A : Option Addr) (xs : List α) : Prop :=
  xs.length ≤ maxLen ∧ (0 < xs.length → ∃ b o cur fr, A = some ⟨b, o, none⟩ ∧ F b ∧ w.heap[b]? = some (.cells cur e fr) ∧ ∀ j (h : j < xs.length) i, i < k → cur[o + j * k + i]? = (f xs[j])[i]?)
section
variable {α : Type} {k : Nat} {f : α → List Value} {e : TypeId} {F G : Nat → Prop} {w w' : World} {A : Option Addr} {xs : List α}
theorem SlK.nil : SlK k f e F w A ([] : List α) := ⟨by unfold maxLen; simp, fun h => absurd h (by simp)⟩
theorem SlK.len (h : SlK k f e F w A xs) : xs.length ≤ 9223372036854775807 := h.1
theorem lt_of_block {w : World} {g : Nat} {o : Obj} (h : w.heap[g]? = some o) : g < w.heap.size := by
  rcases Nat.lt_or_ge g w.heap.size with hl | hl
  · exact hl
  · rw [Array.getElem?_eq_none hl] at h; cases h
theorem SlK.at (h : SlK k f e F w A xs) {j : Nat} (hj : j < xs.length) : ∃ b o, A = some ⟨b, o, none⟩ ∧ F b ∧ b < w.heap.size ∧ ∀ i, i < k → w.cell? ⟨b, o + j * k + i, none⟩ = (f xs[j])[i]? := by
  obtain ⟨b, o, cur, fr, e1, hF, hb, hc⟩ := h.2 (by omega)
  exact ⟨b, o, e1, hF, lt_of_block hb, fun i hi => by rw [← hc j hj i hi]; simp [World.cell?, hb]⟩
theorem SlK.mono (h : SlK k f e F w A xs) (hF : ∀ g, g < w.heap.size → F g → G g) : SlK k f e G w A xs := ⟨h.1, fun hn => by
  obtain ⟨b, o, cur, fr, e1, hf, hb, hc⟩ := h.2 hn
  exact ⟨b, o, cur, fr, e1, hF b (lt_of_block hb) hf, hb, hc⟩⟩
theorem SlK.keep (h : SlK k f e F w A xs) (hk : ∀ g cur fr, F g → w.heap[g]? = some (.cells cur e fr) → w'.heap[g]? = w.heap[g]?) : SlK k f e F w' A xs := ⟨h.1, fun hn => by
  obtain ⟨b, o, cur, fr, e1, hf, hb, hc⟩ := h.2 hn
  exact ⟨b, o, cur, fr, e1, hf, (hk b cur fr hf hb).trans hb, hc⟩⟩
theorem SlK.frm (h : SlK k f e F w A xs) (hf : Frm G w w') (hd : ∀ g, F g → ¬ G g) : SlK k f e F w' A xs := h.keep fun g _ _ hF hg => hf.block g (lt_of_block hg) (hd g hF)
theorem SlK.below (h : SlK k f e F w A xs) (hb : Below w.heap.size w w') : SlK k f e F w' A xs := h.frm (G := fun _ => False) (Frm.below hb) (fun _ _ h => h)
theorem SlK.drewN (h : SlK k f e F w A xs) (n : Nat) : SlK k f e F (w.drewN n) A xs := h
/-- a store into a block of another type leaves it -/
theorem SlK.far {t : TypeId} {cs : Array Value} {g : Nat} (h : SlK k f e F w A xs) (hb : Blk w g t cs) (hne : e ≠ t ∨ ¬ F g) (i : Nat) (u : Value) : SlK k f e F (w.setCell ⟨g, i, none⟩ u) A xs :=
  h.keep fun q cur fr hF hk => Below.heap_setCell w _ u q (by
    intro e2
    have e2 : q = g := e2
    subst e2
    rcases hne with hne | hne
    · unfold Blk at hb; rw [hk] at hb
      injection hb with hb; injection hb with _ h2
      exact hne h2
    · exact hne hF)
theorem SlK.pre {m : Nat} (h : SlK k f e F w A xs) : SlK k f e F w A (xs.take m) :=
  ⟨by have := h.1; rw [List.length_take]; omega, fun hn => by
    rw [List.length_take] at hn
    obtain ⟨b, o, cur, fr, hA, hF, hb, hc⟩ := h.2 (by omega)
    refine ⟨b, o, cur, fr, hA, hF, hb, fun j hj i hi => ?_⟩
    rw [List.length_take] at hj
    rw [List.getElem_take]; exact hc j (by omega) i hi⟩
end
def SliceTK (P : Program) (t e : TypeId) (z : Value) (k bytes : Nat) : Prop :=
  P.underlying t = some (.slice e) ∧ z.cells.size = k ∧ 0 < k ∧ ∃ i, P.info? e = some i ∧ i.zero = some z ∧ i.size = k ∧ i.bytes = bytes
theorem sliceTK_mk {P : Program} {t e : TypeId} {z : Value} {k bytes : Nat} (ht : P.underlying t = some (.slice e)) (hz : z.cells.size = k) (hk : 0 < k)
    (h : (P.info? e).map (fun i => (i.zero, i.size, i.bytes)) = some (some z, k, bytes)) : SliceTK P t e z k bytes := ⟨ht, hz, hk, info_parts h⟩
/-- the call's own row of structs -/
def OwnK {α : Type} (k : Nat) (f : α → List Value) (base : Nat) (e : TypeId) (w : World) (v : Value) (xs : List α) : Prop := w.ownsRow base e k v xs.length (xs.flatMap f)
section
variable {α : Type} {k : Nat} {f : α → List Value} {e : TypeId} {w w' : World} {v : Value} {xs : List α} {base : Nat}
theorem OwnK.nil : OwnK k f base e w (.slice none 0 0) ([] : List α) := World.ownsRow_nil w base e k
theorem OwnK.drewN (h : OwnK k f base e w v xs) (n : Nat) : OwnK k f base e (w.drewN n) v xs := h
theorem OwnK.alloc (h : OwnK k f base e w v xs) (o : Obj) : OwnK k f base e (w.alloc o) v xs := World.ownsRow.alloc h o
theorem OwnK.mk_ (hb : base ≤ w.heap.size) : OwnK k f base e (w.alloc (.cells #[] e)) (.slice (some ⟨w.heap.size, 0, none⟩) 0 0) ([] : List α) := by
  unfold OwnK
  refine ⟨by simp, .inr ⟨w.heap.size, 0, #[], rfl, hb, heap_alloc_new w _, Nat.le_refl _, Nat.zero_le _, by simp, by simp⟩⟩
theorem OwnK.lt (h : OwnK k f base e w v xs) : ∀ g, v.ownBlock = some g → base ≤ g ∧ g < w.heap.size := World.ownsRow.lt h
theorem OwnK.form (h : OwnK k f base e w v xs) : ∃ A c, v = .slice A xs.length c := by
  rcases h.2 with ⟨h1, h2⟩ | ⟨g, cap, cur, hv, _⟩
  · exact ⟨none, 0, by rw [h1, h2]⟩
  · exact ⟨_, _, hv⟩
theorem OwnK.cap {A : Option Addr} {n c : Nat} (h : OwnK k f base e w (.slice A n c) xs) : n ≤ c ∧ c ≤ maxLen := by
  rcases h.2 with ⟨h1, h2⟩ | ⟨g, cap, cur, hv, hb, hh, hnc, hcap, _⟩
  · injection h1 with a b c; subst b; subst c; exact ⟨Nat.le_refl _, Nat.zero_le _⟩
  · injection hv with a b c; subst b; subst c; exact ⟨hnc, hcap⟩
theorem OwnK.slK (hf : ∀ x, (f x).length = k) {A : Option Addr} {n c : Nat} (h : OwnK k f base e w (.slice A n c) xs) : n = xs.length ∧ SlK k f e (fun g => base ≤ g) w A xs := by
  rcases h.2 with ⟨h1, h2⟩ | ⟨g, cap, cur, hv, hb, hh, hnc, hcap, hsz, htake⟩
  · injection h1 with a b c
    refine ⟨by omega, ?_⟩
    have : xs = [] := List.eq_nil_of_length_eq_zero h2
    subst this; exact SlK.nil
  · injection hv with a b c
    subst a; subst b; subst c
    refine ⟨rfl, Nat.le_trans hnc hcap, fun hn => ⟨g, 0, cur, (0, 0), rfl, hb, hh, fun j hj i hi => ?_⟩⟩
    have h1 := flatMap_get hf xs hj hi
    rw [← htake, List.getElem?_take] at h1
    rw [if_pos] at h1
    · rw [Nat.zero_add]; simpa using h1
    · have : (j + 1) * k ≤ xs.length * k := Nat.mul_le_mul_right k hj
      rw [Nat.succ_mul] at this; omega
theorem OwnK.below (ho : OwnK k f base e w v xs) (hb : Below w.heap.size w w') : OwnK k f base e w' v xs := by
  obtain ⟨h1, h2⟩ := ho
  refine ⟨h1, ?_⟩
  rcases h2 with h2 | ⟨g, cap, cur, a, b, hh, c⟩
  · exact .inl h2
  · exact .inr ⟨g, cap, cur, a, b, (hb.block g (lt_of_block hh)).trans hh, c⟩
theorem OwnK.below_ (ho : OwnK k f base e w v xs) (hb : base ≤ w.heap.size) (hg : w.grownBy w' v.ownBlock) : Below base w w' :=
  (Below.refl _ _).grown hg hb (fun k hk => (ho.lt k hk).1)
theorem OwnK.base_ {base' : Nat} (h : OwnK k f base e w v xs) (hb : base' ≤ base) : OwnK k f base' e w v xs := by
  obtain ⟨h1, h2⟩ := h
  refine ⟨h1, ?_⟩
  rcases h2 with h2 | ⟨g, cap, cur, a, b, c⟩
  · exact .inl h2
  · exact .inr ⟨g, cap, cur, a, Nat.le_trans hb b, c⟩
end
/-- append of one struct that has just been laid into a block of its own -/
theorem wpList_appendK1 {P : Program} {α : Type} {k : Nat} {f : α → List Value} {ops : Array Oper} {rest : List Oper} {o : Oper} {a : Act} {Q : Exit → Act → World → Prop} {w0 : World} (hgd : o.guard = none) (s x : Operand) (t : TypeId)
    (ho : o.op = .call { callee := .builtin .append, args := #[s, x], argTypes := #[t, t] })
    {base : Nat} {e : TypeId} {z : Value} {bytes : Nat} (ht : SliceTK P t e z k bytes)
    {v : Value} {xs : List α} (u : α) (hk : (f u).length = k) (h1 : ∀ y ∈ f u, y.oneCell' = true) (hs : a.eval s = v) (hown : OwnK k f base e w0 v xs) {cs : Array Value} (hcs : cs = (f u).toArray)
    {g c : Nat} (hx : a.eval x = .slice (some ⟨g, 0, none⟩) 1 c) (hg : g = w0.heap.size)
    (h63 : xs.length + 1 ≤ maxLen) (hbytes : (xs.length + 1) * bytes ≤ 140737488355328) (hbase : base ≤ w0.heap.size)
    (h : ∀ v' w', OwnK k f base e w' v' (xs ++ [u]) → (w0.alloc (.cells cs e)).grownBy w' v.ownBlock → wpList P ops Q rest (a.put o.dst v') w') : wpList P ops Q (o :: rest) a (w0.alloc (.cells cs e)) := by
  obtain ⟨ht, hz1, hk0, i, hi, hz, hsz, hby⟩ := ht
  subst hg; subst hcs
  have hcell : ∀ j y, (f u)[j]? = some y → (w0.alloc (.cells (f u).toArray e)).cell? ((⟨w0.heap.size, 0, none⟩ : Addr).add j) = some y := by
    intro j y hy
    have e2 : (⟨w0.heap.size, 0, none⟩ : Addr).add j = ⟨w0.heap.size, j, none⟩ := by
      unfold Addr.add; split
      · rename_i h0; subst h0; rfl
      · simp
    rw [e2]
    have := heap_alloc_new w0 (.cells (f u).toArray e)
    unfold World.cell?
    simp only [this]
    simpa using hy
  refine wpList_append_own (P := P) _ hgd s x t ho base e i z k bytes ht hi hz hsz hby hz1 hk0 v xs.length (xs.flatMap f) hs (hown.alloc _) ⟨w0.heap.size, 0, none⟩ 1 c (f u) hx (by rw [hk]; omega) hcell h1 h63 hbytes ?_ ?_
  · rw [World.size_alloc]; omega
  · intro v' w' ho' hgr _
    refine h v' w' ?_ hgr
    unfold OwnK; rw [List.length_append, List.flatMap_append]; simpa using ho'
end Go.Proofs.YtfpomllhkbbipaaGreatDoor.Mem
namespace Go.Proofs.YtfpomllhkbbipaaGreatDoor
open Go.RowKit Go.Maps Mem Pk

/-- a value that is a number -/
def valN (n : Int) : List Value := [.int .i64 1, .int .i64 n, .float .f64 0, .slice none 0 0, .bool false]
def numsB (ns : List Int) : List UInt8 := ns.flatMap numB
theorem numsB_snoc (ns : List Int) (n : Int) : numsB (ns ++ [n]) = numsB ns ++ numB n := by unfold numsB; simp
theorem numsB_len (ns : List Int) : (numsB ns).length ≤ 10 * ns.length := by
  unfold numsB
  induction ns with
  | nil => simp
  | cons n r ih =>
    have := (numB_len n).2
    simp only [List.flatMap_cons, List.length_append, List.length_cons]
    omega
def i64ok (n : Int) : Prop := -9223372036854775808 ≤ n ∧ n ≤ 9223372036854775807
def PtRel (ns : List Int) (w : World) (ov iv : Value) (wr : World) : Prop :=
  ∃ k : Nat, k ≤ ns.length ∧ iv = .int .i64 k ∧ Own fB w.heap.size 5 wr ov (numsB (ns.take k)) ∧ Below w.heap.size w wr
/-- what Put leaves -/
def PutPost (out : List UInt8) (w : World) (e : Ending) (w' : World) : Prop :=
  ∃ A c, e = .returned (.tuple #[.slice A out.length c, .int .i64 0]) ∧ Own fB w.heap.size 5 w' (.slice A out.length c) out ∧ Below w.heap.size w w'
set_option maxRecDepth 100000 in
set_option maxHeartbeats 2000000 in
theorem Put_nums {F : Nat → Prop} {w : World} (A : Option Addr) (c : Nat) (ns : List Int) (h : SlK 5 valN 132 F w A ns) (hl : ns.length ≤ 1000000) (hn : ∀ n ∈ ns, i64ok n) :
    Calls Tryz.prog 65 #[.slice A ns.length c] w (PutPost (numsB ns) w) := by
  have H := Lib.hid h; clear h
  have HN := Lib.hid hn; clear hn
  have hst := fun (a : Addr) (r : Nat) (w : World) => run_store Tryz.prog w a (.float .f64 r) .plain rfl
  go_enter Tryz.func65, Tryz.ntmps65
  go_wp2_with fail
  go_loopw [4, 12] (fun ov iv wr => PtRel ns w ov iv wr) (fun _ iv _ => ns.length - (intOf iv).toNat)
  case atStart => exact ⟨0, Nat.zero_le _, rfl, Own.nil, Below.refl _ _⟩
  case round =>
    obtain ⟨k, hk, rfl, hown, hbw⟩ := hrel
    have HOWN := Lib.hid hown; clear hown
    have HBW := Lib.hid hbw; clear hbw
    by_cases hlt : k < ns.length
    · obtain ⟨b, o, rfl, _, _, hc⟩ := (H.out.below HBW.out).at hlt
      obtain ⟨n, hnk⟩ : ∃ n, n = ns[k] := ⟨_, rfl⟩
      have HNS : Hid (numsB (ns.take (k + 1)) = numsB (ns.take k) ++ numB n) := by show _ = _; rw [List.take_succ_eq_append_getElem hlt, numsB_snoc, hnk]
      have hok : i64ok n := by rw [hnk]; exact HN.out _ (List.getElem_mem hlt)
      rw [← hnk] at hc
      have c0 : wr.cell? ⟨b, o + k * 5, none⟩ = some (.int .i64 1) := hc 0 (by decide)
      have c1 : wr.cell? ⟨b, o + k * 5 + 1, none⟩ = some (.int .i64 n) := hc 1 (by decide)
      have c2 : wr.cell? ⟨b, o + k * 5 + 2, none⟩ = some (.float .f64 0) := hc 2 (by decide)
      have c3 : wr.cell? ⟨b, o + k * 5 + 3, none⟩ = some (.slice none 0 0) := hc 3 (by decide)
      have c4 : wr.cell? ⟨b, o + k * 5 + 4, none⟩ = some (.bool false) := hc 4 (by decide)
      clear hc hnk
      obtain ⟨M, hM⟩ : ∃ M, M = numsB (ns.take k) := ⟨_, rfl⟩
      have hMl : M.length ≤ 10 * k := by rw [hM]; have := numsB_len (ns.take k); rw [List.length_take] at this; omega
      rw [← hM] at HOWN HNS
      clear hM
      have HOK := Lib.hid hok; clear hok
      have HML := Lib.hid hMl; clear hMl
      go_upto_region 5 with fail
      obtain ⟨w1, hw1⟩ : ∃ x, x = wr.alloc (.cells #[.int .i64 1, .int .i64 n, .float .f64 0, .slice none 0 0, .bool false] 132) := ⟨_, rfl⟩
      rw [← hw1]
      have hx1 : Blk w1 wr.heap.size 132 #[.int .i64 1, .int .i64 n, .float .f64 0, .slice none 0 0, .bool false] := by rw [hw1]; exact Blk.new_ wr _ _
      have hown1 := HOWN.out.alloc (.cells #[.int .i64 1, .int .i64 n, .float .f64 0, .slice none 0 0, .bool false] 132)
      rw [← hw1] at hown1
      have HB1 : Hid (Below w.heap.size w w1) := by rw [hw1]; exact HBW.out.alloc HBW.out.size _
      clear hw1 c0 c1 c2 c3 c4
      have d0 : w1.cell? ⟨wr.heap.size, 0, none⟩ = some (.int .i64 1) := hx1.cell 0
      have d1 : w1.cell? ⟨wr.heap.size, 1, none⟩ = some (.int .i64 n) := hx1.cell 1
      have hap := appendNum_any hown1 HB1.out.size n HOK.out.1 HOK.out.2 (by have h1 := HML.out; have h2 : M.length ≤ 10 * k := h1; omega)
      have HAP := Lib.hid hap; clear hap hown1 hx1
      go_wp2_with fail
      (with_reducible refine HAP.out.mono ?_); rintro e w2 ⟨v2, rfl, hown2, hb2⟩
      go_wp2_with fail
      go_roundw
      case rel => exact ⟨k + 1, hlt, by go_num, by rw [HNS.out]; exact hown2, HB1.out.trans hb2⟩
      case measure => simp [intOf]; omega
    · have hkn : k = ns.length := by omega
      have HO : Hid (Own fB w.heap.size 5 wr u4 (numsB ns)) := by have h1 := HOWN.out; rw [hkn, List.take_length] at h1; exact h1
      clear HOWN hkn
      obtain ⟨A4, c4, rfl⟩ := HO.out.form
      go_wp2_with fail
      go_ret2
      exact ⟨A4, c4, rfl, HO.out, HBW.out⟩
end Go.Proofs.YtfpomllhkbbipaaGreatDoor
namespace Go.Proofs.YtfpomllhkbbipaaGreatDoor
open Go.RowKit Go.Maps Mem Pk

theorem catch_idle (p : Addr) (w : World) :
    CallsD Tryz.prog 123 #[.pointer (some p)] .returning w fun e u' w' => e = .returned (.tuple #[]) ∧ u' = .returning ∧ w' = w := by
  refine callsD_of_wpS Tryz.func123 rfl fun c₀ cs hu => ?_
  apply wpS_seq
  apply wpS_region
  simp [wpOpsS, go_sem, recoverD, hu, Tryz.ntmps123, Exit.thenS]
  refine wpS_of_wp ?_
  rw [show (#[Value.pointer (some p)] ++ (Array.replicate 11 undef).setIfInBounds 3 Value.nilIface) = #[.pointer (some p), undef, undef, undef, Value.nilIface, undef, undef, undef, undef, undef, undef, undef] from rfl]
  go_wp2_with fail
  cases c₀
  simp_all [bodyPostS, results, Tryz.results123]
set_option maxRecDepth 100000 in
theorem catch_panicking (b : Nat) (k x : Int) (older : List PanicEntry) (w : World) (hc : w.cell? ⟨b, 0, none⟩ = some (.int .i64 x)) (hz : w.frozen? ⟨b, 0, none⟩ = false) (hl : b < w.heap.size) :
    CallsD Tryz.prog 123 #[.pointer (some ⟨b, 0, none⟩)] (.panicking ({ v := wrongV k, recovered := false } :: older)) w fun e u' w' =>
      e = .returned (.tuple #[]) ∧ u' = .panicking ({ v := wrongV k, recovered := true } :: older) ∧ w' = (w.setCell ⟨b, 0, none⟩ (.int .i64 k)).alloc (.cells #[.int .i64 k] 194) := by
  have hta : ∀ (v : Value) (w : World), (Instr.typeAssert (.iface 194 v) 20 194 true).run Tryz.prog w = .ok (.tuple #[v, .bool true]) w := fun _ _ => by kernel_rfl
  refine callsD_of_wpS Tryz.func123 rfl fun c₀ cs hu => ?_
  apply wpS_seq
  apply wpS_region
  simp [wpOpsS, go_sem, recoverD, hu, Tryz.ntmps123, Exit.thenS]
  refine wpS_of_wp ?_
  rw [show (#[Value.pointer (some ⟨b, 0, none⟩)] ++ (Array.replicate 11 undef).setIfInBounds 3 (wrongV k)) = #[.pointer (some ⟨b, 0, none⟩), undef, undef, undef, wrongV k, undef, undef, undef, undef, undef, undef, undef] from rfl]
  unfold wrongV
  have HU := Lib.hid hu; clear hu
  go_wp2_with fail
  simp [bodyPostS, results, Tryz.results123]
/-- the worlds in which the function that Read is handed is called: the code's cell, the reader -/
def rdW (w : World) (A : Option Addr) (n c : Nat) : World := (w.alloc (.cells #[.int .i64 0] 27)).alloc (.cells #[.slice A n c] 192)
theorem rdW_below (w : World) (A : Option Addr) (n c : Nat) : Below w.heap.size w (rdW w A n c) := ((Below.refl _ _).alloc (Nat.le_refl _) _).alloc (by simp) _
theorem rdW_size (w : World) (A : Option Addr) (n c : Nat) : (rdW w A n c).heap.size = w.heap.size + 2 := by unfold rdW; simp
theorem rdW_code (w : World) (A : Option Addr) (n c : Nat) : Blk (rdW w A n c) w.heap.size 27 #[.int .i64 0] := (Blk.new_ w _ _).alloc _
theorem rdW_rd {F : Nat → Prop} {w : World} {A : Option Addr} {c : Nat} {bs : List UInt8} (h : SlF F w A bs) (hn : ¬ F (w.heap.size + 1)) (hc : bs.length ≤ c) (hm : c ≤ maxLen) : Rd F (rdW w A bs.length c) (w.heap.size + 1) bs := by
  refine ⟨A, c, hn, ?_, h.below (rdW_below ..), hc, hm⟩
  have := Blk.new_ (w.alloc (.cells #[.int .i64 0] 27)) 192 #[.slice A bs.length c]
  rw [World.size_alloc] at this; exact this
/-- what Read leaves: the code; all else as the function left it -/
def ReadPost3 (R : World → Prop) (code : Int) (w : World) (e : Ending) (w' : World) : Prop :=
  e = .returned (.int .i64 code) ∧ ∃ W, R W ∧ Frm (fun g => g = w.heap.size) W w' ∧ w.heap.size < W.heap.size
theorem Read_yes {F : Nat → Prop} {w : World} {A : Option Addr} {c : Nat} {bs rest : List UInt8} (hs : SlF F w A bs) (hc : bs.length ≤ c) (hm : c ≤ maxLen) (g : Nat) (cb : Array Value) (R : World → Prop)
    (eg : ∀ args w, (callFunc g args).run Tryz.prog w = .ok (.enter g args) w)
    (hf : Calls Tryz.prog g (#[.pointer (some ⟨w.heap.size + 1, 0, none⟩)] ++ cb) (rdW w A bs.length c) fun e W => e = .returned (.tuple #[]) ∧ Rd F W (w.heap.size + 1) rest ∧ Blk W w.heap.size 27 #[.int .i64 0] ∧ R W)
    (code : Int) (hcd : code = if rest = [] then 0 else 30) :
    Calls Tryz.prog 87 #[.slice A bs.length c, .func (.func g) #[] cb] w (ReadPost3 R code w) := by
  have hmf : ∀ (fn : Fn) (first cap : Array Value) (w : World), (Instr.makeFunc fn first cap).run Tryz.prog w = .ok (.func fn first cap) w := fun _ _ _ _ => rfl
  have HF := Lib.hid hf; clear hf
  have HCD := Lib.hid hcd; clear hcd
  have hW : (w.alloc (.cells #[.int .i64 0] 27)).alloc (.cells #[.slice A bs.length c] 192) = rdW w A bs.length c := rfl
  have HW := Lib.hid hW; clear hW
  go_enter_defers Tryz.func87, Tryz.ntmps87
  go_upto_region 3 with fail
  rw [HW.out]
  go_wp2_with fail
  (with_reducible refine HF.out.mono ?_); rintro e W ⟨rfl, ⟨A2, c2, -, hrb, hrs, hrc, hrm⟩, hcode, hR⟩
  have d0 : W.cell? ⟨w.heap.size + 1, 0, none⟩ = some (.slice A2 rest.length c2) := hrb.cell 0
  have e0 : W.cell? ⟨w.heap.size, 0, none⟩ = some (.int .i64 0) := hcode.cell 0
  have q0 := hcode.free 0
  have hrl := hrs.sl.len
  have HR := Lib.hid hR; clear hR
  have HC := Lib.hid hcode; clear hcode
  clear hrb hrs hrc hrm HF HW
  by_cases hr : rest = []
  · have h0 : code = 0 := by rw [HCD.out, if_pos hr]
    have H0 := Lib.hid h0; clear h0
    have hrz : rest.length = 0 := by rw [hr]; rfl
    clear hr HCD
    rw [hrz] at d0
    go_wp2_with fail
    refine leaves_cons (f := 123) (args := #[.pointer (some ⟨w.heap.size, 0, none⟩)]) (by simp) (by simp [go_sem]) ?_
    refine (catch_idle ⟨w.heap.size, 0, none⟩ _).mono ?_
    rintro e u' w'' ⟨rfl, rfl, rfl⟩
    simp [Leaves, settle, results, Tryz.results87, go_sem, e0, q0]
    exact ⟨by rw [H0.out], W, HR.out, (Frm.refl (fun g => g = w.heap.size) W).setCell (p := ⟨w.heap.size, 0, none⟩) (fun _ => rfl) _, HC.out.lt⟩
  · have h0 : code = 30 := by rw [HCD.out, if_neg hr]
    have H0 := Lib.hid h0; clear h0
    have hrz : 0 < rest.length := List.length_pos_iff.2 hr
    clear hr HCD
    go_wp2_with fail
    refine leaves_cons (f := 123) (args := #[.pointer (some ⟨w.heap.size, 0, none⟩)]) (by simp) (by simp [go_sem]) ?_
    refine (catch_idle ⟨w.heap.size, 0, none⟩ _).mono ?_
    rintro e u' w'' ⟨rfl, rfl, rfl⟩
    simp [Leaves, settle, results, Tryz.results87, go_sem, e0, q0]
    exact ⟨by rw [H0.out], W, HR.out, (Frm.refl (fun g => g = w.heap.size) W).setCell (p := ⟨w.heap.size, 0, none⟩) (fun _ => rfl) _, HC.out.lt⟩
/-- where the function panics -/
theorem Read_no {F : Nat → Prop} {w : World} {A : Option Addr} {c : Nat} {bs : List UInt8} (hc : bs.length ≤ c) (hm : c ≤ maxLen) (g : Nat) (cb : Array Value) (R : World → Prop)
    (eg : ∀ args w, (callFunc g args).run Tryz.prog w = .ok (.enter g args) w) (k : Int)
    (hf : Calls Tryz.prog g (#[.pointer (some ⟨w.heap.size + 1, 0, none⟩)] ++ cb) (rdW w A bs.length c) fun e W => e = .panicked [{ v := wrongV k, recovered := false }] ∧ Blk W w.heap.size 27 #[.int .i64 0] ∧ R W) :
    Calls Tryz.prog 87 #[.slice A bs.length c, .func (.func g) #[] cb] w (ReadPost3 R k w) := by
  have hmf : ∀ (fn : Fn) (first cap : Array Value) (w : World), (Instr.makeFunc fn first cap).run Tryz.prog w = .ok (.func fn first cap) w := fun _ _ _ _ => rfl
  have HF := Lib.hid hf; clear hf
  have hW : (w.alloc (.cells #[.int .i64 0] 27)).alloc (.cells #[.slice A bs.length c] 192) = rdW w A bs.length c := rfl
  have HW := Lib.hid hW; clear hW
  go_enter_defers Tryz.func87, Tryz.ntmps87
  go_upto_region 3 with fail
  rw [HW.out]
  go_wp2_with fail
  (with_reducible refine HF.out.mono ?_); rintro e W ⟨rfl, hcode, hR⟩
  have e0 : W.cell? ⟨w.heap.size, 0, none⟩ = some (.int .i64 0) := hcode.cell 0
  have q0 := hcode.free 0
  have hlt := hcode.lt
  have HR := Lib.hid hR; clear hR
  have r0 : ((W.setCell ⟨w.heap.size, 0, none⟩ (.int .i64 k)).alloc (.cells #[.int .i64 k] 194)).cell? ⟨w.heap.size, 0, none⟩ = some (.int .i64 k) := ((hcode.set_ 0 (.int .i64 k)).alloc (.cells #[.int .i64 k] 194)).cell 0
  have R0 := Lib.hid r0; clear r0
  clear hcode HF HW
  go_wp2_with fail
  refine leaves_cons (f := 123) (args := #[.pointer (some ⟨w.heap.size, 0, none⟩)]) (by simp) (by simp [go_sem]) ?_
  refine (catch_panicking w.heap.size k 0 [] _ e0 q0 hlt).mono ?_
  rintro e u' w'' ⟨rfl, rfl, rfl⟩
  have r0 := R0.out
  simp [Leaves, settle, results, Tryz.results87, go_sem, r0]
  exact ⟨rfl, W, HR.out, ((Frm.refl (fun g => g = w.heap.size) W).setCell (p := ⟨w.heap.size, 0, none⟩) (fun _ => rfl) _).alloc _, hlt⟩
end Go.Proofs.YtfpomllhkbbipaaGreatDoor
