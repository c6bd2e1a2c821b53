/- Layer 6: entries and their records: plain words, no program. -/
import Derived.KernelRfl
import Derived.Test.YtifgajinfcihmaaGreatDoorJAk
import Derived.Test.YtifgajinfcihmaaGreatDoorJAm
namespace Go.Proofs.YtifgajinfcihmaaGreatDoor.Wl
open Go Pk Dsk
structure En where
 ix : Int
 tm : Int
 kd : Int
 ds : List UInt8
def zE : En := ⟨0, 0, 0, []⟩
def top : Int := 1099511627776
def rightE (e : En) : Bool := decide (1 ≤ e.ix ∧ e.ix ≤ top ∧ 0 ≤ e.tm ∧ e.tm ≤ top ∧ 0 ≤ e.kd ∧ e.kd ≤ 2 ∧ e.ds.length ≤ 2048)
theorem rightE_iff {e : En} : rightE e = true ↔ 1 ≤ e.ix ∧ e.ix ≤ 1099511627776 ∧ 0 ≤ e.tm ∧ e.tm ≤ 1099511627776 ∧ 0 ≤ e.kd ∧ e.kd ≤ 2 ∧ e.ds.length ≤ 2048 := by
 unfold rightE top; simp
def payB (e : En) : List UInt8 := numB e.ix ++ (numB e.tm ++ (numB e.kd ++ (numB e.ds.length ++ e.ds)))
theorem payB_len {e : En} (h : rightE e = true) : (payB e).length ≤ 2088 := by
 have h := rightE_iff.1 h
 have h1 := (numB_len e.ix).2
 have h2 := (numB_len e.tm).2
 have h3 := (numB_len e.kd).2
 have h4 := (numB_len (e.ds.length : Int)).2
 unfold payB; simp only [List.length_append]; omega
def enOf (vs : List PV) : En := match vs with
 | [a, b, c, d] => ⟨a.n, b.n, c.n, d.b⟩
 | _ => zE
def kinds : List Int := [1, 1, 1, 3]
def getE (p : List UInt8) : Option En := match getV kinds p with
 | none => none
 | some vs => if rightE (enOf vs) = true then some (enOf vs) else none
theorem oneV1_inv {bs r : List UInt8} {v : PV} (h : oneV 1 bs = some (v, r)) : ∃ n, v = ⟨1, n, []⟩ ∧ bs = numB n ++ r := by
 unfold oneV at h
 rw [if_pos rfl] at h
 cases hg : getNum bs with
 | none => rw [hg] at h; cases h
 | some x =>
   obtain ⟨n, k⟩ := x
   rw [hg] at h
   injection h with h; injection h with h1 h2
   refine ⟨n, h1.symm, ?_⟩
   have h3 := getNum_inv hg
   rw [← h2, ← h3.1, List.take_append_drop]
theorem oneV1_num {n : Int} (h1 : -9223372036854775808 ≤ n) (h2 : n ≤ 9223372036854775807) (r : List UInt8) : oneV 1 (numB n ++ r) = some (⟨1, n, []⟩, r) := by
 unfold oneV
 rw [if_pos rfl, getNum_num h1 h2]
 simp
theorem oneV3_inv {bs r : List UInt8} {v : PV} (h : oneV 3 bs = some (v, r)) : ∃ ds : List UInt8, v = ⟨3, 0, ds⟩ ∧ bs = numB ds.length ++ (ds ++ r) := by
 unfold oneV at h
 rw [if_neg (by decide)] at h
 cases hg : getCount 4096 bs with
 | none => rw [hg] at h; cases h
 | some x =>
   obtain ⟨n, k⟩ := x
   rw [hg] at h
   simp only at h
   obtain ⟨hn, h0, h1⟩ := getCount_some hg
   by_cases hl : n.toNat ≤ (bs.drop k).length
   ·rw [if_pos hl] at h
    injection h with h; injection h with h2 h3
    refine ⟨(bs.drop k).take n.toNat, h2.symm, ?_⟩
    have h4 := getNum_inv hn
    rw [← h3, List.take_append_drop, List.length_take, Nat.min_eq_left hl, Int.toNat_of_nonneg h0, ← h4.1, List.take_append_drop]
   ·rw [if_neg hl] at h; cases h
theorem oneV3_bytes {ds : List UInt8} (h : ds.length ≤ 4096) (r : List UInt8) : oneV 3 (numB ds.length ++ (ds ++ r)) = some (⟨3, 0, ds⟩, r) := by
 have hc : getCount 4096 (numB ds.length ++ (ds ++ r)) = some ((ds.length : Int), (numB ds.length).length) := by
  unfold getCount
  rw [getNum_num (by omega) (by omega)]
  rw [Option.filter_some, if_pos (by simp; omega)]
 unfold oneV
 rw [if_neg (by decide), hc]
 simp
theorem getE_some {p : List UInt8} {e : En} (h : getE p = some e) : rightE e = true ∧ p = payB e := by
 unfold getE at h
 cases hv : getV kinds p with
 | none => rw [hv] at h; cases h
 | some vs =>
   rw [hv] at h
   simp only at h
   by_cases hr : rightE (enOf vs) = true
   ·rw [if_pos hr] at h
    injection h with h
    subst h
    refine ⟨hr, ?_⟩
    unfold getV at hv
    cases hw : valsV kinds p with
    | none => rw [hw] at hv; cases hv
    | some x =>
      obtain ⟨xs, rest⟩ := x
      rw [hw] at hv
      cases rest with
      | cons a b => cases hv
      | nil =>
        injection hv with hv
        subst hv
        unfold kinds valsV at hw
        cases h1 : oneV 1 p with
        | none => rw [h1] at hw; cases hw
        | some y1 =>
          obtain ⟨v1, r1⟩ := y1
          rw [h1] at hw; simp only at hw
          unfold valsV at hw
          cases h2 : oneV 1 r1 with
          | none => rw [h2] at hw; cases hw
          | some y2 =>
            obtain ⟨v2, r2⟩ := y2
            rw [h2] at hw; simp only at hw
            unfold valsV at hw
            cases h3 : oneV 1 r2 with
            | none => rw [h3] at hw; cases hw
            | some y3 =>
              obtain ⟨v3, r3⟩ := y3
              rw [h3] at hw; simp only at hw
              unfold valsV at hw
              cases h4 : oneV 3 r3 with
              | none => rw [h4] at hw; cases hw
              | some y4 =>
                obtain ⟨v4, r4⟩ := y4
                rw [h4] at hw
                simp only [valsV, Option.some.injEq, Prod.mk.injEq] at hw
                obtain ⟨hx, hr4⟩ := hw
                obtain ⟨n1, e1, p1⟩ := oneV1_inv h1
                obtain ⟨n2, e2, p2⟩ := oneV1_inv h2
                obtain ⟨n3, e3, p3⟩ := oneV1_inv h3
                obtain ⟨d4, e4, p4⟩ := oneV3_inv h4
                subst e1; subst e2; subst e3; subst e4; subst hr4
                rw [← hx]
                show p = payB ⟨n1, n2, n3, d4⟩
                unfold payB
                rw [p1, p2, p3, p4]; simp
   ·rw [if_neg hr] at h; cases h
theorem getV_pay {e : En} (h : rightE e = true) : getV kinds (payB e) = some [⟨1, e.ix, []⟩, ⟨1, e.tm, []⟩, ⟨1, e.kd, []⟩, ⟨3, 0, e.ds⟩] := by
 have h := rightE_iff.1 h
 have h4 := oneV3_bytes (ds := e.ds) (by omega) []
 rw [List.append_nil] at h4
 unfold getV kinds payB
 simp only [valsV, oneV1_num (show -9223372036854775808 ≤ e.ix by omega) (by omega), oneV1_num (show -9223372036854775808 ≤ e.tm by omega) (by omega), oneV1_num (show -9223372036854775808 ≤ e.kd by omega) (by omega), h4]
theorem getE_pay {e : En} (h : rightE e = true) : getE (payB e) = some e := by
 unfold getE
 rw [getV_pay h]
 show (if rightE ⟨e.ix, e.tm, e.kd, e.ds⟩ = true then some (⟨e.ix, e.tm, e.kd, e.ds⟩ : En) else none) = some e
 rw [if_pos h]
def sig : Nat → UInt8 → List UInt8 → List UInt8
 | 0, _, _ => []
 | k + 1, s, x => s :: (x.take 31 ++ sig k 2 (x.drop 31))
def unsig : Nat → List UInt8 → List UInt8
 | 0, _ => []
 | k + 1, b => (b.drop 1).take 31 ++ unsig k (b.drop 32)
def sg (s : UInt8) (j : Nat) : UInt8 := if j = 0 then s else 2
def secOK (s : UInt8) (b : List UInt8) (j : Nat) : Prop := 32 * j + 32 ≤ b.length ∧ b.getD (32 * j) 0 = sg s j
theorem sg_succ (s : UInt8) (j : Nat) : sg s (j + 1) = sg 2 j := by unfold sg; rw [if_neg (by omega)]; split <;> rfl
theorem sig_len : ∀ (k : Nat) (s : UInt8) (x : List UInt8), x.length = 31 * k → (sig k s x).length = 32 * k
 | 0, _, _, _ => rfl
 | k + 1, s, x, h => by
   unfold sig
   rw [List.length_cons, List.length_append, sig_len k 2 (x.drop 31) (by rw [List.length_drop]; omega), List.length_take]; omega
theorem unsig_len : ∀ (k : Nat) (b : List UInt8), 32 * k ≤ b.length → (unsig k b).length = 31 * k
 | 0, _, _ => rfl
 | k + 1, b, h => by
   unfold unsig
   rw [List.length_append, unsig_len k (b.drop 32) (by rw [List.length_drop]; omega), List.length_take, List.length_drop]; omega
theorem unsig_succ : ∀ (k : Nat) (b : List UInt8), unsig (k + 1) b = unsig k b ++ (b.drop (32 * k + 1)).take 31
 | 0, b => by unfold unsig unsig; simp
 | k + 1, b => by
   have ih := unsig_succ k (b.drop 32)
   rw [show unsig (k + 1 + 1) b = (b.drop 1).take 31 ++ unsig (k + 1) (b.drop 32) from rfl, ih, show unsig (k + 1) b = (b.drop 1).take 31 ++ unsig k (b.drop 32) from rfl, List.append_assoc, List.drop_drop]
   congr 4; omega
theorem take_sig : ∀ (m : Nat) (s : UInt8) (b : List UInt8), (∀ j, j < m → secOK s b j) → b.take (32 * m) = sig m s (unsig m b)
 | 0, _, b, _ => by simp [sig]
 | m + 1, s, b, h => by
   have h0 := h 0 (by omega)
   have hl : 32 ≤ b.length := by have := h0.1; omega
   have hrec := take_sig m 2 (b.drop 32) (fun j hj => by
    obtain ⟨h1, h2⟩ := h (j + 1) (by omega)
    refine ⟨by rw [List.length_drop]; omega, ?_⟩
    rw [sg_succ] at h2
    rw [← h2]
    simp only [List.getD_eq_getElem?_getD, List.getElem?_drop]
    congr 2; omega)
   match b, hl with
   | c :: r, hl =>
     have hc : c = s := by have := h0.2; simp [sg] at this; exact this
     subst hc
     have e1 : ((c :: r).drop 1) = r := rfl
     have e2 : ((c :: r).drop 32) = r.drop 31 := rfl
     rw [e2] at hrec
     show (c :: r).take (32 * (m + 1)) = c :: ((r.take 31 ++ unsig m (r.drop 31)).take 31 ++ sig m 2 ((r.take 31 ++ unsig m (r.drop 31)).drop 31))
     have hl31 : (r.take 31).length = 31 := by rw [List.length_take]; simp at hl; omega
     rw [List.take_left' hl31, List.drop_left' hl31, ← hrec, show 32 * (m + 1) = (31 + 32 * m) + 1 by omega, List.take_succ_cons, List.take_add]
theorem unsig_sig : ∀ (m : Nat) (s : UInt8) (x r : List UInt8), x.length = 31 * m → unsig m (sig m s x ++ r) = x
 | 0, _, x, _, h => by have : x = [] := List.eq_nil_of_length_eq_zero (by omega); subst this; rfl
 | m + 1, s, x, r, h => by
   have hl : (x.take 31).length = 31 := by rw [List.length_take]; omega
   have e1 : (sig (m + 1) s x ++ r).drop 1 = x.take 31 ++ (sig m 2 (x.drop 31) ++ r) := by rw [sig]; simp
   have e2 : (sig (m + 1) s x ++ r).drop 32 = sig m 2 (x.drop 31) ++ r := by
    rw [show (32 : Nat) = 1 + 31 from rfl, ← List.drop_drop, e1, List.drop_left' hl]
   show ((sig (m + 1) s x ++ r).drop 1).take 31 ++ unsig m ((sig (m + 1) s x ++ r).drop 32) = x
   rw [e1, e2, List.take_left' hl, unsig_sig m 2 (x.drop 31) r (by rw [List.length_drop]; omega), List.take_append_drop]
theorem sig_ok : ∀ (m : Nat) (s : UInt8) (x r : List UInt8), x.length = 31 * m → ∀ j, j < m → secOK s (sig m s x ++ r) j
 | 0, _, _, _, _, j, hj => by omega
 | m + 1, s, x, r, h, j, hj => by
   refine ⟨by rw [List.length_append, sig_len _ _ _ h]; omega, ?_⟩
   match j with
   | 0 => unfold sig sg; simp
   | j + 1 =>
     have h2 := (sig_ok m 2 (x.drop 31) r (by rw [List.length_drop]; omega) j (by omega)).2
     rw [sg_succ, ← h2]
     have hl : (x.take 31).length = 31 := by rw [List.length_take]; omega
     have e : (sig (m + 1) s x ++ r) = (s :: x.take 31) ++ (sig m 2 (x.drop 31) ++ r) := by rw [sig]; simp
     rw [e]
     simp only [List.getD_eq_getElem?_getD]
     rw [List.getElem?_append_right (by rw [List.length_cons, hl]; omega), List.length_cons, hl, show 32 * (j + 1) - (31 + 1) = 32 * j by omega]
theorem unsig_take : ∀ (j : Nat) (b : List UInt8) (m : Nat), j ≤ m → 32 * m ≤ b.length → unsig j b = (unsig m b).take (31 * j)
 | 0, _, _, _, _ => by simp [unsig]
 | j + 1, b, 0, h, _ => by omega
 | j + 1, b, m + 1, h, hl => by
   have ih := unsig_take j (b.drop 32) m (by omega) (by rw [List.length_drop]; omega)
   have hl31 : ((b.drop 1).take 31).length = 31 := by rw [List.length_take, List.length_drop]; omega
   show (b.drop 1).take 31 ++ unsig j (b.drop 32) = ((b.drop 1).take 31 ++ unsig m (b.drop 32)).take (31 * (j + 1))
   rw [show 31 * (j + 1) = 31 + 31 * j by omega, List.take_append, List.take_of_length_le (l := (b.drop 1).take 31) (by rw [hl31]; omega), hl31, show 31 + 31 * j - 31 = 31 * j by omega, ← ih]
def nSec (n : Nat) : Nat := (n + 30) / 31
def recF (e : En) : List UInt8 := frameB (payB e)
def pad31 (f : List UInt8) : List UInt8 := f ++ List.replicate (31 * nSec f.length - f.length) 0
theorem pad31_len (f : List UInt8) : (pad31 f).length = 31 * nSec f.length := by unfold pad31 nSec; rw [List.length_append, List.length_replicate]; omega
def recB (e : En) : List UInt8 := sig (nSec (recF e).length) 1 (pad31 (recF e))
theorem recF_len (e : En) : (recF e).length = 8 + (payB e).length := frameB_len _
theorem recB_len (e : En) : (recB e).length = 32 * nSec (8 + (payB e).length) := by
 unfold recB; rw [sig_len _ _ _ (pad31_len _), recF_len]
theorem recB_pos (e : En) : 32 ≤ (recB e).length := by rw [recB_len]; unfold nSec; omega
theorem recB_le {e : En} (h : rightE e = true) : (recB e).length ≤ 2200 := by rw [recB_len]; have := payB_len h; unfold nSec; omega
theorem recB_mod (e : En) : (recB e).length % 32 = 0 := by rw [recB_len]; omega
def zeros (l : List UInt8) : Bool := l.all (· == 0)
def finE (f : List UInt8) (k : Nat) : Option (En × Nat) :=
 if (unframe f).2.2 = 0 ∧ zeros (f.drop (unframe f).2.1) = true then (getE (unframe f).1).map (fun e => (e, 32 * k)) else none
instance (s : UInt8) (b : List UInt8) (j : Nat) : Decidable (secOK s b j) := by unfold secOK; infer_instance
def entA (b : List UInt8) : Nat → Nat → Option (En × Nat)
 | 0, _ => none
 | n + 1, i =>
   if secOK 1 b i then
    if (unframe (unsig (i + 1) b)).2.2 = 31 then entA b n (i + 1) else finE (unsig (i + 1) b) (i + 1)
   else none
def entryS (b : List UInt8) : Option (En × Nat) := entA b (b.length / 32 + 1) 0
theorem entA_some (b : List UInt8) (r : En × Nat) : ∀ (n i : Nat), entA b n i = some r ↔
 ∃ k, i ≤ k ∧ k < i + n ∧ (∀ j, i ≤ j → j ≤ k → secOK 1 b j) ∧ (∀ j, i ≤ j → j < k → (unframe (unsig (j + 1) b)).2.2 = 31) ∧ (unframe (unsig (k + 1) b)).2.2 ≠ 31 ∧ finE (unsig (k + 1) b) (k + 1) = some r
 | 0, i => by
   unfold entA
   constructor
   ·intro h; cases h
   ·rintro ⟨k, h1, h2, _⟩; omega
 | n + 1, i => by
   unfold entA
   by_cases hs : secOK 1 b i
   ·rw [if_pos hs]
    by_cases hc : (unframe (unsig (i + 1) b)).2.2 = 31
    ·rw [if_pos hc, entA_some b r n (i + 1)]
     constructor
     ·rintro ⟨k, h1, h2, h3, h4, h5, h6⟩
      refine ⟨k, by omega, by omega, fun j hj hk => ?_, fun j hj hk => ?_, h5, h6⟩
      ·rcases Nat.eq_or_lt_of_le hj with rfl | hj
       ·exact hs
       ·exact h3 j hj hk
      ·rcases Nat.eq_or_lt_of_le hj with rfl | hj
       ·exact hc
       ·exact h4 j hj hk
     ·rintro ⟨k, h1, h2, h3, h4, h5, h6⟩
      rcases Nat.eq_or_lt_of_le h1 with rfl | h1
      ·exact absurd hc h5
      ·exact ⟨k, h1, by omega, fun j hj hk => h3 j (by omega) hk, fun j hj hk => h4 j (by omega) hk, h5, h6⟩
    ·rw [if_neg hc]
     constructor
     ·intro h
      exact ⟨i, Nat.le_refl _, by omega, fun j h1 h2 => (Nat.le_antisymm h1 h2) ▸ hs, fun j h1 h2 => absurd h2 (Nat.not_lt.2 h1), hc, h⟩
     ·rintro ⟨k, h1, h2, h3, h4, h5, h6⟩
      rcases Nat.eq_or_lt_of_le h1 with rfl | h1
      ·exact h6
      ·exact absurd (h4 i (Nat.le_refl _) h1) hc
   ·rw [if_neg hs]
    constructor
    ·intro h; cases h
    ·rintro ⟨k, h1, h2, h3, _⟩
     exact absurd (h3 i (Nat.le_refl _) h1) hs
theorem unframe_more {p r : List UInt8} {n : Nat} (hp : p.length ≤ 4096) (h8 : 8 ≤ n) (hn : n < 8 + p.length) : (unframe ((frameB p ++ r).take n)).2.2 = 31 := by
 have hl : ((frameB p ++ r).take n).length = n := by rw [List.length_take, List.length_append, frameB_len]; omega
 have e1 : unwordN ((frameB p ++ r).take n) = p.length := by
  have : (frameB p ++ r).take n = wordB p.length ++ ((frameB p ++ r).drop 4).take (n - 4) := by
   have h4 : (frameB p ++ r).take 4 = wordB p.length := by
    unfold frameB
    rw [List.append_assoc, List.append_assoc, List.take_left' (wordB_len _)]
   conv => lhs; rw [show n = 4 + (n - 4) by omega, List.take_add]
   rw [h4]
  rw [this]; exact unword_word (by omega) _
 unfold unframe
 rw [if_neg (by rw [hl]; omega), e1, if_neg (by omega), if_pos (by rw [hl]; omega)]
theorem zeros_rep (n : Nat) : zeros (List.replicate n 0) = true := by unfold zeros; simp
theorem zeros_eq {l : List UInt8} (h : zeros l = true) : l = List.replicate l.length 0 := by
 unfold zeros at h
 rw [List.eq_replicate_iff]
 exact ⟨rfl, fun x hx => by simpa using List.all_eq_true.1 h x hx⟩
theorem entryS_iff {b : List UInt8} {e : En} {n : Nat} : entryS b = some (e, n) ↔ rightE e = true ∧ n = (recB e).length ∧ b.take n = recB e := by
 unfold entryS
 rw [entA_some]
 constructor
 ·rintro ⟨k, -, -, hs, hm, -, hf⟩
  have hs' : ∀ j, j < k + 1 → secOK 1 b j := fun j hj => hs j (Nat.zero_le _) (by omega)
  have hlen : 32 * (k + 1) ≤ b.length := by have := (hs k (Nat.zero_le _) (Nat.le_refl _)).1; omega
  have hul := unsig_len (k + 1) b hlen
  unfold finE at hf
  by_cases hc : (unframe (unsig (k + 1) b)).2.2 = 0 ∧ zeros ((unsig (k + 1) b).drop (unframe (unsig (k + 1) b)).2.1) = true
  ·rw [if_pos hc] at hf
   obtain ⟨hc0, hz⟩ := hc
   obtain ⟨p, hp⟩ : ∃ p, p = (unframe (unsig (k + 1) b)).1 := ⟨_, rfl⟩
   obtain ⟨sz, hsz⟩ : ∃ p, p = (unframe (unsig (k + 1) b)).2.1 := ⟨_, rfl⟩
   rw [← hp] at hf
   rw [← hsz] at hz
   have hu : unframe (unsig (k + 1) b) = (p, sz, 0) := by rw [hp, hsz, ← hc0]
   obtain ⟨u1, u2, u3, u4, -⟩ := unframe_ok hu
   cases hg : getE p with
   | none => rw [hg] at hf; cases hf
   | some e' =>
     rw [hg] at hf
     injection hf with hf; injection hf with h1 h2
     subst h1
     obtain ⟨hr, hpe⟩ := getE_some hg
     subst hpe
     have hsp : sz = (recF e').length := by rw [recF_len]; exact u2
     have hk31 : 31 * k < sz := by
      rcases Nat.eq_zero_or_pos k with h0 | h0
      ·subst h0; omega
      ·rcases Nat.lt_or_ge (31 * k) sz with h9 | h9
       ·exact h9
       ·exfalso
        have h7 := hm (k - 1) (Nat.zero_le _) (by omega)
        rw [show k - 1 + 1 = k by omega, unsig_take k b (k + 1) (by omega) hlen] at h7
        have e9 : (unsig (k + 1) b).take (31 * k) = frameB (payB e') ++ ((unsig (k + 1) b).drop sz).take (31 * k - sz) := by
         rw [← u1, ← List.take_add]; congr 1; omega
        rw [e9, unframe_frame u4] at h7
        cases h7
     have hns : nSec (recF e').length = k + 1 := by rw [← hsp]; unfold nSec; rw [hul] at u3; omega
     have hx : unsig (k + 1) b = pad31 (recF e') := by
      have h3 := zeros_eq hz
      rw [List.length_drop, hul] at h3
      unfold pad31
      rw [hns, ← hsp, ← h3]
      show _ = frameB (payB e') ++ _
      rw [← u1, List.take_append_drop]
     refine ⟨hr, ?_, ?_⟩
     ·rw [← h2, recB_len, ← recF_len, hns]
     ·rw [← h2, take_sig (k + 1) 1 b hs', hx]; unfold recB; rw [hns]
  ·rw [if_neg hc] at hf; cases hf
 ·rintro ⟨hr, rfl, hb⟩
  obtain ⟨m, hm⟩ : ∃ m, m = nSec (recF e).length := ⟨_, rfl⟩
  have hml : (recB e).length = 32 * m := by rw [recB_len, ← recF_len, ← hm]
  have hsplit : b = recB e ++ b.drop (32 * m) := by rw [← hb, hml, List.take_append_drop]
  have hbl : 32 * m ≤ b.length := by
   have := congrArg List.length hb
   rw [List.length_take, hml] at this; omega
  have hx : (pad31 (recF e)).length = 31 * m := by rw [pad31_len, hm]
  have hbx : b = sig m 1 (pad31 (recF e)) ++ b.drop (32 * m) := by
   conv => lhs; rw [hsplit]
   unfold recB; rw [← hm]
  have hu : unsig m b = pad31 (recF e) := by rw [hbx]; exact unsig_sig m 1 _ _ hx
  have hpl := payB_len hr
  have hrl := recF_len e
  have hm1 : 1 ≤ m := by rw [hm]; unfold nSec; omega
  refine ⟨m - 1, Nat.zero_le _, by omega, fun j _ hj => ?_, fun j _ hj => ?_, ?_, ?_⟩
  ·rw [hbx]; exact sig_ok m 1 _ _ hx j (by omega)
  ·rw [unsig_take (j + 1) b m (by omega) hbl, hu]
   unfold pad31 recF
   have : 31 * (j + 1) < (recF e).length := by rw [hm] at hj; unfold nSec at hj; omega
   exact unframe_more (by omega) (by omega) (by rw [← hrl]; exact this)
  ·rw [show m - 1 + 1 = m by omega, hu]
   unfold pad31
   rw [show recF e = frameB (payB e) from rfl, unframe_frame (by omega)]
   show ¬ ((0 : Int) = 31); omega
  ·rw [show m - 1 + 1 = m by omega, hu]
   have hun : unframe (pad31 (recF e)) = (payB e, 8 + (payB e).length, 0) := by
    unfold pad31; rw [show recF e = frameB (payB e) from rfl, unframe_frame (by omega)]
   unfold finE
   rw [hun]
   simp only [true_and]
   rw [if_pos, getE_pay hr, ← hml]
   ·rfl
   ·unfold pad31
    rw [List.drop_left' hrl]
    exact zeros_rep _
theorem entryS_rec {e : En} (h : rightE e = true) (r : List UInt8) : entryS (recB e ++ r) = some (e, (recB e).length) := entryS_iff.2 ⟨h, rfl, List.take_left⟩
theorem entryS_pos {b : List UInt8} {e : En} {n : Nat} (h : entryS b = some (e, n)) : 32 ≤ n ∧ n ≤ b.length := by
 obtain ⟨h1, h2, h3⟩ := entryS_iff.1 h
 have := congrArg List.length h3
 rw [List.length_take] at this
 have := recB_pos e
 omega
end Go.Proofs.YtifgajinfcihmaaGreatDoor.Wl
