/- Layer 8: which bytes are a snapshot's: plain words. -/
import Derived.Test.YtfpomllhkbbipaaGreatDoorCnt
import Derived.Test.YtfpomllhkbbipaaGreatDoorSnW
namespace Go.Proofs.YtfpomllhkbbipaaGreatDoor
open Go Go.RowKit Go.Maps Go.Lib Mem Pk Cf

/-- a snapshot, plainly -/
structure SnT where
  x : Int
  t : Int
  vs : List Int
  ls : List Int
  ds : List UInt8
/-- are bytes a snapshot's? -/
def isSn (b : List UInt8) (s : SnT) : Prop := snapB s.x s.t s.vs s.ls s.ds = true ∧ b = snB s.x s.t s.vs s.ls s.ds
/-- what a head says -/
structure HdT where
  x : Int
  t : Int
  vs : List Int
  ls : List Int
  n : Nat
  r : List UInt8
def hdS (bs : List UInt8) : Option HdT :=
  match getNum bs with
  | none => none
  | some (x, k) =>
    match getNum (bs.drop k) with
    | none => none
    | some (t, k2) =>
      match row ((bs.drop k).drop k2) with
      | none => none
      | some (vs, r1) =>
        match row r1 with
        | none => none
        | some (ls, r2) =>
          match getCount 32768 r2 with
          | none => none
          | some (n, k3) => some ⟨x, t, vs, ls, n.toNat, r2.drop k3⟩
def small7 (ns : List Int) : Prop := ns.length ≤ 7 ∧ ∀ n ∈ ns, 0 ≤ n ∧ n ≤ 7
theorem num_split {bs : List UInt8} {n : Int} {k : Nat} (h : getNum bs = some (n, k)) : bs = numB n ++ bs.drop k ∧ i64ok n := by
  obtain ⟨h1, -, -, -, h2, h3⟩ := getNum_inv h
  exact ⟨by rw [← h1, List.take_append_drop], h2, h3⟩
theorem hd_some {bs : List UInt8} {h : HdT} (e : hdS bs = some h) : i64ok h.x ∧ i64ok h.t ∧ small7 h.vs ∧ small7 h.ls ∧ h.n ≤ 32768 ∧ bs = headN h.x h.t h.vs h.ls h.n ++ h.r := by
  unfold hdS at e
  cases h1 : getNum bs with
  | none => rw [h1] at e; cases e
  | some p =>
    obtain ⟨x, k⟩ := p
    rw [h1] at e; simp only at e
    cases h2 : getNum (bs.drop k) with
    | none => rw [h2] at e; cases e
    | some p =>
      obtain ⟨t, k2⟩ := p
      rw [h2] at e; simp only at e
      cases h3 : row ((bs.drop k).drop k2) with
      | none => rw [h3] at e; cases e
      | some p =>
        obtain ⟨vs, r1⟩ := p
        rw [h3] at e; simp only at e
        cases h4 : row r1 with
        | none => rw [h4] at e; cases e
        | some p =>
          obtain ⟨ls, r2⟩ := p
          rw [h4] at e; simp only at e
          cases h5 : getCount 32768 r2 with
          | none => rw [h5] at e; cases e
          | some p =>
            obtain ⟨n, k3⟩ := p
            rw [h5] at e
            injection e with e
            subst e
            obtain ⟨g1, g2, g3⟩ := getCount_some h5
            obtain ⟨a1, b1⟩ := num_split h1
            obtain ⟨a2, b2⟩ := num_split h2
            obtain ⟨c1, c2, c3⟩ := row_some.1 h3
            obtain ⟨d1, d2, d3⟩ := row_some.1 h4
            obtain ⟨a3, -⟩ := num_split g1
            refine ⟨b1, b2, ⟨c1, c2⟩, ⟨d1, d2⟩, by show n.toNat ≤ 32768; omega, ?_⟩
            have hn : ((n.toNat : Nat) : Int) = n := by omega
            show bs = headN x t vs ls n.toNat ++ r2.drop k3
            unfold headN
            rw [hn]
            simp only [List.append_assoc]
            rw [← a3, ← d3, ← c3, ← a2, ← a1]
theorem hd_head {x t : Int} {vs ls : List Int} {n : Nat} (hx : i64ok x) (ht : i64ok t) (hv : small7 vs) (hl : small7 ls) (hn : n ≤ 32768) (r : List UInt8) : hdS (headN x t vs ls n ++ r) = some ⟨x, t, vs, ls, n, r⟩ := by
  have e0 : headN x t vs ls n ++ r = numB x ++ (numB t ++ (numsB ((vs.length : Int) :: vs) ++ (numsB ((ls.length : Int) :: ls) ++ (numB (n : Int) ++ r)))) := by unfold headN; simp only [List.append_assoc]
  have h3 : row (numsB ((vs.length : Int) :: vs) ++ (numsB ((ls.length : Int) :: ls) ++ (numB (n : Int) ++ r))) = some (vs, numsB ((ls.length : Int) :: ls) ++ (numB (n : Int) ++ r)) := row_some.2 ⟨hv.1, hv.2, rfl⟩
  have h4 : row (numsB ((ls.length : Int) :: ls) ++ (numB (n : Int) ++ r)) = some (ls, numB (n : Int) ++ r) := row_some.2 ⟨hl.1, hl.2, rfl⟩
  have h5 : getCount 32768 (numB (n : Int) ++ r) = some ((n : Int), (numB (n : Int)).length) := by
    unfold getCount
    rw [getNum_num (by omega) (by omega), Option.filter_some, if_pos (by simp; omega)]
  unfold hdS
  rw [e0, getNum_num hx.1 hx.2]; simp only [List.drop_left]
  rw [getNum_num ht.1 ht.2]; simp only [List.drop_left]
  rw [h3]; simp only []; rw [h4]; simp only []; rw [h5]; simp only [List.drop_left, Int.toNat_natCast]
/-- the pieces' payload -/
def pcs : Nat → Nat → List UInt8 → Option (List UInt8)
  | 0, size, b => if size = 0 ∧ b = [] then some [] else none
  | k + 1, size, b =>
    if size = 0 then (if b = [] then some [] else none)
    else if (unframe b).2.2 = 0 ∧ (unframe b).1.length = min size 2048 then (pcs k (size - (unframe b).1.length) (b.drop (unframe b).2.1)).map ((unframe b).1 ++ ·) else none
theorem pcs_zero (k : Nat) (b : List UInt8) : pcs k 0 b = if b = [] then some [] else none := by
  cases k with
  | zero => unfold pcs; simp
  | succ k => unfold pcs; rw [if_pos rfl]
theorem pcs_step {k size n : Nat} {b p : List UInt8} (hs : 0 < size) (hu : unframe b = (p, n, 0)) (hp : p.length = min size 2048) : pcs (k + 1) size b = (pcs k (size - p.length) (b.drop n)).map (p ++ ·) := by
  rw [pcs, if_neg (by omega), hu, if_pos ⟨rfl, hp⟩]
theorem pcs_no {k size : Nat} {b : List UInt8} (hs : 0 < size) (h : ¬ ((unframe b).2.2 = 0 ∧ (unframe b).1.length = min size 2048)) : pcs k size b = none := by
  cases k with
  | zero => unfold pcs; rw [if_neg (by omega)]
  | succ k => unfold pcs; rw [if_neg (by omega), if_neg h]
def nP (m : Nat) : Nat := (m + 2047) / 2048
theorem pieces_cons {ds : List UInt8} (h : 0 < ds.length) : piecesN (nP ds.length) ds = frameB (ds.take 2048) ++ piecesN (nP (ds.drop 2048).length) (ds.drop 2048) := by
  have h1 : nP ds.length = nP (ds.drop 2048).length + 1 := by unfold nP; rw [List.length_drop]; omega
  rw [h1]
  unfold piecesN
  rw [List.range_succ_eq_map, List.flatMap_cons, List.flatMap_map]
  have e0 : piece ds 0 = ds.take 2048 := by unfold piece; rw [Nat.zero_mul, List.drop_zero]
  rw [e0]
  refine congrArg (frameB (ds.take 2048) ++ ·) ?_
  refine congrArg (fun g => List.flatMap g (List.range (nP (ds.drop 2048).length))) (funext fun j => ?_)
  refine congrArg frameB ?_
  unfold piece
  rw [List.drop_drop, show Nat.succ j * 2048 = 2048 + j * 2048 by omega]
theorem pcs_iff : ∀ (k size : Nat) (b ds : List UInt8), size ≤ 2048 * k → (pcs k size b = some ds ↔ ds.length = size ∧ b = piecesN (nP size) ds)
  | 0, size, b, ds, hk => by
    obtain rfl : size = 0 := by omega
    rw [pcs_zero]
    constructor
    · intro h
      by_cases hb : b = []
      · rw [if_pos hb] at h; injection h with h; subst h; exact ⟨rfl, hb⟩
      · rw [if_neg hb] at h; cases h
    · rintro ⟨h1, h2⟩
      have h3 : b = [] := h2
      rw [if_pos h3, List.eq_nil_of_length_eq_zero h1]
  | k + 1, size, b, ds, hk => by
    by_cases h0 : size = 0
    · subst h0
      rw [pcs_zero]
      constructor
      · intro h
        by_cases hb : b = []
        · rw [if_pos hb] at h; injection h with h; subst h; exact ⟨rfl, hb⟩
        · rw [if_neg hb] at h; cases h
      · rintro ⟨h1, h2⟩
        have h3 : b = [] := h2
        rw [if_pos h3, List.eq_nil_of_length_eq_zero h1]
    · constructor
      · intro h
        by_cases hc : (unframe b).2.2 = 0 ∧ (unframe b).1.length = min size 2048
        · obtain ⟨⟨p, n, e⟩, hu⟩ : ∃ z, z = unframe b := ⟨_, rfl⟩
          rw [← hu] at hc
          obtain ⟨rfl, hl⟩ : e = 0 ∧ p.length = min size 2048 := hc
          rw [pcs_step (by omega) hu.symm hl] at h
          cases hr : pcs k (size - p.length) (b.drop n) with
          | none => rw [hr] at h; cases h
          | some q =>
            rw [hr] at h
            have h : p ++ q = ds := Option.some.inj h
            obtain ⟨h1, h2⟩ := (pcs_iff k (size - p.length) (b.drop n) q (by omega)).1 hr
            obtain ⟨f1, f2, f3, -, -⟩ := unframe_ok hu.symm
            subst h
            have hlen : (p ++ q).length = size := by rw [List.length_append, h1]; omega
            refine ⟨hlen, ?_⟩
            rw [← hlen, pieces_cons (by omega)]
            have e1 : b = frameB p ++ b.drop n := by rw [← f1, List.take_append_drop]
            rw [e1, h2]
            by_cases hs : size ≤ 2048
            · have hq : q = [] := List.eq_nil_of_length_eq_zero (by omega)
              subst hq
              rw [List.append_nil, List.take_of_length_le (by omega), List.drop_of_length_le (by omega)]
              rw [show size - p.length = 0 by omega]
              rfl
            · have hp : p.length = 2048 := by omega
              rw [← hp, List.take_left, List.drop_left, h1]
        · rw [pcs_no (by omega) hc] at h; cases h
      · rintro ⟨h1, h2⟩
        rw [← h1, pieces_cons (by omega)] at h2
        have hu : unframe b = (ds.take 2048, 8 + (ds.take 2048).length, 0) := by rw [h2]; exact unframe_frame (by rw [List.length_take]; omega) _
        have hd : b.drop (8 + (ds.take 2048).length) = piecesN (nP (ds.drop 2048).length) (ds.drop 2048) := by
          rw [h2, ← frameB_len, List.drop_left]
        rw [pcs_step (by omega) hu (by rw [List.length_take]; omega), hd]
        have h3 := (pcs_iff k (size - (ds.take 2048).length) (piecesN (nP (ds.drop 2048).length) (ds.drop 2048)) (ds.drop 2048) (by rw [List.length_take]; omega)).2
          ⟨by rw [List.length_drop, List.length_take]; omega, by rw [show size - (ds.take 2048).length = (ds.drop 2048).length by rw [List.length_drop, List.length_take]; omega]⟩
        rw [h3]
        simp
theorem snap_data {x t : Int} {vs ls : List Int} {ds : List UInt8} : snapB x t vs ls ds = true ↔ snapB x t vs ls [] = true ∧ ds.length ≤ 32768 := by
  unfold snapB
  simp only [Bool.and_eq_true, decide_eq_true_eq, List.length_nil]
  constructor
  · rintro ⟨a, b, c, d, e, f⟩; exact ⟨⟨a, b, c, d, e, by omega⟩, f⟩
  · rintro ⟨⟨a, b, c, d, e, -⟩, f⟩; exact ⟨a, b, c, d, e, f⟩
/-- the snapshot of bytes, as it is read -/
def readS (b : List UInt8) : Option SnT :=
  if (unframe b).2.2 = 0 then
    match hdS (unframe b).1 with
    | none => none
    | some h => if h.r = [] ∧ snapB h.x h.t h.vs h.ls [] = true then (pcs (nP h.n) h.n (b.drop (unframe b).2.1)).map fun ds => ⟨h.x, h.t, h.vs, h.ls, ds⟩ else none
  else none
theorem headN_le {x t : Int} {vs ls : List Int} (hv : vs.length ≤ 7) (hl : ls.length ≤ 7) (n : Nat) : (headN x t vs ls n).length ≤ 4096 := by
  unfold headN
  have h1 := numsB_len ((vs.length : Int) :: vs)
  have h2 := numsB_len ((ls.length : Int) :: ls)
  have h3 := (numB_len x).2
  have h4 := (numB_len t).2
  have h5 := (numB_len (n : Int)).2
  rw [List.length_cons] at h1 h2
  simp only [List.length_append]
  omega
theorem rise_small7 {ns : List Int} (h : riseB ns = true) : small7 ns := ⟨rise_small h, fun n hn => by have := rise_mem h hn; omega⟩
theorem sn_unframe {b : List UInt8} {s : SnT} (h : isSn b s) : unframe b = (headN s.x s.t s.vs s.ls s.ds.length, 8 + (headN s.x s.t s.vs s.ls s.ds.length).length, 0) ∧ b.drop (8 + (headN s.x s.t s.vs s.ls s.ds.length).length) = piecesN (nP s.ds.length) s.ds := by
  obtain ⟨h1, h2⟩ := h
  obtain ⟨-, -, hc, -⟩ := snap_parts h1
  obtain ⟨hv, hl⟩ := rconf_rise hc
  unfold snB at h2
  refine ⟨by rw [h2]; exact unframe_frame (headN_le (rise_small hv) (rise_small hl) _) _, ?_⟩
  rw [h2, ← frameB_len, List.drop_left]; rfl
theorem readS_iff {b : List UInt8} {s : SnT} : readS b = some s ↔ isSn b s := by
  constructor
  · intro h
    unfold readS at h
    obtain ⟨⟨hd, n, e⟩, hu⟩ : ∃ z, z = unframe b := ⟨_, rfl⟩
    rw [← hu] at h
    simp only at h
    by_cases he : e = 0
    · subst he
      rw [if_pos rfl] at h
      cases hh : hdS hd with
      | none => rw [hh] at h; cases h
      | some g =>
        rw [hh] at h; simp only at h
        by_cases hc : g.r = [] ∧ snapB g.x g.t g.vs g.ls [] = true
        · rw [if_pos hc] at h
          cases hp : pcs (nP g.n) g.n (b.drop n) with
          | none => rw [hp] at h; cases h
          | some ds =>
            rw [hp] at h
            have h : (⟨g.x, g.t, g.vs, g.ls, ds⟩ : SnT) = s := Option.some.inj h
            subst h
            obtain ⟨-, -, -, -, hn, hb⟩ := hd_some hh
            obtain ⟨h1, h2⟩ := (pcs_iff (nP g.n) g.n (b.drop n) ds (by unfold nP; omega)).1 hp
            obtain ⟨f1, -⟩ := unframe_ok hu.symm
            refine ⟨snap_data.2 ⟨hc.2, by show ds.length ≤ 32768; omega⟩, ?_⟩
            show b = snB g.x g.t g.vs g.ls ds
            unfold snB
            rw [hc.1, List.append_nil] at hb
            rw [h1, ← hb, ← f1]
            show b = b.take n ++ piecesN (nP g.n) ds
            rw [← h2, List.take_append_drop]
        · rw [if_neg hc] at h; cases h
    · rw [if_neg he] at h; cases h
  · intro h
    obtain ⟨h1, h2⟩ := sn_unframe h
    obtain ⟨hx, ht, hc, hd⟩ := snap_parts h.1
    obtain ⟨hv, hl⟩ := rconf_rise hc
    have h3 := hd_head (x := s.x) (t := s.t) (vs := s.vs) (ls := s.ls) (n := s.ds.length) (by unfold i64ok; omega) (by unfold i64ok; omega) (rise_small7 hv) (rise_small7 hl) hd []
    rw [List.append_nil] at h3
    unfold readS
    rw [h1]
    simp only [if_true]
    rw [h3]
    simp only []
    rw [if_pos ⟨trivial, (snap_data.1 h.1).1⟩, h2, (pcs_iff (nP s.ds.length) s.ds.length _ s.ds (by unfold nP; omega)).2 ⟨rfl, rfl⟩]
    rfl
theorem isSn_one {b : List UInt8} {s s' : SnT} (h : isSn b s) (h' : isSn b s') : s = s' := by
  have h1 := readS_iff.2 h
  rw [readS_iff.2 h'] at h1
  exact (Option.some.inj h1).symm
end Go.Proofs.YtfpomllhkbbipaaGreatDoor
