/- Layer 8: which bytes are a snapshot's: plain words. -/
import Derived.Test.YtfpomllhkbbipaaGreatDoorGAl
import Derived.Test.YtfpomllhkbbipaaGreatDoorGAn
import Derived.Test.YtfpomllhkbbipaaGreatDoorGAj
namespace Go.Proofs.YtfpomllhkbbipaaGreatDoor
open Go Go.RowKit Go.Maps Go.Lib Mem Pk Cf
structure SnT where
 x : Int
 t : Int
 vs : List Int
 ls : List Int
 ds : List UInt8
def isSn (b : List UInt8) (s : SnT) : Prop := snapB s.x s.t s.vs s.ls s.ds = true ∧ b = snB s.x s.t s.vs s.ls s.ds
structure HdT where
 x : Int
 t : Int
 vs : List Int
 ls : List Int
 n : Nat
 r : List UInt8
def hdS (bs : List UInt8) : Option HdT :=
 match getNum bs with
 | none => none
 | some (x, k) =>
   match getNum (bs.drop k) with
   | none => none
   | some (t, k2) =>
     match row ((bs.drop k).drop k2) with
     | none => none
     | some (vs, r1) =>
       match row r1 with
       | none => none
       | some (ls, r2) =>
         match getCount 32768 r2 with
         | none => none
         | some (n, k3) => some ⟨x, t, vs, ls, n.toNat, r2.drop k3⟩
def small7 (ns : List Int) : Prop := ns.length ≤ 7 ∧ ∀ n ∈ ns, 0 ≤ n ∧ n ≤ 7
theorem num_split {bs : List UInt8} {n : Int} {k : Nat} (h : getNum bs = some (n, k)) : bs = numB n ++ bs.drop k ∧ i64ok n := by
 obtain ⟨h1, -, -, -, h2, h3⟩ := getNum_inv h
 exact ⟨by rw [← h1, List.take_append_drop], h2, h3⟩
theorem hd_some {bs : List UInt8} {h : HdT} (e : hdS bs = some h) : i64ok h.x ∧ i64ok h.t ∧ small7 h.vs ∧ small7 h.ls ∧ h.n ≤ 32768 ∧ bs = headN h.x h.t h.vs h.ls h.n ++ h.r := by
 unfold hdS at e
 cases h1 : getNum bs with
 | none => rw [h1] at e; cases e
 | some p =>
   obtain ⟨x, k⟩ := p
   rw [h1] at e; simp only at e
   cases h2 : getNum (bs.drop k) with
   | none => rw [h2] at e; cases e
   | some p =>
     obtain ⟨t, k2⟩ := p
     rw [h2] at e; simp only at e
     cases h3 : row ((bs.drop k).drop k2) with
     | none => rw [h3] at e; cases e
     | some p =>
       obtain ⟨vs, r1⟩ := p
       rw [h3] at e; simp only at e
       cases h4 : row r1 with
       | none => rw [h4] at e; cases e
       | some p =>
         obtain ⟨ls, r2⟩ := p
         rw [h4] at e; simp only at e
         cases h5 : getCount 32768 r2 with
         | none => rw [h5] at e; cases e
         | some p =>
           obtain ⟨n, k3⟩ := p
           rw [h5] at e
           injection e with e
           subst e
           obtain ⟨g1, g2, g3⟩ := getCount_some h5
           obtain ⟨a1, b1⟩ := num_split h1
           obtain ⟨a2, b2⟩ := num_split h2
           obtain ⟨c1, c2, c3⟩ := row_some.1 h3
           obtain ⟨d1, d2, d3⟩ := row_some.1 h4
           obtain ⟨a3, -⟩ := num_split g1
           refine ⟨b1, b2, ⟨c1, c2⟩, ⟨d1, d2⟩, by show n.toNat ≤ 32768; omega, ?_⟩
           have hn : ((n.toNat : Nat) : Int) = n := by omega
           show bs = headN x t vs ls n.toNat ++ r2.drop k3
           unfold headN
           rw [hn]
           simp only [List.append_assoc]
           rw [← a3, ← d3, ← c3, ← a2, ← a1]
theorem hd_head {x t : Int} {vs ls : List Int} {n : Nat} (hx : i64ok x) (ht : i64ok t) (hv : small7 vs) (hl : small7 ls) (hn : n ≤ 32768) (r : List UInt8) : hdS (headN x t vs ls n ++ r) = some ⟨x, t, vs, ls, n, r⟩ := by
 have e0 : headN x t vs ls n ++ r = numB x ++ (numB t ++ (numsB ((vs.length : Int) :: vs) ++ (numsB ((ls.length : Int) :: ls) ++ (numB (n : Int) ++ r)))) := by unfold headN; simp only [List.append_assoc]
 have h3 : row (numsB ((vs.length : Int) :: vs) ++ (numsB ((ls.length : Int) :: ls) ++ (numB (n : Int) ++ r))) = some (vs, numsB ((ls.length : Int) :: ls) ++ (numB (n : Int) ++ r)) := row_some.2 ⟨hv.1, hv.2, rfl⟩
 have h4 : row (numsB ((ls.length : Int) :: ls) ++ (numB (n : Int) ++ r)) = some (ls, numB (n : Int) ++ r) := row_some.2 ⟨hl.1, hl.2, rfl⟩
 have h5 : getCount 32768 (numB (n : Int) ++ r) = some ((n : Int), (numB (n : Int)).length) := by
  unfold getCount
  rw [getNum_num (by omega) (by omega), Option.filter_some, if_pos (by simp; omega)]
 unfold hdS
 rw [e0, getNum_num hx.1 hx.2]; simp only [List.drop_left]
 rw [getNum_num ht.1 ht.2]; simp only [List.drop_left]
 rw [h3]; simp only []; rw [h4]; simp only []; rw [h5]; simp only [List.drop_left, Int.toNat_natCast]
def pcs : Nat → Nat → List UInt8 → Option (List UInt8)
 | 0, size, b => if size = 0 ∧ b = [] then some [] else none
 | k + 1, size, b =>
   if size = 0 then (if b = [] then some [] else none)
   else if (unframe b).2.2 = 0 ∧ (unframe b).1.length = min size 2048 then (pcs k (size - (unframe b).1.length) (b.drop (unframe b).2.1)).map ((unframe b).1 ++ ·) else none
theorem pcs_zero (k : Nat) (b : List UInt8) : pcs k 0 b = if b = [] then some [] else none := by
 cases k with
 | zero => unfold pcs; simp
 | succ k => unfold pcs; rw [if_pos rfl]
theorem pcs_step {k size n : Nat} {b p : List UInt8} (hs : 0 < size) (hu : unframe b = (p, n, 0)) (hp : p.length = min size 2048) : pcs (k + 1) size b = (pcs k (size - p.length) (b.drop n)).map (p ++ ·) := by
 rw [pcs, if_neg (by omega), hu, if_pos ⟨rfl, hp⟩]
theorem pcs_no {k size : Nat} {b : List UInt8} (hs : 0 < size) (h : ¬ ((unframe b).2.2 = 0 ∧ (unframe b).1.length = min size 2048)) : pcs k size b = none := by
 cases k with
 | zero => unfold pcs; rw [if_neg (by omega)]
 | succ k => unfold pcs; rw [if_neg (by omega), if_neg h]
def nP (m : Nat) : Nat := (m + 2047) / 2048
theorem pieces_cons {ds : List UInt8} (h : 0 < ds.length) : piecesN (nP ds.length) ds = frameB (ds.take 2048) ++ piecesN (nP (ds.drop 2048).length) (ds.drop 2048) := by
 have h1 : nP ds.length = nP (ds.drop 2048).length + 1 := by unfold nP; rw [List.length_drop]; omega
 rw [h1]
 unfold piecesN
 rw [List.range_succ_eq_map, List.flatMap_cons, List.flatMap_map]
 have e0 : piece ds 0 = ds.take 2048 := by unfold piece; rw [Nat.zero_mul, List.drop_zero]
 rw [e0]
 refine congrArg (frameB (ds.take 2048) ++ ·) ?_
 refine congrArg (fun g => List.flatMap g (List.range (nP (ds.drop 2048).length))) (funext fun j => ?_)
 refine congrArg frameB ?_
 unfold piece
 rw [List.drop_drop, show Nat.succ j * 2048 = 2048 + j * 2048 by omega]
theorem pcs_iff : ∀ (k size : Nat) (b ds : List UInt8), size ≤ 2048 * k → (pcs k size b = some ds ↔ ds.length = size ∧ b = piecesN (nP size) ds)
 | 0, size, b, ds, hk => by
   obtain rfl : size = 0 := by omega
   rw [pcs_zero]
   constructor
   ·intro h
    by_cases hb : b = []
    ·rw [if_pos hb] at h; injection h with h; subst h; exact ⟨rfl, hb⟩
    ·rw [if_neg hb] at h; cases h
   ·rintro ⟨h1, h2⟩
    have h3 : b = [] := h2
    rw [if_pos h3, List.eq_nil_of_length_eq_zero h1]
 | k + 1, size, b, ds, hk => by
   by_cases h0 : size = 0
   ·subst h0
    rw [pcs_zero]
    constructor
    ·intro h
     by_cases hb : b = []
     ·rw [if_pos hb] at h; injection h with h; subst h; exact ⟨rfl, hb⟩
     ·rw [if_neg hb] at h; cases h
    ·rintro ⟨h1, h2⟩
     have h3 : b = [] := h2
     rw [if_pos h3, List.eq_nil_of_length_eq_zero h1]
   ·constructor
    ·intro h
     by_cases hc : (unframe b).2.2 = 0 ∧ (unframe b).1.length = min size 2048
     ·obtain ⟨⟨p, n, e⟩, hu⟩ : ∃ z, z = unframe b := ⟨_, rfl⟩
      rw [← hu] at hc
      obtain ⟨rfl, hl⟩ : e = 0 ∧ p.length = min size 2048 := hc
      rw [pcs_step (by omega) hu.symm hl] at h
      cases hr : pcs k (size - p.length) (b.drop n) with
      | none => rw [hr] at h; cases h
      | some q =>
        rw [hr] at h
        have h : p ++ q = ds := Option.some.inj h
        obtain ⟨h1, h2⟩ := (pcs_iff k (size - p.length) (b.drop n) q (by omega)).1 hr
        obtain ⟨f1, f2, f3, -, -⟩ := unframe_ok hu.symm
        subst h
        have hlen : (p ++ q).length = size := by rw [List.length_append, h1]; omega
        refine ⟨hlen, ?_⟩
        rw [← hlen, pieces_cons (by omega)]
        have e1 : b = frameB p ++ b.drop n := by rw [← f1, List.take_append_drop]
        rw [e1, h2]
        by_cases hs : size ≤ 2048
        ·have hq : q = [] := List.eq_nil_of_length_eq_zero (by omega)
         subst hq
         rw [List.append_nil, List.take_of_length_le (by omega), List.drop_of_length_le (by omega)]
         rw [show size - p.length = 0 by omega]
         rfl
        ·have hp : p.length = 2048 := by omega
         rw [← hp, List.take_left, List.drop_left, h1]
     ·rw [pcs_no (by omega) hc] at h; cases h
    ·rintro ⟨h1, h2⟩
     rw [← h1, pieces_cons (by omega)] at h2
     have hu : unframe b = (ds.take 2048, 8 + (ds.take 2048).length, 0) := by rw [h2]; exact unframe_frame (by rw [List.length_take]; omega) _
     have hd : b.drop (8 + (ds.take 2048).length) = piecesN (nP (ds.drop 2048).length) (ds.drop 2048) := by
      rw [h2, ← frameB_len, List.drop_left]
     rw [pcs_step (by omega) hu (by rw [List.length_take]; omega), hd]
     have h3 := (pcs_iff k (size - (ds.take 2048).length) (piecesN (nP (ds.drop 2048).length) (ds.drop 2048)) (ds.drop 2048) (by rw [List.length_take]; omega)).2
      ⟨by rw [List.length_drop, List.length_take]; omega, by rw [show size - (ds.take 2048).length = (ds.drop 2048).length by rw [List.length_drop, List.length_take]; omega]⟩
     rw [h3]
     simp
theorem snap_data {x t : Int} {vs ls : List Int} {ds : List UInt8} : snapB x t vs ls ds = true ↔ snapB x t vs ls [] = true ∧ ds.length ≤ 32768 := by
 unfold snapB
 simp only [Bool.and_eq_true, decide_eq_true_eq, List.length_nil]
 constructor
 ·rintro ⟨a, b, c, d, e, f⟩; exact ⟨⟨a, b, c, d, e, by omega⟩, f⟩
 ·rintro ⟨⟨a, b, c, d, e, -⟩, f⟩; exact ⟨a, b, c, d, e, f⟩
def readS (b : List UInt8) : Option SnT :=
 if (unframe b).2.2 = 0 then
  match hdS (unframe b).1 with
  | none => none
  | some h => if h.r = [] ∧ snapB h.x h.t h.vs h.ls [] = true then (pcs (nP h.n) h.n (b.drop (unframe b).2.1)).map fun ds => ⟨h.x, h.t, h.vs, h.ls, ds⟩ else none
 else none
theorem headN_le {x t : Int} {vs ls : List Int} (hv : vs.length ≤ 7) (hl : ls.length ≤ 7) (n : Nat) : (headN x t vs ls n).length ≤ 4096 := by
 unfold headN
 have h1 := numsB_len ((vs.length : Int) :: vs)
 have h2 := numsB_len ((ls.length : Int) :: ls)
 have h3 := (numB_len x).2
 have h4 := (numB_len t).2
 have h5 := (numB_len (n : Int)).2
 rw [List.length_cons] at h1 h2
 simp only [List.length_append]
 omega
theorem rise_small7 {ns : List Int} (h : riseB ns = true) : small7 ns := ⟨rise_small h, fun n hn => by have := rise_mem h hn; omega⟩
theorem sn_unframe {b : List UInt8} {s : SnT} (h : isSn b s) : unframe b = (headN s.x s.t s.vs s.ls s.ds.length, 8 + (headN s.x s.t s.vs s.ls s.ds.length).length, 0) ∧ b.drop (8 + (headN s.x s.t s.vs s.ls s.ds.length).length) = piecesN (nP s.ds.length) s.ds := by
 obtain ⟨h1, h2⟩ := h
 obtain ⟨-, -, hc, -⟩ := snap_parts h1
 obtain ⟨hv, hl⟩ := rconf_rise hc
 unfold snB at h2
 refine ⟨by rw [h2]; exact unframe_frame (headN_le (rise_small hv) (rise_small hl) _) _, ?_⟩
 rw [h2, ← frameB_len, List.drop_left]; rfl
theorem readS_iff {b : List UInt8} {s : SnT} : readS b = some s ↔ isSn b s := by
 constructor
 ·intro h
  unfold readS at h
  obtain ⟨⟨hd, n, e⟩, hu⟩ : ∃ z, z = unframe b := ⟨_, rfl⟩
  rw [← hu] at h
  simp only at h
  by_cases he : e = 0
  ·subst he
   rw [if_pos rfl] at h
   cases hh : hdS hd with
   | none => rw [hh] at h; cases h
   | some g =>
     rw [hh] at h; simp only at h
     by_cases hc : g.r = [] ∧ snapB g.x g.t g.vs g.ls [] = true
     ·rw [if_pos hc] at h
      cases hp : pcs (nP g.n) g.n (b.drop n) with
      | none => rw [hp] at h; cases h
      | some ds =>
        rw [hp] at h
        have h : (⟨g.x, g.t, g.vs, g.ls, ds⟩ : SnT) = s := Option.some.inj h
        subst h
        obtain ⟨-, -, -, -, hn, hb⟩ := hd_some hh
        obtain ⟨h1, h2⟩ := (pcs_iff (nP g.n) g.n (b.drop n) ds (by unfold nP; omega)).1 hp
        obtain ⟨f1, -⟩ := unframe_ok hu.symm
        refine ⟨snap_data.2 ⟨hc.2, by show ds.length ≤ 32768; omega⟩, ?_⟩
        show b = snB g.x g.t g.vs g.ls ds
        unfold snB
        rw [hc.1, List.append_nil] at hb
        rw [h1, ← hb, ← f1]
        show b = b.take n ++ piecesN (nP g.n) ds
        rw [← h2, List.take_append_drop]
     ·rw [if_neg hc] at h; cases h
  ·rw [if_neg he] at h; cases h
 ·intro h
  obtain ⟨h1, h2⟩ := sn_unframe h
  obtain ⟨hx, ht, hc, hd⟩ := snap_parts h.1
  obtain ⟨hv, hl⟩ := rconf_rise hc
  have h3 := hd_head (x := s.x) (t := s.t) (vs := s.vs) (ls := s.ls) (n := s.ds.length) (by unfold i64ok; omega) (by unfold i64ok; omega) (rise_small7 hv) (rise_small7 hl) hd []
  rw [List.append_nil] at h3
  unfold readS
  rw [h1]
  simp only [if_true]
  rw [h3]
  simp only []
  rw [if_pos ⟨trivial, (snap_data.1 h.1).1⟩, h2, (pcs_iff (nP s.ds.length) s.ds.length _ s.ds (by unfold nP; omega)).2 ⟨rfl, rfl⟩]
  rfl
end Go.Proofs.YtfpomllhkbbipaaGreatDoor
namespace Go.Proofs.YtfpomllhkbbipaaGreatDoor
open Go Go.RowKit Go.Maps Go.Lib Mem Pk Cf
def preC (bs : List UInt8) : Option (List Int × List Int × List UInt8) :=
 match row bs with
 | none => none
 | some (vs, r1) =>
   match row r1 with
   | none => none
   | some (ls, r2) => some (vs, ls, r2)
theorem preC_some {bs r1 r2 : List UInt8} {vs ls : List Int} (h1 : row bs = some (vs, r1)) (h2 : row r1 = some (ls, r2)) : preC bs = some (vs, ls, r2) := by
 unfold preC; rw [h1]; simp only []; rw [h2]
theorem preC_no1 {bs : List UInt8} (h1 : row bs = none) : preC bs = none := by
 unfold preC; rw [h1]
theorem preC_no2 {bs r1 : List UInt8} {vs : List Int} (h1 : row bs = some (vs, r1)) (h2 : row r1 = none) : preC bs = none := by
 unfold preC; rw [h1]; simp only []; rw [h2]
def five (x t : Int) (i : Nat) (xv yv : Value) : Array Value := if i = 0 then #[.int .i64 x, .int .i64 t, xv, yv, .slice none 0 0] else #[.int .i64 x, .int .i64 t, yv, xv, .slice none 0 0]
theorem five_cell {x t : Int} {w : World} {g i : Nat} {ty : TypeId} {xv yv : Value} (hi : i < 2) (h : Blk w g ty (five x t i xv yv)) : w.cell? ⟨g, i + 2, none⟩ = some xv := by
 have := h.cell (i + 2)
 rw [this]
 unfold five
 rcases (show i = 0 ∨ i = 1 by omega) with rfl | rfl <;> rfl
theorem five_set {x t : Int} {w : World} {g i : Nat} {ty : TypeId} {xv yv : Value} (hi : i < 2) (h : Blk w g ty (five x t i xv yv)) (v : Value) : Blk (w.setCell ⟨g, i + 2, none⟩ v) g ty (five x t i v yv) := by
 have := h.set_ (i + 2) v
 unfold five at this ⊢
 rcases (show i = 0 ∨ i = 1 by omega) with rfl | rfl <;> exact this
structure SrS (x t : Int) (F : Nat → Prop) (w1 : World) (rb cb i : Nat) (xs ys : List Int) (xv yv : Value) (rest : List UInt8) (W : World) : Prop where
 rd : Rd F W rb rest
 blk : Blk W cb 43 (five x t i xv yv)
 own : Mem.Own fI w1.heap.size 3 W xv xs
 oth : Mem.Own fI w1.heap.size 3 W yv ys
 apart : Apart xv yv
 frm : Frm (fun g => g = rb ∨ g = cb) w1 W
structure SrW (F : Nat → Prop) (w1 : World) (rb cb : Nat) : Prop where
 r : rb < w1.heap.size
 c : cb < w1.heap.size
 ne : rb ≠ cb
 far : ∀ g, F g → g < w1.heap.size ∧ g ≠ rb ∧ g ≠ cb
theorem SrS.size {x t : Int} {F : Nat → Prop} {w1 W : World} {rb cb i : Nat} {xs ys : List Int} {xv yv : Value} {rest : List UInt8} (h : SrS x t F w1 rb cb i xs ys xv yv rest W) : w1.heap.size ≤ W.heap.size := h.frm.size
theorem SrS.read {x t : Int} {F : Nat → Prop} {w1 W W' : World} {rb cb i : Nat} {xs ys : List Int} {xv yv : Value} {rest rest' : List UInt8} (h : SrS x t F w1 rb cb i xs ys xv yv rest W) (hw : SrW F w1 rb cb) (hr : Rd F W' rb rest') (hf : Frm (fun g => g = rb) W W') : SrS x t F w1 rb cb i xs ys xv yv rest' W' :=
 ⟨hr, h.blk.frm hf (fun e => hw.ne e.symm), h.own.frm hf (fun g h1 h2 => by have := hw.r; omega), h.oth.frm hf (fun g h1 h2 => by have := hw.r; omega), h.apart, h.frm.trans (hf.mono fun _ _ e => .inl e)⟩
theorem SrS.mid {x t : Int} {F : Nat → Prop} {w1 W W' : World} {rb cb i : Nat} {xs ys : List Int} {xv yv : Value} {rest : List UInt8} {u : Int} (h : SrS x t F w1 rb cb i xs ys xv yv rest W) (hw : SrW F w1 rb cb) (hi : i < 2)
 (hg : (W.alloc (.cells #[fI u] 3)).grownBy W' xv.ownBlock) : W'.cell? ⟨cb, i + 2, none⟩ = some xv ∧ W'.frozen? ⟨cb, i + 2, none⟩ = false := by
 have hs := h.size
 have hb : Below w1.heap.size W W' := ((Below.refl _ _).alloc hs _).trans ((h.own.alloc _).below_ (by rw [World.size_alloc]; omega) hg)
 have hblk : Blk W' cb 43 (five x t i xv yv) := h.blk.frm (Frm.of_below hb) (by have := hw.c; omega)
 exact ⟨five_cell hi hblk, hblk.free (i + 2)⟩
theorem SrS.put {x t : Int} {F : Nat → Prop} {w1 W W' : World} {rb cb i : Nat} {xs ys : List Int} {xv yv v' : Value} {rest : List UInt8} {u : Int} (h : SrS x t F w1 rb cb i xs ys xv yv rest W) (hw : SrW F w1 rb cb) (hi : i < 2)
 (ho : Mem.Own fI w1.heap.size 3 W' v' (xs ++ [u])) (hg : (W.alloc (.cells #[fI u] 3)).grownBy W' xv.ownBlock) (hat : v'.ownBlock = xv.ownBlock ∨ v'.ownBlock = some (W.heap.size + 1)) :
 SrS x t F w1 rb cb i (xs ++ [u]) ys v' yv rest (W'.setCell ⟨cb, i + 2, none⟩ v') := by
 have hs := h.size
 have hb : Below w1.heap.size W W' := ((Below.refl _ _).alloc hs _).trans ((h.own.alloc _).below_ (by rw [World.size_alloc]; omega) hg)
 have hset : Frm (fun g => g = cb) W' (W'.setCell ⟨cb, i + 2, none⟩ v') := (Frm.refl (fun g => g = cb) W').setCell (p := ⟨cb, i + 2, none⟩) (fun _ => rfl) _
 have hblk : Blk W' cb 43 (five x t i xv yv) := h.blk.frm (Frm.of_below hb) (by have := hw.c; omega)
 refine ⟨?_, five_set hi hblk v', ho.frm hset (fun g h1 h2 => by have := hw.c; omega), ?_, h.apart.grown h.oth hat, ?_⟩
 ·exact Rd.frm (Rd.belowB h.rd hb hw.r (fun g hg => (hw.far g hg).1)) hset (fun e => hw.ne e) (fun g hg => (hw.far g hg).2.2)
 ·exact ((h.oth.alloc _).other h.apart.symm hg).frm hset (fun g h1 h2 => by have := hw.c; omega)
 ·have h1 : Frm (fun g => g = rb ∨ g = cb) w1 W' := h.frm.then_up ((Frm.of_below hb).mono fun _ _ e => .inr e)
  exact h1.trans (hset.mono fun _ _ e => .inr e)
theorem SrS.putZ {x t : Int} {F : Nat → Prop} {w1 W W' : World} {rb cb i : Nat} {xs ys zs : List Int} {xv yv v' : Value} {rest : List UInt8} {u : Int} (hz : zs = xs ++ [u]) (h : SrS x t F w1 rb cb i xs ys xv yv rest W) (hw : SrW F w1 rb cb) (hi : i < 2)
 (ho : Mem.Own fI w1.heap.size 3 W' v' (xs ++ [u])) (hg : (W.alloc (.cells #[fI u] 3)).grownBy W' xv.ownBlock) (hat : v'.ownBlock = xv.ownBlock ∨ v'.ownBlock = some (W.heap.size + 1)) :
 SrS x t F w1 rb cb i zs ys v' yv rest (W'.setCell ⟨cb, i + 2, none⟩ v') := by
 subst hz; exact h.put hw hi ho hg hat
def SrP (bs : List UInt8) (i : Nat) (vs ls : List Int) (rest : List UInt8) : Prop :=
 (i = 0 → vs = [] ∧ ls = [] ∧ rest = bs) ∧ (i = 1 → row bs = some (vs, rest) ∧ ls = []) ∧ (i = 2 → preC bs = some (vs, ls, rest))
def SrOut (x t : Int) (F : Nat → Prop) (w1 : World) (rb cb : Nat) (bs : List UInt8) (iv : Value) (W : World) : Prop :=
 ∃ (i : Nat) (vs ls : List Int) (va la : Value) (rest : List UInt8), i ≤ 2 ∧ iv = .int .i64 (i : Int) ∧ SrS x t F w1 rb cb 0 vs ls va la rest W ∧ SrP bs i vs ls rest
def SrIn (x t : Int) (F : Nat → Prop) (w1 : World) (rb cb i n : Nat) (ys : List Int) (yv : Value) (r : List UInt8) (kv : Value) (W : World) : Prop :=
 ∃ (k : Nat) (xs : List Int) (xv : Value) (rest : List UInt8), k ≤ n ∧ xs.length = k ∧ kv = .int .i64 (k : Int) ∧ SrS x t F w1 rb cb i xs ys xv yv rest W ∧ cnts n r = (cnts (n - k) rest).map fun p => (xs ++ p.1, p.2)
theorem SrS.swap {x t : Int} {F : Nat → Prop} {w1 W : World} {rb cb : Nat} {xs ys : List Int} {xv yv : Value} {rest : List UInt8} (h : SrS x t F w1 rb cb 0 xs ys xv yv rest W) : SrS x t F w1 rb cb 1 ys xs yv xv rest W :=
 ⟨h.rd, h.blk, h.oth, h.own, h.apart.symm, h.frm⟩
theorem SrS.swap' {x t : Int} {F : Nat → Prop} {w1 W : World} {rb cb : Nat} {xs ys : List Int} {xv yv : Value} {rest : List UInt8} (h : SrS x t F w1 rb cb 1 xs ys xv yv rest W) : SrS x t F w1 rb cb 0 ys xs yv xv rest W :=
 ⟨h.rd, h.blk, h.oth, h.own, h.apart.symm, h.frm⟩
theorem srOut_round {x t : Int} {F : Nat → Prop} {w1 W : World} {rb cb i : Nat} {bs rest : List UInt8} {vs ls : List Int} {va la : Value} (hi : i < 2) (h : SrS x t F w1 rb cb 0 vs ls va la rest W) (hp : SrP bs i vs ls rest) :
 ∃ xv ys yv, SrS x t F w1 rb cb i [] ys xv yv rest W ∧ (row rest = none → preC bs = none) ∧ ∀ xs r1 xv' W', row rest = some (xs, r1) → SrS x t F w1 rb cb i xs ys xv' yv r1 W' → SrOut x t F w1 rb cb bs (.int .i64 ((i + 1 : Nat) : Int)) W' := by
 obtain ⟨h0, h1, -⟩ := hp
 rcases (show i = 0 ∨ i = 1 by omega) with rfl | rfl
 ·obtain ⟨rfl, rfl, rfl⟩ := h0 rfl
  exact ⟨va, [], la, h, preC_no1, fun xs r1 xv' W' hr hs => ⟨1, xs, [], xv', la, r1, by omega, rfl, hs, fun e => by omega, fun _ => ⟨hr, rfl⟩, fun e => by omega⟩⟩
 ·obtain ⟨hr1, rfl⟩ := h1 rfl
  exact ⟨la, vs, va, h.swap, preC_no2 hr1, fun xs r1 xv' W' hr hs => ⟨2, vs, xs, va, xv', r1, by omega, rfl, hs.swap', fun e => by omega, fun e => by omega, fun _ => preC_some hr1 hr⟩⟩
def CsYes (x t : Int) (F : Nat → Prop) (w1 : World) (rb cb i : Nat) (xs ys : List Int) (xv yv : Value) (r : List UInt8) (a : Int) (e : Ending) (W : World) : Prop :=
 e = .returned (.int .i64 a) ∧ SrS x t F w1 rb cb i xs ys xv yv r W ∧ W.cell? ⟨cb, i + 2, none⟩ = some xv ∧ ∀ o, (W.alloc o).cell? ⟨cb, i + 2, none⟩ = some xv
def CsNo (w1 : World) (rb cb : Nat) (e : Ending) (W : World) : Prop :=
 e = .panicked [{ v := wrongV 30, recovered := false }] ∧ Frm (fun g => g = rb ∨ g = cb) w1 W
theorem cs_yes {x t : Int} {F : Nat → Prop} {w1 W : World} {rb cb i : Nat} {xs ys : List Int} {xv yv : Value} {rest r : List UInt8} {a : Int} (h : SrS x t F w1 rb cb i xs ys xv yv rest W) (hw : SrW F w1 rb cb) (hi : i < 2) (hc : cnt rest = some (a, r)) :
 Calls Tryz.prog 90 #[.pointer (some ⟨rb, 0, none⟩), .int .i64 7] W (CsYes x t F w1 rb cb i xs ys xv yv r a) := by
 obtain ⟨k, hk, rfl⟩ := cnt_yes hc
 refine (Count_yes h.rd hk).mono fun e W' hh => ?_
 obtain ⟨he, hr, hf⟩ := hh
 have hs := h.read hw hr hf
 exact ⟨he, hs, five_cell hi hs.blk, fun o => five_cell hi (hs.blk.alloc o)⟩
theorem cs_no {x t : Int} {F : Nat → Prop} {w1 W : World} {rb cb i : Nat} {xs ys : List Int} {xv yv : Value} {rest : List UInt8} (h : SrS x t F w1 rb cb i xs ys xv yv rest W) (hc : cnt rest = none) :
 Calls Tryz.prog 90 #[.pointer (some ⟨rb, 0, none⟩), .int .i64 7] W (CsNo w1 rb cb) :=
 (Count_none h.rd (cnt_no hc)).mono fun _ _ hh => ⟨hh.1, h.frm.trans (hh.2.mono fun _ _ e => .inl e)⟩
theorem SrS.below {x t : Int} {F : Nat → Prop} {w1 W W' : World} {rb cb i : Nat} {xs ys : List Int} {xv yv : Value} {rest : List UInt8} (h : SrS x t F w1 rb cb i xs ys xv yv rest W) (hb : Below W.heap.size W W') : SrS x t F w1 rb cb i xs ys xv yv rest W' :=
 ⟨Rd.frm h.rd (Frm.below hb) (fun e => e) (fun _ _ e => e), Blk.frm (F := fun _ => False) h.blk (Frm.below hb) (fun e => e), h.own.frm (Frm.below hb) (fun _ _ e => e), h.oth.frm (Frm.below hb) (fun _ _ e => e), h.apart, h.frm.trans ((Frm.below hb).mono (fun _ _ e => False.elim e))⟩
theorem Own.lowerI {base base' : Nat} {w : World} {v : Value} {xs : List Int} (h : Mem.Own fI base 3 w v xs) (hb : base' ≤ base) : Mem.Own fI base' 3 w v xs := by
 obtain ⟨h1, h2⟩ := h
 refine ⟨h1, ?_⟩
 rcases h2 with h2 | ⟨g, cap, cur, a, b, c⟩
 ·exact .inl h2
 ·exact .inr ⟨g, cap, cur, a, Nat.le_trans hb b, c⟩
def R1Yes (F : Nat → Prop) (w0 : World) (rb sb zb : Nat) (h : HdT) (e : Ending) (W : World) : Prop :=
 e = .returned (.tuple #[]) ∧ Rd F W rb h.r ∧ Frm (fun g => g = rb ∨ g = sb ∨ g = zb) w0 W ∧ Blk W zb 3 #[.int .i64 (h.n : Int)] ∧ ∃ va la, Blk W sb 43 #[.int .i64 h.x, .int .i64 h.t, va, la, .slice none 0 0] ∧ Mem.Own fI w0.heap.size 3 W va h.vs ∧ Mem.Own fI w0.heap.size 3 W la h.ls
def R1No (w0 : World) (rb sb zb : Nat) (e : Ending) (W : World) : Prop :=
 e = .panicked [{ v := wrongV 30, recovered := false }] ∧ Frm (fun g => g = rb ∨ g = sb ∨ g = zb) w0 W
def R1Post (F : Nat → Prop) (w0 : World) (rb sb zb : Nat) (bs : List UInt8) (e : Ending) (W : World) : Prop :=
 (∀ h, hdS bs = some h → R1Yes F w0 rb sb zb h e W) ∧ (hdS bs = none → R1No w0 rb sb zb e W)
theorem R1Post.no {F : Nat → Prop} {w0 W : World} {rb sb zb : Nat} {bs : List UInt8} (h : hdS bs = none) (hf : Frm (fun g => g = rb ∨ g = sb ∨ g = zb) w0 W) : R1Post F w0 rb sb zb bs (.panicked [{ v := wrongV 30, recovered := false }]) W :=
 ⟨(fun g hp => by rw [h] at hp; cases hp), fun _ => ⟨rfl, hf⟩⟩
theorem R1Post.yes {F : Nat → Prop} {w0 W : World} {rb sb zb : Nat} {bs : List UInt8} {e : Ending} {g : HdT} (h : hdS bs = some g) (hy : R1Yes F w0 rb sb zb g e W) : R1Post F w0 rb sb zb bs e W :=
 ⟨(fun g' hp => by rw [h] at hp; injection hp with hp; subst hp; exact hy), fun hn => by rw [h] at hn; cases hn⟩
theorem hd_no1 {bs : List UInt8} (h : getNum bs = none) : hdS bs = none := by unfold hdS; rw [h]
theorem hd_no2 {bs : List UInt8} {x : Int} {k : Nat} (h : getNum bs = some (x, k)) (h2 : getNum (bs.drop k) = none) : hdS bs = none := by unfold hdS; rw [h]; simp only []; rw [h2]
theorem hd_no3 {bs : List UInt8} {x t : Int} {k k2 : Nat} (h : getNum bs = some (x, k)) (h2 : getNum (bs.drop k) = some (t, k2)) (h3 : preC ((bs.drop k).drop k2) = none) : hdS bs = none := by
 unfold preC at h3
 unfold hdS; rw [h]; simp only []; rw [h2]; simp only []
 cases h4 : row ((bs.drop k).drop k2) with
 | none => rfl
 | some p =>
   obtain ⟨vs, r1⟩ := p
   rw [h4] at h3
   simp only at h3 ⊢
   cases h5 : row r1 with
   | none => rfl
   | some q => obtain ⟨ls, r2⟩ := q; rw [h5] at h3; cases h3
theorem hd_pre {bs r2 : List UInt8} {x t : Int} {k k2 : Nat} {vs ls : List Int} (h : getNum bs = some (x, k)) (h2 : getNum (bs.drop k) = some (t, k2)) (h3 : preC ((bs.drop k).drop k2) = some (vs, ls, r2)) :
 hdS bs = match getCount 32768 r2 with | none => none | some (n, k3) => some ⟨x, t, vs, ls, n.toNat, r2.drop k3⟩ := by
 unfold preC at h3
 unfold hdS; rw [h]; simp only []; rw [h2]; simp only []
 cases h4 : row ((bs.drop k).drop k2) with
 | none => rw [h4] at h3; cases h3
 | some p =>
   obtain ⟨v, r1⟩ := p
   rw [h4] at h3
   simp only at h3 ⊢
   cases h5 : row r1 with
   | none => rw [h5] at h3; cases h3
   | some q =>
     obtain ⟨l, r⟩ := q
     rw [h5] at h3
     injection h3 with h3; injection h3 with e1 h3; injection h3 with e2 e3
     subst e1; subst e2; subst e3
     rfl
set_option maxRecDepth 100000 in
set_option maxHeartbeats 4000000 in
theorem SRead1_any {F : Nat → Prop} {w0 : World} {rb sb zb : Nat} {bs : List UInt8} (h : Rd F w0 rb bs) (hc : Blk w0 sb 43 #[.int .i64 0, .int .i64 0, .slice none 0 0, .slice none 0 0, .slice none 0 0]) (hz : Blk w0 zb 3 #[.int .i64 0])
 (hr : rb < w0.heap.size) (hne : rb ≠ sb) (hne2 : zb ≠ rb) (hne3 : zb ≠ sb)
 (hfar : ∀ g, F g → g < w0.heap.size ∧ g ≠ rb ∧ g ≠ sb ∧ g ≠ zb) :
 Calls Tryz.prog 88 #[.pointer (some ⟨rb, 0, none⟩), .pointer (some ⟨sb, 0, none⟩), .pointer (some ⟨zb, 0, none⟩)] w0 (R1Post F w0 rb sb zb bs) := by
 have hcl := hc.lt
 have hzl := hz.lt
 have HFAR := Lib.hid hfar; clear hfar
 have HC := Lib.hid hc; clear hc
 have HZ := Lib.hid hz; clear hz
 have H := Lib.hid h; clear h
 cases hx : getNum bs with
 | none =>
   have HN := Lib.hid (Num_none H.out hx)
   have HH := Lib.hid (hd_no1 hx); clear hx
   go_enter Tryz.func88, Tryz.ntmps88
   go_wp2_with fail
   (with_reducible refine HN.out.mono ?_); rintro e w2 ⟨rfl, hf2⟩
   go_wp2_with fail
   exact ⟨rfl, R1Post.no HH.out (hf2.mono fun _ _ e => .inl e)⟩
 | some p =>
 obtain ⟨x, k⟩ := p
 have HN := Lib.hid (Num_yes H.out hx)
 have HX := Lib.hid hx; clear hx
 cases ht : getNum (bs.drop k) with
 | none =>
   have HH := Lib.hid (hd_no2 HX.out ht)
   go_enter Tryz.func88, Tryz.ntmps88
   go_wp2_with fail
   (with_reducible refine HN.out.mono ?_); rintro e w2 ⟨rfl, hr2, hf2⟩
   have HN2 := Lib.hid (Num_none hr2 ht)
   have HF2 := Lib.hid hf2
   clear hr2 hf2 ht
   go_wp2_with fail
   (with_reducible refine HN2.out.mono ?_); rintro e w3 ⟨rfl, hf3⟩
   go_wp2_with fail
   exact ⟨rfl, R1Post.no HH.out ((HF2.out.trans hf3).mono fun _ _ e => .inl e)⟩
 | some p =>
 obtain ⟨t, k2⟩ := p
 have HT := Lib.hid ht; clear ht
 go_enter Tryz.func88, Tryz.ntmps88
 go_wp2_with fail
 (with_reducible refine HN.out.mono ?_); rintro e w2 ⟨rfl, hr2, hf2⟩
 have HN2 := Lib.hid (Num_yes hr2 HT.out)
 have HF2 := Lib.hid hf2
 clear hr2 hf2
 go_wp2_with fail
 (with_reducible refine HN2.out.mono ?_); rintro e w3 ⟨rfl, hr3, hf3⟩
 have HR3 := Lib.hid hr3
 have HF3 : Hid (Frm (fun g => g = rb) w0 w3) := Lib.hid (HF2.out.trans hf3)
 clear hr3 hf3
 have HB3 := Lib.hid (HC.out.frm HF3.out (fun e => hne e.symm))
 have q0 : w3.cell? ⟨sb, 0, none⟩ = some (.int .i64 0) := HB3.out.cell 0
 have q1 : w3.cell? ⟨sb, 1, none⟩ = some (.int .i64 0) := HB3.out.cell 1
 have f0 := HB3.out.free 0
 have f1 := HB3.out.free 1
 go_upto_region 1 with fail
 obtain ⟨w4, hw4⟩ : ∃ z, z = (w3.setCell ⟨sb, 0, none⟩ (.int .i64 x)).setCell ⟨sb, 1, none⟩ (.int .i64 t) := ⟨_, rfl⟩
 rw [← hw4]
 have hb4 : Blk w4 sb 43 (five x t 0 (.slice none 0 0) (.slice none 0 0)) := by rw [hw4]; exact (HB3.out.set_ 0 _).set_ 1 _
 have hs4 : Frm (fun g => g = sb) w3 w4 := by rw [hw4]; exact ((Frm.refl (fun g => g = sb) w3).setCell (p := ⟨sb, 0, none⟩) (fun _ => rfl) _).setCell (p := ⟨sb, 1, none⟩) (fun _ => rfl) _
 have hr4 : Rd F w4 rb ((bs.drop k).drop k2) := Rd.frm HR3.out hs4 hne (fun g hg => (HFAR.out g hg).2.2.1)
 have hf4 : Frm (fun g => g = rb ∨ g = sb ∨ g = zb) w0 w4 := (HF3.out.mono fun _ _ e => .inl e).trans (hs4.mono fun _ _ e => .inr (.inl e))
 have hz4 : Blk w4 zb 3 #[.int .i64 0] := (HZ.out.frm HF3.out hne2).frm hs4 hne3
 clear hw4 hs4 q0 q1 f0 f1 HB3 HR3 HN2 HN
 have h04 := hf4.size
 obtain ⟨w1, hw1⟩ : ∃ z, z = w4.alloc (.cells #[.pointer (some ⟨sb, 2, none⟩), .pointer (some ⟨sb, 3, none⟩)] 158) := ⟨_, rfl⟩
 have hb1 : Below w4.heap.size w4 w1 := by rw [hw1]; exact (Below.refl _ _).alloc (Nat.le_refl _) _
 have hp1 : Blk w1 w4.heap.size 158 #[.pointer (some ⟨sb, 2, none⟩), .pointer (some ⟨sb, 3, none⟩)] := by rw [hw1]; exact Blk.new_ w4 _ _
 have hz1 : w1.heap.size = w4.heap.size + 1 := by rw [hw1]; exact World.size_alloc ..
 have HW : SrW F w1 rb sb := ⟨by omega, by omega, hne, fun g hg => ⟨by have := (HFAR.out g hg).1; omega, (HFAR.out g hg).2.1, (HFAR.out g hg).2.2.1⟩⟩
 have HST : Hid (SrS x t F w1 rb sb 0 [] [] (.slice none 0 0) (.slice none 0 0) ((bs.drop k).drop k2) w1) := Lib.hid ⟨Rd.belowB hr4 hb1 (by omega) (fun g hg => by have := (HFAR.out g hg).1; omega), hb4.below hb1 (by omega), Own.nil, Own.nil, (fun g hg => by simp [Value.ownBlock] at hg), Frm.refl _ _⟩
 have HFR : Hid (∀ W, Frm (fun g => g = rb ∨ g = sb) w1 W → Frm (fun g => g = rb ∨ g = sb ∨ g = zb) w0 W) := Lib.hid fun W hf => hf4.trans (((Frm.below hb1).mono (fun _ _ e => False.elim e)).trans (hf.mono fun _ _ e => e.elim .inl (fun e => .inr (.inl e))))
 have HZ1 : Hid (Blk w1 zb 3 #[.int .i64 0]) := Lib.hid (hz4.below hb1 (by omega))
 have HP1 := Lib.hid hp1; clear hp1
 have HSZ : Hid (w0.heap.size ≤ w1.heap.size) := Lib.hid (by omega)
 have HSZ4 : Hid (rb < w4.heap.size ∧ sb < w4.heap.size) := Lib.hid ⟨by omega, by omega⟩
 clear hb1 hz1 hf4 hz4 h04 hr4 hb4
 have HW1 := Lib.hid hw1; clear hw1
 go_wp2_with fail
 rw [← HW1.out]
 clear HW1
 obtain ⟨bs2, hbs2⟩ : ∃ z, z = (bs.drop k).drop k2 := ⟨_, rfl⟩
 rw [← hbs2] at HST
 have HBS2 := Lib.hid hbs2; clear hbs2
 go_loopw [18] (fun iv wr => SrOut x t F w1 rb sb bs2 iv wr) (fun iv _ => 2 - (intOf iv).toNat)
 case atStart => exact ⟨0, [], [], _, _, bs2, by omega, rfl, HST.out, fun _ => ⟨rfl, rfl, rfl⟩, fun e => by omega, fun e => by omega⟩
 case round =>
  obtain ⟨i, vs, ls, va, la, rest, hi, rfl, hst, hlp⟩ := hrel
  clear HST
  by_cases hlt : i < 2
  ·obtain ⟨xv, ys, yv, hs, hno, hyes⟩ := srOut_round hlt hst hlp
   have HNO := Lib.hid hno; clear hno
   have HYES := Lib.hid hyes; clear hyes
   have HS := Lib.hid hs; clear hs hst hlp
   obtain ⟨wo, rfl⟩ : ∃ wo, wo = wr := ⟨_, rfl⟩
   have t1 : (i : Int) < 2 := by omega
   have t0 : (0 : Int) ≤ (i : Int) := by omega
   have p0 : wo.cell? ⟨w4.heap.size, i, none⟩ = some (.pointer (some ⟨sb, i + 2, none⟩)) := by
    have h1 := (HP1.out.frm HS.out.frm (fun e => by have := HSZ4.out; rcases e with e | e <;> omega)).cell i
    rw [h1]
    rcases (show i = 0 ∨ i = 1 by omega) with rfl | rfl <;> rfl
   cases hcn : cnt rest with
   | none =>
     have HCT := Lib.hid (cs_no HS.out hcn)
     have HN : Hid (hdS bs = none) := Lib.hid (hd_no3 HX.out HT.out (by rw [← HBS2.out]; exact HNO.out (row_no hcn)))
     go_wp2_with fail
     (with_reducible refine HCT.out.mono ?_); rintro e w2 ⟨rfl, hf2⟩
     go_wp2_with fail
     exact ⟨rfl, R1Post.no HN.out (HFR.out _ hf2)⟩
   | some p =>
     obtain ⟨a, r⟩ := p
     obtain ⟨ha, hbs⟩ := cnt_some.1 hcn
     obtain ⟨n, rfl⟩ : ∃ n : Nat, a = (n : Int) := ⟨a.toNat, by omega⟩
     have hn7 : n ≤ 7 := by omega
     have HCT := Lib.hid (cs_yes HS.out HW hlt hcn)
     have HROW := Lib.hid (row_is hcn)
     clear hcn hbs ha
     go_wp2_with fail
     (with_reducible refine HCT.out.mono ?_); rintro e w2 ⟨rfl, hs2, hc2, -⟩
     have HS2 := Lib.hid hs2; clear hs2 hc2 p0
     go_wp2_with fail
     go_loopw [24] (fun kv wr => SrIn x t F w1 rb sb i n ys yv r kv wr) (fun kv _ => n - (intOf kv).toNat)
     case atStart => exact ⟨0, [], xv, r, Nat.zero_le _, rfl, rfl, HS2.out, by rw [Nat.sub_zero]; simp⟩
     case round =>
      obtain ⟨k', xs, xw, r2, hk, hxl, rfl, hst, hcs⟩ := hrel
      have HS3 := Lib.hid hst; clear hst
      have HCS := Lib.hid hcs; clear hcs
      by_cases hkn : k' < n
      ·have t5 : (k' : Int) < (n : Int) := by omega
       obtain ⟨m, hm⟩ : ∃ m, n - k' = m + 1 := ⟨n - k' - 1, by omega⟩
       obtain ⟨wi, rfl⟩ : ∃ wi, wi = wr := ⟨_, rfl⟩
       have hq0 : wi.cell? ⟨sb, i + 2, none⟩ = some xw := five_cell hlt HS3.out.blk
       cases hcn : cnt r2 with
       | none =>
         have hN : preC bs2 = none := HNO.out (by rw [HROW.out, HCS.out, hm, cnts_no hcn]; rfl)
         have HN : Hid (hdS bs = none) := Lib.hid (hd_no3 HX.out HT.out (by rw [← HBS2.out]; exact hN)); clear hN
         have HCT2 : Hid (∀ W, Below wi.heap.size wi W → Calls Tryz.prog 90 #[.pointer (some ⟨rb, 0, none⟩), .int .i64 7] W (CsNo w1 rb sb)) := Lib.hid fun W hb => cs_no (HS3.out.below hb) hcn
         clear hcn hm
         have hdr := below_drew0 wi
         go_wp2_with fail
         go_region_dies
         all_goals ((refine (HCT2.out _ ?_).mono ?_); (assumption); (rintro e w3 ⟨rfl, hf3⟩); exact ⟨rfl, R1Post.no HN.out (HFR.out _ hf3)⟩)
       | some p =>
         obtain ⟨y, r3⟩ := p
         have hcs2 : cnts n r = (cnts m r3).map fun p => ((xs ++ [y]) ++ p.1, p.2) := by
          rw [HCS.out, hm, cnts_step hcn, Option.map_map]
          congr 1; funext p; simp
         obtain ⟨zs, hzs⟩ : ∃ zs, zs = xs ++ [y] := ⟨_, rfl⟩
         rw [← hzs] at hcs2
         have hzl : zs.length = k' + 1 := by rw [hzs, List.length_append, List.length_singleton, hxl]
         have HZL := Lib.hid hzl; clear hzl
         have HZS := Lib.hid hzs; clear hzs
         have HCS2 := Lib.hid hcs2; clear hcs2
         have HCT2 : Hid (∀ W, Below wi.heap.size wi W → Calls Tryz.prog 90 #[.pointer (some ⟨rb, 0, none⟩), .int .i64 7] W (CsYes x t F w1 rb sb i xs ys xw yv r3 y)) := Lib.hid fun W hb => cs_yes (HS3.out.below hb) HW hlt hcn
         have HM : Hid (n - (k' + 1) = m) := Lib.hid (show n - (k' + 1) = m by omega)
         clear hcn hm
         have hdr := below_drew0 wi
         have hx7 : xs.length + 1 ≤ 8 := by omega
         have H63 : Hid (xs.length + 1 ≤ maxLen) := by show _ ≤ _; unfold maxLen; omega
         have HBY : Hid ((xs.length + 1) * 8 ≤ 140737488355328) := by show _ ≤ _; omega
         clear hx7
         go_wp2_with fail
         go_region_law (first
          | (go_simp; go_at_call 90; (with_reducible refine (HCT2.out _ ?_).mono ?_); (assumption); rintro e w3 ⟨rfl, hs3, hc3, hc4⟩; dsimp only)
          | (refine step_append1at (f := fI) (w0 := w3) (v := xw) (xs := xs) (g := w3.heap.size) (c := 1) (base := w1.heap.size) (e := 3) ?_ (.tmp 29) (.tmp 32) 33 ?_ intTI y (fI_oneI _) ?_ hs3.own ?_ ?_ H63.out HBY.out hs3.size ?_; rfl; rfl; rfl; rfl; rfl; intro v7 w7 ho7 hg7 hat7; have ho8 : Mem.Own fI w1.heap.size 3 w7 v7 zs := (by rw [HZS.out]; exact ho7); obtain ⟨A7, e7, rfl⟩ := ho8.form; have hs7 : SrS x t F w1 rb sb i zs ys (.slice A7 zs.length e7) yv r3 (w7.setCell ⟨sb, i + 2, none⟩ (.slice A7 zs.length e7)) := (by exact SrS.putZ HZS.out (u := y) hs3 HW hlt ho7 hg7 hat7); have c7 : w7.cell? ⟨sb, i + 2, none⟩ = some xw := (by exact (SrS.mid (u := y) hs3 HW hlt hg7).1); have q7 : w7.frozen? ⟨sb, i + 2, none⟩ = false := (by exact (SrS.mid (u := y) hs3 HW hlt hg7).2)))
         all_goals (go_wp2_with fail; go_roundw; (case rel => exact ⟨k' + 1, zs, _, r3, by omega, HZL.out, by go_num, hs7, by rw [HM.out]; exact HCS2.out⟩); (case measure => simp [intOf]; omega))
      ·have hke : k' = n := by omega
       subst hke
       have hfin := HYES.out xs r2 xw wr (by rw [HROW.out, HCS.out, Nat.sub_self]; simp [cnts]) HS3.out
       have HFIN := Lib.hid hfin; clear hfin
       have t5 : ¬ (k' : Int) < (k' : Int) := by omega
       go_wp2_with fail
       go_roundw
       case rel => exact HFIN.out
       case measure => simp [intOf]; omega
  ·have hi2 : i = 2 := by omega
   subst hi2
   have HS := Lib.hid hst; clear hst
   have hpr := hlp.2.2 rfl; clear hlp
   rw [HBS2.out] at hpr
   have hhd := hd_pre HX.out HT.out hpr
   clear hpr
   have HZ2 : Hid (Blk wr zb 3 #[.int .i64 0]) := Lib.hid (HZ1.out.frm HS.out.frm (fun e => e.elim hne2 hne3))
   cases hcn : getCount 32768 rest with
   | none =>
     rw [hcn] at hhd
     have HHD := Lib.hid hhd; clear hhd
     have HCN := Lib.hid (Count_none HS.out.rd hcn); clear hcn
     go_wp2_with fail
     (with_reducible refine HCN.out.mono ?_); rintro e w5 ⟨rfl, hf5⟩
     go_wp2_with fail
     exact ⟨rfl, R1Post.no HHD.out (HFR.out _ (HS.out.frm.trans (hf5.mono fun _ _ e => .inl e)))⟩
   | some p =>
     obtain ⟨n, k3⟩ := p
     rw [hcn] at hhd
     have HHD := Lib.hid hhd; clear hhd
     obtain ⟨g1, g2, g3⟩ := getCount_some hcn
     obtain ⟨m, rfl⟩ : ∃ m : Nat, n = (m : Int) := ⟨n.toNat, by omega⟩
     have HCN := Lib.hid (Count_yes HS.out.rd hcn); clear hcn g1
     go_wp2_with fail
     (with_reducible refine HCN.out.mono ?_); rintro e w5 ⟨rfl, hr5, hf5⟩
     have HR5 := Lib.hid hr5
     have HF5 := Lib.hid hf5
     have HZ5 : Hid (Blk w5 zb 3 #[.int .i64 0]) := Lib.hid (HZ2.out.frm hf5 hne2)
     have HB5 := Lib.hid (HS.out.blk.frm hf5 (fun e => hne e.symm))
     clear hr5 hf5
     have z0 : w5.cell? ⟨zb, 0, none⟩ = some (.int .i64 0) := HZ5.out.cell 0
     have z1 := HZ5.out.free 0
     go_wp2_with fail
     refine bodyPost_ret (v := .tuple #[]) (by simp [results, Tryz.results88, go_sem]) rfl ?_
     have hset : Frm (fun g => g = zb) w5 (w5.setCell ⟨zb, 0, none⟩ (.int .i64 (m : Int))) := (Frm.refl (fun g => g = zb) w5).setCell (p := ⟨zb, 0, none⟩) (fun _ => rfl) _
     have hrb : ¬ (sb = rb ∨ sb = zb) := by rintro (e | e); exact hne e.symm; exact hne3 e.symm
     have hL : ∀ {v : Value} {xs : List Int}, Mem.Own fI w1.heap.size 3 wr v xs → Mem.Own fI w0.heap.size 3 (w5.setCell ⟨zb, 0, none⟩ (.int .i64 (m : Int))) v xs := fun ho =>
      Own.lowerI (Mem.Own.frm (Mem.Own.frm ho HF5.out (fun g h1 h2 => by have := HW.r; omega)) hset (fun g h1 h2 => by have := HSZ.out; omega)) HSZ.out
     refine R1Post.yes HHD.out ⟨rfl, Rd.frm HR5.out hset (fun e => hne2 e.symm) (fun g hg => (HFAR.out g hg).2.2.2), ?_, HZ5.out.set_ 0 _, va, la, HB5.out.frm hset (fun e => hne3 e.symm), hL HS.out.own, hL HS.out.oth⟩
     exact ((HFR.out _ (HS.out.frm.trans (HF5.out.mono fun _ _ e => .inl e))).trans (hset.mono fun _ _ e => .inr (.inr e)))
end Go.Proofs.YtfpomllhkbbipaaGreatDoor
namespace Go.Proofs.YtfpomllhkbbipaaGreatDoor
open Go Go.RowKit Go.Maps Go.Lib Mem Pk Cf
def hdW (bs : List UInt8) : Option HdT := (hdS bs).filter fun h => decide (h.r = [])
theorem hdW_some {bs : List UInt8} {h : HdT} : hdW bs = some h ↔ hdS bs = some h ∧ h.r = [] := by
 unfold hdW; rw [Option.filter_eq_some_iff]; simp
theorem hdW_none {bs : List UInt8} (h : hdW bs = none) : ∀ g, hdS bs = some g → g.r ≠ [] := fun g hg e => by
 rw [hdW_some.2 ⟨hg, e⟩] at h; cases h
def SrrPost (bs : List UInt8) (w1 : World) (sb zb : Nat) (e : Ending) (w' : World) : Prop :=
 ∃ code : Int, e = .returned (.int .i64 code) ∧ Frm (fun g => g = sb ∨ g = zb) w1 w' ∧ (hdW bs = none → code = 30) ∧
   ∀ h, hdW bs = some h → code = 0 ∧ Blk w' zb 3 #[.int .i64 (h.n : Int)] ∧ ∃ va la, Blk w' sb 43 #[.int .i64 h.x, .int .i64 h.t, va, la, .slice none 0 0] ∧ Mem.Own fI w1.heap.size 3 w' va h.vs ∧ Mem.Own fI w1.heap.size 3 w' la h.ls
theorem sread_read {F : Nat → Prop} {w1 : World} {A : Option Addr} {c sb zb : Nat} {bs : List UInt8} (hs : SlF F w1 A bs) (hc : bs.length ≤ c) (hm : c ≤ maxLen)
 (hsb : Blk w1 sb 43 #[.int .i64 0, .int .i64 0, .slice none 0 0, .slice none 0 0, .slice none 0 0]) (hzb : Blk w1 zb 3 #[.int .i64 0]) (hne : zb ≠ sb) (hF : ∀ g, F g → g ≠ sb ∧ g ≠ zb) :
 Calls Tryz.prog 87 #[.slice A bs.length c, .func (.func 88) #[] #[.pointer (some ⟨sb, 0, none⟩), .pointer (some ⟨zb, 0, none⟩)]] w1 (SrrPost bs w1 sb zb) := by
 have hs2 : SlF (fun g => F g ∧ g < w1.heap.size) w1 A bs := hs.mono fun g h1 h2 => ⟨h2, h1⟩
 have hlt := hsb.lt
 have hlt2 := hzb.lt
 have h1 := SRead1_any (rb := w1.heap.size + 1) (sb := sb) (zb := zb) (rdW_rd hs2 (by omega) hc hm) (hsb.below (rdW_below ..) hlt) (hzb.below (rdW_below ..) hlt2) (by rw [rdW_size]; omega) (by omega) (by omega) hne
  (fun g hg => ⟨by rw [rdW_size]; omega, by omega, hF g hg.1⟩)
 have hcode := rdW_code w1 A bs.length c
 have hfr : ∀ {W w' : World}, Frm (fun g => g = w1.heap.size + 1 ∨ g = sb ∨ g = zb) (rdW w1 A bs.length c) W → Frm (fun g => g = w1.heap.size) W w' → Frm (fun g => g = sb ∨ g = zb) w1 w' := by
  intro W w' ha hb
  have e1 : Frm (fun g => g = sb ∨ g = zb) w1 (rdW w1 A bs.length c) := (Frm.below (rdW_below ..)).mono fun _ _ e => False.elim e
  have e2 := e1.then_up (ha.mono fun g _ e => by rcases e with e | e | e <;> omega)
  exact e2.then_up (hb.mono fun g _ e => .inr (by omega))
 cases hd : hdS bs with
 | some h =>
   refine (Read_yes (rest := h.r) hs2 hc hm 88 #[.pointer (some ⟨sb, 0, none⟩), .pointer (some ⟨zb, 0, none⟩)]
    (fun W => Frm (fun g => g = w1.heap.size + 1 ∨ g = sb ∨ g = zb) (rdW w1 A bs.length c) W ∧ Blk W zb 3 #[.int .i64 (h.n : Int)] ∧ ∃ va la, Blk W sb 43 #[.int .i64 h.x, .int .i64 h.t, va, la, .slice none 0 0] ∧ Mem.Own fI (rdW w1 A bs.length c).heap.size 3 W va h.vs ∧ Mem.Own fI (rdW w1 A bs.length c).heap.size 3 W la h.ls)
    (enters_of Tryz.func88 (by kernel_rfl) rfl) (h1.mono fun e W hh => ?_) (if h.r = [] then 0 else 30) rfl).mono fun e w' hh => ?_
   ·obtain ⟨he, hrd, hf, hrest⟩ := hh.1 h hd
    exact ⟨he, hrd, hcode.frm hf (by rintro (e | e | e) <;> omega), hf, hrest⟩
   ·obtain ⟨he, W, ⟨hf, hzk, va, la, hb, hv, hll⟩, hf2, hsz⟩ := hh
    refine ⟨_, he, hfr hf hf2, fun hn => ?_, fun h' hs' => ?_⟩
    ·rw [if_neg (hdW_none hn h hd)]
    ·obtain ⟨h2, h3⟩ := hdW_some.1 hs'
     rw [hd] at h2
     have h2 := Option.some.inj h2
     subst h2
     refine ⟨by rw [if_pos h3], hzk.frm hf2 (by omega), va, la, hb.frm hf2 (by omega), ?_, ?_⟩
     ·exact Own.lowerI (hv.frm hf2 (fun g hg e => by rw [rdW_size] at hg; omega)) (by rw [rdW_size]; omega)
     ·exact Own.lowerI (hll.frm hf2 (fun g hg e => by rw [rdW_size] at hg; omega)) (by rw [rdW_size]; omega)
 | none =>
   have hn : hdW bs = none := by unfold hdW; rw [hd]; rfl
   refine (Read_no (_F := F) hc hm 88 #[.pointer (some ⟨sb, 0, none⟩), .pointer (some ⟨zb, 0, none⟩)]
    (fun W => Frm (fun g => g = w1.heap.size + 1 ∨ g = sb ∨ g = zb) (rdW w1 A bs.length c) W)
    (enters_of Tryz.func88 (by kernel_rfl) rfl) 30 (h1.mono fun e W hh => ?_)).mono fun e w' hh => ?_
   ·obtain ⟨he, hf⟩ := hh.2 hd
    exact ⟨he, hcode.frm hf (by rintro (e | e | e) <;> omega), hf⟩
   ·obtain ⟨he, W, hf, hf2, hsz⟩ := hh
    exact ⟨30, he, hfr hf hf2, fun _ => rfl, fun h hs' => by rw [hn] at hs'; cases hs'⟩
def SRdPost (res : Option SnT) (w : World) (e : Ending) (w' : World) : Prop :=
 Below w.heap.size w w' ∧ (res = none → e = .returned (.tuple #[.agg #[.int .i64 0, .int .i64 0, .slice none 0 0, .slice none 0 0, .slice none 0 0], .int .i64 30])) ∧
 ∀ s, res = some s → ∃ A B D a b d, e = .returned (.tuple #[.agg #[.int .i64 s.x, .int .i64 s.t, .slice A s.vs.length a, .slice B s.ls.length b, .slice D s.ds.length d], .int .i64 0]) ∧
   Mem.Own fI w.heap.size 3 w' (.slice A s.vs.length a) s.vs ∧ Mem.Own fI w.heap.size 3 w' (.slice B s.ls.length b) s.ls ∧ Mem.Own fB w.heap.size 5 w' (.slice D s.ds.length d) s.ds
theorem SRdPost.no {res : Option SnT} {w w' : World} {e : Ending} (h : res = none) (hb : Below w.heap.size w w') (he : e = .returned (.tuple #[.agg #[.int .i64 0, .int .i64 0, .slice none 0 0, .slice none 0 0, .slice none 0 0], .int .i64 30])) : SRdPost res w e w' :=
 ⟨hb, fun _ => he, fun s hs => by rw [h] at hs; cases hs⟩
theorem Mem.Own.apartT {α β : Type} {f : α → Value} {f' : β → Value} {base base' : Nat} {e e' : TypeId} {w w' : World} {v v' : Value} {xs : List α} {ys : List β} (h : Mem.Own f base e w v xs) (ho : Mem.Own f' base' e' w v' ys) (hne : e ≠ e') (hg : w.grownBy w' v'.ownBlock) : Mem.Own f base e w' v xs := by
 obtain ⟨h1, h2⟩ := h
 refine ⟨h1, ?_⟩
 rcases h2 with h2 | ⟨g, cap, cur, a, b, hh, c⟩
 ·exact .inl h2
 ·exact .inr ⟨g, cap, cur, a, b, Blk.apart (t := e) (g := g) hh ho hne hg, c⟩
def zeroSn : Array Value := #[.int .i64 0, .int .i64 0, .slice none 0 0, .slice none 0 0, .slice none 0 0]
theorem readS_no1 {b : List UInt8} (h : (unframe b).2.2 ≠ 0) : readS b = none := by unfold readS; rw [if_neg h]
theorem readS_no2 {b : List UInt8} (h : (unframe b).2.2 = 0) (h2 : hdW (unframe b).1 = none) : readS b = none := by
 unfold readS; rw [if_pos h]
 cases hd : hdS (unframe b).1 with
 | none => rfl
 | some g => simp only []; rw [if_neg (fun hc => hdW_none h2 g hd hc.1)]
theorem readS_is {b p : List UInt8} {n : Nat} {g : HdT} (h : unframe b = (p, n, 0)) (h2 : hdW p = some g) : readS b = if snapB g.x g.t g.vs g.ls [] = true then (pcs (nP g.n) g.n (b.drop n)).map fun ds => ⟨g.x, g.t, g.vs, g.ls, ds⟩ else none := by
 obtain ⟨h3, h4⟩ := hdW_some.1 h2
 unfold readS; rw [h, if_pos rfl]; simp only []; rw [h3]; simp only []
 by_cases hs : snapB g.x g.t g.vs g.ls [] = true
 ·rw [if_pos ⟨h4, hs⟩, if_pos hs]
 ·rw [if_neg (fun hc => hs hc.2), if_neg hs]
def SlRel (w : World) (g : HdT) (b0 : List UInt8) (sb zb : Nat) (va la : Value) (bv : Value) (wr : World) : Prop :=
 ∃ (k size : Nat) (rest acc : List UInt8) (A : Option Addr) (c : Nat) (dv : Value), bv = .slice A rest.length c ∧ Sl fB w A rest ∧ rest.length ≤ c ∧ c ≤ maxLen ∧
   Blk wr zb 3 #[.int .i64 (size : Int)] ∧ Blk wr sb 43 #[.int .i64 g.x, .int .i64 g.t, va, la, dv] ∧ Mem.Own fB w.heap.size 5 wr dv acc ∧ Mem.Own fI (zb + 1) 3 wr va g.vs ∧ Mem.Own fI (zb + 1) 3 wr la g.ls ∧
   Below w.heap.size w wr ∧ Blk wr w.heap.size 43 zeroSn ∧ size ≤ 2048 * k ∧ acc.length + size ≤ 32768 ∧ pcs (nP g.n) g.n b0 = (pcs k size rest).map (acc ++ ·)
theorem own_frmT {α : Type} {f : α → Value} {base : Nat} {e t : TypeId} {w w' : World} {v : Value} {xs : List α} {g : Nat} {cs : Array Value} (h : Mem.Own f base e w v xs) (hb : Blk w g t cs) (hne : e ≠ t) (hf : Frm (fun k => k = g) w w') : Mem.Own f base e w' v xs := by
 obtain ⟨h1, h2⟩ := h
 refine ⟨h1, ?_⟩
 rcases h2 with h2 | ⟨g', cap, cur, a, b, hh, c⟩
 ·exact .inl h2
 ·refine .inr ⟨g', cap, cur, a, b, ?_, c⟩
  have hlt : g' < w.heap.size := (Array.getElem?_eq_some_iff.1 hh).1
  rw [hf.block g' hlt (fun e2 => by subst e2; unfold Blk at hb; rw [hh] at hb; injection hb with hb; injection hb with _ h3; exact hne h3)]
  exact hh
def put5 (W : World) (g : Nat) (a b c d e : Value) : World := ((((W.setCell ⟨g, 0, none⟩ a).setCell ⟨g, 1, none⟩ b).setCell ⟨g, 2, none⟩ c).setCell ⟨g, 3, none⟩ d).setCell ⟨g, 4, none⟩ e
theorem put5_blk {W : World} {g : Nat} {t : TypeId} {a b c d e a' b' c' d' e' : Value} (h : Blk W g t #[a', b', c', d', e']) : Blk (put5 W g a b c d e) g t #[a, b, c, d, e] := ((((h.set_ 0 a).set_ 1 b).set_ 2 c).set_ 3 d).set_ 4 e
theorem put5_frm (W : World) (g : Nat) (a b c d e : Value) : Frm (fun k => k = g) W (put5 W g a b c d e) :=
 (((((Frm.refl (fun k => k = g) W).setCell (p := ⟨g, 0, none⟩) (fun _ => rfl) a).setCell (p := ⟨g, 1, none⟩) (fun _ => rfl) b).setCell (p := ⟨g, 2, none⟩) (fun _ => rfl) c).setCell (p := ⟨g, 3, none⟩) (fun _ => rfl) d).setCell (p := ⟨g, 4, none⟩) (fun _ => rfl) e
def lenV : Value → Nat
 | .slice _ n _ => n
 | _ => 0
set_option maxRecDepth 100000 in
set_option maxHeartbeats 4000000 in
theorem SRead_any {w : World} {A : Option Addr} {c : Nat} {bs : List UInt8} (hs : Sl fB w A bs) (hc : bs.length ≤ c) (hm : c ≤ maxLen) :
 Calls Tryz.prog 54 #[.slice A bs.length c] w (SRdPost (readS bs) w) := by
 have hmf : ∀ (fn : Fn) (first cap : Array Value) (w : World), (Instr.makeFunc fn first cap).run Tryz.prog w = .ok (.func fn first cap) w := fun _ _ _ _ => rfl
 obtain ⟨w0, hw0⟩ : ∃ x, x = w.alloc (.cells zeroSn 43) := ⟨_, rfl⟩
 have hb0 : Below w.heap.size w w0 := by rw [hw0]; exact (Below.refl _ _).alloc (Nat.le_refl _) _
 have hx0 : Blk w0 w.heap.size 43 zeroSn := by rw [hw0]; exact Blk.new_ w _ _
 obtain ⟨res, hres⟩ : ∃ r, r = readS bs := ⟨_, rfl⟩
 rw [← hres]
 have HRES := Lib.hid hres; clear hres
 obtain ⟨⟨p, n, u⟩, hu⟩ : ∃ z, z = unframe bs := ⟨_, rfl⟩
 have HUF : Hid (Calls Tryz.prog 86 #[.slice A bs.length c] w0 (UfPost (p, n, u) w0)) := Lib.hid (by rw [hu]; exact Unframe_any (hs.below hb0) hc hm)
 have HU := Lib.hid hu; clear hu
 have HC := Lib.hid hc; clear hc
 have HM := Lib.hid hm; clear hm
 have HS := Lib.hid hs; clear hs
 have HB0 := Lib.hid hb0; clear hb0
 have HX0 := Lib.hid hx0; clear hx0
 have HW0 := Lib.hid hw0; clear hw0
 go_enter Tryz.func54, Tryz.ntmps54
 go_upto_region 1 with fail
 have hzz := HW0.out
 unfold zeroSn at hzz
 rw [← hzz]
 clear hzz HW0
 go_wp2_with fail
 (with_reducible refine HUF.out.mono ?_); rintro e w1 ⟨P, cp, rfl, ho1, hb1⟩
 simp only at ho1 ⊢
 have HB1 : Hid (Below w.heap.size w w1) := Lib.hid (HB0.out.trans (hb1.mono HB0.out.size))
 have HX1 : Hid (Blk w1 w.heap.size 43 zeroSn) := Lib.hid (HX0.out.below hb1 HX0.out.lt)
 have HO1 := Lib.hid ho1; clear ho1 hb1
 have hsz1 : w.heap.size < w1.heap.size := HX1.out.lt
 have HZ1 := Lib.hid hsz1; clear hsz1
 by_cases hu0 : u = 0
 ·subst hu0
  obtain ⟨w2, hw2⟩ : ∃ x, x = w1.alloc (.cells zeroSn 43) := ⟨_, rfl⟩
  have hb2 : Below w1.heap.size w1 w2 := by rw [hw2]; exact (Below.refl _ _).alloc (Nat.le_refl _) _
  have hx2 : Blk w2 w1.heap.size 43 zeroSn := by rw [hw2]; exact Blk.new_ w1 _ _
  have hz2 : w2.heap.size = w1.heap.size + 1 := by rw [hw2]; exact World.size_alloc ..
  obtain ⟨w3, hw3⟩ : ∃ x, x = w2.alloc (.cells #[.int .i64 0] 3) := ⟨_, rfl⟩
  have hb3 : Below w2.heap.size w2 w3 := by rw [hw3]; exact (Below.refl _ _).alloc (Nat.le_refl _) _
  have hx3 : Blk w3 (w1.heap.size + 1) 3 #[.int .i64 0] := by rw [hw3, ← hz2]; exact Blk.new_ w2 _ _
  have hb13 : Below w1.heap.size w1 w3 := hb2.trans (hb3.mono (by omega))
  have HSB3 : Hid (Blk w3 w1.heap.size 43 zeroSn) := Lib.hid (hx2.below hb3 (by omega))
  have HZB3 := Lib.hid hx3
  have HB3 : Hid (Below w.heap.size w w3) := Lib.hid (HB1.out.trans (hb13.mono HB1.out.size))
  have HX3 : Hid (Blk w3 w.heap.size 43 zeroSn) := Lib.hid (HX1.out.below hb13 HX1.out.lt)
  have HO3 : Hid (Mem.Own fB w0.heap.size 5 w3 (.slice P p.length cp) p) := Lib.hid (Mem.Own.frm HO1.out (Frm.below hb13) (fun _ _ e => e))
  have hsf : SlF (fun g => g < w1.heap.size) w3 P p := (SlF.of_sl HO1.out.sl.2).frm (G := fun _ => False) (Frm.below hb13) (fun _ _ e => e)
  have HRD := Lib.hid (sread_read (sb := w1.heap.size) (zb := w1.heap.size + 1) hsf HO1.out.cap.1 HO1.out.cap.2 HSB3.out HZB3.out (by omega) (fun g hg => by omega))
  have HW3 : Hid (w3 = (w1.alloc (.cells zeroSn 43)).alloc (.cells #[.int .i64 0] 3)) := Lib.hid (by rw [hw3, hw2])
  have hs13 : w1.heap.size + 2 ≤ w3.heap.size := by have := hx3.lt; omega
  have HS13 := Lib.hid hs13
  clear hw2 hw3 hb2 hb3 hx2 hx3 hz2 hb13 hsf hs13
  go_upto_region 6 with fail
  have hzz := HW3.out
  unfold zeroSn at hzz
  rw [← hzz]
  clear hzz HW3
  go_wp2_with fail
  (with_reducible refine HRD.out.mono ?_); rintro e w4 ⟨code, rfl, hf4, hno, hyes⟩
  have HB4 : Hid (Below w.heap.size w w4) := Lib.hid (HB3.out.trans (hf4.to_below (fun k _ h1 h2 => by have := HZ1.out; omega) HB3.out.size))
  have HX4 : Hid (Blk w4 w.heap.size 43 zeroSn) := Lib.hid (HX3.out.frm hf4 (fun e => by have := HZ1.out; omega))
  have h34 := hf4.size
  have H34 := Lib.hid h34; clear h34 hf4
  cases hw : hdW p with
  | none =>
    obtain rfl := hno hw
    have HN : Hid (res = none) := Lib.hid (by rw [HRES.out]; exact readS_no2 (by rw [← HU.out]) (by rw [← HU.out]; exact hw))
    clear hno hyes hw
    have q0 := HX4.out.free 0
    have q1 := HX4.out.free 1
    have q2 := HX4.out.free 2
    have q3 := HX4.out.free 3
    have q4 := HX4.out.free 4
    obtain ⟨d0, d1, d2, d3, d4⟩ := held5 (HX4.out) (Below.refl _ _)
    go_wp2_with fail
    obtain ⟨W9, hW9⟩ : ∃ z, z = put5 w4 w.heap.size (.int .i64 0) (.int .i64 0) (.slice none 0 0) (.slice none 0 0) (.slice none 0 0) := ⟨_, rfl⟩
    have hx9 : Blk W9 w.heap.size 43 #[.int .i64 0, .int .i64 0, .slice none 0 0, .slice none 0 0, .slice none 0 0] := by rw [hW9]; exact put5_blk HX4.out
    have hf9 : Frm (fun g => g = w.heap.size) w4 W9 := by rw [hW9]; exact put5_frm _ _ _ _ _ _ _
    unfold put5 at hW9
    rw [← hW9]
    obtain ⟨r0, r1, r2, r3, r4⟩ := held5 hx9 (Below.refl _ _)
    refine bodyPost_ret (v := .tuple #[.agg #[.int .i64 0, .int .i64 0, .slice none 0 0, .slice none 0 0, .slice none 0 0], .int .i64 30]) (by simp [results, Tryz.results54, go_sem, r0, r1, r2, r3, r4]) rfl ?_
    exact SRdPost.no HN.out (HB4.out.trans (hf9.to_below (fun k _ h1 h2 => by omega) HB4.out.size)) rfl
  | some g =>
    obtain ⟨rfl, hzk, va, la, hsb, hva, hla⟩ := hyes g hw
    have HRI : Hid (res = if snapB g.x g.t g.vs g.ls [] = true then (pcs (nP g.n) g.n (bs.drop n)).map fun ds => ⟨g.x, g.t, g.vs, g.ls, ds⟩ else none) := Lib.hid (by rw [HRES.out]; exact readS_is HU.out.symm hw)
    obtain ⟨hn32, -⟩ : g.n ≤ 32768 ∧ True := ⟨(hd_some (hdW_some.1 hw).1).2.2.2.2.1, trivial⟩
    have HN32 := Lib.hid hn32
    clear hno hyes hn32 hw
    obtain ⟨VA, ca, rfl⟩ := hva.form
    obtain ⟨LA, cl, rfl⟩ := hla.form
    have hva4 : Mem.Own fI (w1.heap.size + 1 + 1) 3 w4 (.slice VA g.vs.length ca) g.vs := Own.lowerI hva HS13.out
    have hla4 : Mem.Own fI (w1.heap.size + 1 + 1) 3 w4 (.slice LA g.ls.length cl) g.ls := Own.lowerI hla HS13.out
    have HVA := Lib.hid hva4
    have HLA := Lib.hid hla4
    have HSB4 := Lib.hid hsb
    have HZB4 := Lib.hid hzk
    obtain ⟨s0, s1, s2, s3, s4⟩ := held5 hsb (Below.refl _ _)
    obtain ⟨pp, hpp⟩ : ∃ z, z = snapB g.x g.t g.vs g.ls [] := ⟨_, rfl⟩
    have hrg := snright_any (w := w4) (x := g.x) (t := g.t) (A := VA) (B := LA) (D := none) (a := ca) (b := cl) (d := 0) (vs := g.vs) (ls := g.ls) (ds := []) ⟨hva.sl.2, hla.sl.2, Sl.nil⟩
    rw [← hpp] at hrg
    simp only [List.length_nil] at hrg
    have HRG := Lib.hid hrg; clear hrg
    have HPP := Lib.hid hpp; clear hpp
    clear hva hla hva4 hla4 hsb hzk
    go_wp2_with fail
    (with_reducible refine HRG.out.mono ?_); rintro e w5 ⟨rfl, hb5⟩
    have HB5 : Hid (Below w.heap.size w w5) := Lib.hid (HB4.out.trans (hb5.mono HB4.out.size))
    have HX5 : Hid (Blk w5 w.heap.size 43 zeroSn) := Lib.hid (HX4.out.below hb5 HX4.out.lt)
    have HSB5 := Lib.hid (HSB4.out.below hb5 HSB4.out.lt)
    have HZB5 := Lib.hid (HZB4.out.below hb5 HZB4.out.lt)
    have HVA5 := Lib.hid (Mem.Own.frm HVA.out (Frm.below hb5) (fun _ _ e => e))
    have HLA5 := Lib.hid (Mem.Own.frm HLA.out (Frm.below hb5) (fun _ _ e => e))
    clear s0 s1 s2 s3 s4 hb5 HRG
    cases pp with
    | false =>
      have HN : Hid (res = none) := Lib.hid (by rw [HRI.out, ← HPP.out]; rfl)
      have q0 := HX5.out.free 0
      have q1 := HX5.out.free 1
      have q2 := HX5.out.free 2
      have q3 := HX5.out.free 3
      have q4 := HX5.out.free 4
      obtain ⟨d0, d1, d2, d3, d4⟩ := held5 (HX5.out) (Below.refl _ _)
      go_wp2_with fail
      obtain ⟨W9, hW9⟩ : ∃ z, z = put5 w5 w.heap.size (.int .i64 0) (.int .i64 0) (.slice none 0 0) (.slice none 0 0) (.slice none 0 0) := ⟨_, rfl⟩
      have hx9 : Blk W9 w.heap.size 43 #[.int .i64 0, .int .i64 0, .slice none 0 0, .slice none 0 0, .slice none 0 0] := by rw [hW9]; exact put5_blk HX5.out
      have hf9 : Frm (fun g => g = w.heap.size) w5 W9 := by rw [hW9]; exact put5_frm _ _ _ _ _ _ _
      unfold put5 at hW9
      rw [← hW9]
      obtain ⟨r0, r1, r2, r3, r4⟩ := held5 hx9 (Below.refl _ _)
      refine bodyPost_ret (v := .tuple #[.agg #[.int .i64 0, .int .i64 0, .slice none 0 0, .slice none 0 0, .slice none 0 0], .int .i64 30]) (by simp [results, Tryz.results54, go_sem, r0, r1, r2, r3, r4]) rfl ?_
      exact SRdPost.no HN.out (HB5.out.trans (hf9.to_below (fun k _ h1 h2 => by omega) HB5.out.size)) rfl
    | true =>
      have HRI2 : Hid (res = (pcs (nP g.n) g.n (bs.drop n)).map fun ds => ⟨g.x, g.t, g.vs, g.ls, ds⟩) := Lib.hid (by rw [HRI.out, ← HPP.out]; rfl)
      clear HRI
      have hnb : n ≤ bs.length := (unframe_ok HU.out.symm).2.2.1
      have ck := cutB A bs.length c n hnb
      have HSR : Hid (Sl fB w (partA A c n) (bs.drop n)) := Lib.hid (by
       have h9 := HS.out.part (c := c) (k := n) (m := bs.length - n) (by omega) HC.out
       rw [List.take_of_length_le (by rw [List.length_drop]; omega)] at h9
       exact h9)
      have hdl : (bs.drop n).length = bs.length - n := List.length_drop
      have hcc : bs.length - n ≤ c - n := by have := HC.out; omega
      have hcm : c - n ≤ maxLen := Nat.le_trans (Nat.sub_le _ _) HM.out
      obtain ⟨A6, hA6⟩ : ∃ z, z = partA A c n := ⟨_, rfl⟩
      obtain ⟨b0, hb0⟩ : ∃ z, z = bs.drop n := ⟨_, rfl⟩
      obtain ⟨c6, hc6⟩ : ∃ z, z = c - n := ⟨_, rfl⟩
      rw [← hb0] at hdl HSR HRI2
      rw [← hA6] at HSR ck
      rw [← hc6] at ck hcc hcm
      rw [← hdl] at ck hcc
      have HCC := Lib.hid hcc
      have HCM := Lib.hid hcm
      clear hdl hcc hcm hA6 hb0 hc6 hnb
      go_wp2_with fail
      clear ck
      go_loopw [0] (fun bv wr => SlRel w g b0 w1.heap.size (w1.heap.size + 1) (.slice VA g.vs.length ca) (.slice LA g.ls.length cl) bv wr) (fun bv _ => lenV bv)
      case atStart =>
       exact ⟨nP g.n, g.n, b0, [], A6, c6, _, rfl, HSR.out, HCC.out, HCM.out, HZB5.out, HSB5.out, Own.nil, HVA5.out, HLA5.out, HB5.out, HX5.out, by unfold nP; omega, by have := HN32.out; simpa using this, by simp⟩
      case round =>
       obtain ⟨k, size, rest, acc, A7, c7, dv, rfl, hsl, hrc, hcm, hzb, hsb, hdv, hva, hla, hbw, hx, hk, hacc, hpcs⟩ := hrel
       obtain ⟨DV, dc, rfl⟩ := hdv.form
       have HSL := Lib.hid hsl; clear hsl
       have HRC := Lib.hid hrc; clear hrc
       have HCM7 := Lib.hid hcm; clear hcm
       have HZB := Lib.hid hzb; clear hzb
       have HSB := Lib.hid hsb; clear hsb
       have HDV := Lib.hid hdv; clear hdv
       have HVA7 := Lib.hid hva; clear hva
       have HLA7 := Lib.hid hla; clear hla
       have HBW := Lib.hid hbw; clear hbw
       have HX := Lib.hid hx; clear hx
       have HK := Lib.hid hk; clear hk
       have HACC := Lib.hid hacc; clear hacc
       have HPCS := Lib.hid hpcs; clear hpcs
       obtain ⟨wo, rfl⟩ : ∃ wo, wo = wr := ⟨_, rfl⟩
       have z0 : wo.cell? ⟨w1.heap.size + 1, 0, none⟩ = some (.int .i64 (size : Int)) := HZB.out.cell 0
       have z1 := HZB.out.free 0
       by_cases h0 : 0 < size
       ·have t1 : (0 : Int) < (size : Int) := by omega
        obtain ⟨⟨pt, kn, un⟩, hu2⟩ : ∃ z, z = unframe rest := ⟨_, rfl⟩
        have HUF2 : Hid (Calls Tryz.prog 86 #[.slice A7 rest.length c7] wo (UfPost (pt, kn, un) wo)) := Lib.hid (by rw [hu2]; exact Unframe_any (HSL.out.below HBW.out) HRC.out HCM7.out)
        have HU2 := Lib.hid hu2; clear hu2
        go_wp2_with fail
        (with_reducible refine HUF2.out.mono ?_); rintro e w6 ⟨P6, cp6, rfl, ho6, hb6⟩
        simp only at ho6 ⊢
        have HB6 : Hid (Below w.heap.size w w6) := Lib.hid (HBW.out.trans (hb6.mono HBW.out.size))
        have HX6 : Hid (Blk w6 w.heap.size 43 zeroSn) := Lib.hid (HX.out.below hb6 HX.out.lt)
        have HSB6 := Lib.hid (HSB.out.below hb6 HSB.out.lt)
        have HZB6 := Lib.hid (HZB.out.below hb6 HZB.out.lt)
        have HVA6 := Lib.hid (Mem.Own.frm HVA7.out (Frm.below hb6) (fun _ _ e => e))
        have HLA6 := Lib.hid (Mem.Own.frm HLA7.out (Frm.below hb6) (fun _ _ e => e))
        have HDV6 := Lib.hid (Mem.Own.frm HDV.out (Frm.below hb6) (fun _ _ e => e))
        have HP6 := Lib.hid ho6.sl.2
        have hpl6 := ho6.sl.2.len
        clear ho6 hb6 z0 z1
        have z0 : w6.cell? ⟨w1.heap.size + 1, 0, none⟩ = some (.int .i64 (size : Int)) := HZB6.out.cell 0
        have z1 := HZB6.out.free 0
        by_cases hun : un = 0
        ·subst hun
         obtain ⟨mn, hmn⟩ : ∃ z, z = min size 2048 := ⟨_, rfl⟩
         have hmin : (if (2048 : Int) < (size : Int) then (2048 : Int) else (size : Int)) = (mn : Int) := by split <;> omega
         have HMN := Lib.hid hmn; clear hmn
         by_cases hpl : pt.length = mn
         ·have t2 : ((pt.length : Int) != (mn : Int)) = false := by rw [hpl]; simp
          obtain ⟨f1, f2, f3, f4, f5⟩ := unframe_ok HU2.out.symm
          obtain ⟨s0, s1, s2, s3, s4⟩ := held5 HSB6.out (Below.refl _ _)
          have y4 := HSB6.out.free 4
          obtain ⟨k', hk'⟩ : ∃ k', k = k' + 1 := ⟨k - 1, by have := HK.out; omega⟩
          have hpc2 : pcs (nP g.n) g.n b0 = (pcs k' (size - pt.length) (rest.drop kn)).map ((acc ++ pt) ++ ·) := by
           rw [HPCS.out, hk', pcs_step h0 HU2.out.symm (by rw [hpl, HMN.out]), Option.map_map]
           congr 1; funext q; simp
          have hk2 : size - pt.length ≤ 2048 * k' := by have := HK.out; have := HMN.out; omega
          have hac2 : (acc ++ pt).length + (size - pt.length) ≤ 32768 := by have := HACC.out; have := HMN.out; rw [List.length_append]; omega
          have hp0 : 0 < pt.length := by have := HMN.out; omega
          have hps : pt.length ≤ size := by have := HMN.out; omega
          have e9 : IntKind.i64.wrap ((size : Int) - (pt.length : Int)) = ((size - pt.length : Nat) : Int) := by rw [IntKind.wrap_i64]; have := HACC.out; omega
          have ck := cutB A7 rest.length c7 kn f3
          have HSR2 : Hid (Sl fB w (partA A7 c7 kn) (rest.drop kn)) := Lib.hid (by
           have h9 := HSL.out.part (c := c7) (k := kn) (m := rest.length - kn) (by omega) HRC.out
           rw [List.take_of_length_le (by rw [List.length_drop]; omega)] at h9
           exact h9)
          have hdl : (rest.drop kn).length = rest.length - kn := List.length_drop
          have hcc : rest.length - kn ≤ c7 - kn := by have := HRC.out; omega
          have hcm : c7 - kn ≤ maxLen := Nat.le_trans (Nat.sub_le _ _) HCM7.out
          have hlow : rest.length - kn < rest.length := by omega
          have H63 : Hid (acc.length + pt.length ≤ maxLen) := Lib.hid (by rw [List.length_append] at hac2; unfold maxLen; omega)
          have HBY : Hid ((acc.length + pt.length) * 1 ≤ 140737488355328) := Lib.hid (by rw [List.length_append] at hac2; omega)
          have HPC2 := Lib.hid hpc2
          have HK2 := Lib.hid hk2
          have HAC2 := Lib.hid hac2
          have HLOW := Lib.hid hlow
          have HCC2 := Lib.hid hcc
          have HCM2 := Lib.hid hcm
          obtain ⟨sz2, hsz2⟩ : ∃ z, z = size - pt.length := ⟨_, rfl⟩
          rw [← hsz2] at e9 HPC2 HK2 HAC2
          obtain ⟨rest2, hrest2⟩ : ∃ z, z = rest.drop kn := ⟨_, rfl⟩
          rw [← hrest2] at HPC2 HSR2 hdl
          obtain ⟨A8, hA8⟩ : ∃ z, z = partA A7 c7 kn := ⟨_, rfl⟩
          obtain ⟨c8, hc8⟩ : ∃ z, z = c7 - kn := ⟨_, rfl⟩
          rw [← hA8] at ck HSR2
          rw [← hc8] at ck HCC2 HCM2
          rw [← hdl] at ck HCC2 HLOW
          obtain ⟨ac2, hac3⟩ : ∃ z, z = acc ++ pt := ⟨_, rfl⟩
          rw [← hac3] at HPC2 HAC2
          have HA3 := Lib.hid hac3
          clear f1 f2 f3 f4 f5 hk' hpc2 hk2 hac2 hlow hcc hcm hsz2 hrest2 hA8 hc8 hdl hac3 hpl hps hp0
          go_wp2_with (at_builtin; refine wpList_appendNt (f := fB) rfl (.tmp 57) (.tmp 58) 36 rfl u8T rfl HDV6.out rfl HP6.out fB_oneJ H63.out HBY.out HB6.out.size ?_; intro v7 w7 ho7 hg7; have HG7 : Hid (w6.grownBy w7 (Value.slice DV acc.length dc).ownBlock) := Lib.hid hg7; have ho8 : Mem.Own fB w.heap.size 5 w7 v7 ac2 := (by rw [HA3.out]; exact ho7); obtain ⟨A9, e9', rfl⟩ := ho8.form; have HO8 := Lib.hid ho8; have HSB7 := Lib.hid (HSB6.out.apart HDV6.out (by decide) HG7.out); have HZB7 := Lib.hid (HZB6.out.apart HDV6.out (by decide) HG7.out); have HX7 := Lib.hid (HX6.out.apart HDV6.out (by decide) HG7.out); have HVA8 := Lib.hid (Mem.Own.apartT HVA6.out HDV6.out (by decide) HG7.out); have HLA8 := Lib.hid (Mem.Own.apartT HLA6.out HDV6.out (by decide) HG7.out); have HB7 := Lib.hid (HB6.out.trans (HDV6.out.below_ HB6.out.size HG7.out)); have k4 : w7.cell? ⟨w1.heap.size, 4, none⟩ = some (.slice DV acc.length dc) := HSB7.out.cell 4; have k5 := HSB7.out.free 4; have hw7 : ∀ u, (w7.setCell ⟨w1.heap.size, 4, none⟩ u).cell? ⟨w1.heap.size + 1, 0, none⟩ = some (.int .i64 (size : Int)) := (fun u => (HZB7.out.far (p := ⟨w1.heap.size, 4, none⟩) (by show w1.heap.size + 1 ≠ w1.heap.size; omega) u).cell 0); have hw8 : ∀ u, (w7.setCell ⟨w1.heap.size, 4, none⟩ u).frozen? ⟨w1.heap.size + 1, 0, none⟩ = false := (fun u => (HZB7.out.far (p := ⟨w1.heap.size, 4, none⟩) (by show w1.heap.size + 1 ≠ w1.heap.size; omega) u).free 0); clear ho7 hg7 ho8 s0 s1 s2 s3 s4 z0 z1)
          have hZne : w1.heap.size ≠ w1.heap.size + 1 := by omega
          have hw1z := HZ1.out
          obtain ⟨W8, hW8⟩ : ∃ z, z = (w7.setCell ⟨w1.heap.size, 4, none⟩ (.slice A9 ac2.length e9')).setCell ⟨w1.heap.size + 1, 0, none⟩ (.int .i64 (sz2 : Int)) := ⟨_, rfl⟩
          rw [← hW8]
          have hf8 : Frm (fun k => k = w1.heap.size) w7 (w7.setCell ⟨w1.heap.size, 4, none⟩ (.slice A9 ac2.length e9')) := (Frm.refl (fun k => k = w1.heap.size) w7).setCell (p := ⟨w1.heap.size, 4, none⟩) (fun _ => rfl) _
          have hf9 : Frm (fun k => k = w1.heap.size + 1) (w7.setCell ⟨w1.heap.size, 4, none⟩ (.slice A9 ac2.length e9')) W8 := by rw [hW8]; exact (Frm.refl (fun k => k = w1.heap.size + 1) _).setCell (p := ⟨w1.heap.size + 1, 0, none⟩) (fun _ => rfl) _
          have hz8 := HZB7.out.frm hf8 (fun e => hZne e.symm)
          have r1 : Blk W8 (w1.heap.size + 1) 3 #[.int .i64 (sz2 : Int)] := by rw [hW8]; exact hz8.set_ 0 _
          have r2 : Blk W8 w1.heap.size 43 #[.int .i64 g.x, .int .i64 g.t, .slice VA g.vs.length ca, .slice LA g.ls.length cl, .slice A9 ac2.length e9'] := (HSB7.out.set_ 4 _).frm hf9 hZne
          have r3 : Mem.Own fB w.heap.size 5 W8 (.slice A9 ac2.length e9') ac2 := own_frmT (own_frmT HO8.out HSB7.out (by decide) hf8) hz8 (by decide) hf9
          have r4 : Mem.Own fI (w1.heap.size + 1 + 1) 3 W8 (.slice VA g.vs.length ca) g.vs := (HVA8.out.frm hf8 (fun _ h1 h2 => by omega)).frm hf9 (fun _ h1 h2 => by omega)
          have r5 : Mem.Own fI (w1.heap.size + 1 + 1) 3 W8 (.slice LA g.ls.length cl) g.ls := (HLA8.out.frm hf8 (fun _ h1 h2 => by omega)).frm hf9 (fun _ h1 h2 => by omega)
          have r6 : Below w.heap.size w W8 := HB7.out.trans ((hf8.to_below (fun _ _ h1 h2 => by omega) HB7.out.size).trans (hf9.to_below (fun _ _ h1 h2 => by omega) (Nat.le_trans HB7.out.size hf8.size)))
          have r7 : Blk W8 w.heap.size 43 zeroSn := (HX7.out.frm hf8 (by omega)).frm hf9 (by omega)
          exact ⟨⟨k', sz2, rest2, ac2, A8, c8, _, rfl, HSR2.out, HCC2.out, HCM2.out, r1, r2, r3, r4, r5, r6, r7, HK2.out, HAC2.out, HPC2.out⟩, HLOW.out⟩
         ·have t2 : ((pt.length : Int) != (mn : Int)) = true := by rw [bne_iff_ne]; omega
          have HN : Hid (res = none) := Lib.hid (by rw [HRI2.out, HPCS.out, pcs_no h0 (by rw [← HU2.out, ← HMN.out]; exact fun h => hpl h.2)]; rfl)
          clear hpl
          have q0 := HX6.out.free 0
          have q1 := HX6.out.free 1
          have q2 := HX6.out.free 2
          have q3 := HX6.out.free 3
          have q4 := HX6.out.free 4
          obtain ⟨d0, d1, d2, d3, d4⟩ := held5 (HX6.out) (Below.refl _ _)
          go_wp2_with fail
          obtain ⟨W9, hW9⟩ : ∃ z, z = put5 w6 w.heap.size (.int .i64 0) (.int .i64 0) (.slice none 0 0) (.slice none 0 0) (.slice none 0 0) := ⟨_, rfl⟩
          have hx9 : Blk W9 w.heap.size 43 #[.int .i64 0, .int .i64 0, .slice none 0 0, .slice none 0 0, .slice none 0 0] := by rw [hW9]; exact put5_blk HX6.out
          have hf9 : Frm (fun g => g = w.heap.size) w6 W9 := by rw [hW9]; exact put5_frm _ _ _ _ _ _ _
          unfold put5 at hW9
          rw [← hW9]
          obtain ⟨r0, r1, r2, r3, r4⟩ := held5 hx9 (Below.refl _ _)
          refine bodyPost_ret (v := .tuple #[.agg #[.int .i64 0, .int .i64 0, .slice none 0 0, .slice none 0 0, .slice none 0 0], .int .i64 30]) (by simp [results, Tryz.results54, go_sem, r0, r1, r2, r3, r4]) rfl ?_
          exact SRdPost.no HN.out (HB6.out.trans (hf9.to_below (fun k _ h1 h2 => by omega) HB6.out.size)) rfl
        ·have t2 : (un != 0) = true := by rw [bne_iff_ne]; exact hun
         have HN : Hid (res = none) := Lib.hid (by rw [HRI2.out, HPCS.out, pcs_no h0 (by rw [← HU2.out]; exact fun h => hun h.1)]; rfl)
         clear hun
         have q0 := HX6.out.free 0
         have q1 := HX6.out.free 1
         have q2 := HX6.out.free 2
         have q3 := HX6.out.free 3
         have q4 := HX6.out.free 4
         obtain ⟨d0, d1, d2, d3, d4⟩ := held5 (HX6.out) (Below.refl _ _)
         go_wp2_with fail
         obtain ⟨W9, hW9⟩ : ∃ z, z = put5 w6 w.heap.size (.int .i64 0) (.int .i64 0) (.slice none 0 0) (.slice none 0 0) (.slice none 0 0) := ⟨_, rfl⟩
         have hx9 : Blk W9 w.heap.size 43 #[.int .i64 0, .int .i64 0, .slice none 0 0, .slice none 0 0, .slice none 0 0] := by rw [hW9]; exact put5_blk HX6.out
         have hf9 : Frm (fun g => g = w.heap.size) w6 W9 := by rw [hW9]; exact put5_frm _ _ _ _ _ _ _
         unfold put5 at hW9
         rw [← hW9]
         obtain ⟨r0, r1, r2, r3, r4⟩ := held5 hx9 (Below.refl _ _)
         refine bodyPost_ret (v := .tuple #[.agg #[.int .i64 0, .int .i64 0, .slice none 0 0, .slice none 0 0, .slice none 0 0], .int .i64 30]) (by simp [results, Tryz.results54, go_sem, r0, r1, r2, r3, r4]) rfl ?_
         exact SRdPost.no HN.out (HB6.out.trans (hf9.to_below (fun k _ h1 h2 => by omega) HB6.out.size)) rfl
       ·have t1 : ¬ (0 : Int) < (size : Int) := by omega
        obtain rfl : size = 0 := by omega
        by_cases hr : rest.length = 0
        ·have t2 : ¬ (0 : Int) < (rest.length : Int) := by omega
         have HYS : Hid (res = some ⟨g.x, g.t, g.vs, g.ls, acc⟩) := Lib.hid (by rw [HRI2.out, HPCS.out, pcs_zero, if_pos (List.eq_nil_of_length_eq_zero hr)]; simp)
         clear hr
         obtain ⟨s0, s1, s2, s3, s4⟩ := held5 HSB.out (Below.refl _ _)
         have q0 := HX.out.free 0
         have q1 := HX.out.free 1
         have q2 := HX.out.free 2
         have q3 := HX.out.free 3
         have q4 := HX.out.free 4
         obtain ⟨d0, d1, d2, d3, d4⟩ := held5 (HX.out) (Below.refl _ _)
         go_wp2_with fail
         obtain ⟨W9, hW9⟩ : ∃ z, z = put5 wo w.heap.size (.int .i64 g.x) (.int .i64 g.t) (.slice VA g.vs.length ca) (.slice LA g.ls.length cl) (.slice DV acc.length dc) := ⟨_, rfl⟩
         have hx9 : Blk W9 w.heap.size 43 #[.int .i64 g.x, .int .i64 g.t, .slice VA g.vs.length ca, .slice LA g.ls.length cl, .slice DV acc.length dc] := by rw [hW9]; exact put5_blk HX.out
         have hf9 : Frm (fun g => g = w.heap.size) wo W9 := by rw [hW9]; exact put5_frm _ _ _ _ _ _ _
         unfold put5 at hW9
         rw [← hW9]
         obtain ⟨r0, r1, r2, r3, r4⟩ := held5 hx9 (Below.refl _ _)
         refine bodyPost_ret (v := .tuple #[.agg #[.int .i64 g.x, .int .i64 g.t, .slice VA g.vs.length ca, .slice LA g.ls.length cl, .slice DV acc.length dc], .int .i64 0]) (by simp [results, Tryz.results54, go_sem, r0, r1, r2, r3, r4]) rfl ?_
         have hfar : ∀ {α : Type} {f : α → Value} {e : TypeId} {v : Value} {xs : List α}, e ≠ 43 → Mem.Own f w.heap.size e wo v xs → Mem.Own f w.heap.size e W9 v xs := fun hne ho => own_frmT ho HX.out hne hf9
         refine ⟨HBW.out.trans (hf9.to_below (fun k _ h1 h2 => by omega) HBW.out.size), (fun h => by rw [HYS.out] at h; cases h), fun s hs => ?_⟩
         rw [HYS.out] at hs
         have hs := Option.some.inj hs
         subst hs
         exact ⟨VA, LA, DV, ca, cl, dc, rfl, hfar (by decide) (Own.lowerI HVA7.out (by have := HZ1.out; omega)), hfar (by decide) (Own.lowerI HLA7.out (by have := HZ1.out; omega)), hfar (by decide) HDV.out⟩
        ·have t2 : (0 : Int) < (rest.length : Int) := by omega
         have HN : Hid (res = none) := Lib.hid (by rw [HRI2.out, HPCS.out, pcs_zero, if_neg (fun h => hr (by rw [h]; rfl))]; rfl)
         clear hr
         have q0 := HX.out.free 0
         have q1 := HX.out.free 1
         have q2 := HX.out.free 2
         have q3 := HX.out.free 3
         have q4 := HX.out.free 4
         obtain ⟨d0, d1, d2, d3, d4⟩ := held5 (HX.out) (Below.refl _ _)
         go_wp2_with fail
         obtain ⟨W9, hW9⟩ : ∃ z, z = put5 wo w.heap.size (.int .i64 0) (.int .i64 0) (.slice none 0 0) (.slice none 0 0) (.slice none 0 0) := ⟨_, rfl⟩
         have hx9 : Blk W9 w.heap.size 43 #[.int .i64 0, .int .i64 0, .slice none 0 0, .slice none 0 0, .slice none 0 0] := by rw [hW9]; exact put5_blk HX.out
         have hf9 : Frm (fun g => g = w.heap.size) wo W9 := by rw [hW9]; exact put5_frm _ _ _ _ _ _ _
         unfold put5 at hW9
         rw [← hW9]
         obtain ⟨r0, r1, r2, r3, r4⟩ := held5 hx9 (Below.refl _ _)
         refine bodyPost_ret (v := .tuple #[.agg #[.int .i64 0, .int .i64 0, .slice none 0 0, .slice none 0 0, .slice none 0 0], .int .i64 30]) (by simp [results, Tryz.results54, go_sem, r0, r1, r2, r3, r4]) rfl ?_
         exact SRdPost.no HN.out (HBW.out.trans (hf9.to_below (fun k _ h1 h2 => by omega) HBW.out.size)) rfl
 ·have t1 : (u != 0) = true := by rw [bne_iff_ne]; exact hu0
  have HN : Hid (res = none) := Lib.hid (by rw [HRES.out]; exact readS_no1 (by rw [← HU.out]; exact hu0))
  clear hu0
  have q0 := HX1.out.free 0
  have q1 := HX1.out.free 1
  have q2 := HX1.out.free 2
  have q3 := HX1.out.free 3
  have q4 := HX1.out.free 4
  obtain ⟨d0, d1, d2, d3, d4⟩ := held5 (HX1.out) (Below.refl _ _)
  go_wp2_with fail
  obtain ⟨W9, hW9⟩ : ∃ z, z = put5 w1 w.heap.size (.int .i64 0) (.int .i64 0) (.slice none 0 0) (.slice none 0 0) (.slice none 0 0) := ⟨_, rfl⟩
  have hx9 : Blk W9 w.heap.size 43 #[.int .i64 0, .int .i64 0, .slice none 0 0, .slice none 0 0, .slice none 0 0] := by rw [hW9]; exact put5_blk HX1.out
  have hf9 : Frm (fun g => g = w.heap.size) w1 W9 := by rw [hW9]; exact put5_frm _ _ _ _ _ _ _
  unfold put5 at hW9
  rw [← hW9]
  obtain ⟨r0, r1, r2, r3, r4⟩ := held5 hx9 (Below.refl _ _)
  refine bodyPost_ret (v := .tuple #[.agg #[.int .i64 0, .int .i64 0, .slice none 0 0, .slice none 0 0, .slice none 0 0], .int .i64 30]) (by simp [results, Tryz.results54, go_sem, r0, r1, r2, r3, r4]) rfl ?_
  exact SRdPost.no HN.out (HB1.out.trans (hf9.to_below (fun k _ h1 h2 => by omega) HB1.out.size)) rfl
end Go.Proofs.YtfpomllhkbbipaaGreatDoor
namespace Go.Proofs.YtfpomllhkbbipaaGreatDoor
open Go Go.RowKit Go.Maps Go.Lib Mem Pk Cf
theorem readS_none {b : List UInt8} (h : ∀ s, ¬ isSn b s) : readS b = none := by
 cases hr : readS b with
 | none => rfl
 | some s => exact absurd (readS_iff.1 hr) (h s)
def headL (s : SnT) : List Int := s.x :: s.t :: (s.vs.length : Int) :: (s.vs ++ (s.ls.length : Int) :: (s.ls ++ [(s.ds.length : Int)]))
theorem numsB_appendS (a b : List Int) : numsB (a ++ b) = numsB a ++ numsB b := by unfold numsB; rw [List.flatMap_append]
theorem headL_nums (s : SnT) : numsB (headL s) = headN s.x s.t s.vs s.ls s.ds.length := by
 unfold headL headN
 rw [numsB_consS, numsB_consS, numsB_consS, numsB_appendS, numsB_consS, numsB_appendS, numsB_consS, numsB_consS, numsB_consS]
 show _ = _
 simp only [List.append_assoc]
 rw [show numsB [] = [] from rfl, List.append_nil]
theorem headL_ok {s : SnT} (h : snapB s.x s.t s.vs s.ls s.ds = true) : ∀ n ∈ headL s, i64ok n := by
 intro n hn
 refine pre_ok h n ?_
 unfold headL at hn
 simp only [List.mem_append, List.mem_cons, List.not_mem_nil, or_false] at hn ⊢
 rcases hn with rfl | rfl | rfl | hn | rfl | hn | rfl
 ·exact .inl (.inl (.inl (.inl (.inl (.inl rfl)))))
 ·exact .inl (.inl (.inl (.inl (.inl (.inr rfl)))))
 ·exact .inl (.inl (.inl (.inl (.inr rfl))))
 ·exact .inl (.inl (.inl (.inr hn)))
 ·exact .inl (.inl (.inr rfl))
 ·exact .inl (.inr hn)
 ·exact .inr rfl
theorem nums_splitI : ∀ {ns ms : List Int} {rest : List UInt8}, (∀ n ∈ ns, i64ok n) → (∀ n ∈ ms, i64ok n) → numsB ns ++ rest = numsB ms → ∃ ks, ms = ns ++ ks ∧ rest = numsB ks
 | [], ms, rest, _, _, h => ⟨ms, rfl, h⟩
 | n :: ns, [], rest, _, _, h => by
   rw [numsB_consS] at h
   have h1 := congrArg List.length h
   rw [List.append_assoc, List.length_append] at h1
   have := (numB_len n).1
   have h2 : (numsB []).length = 0 := rfl
   omega
 | n :: ns, m :: ms, rest, h1, h2, h => by
   rw [numsB_consS, numsB_consS, List.append_assoc] at h
   have hn := h1 n List.mem_cons_self
   have hm := h2 m List.mem_cons_self
   have e1 := getNum_num hn.1 hn.2 (numsB ns ++ rest)
   have e2 := getNum_num hm.1 hm.2 (numsB ms)
   rw [h, e2] at e1
   injection e1 with e1; injection e1 with e3 e4
   subst e3
   have h3 : numsB ns ++ rest = numsB ms := List.append_cancel_left h
   obtain ⟨ks, h3, h4⟩ := nums_splitI (fun x hx => h1 x (List.mem_cons_of_mem _ hx)) (fun x hx => h2 x (List.mem_cons_of_mem _ hx)) h3
   exact ⟨ks, by rw [h3]; rfl, h4⟩
theorem sn_head {b p : List UInt8} {n : Nat} (hu : unframe b = (p, n, 0)) {s : SnT} (h : isSn b s) : p = numsB (headL s) ∧ b.drop n = piecesN (nP s.ds.length) s.ds := by
 obtain ⟨h1, h2⟩ := sn_unframe h
 rw [hu] at h1
 injection h1 with h1 h3; injection h3 with h3 _
 subst h1; subst h3
 exact ⟨(headL_nums s).symm, h2⟩
theorem sn_stuck {b p rest : List UInt8} {n : Nat} {ns : List Int} (hu : unframe b = (p, n, 0)) (hp : p = numsB ns ++ rest) (hi : ∀ n ∈ ns, i64ok n) (hr : rest ≠ []) (hg : getNum rest = none) : readS b = none :=
 readS_none fun s h => by
  obtain ⟨h1, -⟩ := sn_head hu h
  obtain ⟨ks, h3, h4⟩ := nums_splitI hi (headL_ok h.1) (hp.symm.trans h1)
  cases ks with
  | nil => exact hr h4
  | cons k ks =>
    have hk := headL_ok h.1 k (by rw [h3]; simp)
    rw [h4, numsB_consS, getNum_num hk.1 hk.2] at hg
    cases hg
theorem sn_shape {b p : List UInt8} {n : Nat} {ns : List Int} (hu : unframe b = (p, n, 0)) (hp : p = numsB ns) (hi : ∀ n ∈ ns, i64ok n) {s : SnT} (h : isSn b s) : ns = headL s := by
 obtain ⟨h1, -⟩ := sn_head hu h
 obtain ⟨ks, h3, h4⟩ := nums_splitI (rest := []) hi (headL_ok h.1) (by rw [List.append_nil, ← hp, h1])
 cases ks with
 | nil => rw [h3, List.append_nil]
 | cons k ks =>
   rw [numsB_consS] at h4
   have h5 := congrArg List.length h4
   rw [List.length_append] at h5
   have := (numB_len k).1
   have h6 : ([] : List UInt8).length = 0 := rfl
   omega
theorem headL_len (s : SnT) : (headL s).length = s.vs.length + s.ls.length + 5 := by unfold headL; simp; omega
theorem headL_2 (s : SnT) : (headL s).getD 2 0 = (s.vs.length : Int) := rfl
theorem headL_at (s : SnT) : (headL s).getD (3 + s.vs.length) 0 = (s.ls.length : Int) := by
 unfold headL
 rw [List.getD_eq_getElem?_getD, show 3 + s.vs.length = s.vs.length + 1 + 1 + 1 by omega, List.getElem?_cons_succ, List.getElem?_cons_succ, List.getElem?_cons_succ, List.getElem?_append_right (Nat.le_refl _), Nat.sub_self]
 rfl
theorem sn_no {b p : List UInt8} {n : Nat} {ns : List Int} (hu : unframe b = (p, n, 0)) (hp : p = numsB ns) (hi : ∀ n ∈ ns, i64ok n)
 (h : ∀ a c : Nat, a ≤ 7 → c ≤ 7 → ns.getD 2 0 = (a : Int) → ns.getD (3 + a) 0 = (c : Int) → ns.length ≠ a + c + 5) : readS b = none :=
 readS_none fun s hs => by
  have e := sn_shape hu hp hi hs
  obtain ⟨-, -, hc, -⟩ := snap_parts hs.1
  obtain ⟨hv, hl⟩ := rconf_rise hc
  exact h s.vs.length s.ls.length (rise_small hv) (rise_small hl) (by rw [e]; exact headL_2 s) (by rw [e]; exact headL_at s) (by rw [e]; exact headL_len s)
theorem sn_parts {ns : List Int} {s : SnT} (e : ns = headL s) : s.x = ns.getD 0 0 ∧ s.t = ns.getD 1 0 ∧ s.vs = (ns.drop 3).take (ns.getD 2 0).toNat ∧ s.ls = (ns.drop (3 + (ns.getD 2 0).toNat + 1)).take (ns.length - 1 - (3 + (ns.getD 2 0).toNat + 1)) ∧ (s.ds.length : Int) = ns.getD (ns.length - 1) 0 := by
 subst e
 have e2 : ((headL s).getD 2 0).toNat = s.vs.length := by rw [headL_2]; exact Int.toNat_natCast _
 refine ⟨rfl, rfl, ?_, ?_, ?_⟩
 ·rw [e2]
  show s.vs = ((s.vs ++ (s.ls.length : Int) :: (s.ls ++ [(s.ds.length : Int)])).take s.vs.length)
  rw [List.take_left]
 ·rw [e2, headL_len]
  have h1 : (headL s).drop (3 + s.vs.length + 1) = s.ls ++ [(s.ds.length : Int)] := by
   have h3 : headL s = (s.x :: s.t :: (s.vs.length : Int) :: s.vs) ++ ((s.ls.length : Int) :: (s.ls ++ [(s.ds.length : Int)])) := by unfold headL; simp
   have h4 : 3 + s.vs.length + 1 = (s.x :: s.t :: (s.vs.length : Int) :: s.vs).length + 1 := by simp; omega
   rw [h3, h4, ← List.drop_drop, List.drop_left]; rfl
  rw [h1, show s.vs.length + s.ls.length + 5 - 1 - (3 + s.vs.length + 1) = s.ls.length by omega, List.take_left]
 ·rw [headL_len]
  have h3 : headL s = (s.x :: s.t :: (s.vs.length : Int) :: (s.vs ++ (s.ls.length : Int) :: s.ls)) ++ [(s.ds.length : Int)] := by unfold headL; simp
  rw [h3, List.getD_eq_getElem?_getD, List.getElem?_append_right (by simp; omega)]
  have : s.vs.length + s.ls.length + 5 - 1 - (s.x :: s.t :: (s.vs.length : Int) :: (s.vs ++ (s.ls.length : Int) :: s.ls)).length = 0 := by simp; omega
  rw [this]; rfl
def framesB (ps : List (List UInt8)) : List UInt8 := ps.flatMap frameB
theorem frames_split : ∀ {ps qs : List (List UInt8)} {rest : List UInt8}, (∀ p ∈ ps, p.length ≤ 4096) → (∀ p ∈ qs, p.length ≤ 4096) → framesB ps ++ rest = framesB qs → ∃ ks, qs = ps ++ ks ∧ rest = framesB ks
 | [], qs, rest, _, _, h => ⟨qs, rfl, h⟩
 | p :: ps, [], rest, _, _, h => by
   unfold framesB at h
   rw [List.flatMap_cons, List.append_assoc] at h
   have h1 := congrArg List.length h
   rw [List.length_append, frameB_len] at h1
   have h2 : (List.flatMap frameB []).length = 0 := rfl
   omega
 | p :: ps, q :: qs, rest, h1, h2, h => by
   unfold framesB at h
   rw [List.flatMap_cons, List.flatMap_cons, List.append_assoc] at h
   have e1 := unframe_frame (h1 p List.mem_cons_self) (ps.flatMap frameB ++ rest)
   have e2 := unframe_frame (h2 q List.mem_cons_self) (qs.flatMap frameB)
   rw [h, e2] at e1
   injection e1 with e3 e4
   subst e3
   have h3 : framesB ps ++ rest = framesB qs := List.append_cancel_left h
   obtain ⟨ks, h3, h4⟩ := frames_split (fun x hx => h1 x (List.mem_cons_of_mem _ hx)) (fun x hx => h2 x (List.mem_cons_of_mem _ hx)) h3
   exact ⟨ks, by rw [h3]; rfl, h4⟩
theorem pieces_frames (k : Nat) (ds : List UInt8) : piecesN k ds = framesB ((List.range k).map (piece ds)) := by
 unfold piecesN framesB; rw [List.flatMap_map]
theorem pieces_flat (ds : List UInt8) : ((List.range (nP ds.length)).map (piece ds)).flatten = ds := by
 have key : ∀ k, ((List.range k).map (piece ds)).flatten = ds.take (k * 2048) := by
  intro k
  induction k with
  | zero => rw [Nat.zero_mul]; rfl
  | succ k ih =>
    rw [List.range_succ, List.map_append, List.flatten_append, ih]
    have e1 : (List.map (piece ds) [k]).flatten = piece ds k := by simp
    rw [e1]
    unfold piece
    rw [show (k + 1) * 2048 = k * 2048 + 2048 by omega]
    exact List.take_add.symm
 rw [key, List.take_of_length_le (by unfold nP; omega)]
theorem pieces_le (k : Nat) (ds : List UInt8) : ∀ p ∈ (List.range k).map (piece ds), p.length ≤ 4096 := by
 intro p hp
 obtain ⟨j, -, rfl⟩ := List.mem_map.1 hp
 exact Nat.le_trans (piece_len ds j) (by decide)
theorem sn_frames {b p : List UInt8} {n : Nat} (hu : unframe b = (p, n, 0)) {ps : List (List UInt8)} {rest : List UInt8} (hb : b.drop n = framesB ps ++ rest) (hp : ∀ p ∈ ps, p.length ≤ 4096) {s : SnT} (h : isSn b s) :
 ∃ ks, (List.range (nP s.ds.length)).map (piece s.ds) = ps ++ ks ∧ rest = framesB ks := by
 obtain ⟨-, h2⟩ := sn_head hu h
 rw [hb, pieces_frames] at h2
 exact frames_split hp (pieces_le _ _) h2
theorem sn_cut {b p : List UInt8} {n : Nat} (hu : unframe b = (p, n, 0)) {ps : List (List UInt8)} {rest : List UInt8} (hb : b.drop n = framesB ps ++ rest) (hp : ∀ p ∈ ps, p.length ≤ 4096) (hr : rest ≠ []) (hc : (unframe rest).2.2 ≠ 0) : readS b = none :=
 readS_none fun s h => by
  obtain ⟨ks, h3, h4⟩ := sn_frames hu hb hp h
  cases ks with
  | nil => exact hr h4
  | cons k ks =>
    have hk := pieces_le (nP s.ds.length) s.ds k (by rw [h3]; simp)
    unfold framesB at h4
    rw [h4, List.flatMap_cons, unframe_frame hk] at hc
    exact hc rfl
theorem sn_all {b p : List UInt8} {n : Nat} (hu : unframe b = (p, n, 0)) {ns : List Int} (hp : p = numsB ns) (hi : ∀ n ∈ ns, i64ok n) {ps : List (List UInt8)} (hb : b.drop n = framesB ps) (hps : ∀ p ∈ ps, p.length ≤ 4096)
 {s s' : SnT} (hx : s.x = ns.getD 0 0) (ht : s.t = ns.getD 1 0) (hv : s.vs = (ns.drop 3).take (ns.getD 2 0).toNat) (hl : s.ls = (ns.drop (3 + (ns.getD 2 0).toNat + 1)).take (ns.length - 1 - (3 + (ns.getD 2 0).toNat + 1))) (hd : s.ds = ps.flatten) (h : isSn b s') : s' = s := by
 have e := sn_shape hu hp hi h
 obtain ⟨f1, f2, f3, f4, -⟩ := sn_parts e
 obtain ⟨ks, h3, h4⟩ := sn_frames (rest := []) hu (by rw [List.append_nil]; exact hb) hps h
 have hk : ks = [] := by
  cases ks with
  | nil => rfl
  | cons k ks =>
    unfold framesB at h4
    rw [List.flatMap_cons] at h4
    have h5 := congrArg List.length h4
    rw [List.length_append, frameB_len] at h5
    have h6 : ([] : List UInt8).length = 0 := rfl
    omega
 rw [hk, List.append_nil] at h3
 have f5 : s'.ds = ps.flatten := by rw [← h3, pieces_flat]
 cases s; cases s'
 simp only [SnT.mk.injEq]
 simp only at hx ht hv hl hd f1 f2 f3 f4 f5
 exact ⟨by rw [f1, hx], by rw [f2, ht], by rw [f3, hv], by rw [f4, hl], by rw [f5, hd]⟩
theorem sn_last {b p : List UInt8} {n : Nat} (hu : unframe b = (p, n, 0)) {ns : List Int} (hp : p = numsB ns) (hi : ∀ n ∈ ns, i64ok n) {s : SnT} (h : isSn b s) : (s.ds.length : Int) = ns.getD (ns.length - 1) 0 :=
 (sn_parts (sn_shape hu hp hi h)).2.2.2.2
theorem nums_lenS (ns : List Int) : ns.length ≤ (numsB ns).length := by
 induction ns with
 | nil => exact Nat.zero_le _
 | cons n ns ih =>
   rw [numsB_consS, List.length_append, List.length_cons]
   have := (numB_len n).1
   omega
end Go.Proofs.YtfpomllhkbbipaaGreatDoor
namespace Go.Proofs.YtfpomllhkbbipaaGreatDoor
open Go Go.RowKit Go.Maps Go.Lib Mem Pk Cf
theorem i64T : SliceT Tryz.prog 65 2 (.int .i64 0) 8 := sliceT_mk Tryz.underlying65 rfl (by kernel_rfl)
def RRPost (res : Option SnT) (w : World) (e : Ending) (w' : World) : Prop :=
 Below w.heap.size w w' ∧ (res = none → e = .returned (.tuple #[.agg zeroSn, .bool false])) ∧
 ∀ s, res = some s → ∃ A B D a b d, e = .returned (.tuple #[.agg #[.int .i64 s.x, .int .i64 s.t, .slice A s.vs.length a, .slice B s.ls.length b, .slice D s.ds.length d], .bool true]) ∧ SnIn w' A s.vs B s.ls D s.ds ∧ s.ds.length ≤ d ∧ SlB fI 3 (fun g => w.heap.size ≤ g) w' A s.vs ∧ SlB fI 3 (fun g => w.heap.size ≤ g) w' B s.ls ∧ SlB fB 5 (fun g => w.heap.size ≤ g) w' D s.ds
theorem RRPost.no {res : Option SnT} {w w' : World} {e : Ending} (h : res = none) (hb : Below w.heap.size w w') (he : e = .returned (.tuple #[.agg zeroSn, .bool false])) : RRPost res w e w' :=
 ⟨hb, fun _ => he, fun s hs => by rw [h] at hs; cases hs⟩
structure RSt (w1 : World) (sb : Nat) (nv : Value) (ns : List Int) (x t : Int) (i : Nat) (xs ys : List Int) (xv yv : Value) (W : World) : Prop where
 blk : Blk W sb 38 (five x t i xv yv)
 own : Mem.Own fI (sb + 1) 3 W xv xs
 oth : Mem.Own fI (sb + 1) 3 W yv ys
 apart : Apart xv yv
 nums : Mem.Own fI w1.heap.size 2 W nv ns
 bel : Below w1.heap.size w1 W
theorem RSt.swap {w1 : World} {sb : Nat} {nv : Value} {ns : List Int} {x t : Int} {xs ys : List Int} {xv yv : Value} {W : World} (h : RSt w1 sb nv ns x t 0 xs ys xv yv W) : RSt w1 sb nv ns x t 1 ys xs yv xv W :=
 ⟨h.blk, h.oth, h.own, h.apart.symm, h.nums, h.bel⟩
theorem RSt.b7 {w1 : World} {sb : Nat} {nv : Value} {ns : List Int} {x t : Int} {i : Nat} {xs ys : List Int} {xv yv : Value} {W W' : World} {u : Int} (h : RSt w1 sb nv ns x t i xs ys xv yv W) (hg : (W.alloc (.cells #[fI u] 3)).grownBy W' xv.ownBlock) : Below (sb + 1) W W' :=
 ((Below.refl _ _).alloc h.blk.lt _).trans ((h.own.alloc _).below_ (by rw [World.size_alloc]; have := h.blk.lt; omega) hg)
theorem RSt.mid {w1 : World} {sb : Nat} {nv : Value} {ns : List Int} {x t : Int} {i : Nat} {xs ys : List Int} {xv yv : Value} {W W' : World} {u : Int} (h : RSt w1 sb nv ns x t i xs ys xv yv W) (hi : i < 2)
 (hg : (W.alloc (.cells #[fI u] 3)).grownBy W' xv.ownBlock) : W'.cell? ⟨sb, i + 2, none⟩ = some xv ∧ W'.frozen? ⟨sb, i + 2, none⟩ = false := by
 have hblk := h.blk.below (h.b7 hg) (Nat.lt_succ_self _)
 exact ⟨five_cell hi hblk, hblk.free (i + 2)⟩
theorem RSt.put {w1 : World} {sb : Nat} {nv : Value} {ns : List Int} {x t : Int} {i : Nat} {xs ys zs : List Int} {xv yv v' : Value} {W W' : World} {u : Int} (hz : zs = xs ++ [u]) (h : RSt w1 sb nv ns x t i xs ys xv yv W) (hi : i < 2) (hsb : w1.heap.size ≤ sb)
 (ho : Mem.Own fI (sb + 1) 3 W' v' (xs ++ [u])) (hg : (W.alloc (.cells #[fI u] 3)).grownBy W' xv.ownBlock) (hat : v'.ownBlock = xv.ownBlock ∨ v'.ownBlock = some (W.heap.size + 1)) :
 RSt w1 sb nv ns x t i zs ys v' yv (W'.setCell ⟨sb, i + 2, none⟩ v') := by
 subst hz
 have hb := h.b7 hg
 have hblk := h.blk.below hb (Nat.lt_succ_self _)
 have hset : Frm (fun g => g = sb) W' (W'.setCell ⟨sb, i + 2, none⟩ v') := (Frm.refl (fun g => g = sb) W').setCell (p := ⟨sb, i + 2, none⟩) (fun _ => rfl) _
 refine ⟨five_set hi hblk v', ho.frm hset (fun g h1 h2 => by omega), ((h.oth.alloc _).other h.apart.symm hg).frm hset (fun g h1 h2 => by omega), h.apart.grown h.oth hat, ?_, ?_⟩
 ·exact own_frmT (Mem.Own.apartT (h.nums.alloc _) (h.own.alloc _) (by decide) hg) hblk (by decide) hset
 ·exact (h.bel.trans (hb.mono (by omega))).setCell (p := ⟨sb, i + 2, none⟩) hsb _
theorem step_append1g {P : Program} {α : Type} {f : α → Value} {W : World} {ops : Array Oper} {o : Oper} {a : Act} {K : Act → World → Prop} {Q : Exit → Act → World → Prop} {E : Prop} (hgd : o.guard = none) (s x : Operand) (t : TypeId)
 (ho : o.op = .call { callee := .builtin .append, args := #[s, x], argTypes := #[t, t] })
 {base : Nat} {e : TypeId} {z : Value} {bytes : Nat} (ht : SliceT P t e z bytes)
 {v : Value} {xs : List α} (u : α) (h1 : (f u).oneCell' = true) (hs : a.eval s = v) (hown : Mem.Own f base e W v xs)
 {g c : Nat} (hx : a.eval x = .slice (some ⟨g, 0, none⟩) 1 c) (hcell : W.cell? ⟨g, 0, none⟩ = some (f u))
 (h63 : xs.length + 1 ≤ maxLen) (hbytes : (xs.length + 1) * bytes ≤ 140737488355328) (hbase : base ≤ W.heap.size)
 (h : ∀ v' w', Mem.Own f base e w' v' (xs ++ [u]) → W.grownBy w' v.ownBlock → (v'.ownBlock = v.ownBlock ∨ v'.ownBlock = some W.heap.size) → K (a.put o.dst v') w') :
 if Region.wanted o (yielded ops a.tmps) = true then Oper.wp P o a W K Q else E := by
 have hw : Region.wanted o (yielded ops a.tmps) = true := by simp [Region.wanted, hgd]
 rw [if_pos hw]
 obtain ⟨ht, hz1, i, hi, hz, hsz, hby⟩ := ht
 obtain ⟨v', w', hr, h2, h3, _, hat⟩ := run_append_own_at (P := P) W base t o.type e i z 1 bytes ht hi hz hsz hby hz1 (by decide) v xs.length (xs.map f) hown ⟨g, 0, none⟩ 1 c [f u] rfl (by
  intro j y hy
  match j, hy with
  | 0, hy => simp at hy; subst hy; exact hcell
  | j + 1, hy => simp at hy) (by intro y hy; simp at hy; subst hy; exact h1) h63 hbytes hbase
 unfold Oper.wp execOp
 simp only [ho, resolve, invoke, builtin, Sem.run_bind, Sem.run_pure, Result.andThen_ok, List.map_toArray, List.map_cons, List.map_nil, hs, hx, hr]
 refine h v' w' ?_ h3 hat
 unfold Mem.Own; rw [List.length_append, List.map_append]; exact h2
theorem RSt.step {w1 : World} {sb : Nat} {nv : Value} {ns : List Int} {x t : Int} {i : Nat} {xs ys zs : List Int} {xv yv v7 : Value} {wi w7 : World} {y : Int} (h : RSt w1 sb nv ns x t i xs ys xv yv wi) (hi : i < 2) (hsb : w1.heap.size ≤ sb) (hz : zs = xs ++ [y])
 (ho7 : Mem.Own fI (sb + 1) 3 w7 v7 (xs ++ [y])) (hg7 : ((wi.alloc (.cells #[fI y] 3)).drew).grownBy w7 xv.ownBlock) (hat7 : v7.ownBlock = xv.ownBlock ∨ v7.ownBlock = some ((wi.alloc (.cells #[fI y] 3)).drew).heap.size) :
 ∃ A e, v7 = .slice A zs.length e ∧ RSt w1 sb nv ns x t i zs ys v7 yv (w7.setCell ⟨sb, i + 2, none⟩ v7) ∧ w7.cell? ⟨sb, i + 2, none⟩ = some xv ∧ w7.frozen? ⟨sb, i + 2, none⟩ = false := by
 have hg : (wi.alloc (.cells #[fI y] 3)).grownBy w7 xv.ownBlock := ⟨hg7.os, hg7.tape, hg7.output, hg7.size, hg7.block⟩
 have hat : v7.ownBlock = xv.ownBlock ∨ v7.ownBlock = some (wi.heap.size + 1) := by
  rcases hat7 with h | h
  ·exact .inl h
  ·right; rw [h]; exact congrArg some (World.size_alloc ..)
 have ho := ho7
 rw [← hz] at ho
 obtain ⟨A, e, rfl⟩ := ho.form
 exact ⟨A, e, rfl, h.put hz hi hsb ho7 hg hat, (h.mid hi hg).1, (h.mid hi hg).2⟩
theorem RSt.ownD {w1 : World} {sb : Nat} {nv : Value} {ns : List Int} {x t : Int} {i : Nat} {xs ys : List Int} {xv yv : Value} {wi : World} (y : Int) (h : RSt w1 sb nv ns x t i xs ys xv yv wi) :
 Mem.Own fI (sb + 1) 3 ((wi.alloc (.cells #[.int .i64 y] 3)).drew) xv xs ∧ ((wi.alloc (.cells #[.int .i64 y] 3)).drew).cell? ⟨wi.heap.size, 0, none⟩ = some (fI y) ∧ sb + 1 ≤ ((wi.alloc (.cells #[.int .i64 y] 3)).drew).heap.size := by
 refine ⟨Own.drew (h.own.alloc _), ?_, ?_⟩
 ·exact (Blk.drew (Blk.new_ wi 3 #[.int .i64 y])).cell 0
 ·show sb + 1 ≤ (wi.alloc _).heap.size
  rw [World.size_alloc]
  have := h.blk.lt
  omega
theorem held6 {wz W : World} {g gN j : Nat} {t : TypeId} {a b c d e y : Value} (h : Blk wz g t #[a, b, c, d, e]) (hc : wz.cell? ⟨gN, j, none⟩ = some y) (hb : Below wz.heap.size wz W) : W.cell? ⟨g, 0, none⟩ = some a ∧ W.cell? ⟨g, 1, none⟩ = some b ∧ W.cell? ⟨g, 2, none⟩ = some c ∧ W.cell? ⟨g, 3, none⟩ = some d ∧ W.cell? ⟨g, 4, none⟩ = some e ∧ W.cell? ⟨gN, j, none⟩ = some y :=
 ⟨(h.below hb h.lt).cell 0, (h.below hb h.lt).cell 1, (h.below hb h.lt).cell 2, (h.below hb h.lt).cell 3, (h.below hb h.lt).cell 4, (hb.cell (p := ⟨gN, j, none⟩) (lt_of_cell hc)).trans hc⟩
theorem frames_flat (ps : List (List UInt8)) : ps.flatten.length ≤ (framesB ps).length := by
 induction ps with
 | nil => exact Nat.zero_le _
 | cons p ps ih =>
   unfold framesB at ih ⊢
   rw [List.flatMap_cons, List.flatten_cons, List.length_append, List.length_append, frameB_len]
   omega
def BoolW (b : Bool) (wl : World) (e : Ending) (w' : World) : Prop := e = .returned (.bool b) ∧ Below wl.heap.size wl w'
def BtW (ys : List UInt8) (wl : World) (e : Ending) (w' : World) : Prop := ∃ A c, e = .returned (.slice A ys.length c) ∧ Sl fB w' A ys ∧ Below wl.heap.size wl w'
def tstB (b1 b2 b3 : Bool) : Bool := !(b1 && (b2 && b3))
def R1L (w1 : World) (p : List UInt8) (hv nv : Value) (wr : World) : Prop :=
 ∃ (ns : List Int) (rest : List UInt8) (A : Option Addr) (c : Nat), hv = .slice A rest.length c ∧ Sl fB w1 A rest ∧ rest.length ≤ c ∧ True ∧ Mem.Own fI w1.heap.size 2 wr nv ns ∧ Below w1.heap.size w1 wr ∧ p = numsB ns ++ rest ∧ ∀ n ∈ ns, i64ok n
def R2L (w1 : World) (sb : Nat) (nv : Value) (ns : List Int) (x t : Int) (i s0 s1 : Nat) (ys : List Int) (yv : Value) (jv : Value) (wr : World) : Prop :=
 ∃ (j : Nat) (xs : List Int) (xv : Value), s0 ≤ j ∧ j ≤ s1 ∧ jv = .int .i64 (j : Int) ∧ RSt w1 sb nv ns x t i xs ys xv yv wr ∧ xs = (ns.drop s0).take (j - s0)
def R4L (w w1 : World) (sb : Nat) (nv : Value) (ns : List Int) (x t : Int) (vs ls : List Int) (vv lv : Value) (b0 : List UInt8) (hv : Value) (wr : World) : Prop :=
 ∃ (ps : List (List UInt8)) (acc rest : List UInt8) (A : Option Addr) (c : Nat) (dv : Value), hv = .slice A rest.length c ∧ Sl fB w A rest ∧ rest.length ≤ c ∧ True ∧
   Blk wr sb 38 #[.int .i64 x, .int .i64 t, vv, lv, dv] ∧ Mem.Own fI (sb + 1) 3 wr vv vs ∧ Mem.Own fI (sb + 1) 3 wr lv ls ∧ Mem.Own fB (sb + 1) 5 wr dv acc ∧ Mem.Own fI w1.heap.size 2 wr nv ns ∧ Below w1.heap.size w1 wr ∧
   b0 = framesB ps ++ rest ∧ (∀ p ∈ ps, p.length ≤ 4096) ∧ acc.length ≤ b0.length ∧ acc = ps.flatten
theorem blk_frmO {base : Nat} {w w' : World} {v : Value} {xs : List UInt8} {g : Nat} {t : TypeId} {cs : Array Value} (hb : Blk w g t cs) (h : Mem.Own fB base 5 w v xs) (hne : t ≠ 5) (hf : Frm (fun g => v.ownBlock = some g) w w') : Blk w' g t cs :=
 hb.frm hf (fun e => by
  rcases h.2 with ⟨rfl, -⟩ | ⟨g', cap, cur, rfl, -, hh, -⟩
  ·cases e
  ·have e2 : g' = g := Option.some.inj e
   subst e2
   unfold Blk at hb; rw [hh] at hb; injection hb with hb; injection hb with _ h3
   exact hne h3.symm)
theorem own_frmO {α : Type} {f : α → Value} {base base' : Nat} {w w' : World} {v v' : Value} {xs : List UInt8} {ys : List α} {e : TypeId} (h' : Mem.Own f base' e w v' ys) (h : Mem.Own fB base 5 w v xs) (hne : e ≠ 5) (hf : Frm (fun g => v.ownBlock = some g) w w') : Mem.Own f base' e w' v' ys := by
 obtain ⟨h1, h2⟩ := h'
 refine ⟨h1, ?_⟩
 rcases h2 with h2 | ⟨g, cap, cur, a, b, hh, c⟩
 ·exact .inl h2
 ·exact .inr ⟨g, cap, cur, a, b, blk_frmO (t := e) (g := g) hh h hne hf, c⟩
set_option maxRecDepth 100000 in
set_option maxHeartbeats 16000000 in
theorem RRead_any {w : World} {A : Option Addr} {c : Nat} {bs : List UInt8} (hs : Sl fB w A bs) (hc : bs.length ≤ c) (hroom : bs.length ≤ 140737488351232) :
 Calls Tryz.prog 33 #[.slice A bs.length c] w (RRPost (readS bs) w) := by
 obtain ⟨w0, hw0⟩ : ∃ x, x = w.alloc (.cells zeroSn 38) := ⟨_, rfl⟩
 have hb0 : Below w.heap.size w w0 := by rw [hw0]; exact (Below.refl _ _).alloc (Nat.le_refl _) _
 have hx0 : Blk w0 w.heap.size 38 zeroSn := by rw [hw0]; exact Blk.new_ w _ _
 obtain ⟨res, hres⟩ : ∃ r, r = readS bs := ⟨_, rfl⟩
 rw [← hres]
 have HRES := Lib.hid hres; clear hres
 obtain ⟨⟨p, n, u⟩, hu⟩ : ∃ z, z = unframe bs := ⟨_, rfl⟩
 have HUF : Hid (Calls Tryz.prog 60 #[.slice A bs.length c] w0 (UfPost (p, n, u) w0)) := Lib.hid (by rw [hu]; exact RUnframe_any (hs.below hb0) hc)
 have HU := Lib.hid hu; clear hu
 have HC := Lib.hid hc; clear hc
 have HM : Hid True := Lib.hid trivial
 have HROOM := Lib.hid hroom; clear hroom
 have HS := Lib.hid hs; clear hs
 have HB0 := Lib.hid hb0; clear hb0
 have HX0 := Lib.hid hx0; clear hx0
 have HW0 := Lib.hid hw0; clear hw0
 go_enter Tryz.func33, Tryz.ntmps33
 go_upto_region 1 with fail
 have hzz := HW0.out
 unfold zeroSn at hzz
 rw [← hzz]
 clear hzz HW0
 go_wp2_with fail
 (with_reducible refine HUF.out.mono ?_); rintro e w1 ⟨P, cp, rfl, ho1, hb1⟩
 simp only at ho1 ⊢
 have HB1 : Hid (Below w.heap.size w w1) := Lib.hid (HB0.out.trans (hb1.mono HB0.out.size))
 have HX1 : Hid (Blk w1 w.heap.size 38 zeroSn) := Lib.hid (HX0.out.below hb1 HX0.out.lt)
 have HO1 := Lib.hid ho1; clear ho1 hb1
 have hsz1 : w.heap.size < w1.heap.size := HX1.out.lt
 have HZ1 := Lib.hid hsz1; clear hsz1
 have HXW : Hid (∀ W, Below w1.heap.size w1 W → Blk W w.heap.size 38 zeroSn) := Lib.hid fun W hb => HX1.out.below hb HX1.out.lt
 have HBB : Hid (∀ W, Below w1.heap.size w1 W → Below w.heap.size w W) := Lib.hid fun W hb => HB1.out.trans (hb.mono HB1.out.size)
 by_cases hu0 : u = 0
 ·subst hu0
  have hpl4 : p.length ≤ 4096 := (unframe_ok HU.out.symm).2.2.2.1
  have HPL4 := Lib.hid hpl4; clear hpl4
  go_wp2_with fail
  go_loopw [4, 7] (fun hv nv wr => R1L w1 p hv nv wr) (fun hv _ _ => lenV hv)
  case atStart => exact ⟨[], p, P, cp, rfl, HO1.out.sl.2, HO1.out.cap.1, trivial, Own.mk_ (Nat.le_refl _), (Below.refl _ _).alloc (Nat.le_refl _) _, rfl, by simp⟩
  case round =>
   obtain ⟨ns, rest, A2, c2, rfl, hsl, hrc, hcm, hown, hbw, hpe, hio⟩ := hrel
   have HSL := Lib.hid hsl; clear hsl
   have HRC := Lib.hid hrc; clear hrc
   have HCM := Lib.hid hcm; clear hcm
   have HOWN := Lib.hid hown; clear hown
   have HBW := Lib.hid hbw; clear hbw
   have HPE := Lib.hid hpe; clear hpe
   have HIO := Lib.hid hio; clear hio
   have HXR := Lib.hid (HXW.out _ HBW.out)
   have HBR := Lib.hid (HBB.out _ HBW.out)
   have HNL : Hid (ns.length ≤ 4096) := Lib.hid (by have h1 := nums_lenS ns; have h2 := congrArg List.length HPE.out; rw [List.length_append] at h2; have := HPL4.out; omega)
   obtain ⟨wo, rfl⟩ : ∃ wo, wo = wr := ⟨_, rfl⟩
   by_cases h0 : 0 < rest.length
   ·have t1 : (0 : Int) < (rest.length : Int) := by omega
    have HGN := Lib.hid (RGetNum_any (c := c2) (HSL.out.below HBW.out))
    cases hg : getNum rest with
    | none =>
      have HN : Hid (res = none) := Lib.hid (by rw [HRES.out]; exact sn_stuck HU.out.symm HPE.out HIO.out (fun e => by rw [e] at h0; exact Nat.lt_irrefl 0 h0) hg)
      have HG := Lib.hid hg; clear hg
      go_wp2_with fail
      (with_reducible refine HGN.out.mono ?_); rintro e w6 ⟨-, hno, rfl⟩
      obtain rfl := hno HG.out
      unfold numV
      clear hno
      have q0 := HXR.out.free 0
      have q1 := HXR.out.free 1
      have q2 := HXR.out.free 2
      have q3 := HXR.out.free 3
      have q4 := HXR.out.free 4
      obtain ⟨d0, d1, d2, d3, d4⟩ := held5 (HXR.out) (Below.refl _ _)
      go_wp2_with fail
      obtain ⟨W9, hW9⟩ : ∃ z, z = put5 wo w.heap.size (.int .i64 0) (.int .i64 0) (.slice none 0 0) (.slice none 0 0) (.slice none 0 0) := ⟨_, rfl⟩
      have hx9 : Blk W9 w.heap.size 38 #[.int .i64 0, .int .i64 0, .slice none 0 0, .slice none 0 0, .slice none 0 0] := by rw [hW9]; exact put5_blk HXR.out
      have hf9 : Frm (fun g => g = w.heap.size) wo W9 := by rw [hW9]; exact put5_frm _ _ _ _ _ _ _
      unfold put5 at hW9
      rw [← hW9]
      obtain ⟨r0, r1, r2, r3, r4⟩ := held5 hx9 (Below.refl _ _)
      refine bodyPost_ret (v := .tuple #[.agg #[.int .i64 0, .int .i64 0, .slice none 0 0, .slice none 0 0, .slice none 0 0], .bool false]) (by simp [results, Tryz.results33, go_sem, r0, r1, r2, r3, r4]) rfl ?_
      exact RRPost.no HN.out (HBR.out.trans (hf9.to_below (fun k _ h1 h2 => by omega) HBR.out.size)) rfl
    | some q =>
      obtain ⟨y, k⟩ := q
      obtain ⟨g1, g2⟩ := num_split hg
      obtain ⟨-, f2, f3, -, -, -⟩ := getNum_inv hg
      have hdl : (rest.drop k).length = rest.length - k := List.length_drop
      have ck := cutB A2 rest.length c2 k f3
      have HSR2 : Hid (Sl fB w1 (partA A2 c2 k) (rest.drop k)) := Lib.hid (by
       have h9 := HSL.out.part (c := c2) (k := k) (m := rest.length - k) (by omega) HRC.out
       rw [List.take_of_length_le (by rw [List.length_drop]; omega)] at h9
       exact h9)
      have hcc : rest.length - k ≤ c2 - k := by have := HRC.out; omega
      have hcm : True := HCM.out
      have hlow : rest.length - k < rest.length := by omega
      have hpe2 : p = numsB (ns ++ [y]) ++ rest.drop k := by rw [numsB_snoc, List.append_assoc, ← g1]; exact HPE.out
      have hio2 : ∀ n ∈ ns ++ [y], i64ok n := fun n hn => by rcases List.mem_append.1 hn with h | h; exact HIO.out n h; rw [List.mem_singleton] at h; subst h; exact g2
      have HPE2 := Lib.hid hpe2
      have HIO2 := Lib.hid hio2
      have HLOW := Lib.hid hlow
      have HCC2 := Lib.hid hcc
      have HCM2 := Lib.hid hcm
      obtain ⟨rest2, hrest2⟩ : ∃ z, z = rest.drop k := ⟨_, rfl⟩
      rw [← hrest2] at HPE2 HSR2 hdl
      obtain ⟨A8, hA8⟩ : ∃ z, z = partA A2 c2 k := ⟨_, rfl⟩
      obtain ⟨c8, hc8⟩ : ∃ z, z = c2 - k := ⟨_, rfl⟩
      rw [← hA8] at ck HSR2
      rw [← hc8] at ck HCC2
      rw [← hdl] at ck HCC2 HLOW
      have H63 : Hid (ns.length + 1 ≤ maxLen) := Lib.hid (by have := HNL.out; unfold maxLen; omega)
      have HBY : Hid ((ns.length + 1) * 8 ≤ 140737488355328) := Lib.hid (by have := HNL.out; omega)
      have t2 : ((k : Int) == 0) = false := by rw [beq_eq_false_iff_ne]; omega
      have HG := Lib.hid hg
      clear hg g1 g2 f2 f3 hcc hcm hlow hpe2 hio2 hrest2 hA8 hc8 hdl
      go_wp2_with fail
      (with_reducible refine HGN.out.mono ?_); rintro e w6 ⟨hys, -, rfl⟩
      obtain rfl := hys y k HG.out
      unfold numV
      clear hys
      go_wp2_with (at_builtin; refine wpList_append1 (f := fI) rfl (.tmp 39) (.tmp 41) 65 rfl i64T y (fI_oneI _) rfl HOWN.out rfl rfl H63.out HBY.out HBW.out.size ?_; intro v7 w7 ho7 hb7)
      go_roundw
      case rel => exact ⟨ns ++ [y], rest2, A8, c8, rfl, HSR2.out, HCC2.out, HCM2.out, ho7, HBW.out.trans hb7, HPE2.out, HIO2.out⟩
      case measure => exact HLOW.out
   ·have t1 : ¬ (0 : Int) < (rest.length : Int) := by omega
    obtain rfl : rest = [] := List.eq_nil_of_length_eq_zero (by omega)
    have HPN : Hid (p = numsB ns) := Lib.hid (by rw [HPE.out, List.append_nil])
    have HUS := Lib.hid HU.out.symm
    clear HPE h0
    obtain ⟨N, cN, rfl⟩ := HOWN.out.form
    obtain ⟨w3, hw3⟩ : ∃ x, x = wo.alloc (.cells zeroSn 38) := ⟨_, rfl⟩
    obtain ⟨sb, hsb⟩ : ∃ x, x = wo.heap.size := ⟨_, rfl⟩
    have hb3 : Below wo.heap.size wo w3 := by rw [hw3]; exact (Below.refl _ _).alloc (Nat.le_refl _) _
    have hx3 : Blk w3 sb 38 zeroSn := by rw [hw3, hsb]; exact Blk.new_ wo _ _
    have hsz3 : w3.heap.size = sb + 1 := by rw [hw3, hsb]; exact World.size_alloc ..
    have HSB1 : Hid (w1.heap.size ≤ sb) := Lib.hid (by rw [hsb]; exact HBW.out.size)
    have HB3 : Hid (Below w1.heap.size w1 w3) := Lib.hid (HBW.out.trans (hb3.mono HBW.out.size))
    have HO3 : Hid (Mem.Own fI w1.heap.size 2 w3 (.slice N ns.length cN) ns) := Lib.hid (HOWN.out.frm (Frm.below hb3) (fun _ _ e => e))
    have HST0 : Hid (RSt w1 sb (.slice N ns.length cN) ns 0 0 0 [] [] (.slice none 0 0) (.slice none 0 0) w3) := Lib.hid ⟨hx3, Own.nil, Own.nil, (fun g hg => by simp [Value.ownBlock] at hg), HO3.out, HB3.out⟩
    have HX3 := Lib.hid (HXW.out _ HB3.out)
    have HBR3 := Lib.hid (HBB.out _ HB3.out)
    have HW3 := Lib.hid hw3; clear hw3
    have HSB := Lib.hid hsb; clear hsb
    clear hb3 hx3
    have HSZ3 := Lib.hid hsz3; clear hsz3
    go_upto_region 12 with fail
    have hzz := HW3.out
    unfold zeroSn at hzz
    rw [← hzz, ← HSB.out]
    clear hzz
    obtain ⟨s0, s1, s2, s3, s4⟩ := held5 HST0.out.blk (Below.refl _ _)
    by_cases h5 : ns.length < 5
    ·have t2 : (ns.length : Int) < 5 := by omega
     have HN : Hid (res = none) := Lib.hid (by rw [HRES.out]; exact sn_no HUS.out HPN.out HIO.out (fun a c h1 h2 e1 e2 e3 => by omega))
     clear h5
     have q0 := HX3.out.free 0
     have q1 := HX3.out.free 1
     have q2 := HX3.out.free 2
     have q3 := HX3.out.free 3
     have q4 := HX3.out.free 4
     obtain ⟨d0, d1, d2, d3, d4⟩ := held5 (HX3.out) (Below.refl _ _)
     go_wp2_with fail
     obtain ⟨W9, hW9⟩ : ∃ z, z = put5 w3 w.heap.size (.int .i64 0) (.int .i64 0) (.slice none 0 0) (.slice none 0 0) (.slice none 0 0) := ⟨_, rfl⟩
     have hx9 : Blk W9 w.heap.size 38 #[.int .i64 0, .int .i64 0, .slice none 0 0, .slice none 0 0, .slice none 0 0] := by rw [hW9]; exact put5_blk HX3.out
     have hf9 : Frm (fun g => g = w.heap.size) w3 W9 := by rw [hW9]; exact put5_frm _ _ _ _ _ _ _
     unfold put5 at hW9
     rw [← hW9]
     obtain ⟨r0, r1, r2, r3, r4⟩ := held5 hx9 (Below.refl _ _)
     refine bodyPost_ret (v := .tuple #[.agg #[.int .i64 0, .int .i64 0, .slice none 0 0, .slice none 0 0, .slice none 0 0], .bool false]) (by simp [results, Tryz.results33, go_sem, r0, r1, r2, r3, r4]) rfl ?_
     exact RRPost.no HN.out (HBR3.out.trans (hf9.to_below (fun k _ h1 h2 => by omega) HBR3.out.size)) rfl
    ·have t2 : ¬ (ns.length : Int) < 5 := by omega
     obtain ⟨gN, hgN, -⟩ := HO3.out.addr (by omega)
     subst hgN
     have hcN : ∀ (W : World), Mem.Own fI w1.heap.size 2 W (.slice (some ⟨gN, 0, none⟩) ns.length cN) ns → ∀ j, j < ns.length → W.cell? ⟨gN, j, none⟩ = some (.int .i64 (ns.getD j 0)) := fun W ho j hj => by
      have h9 := ho.sl.2.cell hj
      rw [Nat.zero_add] at h9
      rw [h9, getD_get hj]; rfl
     have HCN := Lib.hid hcN; clear hcN
     obtain ⟨n2, hn2⟩ : ∃ z, z = ns.getD 2 0 := ⟨_, rfl⟩
     have c2 : w3.cell? ⟨gN, 2, none⟩ = some (.int .i64 n2) := by rw [hn2]; exact HCN.out w3 HO3.out 2 (by omega)
     have HN2 := Lib.hid hn2; clear hn2
     by_cases hneg : n2 < 0
     ·have HN : Hid (res = none) := Lib.hid (by rw [HRES.out]; exact sn_no HUS.out HPN.out HIO.out (fun a c h1 h2 e1 e2 e3 => by rw [← HN2.out] at e1; omega))
      have q0 := HX3.out.free 0
      have q1 := HX3.out.free 1
      have q2 := HX3.out.free 2
      have q3 := HX3.out.free 3
      have q4 := HX3.out.free 4
      obtain ⟨d0, d1, d2, d3, d4⟩ := held5 (HX3.out) (Below.refl _ _)
      go_wp2_with fail
      obtain ⟨W9, hW9⟩ : ∃ z, z = put5 w3 w.heap.size (.int .i64 0) (.int .i64 0) (.slice none 0 0) (.slice none 0 0) (.slice none 0 0) := ⟨_, rfl⟩
      have hx9 : Blk W9 w.heap.size 38 #[.int .i64 0, .int .i64 0, .slice none 0 0, .slice none 0 0, .slice none 0 0] := by rw [hW9]; exact put5_blk HX3.out
      have hf9 : Frm (fun g => g = w.heap.size) w3 W9 := by rw [hW9]; exact put5_frm _ _ _ _ _ _ _
      unfold put5 at hW9
      rw [← hW9]
      obtain ⟨r0, r1, r2, r3, r4⟩ := held5 hx9 (Below.refl _ _)
      refine bodyPost_ret (v := .tuple #[.agg #[.int .i64 0, .int .i64 0, .slice none 0 0, .slice none 0 0, .slice none 0 0], .bool false]) (by simp [results, Tryz.results33, go_sem, r0, r1, r2, r3, r4]) rfl ?_
      exact RRPost.no HN.out (HBR3.out.trans (hf9.to_below (fun k _ h1 h2 => by omega) HBR3.out.size)) rfl
     by_cases hbig : 7 < n2
     ·have HN : Hid (res = none) := Lib.hid (by rw [HRES.out]; exact sn_no HUS.out HPN.out HIO.out (fun a c h1 h2 e1 e2 e3 => by rw [← HN2.out] at e1; omega))
      have q0 := HX3.out.free 0
      have q1 := HX3.out.free 1
      have q2 := HX3.out.free 2
      have q3 := HX3.out.free 3
      have q4 := HX3.out.free 4
      obtain ⟨d0, d1, d2, d3, d4⟩ := held5 (HX3.out) (Below.refl _ _)
      go_wp2_with fail
      obtain ⟨W9, hW9⟩ : ∃ z, z = put5 w3 w.heap.size (.int .i64 0) (.int .i64 0) (.slice none 0 0) (.slice none 0 0) (.slice none 0 0) := ⟨_, rfl⟩
      have hx9 : Blk W9 w.heap.size 38 #[.int .i64 0, .int .i64 0, .slice none 0 0, .slice none 0 0, .slice none 0 0] := by rw [hW9]; exact put5_blk HX3.out
      have hf9 : Frm (fun g => g = w.heap.size) w3 W9 := by rw [hW9]; exact put5_frm _ _ _ _ _ _ _
      unfold put5 at hW9
      rw [← hW9]
      obtain ⟨r0, r1, r2, r3, r4⟩ := held5 hx9 (Below.refl _ _)
      refine bodyPost_ret (v := .tuple #[.agg #[.int .i64 0, .int .i64 0, .slice none 0 0, .slice none 0 0, .slice none 0 0], .bool false]) (by simp [results, Tryz.results33, go_sem, r0, r1, r2, r3, r4]) rfl ?_
      exact RRPost.no HN.out (HBR3.out.trans (hf9.to_below (fun k _ h1 h2 => by omega) HBR3.out.size)) rfl
     obtain ⟨a, rfl⟩ : ∃ a : Nat, n2 = (a : Int) := ⟨n2.toNat, by omega⟩
     have ha7 : a ≤ 7 := by omega
     clear hneg hbig
     by_cases hsh : ns.length < a + 5
     ·have t3 : (ns.length : Int) < (a : Int) + 5 := by omega
      have HN : Hid (res = none) := Lib.hid (by rw [HRES.out]; exact sn_no HUS.out HPN.out HIO.out (fun a' c h1 h2 e1 e2 e3 => by rw [← HN2.out] at e1; omega))
      clear hsh
      have q0 := HX3.out.free 0
      have q1 := HX3.out.free 1
      have q2 := HX3.out.free 2
      have q3 := HX3.out.free 3
      have q4 := HX3.out.free 4
      obtain ⟨d0, d1, d2, d3, d4⟩ := held5 (HX3.out) (Below.refl _ _)
      go_wp2_with fail
      obtain ⟨W9, hW9⟩ : ∃ z, z = put5 w3 w.heap.size (.int .i64 0) (.int .i64 0) (.slice none 0 0) (.slice none 0 0) (.slice none 0 0) := ⟨_, rfl⟩
      have hx9 : Blk W9 w.heap.size 38 #[.int .i64 0, .int .i64 0, .slice none 0 0, .slice none 0 0, .slice none 0 0] := by rw [hW9]; exact put5_blk HX3.out
      have hf9 : Frm (fun g => g = w.heap.size) w3 W9 := by rw [hW9]; exact put5_frm _ _ _ _ _ _ _
      unfold put5 at hW9
      rw [← hW9]
      obtain ⟨r0, r1, r2, r3, r4⟩ := held5 hx9 (Below.refl _ _)
      refine bodyPost_ret (v := .tuple #[.agg #[.int .i64 0, .int .i64 0, .slice none 0 0, .slice none 0 0, .slice none 0 0], .bool false]) (by simp [results, Tryz.results33, go_sem, r0, r1, r2, r3, r4]) rfl ?_
      exact RRPost.no HN.out (HBR3.out.trans (hf9.to_below (fun k _ h1 h2 => by omega) HBR3.out.size)) rfl
     have t3 : ¬ (ns.length : Int) < (a : Int) + 5 := by omega
     obtain ⟨x, hx⟩ : ∃ z, z = ns.getD 0 0 := ⟨_, rfl⟩
     obtain ⟨t, ht⟩ : ∃ z, z = ns.getD 1 0 := ⟨_, rfl⟩
     have c0 : w3.cell? ⟨gN, 0, none⟩ = some (.int .i64 x) := by rw [hx]; exact HCN.out w3 HO3.out 0 (by omega)
     have HXE := Lib.hid hx; clear hx
     have HTE := Lib.hid ht; clear ht
     have hset0 : Frm (fun g => g = sb) w3 (w3.setCell ⟨sb, 0, none⟩ (.int .i64 x)) := (Frm.refl (fun g => g = sb) w3).setCell (p := ⟨sb, 0, none⟩) (fun _ => rfl) _
     have ho4 := own_frmT HO3.out HST0.out.blk (by decide) hset0
     have hb4 : Blk (w3.setCell ⟨sb, 0, none⟩ (.int .i64 x)) sb 38 (five x 0 0 (.slice none 0 0) (.slice none 0 0)) := HST0.out.blk.set_ 0 _
     have hset1 : Frm (fun g => g = sb) (w3.setCell ⟨sb, 0, none⟩ (.int .i64 x)) ((w3.setCell ⟨sb, 0, none⟩ (.int .i64 x)).setCell ⟨sb, 1, none⟩ (.int .i64 t)) := (Frm.refl (fun g => g = sb) _).setCell (p := ⟨sb, 1, none⟩) (fun _ => rfl) _
     have ho5 := own_frmT ho4 hb4 (by decide) hset1
     have hb5 : Blk ((w3.setCell ⟨sb, 0, none⟩ (.int .i64 x)).setCell ⟨sb, 1, none⟩ (.int .i64 t)) sb 38 (five x t 0 (.slice none 0 0) (.slice none 0 0)) := hb4.set_ 1 _
     have c1 : (w3.setCell ⟨sb, 0, none⟩ (.int .i64 x)).cell? ⟨gN, 1, none⟩ = some (.int .i64 t) := by rw [HTE.out]; exact HCN.out _ ho4 1 (by omega)
     have c3 : ((w3.setCell ⟨sb, 0, none⟩ (.int .i64 x)).setCell ⟨sb, 1, none⟩ (.int .i64 t)).cell? ⟨gN, 2, none⟩ = some (.int .i64 (a : Int)) := by rw [HN2.out]; exact HCN.out _ ho5 2 (by omega)
     have q0 := HST0.out.blk.free 0
     have q1 := hb4.free 1
     have s1' : (w3.setCell ⟨sb, 0, none⟩ (.int .i64 x)).cell? ⟨sb, 1, none⟩ = some (.int .i64 0) := hb4.cell 1
     have HO5 := Lib.hid ho5
     have HBK5 := Lib.hid hb5
     have HS01 : Hid (Frm (fun g => g = sb) w3 ((w3.setCell ⟨sb, 0, none⟩ (.int .i64 x)).setCell ⟨sb, 1, none⟩ (.int .i64 t))) := Lib.hid (hset0.trans hset1)
     clear hset0 ho4 hb4 hset1 ho5 hb5
     have hA3 : ns.length ≤ 4096 := HNL.out
     go_upto_region 17 with fail
     obtain ⟨w4, hw4⟩ : ∃ z, z = (w3.setCell ⟨sb, 0, none⟩ (.int .i64 x)).setCell ⟨sb, 1, none⟩ (.int .i64 t) := ⟨_, rfl⟩
     rw [← hw4] at HO5 HBK5 HS01 ⊢
     obtain ⟨m, hm⟩ : ∃ m, m = 3 + a := ⟨_, rfl⟩
     rw [show (3 : Int) + (a : Int) = (m : Int) by omega]
     have HB4 : Hid (Below w1.heap.size w1 w4) := Lib.hid (HB3.out.trans (HS01.out.to_below (fun k _ h1 h2 => by have := HSB1.out; omega) HB3.out.size))
     have HST : Hid (RSt w1 sb (.slice (some ⟨gN, 0, none⟩) ns.length cN) ns x t 0 [] [] (.slice none 0 0) (.slice none 0 0) w4) := Lib.hid ⟨HBK5.out, Own.nil, Own.nil, (fun g hg => by simp [Value.ownBlock] at hg), HO5.out, HB4.out⟩
     have HM2 := Lib.hid hm
     clear hw4 hm c0 c1 c2 c3 q0 q1 s0 s1 s2 s3 s4 s1' HS01 HBK5 HO5 HST0 hsh h5
     go_wp2_with fail
     go_loopw [12] (fun jv wr => R2L w1 sb (.slice (some ⟨gN, 0, none⟩) ns.length cN) ns x t 0 3 m [] (.slice none 0 0) jv wr) (fun jv _ => m - (intOf jv).toNat)
     case atStart => exact ⟨3, [], _, Nat.le_refl _, by have := HM2.out; omega, rfl, HST.out, by simp⟩
     case round =>
      obtain ⟨j, xs, xv, hj0, hj1, rfl, hst, hxs⟩ := hrel
      have HST2 := Lib.hid hst; clear hst HST
      have HXS := Lib.hid hxs; clear hxs
      obtain ⟨wi, rfl⟩ : ∃ wi, wi = wr := ⟨_, rfl⟩
      by_cases hlt : j < m
      ·obtain ⟨y, hy⟩ : ∃ z, z = ns.getD j 0 := ⟨_, rfl⟩
       have hjn : j < ns.length := by have := HM2.out; omega
       have cy : wi.cell? ⟨gN, j, none⟩ = some (.int .i64 y) := by rw [hy]; exact HCN.out wi HST2.out.nums j hjn
       have cx : wi.cell? ⟨sb, 2, none⟩ = some xv := five_cell (i := 0) (by decide) HST2.out.blk
       have cxo : ∀ o, (wi.alloc o).cell? ⟨sb, 2, none⟩ = some xv := fun o => five_cell (i := 0) (by decide) (HST2.out.blk.alloc o)
       have t4 : (j : Int) < (m : Int) := by omega
       have t5 : (0 : Int) ≤ (j : Int) := by omega
       have t6 : (j : Int) < (ns.length : Int) := by omega
       have hxl : xs.length ≤ 4096 := by rw [HXS.out, List.length_take, List.length_drop]; have := HNL.out; omega
       obtain ⟨zs, hzs⟩ : ∃ zs, zs = xs ++ [y] := ⟨_, rfl⟩
       have HZT : Hid (zs = (ns.drop (3)).take (j + 1 - (3))) := Lib.hid (by
        rw [hzs, HXS.out, show j + 1 - (3) = (j - (3)) + 1 by omega, List.take_succ_eq_append_getElem (by rw [List.length_drop]; omega), List.getElem_drop, hy, getD_get hjn]
        congr 2; congr 1; omega)
       have HZS := Lib.hid hzs; clear hzs
       have H63 : Hid (xs.length + 1 ≤ maxLen) := by show _ ≤ _; unfold maxLen; omega
       have HBY : Hid ((xs.length + 1) * 8 ≤ 140737488355328) := by show _ ≤ _; omega
       obtain ⟨hoa, hce, hbs⟩ := RSt.ownD y HST2.out
       have HOA := Lib.hid hoa
       have HCE := Lib.hid hce
       have HBS := Lib.hid hbs
       clear hy hxl hoa hce hbs
       go_wp2_with fail
       go_region_law (refine step_append1g (f := fI) (W := (wi.alloc (.cells #[.int .i64 y] 3)).drew) (v := xv) (xs := xs) (g := wi.heap.size) (c := 1) (base := sb + 1) (e := 3) ?_ (.tmp 91) (.tmp 96) 33 ?_ intTI y (fI_oneI _) ?_ HOA.out ?_ HCE.out H63.out HBY.out HBS.out ?_; rfl; rfl; rfl; rfl; intro v7 w7 ho7 hg7 hat7; obtain ⟨A7, e7, rfl, hs7, c7, q7⟩ := HST2.out.step (by decide) HSB1.out HZS.out ho7 hg7 hat7; have c8 : w7.cell? ⟨sb, 2, none⟩ = some xv := c7; have q8 : w7.frozen? ⟨sb, 2, none⟩ = false := q7; have HS7 : Hid (RSt w1 sb (.slice (some ⟨gN, 0, none⟩) ns.length cN) ns x t 0 zs [] (.slice A7 zs.length e7) (.slice none 0 0) (w7.setCell ⟨sb, 2, none⟩ (.slice A7 zs.length e7))) := Lib.hid hs7; clear hs7 c7 q7 ho7 hg7 hat7)
       all_goals (go_wp2_with fail; go_roundw; (case rel => exact ⟨j + 1, zs, _, by omega, by omega, by go_num, HS7.out, HZT.out⟩); (case measure => simp [intOf]; omega))
      ·obtain rfl : j = m := by omega
       have HVS : Hid (xs = (ns.drop 3).take (ns.getD 2 0).toNat) := Lib.hid (by rw [HXS.out, ← HN2.out, Int.toNat_natCast]; congr 1; have := HM2.out; omega)
       have HXI := Lib.hid (HXW.out _ HST2.out.bel)
       have HBI := Lib.hid (HBB.out _ HST2.out.bel)
       obtain ⟨VA, ca, rfl⟩ := HST2.out.own.form
       clear HXS hlt
       have t4 : ¬ (j : Int) < (j : Int) := by omega
       have hjn : j < ns.length := by have := HM2.out; omega
       obtain ⟨n3, hn3⟩ : ∃ z, z = ns.getD j 0 := ⟨_, rfl⟩
       have cj : wi.cell? ⟨gN, j, none⟩ = some (.int .i64 n3) := by rw [hn3]; exact HCN.out wi HST2.out.nums j hjn
       have hn3' : n3 = ns.getD (3 + a) 0 := by rw [hn3, HM2.out]
       have HN3 := Lib.hid hn3'; clear hn3 hn3'
       have t5 : (0 : Int) ≤ (j : Int) := by omega
       have t6 : (j : Int) < (ns.length : Int) := by omega
       by_cases hneg : n3 < 0
       ·have HN : Hid (res = none) := Lib.hid (by rw [HRES.out]; exact sn_no HUS.out HPN.out HIO.out (fun a' c h1 h2 e1 e2 e3 => by rw [← HN2.out] at e1; obtain rfl : a = a' := (by omega); rw [← HN3.out] at e2; omega))
        have q0 := HXI.out.free 0
        have q1 := HXI.out.free 1
        have q2 := HXI.out.free 2
        have q3 := HXI.out.free 3
        have q4 := HXI.out.free 4
        obtain ⟨d0, d1, d2, d3, d4⟩ := held5 (HXI.out) (Below.refl _ _)
        go_wp2_with fail
        obtain ⟨W9, hW9⟩ : ∃ z, z = put5 wi w.heap.size (.int .i64 0) (.int .i64 0) (.slice none 0 0) (.slice none 0 0) (.slice none 0 0) := ⟨_, rfl⟩
        have hx9 : Blk W9 w.heap.size 38 #[.int .i64 0, .int .i64 0, .slice none 0 0, .slice none 0 0, .slice none 0 0] := by rw [hW9]; exact put5_blk HXI.out
        have hf9 : Frm (fun g => g = w.heap.size) wi W9 := by rw [hW9]; exact put5_frm _ _ _ _ _ _ _
        unfold put5 at hW9
        rw [← hW9]
        obtain ⟨r0, r1, r2, r3, r4⟩ := held5 hx9 (Below.refl _ _)
        refine bodyPost_ret (v := .tuple #[.agg #[.int .i64 0, .int .i64 0, .slice none 0 0, .slice none 0 0, .slice none 0 0], .bool false]) (by simp [results, Tryz.results33, go_sem, r0, r1, r2, r3, r4]) rfl ?_
        exact RRPost.no HN.out (HBI.out.trans (hf9.to_below (fun k _ h1 h2 => by omega) HBI.out.size)) rfl
       by_cases hbig : 7 < n3
       ·have HN : Hid (res = none) := Lib.hid (by rw [HRES.out]; exact sn_no HUS.out HPN.out HIO.out (fun a' c h1 h2 e1 e2 e3 => by rw [← HN2.out] at e1; obtain rfl : a = a' := (by omega); rw [← HN3.out] at e2; omega))
        have q0 := HXI.out.free 0
        have q1 := HXI.out.free 1
        have q2 := HXI.out.free 2
        have q3 := HXI.out.free 3
        have q4 := HXI.out.free 4
        obtain ⟨d0, d1, d2, d3, d4⟩ := held5 (HXI.out) (Below.refl _ _)
        go_wp2_with fail
        obtain ⟨W9, hW9⟩ : ∃ z, z = put5 wi w.heap.size (.int .i64 0) (.int .i64 0) (.slice none 0 0) (.slice none 0 0) (.slice none 0 0) := ⟨_, rfl⟩
        have hx9 : Blk W9 w.heap.size 38 #[.int .i64 0, .int .i64 0, .slice none 0 0, .slice none 0 0, .slice none 0 0] := by rw [hW9]; exact put5_blk HXI.out
        have hf9 : Frm (fun g => g = w.heap.size) wi W9 := by rw [hW9]; exact put5_frm _ _ _ _ _ _ _
        unfold put5 at hW9
        rw [← hW9]
        obtain ⟨r0, r1, r2, r3, r4⟩ := held5 hx9 (Below.refl _ _)
        refine bodyPost_ret (v := .tuple #[.agg #[.int .i64 0, .int .i64 0, .slice none 0 0, .slice none 0 0, .slice none 0 0], .bool false]) (by simp [results, Tryz.results33, go_sem, r0, r1, r2, r3, r4]) rfl ?_
        exact RRPost.no HN.out (HBI.out.trans (hf9.to_below (fun k _ h1 h2 => by omega) HBI.out.size)) rfl
       obtain ⟨b, rfl⟩ : ∃ b : Nat, n3 = (b : Int) := ⟨n3.toNat, by omega⟩
       have hb7 : b ≤ 7 := by omega
       clear hneg hbig
       by_cases hshp : ns.length = j + b + 2
       ·have t7 : ((ns.length : Int) != (j : Int) + (b : Int) + 2) = false := by rw [bne_eq_false_iff_eq]; omega
        have HSHP := Lib.hid hshp; clear hshp
        have HSW := Lib.hid HST2.out.swap
        have hjm : j + 1 ≤ ns.length - 1 := by have := HSHP.out; omega
        have HJM := Lib.hid hjm; clear hjm
        go_wp2_with fail
        clear t7 cj t4 t5 t6
        go_loopw [13] (fun jv wr => R2L w1 sb (.slice (some ⟨gN, 0, none⟩) ns.length cN) ns x t 1 (j + 1) (ns.length - 1) xs (.slice VA xs.length ca) jv wr) (fun jv _ => ns.length - (intOf jv).toNat)
        case atStart => exact ⟨j + 1, [], _, Nat.le_refl _, HJM.out, by go_num, HSW.out, by simp⟩
        case round =>
         obtain ⟨j', xs', xv', hj0', hj1', hjv, hst3, hxs'⟩ := hrel
         subst hjv
         have HST3 := Lib.hid hst3; clear hst3
         have HXS' := Lib.hid hxs'; clear hxs'
         obtain ⟨wk, rfl⟩ : ∃ wk, wk = wr := ⟨_, rfl⟩
         by_cases hlt : j' < ns.length - 1
         ·obtain ⟨y, hy⟩ : ∃ z, z = ns.getD j' 0 := ⟨_, rfl⟩
          have hjn : j' < ns.length := by have := HM2.out; omega
          have cy : wk.cell? ⟨gN, j', none⟩ = some (.int .i64 y) := by rw [hy]; exact HCN.out wk HST3.out.nums j' hjn
          have cx : wk.cell? ⟨sb, 3, none⟩ = some xv' := five_cell (i := 1) (by decide) HST3.out.blk
          have cxo : ∀ o, (wk.alloc o).cell? ⟨sb, 3, none⟩ = some xv' := fun o => five_cell (i := 1) (by decide) (HST3.out.blk.alloc o)
          have t4 : (j' : Int) < (ns.length : Int) - 1 := by omega
          have t5 : (0 : Int) ≤ (j' : Int) := by omega
          have t6 : (j' : Int) < (ns.length : Int) := by omega
          have hxl : xs'.length ≤ 4096 := by rw [HXS'.out, List.length_take, List.length_drop]; have := HNL.out; omega
          obtain ⟨zs, hzs⟩ : ∃ zs, zs = xs' ++ [y] := ⟨_, rfl⟩
          have HZT : Hid (zs = (ns.drop (j + 1)).take (j' + 1 - (j + 1))) := Lib.hid (by
           rw [hzs, HXS'.out, show j' + 1 - (j + 1) = (j' - (j + 1)) + 1 by omega, List.take_succ_eq_append_getElem (by rw [List.length_drop]; omega), List.getElem_drop, hy, getD_get hjn]
           congr 2; congr 1; omega)
          have HZS := Lib.hid hzs; clear hzs
          have H63 : Hid (xs'.length + 1 ≤ maxLen) := by show _ ≤ _; unfold maxLen; omega
          have HBY : Hid ((xs'.length + 1) * 8 ≤ 140737488355328) := by show _ ≤ _; omega
          obtain ⟨hoa, hce, hbs⟩ := RSt.ownD y HST3.out
          have HOA := Lib.hid hoa
          have HCE := Lib.hid hce
          have HBS := Lib.hid hbs
          clear hy hxl hoa hce hbs
          go_wp2_with fail
          go_region_law (refine step_append1g (f := fI) (W := (wk.alloc (.cells #[.int .i64 y] 3)).drew) (v := xv') (xs := xs') (g := wk.heap.size) (c := 1) (base := sb + 1) (e := 3) ?_ (.tmp 136) (.tmp 141) 33 ?_ intTI y (fI_oneI _) ?_ HOA.out ?_ HCE.out H63.out HBY.out HBS.out ?_; rfl; rfl; rfl; rfl; intro v7 w7 ho7 hg7 hat7; obtain ⟨A7, e7, rfl, hs7, c7, q7⟩ := HST3.out.step (by decide) HSB1.out HZS.out ho7 hg7 hat7; have c8 : w7.cell? ⟨sb, 3, none⟩ = some xv' := c7; have q8 : w7.frozen? ⟨sb, 3, none⟩ = false := q7; have HS7 : Hid (RSt w1 sb (.slice (some ⟨gN, 0, none⟩) ns.length cN) ns x t 1 zs xs (.slice A7 zs.length e7) (.slice VA xs.length ca) (w7.setCell ⟨sb, 3, none⟩ (.slice A7 zs.length e7))) := Lib.hid hs7; clear hs7 c7 q7 ho7 hg7 hat7)
          all_goals (go_wp2_with fail; go_roundw; (case rel => exact ⟨j' + 1, zs, _, by omega, by omega, by go_num, HS7.out, HZT.out⟩); (case measure => simp [intOf]; omega))
         ·obtain rfl : j' = ns.length - 1 := by omega
          have HLS : Hid (xs' = (ns.drop (3 + (ns.getD 2 0).toNat + 1)).take (ns.length - 1 - (3 + (ns.getD 2 0).toNat + 1))) := Lib.hid (by rw [HXS'.out, ← HN2.out, Int.toNat_natCast]; have := HM2.out; rw [show 3 + a = j by omega])
          have HBK := Lib.hid HST3.out.bel
          obtain ⟨LA, cl, rfl⟩ := HST3.out.own.form
          have t4 : ¬ ((ns.length - 1 : Nat) : Int) < (ns.length : Int) - 1 := by omega
          have hnb : n ≤ bs.length := (unframe_ok HUS.out).2.2.1
          have ck := cutB A bs.length c n hnb
          have HSR : Hid (Sl fB w (partA A c n) (bs.drop n)) := Lib.hid (by
           have h9 := HS.out.part (c := c) (k := n) (m := bs.length - n) (by omega) HC.out
           rw [List.take_of_length_le (by rw [List.length_drop]; omega)] at h9
           exact h9)
          have hdl : (bs.drop n).length = bs.length - n := List.length_drop
          have hcc : bs.length - n ≤ c - n := by have := HC.out; omega
          have hcm : True := HM.out
          obtain ⟨A6, hA6⟩ : ∃ z, z = partA A c n := ⟨_, rfl⟩
          obtain ⟨b0, hb0⟩ : ∃ z, z = bs.drop n := ⟨_, rfl⟩
          obtain ⟨c6, hc6⟩ : ∃ z, z = c - n := ⟨_, rfl⟩
          have hbl : b0.length ≤ 140737488351232 := by rw [hb0, hdl]; have := HROOM.out; omega
          rw [← hb0] at hdl HSR
          rw [← hA6] at HSR ck
          rw [← hc6] at ck hcc
          rw [← hdl] at ck hcc
          have HCC := Lib.hid hcc
          have HCM2 := Lib.hid hcm
          have HBL := Lib.hid hbl
          have HB0E := Lib.hid hb0
          clear hdl hcc hcm hA6 hb0 hc6 hnb hbl hlt HXS'
          go_wp2_with fail
          clear ck t4
          go_loopw [14] (fun hv wr => R4L w w1 sb (.slice (some ⟨gN, 0, none⟩) ns.length cN) ns x t xs xs' (.slice VA xs.length ca) (.slice LA xs'.length cl) b0 hv wr) (fun hv _ => lenV hv)
          case atStart => exact ⟨[], [], b0, A6, c6, _, rfl, HSR.out, HCC.out, HCM2.out, HST3.out.blk, HST3.out.oth, HST3.out.own, Own.nil, HST3.out.nums, HST3.out.bel, rfl, by simp, by simp, rfl⟩
          case round =>
           obtain ⟨ps, acc, rest, A7, c7, dv, hhv, hsl, hrc, hcm, hsb, hva, hla, hdv, hnum, hbw, hbe, hps, hpl, hac⟩ := hrel
           have HAC := Lib.hid hac; clear hac
           subst hhv
           obtain ⟨DV, dc, rfl⟩ := hdv.form
           have HSL := Lib.hid hsl; clear hsl
           have HRC := Lib.hid hrc; clear hrc
           have HCM7 := Lib.hid hcm; clear hcm
           have HSB7 := Lib.hid hsb; clear hsb
           have HVA7 := Lib.hid hva; clear hva
           have HLA7 := Lib.hid hla; clear hla
           have HDV := Lib.hid hdv; clear hdv
           have HNUM := Lib.hid hnum; clear hnum
           have HBW7 := Lib.hid hbw; clear hbw
           have HBE := Lib.hid hbe; clear hbe
           have HPS := Lib.hid hps; clear hps
           have HPL := Lib.hid hpl; clear hpl
           have HXL := Lib.hid (HXW.out _ HBW7.out)
           have HBR7 := Lib.hid (HBB.out _ HBW7.out)
           have HBD : Hid (bs.drop n = framesB ps ++ rest) := Lib.hid (by rw [← HB0E.out]; exact HBE.out)
           obtain ⟨wl, rfl⟩ : ∃ wl, wl = wr := ⟨_, rfl⟩
           by_cases h0 : 0 < rest.length
           ·have t4 : (0 : Int) < (rest.length : Int) := by omega
            have hrl : rest.length ≤ b0.length := by rw [HBE.out, List.length_append]; omega
            obtain ⟨⟨pt, kn, un⟩, hu2⟩ : ∃ z, z = unframe rest := ⟨_, rfl⟩
            have HUF2 : Hid (Calls Tryz.prog 60 #[.slice A7 rest.length c7] wl (UfPost (pt, kn, un) wl)) := Lib.hid (by rw [hu2]; exact RUnframe_any (HSL.out.below HBR7.out) HRC.out)
            have HU2 := Lib.hid hu2; clear hu2
            go_wp2_with fail
            (with_reducible refine HUF2.out.mono ?_); rintro e w6 ⟨P6, cp6, rfl, ho6, hb6⟩
            simp only at ho6 ⊢
            have HB6 : Hid (Below w1.heap.size w1 w6) := Lib.hid (HBW7.out.trans (hb6.mono HBW7.out.size))
            have HXM := Lib.hid (HXW.out _ HB6.out)
            have HBM := Lib.hid (HBB.out _ HB6.out)
            by_cases hun : un = 0
            ·subst hun
             obtain ⟨f1, f2, f3, f4, f5⟩ := unframe_ok HU2.out.symm
             have hsb6 := HSB7.out.below hb6 HSB7.out.lt
             have hva6 := Mem.Own.frm HVA7.out (Frm.below hb6) (fun _ _ e => e)
             have hla6 := Mem.Own.frm HLA7.out (Frm.below hb6) (fun _ _ e => e)
             have hdv6 := Mem.Own.frm HDV.out (Frm.below hb6) (fun _ _ e => e)
             have hnum6 := Mem.Own.frm HNUM.out (Frm.below hb6) (fun _ _ e => e)
             obtain ⟨s0, s1, s2, s3, s4⟩ := held5 hsb6 (Below.refl _ _)
             have hfl : (ps ++ [pt]).flatten.length ≤ b0.length := by
              rw [List.flatten_append, List.length_append]
              have h1 := frames_flat ps
              have h2 := congrArg List.length HBE.out
              rw [List.length_append] at h2
              have h3 : ([pt].flatten).length = pt.length := by simp
              omega
             have hfe : acc ++ pt = (ps ++ [pt]).flatten := by rw [HAC.out]; simp
             have HJN := Lib.hid (Join_f hdv6 ho6 ((frs_of ho6).apart HDV.out) (Nat.le_trans hsb6.lt (Nat.le_refl _)) (by have := HBL.out; have h4 := congrArg List.length hfe; rw [List.length_append] at h4; omega))
             rw [hfe] at HJN
             obtain ⟨nd, hnd⟩ : ∃ z, z = (ps ++ [pt]).flatten := ⟨_, rfl⟩
             rw [← hnd] at HJN
             have ck := cutB A7 rest.length c7 kn f3
             have HSR2 : Hid (Sl fB w (partA A7 c7 kn) (rest.drop kn)) := Lib.hid (by
              have h9 := HSL.out.part (c := c7) (k := kn) (m := rest.length - kn) (by omega) HRC.out
              rw [List.take_of_length_le (by rw [List.length_drop]; omega)] at h9
              exact h9)
             have hdl : (rest.drop kn).length = rest.length - kn := List.length_drop
             have hcc : rest.length - kn ≤ c7 - kn := by have := HRC.out; omega
             have hcm : True := HCM7.out
             have hlow : rest.length - kn < rest.length := by omega
             have hbe2 : b0 = framesB (ps ++ [pt]) ++ rest.drop kn := by
              rw [HBE.out]
              unfold framesB
              rw [List.flatMap_append, List.flatMap_singleton, List.append_assoc, ← f1, List.take_append_drop]
             have hps2 : ∀ p ∈ ps ++ [pt], p.length ≤ 4096 := fun p hp => by rcases List.mem_append.1 hp with h | h; exact HPS.out p h; rw [List.mem_singleton] at h; subst h; exact f4
             have HBE2 := Lib.hid hbe2
             have HPS2 := Lib.hid hps2
             have HFL2 := Lib.hid hfl
             have HLOW := Lib.hid hlow
             have HCC2 := Lib.hid hcc
             have HCM3 := Lib.hid hcm
             obtain ⟨rest2, hrest2⟩ : ∃ z, z = rest.drop kn := ⟨_, rfl⟩
             rw [← hrest2] at HBE2 HSR2 hdl
             obtain ⟨A8, hA8⟩ : ∃ z, z = partA A7 c7 kn := ⟨_, rfl⟩
             obtain ⟨c8, hc8⟩ : ∃ z, z = c7 - kn := ⟨_, rfl⟩
             rw [← hA8] at ck HSR2
             rw [← hc8] at ck HCC2
             rw [← hdl] at ck HCC2 HLOW
             have HND := Lib.hid hnd
             have HSB6 := Lib.hid hsb6
             have HVA6 := Lib.hid hva6
             have HLA6 := Lib.hid hla6
             have HDV6 := Lib.hid hdv6
             have HNUM6 := Lib.hid hnum6
             clear f1 f2 f3 f4 f5 hfl hfe hnd hcc hcm hlow hbe2 hps2 hrest2 hA8 hc8 hdl hsb6 hva6 hla6 hdv6 hnum6 ho6 hb6 hrl
             go_wp2_with fail
             (with_reducible refine HJN.out.mono ?_); rintro e w8 ⟨v8, rfl, ho8, hat8, hf8⟩
             obtain ⟨A9, e9, rfl⟩ := ho8.form
             have hsb8 := blk_frmO HSB6.out HDV6.out (by decide) hf8
             have y4 := hsb8.free 4
             have y5 : w8.cell? ⟨sb, 4, none⟩ = some (.slice DV acc.length dc) := hsb8.cell 4
             have HSB8 := Lib.hid hsb8
             have HVA8 := Lib.hid (own_frmO HVA6.out HDV6.out (by decide) hf8)
             have HLA8 := Lib.hid (own_frmO HLA6.out HDV6.out (by decide) hf8)
             have HNUM8 := Lib.hid (own_frmO HNUM6.out HDV6.out (by decide) hf8)
             have HO8 := Lib.hid ho8
             have HB8 : Hid (Below w1.heap.size w1 w8) := Lib.hid (HB6.out.trans (hf8.to_below (fun k _ h1 h2 => by have := (HDV6.out.lt k h2).1; have := HSB1.out; omega) HB6.out.size))
             clear hsb8 ho8 hat8 hf8 s0 s1 s2 s3 s4
             go_wp2_with fail
             go_roundw
             case rel =>
              have hf9 : Frm (fun k => k = sb) w8 (w8.setCell ⟨sb, 4, none⟩ (.slice A9 nd.length e9)) := (Frm.refl (fun k => k = sb) w8).setCell (p := ⟨sb, 4, none⟩) (fun _ => rfl) _
              exact ⟨ps ++ [pt], nd, rest2, A8, c8, _, rfl, HSR2.out, HCC2.out, HCM3.out, HSB8.out.set_ 4 _, HVA8.out.frm hf9 (fun _ h1 h2 => by omega), HLA8.out.frm hf9 (fun _ h1 h2 => by omega), HO8.out.frm hf9 (fun _ h1 h2 => by omega), own_frmT HNUM8.out HSB8.out (by decide) hf9, HB8.out.setCell (p := ⟨sb, 4, none⟩) HSB1.out _, HBE2.out, HPS2.out, by rw [HND.out]; exact HFL2.out, HND.out⟩
             case measure => exact HLOW.out
            ·have t5 : (un != 0) = true := by rw [bne_iff_ne]; exact hun
             have HN : Hid (res = none) := Lib.hid (by rw [HRES.out]; exact sn_cut HUS.out HBD.out HPS.out (fun e => by rw [e] at h0; exact Nat.lt_irrefl 0 h0) (by rw [← HU2.out]; exact hun))
             clear hun
             have q0 := HXM.out.free 0
             have q1 := HXM.out.free 1
             have q2 := HXM.out.free 2
             have q3 := HXM.out.free 3
             have q4 := HXM.out.free 4
             obtain ⟨d0, d1, d2, d3, d4⟩ := held5 (HXM.out) (Below.refl _ _)
             go_wp2_with fail
             obtain ⟨W9, hW9⟩ : ∃ z, z = put5 w6 w.heap.size (.int .i64 0) (.int .i64 0) (.slice none 0 0) (.slice none 0 0) (.slice none 0 0) := ⟨_, rfl⟩
             have hx9 : Blk W9 w.heap.size 38 #[.int .i64 0, .int .i64 0, .slice none 0 0, .slice none 0 0, .slice none 0 0] := by rw [hW9]; exact put5_blk HXM.out
             have hf9 : Frm (fun g => g = w.heap.size) w6 W9 := by rw [hW9]; exact put5_frm _ _ _ _ _ _ _
             unfold put5 at hW9
             rw [← hW9]
             obtain ⟨r0, r1, r2, r3, r4⟩ := held5 hx9 (Below.refl _ _)
             refine bodyPost_ret (v := .tuple #[.agg #[.int .i64 0, .int .i64 0, .slice none 0 0, .slice none 0 0, .slice none 0 0], .bool false]) (by simp [results, Tryz.results33, go_sem, r0, r1, r2, r3, r4]) rfl ?_
             exact RRPost.no HN.out (HBM.out.trans (hf9.to_below (fun k _ h1 h2 => by omega) HBM.out.size)) rfl
           ·have t4 : ¬ (0 : Int) < (rest.length : Int) := by omega
            obtain rfl : rest = [] := List.eq_nil_of_length_eq_zero (by omega)
            have HBF : Hid (bs.drop n = framesB ps) := Lib.hid (by rw [HBD.out, List.append_nil])
            clear h0
            obtain ⟨l, hl⟩ : ∃ l, l = ns.length - 1 := ⟨_, rfl⟩
            obtain ⟨last, hlast⟩ : ∃ z, z = ns.getD (ns.length - 1) 0 := ⟨_, rfl⟩
            have hcl : wl.cell? ⟨gN, l, none⟩ = some (.int .i64 last) := by rw [hlast, hl]; exact HCN.out wl HNUM.out _ (by have := HSHP.out; omega)
            have HCL := Lib.hid hcl; clear hcl
            have e1 : IntKind.i64.wrap ((ns.length : Int) - 1) = (l : Int) := by rw [IntKind.wrap_i64]; have := HSHP.out; have := HNL.out; omega
            have t5 : (0 : Int) ≤ (l : Int) := by omega
            have t6 : (l : Int) < (ns.length : Int) := by have := HSHP.out; omega
            have HLE : Hid (last = ns.getD (ns.length - 1) 0) := Lib.hid hlast
            clear hl hlast
            obtain ⟨pR, hpR⟩ : ∃ z, z = snapB x t xs xs' acc := ⟨_, rfl⟩
            obtain ⟨pL, hpL⟩ : ∃ z, z = decide ((acc.length : Int) = last) := ⟨_, rfl⟩
            obtain ⟨pB, hpB⟩ : ∃ z, z = decide (snB x t xs xs' acc = bs) := ⟨_, rfl⟩
            have hall : ∀ s', isSn bs s' → s' = ⟨x, t, xs, xs', acc⟩ := fun s' h => sn_all (s := ⟨x, t, xs, xs', acc⟩) HUS.out HPN.out HIO.out HBF.out HPS.out HXE.out HTE.out HVS.out HLS.out HAC.out h
            have HYN : Hid ((tstB pR pL pB = true → res = none) ∧ (tstB pR pL pB = false → res = some ⟨x, t, xs, xs', acc⟩)) := Lib.hid (by
             refine ⟨fun h => ?_, fun h => ?_⟩
             ·rw [HRES.out]
              refine readS_none fun s' hs' => ?_
              have he := hall s' hs'
              have h3 := sn_last HUS.out HPN.out HIO.out hs'
              subst he
              have h1 : pR = true := by rw [hpR]; exact hs'.1
              have h2 : pB = true := by rw [hpB]; exact decide_eq_true hs'.2.symm
              have h4 : pL = true := by rw [hpL, HLE.out]; exact decide_eq_true h3
              rw [h1, h2, h4] at h; cases h
             ·rw [HRES.out]
              unfold tstB at h
              simp only [Bool.not_eq_false', Bool.and_eq_true] at h
              obtain ⟨h1, h2, h3⟩ := h
              refine readS_iff.2 ⟨by rw [← hpR]; exact h1, ?_⟩
              rw [hpB] at h3
              exact (of_decide_eq_true h3).symm)
            have hin : ∀ W, Below wl.heap.size wl W → SnIn W VA xs LA xs' DV acc := fun W hb => ⟨HVA7.out.sl.2.below hb, HLA7.out.sl.2.below hb, HDV.out.sl.2.below hb⟩
            have HRG : Hid (∀ W, Below wl.heap.size wl W → Calls Tryz.prog 25 #[.agg #[.int .i64 x, .int .i64 t, .slice VA xs.length ca, .slice LA xs'.length cl, .slice DV acc.length dc]] W (BoolW pR wl)) := Lib.hid fun W hb => (RSnRight_any (a := ca) (b := cl) (d := dc) (x := x) (t := t) (hin W hb)).mono fun e w' hh => ⟨by rw [hpR]; exact hh.1, hb.trans (hh.2.mono hb.size)⟩
            have HBT : Hid (pR = true → ∀ W, Below wl.heap.size wl W → Calls Tryz.prog 40 #[.agg #[.int .i64 x, .int .i64 t, .slice VA xs.length ca, .slice LA xs'.length cl, .slice DV acc.length dc]] W (BtW (snB x t xs xs' acc) wl)) := Lib.hid fun hp W hb => by
             rw [hpR] at hp
             obtain ⟨h1, h2, h3, h4⟩ := snap_parts hp
             obtain ⟨hv, hl'⟩ := rconf_rise h3
             refine (RSnBytes_any (a := ca) (b := cl) (d := dc) (hin W hb) HDV.out.cap.1 ⟨by omega, by omega⟩ ⟨by omega, by omega⟩ (rise_small hv) (rise_small hl') (fun n hn => by have := rise_mem hv hn; omega) (fun n hn => by have := rise_mem hl' hn; omega) h4).mono fun e w' hh => ?_
             obtain ⟨v, he, ho, hb2⟩ := hh
             obtain ⟨AB, cB, rfl⟩ := ho.form
             exact ⟨AB, cB, he, ho.sl.2, hb.trans (hb2.mono hb.size)⟩
            have HSM : Hid (∀ W AB cB, Below wl.heap.size wl W → Sl fB W AB (snB x t xs xs' acc) → Calls Tryz.prog 21 #[.slice AB (snB x t xs xs' acc).length cB, .slice A bs.length c] W (Quiet (.bool pB) W)) := Lib.hid fun W AB cB hb hs => by
             rw [hpB]; exact SameBytes_any AB A cB c _ _ W hs (HS.out.below (HBR7.out.trans (hb.mono HBR7.out.size)))
            have HPL2 := Lib.hid hpL
            have hdr := below_drew0 wl
            clear hpR hpL hpB hall hin
            go_wp2_with fail
            go_cut [189] (fun v wx => v = .bool (tstB pR pL pB) ∧ Below wl.heap.size wl wx)
            case first =>
             cases pR with
             | false =>
               refine wp_region_held_drew (S := (fun W => W.cell? ⟨sb, 0, none⟩ = some (.int .i64 x) ∧ W.cell? ⟨sb, 1, none⟩ = some (.int .i64 t) ∧ W.cell? ⟨sb, 2, none⟩ = some (.slice VA xs.length ca) ∧ W.cell? ⟨sb, 3, none⟩ = some (.slice LA xs'.length cl) ∧ W.cell? ⟨sb, 4, none⟩ = some (.slice DV acc.length dc) ∧ W.cell? ⟨gN, l, none⟩ = some (.int .i64 last))) (by kernel_rfl) ?_ (fun hHeld => ?_)
               ·exact held6 HSB7.out HCL.out hdr
               refine wpAnyH_take (i := 0) (v := ?_) rfl (by kernel_rfl) (by kernel_rfl) (by kernel_rfl) (fun _ _ _ h => h) (Or.inl ⟨by kernel_rfl, ?_⟩) (by assumption) ?_
               rotate_left
               ·intro w hSw; (try dsimp only at hSw); go_simp; try with_reducible rfl
               try simp only [Act.put, List.getElem_toArray, List.getElem_cons_zero, List.setIfInBounds_toArray, List.set_cons_zero, List.set_cons_succ]
               refine wpAnyH_ready (rs := [1]) (by kernel_rfl) (by simp) ?_
               refine AllReadyH.cons rfl (fun K hK => ?_) AllReadyH.nil
               go_simp
               (with_reducible refine (HRG.out _ hdr).mono ?_); rintro e wR ⟨rfl, hBR⟩
               refine hK.out _ _ ?_ (fun hHeld => ?_)
               ·exact held6 HSB7.out HCL.out hBR
               clear hK K
               try simp only [Act.put, List.getElem_toArray, List.getElem_cons_succ, List.getElem_cons_zero, List.setIfInBounds_toArray, List.set_cons_zero, List.set_cons_succ]
               refine wpAnyH_take (i := 2) (v := ?_) rfl (by kernel_rfl) (by kernel_rfl) (by kernel_rfl) (fun _ _ _ h => h) (Or.inl ⟨by kernel_rfl, ?_⟩) (by assumption) ?_
               rotate_left
               ·intro w hSw; (try dsimp only at hSw); go_simp; try with_reducible rfl
               try simp only [Act.put, List.getElem_toArray, List.getElem_cons_succ, List.getElem_cons_zero, List.setIfInBounds_toArray, List.set_cons_zero, List.set_cons_succ]
               refine wpAnyH_take (i := 3) (v := ?_) rfl (by kernel_rfl) (by kernel_rfl) (by kernel_rfl) (fun _ _ _ h => h) (Or.inl ⟨by kernel_rfl, ?_⟩) (by assumption) ?_
               rotate_left
               ·intro w hSw; (try dsimp only at hSw); go_simp; try with_reducible rfl
               try simp only [Act.put, List.getElem_toArray, List.getElem_cons_succ, List.getElem_cons_zero, List.setIfInBounds_toArray, List.set_cons_zero, List.set_cons_succ]
               refine wpAnyH_take (i := 4) (v := undef) rfl (by kernel_rfl) (by kernel_rfl) (by kernel_rfl) (fun _ _ _ h => h) (Or.inr ⟨by kernel_rfl, rfl⟩) (by assumption) ?_
               try simp only [Act.put, List.getElem_toArray, List.getElem_cons_succ, List.getElem_cons_zero, List.setIfInBounds_toArray, List.set_cons_zero, List.set_cons_succ]
               refine wpAnyH_take (i := 5) (v := undef) rfl (by kernel_rfl) (by kernel_rfl) (by kernel_rfl) (fun _ _ _ h => h) (Or.inr ⟨by kernel_rfl, rfl⟩) (by assumption) ?_
               try simp only [Act.put, List.getElem_toArray, List.getElem_cons_succ, List.getElem_cons_zero, List.setIfInBounds_toArray, List.set_cons_zero, List.set_cons_succ]
               refine wpAnyH_take (i := 6) (v := undef) rfl (by kernel_rfl) (by kernel_rfl) (by kernel_rfl) (fun _ _ _ h => h) (Or.inr ⟨by kernel_rfl, rfl⟩) (by assumption) ?_
               try simp only [Act.put, List.getElem_toArray, List.getElem_cons_succ, List.getElem_cons_zero, List.setIfInBounds_toArray, List.set_cons_zero, List.set_cons_succ]
               refine wpAnyH_take (i := 7) (v := undef) rfl (by kernel_rfl) (by kernel_rfl) (by kernel_rfl) (fun _ _ _ h => h) (Or.inr ⟨by kernel_rfl, rfl⟩) (by assumption) ?_
               try simp only [Act.put, List.getElem_toArray, List.getElem_cons_succ, List.getElem_cons_zero, List.setIfInBounds_toArray, List.set_cons_zero, List.set_cons_succ]
               refine wpAnyH_take (i := 8) (v := undef) rfl (by kernel_rfl) (by kernel_rfl) (by kernel_rfl) (fun _ _ _ h => h) (Or.inr ⟨by kernel_rfl, rfl⟩) (by assumption) ?_
               try simp only [Act.put, List.getElem_toArray, List.getElem_cons_succ, List.getElem_cons_zero, List.setIfInBounds_toArray, List.set_cons_zero, List.set_cons_succ]
               refine wpAnyH_take (i := 9) (v := undef) rfl (by kernel_rfl) (by kernel_rfl) (by kernel_rfl) (fun _ _ _ h => h) (Or.inr ⟨by kernel_rfl, rfl⟩) (by assumption) ?_
               try simp only [Act.put, List.getElem_toArray, List.getElem_cons_succ, List.getElem_cons_zero, List.setIfInBounds_toArray, List.set_cons_zero, List.set_cons_succ]
               refine wpAnyH_take (i := 10) (v := undef) rfl (by kernel_rfl) (by kernel_rfl) (by kernel_rfl) (fun _ _ _ h => h) (Or.inr ⟨by kernel_rfl, rfl⟩) (by assumption) ?_
               try simp only [Act.put, List.getElem_toArray, List.getElem_cons_succ, List.getElem_cons_zero, List.setIfInBounds_toArray, List.set_cons_zero, List.set_cons_succ]
               refine wpAnyH_take (i := 11) (v := undef) rfl (by kernel_rfl) (by kernel_rfl) (by kernel_rfl) (fun _ _ _ h => h) (Or.inr ⟨by kernel_rfl, rfl⟩) (by assumption) ?_
               try simp only [Act.put, List.getElem_toArray, List.getElem_cons_succ, List.getElem_cons_zero, List.setIfInBounds_toArray, List.set_cons_zero, List.set_cons_succ]
               refine wpAnyH_take (i := 12) (v := undef) rfl (by kernel_rfl) (by kernel_rfl) (by kernel_rfl) (fun _ _ _ h => h) (Or.inr ⟨by kernel_rfl, rfl⟩) (by assumption) ?_
               try simp only [Act.put, List.getElem_toArray, List.getElem_cons_succ, List.getElem_cons_zero, List.setIfInBounds_toArray, List.set_cons_zero, List.set_cons_succ]
               refine wpAnyH_take (i := 13) (v := undef) rfl (by kernel_rfl) (by kernel_rfl) (by kernel_rfl) (fun _ _ _ h => h) (Or.inr ⟨by kernel_rfl, rfl⟩) (by assumption) ?_
               try simp only [Act.put, List.getElem_toArray, List.getElem_cons_succ, List.getElem_cons_zero, List.setIfInBounds_toArray, List.set_cons_zero, List.set_cons_succ]
               refine wpAnyH_take (i := 14) (v := ?_) rfl (by kernel_rfl) (by kernel_rfl) (by kernel_rfl) (fun _ _ _ h => h) (Or.inl ⟨by kernel_rfl, ?_⟩) (by assumption) ?_
               rotate_left
               ·intro w hSw; (try dsimp only at hSw); go_simp; try with_reducible rfl
               try simp only [Act.put, List.getElem_toArray, List.getElem_cons_succ, List.getElem_cons_zero, List.setIfInBounds_toArray, List.set_cons_zero, List.set_cons_succ]
               refine wpAnyH_take (i := 15) (v := ?_) rfl (by kernel_rfl) (by kernel_rfl) (by kernel_rfl) (fun _ _ _ h => h) (Or.inl ⟨by kernel_rfl, ?_⟩) (by assumption) ?_
               rotate_left
               ·intro w hSw; (try dsimp only at hSw); go_simp; try with_reducible rfl
               try simp only [Act.put, List.getElem_toArray, List.getElem_cons_succ, List.getElem_cons_zero, List.setIfInBounds_toArray, List.set_cons_zero, List.set_cons_succ]
               refine wpAnyH_take (i := 16) (v := undef) rfl (by kernel_rfl) (by kernel_rfl) (by kernel_rfl) (fun _ _ _ h => h) (Or.inr ⟨by kernel_rfl, rfl⟩) (by assumption) ?_
               try simp only [Act.put, List.getElem_toArray, List.getElem_cons_succ, List.getElem_cons_zero, List.setIfInBounds_toArray, List.set_cons_zero, List.set_cons_succ]
               refine wpAnyH_take (i := 17) (v := undef) rfl (by kernel_rfl) (by kernel_rfl) (by kernel_rfl) (fun _ _ _ h => h) (Or.inr ⟨by kernel_rfl, rfl⟩) (by assumption) ?_
               try simp only [Act.put, List.getElem_toArray, List.getElem_cons_succ, List.getElem_cons_zero, List.setIfInBounds_toArray, List.set_cons_zero, List.set_cons_succ]
               refine wpAnyH_take (i := 18) (v := undef) rfl (by kernel_rfl) (by kernel_rfl) (by kernel_rfl) (fun _ _ _ h => h) (Or.inr ⟨by kernel_rfl, rfl⟩) (by assumption) ?_
               try simp only [Act.put, List.getElem_toArray, List.getElem_cons_succ, List.getElem_cons_zero, List.setIfInBounds_toArray, List.set_cons_zero, List.set_cons_succ]
               refine wpAnyH_take (i := 19) (v := undef) rfl (by kernel_rfl) (by kernel_rfl) (by kernel_rfl) (fun _ _ _ h => h) (Or.inr ⟨by kernel_rfl, rfl⟩) (by assumption) ?_
               try simp only [Act.put, List.getElem_toArray, List.getElem_cons_succ, List.getElem_cons_zero, List.setIfInBounds_toArray, List.set_cons_zero, List.set_cons_succ]
               refine wpAnyH_take (i := 20) (v := undef) rfl (by kernel_rfl) (by kernel_rfl) (by kernel_rfl) (fun _ _ _ h => h) (Or.inr ⟨by kernel_rfl, rfl⟩) (by assumption) ?_
               try simp only [Act.put, List.getElem_toArray, List.getElem_cons_succ, List.getElem_cons_zero, List.setIfInBounds_toArray, List.set_cons_zero, List.set_cons_succ]
               refine wpAnyH_take (i := 21) (v := ?_) rfl (by kernel_rfl) (by kernel_rfl) (by kernel_rfl) (fun _ _ _ h => h) (Or.inl ⟨by kernel_rfl, ?_⟩) (by assumption) ?_
               rotate_left
               ·intro w hSw; (try dsimp only at hSw); go_simp; try with_reducible rfl
               try simp only [Act.put, List.getElem_toArray, List.getElem_cons_succ, List.getElem_cons_zero, List.setIfInBounds_toArray, List.set_cons_zero, List.set_cons_succ]
               refine wpAnyH_done (by kernel_rfl) ?_ _
               go_wp2_with fail
               go_meet
               exact ⟨rfl, hBR⟩
             | true =>
               have HBT := Lib.hid (HBT.out rfl)
               obtain ⟨sn, hsn⟩ : ∃ z, z = snB x t xs xs' acc := ⟨_, rfl⟩
               rw [← hsn] at HBT HSM
               clear hsn
               cases pL with
               | false =>
                 have t8 : ((acc.length : Int) != last) = true := by rw [bne_iff_ne]; exact of_decide_eq_false HPL2.out.symm
                 refine wp_region_held_drew (S := (fun W => W.cell? ⟨sb, 0, none⟩ = some (.int .i64 x) ∧ W.cell? ⟨sb, 1, none⟩ = some (.int .i64 t) ∧ W.cell? ⟨sb, 2, none⟩ = some (.slice VA xs.length ca) ∧ W.cell? ⟨sb, 3, none⟩ = some (.slice LA xs'.length cl) ∧ W.cell? ⟨sb, 4, none⟩ = some (.slice DV acc.length dc) ∧ W.cell? ⟨gN, l, none⟩ = some (.int .i64 last))) (by kernel_rfl) ?_ (fun hHeld => ?_)
                 ·exact held6 HSB7.out HCL.out hdr
                 refine wpAnyH_take (i := 0) (v := ?_) rfl (by kernel_rfl) (by kernel_rfl) (by kernel_rfl) (fun _ _ _ h => h) (Or.inl ⟨by kernel_rfl, ?_⟩) (by assumption) ?_
                 rotate_left
                 ·intro w hSw; (try dsimp only at hSw); go_simp; try with_reducible rfl
                 try simp only [Act.put, List.getElem_toArray, List.getElem_cons_zero, List.setIfInBounds_toArray, List.set_cons_zero, List.set_cons_succ]
                 refine wpAnyH_ready (rs := [1]) (by kernel_rfl) (by simp) ?_
                 refine AllReadyH.cons rfl (fun K hK => ?_) AllReadyH.nil
                 go_simp
                 (with_reducible refine (HRG.out _ hdr).mono ?_); rintro e wR ⟨rfl, hBR⟩
                 refine hK.out _ _ ?_ (fun hHeld => ?_)
                 ·exact held6 HSB7.out HCL.out hBR
                 clear hK K
                 try simp only [Act.put, List.getElem_toArray, List.getElem_cons_succ, List.getElem_cons_zero, List.setIfInBounds_toArray, List.set_cons_zero, List.set_cons_succ]
                 refine wpAnyH_take (i := 2) (v := ?_) rfl (by kernel_rfl) (by kernel_rfl) (by kernel_rfl) (fun _ _ _ h => h) (Or.inl ⟨by kernel_rfl, ?_⟩) (by assumption) ?_
                 rotate_left
                 ·intro w hSw; (try dsimp only at hSw); go_simp; try with_reducible rfl
                 try simp only [Act.put, List.getElem_toArray, List.getElem_cons_succ, List.getElem_cons_zero, List.setIfInBounds_toArray, List.set_cons_zero, List.set_cons_succ]
                 refine wpAnyH_take (i := 3) (v := ?_) rfl (by kernel_rfl) (by kernel_rfl) (by kernel_rfl) (fun _ _ _ h => h) (Or.inl ⟨by kernel_rfl, ?_⟩) (by assumption) ?_
                 rotate_left
                 ·intro w hSw; (try dsimp only at hSw); go_simp; try with_reducible rfl
                 try simp only [Act.put, List.getElem_toArray, List.getElem_cons_succ, List.getElem_cons_zero, List.setIfInBounds_toArray, List.set_cons_zero, List.set_cons_succ]
                 refine wpAnyH_take (i := 4) (v := ?_) rfl (by kernel_rfl) (by kernel_rfl) (by kernel_rfl) (fun _ _ _ h => h) (Or.inl ⟨by kernel_rfl, ?_⟩) (by assumption) ?_
                 rotate_left
                 ·intro w hSw; (try dsimp only at hSw); go_simp; try with_reducible rfl
                 try simp only [Act.put, List.getElem_toArray, List.getElem_cons_succ, List.getElem_cons_zero, List.setIfInBounds_toArray, List.set_cons_zero, List.set_cons_succ]
                 refine wpAnyH_take (i := 5) (v := ?_) rfl (by kernel_rfl) (by kernel_rfl) (by kernel_rfl) (fun _ _ _ h => h) (Or.inl ⟨by kernel_rfl, ?_⟩) (by assumption) ?_
                 rotate_left
                 ·intro w hSw; (try dsimp only at hSw); go_simp; try with_reducible rfl
                 try simp only [Act.put, List.getElem_toArray, List.getElem_cons_succ, List.getElem_cons_zero, List.setIfInBounds_toArray, List.set_cons_zero, List.set_cons_succ]
                 refine wpAnyH_take (i := 6) (v := ?_) rfl (by kernel_rfl) (by kernel_rfl) (by kernel_rfl) (fun _ _ _ h => h) (Or.inl ⟨by kernel_rfl, ?_⟩) (by assumption) ?_
                 rotate_left
                 ·intro w hSw; (try dsimp only at hSw); go_simp; try with_reducible rfl
                 try simp only [Act.put, List.getElem_toArray, List.getElem_cons_succ, List.getElem_cons_zero, List.setIfInBounds_toArray, List.set_cons_zero, List.set_cons_succ]
                 refine wpAnyH_take (i := 7) (v := ?_) rfl (by kernel_rfl) (by kernel_rfl) (by kernel_rfl) (fun _ _ _ h => h) (Or.inl ⟨by kernel_rfl, ?_⟩) (by assumption) ?_
                 rotate_left
                 ·intro w hSw; (try dsimp only at hSw); go_simp; try with_reducible rfl
                 try simp only [Act.put, List.getElem_toArray, List.getElem_cons_succ, List.getElem_cons_zero, List.setIfInBounds_toArray, List.set_cons_zero, List.set_cons_succ]
                 refine wpAnyH_take (i := 8) (v := ?_) rfl (by kernel_rfl) (by kernel_rfl) (by kernel_rfl) (fun _ _ _ h => h) (Or.inl ⟨by kernel_rfl, ?_⟩) (by assumption) ?_
                 rotate_left
                 ·intro w hSw; (try dsimp only at hSw); go_simp; try with_reducible rfl
                 try simp only [Act.put, List.getElem_toArray, List.getElem_cons_succ, List.getElem_cons_zero, List.setIfInBounds_toArray, List.set_cons_zero, List.set_cons_succ]
                 refine wpAnyH_take (i := 9) (v := ?_) rfl (by kernel_rfl) (by kernel_rfl) (by kernel_rfl) (fun _ _ _ h => h) (Or.inl ⟨by kernel_rfl, ?_⟩) (by assumption) ?_
                 rotate_left
                 ·intro w hSw; (try dsimp only at hSw); go_simp; try with_reducible rfl
                 try simp only [Act.put, List.getElem_toArray, List.getElem_cons_succ, List.getElem_cons_zero, List.setIfInBounds_toArray, List.set_cons_zero, List.set_cons_succ]
                 refine wpAnyH_take (i := 10) (v := ?_) rfl (by kernel_rfl) (by kernel_rfl) (by kernel_rfl) (fun _ _ _ h => h) (Or.inl ⟨by kernel_rfl, ?_⟩) (by assumption) ?_
                 rotate_left
                 ·intro w hSw; (try dsimp only at hSw); go_simp; try with_reducible rfl
                 try simp only [Act.put, List.getElem_toArray, List.getElem_cons_succ, List.getElem_cons_zero, List.setIfInBounds_toArray, List.set_cons_zero, List.set_cons_succ]
                 refine wpAnyH_take (i := 11) (v := ?_) rfl (by kernel_rfl) (by kernel_rfl) (by kernel_rfl) (fun _ _ _ h => h) (Or.inl ⟨by kernel_rfl, ?_⟩) (by assumption) ?_
                 rotate_left
                 ·intro w hSw; (try dsimp only at hSw); go_simp; try with_reducible rfl
                 try simp only [Act.put, List.getElem_toArray, List.getElem_cons_succ, List.getElem_cons_zero, List.setIfInBounds_toArray, List.set_cons_zero, List.set_cons_succ]
                 refine wpAnyH_take (i := 12) (v := ?_) rfl (by kernel_rfl) (by kernel_rfl) (by kernel_rfl) (fun _ _ _ h => h) (Or.inl ⟨by kernel_rfl, ?_⟩) (by assumption) ?_
                 rotate_left
                 ·intro w hSw; (try dsimp only at hSw); go_simp; try with_reducible rfl
                 try simp only [Act.put, List.getElem_toArray, List.getElem_cons_succ, List.getElem_cons_zero, List.setIfInBounds_toArray, List.set_cons_zero, List.set_cons_succ]
                 refine wpAnyH_take (i := 13) (v := ?_) rfl (by kernel_rfl) (by kernel_rfl) (by kernel_rfl) (fun _ _ _ h => h) (Or.inl ⟨by kernel_rfl, ?_⟩) (by assumption) ?_
                 rotate_left
                 ·intro w hSw; (try dsimp only at hSw); go_simp; try with_reducible rfl
                 try simp only [Act.put, List.getElem_toArray, List.getElem_cons_succ, List.getElem_cons_zero, List.setIfInBounds_toArray, List.set_cons_zero, List.set_cons_succ]
                 refine wpAnyH_take (i := 14) (v := ?_) rfl (by kernel_rfl) (by kernel_rfl) (by kernel_rfl) (fun _ _ _ h => h) (Or.inl ⟨by kernel_rfl, ?_⟩) (by assumption) ?_
                 rotate_left
                 ·intro w hSw; (try dsimp only at hSw); go_simp; try with_reducible rfl
                 try simp only [Act.put, List.getElem_toArray, List.getElem_cons_succ, List.getElem_cons_zero, List.setIfInBounds_toArray, List.set_cons_zero, List.set_cons_succ]
                 refine wpAnyH_take (i := 15) (v := ?_) rfl (by kernel_rfl) (by kernel_rfl) (by kernel_rfl) (fun _ _ _ h => h) (Or.inl ⟨by kernel_rfl, ?_⟩) (by assumption) ?_
                 rotate_left
                 ·intro w hSw; (try dsimp only at hSw); go_simp; try with_reducible rfl
                 try simp only [Act.put, List.getElem_toArray, List.getElem_cons_succ, List.getElem_cons_zero, List.setIfInBounds_toArray, List.set_cons_zero, List.set_cons_succ]
                 refine wpAnyH_take (i := 16) (v := undef) rfl (by kernel_rfl) (by kernel_rfl) (by kernel_rfl) (fun _ _ _ h => h) (Or.inr ⟨by kernel_rfl, rfl⟩) (by assumption) ?_
                 try simp only [Act.put, List.getElem_toArray, List.getElem_cons_succ, List.getElem_cons_zero, List.setIfInBounds_toArray, List.set_cons_zero, List.set_cons_succ]
                 refine wpAnyH_take (i := 17) (v := undef) rfl (by kernel_rfl) (by kernel_rfl) (by kernel_rfl) (fun _ _ _ h => h) (Or.inr ⟨by kernel_rfl, rfl⟩) (by assumption) ?_
                 try simp only [Act.put, List.getElem_toArray, List.getElem_cons_succ, List.getElem_cons_zero, List.setIfInBounds_toArray, List.set_cons_zero, List.set_cons_succ]
                 refine wpAnyH_take (i := 18) (v := undef) rfl (by kernel_rfl) (by kernel_rfl) (by kernel_rfl) (fun _ _ _ h => h) (Or.inr ⟨by kernel_rfl, rfl⟩) (by assumption) ?_
                 try simp only [Act.put, List.getElem_toArray, List.getElem_cons_succ, List.getElem_cons_zero, List.setIfInBounds_toArray, List.set_cons_zero, List.set_cons_succ]
                 refine wpAnyH_take (i := 19) (v := undef) rfl (by kernel_rfl) (by kernel_rfl) (by kernel_rfl) (fun _ _ _ h => h) (Or.inr ⟨by kernel_rfl, rfl⟩) (by assumption) ?_
                 try simp only [Act.put, List.getElem_toArray, List.getElem_cons_succ, List.getElem_cons_zero, List.setIfInBounds_toArray, List.set_cons_zero, List.set_cons_succ]
                 refine wpAnyH_take (i := 20) (v := undef) rfl (by kernel_rfl) (by kernel_rfl) (by kernel_rfl) (fun _ _ _ h => h) (Or.inr ⟨by kernel_rfl, rfl⟩) (by assumption) ?_
                 try simp only [Act.put, List.getElem_toArray, List.getElem_cons_succ, List.getElem_cons_zero, List.setIfInBounds_toArray, List.set_cons_zero, List.set_cons_succ]
                 refine wpAnyH_take (i := 21) (v := ?_) rfl (by kernel_rfl) (by kernel_rfl) (by kernel_rfl) (fun _ _ _ h => h) (Or.inl ⟨by kernel_rfl, ?_⟩) (by assumption) ?_
                 rotate_left
                 ·intro w hSw; (try dsimp only at hSw); go_simp; try with_reducible rfl
                 try simp only [Act.put, List.getElem_toArray, List.getElem_cons_succ, List.getElem_cons_zero, List.setIfInBounds_toArray, List.set_cons_zero, List.set_cons_succ]
                 refine wpAnyH_done (by kernel_rfl) ?_ _
                 go_wp2_with fail
                 go_meet
                 exact ⟨rfl, hBR⟩
               | true =>
                 have t8 : ((acc.length : Int) != last) = false := by rw [bne_eq_false_iff_eq]; exact of_decide_eq_true HPL2.out.symm
                 cases pB with
                 | false =>
                   refine wp_region_held_drew (S := (fun W => W.cell? ⟨sb, 0, none⟩ = some (.int .i64 x) ∧ W.cell? ⟨sb, 1, none⟩ = some (.int .i64 t) ∧ W.cell? ⟨sb, 2, none⟩ = some (.slice VA xs.length ca) ∧ W.cell? ⟨sb, 3, none⟩ = some (.slice LA xs'.length cl) ∧ W.cell? ⟨sb, 4, none⟩ = some (.slice DV acc.length dc) ∧ W.cell? ⟨gN, l, none⟩ = some (.int .i64 last))) (by kernel_rfl) ?_ (fun hHeld => ?_)
                   ·exact held6 HSB7.out HCL.out hdr
                   refine wpAnyH_take (i := 0) (v := ?_) rfl (by kernel_rfl) (by kernel_rfl) (by kernel_rfl) (fun _ _ _ h => h) (Or.inl ⟨by kernel_rfl, ?_⟩) (by assumption) ?_
                   rotate_left
                   ·intro w hSw; (try dsimp only at hSw); go_simp; try with_reducible rfl
                   try simp only [Act.put, List.getElem_toArray, List.getElem_cons_zero, List.setIfInBounds_toArray, List.set_cons_zero, List.set_cons_succ]
                   refine wpAnyH_ready (rs := [1]) (by kernel_rfl) (by simp) ?_
                   refine AllReadyH.cons rfl (fun K hK => ?_) AllReadyH.nil
                   go_simp
                   (with_reducible refine (HRG.out _ hdr).mono ?_); rintro e wR ⟨rfl, hBR⟩
                   refine hK.out _ _ ?_ (fun hHeld => ?_)
                   ·exact held6 HSB7.out HCL.out hBR
                   clear hK K
                   try simp only [Act.put, List.getElem_toArray, List.getElem_cons_succ, List.getElem_cons_zero, List.setIfInBounds_toArray, List.set_cons_zero, List.set_cons_succ]
                   refine wpAnyH_take (i := 2) (v := ?_) rfl (by kernel_rfl) (by kernel_rfl) (by kernel_rfl) (fun _ _ _ h => h) (Or.inl ⟨by kernel_rfl, ?_⟩) (by assumption) ?_
                   rotate_left
                   ·intro w hSw; (try dsimp only at hSw); go_simp; try with_reducible rfl
                   try simp only [Act.put, List.getElem_toArray, List.getElem_cons_succ, List.getElem_cons_zero, List.setIfInBounds_toArray, List.set_cons_zero, List.set_cons_succ]
                   refine wpAnyH_take (i := 3) (v := ?_) rfl (by kernel_rfl) (by kernel_rfl) (by kernel_rfl) (fun _ _ _ h => h) (Or.inl ⟨by kernel_rfl, ?_⟩) (by assumption) ?_
                   rotate_left
                   ·intro w hSw; (try dsimp only at hSw); go_simp; try with_reducible rfl
                   try simp only [Act.put, List.getElem_toArray, List.getElem_cons_succ, List.getElem_cons_zero, List.setIfInBounds_toArray, List.set_cons_zero, List.set_cons_succ]
                   refine wpAnyH_take (i := 4) (v := ?_) rfl (by kernel_rfl) (by kernel_rfl) (by kernel_rfl) (fun _ _ _ h => h) (Or.inl ⟨by kernel_rfl, ?_⟩) (by assumption) ?_
                   rotate_left
                   ·intro w hSw; (try dsimp only at hSw); go_simp; try with_reducible rfl
                   try simp only [Act.put, List.getElem_toArray, List.getElem_cons_succ, List.getElem_cons_zero, List.setIfInBounds_toArray, List.set_cons_zero, List.set_cons_succ]
                   refine wpAnyH_take (i := 5) (v := ?_) rfl (by kernel_rfl) (by kernel_rfl) (by kernel_rfl) (fun _ _ _ h => h) (Or.inl ⟨by kernel_rfl, ?_⟩) (by assumption) ?_
                   rotate_left
                   ·intro w hSw; (try dsimp only at hSw); go_simp; try with_reducible rfl
                   try simp only [Act.put, List.getElem_toArray, List.getElem_cons_succ, List.getElem_cons_zero, List.setIfInBounds_toArray, List.set_cons_zero, List.set_cons_succ]
                   refine wpAnyH_take (i := 6) (v := ?_) rfl (by kernel_rfl) (by kernel_rfl) (by kernel_rfl) (fun _ _ _ h => h) (Or.inl ⟨by kernel_rfl, ?_⟩) (by assumption) ?_
                   rotate_left
                   ·intro w hSw; (try dsimp only at hSw); go_simp; try with_reducible rfl
                   try simp only [Act.put, List.getElem_toArray, List.getElem_cons_succ, List.getElem_cons_zero, List.setIfInBounds_toArray, List.set_cons_zero, List.set_cons_succ]
                   refine wpAnyH_take (i := 7) (v := ?_) rfl (by kernel_rfl) (by kernel_rfl) (by kernel_rfl) (fun _ _ _ h => h) (Or.inl ⟨by kernel_rfl, ?_⟩) (by assumption) ?_
                   rotate_left
                   ·intro w hSw; (try dsimp only at hSw); go_simp; try with_reducible rfl
                   try simp only [Act.put, List.getElem_toArray, List.getElem_cons_succ, List.getElem_cons_zero, List.setIfInBounds_toArray, List.set_cons_zero, List.set_cons_succ]
                   refine wpAnyH_take (i := 8) (v := ?_) rfl (by kernel_rfl) (by kernel_rfl) (by kernel_rfl) (fun _ _ _ h => h) (Or.inl ⟨by kernel_rfl, ?_⟩) (by assumption) ?_
                   rotate_left
                   ·intro w hSw; (try dsimp only at hSw); go_simp; try with_reducible rfl
                   try simp only [Act.put, List.getElem_toArray, List.getElem_cons_succ, List.getElem_cons_zero, List.setIfInBounds_toArray, List.set_cons_zero, List.set_cons_succ]
                   refine wpAnyH_take (i := 9) (v := ?_) rfl (by kernel_rfl) (by kernel_rfl) (by kernel_rfl) (fun _ _ _ h => h) (Or.inl ⟨by kernel_rfl, ?_⟩) (by assumption) ?_
                   rotate_left
                   ·intro w hSw; (try dsimp only at hSw); go_simp; try with_reducible rfl
                   try simp only [Act.put, List.getElem_toArray, List.getElem_cons_succ, List.getElem_cons_zero, List.setIfInBounds_toArray, List.set_cons_zero, List.set_cons_succ]
                   refine wpAnyH_take (i := 10) (v := ?_) rfl (by kernel_rfl) (by kernel_rfl) (by kernel_rfl) (fun _ _ _ h => h) (Or.inl ⟨by kernel_rfl, ?_⟩) (by assumption) ?_
                   rotate_left
                   ·intro w hSw; (try dsimp only at hSw); go_simp; try with_reducible rfl
                   try simp only [Act.put, List.getElem_toArray, List.getElem_cons_succ, List.getElem_cons_zero, List.setIfInBounds_toArray, List.set_cons_zero, List.set_cons_succ]
                   refine wpAnyH_take (i := 11) (v := ?_) rfl (by kernel_rfl) (by kernel_rfl) (by kernel_rfl) (fun _ _ _ h => h) (Or.inl ⟨by kernel_rfl, ?_⟩) (by assumption) ?_
                   rotate_left
                   ·intro w hSw; (try dsimp only at hSw); go_simp; try with_reducible rfl
                   try simp only [Act.put, List.getElem_toArray, List.getElem_cons_succ, List.getElem_cons_zero, List.setIfInBounds_toArray, List.set_cons_zero, List.set_cons_succ]
                   refine wpAnyH_take (i := 12) (v := ?_) rfl (by kernel_rfl) (by kernel_rfl) (by kernel_rfl) (fun _ _ _ h => h) (Or.inl ⟨by kernel_rfl, ?_⟩) (by assumption) ?_
                   rotate_left
                   ·intro w hSw; (try dsimp only at hSw); go_simp; try with_reducible rfl
                   try simp only [Act.put, List.getElem_toArray, List.getElem_cons_succ, List.getElem_cons_zero, List.setIfInBounds_toArray, List.set_cons_zero, List.set_cons_succ]
                   refine wpAnyH_take (i := 13) (v := ?_) rfl (by kernel_rfl) (by kernel_rfl) (by kernel_rfl) (fun _ _ _ h => h) (Or.inl ⟨by kernel_rfl, ?_⟩) (by assumption) ?_
                   rotate_left
                   ·intro w hSw; (try dsimp only at hSw); go_simp; try with_reducible rfl
                   try simp only [Act.put, List.getElem_toArray, List.getElem_cons_succ, List.getElem_cons_zero, List.setIfInBounds_toArray, List.set_cons_zero, List.set_cons_succ]
                   refine wpAnyH_take (i := 14) (v := ?_) rfl (by kernel_rfl) (by kernel_rfl) (by kernel_rfl) (fun _ _ _ h => h) (Or.inl ⟨by kernel_rfl, ?_⟩) (by assumption) ?_
                   rotate_left
                   ·intro w hSw; (try dsimp only at hSw); go_simp; try with_reducible rfl
                   try simp only [Act.put, List.getElem_toArray, List.getElem_cons_succ, List.getElem_cons_zero, List.setIfInBounds_toArray, List.set_cons_zero, List.set_cons_succ]
                   refine wpAnyH_take (i := 15) (v := ?_) rfl (by kernel_rfl) (by kernel_rfl) (by kernel_rfl) (fun _ _ _ h => h) (Or.inl ⟨by kernel_rfl, ?_⟩) (by assumption) ?_
                   rotate_left
                   ·intro w hSw; (try dsimp only at hSw); go_simp; try with_reducible rfl
                   try simp only [Act.put, List.getElem_toArray, List.getElem_cons_succ, List.getElem_cons_zero, List.setIfInBounds_toArray, List.set_cons_zero, List.set_cons_succ]
                   refine wpAnyH_take (i := 16) (v := ?_) rfl (by kernel_rfl) (by kernel_rfl) (by kernel_rfl) (fun _ _ _ h => h) (Or.inl ⟨by kernel_rfl, ?_⟩) (by assumption) ?_
                   rotate_left
                   ·intro w hSw; (try dsimp only at hSw); go_simp; try with_reducible rfl
                   try simp only [Act.put, List.getElem_toArray, List.getElem_cons_succ, List.getElem_cons_zero, List.setIfInBounds_toArray, List.set_cons_zero, List.set_cons_succ]
                   refine wpAnyH_take (i := 18) (v := ?_) rfl (by kernel_rfl) (by kernel_rfl) (by kernel_rfl) (fun _ _ _ h => h) (Or.inl ⟨by kernel_rfl, ?_⟩) (by assumption) ?_
                   rotate_left
                   ·intro w hSw; (try dsimp only at hSw); go_simp; try with_reducible rfl
                   try simp only [Act.put, List.getElem_toArray, List.getElem_cons_succ, List.getElem_cons_zero, List.setIfInBounds_toArray, List.set_cons_zero, List.set_cons_succ]
                   refine wpAnyH_ready (rs := [17]) (by kernel_rfl) (by simp) ?_
                   refine AllReadyH.cons rfl (fun K hK => ?_) AllReadyH.nil
                   go_simp
                   (with_reducible refine (HBT.out _ hBR).mono ?_); rintro e wB ⟨AB, cB, rfl, hslB, hBB⟩
                   refine hK.out _ _ ?_ (fun hHeld => ?_)
                   ·exact held6 HSB7.out HCL.out hBB
                   clear hK K
                   try simp only [Act.put, List.getElem_toArray, List.getElem_cons_succ, List.getElem_cons_zero, List.setIfInBounds_toArray, List.set_cons_zero, List.set_cons_succ]
                   refine wpAnyH_ready (rs := [19]) (by kernel_rfl) (by simp) ?_
                   refine AllReadyH.cons rfl (fun K hK => ?_) AllReadyH.nil
                   go_simp
                   (with_reducible refine (HSM.out _ _ _ hBB hslB).mono ?_); rintro e wS ⟨rfl, mS, rfl⟩
                   refine hK.out _ _ ?_ (fun hHeld => ?_)
                   ·exact held6 HSB7.out HCL.out (below_drewN hBB mS)
                   clear hK K
                   try simp only [Act.put, List.getElem_toArray, List.getElem_cons_succ, List.getElem_cons_zero, List.setIfInBounds_toArray, List.set_cons_zero, List.set_cons_succ]
                   refine wpAnyH_take (i := 20) (v := ?_) rfl (by kernel_rfl) (by kernel_rfl) (by kernel_rfl) (fun _ _ _ h => h) (Or.inl ⟨by kernel_rfl, ?_⟩) (by assumption) ?_
                   rotate_left
                   ·intro w hSw; (try dsimp only at hSw); go_simp; try with_reducible rfl
                   try simp only [Act.put, List.getElem_toArray, List.getElem_cons_succ, List.getElem_cons_zero, List.setIfInBounds_toArray, List.set_cons_zero, List.set_cons_succ]
                   refine wpAnyH_take (i := 21) (v := ?_) rfl (by kernel_rfl) (by kernel_rfl) (by kernel_rfl) (fun _ _ _ h => h) (Or.inl ⟨by kernel_rfl, ?_⟩) (by assumption) ?_
                   rotate_left
                   ·intro w hSw; (try dsimp only at hSw); go_simp; try with_reducible rfl
                   try simp only [Act.put, List.getElem_toArray, List.getElem_cons_succ, List.getElem_cons_zero, List.setIfInBounds_toArray, List.set_cons_zero, List.set_cons_succ]
                   refine wpAnyH_done (by kernel_rfl) ?_ _
                   go_wp2_with fail
                   go_meet
                   exact ⟨rfl, below_drewN hBB mS⟩
                 | true =>
                   refine wp_region_held_drew (S := (fun W => W.cell? ⟨sb, 0, none⟩ = some (.int .i64 x) ∧ W.cell? ⟨sb, 1, none⟩ = some (.int .i64 t) ∧ W.cell? ⟨sb, 2, none⟩ = some (.slice VA xs.length ca) ∧ W.cell? ⟨sb, 3, none⟩ = some (.slice LA xs'.length cl) ∧ W.cell? ⟨sb, 4, none⟩ = some (.slice DV acc.length dc) ∧ W.cell? ⟨gN, l, none⟩ = some (.int .i64 last))) (by kernel_rfl) ?_ (fun hHeld => ?_)
                   ·exact held6 HSB7.out HCL.out hdr
                   refine wpAnyH_take (i := 0) (v := ?_) rfl (by kernel_rfl) (by kernel_rfl) (by kernel_rfl) (fun _ _ _ h => h) (Or.inl ⟨by kernel_rfl, ?_⟩) (by assumption) ?_
                   rotate_left
                   ·intro w hSw; (try dsimp only at hSw); go_simp; try with_reducible rfl
                   try simp only [Act.put, List.getElem_toArray, List.getElem_cons_zero, List.setIfInBounds_toArray, List.set_cons_zero, List.set_cons_succ]
                   refine wpAnyH_ready (rs := [1]) (by kernel_rfl) (by simp) ?_
                   refine AllReadyH.cons rfl (fun K hK => ?_) AllReadyH.nil
                   go_simp
                   (with_reducible refine (HRG.out _ hdr).mono ?_); rintro e wR ⟨rfl, hBR⟩
                   refine hK.out _ _ ?_ (fun hHeld => ?_)
                   ·exact held6 HSB7.out HCL.out hBR
                   clear hK K
                   try simp only [Act.put, List.getElem_toArray, List.getElem_cons_succ, List.getElem_cons_zero, List.setIfInBounds_toArray, List.set_cons_zero, List.set_cons_succ]
                   refine wpAnyH_take (i := 2) (v := ?_) rfl (by kernel_rfl) (by kernel_rfl) (by kernel_rfl) (fun _ _ _ h => h) (Or.inl ⟨by kernel_rfl, ?_⟩) (by assumption) ?_
                   rotate_left
                   ·intro w hSw; (try dsimp only at hSw); go_simp; try with_reducible rfl
                   try simp only [Act.put, List.getElem_toArray, List.getElem_cons_succ, List.getElem_cons_zero, List.setIfInBounds_toArray, List.set_cons_zero, List.set_cons_succ]
                   refine wpAnyH_take (i := 3) (v := ?_) rfl (by kernel_rfl) (by kernel_rfl) (by kernel_rfl) (fun _ _ _ h => h) (Or.inl ⟨by kernel_rfl, ?_⟩) (by assumption) ?_
                   rotate_left
                   ·intro w hSw; (try dsimp only at hSw); go_simp; try with_reducible rfl
                   try simp only [Act.put, List.getElem_toArray, List.getElem_cons_succ, List.getElem_cons_zero, List.setIfInBounds_toArray, List.set_cons_zero, List.set_cons_succ]
                   refine wpAnyH_take (i := 4) (v := ?_) rfl (by kernel_rfl) (by kernel_rfl) (by kernel_rfl) (fun _ _ _ h => h) (Or.inl ⟨by kernel_rfl, ?_⟩) (by assumption) ?_
                   rotate_left
                   ·intro w hSw; (try dsimp only at hSw); go_simp; try with_reducible rfl
                   try simp only [Act.put, List.getElem_toArray, List.getElem_cons_succ, List.getElem_cons_zero, List.setIfInBounds_toArray, List.set_cons_zero, List.set_cons_succ]
                   refine wpAnyH_take (i := 5) (v := ?_) rfl (by kernel_rfl) (by kernel_rfl) (by kernel_rfl) (fun _ _ _ h => h) (Or.inl ⟨by kernel_rfl, ?_⟩) (by assumption) ?_
                   rotate_left
                   ·intro w hSw; (try dsimp only at hSw); go_simp; try with_reducible rfl
                   try simp only [Act.put, List.getElem_toArray, List.getElem_cons_succ, List.getElem_cons_zero, List.setIfInBounds_toArray, List.set_cons_zero, List.set_cons_succ]
                   refine wpAnyH_take (i := 6) (v := ?_) rfl (by kernel_rfl) (by kernel_rfl) (by kernel_rfl) (fun _ _ _ h => h) (Or.inl ⟨by kernel_rfl, ?_⟩) (by assumption) ?_
                   rotate_left
                   ·intro w hSw; (try dsimp only at hSw); go_simp; try with_reducible rfl
                   try simp only [Act.put, List.getElem_toArray, List.getElem_cons_succ, List.getElem_cons_zero, List.setIfInBounds_toArray, List.set_cons_zero, List.set_cons_succ]
                   refine wpAnyH_take (i := 7) (v := ?_) rfl (by kernel_rfl) (by kernel_rfl) (by kernel_rfl) (fun _ _ _ h => h) (Or.inl ⟨by kernel_rfl, ?_⟩) (by assumption) ?_
                   rotate_left
                   ·intro w hSw; (try dsimp only at hSw); go_simp; try with_reducible rfl
                   try simp only [Act.put, List.getElem_toArray, List.getElem_cons_succ, List.getElem_cons_zero, List.setIfInBounds_toArray, List.set_cons_zero, List.set_cons_succ]
                   refine wpAnyH_take (i := 8) (v := ?_) rfl (by kernel_rfl) (by kernel_rfl) (by kernel_rfl) (fun _ _ _ h => h) (Or.inl ⟨by kernel_rfl, ?_⟩) (by assumption) ?_
                   rotate_left
                   ·intro w hSw; (try dsimp only at hSw); go_simp; try with_reducible rfl
                   try simp only [Act.put, List.getElem_toArray, List.getElem_cons_succ, List.getElem_cons_zero, List.setIfInBounds_toArray, List.set_cons_zero, List.set_cons_succ]
                   refine wpAnyH_take (i := 9) (v := ?_) rfl (by kernel_rfl) (by kernel_rfl) (by kernel_rfl) (fun _ _ _ h => h) (Or.inl ⟨by kernel_rfl, ?_⟩) (by assumption) ?_
                   rotate_left
                   ·intro w hSw; (try dsimp only at hSw); go_simp; try with_reducible rfl
                   try simp only [Act.put, List.getElem_toArray, List.getElem_cons_succ, List.getElem_cons_zero, List.setIfInBounds_toArray, List.set_cons_zero, List.set_cons_succ]
                   refine wpAnyH_take (i := 10) (v := ?_) rfl (by kernel_rfl) (by kernel_rfl) (by kernel_rfl) (fun _ _ _ h => h) (Or.inl ⟨by kernel_rfl, ?_⟩) (by assumption) ?_
                   rotate_left
                   ·intro w hSw; (try dsimp only at hSw); go_simp; try with_reducible rfl
                   try simp only [Act.put, List.getElem_toArray, List.getElem_cons_succ, List.getElem_cons_zero, List.setIfInBounds_toArray, List.set_cons_zero, List.set_cons_succ]
                   refine wpAnyH_take (i := 11) (v := ?_) rfl (by kernel_rfl) (by kernel_rfl) (by kernel_rfl) (fun _ _ _ h => h) (Or.inl ⟨by kernel_rfl, ?_⟩) (by assumption) ?_
                   rotate_left
                   ·intro w hSw; (try dsimp only at hSw); go_simp; try with_reducible rfl
                   try simp only [Act.put, List.getElem_toArray, List.getElem_cons_succ, List.getElem_cons_zero, List.setIfInBounds_toArray, List.set_cons_zero, List.set_cons_succ]
                   refine wpAnyH_take (i := 12) (v := ?_) rfl (by kernel_rfl) (by kernel_rfl) (by kernel_rfl) (fun _ _ _ h => h) (Or.inl ⟨by kernel_rfl, ?_⟩) (by assumption) ?_
                   rotate_left
                   ·intro w hSw; (try dsimp only at hSw); go_simp; try with_reducible rfl
                   try simp only [Act.put, List.getElem_toArray, List.getElem_cons_succ, List.getElem_cons_zero, List.setIfInBounds_toArray, List.set_cons_zero, List.set_cons_succ]
                   refine wpAnyH_take (i := 13) (v := ?_) rfl (by kernel_rfl) (by kernel_rfl) (by kernel_rfl) (fun _ _ _ h => h) (Or.inl ⟨by kernel_rfl, ?_⟩) (by assumption) ?_
                   rotate_left
                   ·intro w hSw; (try dsimp only at hSw); go_simp; try with_reducible rfl
                   try simp only [Act.put, List.getElem_toArray, List.getElem_cons_succ, List.getElem_cons_zero, List.setIfInBounds_toArray, List.set_cons_zero, List.set_cons_succ]
                   refine wpAnyH_take (i := 14) (v := ?_) rfl (by kernel_rfl) (by kernel_rfl) (by kernel_rfl) (fun _ _ _ h => h) (Or.inl ⟨by kernel_rfl, ?_⟩) (by assumption) ?_
                   rotate_left
                   ·intro w hSw; (try dsimp only at hSw); go_simp; try with_reducible rfl
                   try simp only [Act.put, List.getElem_toArray, List.getElem_cons_succ, List.getElem_cons_zero, List.setIfInBounds_toArray, List.set_cons_zero, List.set_cons_succ]
                   refine wpAnyH_take (i := 15) (v := ?_) rfl (by kernel_rfl) (by kernel_rfl) (by kernel_rfl) (fun _ _ _ h => h) (Or.inl ⟨by kernel_rfl, ?_⟩) (by assumption) ?_
                   rotate_left
                   ·intro w hSw; (try dsimp only at hSw); go_simp; try with_reducible rfl
                   try simp only [Act.put, List.getElem_toArray, List.getElem_cons_succ, List.getElem_cons_zero, List.setIfInBounds_toArray, List.set_cons_zero, List.set_cons_succ]
                   refine wpAnyH_take (i := 16) (v := ?_) rfl (by kernel_rfl) (by kernel_rfl) (by kernel_rfl) (fun _ _ _ h => h) (Or.inl ⟨by kernel_rfl, ?_⟩) (by assumption) ?_
                   rotate_left
                   ·intro w hSw; (try dsimp only at hSw); go_simp; try with_reducible rfl
                   try simp only [Act.put, List.getElem_toArray, List.getElem_cons_succ, List.getElem_cons_zero, List.setIfInBounds_toArray, List.set_cons_zero, List.set_cons_succ]
                   refine wpAnyH_take (i := 18) (v := ?_) rfl (by kernel_rfl) (by kernel_rfl) (by kernel_rfl) (fun _ _ _ h => h) (Or.inl ⟨by kernel_rfl, ?_⟩) (by assumption) ?_
                   rotate_left
                   ·intro w hSw; (try dsimp only at hSw); go_simp; try with_reducible rfl
                   try simp only [Act.put, List.getElem_toArray, List.getElem_cons_succ, List.getElem_cons_zero, List.setIfInBounds_toArray, List.set_cons_zero, List.set_cons_succ]
                   refine wpAnyH_ready (rs := [17]) (by kernel_rfl) (by simp) ?_
                   refine AllReadyH.cons rfl (fun K hK => ?_) AllReadyH.nil
                   go_simp
                   (with_reducible refine (HBT.out _ hBR).mono ?_); rintro e wB ⟨AB, cB, rfl, hslB, hBB⟩
                   refine hK.out _ _ ?_ (fun hHeld => ?_)
                   ·exact held6 HSB7.out HCL.out hBB
                   clear hK K
                   try simp only [Act.put, List.getElem_toArray, List.getElem_cons_succ, List.getElem_cons_zero, List.setIfInBounds_toArray, List.set_cons_zero, List.set_cons_succ]
                   refine wpAnyH_ready (rs := [19]) (by kernel_rfl) (by simp) ?_
                   refine AllReadyH.cons rfl (fun K hK => ?_) AllReadyH.nil
                   go_simp
                   (with_reducible refine (HSM.out _ _ _ hBB hslB).mono ?_); rintro e wS ⟨rfl, mS, rfl⟩
                   refine hK.out _ _ ?_ (fun hHeld => ?_)
                   ·exact held6 HSB7.out HCL.out (below_drewN hBB mS)
                   clear hK K
                   try simp only [Act.put, List.getElem_toArray, List.getElem_cons_succ, List.getElem_cons_zero, List.setIfInBounds_toArray, List.set_cons_zero, List.set_cons_succ]
                   refine wpAnyH_take (i := 20) (v := ?_) rfl (by kernel_rfl) (by kernel_rfl) (by kernel_rfl) (fun _ _ _ h => h) (Or.inl ⟨by kernel_rfl, ?_⟩) (by assumption) ?_
                   rotate_left
                   ·intro w hSw; (try dsimp only at hSw); go_simp; try with_reducible rfl
                   try simp only [Act.put, List.getElem_toArray, List.getElem_cons_succ, List.getElem_cons_zero, List.setIfInBounds_toArray, List.set_cons_zero, List.set_cons_succ]
                   refine wpAnyH_take (i := 21) (v := ?_) rfl (by kernel_rfl) (by kernel_rfl) (by kernel_rfl) (fun _ _ _ h => h) (Or.inl ⟨by kernel_rfl, ?_⟩) (by assumption) ?_
                   rotate_left
                   ·intro w hSw; (try dsimp only at hSw); go_simp; try with_reducible rfl
                   try simp only [Act.put, List.getElem_toArray, List.getElem_cons_succ, List.getElem_cons_zero, List.setIfInBounds_toArray, List.set_cons_zero, List.set_cons_succ]
                   refine wpAnyH_done (by kernel_rfl) ?_ _
                   go_wp2_with fail
                   go_meet
                   exact ⟨rfl, below_drewN hBB mS⟩
            case rest =>
             obtain ⟨hv9, hb9⟩ := hcut
             subst hv9
             have HBC : Hid (Below w.heap.size w wc) := Lib.hid (HBR7.out.trans (hb9.mono HBR7.out.size))
             have HXC : Hid (Blk wc w.heap.size 38 zeroSn) := Lib.hid (HXL.out.below hb9 HXL.out.lt)
             have HSBC := Lib.hid (HSB7.out.below hb9 HSB7.out.lt)
             have HVAC := Lib.hid (Mem.Own.frm HVA7.out (Frm.below hb9) (fun _ _ e => e))
             have HLAC := Lib.hid (Mem.Own.frm HLA7.out (Frm.below hb9) (fun _ _ e => e))
             have HDVC := Lib.hid (Mem.Own.frm HDV.out (Frm.below hb9) (fun _ _ e => e))
             clear hb9 hdr t5 t6 e1
             cases htst : tstB pR pL pB with
             | true =>
               have HN : Hid (res = none) := Lib.hid (HYN.out.1 htst)
               clear htst
               have q0 := HXC.out.free 0
               have q1 := HXC.out.free 1
               have q2 := HXC.out.free 2
               have q3 := HXC.out.free 3
               have q4 := HXC.out.free 4
               obtain ⟨d0, d1, d2, d3, d4⟩ := held5 (HXC.out) (Below.refl _ _)
               go_wp2_with fail
               obtain ⟨W9, hW9⟩ : ∃ z, z = put5 wc w.heap.size (.int .i64 0) (.int .i64 0) (.slice none 0 0) (.slice none 0 0) (.slice none 0 0) := ⟨_, rfl⟩
               have hx9 : Blk W9 w.heap.size 38 #[.int .i64 0, .int .i64 0, .slice none 0 0, .slice none 0 0, .slice none 0 0] := by rw [hW9]; exact put5_blk HXC.out
               have hf9 : Frm (fun g => g = w.heap.size) wc W9 := by rw [hW9]; exact put5_frm _ _ _ _ _ _ _
               unfold put5 at hW9
               rw [← hW9]
               obtain ⟨r0, r1, r2, r3, r4⟩ := held5 hx9 (Below.refl _ _)
               refine bodyPost_ret (v := .tuple #[.agg #[.int .i64 0, .int .i64 0, .slice none 0 0, .slice none 0 0, .slice none 0 0], .bool false]) (by simp [results, Tryz.results33, go_sem, r0, r1, r2, r3, r4]) rfl ?_
               exact RRPost.no HN.out (HBC.out.trans (hf9.to_below (fun k _ h1 h2 => by omega) HBC.out.size)) rfl
             | false =>
               have HYS : Hid (res = some ⟨x, t, xs, xs', acc⟩) := Lib.hid (HYN.out.2 htst)
               clear htst
               obtain ⟨s0, s1, s2, s3, s4⟩ := held5 HSBC.out (Below.refl _ _)
               have q0 := HXC.out.free 0
               have q1 := HXC.out.free 1
               have q2 := HXC.out.free 2
               have q3 := HXC.out.free 3
               have q4 := HXC.out.free 4
               obtain ⟨d0, d1, d2, d3, d4⟩ := held5 (HXC.out) (Below.refl _ _)
               go_wp2_with fail
               obtain ⟨W9, hW9⟩ : ∃ z, z = put5 wc w.heap.size (.int .i64 x) (.int .i64 t) (.slice VA xs.length ca) (.slice LA xs'.length cl) (.slice DV acc.length dc) := ⟨_, rfl⟩
               have hx9 : Blk W9 w.heap.size 38 #[.int .i64 x, .int .i64 t, .slice VA xs.length ca, .slice LA xs'.length cl, .slice DV acc.length dc] := by rw [hW9]; exact put5_blk HXC.out
               have hf9 : Frm (fun g => g = w.heap.size) wc W9 := by rw [hW9]; exact put5_frm _ _ _ _ _ _ _
               unfold put5 at hW9
               rw [← hW9]
               obtain ⟨r0, r1, r2, r3, r4⟩ := held5 hx9 (Below.refl _ _)
               refine bodyPost_ret (v := .tuple #[.agg #[.int .i64 x, .int .i64 t, .slice VA xs.length ca, .slice LA xs'.length cl, .slice DV acc.length dc], .bool true]) (by simp [results, Tryz.results33, go_sem, r0, r1, r2, r3, r4]) rfl ?_
               have hfar : ∀ {α : Type} {f : α → Value} {e : TypeId} {v : Value} {xs : List α}, e ≠ 38 → Mem.Own f (sb + 1) e wc v xs → Mem.Own f (sb + 1) e W9 v xs := fun hne ho => own_frmT ho HXC.out hne hf9
               refine ⟨HBC.out.trans (hf9.to_below (fun k _ h1 h2 => by omega) HBC.out.size), (fun h => by rw [HYS.out] at h; cases h), fun s hs => ?_⟩
               rw [HYS.out] at hs
               have hs := Option.some.inj hs
               subst hs
               exact ⟨VA, LA, DV, ca, cl, dc, rfl, ⟨(hfar (by decide) HVAC.out).sl.2, (hfar (by decide) HLAC.out).sl.2, (hfar (by decide) HDVC.out).sl.2⟩, HDVC.out.cap.1, (SlB.of_own (hfar (by decide) HVAC.out)).2.mono (fun g _ hg => Nat.le_trans (Nat.le_trans (Nat.le_trans HB1.out.size HSB1.out) (Nat.le_succ _)) hg), (SlB.of_own (hfar (by decide) HLAC.out)).2.mono (fun g _ hg => Nat.le_trans (Nat.le_trans (Nat.le_trans HB1.out.size HSB1.out) (Nat.le_succ _)) hg), (SlB.of_own (hfar (by decide) HDVC.out)).2.mono (fun g _ hg => Nat.le_trans (Nat.le_trans (Nat.le_trans HB1.out.size HSB1.out) (Nat.le_succ _)) hg)⟩
       ·have t7 : ((ns.length : Int) != (j : Int) + (b : Int) + 2) = true := by rw [bne_iff_ne]; omega
        have HN : Hid (res = none) := Lib.hid (by rw [HRES.out]; exact sn_no HUS.out HPN.out HIO.out (fun a' c h1 h2 e1 e2 e3 => by rw [← HN2.out] at e1; obtain rfl : a = a' := (by omega); rw [← HN3.out] at e2; have := HM2.out; omega))
        clear hshp
        have q0 := HXI.out.free 0
        have q1 := HXI.out.free 1
        have q2 := HXI.out.free 2
        have q3 := HXI.out.free 3
        have q4 := HXI.out.free 4
        obtain ⟨d0, d1, d2, d3, d4⟩ := held5 (HXI.out) (Below.refl _ _)
        go_wp2_with fail
        obtain ⟨W9, hW9⟩ : ∃ z, z = put5 wi w.heap.size (.int .i64 0) (.int .i64 0) (.slice none 0 0) (.slice none 0 0) (.slice none 0 0) := ⟨_, rfl⟩
        have hx9 : Blk W9 w.heap.size 38 #[.int .i64 0, .int .i64 0, .slice none 0 0, .slice none 0 0, .slice none 0 0] := by rw [hW9]; exact put5_blk HXI.out
        have hf9 : Frm (fun g => g = w.heap.size) wi W9 := by rw [hW9]; exact put5_frm _ _ _ _ _ _ _
        unfold put5 at hW9
        rw [← hW9]
        obtain ⟨r0, r1, r2, r3, r4⟩ := held5 hx9 (Below.refl _ _)
        refine bodyPost_ret (v := .tuple #[.agg #[.int .i64 0, .int .i64 0, .slice none 0 0, .slice none 0 0, .slice none 0 0], .bool false]) (by simp [results, Tryz.results33, go_sem, r0, r1, r2, r3, r4]) rfl ?_
        exact RRPost.no HN.out (HBI.out.trans (hf9.to_below (fun k _ h1 h2 => by omega) HBI.out.size)) rfl
 ·have t1 : (u != 0) = true := by rw [bne_iff_ne]; exact hu0
  have HN : Hid (res = none) := Lib.hid (by rw [HRES.out]; exact readS_no1 (by rw [← HU.out]; exact hu0))
  clear hu0
  have q0 := HX1.out.free 0
  have q1 := HX1.out.free 1
  have q2 := HX1.out.free 2
  have q3 := HX1.out.free 3
  have q4 := HX1.out.free 4
  obtain ⟨d0, d1, d2, d3, d4⟩ := held5 (HX1.out) (Below.refl _ _)
  go_wp2_with fail
  obtain ⟨W9, hW9⟩ : ∃ z, z = put5 w1 w.heap.size (.int .i64 0) (.int .i64 0) (.slice none 0 0) (.slice none 0 0) (.slice none 0 0) := ⟨_, rfl⟩
  have hx9 : Blk W9 w.heap.size 38 #[.int .i64 0, .int .i64 0, .slice none 0 0, .slice none 0 0, .slice none 0 0] := by rw [hW9]; exact put5_blk HX1.out
  have hf9 : Frm (fun g => g = w.heap.size) w1 W9 := by rw [hW9]; exact put5_frm _ _ _ _ _ _ _
  unfold put5 at hW9
  rw [← hW9]
  obtain ⟨r0, r1, r2, r3, r4⟩ := held5 hx9 (Below.refl _ _)
  refine bodyPost_ret (v := .tuple #[.agg #[.int .i64 0, .int .i64 0, .slice none 0 0, .slice none 0 0, .slice none 0 0], .bool false]) (by simp [results, Tryz.results33, go_sem, r0, r1, r2, r3, r4]) rfl ?_
  exact RRPost.no HN.out (HB1.out.trans (hf9.to_below (fun k _ h1 h2 => by omega) HB1.out.size)) rfl
end Go.Proofs.YtfpomllhkbbipaaGreatDoor
