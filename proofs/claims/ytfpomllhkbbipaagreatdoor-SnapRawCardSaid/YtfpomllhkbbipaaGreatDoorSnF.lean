/- Layer 8: what snap.Read's closure keeps, and the closure. -/
import Derived.Test.YtfpomllhkbbipaaGreatDoorSnL
import Derived.Test.YtfpomllhkbbipaaGreatDoorFrm
namespace Go.Proofs.YtfpomllhkbbipaaGreatDoor
open Go Go.RowKit Go.Maps Go.Lib Mem Pk Cf

/-- what Load reads ahead of its last question -/
def preC (bs : List UInt8) : Option (List Int × List Int × List UInt8) :=
  match row bs with
  | none => none
  | some (vs, r1) =>
    match row r1 with
    | none => none
    | some (ls, r2) => some (vs, ls, r2)
theorem preC_some {bs r1 r2 : List UInt8} {vs ls : List Int} (h1 : row bs = some (vs, r1)) (h2 : row r1 = some (ls, r2)) : preC bs = some (vs, ls, r2) := by
  unfold preC; rw [h1]; simp only []; rw [h2]
theorem preC_no1 {bs : List UInt8} (h1 : row bs = none) : preC bs = none := by
  unfold preC; rw [h1]
theorem preC_no2 {bs r1 : List UInt8} {vs : List Int} (h1 : row bs = some (vs, r1)) (h2 : row r1 = none) : preC bs = none := by
  unfold preC; rw [h1]; simp only []; rw [h2]
/-- a snapshot's block: one of its two rows at i + 2 -/
def five (x t : Int) (i : Nat) (xv yv : Value) : Array Value := if i = 0 then #[.int .i64 x, .int .i64 t, xv, yv, .slice none 0 0] else #[.int .i64 x, .int .i64 t, yv, xv, .slice none 0 0]
theorem five_cell {x t : Int} {w : World} {g i : Nat} {ty : TypeId} {xv yv : Value} (hi : i < 2) (h : Blk w g ty (five x t i xv yv)) : w.cell? ⟨g, i + 2, none⟩ = some xv := by
  have := h.cell (i + 2)
  rw [this]
  unfold five
  rcases (show i = 0 ∨ i = 1 by omega) with rfl | rfl <;> rfl
theorem five_set {x t : Int} {w : World} {g i : Nat} {ty : TypeId} {xv yv : Value} (hi : i < 2) (h : Blk w g ty (five x t i xv yv)) (v : Value) : Blk (w.setCell ⟨g, i + 2, none⟩ v) g ty (five x t i v yv) := by
  have := h.set_ (i + 2) v
  unfold five at this ⊢
  rcases (show i = 0 ∨ i = 1 by omega) with rfl | rfl <;> exact this
structure SrS (x t : Int) (F : Nat → Prop) (w1 : World) (rb cb i : Nat) (xs ys : List Int) (xv yv : Value) (rest : List UInt8) (W : World) : Prop where
  rd : Rd F W rb rest
  blk : Blk W cb 43 (five x t i xv yv)
  own : Mem.Own fI w1.heap.size 3 W xv xs
  oth : Mem.Own fI w1.heap.size 3 W yv ys
  apart : Apart xv yv
  frm : Frm (fun g => g = rb ∨ g = cb) w1 W
/-- where the reader and the configuration lie -/
structure SrW (F : Nat → Prop) (w1 : World) (rb cb : Nat) : Prop where
  r : rb < w1.heap.size
  c : cb < w1.heap.size
  ne : rb ≠ cb
  far : ∀ g, F g → g < w1.heap.size ∧ g ≠ rb ∧ g ≠ cb
theorem SrS.size {x t : Int} {F : Nat → Prop} {w1 W : World} {rb cb i : Nat} {xs ys : List Int} {xv yv : Value} {rest : List UInt8} (h : SrS x t F w1 rb cb i xs ys xv yv rest W) : w1.heap.size ≤ W.heap.size := h.frm.size
/-- behind a number that was read -/
theorem SrS.read {x t : Int} {F : Nat → Prop} {w1 W W' : World} {rb cb i : Nat} {xs ys : List Int} {xv yv : Value} {rest rest' : List UInt8} (h : SrS x t F w1 rb cb i xs ys xv yv rest W) (hw : SrW F w1 rb cb) (hr : Rd F W' rb rest') (hf : Frm (fun g => g = rb) W W') : SrS x t F w1 rb cb i xs ys xv yv rest' W' :=
  ⟨hr, h.blk.frm hf (fun e => hw.ne e.symm), h.own.frm hf (fun g h1 h2 => by have := hw.r; omega), h.oth.frm hf (fun g h1 h2 => by have := hw.r; omega), h.apart, h.frm.trans (hf.mono fun _ _ e => .inl e)⟩
theorem SrS.mid {x t : Int} {F : Nat → Prop} {w1 W W' : World} {rb cb i : Nat} {xs ys : List Int} {xv yv : Value} {rest : List UInt8} {u : Int} (h : SrS x t F w1 rb cb i xs ys xv yv rest W) (hw : SrW F w1 rb cb) (hi : i < 2)
    (hg : (W.alloc (.cells #[fI u] 3)).grownBy W' xv.ownBlock) : W'.cell? ⟨cb, i + 2, none⟩ = some xv ∧ W'.frozen? ⟨cb, i + 2, none⟩ = false := by
  have hs := h.size
  have hb : Below w1.heap.size W W' := ((Below.refl _ _).alloc hs _).trans ((h.own.alloc _).below_ (by rw [World.size_alloc]; omega) hg)
  have hblk : Blk W' cb 43 (five x t i xv yv) := h.blk.frm (Frm.of_below hb) (by have := hw.c; omega)
  exact ⟨five_cell hi hblk, hblk.free (i + 2)⟩
/-- behind an append to the row at i, and its store -/
theorem SrS.put {x t : Int} {F : Nat → Prop} {w1 W W' : World} {rb cb i : Nat} {xs ys : List Int} {xv yv v' : Value} {rest : List UInt8} {u : Int} (h : SrS x t F w1 rb cb i xs ys xv yv rest W) (hw : SrW F w1 rb cb) (hi : i < 2)
    (ho : Mem.Own fI w1.heap.size 3 W' v' (xs ++ [u])) (hg : (W.alloc (.cells #[fI u] 3)).grownBy W' xv.ownBlock) (hat : v'.ownBlock = xv.ownBlock ∨ v'.ownBlock = some (W.heap.size + 1)) :
    SrS x t F w1 rb cb i (xs ++ [u]) ys v' yv rest (W'.setCell ⟨cb, i + 2, none⟩ v') := by
  have hs := h.size
  have hb : Below w1.heap.size W W' := ((Below.refl _ _).alloc hs _).trans ((h.own.alloc _).below_ (by rw [World.size_alloc]; omega) hg)
  have hset : Frm (fun g => g = cb) W' (W'.setCell ⟨cb, i + 2, none⟩ v') := (Frm.refl (fun g => g = cb) W').setCell (p := ⟨cb, i + 2, none⟩) (fun _ => rfl) _
  have hblk : Blk W' cb 43 (five x t i xv yv) := h.blk.frm (Frm.of_below hb) (by have := hw.c; omega)
  refine ⟨?_, five_set hi hblk v', ho.frm hset (fun g h1 h2 => by have := hw.c; omega), ?_, h.apart.grown h.oth hat, ?_⟩
  · exact Rd.frm (Rd.belowB h.rd hb hw.r (fun g hg => (hw.far g hg).1)) hset (fun e => hw.ne e) (fun g hg => (hw.far g hg).2.2)
  · exact ((h.oth.alloc _).other h.apart.symm hg).frm hset (fun g h1 h2 => by have := hw.c; omega)
  · have h1 : Frm (fun g => g = rb ∨ g = cb) w1 W' := h.frm.then_up ((Frm.of_below hb).mono fun _ _ e => .inr e)
    exact h1.trans (hset.mono fun _ _ e => .inr e)
theorem SrS.putZ {x t : Int} {F : Nat → Prop} {w1 W W' : World} {rb cb i : Nat} {xs ys zs : List Int} {xv yv v' : Value} {rest : List UInt8} {u : Int} (hz : zs = xs ++ [u]) (h : SrS x t F w1 rb cb i xs ys xv yv rest W) (hw : SrW F w1 rb cb) (hi : i < 2)
    (ho : Mem.Own fI w1.heap.size 3 W' v' (xs ++ [u])) (hg : (W.alloc (.cells #[fI u] 3)).grownBy W' xv.ownBlock) (hat : v'.ownBlock = xv.ownBlock ∨ v'.ownBlock = some (W.heap.size + 1)) :
    SrS x t F w1 rb cb i zs ys v' yv rest (W'.setCell ⟨cb, i + 2, none⟩ v') := by
  subst hz; exact h.put hw hi ho hg hat
/-- what has been read: i of two rows -/
def SrP (bs : List UInt8) (i : Nat) (vs ls : List Int) (rest : List UInt8) : Prop :=
  (i = 0 → vs = [] ∧ ls = [] ∧ rest = bs) ∧ (i = 1 → row bs = some (vs, rest) ∧ ls = []) ∧ (i = 2 → preC bs = some (vs, ls, rest))
def SrOut (x t : Int) (F : Nat → Prop) (w1 : World) (rb cb : Nat) (bs : List UInt8) (iv : Value) (W : World) : Prop :=
  ∃ (i : Nat) (vs ls : List Int) (va la : Value) (rest : List UInt8), i ≤ 2 ∧ iv = .int .i64 (i : Int) ∧ SrS x t F w1 rb cb 0 vs ls va la rest W ∧ SrP bs i vs ls rest
def SrIn (x t : Int) (F : Nat → Prop) (w1 : World) (rb cb i n : Nat) (ys : List Int) (yv : Value) (r : List UInt8) (kv : Value) (W : World) : Prop :=
  ∃ (k : Nat) (xs : List Int) (xv : Value) (rest : List UInt8), k ≤ n ∧ xs.length = k ∧ kv = .int .i64 (k : Int) ∧ SrS x t F w1 rb cb i xs ys xv yv rest W ∧ cnts n r = (cnts (n - k) rest).map fun p => (xs ++ p.1, p.2)
theorem SrS.swap {x t : Int} {F : Nat → Prop} {w1 W : World} {rb cb : Nat} {xs ys : List Int} {xv yv : Value} {rest : List UInt8} (h : SrS x t F w1 rb cb 0 xs ys xv yv rest W) : SrS x t F w1 rb cb 1 ys xs yv xv rest W :=
  ⟨h.rd, h.blk, h.oth, h.own, h.apart.symm, h.frm⟩
theorem SrS.swap' {x t : Int} {F : Nat → Prop} {w1 W : World} {rb cb : Nat} {xs ys : List Int} {xv yv : Value} {rest : List UInt8} (h : SrS x t F w1 rb cb 1 xs ys xv yv rest W) : SrS x t F w1 rb cb 0 ys xs yv xv rest W :=
  ⟨h.rd, h.blk, h.oth, h.own, h.apart.symm, h.frm⟩
/-- one row more -/
theorem srOut_round {x t : Int} {F : Nat → Prop} {w1 W : World} {rb cb i : Nat} {bs rest : List UInt8} {vs ls : List Int} {va la : Value} (hi : i < 2) (h : SrS x t F w1 rb cb 0 vs ls va la rest W) (hp : SrP bs i vs ls rest) :
    ∃ xv ys yv, SrS x t F w1 rb cb i [] ys xv yv rest W ∧ (row rest = none → preC bs = none) ∧ ∀ xs r1 xv' W', row rest = some (xs, r1) → SrS x t F w1 rb cb i xs ys xv' yv r1 W' → SrOut x t F w1 rb cb bs (.int .i64 ((i + 1 : Nat) : Int)) W' := by
  obtain ⟨h0, h1, -⟩ := hp
  rcases (show i = 0 ∨ i = 1 by omega) with rfl | rfl
  · obtain ⟨rfl, rfl, rfl⟩ := h0 rfl
    exact ⟨va, [], la, h, preC_no1, fun xs r1 xv' W' hr hs => ⟨1, xs, [], xv', la, r1, by omega, rfl, hs, fun e => by omega, fun _ => ⟨hr, rfl⟩, fun e => by omega⟩⟩
  · obtain ⟨hr1, rfl⟩ := h1 rfl
    exact ⟨la, vs, va, h.swap, preC_no2 hr1, fun xs r1 xv' W' hr hs => ⟨2, vs, xs, va, xv', r1, by omega, rfl, hs.swap', fun e => by omega, fun e => by omega, fun _ => preC_some hr1 hr⟩⟩
def CsYes (x t : Int) (F : Nat → Prop) (w1 : World) (rb cb i : Nat) (xs ys : List Int) (xv yv : Value) (r : List UInt8) (a : Int) (e : Ending) (W : World) : Prop :=
  e = .returned (.int .i64 a) ∧ SrS x t F w1 rb cb i xs ys xv yv r W ∧ W.cell? ⟨cb, i + 2, none⟩ = some xv ∧ ∀ o, (W.alloc o).cell? ⟨cb, i + 2, none⟩ = some xv
def CsNo (w1 : World) (rb cb : Nat) (e : Ending) (W : World) : Prop :=
  e = .panicked [{ v := wrongV 30, recovered := false }] ∧ Frm (fun g => g = rb ∨ g = cb) w1 W
theorem cs_yes {x t : Int} {F : Nat → Prop} {w1 W : World} {rb cb i : Nat} {xs ys : List Int} {xv yv : Value} {rest r : List UInt8} {a : Int} (h : SrS x t F w1 rb cb i xs ys xv yv rest W) (hw : SrW F w1 rb cb) (hi : i < 2) (hc : cnt rest = some (a, r)) :
    Calls Tryz.prog 90 #[.pointer (some ⟨rb, 0, none⟩), .int .i64 7] W (CsYes x t F w1 rb cb i xs ys xv yv r a) := by
  obtain ⟨k, hk, rfl⟩ := cnt_yes hc
  refine (Count_yes h.rd hk).mono fun e W' hh => ?_
  obtain ⟨he, hr, hf⟩ := hh
  have hs := h.read hw hr hf
  exact ⟨he, hs, five_cell hi hs.blk, fun o => five_cell hi (hs.blk.alloc o)⟩
theorem cs_no {x t : Int} {F : Nat → Prop} {w1 W : World} {rb cb i : Nat} {xs ys : List Int} {xv yv : Value} {rest : List UInt8} (h : SrS x t F w1 rb cb i xs ys xv yv rest W) (hc : cnt rest = none) :
    Calls Tryz.prog 90 #[.pointer (some ⟨rb, 0, none⟩), .int .i64 7] W (CsNo w1 rb cb) :=
  (Count_none h.rd (cnt_no hc)).mono fun _ _ hh => ⟨hh.1, h.frm.trans (hh.2.mono fun _ _ e => .inl e)⟩
theorem SrS.below {x t : Int} {F : Nat → Prop} {w1 W W' : World} {rb cb i : Nat} {xs ys : List Int} {xv yv : Value} {rest : List UInt8} (h : SrS x t F w1 rb cb i xs ys xv yv rest W) (hb : Below W.heap.size W W') : SrS x t F w1 rb cb i xs ys xv yv rest W' :=
  ⟨Rd.frm h.rd (Frm.below hb) (fun e => e) (fun _ _ e => e), Blk.frm (F := fun _ => False) h.blk (Frm.below hb) (fun e => e), h.own.frm (Frm.below hb) (fun _ _ e => e), h.oth.frm (Frm.below hb) (fun _ _ e => e), h.apart, h.frm.trans ((Frm.below hb).mono (fun _ _ e => False.elim e))⟩
theorem Own.lowerI {base base' : Nat} {w : World} {v : Value} {xs : List Int} (h : Mem.Own fI base 3 w v xs) (hb : base' ≤ base) : Mem.Own fI base' 3 w v xs := by
  obtain ⟨h1, h2⟩ := h
  refine ⟨h1, ?_⟩
  rcases h2 with h2 | ⟨g, cap, cur, a, b, c⟩
  · exact .inl h2
  · exact .inr ⟨g, cap, cur, a, Nat.le_trans hb b, c⟩
def R1Yes (F : Nat → Prop) (w0 : World) (rb sb zb : Nat) (h : HdT) (e : Ending) (W : World) : Prop :=
  e = .returned (.tuple #[]) ∧ Rd F W rb h.r ∧ Frm (fun g => g = rb ∨ g = sb ∨ g = zb) w0 W ∧ Blk W zb 3 #[.int .i64 (h.n : Int)] ∧ ∃ va la, Blk W sb 43 #[.int .i64 h.x, .int .i64 h.t, va, la, .slice none 0 0] ∧ Mem.Own fI w0.heap.size 3 W va h.vs ∧ Mem.Own fI w0.heap.size 3 W la h.ls
def R1No (w0 : World) (rb sb zb : Nat) (e : Ending) (W : World) : Prop :=
  e = .panicked [{ v := wrongV 30, recovered := false }] ∧ Frm (fun g => g = rb ∨ g = sb ∨ g = zb) w0 W
def R1Post (F : Nat → Prop) (w0 : World) (rb sb zb : Nat) (bs : List UInt8) (e : Ending) (W : World) : Prop :=
  (∀ h, hdS bs = some h → R1Yes F w0 rb sb zb h e W) ∧ (hdS bs = none → R1No w0 rb sb zb e W)
theorem R1Post.no {F : Nat → Prop} {w0 W : World} {rb sb zb : Nat} {bs : List UInt8} (h : hdS bs = none) (hf : Frm (fun g => g = rb ∨ g = sb ∨ g = zb) w0 W) : R1Post F w0 rb sb zb bs (.panicked [{ v := wrongV 30, recovered := false }]) W :=
  ⟨(fun g hp => by rw [h] at hp; cases hp), fun _ => ⟨rfl, hf⟩⟩
theorem R1Post.yes {F : Nat → Prop} {w0 W : World} {rb sb zb : Nat} {bs : List UInt8} {e : Ending} {g : HdT} (h : hdS bs = some g) (hy : R1Yes F w0 rb sb zb g e W) : R1Post F w0 rb sb zb bs e W :=
  ⟨(fun g' hp => by rw [h] at hp; injection hp with hp; subst hp; exact hy), fun hn => by rw [h] at hn; cases hn⟩
theorem hd_no1 {bs : List UInt8} (h : getNum bs = none) : hdS bs = none := by unfold hdS; rw [h]
theorem hd_no2 {bs : List UInt8} {x : Int} {k : Nat} (h : getNum bs = some (x, k)) (h2 : getNum (bs.drop k) = none) : hdS bs = none := by unfold hdS; rw [h]; simp only []; rw [h2]
theorem hd_no3 {bs : List UInt8} {x t : Int} {k k2 : Nat} (h : getNum bs = some (x, k)) (h2 : getNum (bs.drop k) = some (t, k2)) (h3 : preC ((bs.drop k).drop k2) = none) : hdS bs = none := by
  unfold preC at h3
  unfold hdS; rw [h]; simp only []; rw [h2]; simp only []
  cases h4 : row ((bs.drop k).drop k2) with
  | none => rfl
  | some p =>
    obtain ⟨vs, r1⟩ := p
    rw [h4] at h3
    simp only at h3 ⊢
    cases h5 : row r1 with
    | none => rfl
    | some q => obtain ⟨ls, r2⟩ := q; rw [h5] at h3; cases h3
theorem hd_pre {bs r2 : List UInt8} {x t : Int} {k k2 : Nat} {vs ls : List Int} (h : getNum bs = some (x, k)) (h2 : getNum (bs.drop k) = some (t, k2)) (h3 : preC ((bs.drop k).drop k2) = some (vs, ls, r2)) :
    hdS bs = match getCount 32768 r2 with | none => none | some (n, k3) => some ⟨x, t, vs, ls, n.toNat, r2.drop k3⟩ := by
  unfold preC at h3
  unfold hdS; rw [h]; simp only []; rw [h2]; simp only []
  cases h4 : row ((bs.drop k).drop k2) with
  | none => rw [h4] at h3; cases h3
  | some p =>
    obtain ⟨v, r1⟩ := p
    rw [h4] at h3
    simp only at h3 ⊢
    cases h5 : row r1 with
    | none => rw [h5] at h3; cases h3
    | some q =>
      obtain ⟨l, r⟩ := q
      rw [h5] at h3
      injection h3 with h3; injection h3 with e1 h3; injection h3 with e2 e3
      subst e1; subst e2; subst e3
      rfl
set_option maxRecDepth 100000 in
set_option maxHeartbeats 4000000 in
theorem SRead1_any {F : Nat → Prop} {w0 : World} {rb sb zb : Nat} {bs : List UInt8} (h : Rd F w0 rb bs) (hc : Blk w0 sb 43 #[.int .i64 0, .int .i64 0, .slice none 0 0, .slice none 0 0, .slice none 0 0]) (hz : Blk w0 zb 3 #[.int .i64 0])
    (hr : rb < w0.heap.size) (hne : rb ≠ sb) (hne2 : zb ≠ rb) (hne3 : zb ≠ sb)
    (hfar : ∀ g, F g → g < w0.heap.size ∧ g ≠ rb ∧ g ≠ sb ∧ g ≠ zb) :
    Calls Tryz.prog 88 #[.pointer (some ⟨rb, 0, none⟩), .pointer (some ⟨sb, 0, none⟩), .pointer (some ⟨zb, 0, none⟩)] w0 (R1Post F w0 rb sb zb bs) := by
  have hcl := hc.lt
  have hzl := hz.lt
  have HFAR := Lib.hid hfar; clear hfar
  have HC := Lib.hid hc; clear hc
  have HZ := Lib.hid hz; clear hz
  have H := Lib.hid h; clear h
  cases hx : getNum bs with
  | none =>
    have HN := Lib.hid (Num_none H.out hx)
    have HH := Lib.hid (hd_no1 hx); clear hx
    go_enter Tryz.func88, Tryz.ntmps88
    go_wp2_with fail
    (with_reducible refine HN.out.mono ?_); rintro e w2 ⟨rfl, hf2⟩
    go_wp2_with fail
    exact ⟨rfl, R1Post.no HH.out (hf2.mono fun _ _ e => .inl e)⟩
  | some p =>
  obtain ⟨x, k⟩ := p
  have HN := Lib.hid (Num_yes H.out hx)
  have HX := Lib.hid hx; clear hx
  cases ht : getNum (bs.drop k) with
  | none =>
    have HH := Lib.hid (hd_no2 HX.out ht)
    go_enter Tryz.func88, Tryz.ntmps88
    go_wp2_with fail
    (with_reducible refine HN.out.mono ?_); rintro e w2 ⟨rfl, hr2, hf2⟩
    have HN2 := Lib.hid (Num_none hr2 ht)
    have HF2 := Lib.hid hf2
    clear hr2 hf2 ht
    go_wp2_with fail
    (with_reducible refine HN2.out.mono ?_); rintro e w3 ⟨rfl, hf3⟩
    go_wp2_with fail
    exact ⟨rfl, R1Post.no HH.out ((HF2.out.trans hf3).mono fun _ _ e => .inl e)⟩
  | some p =>
  obtain ⟨t, k2⟩ := p
  have HT := Lib.hid ht; clear ht
  go_enter Tryz.func88, Tryz.ntmps88
  go_wp2_with fail
  (with_reducible refine HN.out.mono ?_); rintro e w2 ⟨rfl, hr2, hf2⟩
  have HN2 := Lib.hid (Num_yes hr2 HT.out)
  have HF2 := Lib.hid hf2
  clear hr2 hf2
  go_wp2_with fail
  (with_reducible refine HN2.out.mono ?_); rintro e w3 ⟨rfl, hr3, hf3⟩
  have HR3 := Lib.hid hr3
  have HF3 : Hid (Frm (fun g => g = rb) w0 w3) := Lib.hid (HF2.out.trans hf3)
  clear hr3 hf3
  have HB3 := Lib.hid (HC.out.frm HF3.out (fun e => hne e.symm))
  have q0 : w3.cell? ⟨sb, 0, none⟩ = some (.int .i64 0) := HB3.out.cell 0
  have q1 : w3.cell? ⟨sb, 1, none⟩ = some (.int .i64 0) := HB3.out.cell 1
  have f0 := HB3.out.free 0
  have f1 := HB3.out.free 1
  go_upto_region 1 with fail
  obtain ⟨w4, hw4⟩ : ∃ z, z = (w3.setCell ⟨sb, 0, none⟩ (.int .i64 x)).setCell ⟨sb, 1, none⟩ (.int .i64 t) := ⟨_, rfl⟩
  rw [← hw4]
  have hb4 : Blk w4 sb 43 (five x t 0 (.slice none 0 0) (.slice none 0 0)) := by rw [hw4]; exact (HB3.out.set_ 0 _).set_ 1 _
  have hs4 : Frm (fun g => g = sb) w3 w4 := by rw [hw4]; exact ((Frm.refl (fun g => g = sb) w3).setCell (p := ⟨sb, 0, none⟩) (fun _ => rfl) _).setCell (p := ⟨sb, 1, none⟩) (fun _ => rfl) _
  have hr4 : Rd F w4 rb ((bs.drop k).drop k2) := Rd.frm HR3.out hs4 hne (fun g hg => (HFAR.out g hg).2.2.1)
  have hf4 : Frm (fun g => g = rb ∨ g = sb ∨ g = zb) w0 w4 := (HF3.out.mono fun _ _ e => .inl e).trans (hs4.mono fun _ _ e => .inr (.inl e))
  have hz4 : Blk w4 zb 3 #[.int .i64 0] := (HZ.out.frm HF3.out hne2).frm hs4 hne3
  clear hw4 hs4 q0 q1 f0 f1 HB3 HR3 HN2 HN
  have h04 := hf4.size
  obtain ⟨w1, hw1⟩ : ∃ z, z = w4.alloc (.cells #[.pointer (some ⟨sb, 2, none⟩), .pointer (some ⟨sb, 3, none⟩)] 158) := ⟨_, rfl⟩
  have hb1 : Below w4.heap.size w4 w1 := by rw [hw1]; exact (Below.refl _ _).alloc (Nat.le_refl _) _
  have hp1 : Blk w1 w4.heap.size 158 #[.pointer (some ⟨sb, 2, none⟩), .pointer (some ⟨sb, 3, none⟩)] := by rw [hw1]; exact Blk.new_ w4 _ _
  have hz1 : w1.heap.size = w4.heap.size + 1 := by rw [hw1]; exact World.size_alloc ..
  have HW : SrW F w1 rb sb := ⟨by omega, by omega, hne, fun g hg => ⟨by have := (HFAR.out g hg).1; omega, (HFAR.out g hg).2.1, (HFAR.out g hg).2.2.1⟩⟩
  have HST : Hid (SrS x t F w1 rb sb 0 [] [] (.slice none 0 0) (.slice none 0 0) ((bs.drop k).drop k2) w1) := Lib.hid ⟨Rd.belowB hr4 hb1 (by omega) (fun g hg => by have := (HFAR.out g hg).1; omega), hb4.below hb1 (by omega), Own.nil, Own.nil, (fun g hg => by simp [Value.ownBlock] at hg), Frm.refl _ _⟩
  have HFR : Hid (∀ W, Frm (fun g => g = rb ∨ g = sb) w1 W → Frm (fun g => g = rb ∨ g = sb ∨ g = zb) w0 W) := Lib.hid fun W hf => hf4.trans (((Frm.below hb1).mono (fun _ _ e => False.elim e)).trans (hf.mono fun _ _ e => e.elim .inl (fun e => .inr (.inl e))))
  have HZ1 : Hid (Blk w1 zb 3 #[.int .i64 0]) := Lib.hid (hz4.below hb1 (by omega))
  have HP1 := Lib.hid hp1; clear hp1
  have HSZ : Hid (w0.heap.size ≤ w1.heap.size) := Lib.hid (by omega)
  have HSZ4 : Hid (rb < w4.heap.size ∧ sb < w4.heap.size) := Lib.hid ⟨by omega, by omega⟩
  clear hb1 hz1 hf4 hz4 h04 hr4 hb4
  have HW1 := Lib.hid hw1; clear hw1
  go_wp2_with fail
  rw [← HW1.out]
  clear HW1
  obtain ⟨bs2, hbs2⟩ : ∃ z, z = (bs.drop k).drop k2 := ⟨_, rfl⟩
  rw [← hbs2] at HST
  have HBS2 := Lib.hid hbs2; clear hbs2
  go_loopw [18] (fun iv wr => SrOut x t F w1 rb sb bs2 iv wr) (fun iv _ => 2 - (intOf iv).toNat)
  case atStart => exact ⟨0, [], [], _, _, bs2, by omega, rfl, HST.out, fun _ => ⟨rfl, rfl, rfl⟩, fun e => by omega, fun e => by omega⟩
  case round =>
    obtain ⟨i, vs, ls, va, la, rest, hi, rfl, hst, hlp⟩ := hrel
    clear HST
    by_cases hlt : i < 2
    · obtain ⟨xv, ys, yv, hs, hno, hyes⟩ := srOut_round hlt hst hlp
      have HNO := Lib.hid hno; clear hno
      have HYES := Lib.hid hyes; clear hyes
      have HS := Lib.hid hs; clear hs hst hlp
      obtain ⟨wo, rfl⟩ : ∃ wo, wo = wr := ⟨_, rfl⟩
      have t1 : (i : Int) < 2 := by omega
      have t0 : (0 : Int) ≤ (i : Int) := by omega
      have p0 : wo.cell? ⟨w4.heap.size, i, none⟩ = some (.pointer (some ⟨sb, i + 2, none⟩)) := by
        have h1 := (HP1.out.frm HS.out.frm (fun e => by have := HSZ4.out; rcases e with e | e <;> omega)).cell i
        rw [h1]
        rcases (show i = 0 ∨ i = 1 by omega) with rfl | rfl <;> rfl
      cases hcn : cnt rest with
      | none =>
        have HCT := Lib.hid (cs_no HS.out hcn)
        have HN : Hid (hdS bs = none) := Lib.hid (hd_no3 HX.out HT.out (by rw [← HBS2.out]; exact HNO.out (row_no hcn)))
        go_wp2_with fail
        (with_reducible refine HCT.out.mono ?_); rintro e w2 ⟨rfl, hf2⟩
        go_wp2_with fail
        exact ⟨rfl, R1Post.no HN.out (HFR.out _ hf2)⟩
      | some p =>
        obtain ⟨a, r⟩ := p
        obtain ⟨ha, hbs⟩ := cnt_some.1 hcn
        obtain ⟨n, rfl⟩ : ∃ n : Nat, a = (n : Int) := ⟨a.toNat, by omega⟩
        have hn7 : n ≤ 7 := by omega
        have HCT := Lib.hid (cs_yes HS.out HW hlt hcn)
        have HROW := Lib.hid (row_is hcn)
        clear hcn hbs ha
        go_wp2_with fail
        (with_reducible refine HCT.out.mono ?_); rintro e w2 ⟨rfl, hs2, hc2, -⟩
        have HS2 := Lib.hid hs2; clear hs2 hc2 p0
        go_wp2_with fail
        go_loopw [24] (fun kv wr => SrIn x t F w1 rb sb i n ys yv r kv wr) (fun kv _ => n - (intOf kv).toNat)
        case atStart => exact ⟨0, [], xv, r, Nat.zero_le _, rfl, rfl, HS2.out, by rw [Nat.sub_zero]; simp⟩
        case round =>
          obtain ⟨k', xs, xw, r2, hk, hxl, rfl, hst, hcs⟩ := hrel
          have HS3 := Lib.hid hst; clear hst
          have HCS := Lib.hid hcs; clear hcs
          by_cases hkn : k' < n
          · have t5 : (k' : Int) < (n : Int) := by omega
            obtain ⟨m, hm⟩ : ∃ m, n - k' = m + 1 := ⟨n - k' - 1, by omega⟩
            obtain ⟨wi, rfl⟩ : ∃ wi, wi = wr := ⟨_, rfl⟩
            have hq0 : wi.cell? ⟨sb, i + 2, none⟩ = some xw := five_cell hlt HS3.out.blk
            cases hcn : cnt r2 with
            | none =>
              have hN : preC bs2 = none := HNO.out (by rw [HROW.out, HCS.out, hm, cnts_no hcn]; rfl)
              have HN : Hid (hdS bs = none) := Lib.hid (hd_no3 HX.out HT.out (by rw [← HBS2.out]; exact hN)); clear hN
              have HCT2 : Hid (∀ W, Below wi.heap.size wi W → Calls Tryz.prog 90 #[.pointer (some ⟨rb, 0, none⟩), .int .i64 7] W (CsNo w1 rb sb)) := Lib.hid fun W hb => cs_no (HS3.out.below hb) hcn
              clear hcn hm
              have hdr := below_drew0 wi
              go_wp2_with fail
              go_region_dies
              all_goals ((refine (HCT2.out _ ?_).mono ?_); (assumption); (rintro e w3 ⟨rfl, hf3⟩); exact ⟨rfl, R1Post.no HN.out (HFR.out _ hf3)⟩)
            | some p =>
              obtain ⟨y, r3⟩ := p
              have hcs2 : cnts n r = (cnts m r3).map fun p => ((xs ++ [y]) ++ p.1, p.2) := by
                rw [HCS.out, hm, cnts_step hcn, Option.map_map]
                congr 1; funext p; simp
              obtain ⟨zs, hzs⟩ : ∃ zs, zs = xs ++ [y] := ⟨_, rfl⟩
              rw [← hzs] at hcs2
              have hzl : zs.length = k' + 1 := by rw [hzs, List.length_append, List.length_singleton, hxl]
              have HZL := Lib.hid hzl; clear hzl
              have HZS := Lib.hid hzs; clear hzs
              have HCS2 := Lib.hid hcs2; clear hcs2
              have HCT2 : Hid (∀ W, Below wi.heap.size wi W → Calls Tryz.prog 90 #[.pointer (some ⟨rb, 0, none⟩), .int .i64 7] W (CsYes x t F w1 rb sb i xs ys xw yv r3 y)) := Lib.hid fun W hb => cs_yes (HS3.out.below hb) HW hlt hcn
              have HM : Hid (n - (k' + 1) = m) := Lib.hid (show n - (k' + 1) = m by omega)
              clear hcn hm
              have hdr := below_drew0 wi
              have hx7 : xs.length + 1 ≤ 8 := by omega
              have H63 : Hid (xs.length + 1 ≤ maxLen) := by show _ ≤ _; unfold maxLen; omega
              have HBY : Hid ((xs.length + 1) * 8 ≤ 140737488355328) := by show _ ≤ _; omega
              clear hx7
              go_wp2_with fail
              go_region_law (first
                | (go_simp; go_at_call 90; (with_reducible refine (HCT2.out _ ?_).mono ?_); (assumption); rintro e w3 ⟨rfl, hs3, hc3, hc4⟩; dsimp only)
                | (refine step_append1at (f := fI) (w0 := w3) (v := xw) (xs := xs) (g := w3.heap.size) (c := 1) (base := w1.heap.size) (e := 3) ?_ (.tmp 29) (.tmp 32) 33 ?_ intTI y (fI_oneI _) ?_ hs3.own ?_ ?_ H63.out HBY.out hs3.size ?_; rfl; rfl; rfl; rfl; rfl; intro v7 w7 ho7 hg7 hat7; have ho8 : Mem.Own fI w1.heap.size 3 w7 v7 zs := (by rw [HZS.out]; exact ho7); obtain ⟨A7, e7, rfl⟩ := ho8.form; have hs7 : SrS x t F w1 rb sb i zs ys (.slice A7 zs.length e7) yv r3 (w7.setCell ⟨sb, i + 2, none⟩ (.slice A7 zs.length e7)) := (by exact SrS.putZ HZS.out (u := y) hs3 HW hlt ho7 hg7 hat7); have c7 : w7.cell? ⟨sb, i + 2, none⟩ = some xw := (by exact (SrS.mid (u := y) hs3 HW hlt hg7).1); have q7 : w7.frozen? ⟨sb, i + 2, none⟩ = false := (by exact (SrS.mid (u := y) hs3 HW hlt hg7).2)))
              all_goals (go_wp2_with fail; go_roundw; (case rel => exact ⟨k' + 1, zs, _, r3, by omega, HZL.out, by go_num, hs7, by rw [HM.out]; exact HCS2.out⟩); (case measure => simp [intOf]; omega))
          · have hke : k' = n := by omega
            subst hke
            have hfin := HYES.out xs r2 xw wr (by rw [HROW.out, HCS.out, Nat.sub_self]; simp [cnts]) HS3.out
            have HFIN := Lib.hid hfin; clear hfin
            have t5 : ¬ (k' : Int) < (k' : Int) := by omega
            go_wp2_with fail
            go_roundw
            case rel => exact HFIN.out
            case measure => simp [intOf]; omega
    · have hi2 : i = 2 := by omega
      subst hi2
      have HS := Lib.hid hst; clear hst
      have hpr := hlp.2.2 rfl; clear hlp
      rw [HBS2.out] at hpr
      have hhd := hd_pre HX.out HT.out hpr
      clear hpr
      have HZ2 : Hid (Blk wr zb 3 #[.int .i64 0]) := Lib.hid (HZ1.out.frm HS.out.frm (fun e => e.elim hne2 hne3))
      cases hcn : getCount 32768 rest with
      | none =>
        rw [hcn] at hhd
        have HHD := Lib.hid hhd; clear hhd
        have HCN := Lib.hid (Count_none HS.out.rd hcn); clear hcn
        go_wp2_with fail
        (with_reducible refine HCN.out.mono ?_); rintro e w5 ⟨rfl, hf5⟩
        go_wp2_with fail
        exact ⟨rfl, R1Post.no HHD.out (HFR.out _ (HS.out.frm.trans (hf5.mono fun _ _ e => .inl e)))⟩
      | some p =>
        obtain ⟨n, k3⟩ := p
        rw [hcn] at hhd
        have HHD := Lib.hid hhd; clear hhd
        obtain ⟨g1, g2, g3⟩ := getCount_some hcn
        obtain ⟨m, rfl⟩ : ∃ m : Nat, n = (m : Int) := ⟨n.toNat, by omega⟩
        have HCN := Lib.hid (Count_yes HS.out.rd hcn); clear hcn g1
        go_wp2_with fail
        (with_reducible refine HCN.out.mono ?_); rintro e w5 ⟨rfl, hr5, hf5⟩
        have HR5 := Lib.hid hr5
        have HF5 := Lib.hid hf5
        have HZ5 : Hid (Blk w5 zb 3 #[.int .i64 0]) := Lib.hid (HZ2.out.frm hf5 hne2)
        have HB5 := Lib.hid (HS.out.blk.frm hf5 (fun e => hne e.symm))
        clear hr5 hf5
        have z0 : w5.cell? ⟨zb, 0, none⟩ = some (.int .i64 0) := HZ5.out.cell 0
        have z1 := HZ5.out.free 0
        go_wp2_with fail
        refine bodyPost_ret (v := .tuple #[]) (by simp [results, Tryz.results88, go_sem]) rfl ?_
        have hset : Frm (fun g => g = zb) w5 (w5.setCell ⟨zb, 0, none⟩ (.int .i64 (m : Int))) := (Frm.refl (fun g => g = zb) w5).setCell (p := ⟨zb, 0, none⟩) (fun _ => rfl) _
        have hrb : ¬ (sb = rb ∨ sb = zb) := by rintro (e | e); exact hne e.symm; exact hne3 e.symm
        have hL : ∀ {v : Value} {xs : List Int}, Mem.Own fI w1.heap.size 3 wr v xs → Mem.Own fI w0.heap.size 3 (w5.setCell ⟨zb, 0, none⟩ (.int .i64 (m : Int))) v xs := fun ho =>
          Own.lowerI (Mem.Own.frm (Mem.Own.frm ho HF5.out (fun g h1 h2 => by have := HW.r; omega)) hset (fun g h1 h2 => by have := HSZ.out; omega)) HSZ.out
        refine R1Post.yes HHD.out ⟨rfl, Rd.frm HR5.out hset (fun e => hne2 e.symm) (fun g hg => (HFAR.out g hg).2.2.2), ?_, HZ5.out.set_ 0 _, va, la, HB5.out.frm hset (fun e => hne3 e.symm), hL HS.out.own, hL HS.out.oth⟩
        exact ((HFR.out _ (HS.out.frm.trans (HF5.out.mono fun _ _ e => .inl e))).trans (hset.mono fun _ _ e => .inr (.inr e)))
end Go.Proofs.YtfpomllhkbbipaaGreatDoor
namespace Go.Proofs.YtfpomllhkbbipaaGreatDoor
open Go Go.RowKit Go.Maps Go.Lib Mem Pk Cf

/-- a head, whole -/
def hdW (bs : List UInt8) : Option HdT := (hdS bs).filter fun h => decide (h.r = [])
theorem hdW_some {bs : List UInt8} {h : HdT} : hdW bs = some h ↔ hdS bs = some h ∧ h.r = [] := by
  unfold hdW; rw [Option.filter_eq_some_iff]; simp
theorem hdW_none {bs : List UInt8} (h : hdW bs = none) : ∀ g, hdS bs = some g → g.r ≠ [] := fun g hg e => by
  rw [hdW_some.2 ⟨hg, e⟩] at h; cases h
def SrrPost (bs : List UInt8) (w1 : World) (sb zb : Nat) (e : Ending) (w' : World) : Prop :=
  ∃ code : Int, e = .returned (.int .i64 code) ∧ Frm (fun g => g = sb ∨ g = zb) w1 w' ∧ (hdW bs = none → code = 30) ∧
    ∀ h, hdW bs = some h → code = 0 ∧ Blk w' zb 3 #[.int .i64 (h.n : Int)] ∧ ∃ va la, Blk w' sb 43 #[.int .i64 h.x, .int .i64 h.t, va, la, .slice none 0 0] ∧ Mem.Own fI w1.heap.size 3 w' va h.vs ∧ Mem.Own fI w1.heap.size 3 w' la h.ls
theorem sread_read {F : Nat → Prop} {w1 : World} {A : Option Addr} {c sb zb : Nat} {bs : List UInt8} (hs : SlF F w1 A bs) (hc : bs.length ≤ c) (hm : c ≤ maxLen)
    (hsb : Blk w1 sb 43 #[.int .i64 0, .int .i64 0, .slice none 0 0, .slice none 0 0, .slice none 0 0]) (hzb : Blk w1 zb 3 #[.int .i64 0]) (hne : zb ≠ sb) (hF : ∀ g, F g → g ≠ sb ∧ g ≠ zb) :
    Calls Tryz.prog 87 #[.slice A bs.length c, .func (.func 88) #[] #[.pointer (some ⟨sb, 0, none⟩), .pointer (some ⟨zb, 0, none⟩)]] w1 (SrrPost bs w1 sb zb) := by
  have hs2 : SlF (fun g => F g ∧ g < w1.heap.size) w1 A bs := hs.mono fun g h1 h2 => ⟨h2, h1⟩
  have hlt := hsb.lt
  have hlt2 := hzb.lt
  have h1 := SRead1_any (rb := w1.heap.size + 1) (sb := sb) (zb := zb) (rdW_rd hs2 (by omega) hc hm) (hsb.below (rdW_below ..) hlt) (hzb.below (rdW_below ..) hlt2) (by rw [rdW_size]; omega) (by omega) (by omega) hne
    (fun g hg => ⟨by rw [rdW_size]; omega, by omega, hF g hg.1⟩)
  have hcode := rdW_code w1 A bs.length c
  have hfr : ∀ {W w' : World}, Frm (fun g => g = w1.heap.size + 1 ∨ g = sb ∨ g = zb) (rdW w1 A bs.length c) W → Frm (fun g => g = w1.heap.size) W w' → Frm (fun g => g = sb ∨ g = zb) w1 w' := by
    intro W w' ha hb
    have e1 : Frm (fun g => g = sb ∨ g = zb) w1 (rdW w1 A bs.length c) := (Frm.below (rdW_below ..)).mono fun _ _ e => False.elim e
    have e2 := e1.then_up (ha.mono fun g _ e => by rcases e with e | e | e <;> omega)
    exact e2.then_up (hb.mono fun g _ e => .inr (by omega))
  cases hd : hdS bs with
  | some h =>
    refine (Read_yes (rest := h.r) hs2 hc hm 88 #[.pointer (some ⟨sb, 0, none⟩), .pointer (some ⟨zb, 0, none⟩)]
      (fun W => Frm (fun g => g = w1.heap.size + 1 ∨ g = sb ∨ g = zb) (rdW w1 A bs.length c) W ∧ Blk W zb 3 #[.int .i64 (h.n : Int)] ∧ ∃ va la, Blk W sb 43 #[.int .i64 h.x, .int .i64 h.t, va, la, .slice none 0 0] ∧ Mem.Own fI (rdW w1 A bs.length c).heap.size 3 W va h.vs ∧ Mem.Own fI (rdW w1 A bs.length c).heap.size 3 W la h.ls)
      (enters_of Tryz.func88 (by kernel_rfl) rfl) (h1.mono fun e W hh => ?_) (if h.r = [] then 0 else 30) rfl).mono fun e w' hh => ?_
    · obtain ⟨he, hrd, hf, hrest⟩ := hh.1 h hd
      exact ⟨he, hrd, hcode.frm hf (by rintro (e | e | e) <;> omega), hf, hrest⟩
    · obtain ⟨he, W, ⟨hf, hzk, va, la, hb, hv, hll⟩, hf2, hsz⟩ := hh
      refine ⟨_, he, hfr hf hf2, fun hn => ?_, fun h' hs' => ?_⟩
      · rw [if_neg (hdW_none hn h hd)]
      · obtain ⟨h2, h3⟩ := hdW_some.1 hs'
        rw [hd] at h2
        have h2 := Option.some.inj h2
        subst h2
        refine ⟨by rw [if_pos h3], hzk.frm hf2 (by omega), va, la, hb.frm hf2 (by omega), ?_, ?_⟩
        · exact Own.lowerI (hv.frm hf2 (fun g hg e => by rw [rdW_size] at hg; omega)) (by rw [rdW_size]; omega)
        · exact Own.lowerI (hll.frm hf2 (fun g hg e => by rw [rdW_size] at hg; omega)) (by rw [rdW_size]; omega)
  | none =>
    have hn : hdW bs = none := by unfold hdW; rw [hd]; rfl
    refine (Read_no (F := F) hc hm 88 #[.pointer (some ⟨sb, 0, none⟩), .pointer (some ⟨zb, 0, none⟩)]
      (fun W => Frm (fun g => g = w1.heap.size + 1 ∨ g = sb ∨ g = zb) (rdW w1 A bs.length c) W)
      (enters_of Tryz.func88 (by kernel_rfl) rfl) 30 (h1.mono fun e W hh => ?_)).mono fun e w' hh => ?_
    · obtain ⟨he, hf⟩ := hh.2 hd
      exact ⟨he, hcode.frm hf (by rintro (e | e | e) <;> omega), hf⟩
    · obtain ⟨he, W, hf, hf2, hsz⟩ := hh
      exact ⟨30, he, hfr hf hf2, fun _ => rfl, fun h hs' => by rw [hn] at hs'; cases hs'⟩
/-- what snap.Read leaves -/
def SRdPost (res : Option SnT) (w : World) (e : Ending) (w' : World) : Prop :=
  Below w.heap.size w w' ∧ (res = none → e = .returned (.tuple #[.agg #[.int .i64 0, .int .i64 0, .slice none 0 0, .slice none 0 0, .slice none 0 0], .int .i64 30])) ∧
  ∀ s, res = some s → ∃ A B D a b d, e = .returned (.tuple #[.agg #[.int .i64 s.x, .int .i64 s.t, .slice A s.vs.length a, .slice B s.ls.length b, .slice D s.ds.length d], .int .i64 0]) ∧
    Mem.Own fI w.heap.size 3 w' (.slice A s.vs.length a) s.vs ∧ Mem.Own fI w.heap.size 3 w' (.slice B s.ls.length b) s.ls ∧ Mem.Own fB w.heap.size 5 w' (.slice D s.ds.length d) s.ds
theorem SRdPost.no {res : Option SnT} {w w' : World} {e : Ending} (h : res = none) (hb : Below w.heap.size w w') (he : e = .returned (.tuple #[.agg #[.int .i64 0, .int .i64 0, .slice none 0 0, .slice none 0 0, .slice none 0 0], .int .i64 30])) : SRdPost res w e w' :=
  ⟨hb, fun _ => he, fun s hs => by rw [h] at hs; cases hs⟩
theorem Mem.Own.apartT {α β : Type} {f : α → Value} {f' : β → Value} {base base' : Nat} {e e' : TypeId} {w w' : World} {v v' : Value} {xs : List α} {ys : List β} (h : Mem.Own f base e w v xs) (ho : Mem.Own f' base' e' w v' ys) (hne : e ≠ e') (hg : w.grownBy w' v'.ownBlock) : Mem.Own f base e w' v xs := by
  obtain ⟨h1, h2⟩ := h
  refine ⟨h1, ?_⟩
  rcases h2 with h2 | ⟨g, cap, cur, a, b, hh, c⟩
  · exact .inl h2
  · exact .inr ⟨g, cap, cur, a, b, Blk.apart (t := e) (g := g) hh ho hne hg, c⟩
def zeroSn : Array Value := #[.int .i64 0, .int .i64 0, .slice none 0 0, .slice none 0 0, .slice none 0 0]
theorem readS_no1 {b : List UInt8} (h : (unframe b).2.2 ≠ 0) : readS b = none := by unfold readS; rw [if_neg h]
theorem readS_no2 {b : List UInt8} (h : (unframe b).2.2 = 0) (h2 : hdW (unframe b).1 = none) : readS b = none := by
  unfold readS; rw [if_pos h]
  cases hd : hdS (unframe b).1 with
  | none => rfl
  | some g => simp only []; rw [if_neg (fun hc => hdW_none h2 g hd hc.1)]
theorem readS_is {b p : List UInt8} {n : Nat} {g : HdT} (h : unframe b = (p, n, 0)) (h2 : hdW p = some g) : readS b = if snapB g.x g.t g.vs g.ls [] = true then (pcs (nP g.n) g.n (b.drop n)).map fun ds => ⟨g.x, g.t, g.vs, g.ls, ds⟩ else none := by
  obtain ⟨h3, h4⟩ := hdW_some.1 h2
  unfold readS; rw [h, if_pos rfl]; simp only []; rw [h3]; simp only []
  by_cases hs : snapB g.x g.t g.vs g.ls [] = true
  · rw [if_pos ⟨h4, hs⟩, if_pos hs]
  · rw [if_neg (fun hc => hs hc.2), if_neg hs]
/-- the loop over the pieces -/
def SlRel (w : World) (g : HdT) (b0 : List UInt8) (sb zb : Nat) (va la : Value) (bv : Value) (wr : World) : Prop :=
  ∃ (k size : Nat) (rest acc : List UInt8) (A : Option Addr) (c : Nat) (dv : Value), bv = .slice A rest.length c ∧ Sl fB w A rest ∧ rest.length ≤ c ∧ c ≤ maxLen ∧
    Blk wr zb 3 #[.int .i64 (size : Int)] ∧ Blk wr sb 43 #[.int .i64 g.x, .int .i64 g.t, va, la, dv] ∧ Mem.Own fB w.heap.size 5 wr dv acc ∧ Mem.Own fI (zb + 1) 3 wr va g.vs ∧ Mem.Own fI (zb + 1) 3 wr la g.ls ∧
    Below w.heap.size w wr ∧ Blk wr w.heap.size 43 zeroSn ∧ size ≤ 2048 * k ∧ acc.length + size ≤ 32768 ∧ pcs (nP g.n) g.n b0 = (pcs k size rest).map (acc ++ ·)
theorem own_frmT {α : Type} {f : α → Value} {base : Nat} {e t : TypeId} {w w' : World} {v : Value} {xs : List α} {g : Nat} {cs : Array Value} (h : Mem.Own f base e w v xs) (hb : Blk w g t cs) (hne : e ≠ t) (hf : Frm (fun k => k = g) w w') : Mem.Own f base e w' v xs := by
  obtain ⟨h1, h2⟩ := h
  refine ⟨h1, ?_⟩
  rcases h2 with h2 | ⟨g', cap, cur, a, b, hh, c⟩
  · exact .inl h2
  · refine .inr ⟨g', cap, cur, a, b, ?_, c⟩
    have hlt : g' < w.heap.size := (Array.getElem?_eq_some_iff.1 hh).1
    rw [hf.block g' hlt (fun e2 => by subst e2; unfold Blk at hb; rw [hh] at hb; injection hb with hb; injection hb with _ h3; exact hne h3)]
    exact hh
def put5 (W : World) (g : Nat) (a b c d e : Value) : World := ((((W.setCell ⟨g, 0, none⟩ a).setCell ⟨g, 1, none⟩ b).setCell ⟨g, 2, none⟩ c).setCell ⟨g, 3, none⟩ d).setCell ⟨g, 4, none⟩ e
theorem put5_blk {W : World} {g : Nat} {t : TypeId} {a b c d e a' b' c' d' e' : Value} (h : Blk W g t #[a', b', c', d', e']) : Blk (put5 W g a b c d e) g t #[a, b, c, d, e] := ((((h.set_ 0 a).set_ 1 b).set_ 2 c).set_ 3 d).set_ 4 e
theorem put5_frm (W : World) (g : Nat) (a b c d e : Value) : Frm (fun k => k = g) W (put5 W g a b c d e) :=
  (((((Frm.refl (fun k => k = g) W).setCell (p := ⟨g, 0, none⟩) (fun _ => rfl) a).setCell (p := ⟨g, 1, none⟩) (fun _ => rfl) b).setCell (p := ⟨g, 2, none⟩) (fun _ => rfl) c).setCell (p := ⟨g, 3, none⟩) (fun _ => rfl) d).setCell (p := ⟨g, 4, none⟩) (fun _ => rfl) e
def lenV : Value → Nat
  | .slice _ n _ => n
  | _ => 0
set_option maxRecDepth 100000 in
set_option maxHeartbeats 4000000 in
theorem SRead_any {w : World} {A : Option Addr} {c : Nat} {bs : List UInt8} (hs : Sl fB w A bs) (hc : bs.length ≤ c) (hm : c ≤ maxLen) :
    Calls Tryz.prog 54 #[.slice A bs.length c] w (SRdPost (readS bs) w) := by
  have hmf : ∀ (fn : Fn) (first cap : Array Value) (w : World), (Instr.makeFunc fn first cap).run Tryz.prog w = .ok (.func fn first cap) w := fun _ _ _ _ => rfl
  obtain ⟨w0, hw0⟩ : ∃ x, x = w.alloc (.cells zeroSn 43) := ⟨_, rfl⟩
  have hb0 : Below w.heap.size w w0 := by rw [hw0]; exact (Below.refl _ _).alloc (Nat.le_refl _) _
  have hx0 : Blk w0 w.heap.size 43 zeroSn := by rw [hw0]; exact Blk.new_ w _ _
  obtain ⟨res, hres⟩ : ∃ r, r = readS bs := ⟨_, rfl⟩
  rw [← hres]
  have HRES := Lib.hid hres; clear hres
  obtain ⟨⟨p, n, u⟩, hu⟩ : ∃ z, z = unframe bs := ⟨_, rfl⟩
  have HUF : Hid (Calls Tryz.prog 86 #[.slice A bs.length c] w0 (UfPost (p, n, u) w0)) := Lib.hid (by rw [hu]; exact Unframe_any (hs.below hb0) hc hm)
  have HU := Lib.hid hu; clear hu
  have HC := Lib.hid hc; clear hc
  have HM := Lib.hid hm; clear hm
  have HS := Lib.hid hs; clear hs
  have HB0 := Lib.hid hb0; clear hb0
  have HX0 := Lib.hid hx0; clear hx0
  have HW0 := Lib.hid hw0; clear hw0
  go_enter Tryz.func54, Tryz.ntmps54
  go_upto_region 1 with fail
  have hzz := HW0.out
  unfold zeroSn at hzz
  rw [← hzz]
  clear hzz HW0
  go_wp2_with fail
  (with_reducible refine HUF.out.mono ?_); rintro e w1 ⟨P, cp, rfl, ho1, hb1⟩
  simp only at ho1 ⊢
  have HB1 : Hid (Below w.heap.size w w1) := Lib.hid (HB0.out.trans (hb1.mono HB0.out.size))
  have HX1 : Hid (Blk w1 w.heap.size 43 zeroSn) := Lib.hid (HX0.out.below hb1 HX0.out.lt)
  have HO1 := Lib.hid ho1; clear ho1 hb1
  have hsz1 : w.heap.size < w1.heap.size := HX1.out.lt
  have HZ1 := Lib.hid hsz1; clear hsz1
  by_cases hu0 : u = 0
  · subst hu0
    obtain ⟨w2, hw2⟩ : ∃ x, x = w1.alloc (.cells zeroSn 43) := ⟨_, rfl⟩
    have hb2 : Below w1.heap.size w1 w2 := by rw [hw2]; exact (Below.refl _ _).alloc (Nat.le_refl _) _
    have hx2 : Blk w2 w1.heap.size 43 zeroSn := by rw [hw2]; exact Blk.new_ w1 _ _
    have hz2 : w2.heap.size = w1.heap.size + 1 := by rw [hw2]; exact World.size_alloc ..
    obtain ⟨w3, hw3⟩ : ∃ x, x = w2.alloc (.cells #[.int .i64 0] 3) := ⟨_, rfl⟩
    have hb3 : Below w2.heap.size w2 w3 := by rw [hw3]; exact (Below.refl _ _).alloc (Nat.le_refl _) _
    have hx3 : Blk w3 (w1.heap.size + 1) 3 #[.int .i64 0] := by rw [hw3, ← hz2]; exact Blk.new_ w2 _ _
    have hb13 : Below w1.heap.size w1 w3 := hb2.trans (hb3.mono (by omega))
    have HSB3 : Hid (Blk w3 w1.heap.size 43 zeroSn) := Lib.hid (hx2.below hb3 (by omega))
    have HZB3 := Lib.hid hx3
    have HB3 : Hid (Below w.heap.size w w3) := Lib.hid (HB1.out.trans (hb13.mono HB1.out.size))
    have HX3 : Hid (Blk w3 w.heap.size 43 zeroSn) := Lib.hid (HX1.out.below hb13 HX1.out.lt)
    have HO3 : Hid (Mem.Own fB w0.heap.size 5 w3 (.slice P p.length cp) p) := Lib.hid (Mem.Own.frm HO1.out (Frm.below hb13) (fun _ _ e => e))
    have hsf : SlF (fun g => g < w1.heap.size) w3 P p := (SlF.of_sl HO1.out.sl.2).frm (G := fun _ => False) (Frm.below hb13) (fun _ _ e => e)
    have HRD := Lib.hid (sread_read (sb := w1.heap.size) (zb := w1.heap.size + 1) hsf HO1.out.cap.1 HO1.out.cap.2 HSB3.out HZB3.out (by omega) (fun g hg => by omega))
    have HW3 : Hid (w3 = (w1.alloc (.cells zeroSn 43)).alloc (.cells #[.int .i64 0] 3)) := Lib.hid (by rw [hw3, hw2])
    have hs13 : w1.heap.size + 2 ≤ w3.heap.size := by have := hx3.lt; omega
    have HS13 := Lib.hid hs13
    clear hw2 hw3 hb2 hb3 hx2 hx3 hz2 hb13 hsf hs13
    go_upto_region 6 with fail
    have hzz := HW3.out
    unfold zeroSn at hzz
    rw [← hzz]
    clear hzz HW3
    go_wp2_with fail
    (with_reducible refine HRD.out.mono ?_); rintro e w4 ⟨code, rfl, hf4, hno, hyes⟩
    have HB4 : Hid (Below w.heap.size w w4) := Lib.hid (HB3.out.trans (hf4.to_below (fun k _ h1 h2 => by have := HZ1.out; omega) HB3.out.size))
    have HX4 : Hid (Blk w4 w.heap.size 43 zeroSn) := Lib.hid (HX3.out.frm hf4 (fun e => by have := HZ1.out; omega))
    have h34 := hf4.size
    have H34 := Lib.hid h34; clear h34 hf4
    cases hw : hdW p with
    | none =>
      obtain rfl := hno hw
      have HN : Hid (res = none) := Lib.hid (by rw [HRES.out]; exact readS_no2 (by rw [← HU.out]) (by rw [← HU.out]; exact hw))
      clear hno hyes hw
      have q0 := HX4.out.free 0
      have q1 := HX4.out.free 1
      have q2 := HX4.out.free 2
      have q3 := HX4.out.free 3
      have q4 := HX4.out.free 4
      obtain ⟨d0, d1, d2, d3, d4⟩ := held5 (HX4.out) (Below.refl _ _)
      go_wp2_with fail
      obtain ⟨W9, hW9⟩ : ∃ z, z = put5 w4 w.heap.size (.int .i64 0) (.int .i64 0) (.slice none 0 0) (.slice none 0 0) (.slice none 0 0) := ⟨_, rfl⟩
      have hx9 : Blk W9 w.heap.size 43 #[.int .i64 0, .int .i64 0, .slice none 0 0, .slice none 0 0, .slice none 0 0] := by rw [hW9]; exact put5_blk HX4.out
      have hf9 : Frm (fun g => g = w.heap.size) w4 W9 := by rw [hW9]; exact put5_frm _ _ _ _ _ _ _
      unfold put5 at hW9
      rw [← hW9]
      obtain ⟨r0, r1, r2, r3, r4⟩ := held5 hx9 (Below.refl _ _)
      refine bodyPost_ret (v := .tuple #[.agg #[.int .i64 0, .int .i64 0, .slice none 0 0, .slice none 0 0, .slice none 0 0], .int .i64 30]) (by simp [results, Tryz.results54, go_sem, r0, r1, r2, r3, r4]) rfl ?_
      exact SRdPost.no HN.out (HB4.out.trans (hf9.to_below (fun k _ h1 h2 => by omega) HB4.out.size)) rfl
    | some g =>
      obtain ⟨rfl, hzk, va, la, hsb, hva, hla⟩ := hyes g hw
      have HRI : Hid (res = if snapB g.x g.t g.vs g.ls [] = true then (pcs (nP g.n) g.n (bs.drop n)).map fun ds => ⟨g.x, g.t, g.vs, g.ls, ds⟩ else none) := Lib.hid (by rw [HRES.out]; exact readS_is HU.out.symm hw)
      obtain ⟨hn32, -⟩ : g.n ≤ 32768 ∧ True := ⟨(hd_some (hdW_some.1 hw).1).2.2.2.2.1, trivial⟩
      have HN32 := Lib.hid hn32
      clear hno hyes hn32 hw
      obtain ⟨VA, ca, rfl⟩ := hva.form
      obtain ⟨LA, cl, rfl⟩ := hla.form
      have hva4 : Mem.Own fI (w1.heap.size + 1 + 1) 3 w4 (.slice VA g.vs.length ca) g.vs := Own.lowerI hva HS13.out
      have hla4 : Mem.Own fI (w1.heap.size + 1 + 1) 3 w4 (.slice LA g.ls.length cl) g.ls := Own.lowerI hla HS13.out
      have HVA := Lib.hid hva4
      have HLA := Lib.hid hla4
      have HSB4 := Lib.hid hsb
      have HZB4 := Lib.hid hzk
      obtain ⟨s0, s1, s2, s3, s4⟩ := held5 hsb (Below.refl _ _)
      obtain ⟨pp, hpp⟩ : ∃ z, z = snapB g.x g.t g.vs g.ls [] := ⟨_, rfl⟩
      have hrg := snright_any (w := w4) (x := g.x) (t := g.t) (A := VA) (B := LA) (D := none) (a := ca) (b := cl) (d := 0) (vs := g.vs) (ls := g.ls) (ds := []) ⟨hva.sl.2, hla.sl.2, Sl.nil⟩
      rw [← hpp] at hrg
      simp only [List.length_nil] at hrg
      have HRG := Lib.hid hrg; clear hrg
      have HPP := Lib.hid hpp; clear hpp
      clear hva hla hva4 hla4 hsb hzk
      go_wp2_with fail
      (with_reducible refine HRG.out.mono ?_); rintro e w5 ⟨rfl, hb5⟩
      have HB5 : Hid (Below w.heap.size w w5) := Lib.hid (HB4.out.trans (hb5.mono HB4.out.size))
      have HX5 : Hid (Blk w5 w.heap.size 43 zeroSn) := Lib.hid (HX4.out.below hb5 HX4.out.lt)
      have HSB5 := Lib.hid (HSB4.out.below hb5 HSB4.out.lt)
      have HZB5 := Lib.hid (HZB4.out.below hb5 HZB4.out.lt)
      have HVA5 := Lib.hid (Mem.Own.frm HVA.out (Frm.below hb5) (fun _ _ e => e))
      have HLA5 := Lib.hid (Mem.Own.frm HLA.out (Frm.below hb5) (fun _ _ e => e))
      clear s0 s1 s2 s3 s4 hb5 HRG
      cases pp with
      | false =>
        have HN : Hid (res = none) := Lib.hid (by rw [HRI.out, ← HPP.out]; rfl)
        have q0 := HX5.out.free 0
        have q1 := HX5.out.free 1
        have q2 := HX5.out.free 2
        have q3 := HX5.out.free 3
        have q4 := HX5.out.free 4
        obtain ⟨d0, d1, d2, d3, d4⟩ := held5 (HX5.out) (Below.refl _ _)
        go_wp2_with fail
        obtain ⟨W9, hW9⟩ : ∃ z, z = put5 w5 w.heap.size (.int .i64 0) (.int .i64 0) (.slice none 0 0) (.slice none 0 0) (.slice none 0 0) := ⟨_, rfl⟩
        have hx9 : Blk W9 w.heap.size 43 #[.int .i64 0, .int .i64 0, .slice none 0 0, .slice none 0 0, .slice none 0 0] := by rw [hW9]; exact put5_blk HX5.out
        have hf9 : Frm (fun g => g = w.heap.size) w5 W9 := by rw [hW9]; exact put5_frm _ _ _ _ _ _ _
        unfold put5 at hW9
        rw [← hW9]
        obtain ⟨r0, r1, r2, r3, r4⟩ := held5 hx9 (Below.refl _ _)
        refine bodyPost_ret (v := .tuple #[.agg #[.int .i64 0, .int .i64 0, .slice none 0 0, .slice none 0 0, .slice none 0 0], .int .i64 30]) (by simp [results, Tryz.results54, go_sem, r0, r1, r2, r3, r4]) rfl ?_
        exact SRdPost.no HN.out (HB5.out.trans (hf9.to_below (fun k _ h1 h2 => by omega) HB5.out.size)) rfl
      | true =>
        have HRI2 : Hid (res = (pcs (nP g.n) g.n (bs.drop n)).map fun ds => ⟨g.x, g.t, g.vs, g.ls, ds⟩) := Lib.hid (by rw [HRI.out, ← HPP.out]; rfl)
        clear HRI
        have hnb : n ≤ bs.length := (unframe_ok HU.out.symm).2.2.1
        have ck := cutB A bs.length c n hnb
        have HSR : Hid (Sl fB w (partA A c n) (bs.drop n)) := Lib.hid (by
          have h9 := HS.out.part (c := c) (k := n) (m := bs.length - n) (by omega) HC.out
          rw [List.take_of_length_le (by rw [List.length_drop]; omega)] at h9
          exact h9)
        have hdl : (bs.drop n).length = bs.length - n := List.length_drop
        have hcc : bs.length - n ≤ c - n := by have := HC.out; omega
        have hcm : c - n ≤ maxLen := Nat.le_trans (Nat.sub_le _ _) HM.out
        obtain ⟨A6, hA6⟩ : ∃ z, z = partA A c n := ⟨_, rfl⟩
        obtain ⟨b0, hb0⟩ : ∃ z, z = bs.drop n := ⟨_, rfl⟩
        obtain ⟨c6, hc6⟩ : ∃ z, z = c - n := ⟨_, rfl⟩
        rw [← hb0] at hdl HSR HRI2
        rw [← hA6] at HSR ck
        rw [← hc6] at ck hcc hcm
        rw [← hdl] at ck hcc
        have HCC := Lib.hid hcc
        have HCM := Lib.hid hcm
        clear hdl hcc hcm hA6 hb0 hc6 hnb
        go_wp2_with fail
        clear ck
        go_loopw [0] (fun bv wr => SlRel w g b0 w1.heap.size (w1.heap.size + 1) (.slice VA g.vs.length ca) (.slice LA g.ls.length cl) bv wr) (fun bv _ => lenV bv)
        case atStart =>
          exact ⟨nP g.n, g.n, b0, [], A6, c6, _, rfl, HSR.out, HCC.out, HCM.out, HZB5.out, HSB5.out, Own.nil, HVA5.out, HLA5.out, HB5.out, HX5.out, by unfold nP; omega, by have := HN32.out; simpa using this, by simp⟩
        case round =>
          obtain ⟨k, size, rest, acc, A7, c7, dv, rfl, hsl, hrc, hcm, hzb, hsb, hdv, hva, hla, hbw, hx, hk, hacc, hpcs⟩ := hrel
          obtain ⟨DV, dc, rfl⟩ := hdv.form
          have HSL := Lib.hid hsl; clear hsl
          have HRC := Lib.hid hrc; clear hrc
          have HCM7 := Lib.hid hcm; clear hcm
          have HZB := Lib.hid hzb; clear hzb
          have HSB := Lib.hid hsb; clear hsb
          have HDV := Lib.hid hdv; clear hdv
          have HVA7 := Lib.hid hva; clear hva
          have HLA7 := Lib.hid hla; clear hla
          have HBW := Lib.hid hbw; clear hbw
          have HX := Lib.hid hx; clear hx
          have HK := Lib.hid hk; clear hk
          have HACC := Lib.hid hacc; clear hacc
          have HPCS := Lib.hid hpcs; clear hpcs
          obtain ⟨wo, rfl⟩ : ∃ wo, wo = wr := ⟨_, rfl⟩
          have z0 : wo.cell? ⟨w1.heap.size + 1, 0, none⟩ = some (.int .i64 (size : Int)) := HZB.out.cell 0
          have z1 := HZB.out.free 0
          by_cases h0 : 0 < size
          · have t1 : (0 : Int) < (size : Int) := by omega
            obtain ⟨⟨pt, kn, un⟩, hu2⟩ : ∃ z, z = unframe rest := ⟨_, rfl⟩
            have HUF2 : Hid (Calls Tryz.prog 86 #[.slice A7 rest.length c7] wo (UfPost (pt, kn, un) wo)) := Lib.hid (by rw [hu2]; exact Unframe_any (HSL.out.below HBW.out) HRC.out HCM7.out)
            have HU2 := Lib.hid hu2; clear hu2
            go_wp2_with fail
            (with_reducible refine HUF2.out.mono ?_); rintro e w6 ⟨P6, cp6, rfl, ho6, hb6⟩
            simp only at ho6 ⊢
            have HB6 : Hid (Below w.heap.size w w6) := Lib.hid (HBW.out.trans (hb6.mono HBW.out.size))
            have HX6 : Hid (Blk w6 w.heap.size 43 zeroSn) := Lib.hid (HX.out.below hb6 HX.out.lt)
            have HSB6 := Lib.hid (HSB.out.below hb6 HSB.out.lt)
            have HZB6 := Lib.hid (HZB.out.below hb6 HZB.out.lt)
            have HVA6 := Lib.hid (Mem.Own.frm HVA7.out (Frm.below hb6) (fun _ _ e => e))
            have HLA6 := Lib.hid (Mem.Own.frm HLA7.out (Frm.below hb6) (fun _ _ e => e))
            have HDV6 := Lib.hid (Mem.Own.frm HDV.out (Frm.below hb6) (fun _ _ e => e))
            have HP6 := Lib.hid ho6.sl.2
            have hpl6 := ho6.sl.2.len
            clear ho6 hb6 z0 z1
            have z0 : w6.cell? ⟨w1.heap.size + 1, 0, none⟩ = some (.int .i64 (size : Int)) := HZB6.out.cell 0
            have z1 := HZB6.out.free 0
            by_cases hun : un = 0
            · subst hun
              obtain ⟨mn, hmn⟩ : ∃ z, z = min size 2048 := ⟨_, rfl⟩
              have hmin : (if (2048 : Int) < (size : Int) then (2048 : Int) else (size : Int)) = (mn : Int) := by split <;> omega
              have HMN := Lib.hid hmn; clear hmn
              by_cases hpl : pt.length = mn
              · have t2 : ((pt.length : Int) != (mn : Int)) = false := by rw [hpl]; simp
                obtain ⟨f1, f2, f3, f4, f5⟩ := unframe_ok HU2.out.symm
                obtain ⟨s0, s1, s2, s3, s4⟩ := held5 HSB6.out (Below.refl _ _)
                have y4 := HSB6.out.free 4
                obtain ⟨k', hk'⟩ : ∃ k', k = k' + 1 := ⟨k - 1, by have := HK.out; omega⟩
                have hpc2 : pcs (nP g.n) g.n b0 = (pcs k' (size - pt.length) (rest.drop kn)).map ((acc ++ pt) ++ ·) := by
                  rw [HPCS.out, hk', pcs_step h0 HU2.out.symm (by rw [hpl, HMN.out]), Option.map_map]
                  congr 1; funext q; simp
                have hk2 : size - pt.length ≤ 2048 * k' := by have := HK.out; have := HMN.out; omega
                have hac2 : (acc ++ pt).length + (size - pt.length) ≤ 32768 := by have := HACC.out; have := HMN.out; rw [List.length_append]; omega
                have hp0 : 0 < pt.length := by have := HMN.out; omega
                have hps : pt.length ≤ size := by have := HMN.out; omega
                have e9 : IntKind.i64.wrap ((size : Int) - (pt.length : Int)) = ((size - pt.length : Nat) : Int) := by rw [IntKind.wrap_i64]; have := HACC.out; omega
                have ck := cutB A7 rest.length c7 kn f3
                have HSR2 : Hid (Sl fB w (partA A7 c7 kn) (rest.drop kn)) := Lib.hid (by
                  have h9 := HSL.out.part (c := c7) (k := kn) (m := rest.length - kn) (by omega) HRC.out
                  rw [List.take_of_length_le (by rw [List.length_drop]; omega)] at h9
                  exact h9)
                have hdl : (rest.drop kn).length = rest.length - kn := List.length_drop
                have hcc : rest.length - kn ≤ c7 - kn := by have := HRC.out; omega
                have hcm : c7 - kn ≤ maxLen := Nat.le_trans (Nat.sub_le _ _) HCM7.out
                have hlow : rest.length - kn < rest.length := by omega
                have H63 : Hid (acc.length + pt.length ≤ maxLen) := Lib.hid (by rw [List.length_append] at hac2; unfold maxLen; omega)
                have HBY : Hid ((acc.length + pt.length) * 1 ≤ 140737488355328) := Lib.hid (by rw [List.length_append] at hac2; omega)
                have HPC2 := Lib.hid hpc2
                have HK2 := Lib.hid hk2
                have HAC2 := Lib.hid hac2
                have HLOW := Lib.hid hlow
                have HCC2 := Lib.hid hcc
                have HCM2 := Lib.hid hcm
                obtain ⟨sz2, hsz2⟩ : ∃ z, z = size - pt.length := ⟨_, rfl⟩
                rw [← hsz2] at e9 HPC2 HK2 HAC2
                obtain ⟨rest2, hrest2⟩ : ∃ z, z = rest.drop kn := ⟨_, rfl⟩
                rw [← hrest2] at HPC2 HSR2 hdl
                obtain ⟨A8, hA8⟩ : ∃ z, z = partA A7 c7 kn := ⟨_, rfl⟩
                obtain ⟨c8, hc8⟩ : ∃ z, z = c7 - kn := ⟨_, rfl⟩
                rw [← hA8] at ck HSR2
                rw [← hc8] at ck HCC2 HCM2
                rw [← hdl] at ck HCC2 HLOW
                obtain ⟨ac2, hac3⟩ : ∃ z, z = acc ++ pt := ⟨_, rfl⟩
                rw [← hac3] at HPC2 HAC2
                have HA3 := Lib.hid hac3
                clear f1 f2 f3 f4 f5 hk' hpc2 hk2 hac2 hlow hcc hcm hsz2 hrest2 hA8 hc8 hdl hac3 hpl hps hp0
                go_wp2_with (at_builtin; refine wpList_appendNt (f := fB) rfl (.tmp 57) (.tmp 58) 36 rfl u8T rfl HDV6.out rfl HP6.out fB_oneJ H63.out HBY.out HB6.out.size ?_; intro v7 w7 ho7 hg7; have HG7 : Hid (w6.grownBy w7 (Value.slice DV acc.length dc).ownBlock) := Lib.hid hg7; have ho8 : Mem.Own fB w.heap.size 5 w7 v7 ac2 := (by rw [HA3.out]; exact ho7); obtain ⟨A9, e9', rfl⟩ := ho8.form; have HO8 := Lib.hid ho8; have HSB7 := Lib.hid (HSB6.out.apart HDV6.out (by decide) HG7.out); have HZB7 := Lib.hid (HZB6.out.apart HDV6.out (by decide) HG7.out); have HX7 := Lib.hid (HX6.out.apart HDV6.out (by decide) HG7.out); have HVA8 := Lib.hid (Mem.Own.apartT HVA6.out HDV6.out (by decide) HG7.out); have HLA8 := Lib.hid (Mem.Own.apartT HLA6.out HDV6.out (by decide) HG7.out); have HB7 := Lib.hid (HB6.out.trans (HDV6.out.below_ HB6.out.size HG7.out)); have k4 : w7.cell? ⟨w1.heap.size, 4, none⟩ = some (.slice DV acc.length dc) := HSB7.out.cell 4; have k5 := HSB7.out.free 4; have hw7 : ∀ u, (w7.setCell ⟨w1.heap.size, 4, none⟩ u).cell? ⟨w1.heap.size + 1, 0, none⟩ = some (.int .i64 (size : Int)) := (fun u => (HZB7.out.far (p := ⟨w1.heap.size, 4, none⟩) (by show w1.heap.size + 1 ≠ w1.heap.size; omega) u).cell 0); have hw8 : ∀ u, (w7.setCell ⟨w1.heap.size, 4, none⟩ u).frozen? ⟨w1.heap.size + 1, 0, none⟩ = false := (fun u => (HZB7.out.far (p := ⟨w1.heap.size, 4, none⟩) (by show w1.heap.size + 1 ≠ w1.heap.size; omega) u).free 0); clear ho7 hg7 ho8 s0 s1 s2 s3 s4 z0 z1)
                have hZne : w1.heap.size ≠ w1.heap.size + 1 := by omega
                have hw1z := HZ1.out
                obtain ⟨W8, hW8⟩ : ∃ z, z = (w7.setCell ⟨w1.heap.size, 4, none⟩ (.slice A9 ac2.length e9')).setCell ⟨w1.heap.size + 1, 0, none⟩ (.int .i64 (sz2 : Int)) := ⟨_, rfl⟩
                rw [← hW8]
                have hf8 : Frm (fun k => k = w1.heap.size) w7 (w7.setCell ⟨w1.heap.size, 4, none⟩ (.slice A9 ac2.length e9')) := (Frm.refl (fun k => k = w1.heap.size) w7).setCell (p := ⟨w1.heap.size, 4, none⟩) (fun _ => rfl) _
                have hf9 : Frm (fun k => k = w1.heap.size + 1) (w7.setCell ⟨w1.heap.size, 4, none⟩ (.slice A9 ac2.length e9')) W8 := by rw [hW8]; exact (Frm.refl (fun k => k = w1.heap.size + 1) _).setCell (p := ⟨w1.heap.size + 1, 0, none⟩) (fun _ => rfl) _
                have hz8 := HZB7.out.frm hf8 (fun e => hZne e.symm)
                have r1 : Blk W8 (w1.heap.size + 1) 3 #[.int .i64 (sz2 : Int)] := by rw [hW8]; exact hz8.set_ 0 _
                have r2 : Blk W8 w1.heap.size 43 #[.int .i64 g.x, .int .i64 g.t, .slice VA g.vs.length ca, .slice LA g.ls.length cl, .slice A9 ac2.length e9'] := (HSB7.out.set_ 4 _).frm hf9 hZne
                have r3 : Mem.Own fB w.heap.size 5 W8 (.slice A9 ac2.length e9') ac2 := own_frmT (own_frmT HO8.out HSB7.out (by decide) hf8) hz8 (by decide) hf9
                have r4 : Mem.Own fI (w1.heap.size + 1 + 1) 3 W8 (.slice VA g.vs.length ca) g.vs := (HVA8.out.frm hf8 (fun _ h1 h2 => by omega)).frm hf9 (fun _ h1 h2 => by omega)
                have r5 : Mem.Own fI (w1.heap.size + 1 + 1) 3 W8 (.slice LA g.ls.length cl) g.ls := (HLA8.out.frm hf8 (fun _ h1 h2 => by omega)).frm hf9 (fun _ h1 h2 => by omega)
                have r6 : Below w.heap.size w W8 := HB7.out.trans ((hf8.to_below (fun _ _ h1 h2 => by omega) HB7.out.size).trans (hf9.to_below (fun _ _ h1 h2 => by omega) (Nat.le_trans HB7.out.size hf8.size)))
                have r7 : Blk W8 w.heap.size 43 zeroSn := (HX7.out.frm hf8 (by omega)).frm hf9 (by omega)
                exact ⟨⟨k', sz2, rest2, ac2, A8, c8, _, rfl, HSR2.out, HCC2.out, HCM2.out, r1, r2, r3, r4, r5, r6, r7, HK2.out, HAC2.out, HPC2.out⟩, HLOW.out⟩
              · have t2 : ((pt.length : Int) != (mn : Int)) = true := by rw [bne_iff_ne]; omega
                have HN : Hid (res = none) := Lib.hid (by rw [HRI2.out, HPCS.out, pcs_no h0 (by rw [← HU2.out, ← HMN.out]; exact fun h => hpl h.2)]; rfl)
                clear hpl
                have q0 := HX6.out.free 0
                have q1 := HX6.out.free 1
                have q2 := HX6.out.free 2
                have q3 := HX6.out.free 3
                have q4 := HX6.out.free 4
                obtain ⟨d0, d1, d2, d3, d4⟩ := held5 (HX6.out) (Below.refl _ _)
                go_wp2_with fail
                obtain ⟨W9, hW9⟩ : ∃ z, z = put5 w6 w.heap.size (.int .i64 0) (.int .i64 0) (.slice none 0 0) (.slice none 0 0) (.slice none 0 0) := ⟨_, rfl⟩
                have hx9 : Blk W9 w.heap.size 43 #[.int .i64 0, .int .i64 0, .slice none 0 0, .slice none 0 0, .slice none 0 0] := by rw [hW9]; exact put5_blk HX6.out
                have hf9 : Frm (fun g => g = w.heap.size) w6 W9 := by rw [hW9]; exact put5_frm _ _ _ _ _ _ _
                unfold put5 at hW9
                rw [← hW9]
                obtain ⟨r0, r1, r2, r3, r4⟩ := held5 hx9 (Below.refl _ _)
                refine bodyPost_ret (v := .tuple #[.agg #[.int .i64 0, .int .i64 0, .slice none 0 0, .slice none 0 0, .slice none 0 0], .int .i64 30]) (by simp [results, Tryz.results54, go_sem, r0, r1, r2, r3, r4]) rfl ?_
                exact SRdPost.no HN.out (HB6.out.trans (hf9.to_below (fun k _ h1 h2 => by omega) HB6.out.size)) rfl
            · have t2 : (un != 0) = true := by rw [bne_iff_ne]; exact hun
              have HN : Hid (res = none) := Lib.hid (by rw [HRI2.out, HPCS.out, pcs_no h0 (by rw [← HU2.out]; exact fun h => hun h.1)]; rfl)
              clear hun
              have q0 := HX6.out.free 0
              have q1 := HX6.out.free 1
              have q2 := HX6.out.free 2
              have q3 := HX6.out.free 3
              have q4 := HX6.out.free 4
              obtain ⟨d0, d1, d2, d3, d4⟩ := held5 (HX6.out) (Below.refl _ _)
              go_wp2_with fail
              obtain ⟨W9, hW9⟩ : ∃ z, z = put5 w6 w.heap.size (.int .i64 0) (.int .i64 0) (.slice none 0 0) (.slice none 0 0) (.slice none 0 0) := ⟨_, rfl⟩
              have hx9 : Blk W9 w.heap.size 43 #[.int .i64 0, .int .i64 0, .slice none 0 0, .slice none 0 0, .slice none 0 0] := by rw [hW9]; exact put5_blk HX6.out
              have hf9 : Frm (fun g => g = w.heap.size) w6 W9 := by rw [hW9]; exact put5_frm _ _ _ _ _ _ _
              unfold put5 at hW9
              rw [← hW9]
              obtain ⟨r0, r1, r2, r3, r4⟩ := held5 hx9 (Below.refl _ _)
              refine bodyPost_ret (v := .tuple #[.agg #[.int .i64 0, .int .i64 0, .slice none 0 0, .slice none 0 0, .slice none 0 0], .int .i64 30]) (by simp [results, Tryz.results54, go_sem, r0, r1, r2, r3, r4]) rfl ?_
              exact SRdPost.no HN.out (HB6.out.trans (hf9.to_below (fun k _ h1 h2 => by omega) HB6.out.size)) rfl
          · have t1 : ¬ (0 : Int) < (size : Int) := by omega
            obtain rfl : size = 0 := by omega
            by_cases hr : rest.length = 0
            · have t2 : ¬ (0 : Int) < (rest.length : Int) := by omega
              have HYS : Hid (res = some ⟨g.x, g.t, g.vs, g.ls, acc⟩) := Lib.hid (by rw [HRI2.out, HPCS.out, pcs_zero, if_pos (List.eq_nil_of_length_eq_zero hr)]; simp)
              clear hr
              obtain ⟨s0, s1, s2, s3, s4⟩ := held5 HSB.out (Below.refl _ _)
              have q0 := HX.out.free 0
              have q1 := HX.out.free 1
              have q2 := HX.out.free 2
              have q3 := HX.out.free 3
              have q4 := HX.out.free 4
              obtain ⟨d0, d1, d2, d3, d4⟩ := held5 (HX.out) (Below.refl _ _)
              go_wp2_with fail
              obtain ⟨W9, hW9⟩ : ∃ z, z = put5 wo w.heap.size (.int .i64 g.x) (.int .i64 g.t) (.slice VA g.vs.length ca) (.slice LA g.ls.length cl) (.slice DV acc.length dc) := ⟨_, rfl⟩
              have hx9 : Blk W9 w.heap.size 43 #[.int .i64 g.x, .int .i64 g.t, .slice VA g.vs.length ca, .slice LA g.ls.length cl, .slice DV acc.length dc] := by rw [hW9]; exact put5_blk HX.out
              have hf9 : Frm (fun g => g = w.heap.size) wo W9 := by rw [hW9]; exact put5_frm _ _ _ _ _ _ _
              unfold put5 at hW9
              rw [← hW9]
              obtain ⟨r0, r1, r2, r3, r4⟩ := held5 hx9 (Below.refl _ _)
              refine bodyPost_ret (v := .tuple #[.agg #[.int .i64 g.x, .int .i64 g.t, .slice VA g.vs.length ca, .slice LA g.ls.length cl, .slice DV acc.length dc], .int .i64 0]) (by simp [results, Tryz.results54, go_sem, r0, r1, r2, r3, r4]) rfl ?_
              have hfar : ∀ {α : Type} {f : α → Value} {e : TypeId} {v : Value} {xs : List α}, e ≠ 43 → Mem.Own f w.heap.size e wo v xs → Mem.Own f w.heap.size e W9 v xs := fun hne ho => own_frmT ho HX.out hne hf9
              refine ⟨HBW.out.trans (hf9.to_below (fun k _ h1 h2 => by omega) HBW.out.size), (fun h => by rw [HYS.out] at h; cases h), fun s hs => ?_⟩
              rw [HYS.out] at hs
              have hs := Option.some.inj hs
              subst hs
              exact ⟨VA, LA, DV, ca, cl, dc, rfl, hfar (by decide) (Own.lowerI HVA7.out (by have := HZ1.out; omega)), hfar (by decide) (Own.lowerI HLA7.out (by have := HZ1.out; omega)), hfar (by decide) HDV.out⟩
            · have t2 : (0 : Int) < (rest.length : Int) := by omega
              have HN : Hid (res = none) := Lib.hid (by rw [HRI2.out, HPCS.out, pcs_zero, if_neg (fun h => hr (by rw [h]; rfl))]; rfl)
              clear hr
              have q0 := HX.out.free 0
              have q1 := HX.out.free 1
              have q2 := HX.out.free 2
              have q3 := HX.out.free 3
              have q4 := HX.out.free 4
              obtain ⟨d0, d1, d2, d3, d4⟩ := held5 (HX.out) (Below.refl _ _)
              go_wp2_with fail
              obtain ⟨W9, hW9⟩ : ∃ z, z = put5 wo w.heap.size (.int .i64 0) (.int .i64 0) (.slice none 0 0) (.slice none 0 0) (.slice none 0 0) := ⟨_, rfl⟩
              have hx9 : Blk W9 w.heap.size 43 #[.int .i64 0, .int .i64 0, .slice none 0 0, .slice none 0 0, .slice none 0 0] := by rw [hW9]; exact put5_blk HX.out
              have hf9 : Frm (fun g => g = w.heap.size) wo W9 := by rw [hW9]; exact put5_frm _ _ _ _ _ _ _
              unfold put5 at hW9
              rw [← hW9]
              obtain ⟨r0, r1, r2, r3, r4⟩ := held5 hx9 (Below.refl _ _)
              refine bodyPost_ret (v := .tuple #[.agg #[.int .i64 0, .int .i64 0, .slice none 0 0, .slice none 0 0, .slice none 0 0], .int .i64 30]) (by simp [results, Tryz.results54, go_sem, r0, r1, r2, r3, r4]) rfl ?_
              exact SRdPost.no HN.out (HBW.out.trans (hf9.to_below (fun k _ h1 h2 => by omega) HBW.out.size)) rfl
  · have t1 : (u != 0) = true := by rw [bne_iff_ne]; exact hu0
    have HN : Hid (res = none) := Lib.hid (by rw [HRES.out]; exact readS_no1 (by rw [← HU.out]; exact hu0))
    clear hu0
    have q0 := HX1.out.free 0
    have q1 := HX1.out.free 1
    have q2 := HX1.out.free 2
    have q3 := HX1.out.free 3
    have q4 := HX1.out.free 4
    obtain ⟨d0, d1, d2, d3, d4⟩ := held5 (HX1.out) (Below.refl _ _)
    go_wp2_with fail
    obtain ⟨W9, hW9⟩ : ∃ z, z = put5 w1 w.heap.size (.int .i64 0) (.int .i64 0) (.slice none 0 0) (.slice none 0 0) (.slice none 0 0) := ⟨_, rfl⟩
    have hx9 : Blk W9 w.heap.size 43 #[.int .i64 0, .int .i64 0, .slice none 0 0, .slice none 0 0, .slice none 0 0] := by rw [hW9]; exact put5_blk HX1.out
    have hf9 : Frm (fun g => g = w.heap.size) w1 W9 := by rw [hW9]; exact put5_frm _ _ _ _ _ _ _
    unfold put5 at hW9
    rw [← hW9]
    obtain ⟨r0, r1, r2, r3, r4⟩ := held5 hx9 (Below.refl _ _)
    refine bodyPost_ret (v := .tuple #[.agg #[.int .i64 0, .int .i64 0, .slice none 0 0, .slice none 0 0, .slice none 0 0], .int .i64 30]) (by simp [results, Tryz.results54, go_sem, r0, r1, r2, r3, r4]) rfl ?_
    exact SRdPost.no HN.out (HB1.out.trans (hf9.to_below (fun k _ h1 h2 => by omega) HB1.out.size)) rfl
end Go.Proofs.YtfpomllhkbbipaaGreatDoor
