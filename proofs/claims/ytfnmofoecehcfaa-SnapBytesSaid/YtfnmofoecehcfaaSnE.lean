/- Layer 8: what snap.Read's closure keeps, and the closure. -/
import Derived.Test.YtfnmofoecehcfaaSnL
namespace Go.Proofs.Ytfnmofoecehcfaa
open Go Go.RowKit Go.Maps Go.Lib Mem Pk Cf

/-- what Load reads ahead of its last question -/
def preC (bs : List UInt8) : Option (List Int × List Int × List UInt8) :=
  match row bs with
  | none => none
  | some (vs, r1) =>
    match row r1 with
    | none => none
    | some (ls, r2) => some (vs, ls, r2)
theorem preC_some {bs r1 r2 : List UInt8} {vs ls : List Int} (h1 : row bs = some (vs, r1)) (h2 : row r1 = some (ls, r2)) : preC bs = some (vs, ls, r2) := by
  unfold preC; rw [h1]; simp only []; rw [h2]
theorem preC_no1 {bs : List UInt8} (h1 : row bs = none) : preC bs = none := by
  unfold preC; rw [h1]
theorem preC_no2 {bs r1 : List UInt8} {vs : List Int} (h1 : row bs = some (vs, r1)) (h2 : row r1 = none) : preC bs = none := by
  unfold preC; rw [h1]; simp only []; rw [h2]
/-- a snapshot's block: one of its two rows at i + 2 -/
def five (x t : Int) (i : Nat) (xv yv : Value) : Array Value := if i = 0 then #[.int .i64 x, .int .i64 t, xv, yv, .slice none 0 0] else #[.int .i64 x, .int .i64 t, yv, xv, .slice none 0 0]
theorem five_cell {x t : Int} {w : World} {g i : Nat} {ty : TypeId} {xv yv : Value} (hi : i < 2) (h : Blk w g ty (five x t i xv yv)) : w.cell? ⟨g, i + 2, none⟩ = some xv := by
  have := h.cell (i + 2)
  rw [this]
  unfold five
  rcases (show i = 0 ∨ i = 1 by omega) with rfl | rfl <;> rfl
theorem five_set {x t : Int} {w : World} {g i : Nat} {ty : TypeId} {xv yv : Value} (hi : i < 2) (h : Blk w g ty (five x t i xv yv)) (v : Value) : Blk (w.setCell ⟨g, i + 2, none⟩ v) g ty (five x t i v yv) := by
  have := h.set_ (i + 2) v
  unfold five at this ⊢
  rcases (show i = 0 ∨ i = 1 by omega) with rfl | rfl <;> exact this
structure SrS (x t : Int) (F : Nat → Prop) (w1 : World) (rb cb i : Nat) (xs ys : List Int) (xv yv : Value) (rest : List UInt8) (W : World) : Prop where
  rd : Rd F W rb rest
  blk : Blk W cb 27 (five x t i xv yv)
  own : Mem.Own fI w1.heap.size 3 W xv xs
  oth : Mem.Own fI w1.heap.size 3 W yv ys
  apart : Apart xv yv
  frm : Frm (fun g => g = rb ∨ g = cb) w1 W
/-- where the reader and the configuration lie -/
structure SrW (F : Nat → Prop) (w1 : World) (rb cb : Nat) : Prop where
  r : rb < w1.heap.size
  c : cb < w1.heap.size
  ne : rb ≠ cb
  far : ∀ g, F g → g < w1.heap.size ∧ g ≠ rb ∧ g ≠ cb
theorem SrS.size {x t : Int} {F : Nat → Prop} {w1 W : World} {rb cb i : Nat} {xs ys : List Int} {xv yv : Value} {rest : List UInt8} (h : SrS x t F w1 rb cb i xs ys xv yv rest W) : w1.heap.size ≤ W.heap.size := h.frm.size
/-- behind a number that was read -/
theorem SrS.read {x t : Int} {F : Nat → Prop} {w1 W W' : World} {rb cb i : Nat} {xs ys : List Int} {xv yv : Value} {rest rest' : List UInt8} (h : SrS x t F w1 rb cb i xs ys xv yv rest W) (hw : SrW F w1 rb cb) (hr : Rd F W' rb rest') (hf : Frm (fun g => g = rb) W W') : SrS x t F w1 rb cb i xs ys xv yv rest' W' :=
  ⟨hr, h.blk.frm hf (fun e => hw.ne e.symm), h.own.frm hf (fun g h1 h2 => by have := hw.r; omega), h.oth.frm hf (fun g h1 h2 => by have := hw.r; omega), h.apart, h.frm.trans (hf.mono fun _ _ e => .inl e)⟩
theorem SrS.mid {x t : Int} {F : Nat → Prop} {w1 W W' : World} {rb cb i : Nat} {xs ys : List Int} {xv yv : Value} {rest : List UInt8} {u : Int} (h : SrS x t F w1 rb cb i xs ys xv yv rest W) (hw : SrW F w1 rb cb) (hi : i < 2)
    (hg : (W.alloc (.cells #[fI u] 3)).grownBy W' xv.ownBlock) : W'.cell? ⟨cb, i + 2, none⟩ = some xv ∧ W'.frozen? ⟨cb, i + 2, none⟩ = false := by
  have hs := h.size
  have hb : Below w1.heap.size W W' := ((Below.refl _ _).alloc hs _).trans ((h.own.alloc _).below_ (by rw [World.size_alloc]; omega) hg)
  have hblk : Blk W' cb 27 (five x t i xv yv) := h.blk.frm (Frm.of_below hb) (by have := hw.c; omega)
  exact ⟨five_cell hi hblk, hblk.free (i + 2)⟩
/-- behind an append to the row at i, and its store -/
theorem SrS.put {x t : Int} {F : Nat → Prop} {w1 W W' : World} {rb cb i : Nat} {xs ys : List Int} {xv yv v' : Value} {rest : List UInt8} {u : Int} (h : SrS x t F w1 rb cb i xs ys xv yv rest W) (hw : SrW F w1 rb cb) (hi : i < 2)
    (ho : Mem.Own fI w1.heap.size 3 W' v' (xs ++ [u])) (hg : (W.alloc (.cells #[fI u] 3)).grownBy W' xv.ownBlock) (hat : v'.ownBlock = xv.ownBlock ∨ v'.ownBlock = some (W.heap.size + 1)) :
    SrS x t F w1 rb cb i (xs ++ [u]) ys v' yv rest (W'.setCell ⟨cb, i + 2, none⟩ v') := by
  have hs := h.size
  have hb : Below w1.heap.size W W' := ((Below.refl _ _).alloc hs _).trans ((h.own.alloc _).below_ (by rw [World.size_alloc]; omega) hg)
  have hset : Frm (fun g => g = cb) W' (W'.setCell ⟨cb, i + 2, none⟩ v') := (Frm.refl (fun g => g = cb) W').setCell (p := ⟨cb, i + 2, none⟩) (fun _ => rfl) _
  have hblk : Blk W' cb 27 (five x t i xv yv) := h.blk.frm (Frm.of_below hb) (by have := hw.c; omega)
  refine ⟨?_, five_set hi hblk v', ho.frm hset (fun g h1 h2 => by have := hw.c; omega), ?_, h.apart.grown h.oth hat, ?_⟩
  · exact Rd.frm (Rd.belowB h.rd hb hw.r (fun g hg => (hw.far g hg).1)) hset (fun e => hw.ne e) (fun g hg => (hw.far g hg).2.2)
  · exact ((h.oth.alloc _).other h.apart.symm hg).frm hset (fun g h1 h2 => by have := hw.c; omega)
  · have h1 : Frm (fun g => g = rb ∨ g = cb) w1 W' := h.frm.then_up ((Frm.of_below hb).mono fun _ _ e => .inr e)
    exact h1.trans (hset.mono fun _ _ e => .inr e)
theorem SrS.putZ {x t : Int} {F : Nat → Prop} {w1 W W' : World} {rb cb i : Nat} {xs ys zs : List Int} {xv yv v' : Value} {rest : List UInt8} {u : Int} (hz : zs = xs ++ [u]) (h : SrS x t F w1 rb cb i xs ys xv yv rest W) (hw : SrW F w1 rb cb) (hi : i < 2)
    (ho : Mem.Own fI w1.heap.size 3 W' v' (xs ++ [u])) (hg : (W.alloc (.cells #[fI u] 3)).grownBy W' xv.ownBlock) (hat : v'.ownBlock = xv.ownBlock ∨ v'.ownBlock = some (W.heap.size + 1)) :
    SrS x t F w1 rb cb i zs ys v' yv rest (W'.setCell ⟨cb, i + 2, none⟩ v') := by
  subst hz; exact h.put hw hi ho hg hat
/-- what has been read: i of two rows -/
def SrP (bs : List UInt8) (i : Nat) (vs ls : List Int) (rest : List UInt8) : Prop :=
  (i = 0 → vs = [] ∧ ls = [] ∧ rest = bs) ∧ (i = 1 → row bs = some (vs, rest) ∧ ls = []) ∧ (i = 2 → preC bs = some (vs, ls, rest))
def SrOut (x t : Int) (F : Nat → Prop) (w1 : World) (rb cb : Nat) (bs : List UInt8) (iv : Value) (W : World) : Prop :=
  ∃ (i : Nat) (vs ls : List Int) (va la : Value) (rest : List UInt8), i ≤ 2 ∧ iv = .int .i64 (i : Int) ∧ SrS x t F w1 rb cb 0 vs ls va la rest W ∧ SrP bs i vs ls rest
def SrIn (x t : Int) (F : Nat → Prop) (w1 : World) (rb cb i n : Nat) (ys : List Int) (yv : Value) (r : List UInt8) (kv : Value) (W : World) : Prop :=
  ∃ (k : Nat) (xs : List Int) (xv : Value) (rest : List UInt8), k ≤ n ∧ xs.length = k ∧ kv = .int .i64 (k : Int) ∧ SrS x t F w1 rb cb i xs ys xv yv rest W ∧ cnts n r = (cnts (n - k) rest).map fun p => (xs ++ p.1, p.2)
theorem SrS.swap {x t : Int} {F : Nat → Prop} {w1 W : World} {rb cb : Nat} {xs ys : List Int} {xv yv : Value} {rest : List UInt8} (h : SrS x t F w1 rb cb 0 xs ys xv yv rest W) : SrS x t F w1 rb cb 1 ys xs yv xv rest W :=
  ⟨h.rd, h.blk, h.oth, h.own, h.apart.symm, h.frm⟩
theorem SrS.swap' {x t : Int} {F : Nat → Prop} {w1 W : World} {rb cb : Nat} {xs ys : List Int} {xv yv : Value} {rest : List UInt8} (h : SrS x t F w1 rb cb 1 xs ys xv yv rest W) : SrS x t F w1 rb cb 0 ys xs yv xv rest W :=
  ⟨h.rd, h.blk, h.oth, h.own, h.apart.symm, h.frm⟩
/-- one row more -/
theorem srOut_round {x t : Int} {F : Nat → Prop} {w1 W : World} {rb cb i : Nat} {bs rest : List UInt8} {vs ls : List Int} {va la : Value} (hi : i < 2) (h : SrS x t F w1 rb cb 0 vs ls va la rest W) (hp : SrP bs i vs ls rest) :
    ∃ xv ys yv, SrS x t F w1 rb cb i [] ys xv yv rest W ∧ (row rest = none → preC bs = none) ∧ ∀ xs r1 xv' W', row rest = some (xs, r1) → SrS x t F w1 rb cb i xs ys xv' yv r1 W' → SrOut x t F w1 rb cb bs (.int .i64 ((i + 1 : Nat) : Int)) W' := by
  obtain ⟨h0, h1, -⟩ := hp
  rcases (show i = 0 ∨ i = 1 by omega) with rfl | rfl
  · obtain ⟨rfl, rfl, rfl⟩ := h0 rfl
    exact ⟨va, [], la, h, preC_no1, fun xs r1 xv' W' hr hs => ⟨1, xs, [], xv', la, r1, by omega, rfl, hs, fun e => by omega, fun _ => ⟨hr, rfl⟩, fun e => by omega⟩⟩
  · obtain ⟨hr1, rfl⟩ := h1 rfl
    exact ⟨la, vs, va, h.swap, preC_no2 hr1, fun xs r1 xv' W' hr hs => ⟨2, vs, xs, va, xv', r1, by omega, rfl, hs.swap', fun e => by omega, fun e => by omega, fun _ => preC_some hr1 hr⟩⟩
def CsYes (x t : Int) (F : Nat → Prop) (w1 : World) (rb cb i : Nat) (xs ys : List Int) (xv yv : Value) (r : List UInt8) (a : Int) (e : Ending) (W : World) : Prop :=
  e = .returned (.int .i64 a) ∧ SrS x t F w1 rb cb i xs ys xv yv r W ∧ W.cell? ⟨cb, i + 2, none⟩ = some xv ∧ ∀ o, (W.alloc o).cell? ⟨cb, i + 2, none⟩ = some xv
def CsNo (w1 : World) (rb cb : Nat) (e : Ending) (W : World) : Prop :=
  e = .panicked [{ v := wrongV 30, recovered := false }] ∧ Frm (fun g => g = rb ∨ g = cb) w1 W
theorem cs_yes {x t : Int} {F : Nat → Prop} {w1 W : World} {rb cb i : Nat} {xs ys : List Int} {xv yv : Value} {rest r : List UInt8} {a : Int} (h : SrS x t F w1 rb cb i xs ys xv yv rest W) (hw : SrW F w1 rb cb) (hi : i < 2) (hc : cnt rest = some (a, r)) :
    Calls Try.prog 23 #[.pointer (some ⟨rb, 0, none⟩), .int .i64 7] W (CsYes x t F w1 rb cb i xs ys xv yv r a) := by
  obtain ⟨k, hk, rfl⟩ := cnt_yes hc
  refine (Count_yes h.rd hk).mono fun e W' hh => ?_
  obtain ⟨he, hr, hf⟩ := hh
  have hs := h.read hw hr hf
  exact ⟨he, hs, five_cell hi hs.blk, fun o => five_cell hi (hs.blk.alloc o)⟩
theorem cs_no {x t : Int} {F : Nat → Prop} {w1 W : World} {rb cb i : Nat} {xs ys : List Int} {xv yv : Value} {rest : List UInt8} (h : SrS x t F w1 rb cb i xs ys xv yv rest W) (hc : cnt rest = none) :
    Calls Try.prog 23 #[.pointer (some ⟨rb, 0, none⟩), .int .i64 7] W (CsNo w1 rb cb) :=
  (Count_none h.rd (cnt_no hc)).mono fun _ _ hh => ⟨hh.1, h.frm.trans (hh.2.mono fun _ _ e => .inl e)⟩
theorem SrS.below {x t : Int} {F : Nat → Prop} {w1 W W' : World} {rb cb i : Nat} {xs ys : List Int} {xv yv : Value} {rest : List UInt8} (h : SrS x t F w1 rb cb i xs ys xv yv rest W) (hb : Below W.heap.size W W') : SrS x t F w1 rb cb i xs ys xv yv rest W' :=
  ⟨Rd.frm h.rd (Frm.below hb) (fun e => e) (fun _ _ e => e), Blk.frm (F := fun _ => False) h.blk (Frm.below hb) (fun e => e), h.own.frm (Frm.below hb) (fun _ _ e => e), h.oth.frm (Frm.below hb) (fun _ _ e => e), h.apart, h.frm.trans ((Frm.below hb).mono (fun _ _ e => False.elim e))⟩
theorem Own.lowerI {base base' : Nat} {w : World} {v : Value} {xs : List Int} (h : Mem.Own fI base 3 w v xs) (hb : base' ≤ base) : Mem.Own fI base' 3 w v xs := by
  obtain ⟨h1, h2⟩ := h
  refine ⟨h1, ?_⟩
  rcases h2 with h2 | ⟨g, cap, cur, a, b, c⟩
  · exact .inl h2
  · exact .inr ⟨g, cap, cur, a, Nat.le_trans hb b, c⟩
def R1Yes (F : Nat → Prop) (w0 : World) (rb sb zb : Nat) (h : HdT) (e : Ending) (W : World) : Prop :=
  e = .returned (.tuple #[]) ∧ Rd F W rb h.r ∧ Frm (fun g => g = rb ∨ g = sb ∨ g = zb) w0 W ∧ Blk W zb 3 #[.int .i64 (h.n : Int)] ∧ ∃ va la, Blk W sb 27 #[.int .i64 h.x, .int .i64 h.t, va, la, .slice none 0 0] ∧ Mem.Own fI w0.heap.size 3 W va h.vs ∧ Mem.Own fI w0.heap.size 3 W la h.ls
def R1No (w0 : World) (rb sb zb : Nat) (e : Ending) (W : World) : Prop :=
  e = .panicked [{ v := wrongV 30, recovered := false }] ∧ Frm (fun g => g = rb ∨ g = sb ∨ g = zb) w0 W
def R1Post (F : Nat → Prop) (w0 : World) (rb sb zb : Nat) (bs : List UInt8) (e : Ending) (W : World) : Prop :=
  (∀ h, hdS bs = some h → R1Yes F w0 rb sb zb h e W) ∧ (hdS bs = none → R1No w0 rb sb zb e W)
theorem R1Post.no {F : Nat → Prop} {w0 W : World} {rb sb zb : Nat} {bs : List UInt8} (h : hdS bs = none) (hf : Frm (fun g => g = rb ∨ g = sb ∨ g = zb) w0 W) : R1Post F w0 rb sb zb bs (.panicked [{ v := wrongV 30, recovered := false }]) W :=
  ⟨(fun g hp => by rw [h] at hp; cases hp), fun _ => ⟨rfl, hf⟩⟩
theorem R1Post.yes {F : Nat → Prop} {w0 W : World} {rb sb zb : Nat} {bs : List UInt8} {e : Ending} {g : HdT} (h : hdS bs = some g) (hy : R1Yes F w0 rb sb zb g e W) : R1Post F w0 rb sb zb bs e W :=
  ⟨(fun g' hp => by rw [h] at hp; injection hp with hp; subst hp; exact hy), fun hn => by rw [h] at hn; cases hn⟩
theorem hd_no1 {bs : List UInt8} (h : getNum bs = none) : hdS bs = none := by unfold hdS; rw [h]
theorem hd_no2 {bs : List UInt8} {x : Int} {k : Nat} (h : getNum bs = some (x, k)) (h2 : getNum (bs.drop k) = none) : hdS bs = none := by unfold hdS; rw [h]; simp only []; rw [h2]
theorem hd_no3 {bs : List UInt8} {x t : Int} {k k2 : Nat} (h : getNum bs = some (x, k)) (h2 : getNum (bs.drop k) = some (t, k2)) (h3 : preC ((bs.drop k).drop k2) = none) : hdS bs = none := by
  unfold preC at h3
  unfold hdS; rw [h]; simp only []; rw [h2]; simp only []
  cases h4 : row ((bs.drop k).drop k2) with
  | none => rfl
  | some p =>
    obtain ⟨vs, r1⟩ := p
    rw [h4] at h3
    simp only at h3 ⊢
    cases h5 : row r1 with
    | none => rfl
    | some q => obtain ⟨ls, r2⟩ := q; rw [h5] at h3; cases h3
theorem hd_pre {bs r2 : List UInt8} {x t : Int} {k k2 : Nat} {vs ls : List Int} (h : getNum bs = some (x, k)) (h2 : getNum (bs.drop k) = some (t, k2)) (h3 : preC ((bs.drop k).drop k2) = some (vs, ls, r2)) :
    hdS bs = match getCount 32768 r2 with | none => none | some (n, k3) => some ⟨x, t, vs, ls, n.toNat, r2.drop k3⟩ := by
  unfold preC at h3
  unfold hdS; rw [h]; simp only []; rw [h2]; simp only []
  cases h4 : row ((bs.drop k).drop k2) with
  | none => rw [h4] at h3; cases h3
  | some p =>
    obtain ⟨v, r1⟩ := p
    rw [h4] at h3
    simp only at h3 ⊢
    cases h5 : row r1 with
    | none => rw [h5] at h3; cases h3
    | some q =>
      obtain ⟨l, r⟩ := q
      rw [h5] at h3
      injection h3 with h3; injection h3 with e1 h3; injection h3 with e2 e3
      subst e1; subst e2; subst e3
      rfl
set_option maxRecDepth 100000 in
set_option maxHeartbeats 4000000 in
theorem SRead1_any {F : Nat → Prop} {w0 : World} {rb sb zb : Nat} {bs : List UInt8} (h : Rd F w0 rb bs) (hc : Blk w0 sb 27 #[.int .i64 0, .int .i64 0, .slice none 0 0, .slice none 0 0, .slice none 0 0]) (hz : Blk w0 zb 3 #[.int .i64 0])
    (hr : rb < w0.heap.size) (hne : rb ≠ sb) (hne2 : zb ≠ rb) (hne3 : zb ≠ sb)
    (hfar : ∀ g, F g → g < w0.heap.size ∧ g ≠ rb ∧ g ≠ sb ∧ g ≠ zb) :
    Calls Try.prog 21 #[.pointer (some ⟨rb, 0, none⟩), .pointer (some ⟨sb, 0, none⟩), .pointer (some ⟨zb, 0, none⟩)] w0 (R1Post F w0 rb sb zb bs) := by
  have hcl := hc.lt
  have hzl := hz.lt
  have HFAR := Lib.hid hfar; clear hfar
  have HC := Lib.hid hc; clear hc
  have HZ := Lib.hid hz; clear hz
  have H := Lib.hid h; clear h
  cases hx : getNum bs with
  | none =>
    have HN := Lib.hid (Num_none H.out hx)
    have HH := Lib.hid (hd_no1 hx); clear hx
    go_enter Try.func21, Try.ntmps21
    go_wp2_with fail
    (with_reducible refine HN.out.mono ?_); rintro e w2 ⟨rfl, hf2⟩
    go_wp2_with fail
    exact ⟨rfl, R1Post.no HH.out (hf2.mono fun _ _ e => .inl e)⟩
  | some p =>
  obtain ⟨x, k⟩ := p
  have HN := Lib.hid (Num_yes H.out hx)
  have HX := Lib.hid hx; clear hx
  cases ht : getNum (bs.drop k) with
  | none =>
    have HH := Lib.hid (hd_no2 HX.out ht)
    go_enter Try.func21, Try.ntmps21
    go_wp2_with fail
    (with_reducible refine HN.out.mono ?_); rintro e w2 ⟨rfl, hr2, hf2⟩
    have HN2 := Lib.hid (Num_none hr2 ht)
    have HF2 := Lib.hid hf2
    clear hr2 hf2 ht
    go_wp2_with fail
    (with_reducible refine HN2.out.mono ?_); rintro e w3 ⟨rfl, hf3⟩
    go_wp2_with fail
    exact ⟨rfl, R1Post.no HH.out ((HF2.out.trans hf3).mono fun _ _ e => .inl e)⟩
  | some p =>
  obtain ⟨t, k2⟩ := p
  have HT := Lib.hid ht; clear ht
  go_enter Try.func21, Try.ntmps21
  go_wp2_with fail
  (with_reducible refine HN.out.mono ?_); rintro e w2 ⟨rfl, hr2, hf2⟩
  have HN2 := Lib.hid (Num_yes hr2 HT.out)
  have HF2 := Lib.hid hf2
  clear hr2 hf2
  go_wp2_with fail
  (with_reducible refine HN2.out.mono ?_); rintro e w3 ⟨rfl, hr3, hf3⟩
  have HR3 := Lib.hid hr3
  have HF3 : Hid (Frm (fun g => g = rb) w0 w3) := Lib.hid (HF2.out.trans hf3)
  clear hr3 hf3
  have HB3 := Lib.hid (HC.out.frm HF3.out (fun e => hne e.symm))
  have q0 : w3.cell? ⟨sb, 0, none⟩ = some (.int .i64 0) := HB3.out.cell 0
  have q1 : w3.cell? ⟨sb, 1, none⟩ = some (.int .i64 0) := HB3.out.cell 1
  have f0 := HB3.out.free 0
  have f1 := HB3.out.free 1
  go_upto_region 1 with fail
  obtain ⟨w4, hw4⟩ : ∃ z, z = (w3.setCell ⟨sb, 0, none⟩ (.int .i64 x)).setCell ⟨sb, 1, none⟩ (.int .i64 t) := ⟨_, rfl⟩
  rw [← hw4]
  have hb4 : Blk w4 sb 27 (five x t 0 (.slice none 0 0) (.slice none 0 0)) := by rw [hw4]; exact (HB3.out.set_ 0 _).set_ 1 _
  have hs4 : Frm (fun g => g = sb) w3 w4 := by rw [hw4]; exact ((Frm.refl (fun g => g = sb) w3).setCell (p := ⟨sb, 0, none⟩) (fun _ => rfl) _).setCell (p := ⟨sb, 1, none⟩) (fun _ => rfl) _
  have hr4 : Rd F w4 rb ((bs.drop k).drop k2) := Rd.frm HR3.out hs4 hne (fun g hg => (HFAR.out g hg).2.2.1)
  have hf4 : Frm (fun g => g = rb ∨ g = sb ∨ g = zb) w0 w4 := (HF3.out.mono fun _ _ e => .inl e).trans (hs4.mono fun _ _ e => .inr (.inl e))
  have hz4 : Blk w4 zb 3 #[.int .i64 0] := (HZ.out.frm HF3.out hne2).frm hs4 hne3
  clear hw4 hs4 q0 q1 f0 f1 HB3 HR3 HN2 HN
  have h04 := hf4.size
  obtain ⟨w1, hw1⟩ : ∃ z, z = w4.alloc (.cells #[.pointer (some ⟨sb, 2, none⟩), .pointer (some ⟨sb, 3, none⟩)] 60) := ⟨_, rfl⟩
  have hb1 : Below w4.heap.size w4 w1 := by rw [hw1]; exact (Below.refl _ _).alloc (Nat.le_refl _) _
  have hp1 : Blk w1 w4.heap.size 60 #[.pointer (some ⟨sb, 2, none⟩), .pointer (some ⟨sb, 3, none⟩)] := by rw [hw1]; exact Blk.new_ w4 _ _
  have hz1 : w1.heap.size = w4.heap.size + 1 := by rw [hw1]; exact World.size_alloc ..
  have HW : SrW F w1 rb sb := ⟨by omega, by omega, hne, fun g hg => ⟨by have := (HFAR.out g hg).1; omega, (HFAR.out g hg).2.1, (HFAR.out g hg).2.2.1⟩⟩
  have HST : Hid (SrS x t F w1 rb sb 0 [] [] (.slice none 0 0) (.slice none 0 0) ((bs.drop k).drop k2) w1) := Lib.hid ⟨Rd.belowB hr4 hb1 (by omega) (fun g hg => by have := (HFAR.out g hg).1; omega), hb4.below hb1 (by omega), Own.nil, Own.nil, (fun g hg => by simp [Value.ownBlock] at hg), Frm.refl _ _⟩
  have HFR : Hid (∀ W, Frm (fun g => g = rb ∨ g = sb) w1 W → Frm (fun g => g = rb ∨ g = sb ∨ g = zb) w0 W) := Lib.hid fun W hf => hf4.trans (((Frm.below hb1).mono (fun _ _ e => False.elim e)).trans (hf.mono fun _ _ e => e.elim .inl (fun e => .inr (.inl e))))
  have HZ1 : Hid (Blk w1 zb 3 #[.int .i64 0]) := Lib.hid (hz4.below hb1 (by omega))
  have HP1 := Lib.hid hp1; clear hp1
  have HSZ : Hid (w0.heap.size ≤ w1.heap.size) := Lib.hid (by omega)
  have HSZ4 : Hid (rb < w4.heap.size ∧ sb < w4.heap.size) := Lib.hid ⟨by omega, by omega⟩
  clear hb1 hz1 hf4 hz4 h04 hr4 hb4
  have HW1 := Lib.hid hw1; clear hw1
  go_wp2_with fail
  rw [← HW1.out]
  clear HW1
  obtain ⟨bs2, hbs2⟩ : ∃ z, z = (bs.drop k).drop k2 := ⟨_, rfl⟩
  rw [← hbs2] at HST
  have HBS2 := Lib.hid hbs2; clear hbs2
  go_loopw [18] (fun iv wr => SrOut x t F w1 rb sb bs2 iv wr) (fun iv _ => 2 - (intOf iv).toNat)
  case atStart => exact ⟨0, [], [], _, _, bs2, by omega, rfl, HST.out, fun _ => ⟨rfl, rfl, rfl⟩, fun e => by omega, fun e => by omega⟩
  case round =>
    obtain ⟨i, vs, ls, va, la, rest, hi, rfl, hst, hlp⟩ := hrel
    clear HST
    by_cases hlt : i < 2
    · obtain ⟨xv, ys, yv, hs, hno, hyes⟩ := srOut_round hlt hst hlp
      have HNO := Lib.hid hno; clear hno
      have HYES := Lib.hid hyes; clear hyes
      have HS := Lib.hid hs; clear hs hst hlp
      obtain ⟨wo, rfl⟩ : ∃ wo, wo = wr := ⟨_, rfl⟩
      have t1 : (i : Int) < 2 := by omega
      have t0 : (0 : Int) ≤ (i : Int) := by omega
      have p0 : wo.cell? ⟨w4.heap.size, i, none⟩ = some (.pointer (some ⟨sb, i + 2, none⟩)) := by
        have h1 := (HP1.out.frm HS.out.frm (fun e => by have := HSZ4.out; rcases e with e | e <;> omega)).cell i
        rw [h1]
        rcases (show i = 0 ∨ i = 1 by omega) with rfl | rfl <;> rfl
      cases hcn : cnt rest with
      | none =>
        have HCT := Lib.hid (cs_no HS.out hcn)
        have HN : Hid (hdS bs = none) := Lib.hid (hd_no3 HX.out HT.out (by rw [← HBS2.out]; exact HNO.out (row_no hcn)))
        go_wp2_with fail
        (with_reducible refine HCT.out.mono ?_); rintro e w2 ⟨rfl, hf2⟩
        go_wp2_with fail
        exact ⟨rfl, R1Post.no HN.out (HFR.out _ hf2)⟩
      | some p =>
        obtain ⟨a, r⟩ := p
        obtain ⟨ha, hbs⟩ := cnt_some.1 hcn
        obtain ⟨n, rfl⟩ : ∃ n : Nat, a = (n : Int) := ⟨a.toNat, by omega⟩
        have hn7 : n ≤ 7 := by omega
        have HCT := Lib.hid (cs_yes HS.out HW hlt hcn)
        have HROW := Lib.hid (row_is hcn)
        clear hcn hbs ha
        go_wp2_with fail
        (with_reducible refine HCT.out.mono ?_); rintro e w2 ⟨rfl, hs2, hc2, -⟩
        have HS2 := Lib.hid hs2; clear hs2 hc2 p0
        go_wp2_with fail
        go_loopw [24] (fun kv wr => SrIn x t F w1 rb sb i n ys yv r kv wr) (fun kv _ => n - (intOf kv).toNat)
        case atStart => exact ⟨0, [], xv, r, Nat.zero_le _, rfl, rfl, HS2.out, by rw [Nat.sub_zero]; simp⟩
        case round =>
          obtain ⟨k', xs, xw, r2, hk, hxl, rfl, hst, hcs⟩ := hrel
          have HS3 := Lib.hid hst; clear hst
          have HCS := Lib.hid hcs; clear hcs
          by_cases hkn : k' < n
          · have t5 : (k' : Int) < (n : Int) := by omega
            obtain ⟨m, hm⟩ : ∃ m, n - k' = m + 1 := ⟨n - k' - 1, by omega⟩
            obtain ⟨wi, rfl⟩ : ∃ wi, wi = wr := ⟨_, rfl⟩
            have hq0 : wi.cell? ⟨sb, i + 2, none⟩ = some xw := five_cell hlt HS3.out.blk
            cases hcn : cnt r2 with
            | none =>
              have hN : preC bs2 = none := HNO.out (by rw [HROW.out, HCS.out, hm, cnts_no hcn]; rfl)
              have HN : Hid (hdS bs = none) := Lib.hid (hd_no3 HX.out HT.out (by rw [← HBS2.out]; exact hN)); clear hN
              have HCT2 : Hid (∀ W, Below wi.heap.size wi W → Calls Try.prog 23 #[.pointer (some ⟨rb, 0, none⟩), .int .i64 7] W (CsNo w1 rb sb)) := Lib.hid fun W hb => cs_no (HS3.out.below hb) hcn
              clear hcn hm
              have hdr := below_drew0 wi
              go_wp2_with fail
              go_region_dies
              all_goals ((refine (HCT2.out _ ?_).mono ?_); (assumption); (rintro e w3 ⟨rfl, hf3⟩); exact ⟨rfl, R1Post.no HN.out (HFR.out _ hf3)⟩)
            | some p =>
              obtain ⟨y, r3⟩ := p
              have hcs2 : cnts n r = (cnts m r3).map fun p => ((xs ++ [y]) ++ p.1, p.2) := by
                rw [HCS.out, hm, cnts_step hcn, Option.map_map]
                congr 1; funext p; simp
              obtain ⟨zs, hzs⟩ : ∃ zs, zs = xs ++ [y] := ⟨_, rfl⟩
              rw [← hzs] at hcs2
              have hzl : zs.length = k' + 1 := by rw [hzs, List.length_append, List.length_singleton, hxl]
              have HZL := Lib.hid hzl; clear hzl
              have HZS := Lib.hid hzs; clear hzs
              have HCS2 := Lib.hid hcs2; clear hcs2
              have HCT2 : Hid (∀ W, Below wi.heap.size wi W → Calls Try.prog 23 #[.pointer (some ⟨rb, 0, none⟩), .int .i64 7] W (CsYes x t F w1 rb sb i xs ys xw yv r3 y)) := Lib.hid fun W hb => cs_yes (HS3.out.below hb) HW hlt hcn
              have HM : Hid (n - (k' + 1) = m) := Lib.hid (show n - (k' + 1) = m by omega)
              clear hcn hm
              have hdr := below_drew0 wi
              have hx7 : xs.length + 1 ≤ 8 := by omega
              have H63 : Hid (xs.length + 1 ≤ maxLen) := by show _ ≤ _; unfold maxLen; omega
              have HBY : Hid ((xs.length + 1) * 8 ≤ 140737488355328) := by show _ ≤ _; omega
              clear hx7
              go_wp2_with fail
              go_region_law (first
                | (go_simp; go_at_call 23; (with_reducible refine (HCT2.out _ ?_).mono ?_); (assumption); rintro e w3 ⟨rfl, hs3, hc3, hc4⟩; dsimp only)
                | (refine step_append1at (f := fI) (w0 := w3) (v := xw) (xs := xs) (g := w3.heap.size) (c := 1) (base := w1.heap.size) (e := 3) ?_ (.tmp 29) (.tmp 32) 22 ?_ intTI y (fI_oneI _) ?_ hs3.own ?_ ?_ H63.out HBY.out hs3.size ?_; rfl; rfl; rfl; rfl; rfl; intro v7 w7 ho7 hg7 hat7; have ho8 : Mem.Own fI w1.heap.size 3 w7 v7 zs := (by rw [HZS.out]; exact ho7); obtain ⟨A7, e7, rfl⟩ := ho8.form; have hs7 : SrS x t F w1 rb sb i zs ys (.slice A7 zs.length e7) yv r3 (w7.setCell ⟨sb, i + 2, none⟩ (.slice A7 zs.length e7)) := (by exact SrS.putZ HZS.out (u := y) hs3 HW hlt ho7 hg7 hat7); have c7 : w7.cell? ⟨sb, i + 2, none⟩ = some xw := (by exact (SrS.mid (u := y) hs3 HW hlt hg7).1); have q7 : w7.frozen? ⟨sb, i + 2, none⟩ = false := (by exact (SrS.mid (u := y) hs3 HW hlt hg7).2)))
              all_goals (go_wp2_with fail; go_roundw; (case rel => exact ⟨k' + 1, zs, _, r3, by omega, HZL.out, by go_num, hs7, by rw [HM.out]; exact HCS2.out⟩); (case measure => simp [intOf]; omega))
          · have hke : k' = n := by omega
            subst hke
            have hfin := HYES.out xs r2 xw wr (by rw [HROW.out, HCS.out, Nat.sub_self]; simp [cnts]) HS3.out
            have HFIN := Lib.hid hfin; clear hfin
            have t5 : ¬ (k' : Int) < (k' : Int) := by omega
            go_wp2_with fail
            go_roundw
            case rel => exact HFIN.out
            case measure => simp [intOf]; omega
    · have hi2 : i = 2 := by omega
      subst hi2
      have HS := Lib.hid hst; clear hst
      have hpr := hlp.2.2 rfl; clear hlp
      rw [HBS2.out] at hpr
      have hhd := hd_pre HX.out HT.out hpr
      clear hpr
      have HZ2 : Hid (Blk wr zb 3 #[.int .i64 0]) := Lib.hid (HZ1.out.frm HS.out.frm (fun e => e.elim hne2 hne3))
      cases hcn : getCount 32768 rest with
      | none =>
        rw [hcn] at hhd
        have HHD := Lib.hid hhd; clear hhd
        have HCN := Lib.hid (Count_none HS.out.rd hcn); clear hcn
        go_wp2_with fail
        (with_reducible refine HCN.out.mono ?_); rintro e w5 ⟨rfl, hf5⟩
        go_wp2_with fail
        exact ⟨rfl, R1Post.no HHD.out (HFR.out _ (HS.out.frm.trans (hf5.mono fun _ _ e => .inl e)))⟩
      | some p =>
        obtain ⟨n, k3⟩ := p
        rw [hcn] at hhd
        have HHD := Lib.hid hhd; clear hhd
        obtain ⟨g1, g2, g3⟩ := getCount_some hcn
        obtain ⟨m, rfl⟩ : ∃ m : Nat, n = (m : Int) := ⟨n.toNat, by omega⟩
        have HCN := Lib.hid (Count_yes HS.out.rd hcn); clear hcn g1
        go_wp2_with fail
        (with_reducible refine HCN.out.mono ?_); rintro e w5 ⟨rfl, hr5, hf5⟩
        have HR5 := Lib.hid hr5
        have HF5 := Lib.hid hf5
        have HZ5 : Hid (Blk w5 zb 3 #[.int .i64 0]) := Lib.hid (HZ2.out.frm hf5 hne2)
        have HB5 := Lib.hid (HS.out.blk.frm hf5 (fun e => hne e.symm))
        clear hr5 hf5
        have z0 : w5.cell? ⟨zb, 0, none⟩ = some (.int .i64 0) := HZ5.out.cell 0
        have z1 := HZ5.out.free 0
        go_wp2_with fail
        refine bodyPost_ret (v := .tuple #[]) (by simp [results, Try.results21, go_sem]) rfl ?_
        have hset : Frm (fun g => g = zb) w5 (w5.setCell ⟨zb, 0, none⟩ (.int .i64 (m : Int))) := (Frm.refl (fun g => g = zb) w5).setCell (p := ⟨zb, 0, none⟩) (fun _ => rfl) _
        have hrb : ¬ (sb = rb ∨ sb = zb) := by rintro (e | e); exact hne e.symm; exact hne3 e.symm
        have hL : ∀ {v : Value} {xs : List Int}, Mem.Own fI w1.heap.size 3 wr v xs → Mem.Own fI w0.heap.size 3 (w5.setCell ⟨zb, 0, none⟩ (.int .i64 (m : Int))) v xs := fun ho =>
          Own.lowerI (Mem.Own.frm (Mem.Own.frm ho HF5.out (fun g h1 h2 => by have := HW.r; omega)) hset (fun g h1 h2 => by have := HSZ.out; omega)) HSZ.out
        refine R1Post.yes HHD.out ⟨rfl, Rd.frm HR5.out hset (fun e => hne2 e.symm) (fun g hg => (HFAR.out g hg).2.2.2), ?_, HZ5.out.set_ 0 _, va, la, HB5.out.frm hset (fun e => hne3 e.symm), hL HS.out.own, hL HS.out.oth⟩
        exact ((HFR.out _ (HS.out.frm.trans (HF5.out.mono fun _ _ e => .inl e))).trans (hset.mono fun _ _ e => .inr (.inr e)))
end Go.Proofs.Ytfnmofoecehcfaa
