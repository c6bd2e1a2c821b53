/- Layer 15: what conf.Load's closure keeps: two own rows in a configuration's block, a reader. -/
import Derived.Test.YtilefofpfbgikaaLdX
import Derived.Test.YtilefofpfbgikaaCf3
import Derived.Test.YtilefofpfbgikaaPkR
import Derived.Test.YtilefofpfbgikaaAp2
import Derived.Test.YtilefofpfbgikaaOtX
import Derived.Deep.RegionHeld3
import Derived.RegionDies
import Derived.Deep.RegionLaw
namespace Go.Proofs.Ytilefofpfbgikaa
open Go Go.RowKit Go.Maps Go.Lib Mem Pk Cf

/-- what Load reads ahead of its last question -/
def preC (bs : List UInt8) : Option (List Int × List Int × List UInt8) :=
  match row bs with
  | none => none
  | some (vs, r1) =>
    match row r1 with
    | none => none
    | some (ls, r2) => some (vs, ls, r2)
theorem preC_some {bs r1 r2 : List UInt8} {vs ls : List Int} (h1 : row bs = some (vs, r1)) (h2 : row r1 = some (ls, r2)) : preC bs = some (vs, ls, r2) := by
  unfold preC; rw [h1]; simp only []; rw [h2]
theorem preC_no1 {bs : List UInt8} (h1 : row bs = none) : preC bs = none := by
  unfold preC; rw [h1]
theorem preC_no2 {bs r1 : List UInt8} {vs : List Int} (h1 : row bs = some (vs, r1)) (h2 : row r1 = none) : preC bs = none := by
  unfold preC; rw [h1]; simp only []; rw [h2]
theorem loadC_pre {bs r : List UInt8} {vs ls : List Int} (h : preC bs = some (vs, ls, r)) : loadC bs = if rightB vs ls = true ∧ r = [] then some (vs, ls) else none := by
  unfold preC at h
  unfold loadC
  cases h1 : row bs with
  | none => rw [h1] at h; cases h
  | some p =>
    obtain ⟨v, r1⟩ := p
    rw [h1] at h
    simp only at h ⊢
    cases h2 : row r1 with
    | none => rw [h2] at h; cases h
    | some q =>
      obtain ⟨l, r2⟩ := q
      rw [h2] at h
      injection h with h; injection h with e1 h; injection h with e2 e3
      subst e1; subst e2; subst e3
      rfl
theorem loadC_nopre {bs : List UInt8} (h : preC bs = none) : loadC bs = none := by
  unfold preC at h
  unfold loadC
  cases h1 : row bs with
  | none => rfl
  | some p =>
    obtain ⟨v, r1⟩ := p
    rw [h1] at h
    simp only at h ⊢
    cases h2 : row r1 with
    | none => rfl
    | some q => obtain ⟨l, r2⟩ := q; rw [h2] at h; cases h
theorem row_no {bs : List UInt8} (h : cnt bs = none) : row bs = none := by unfold row; rw [h]
theorem row_is {bs r : List UInt8} {n : Nat} (h : cnt bs = some ((n : Int), r)) : row bs = cnts n r := by
  unfold row; rw [h]; rfl
theorem cnts_step {k : Nat} {bs r : List UInt8} {y : Int} (h : cnt bs = some (y, r)) : cnts (k + 1) bs = (cnts k r).map fun p => (y :: p.1, p.2) := by
  rw [cnts, h]; simp only []
  cases cnts k r <;> rfl
theorem cnts_no {k : Nat} {bs : List UInt8} (h : cnt bs = none) : cnts (k + 1) bs = none := by
  rw [cnts, h]
theorem Rd.frm {F G : Nat → Prop} {w w' : World} {r : Nat} {bs : List UInt8} (h : Rd F w r bs) (hf : Frm G w w') (hr : ¬ G r) (hd : ∀ g, F g → ¬ G g) : Rd F w' r bs := by
  obtain ⟨A, c, h0, h1, h2, h3⟩ := h
  exact ⟨A, c, h0, h1.frm hf hr, h2.frm hf hd, h3⟩
theorem Rd.belowB {F : Nat → Prop} {w w' : World} {r B : Nat} {bs : List UInt8} (h : Rd F w r bs) (hb : Below B w w') (hr : r < B) (hd : ∀ g, F g → g < B) : Rd F w' r bs :=
  Rd.frm h (Frm.of_below hb) (by omega) (fun g hg => by have := hd g hg; omega)
theorem Mem.Own.frm {α : Type} {f : α → Value} {base : Nat} {e : TypeId} {G : Nat → Prop} {w w' : World} {v : Value} {xs : List α} (h : Own f base e w v xs) (hf : Frm G w w') (hd : ∀ g, base ≤ g → ¬ G g) : Own f base e w' v xs := by
  obtain ⟨h1, h2⟩ := h
  refine ⟨h1, ?_⟩
  rcases h2 with h2 | ⟨g, cap, cur, a, b, hh, c⟩
  · exact .inl h2
  · refine .inr ⟨g, cap, cur, a, b, ?_, c⟩
    have hlt : g < w.heap.size := (Array.getElem?_eq_some_iff.1 hh).1
    rw [hf.block g hlt (hd g b)]
    exact hh
section
variable {P : Program} {α : Type} {f : α → Value}
/-- append of one element that has just been laid, at a step of a region that draws its order -/
theorem step_append1at {w0 : World} {ops : Array Oper} {o : Oper} {a : Act} {K : Act → World → Prop} {Q : Exit → Act → World → Prop} {E : Prop} (hgd : o.guard = none) (s x : Operand) (t : TypeId)
    (ho : o.op = .call { callee := .builtin .append, args := #[s, x], argTypes := #[t, t] })
    {base : Nat} {e : TypeId} {z : Value} {bytes : Nat} (ht : SliceT P t e z bytes)
    {v : Value} {xs : List α} (u : α) (h1 : (f u).oneCell' = true) (hs : a.eval s = v) (hown : Own f base e w0 v xs)
    {g c : Nat} (hx : a.eval x = .slice (some ⟨g, 0, none⟩) 1 c) (hg : g = w0.heap.size)
    (h63 : xs.length + 1 ≤ maxLen) (hbytes : (xs.length + 1) * bytes ≤ 140737488355328) (hbase : base ≤ w0.heap.size)
    (h : ∀ v' w', Own f base e w' v' (xs ++ [u]) → (w0.alloc (.cells #[f u] e)).grownBy w' v.ownBlock → (v'.ownBlock = v.ownBlock ∨ v'.ownBlock = some (w0.heap.size + 1)) → K (a.put o.dst v') w') :
    if Region.wanted o (yielded ops a.tmps) = true then Oper.wp P o a (w0.alloc (.cells #[f u] e)) K Q else E := by
  have hw : Region.wanted o (yielded ops a.tmps) = true := by simp [Region.wanted, hgd]
  rw [if_pos hw]
  obtain ⟨ht, hz1, i, hi, hz, hsz, hby⟩ := ht
  subst hg
  have hcell : (w0.alloc (.cells #[f u] e)).cell? ⟨w0.heap.size, 0, none⟩ = some (f u) := by
    have := heap_alloc_new w0 (.cells #[f u] e)
    unfold World.cell?
    simp only [this]; rfl
  obtain ⟨v', w', hr, h2, h3, _, hat⟩ := run_append_own_at (P := P) (w0.alloc (.cells #[f u] e)) base t o.type e i z 1 bytes ht hi hz hsz hby hz1 (by decide) v xs.length (xs.map f) (hown.alloc _) ⟨w0.heap.size, 0, none⟩ 1 c [f u] rfl (by
    intro j y hy
    match j, hy with
    | 0, hy => simp at hy; subst hy; exact hcell
    | j + 1, hy => simp at hy) (by intro y hy; simp at hy; subst hy; exact h1) h63 hbytes (by rw [World.size_alloc]; omega)
  unfold Oper.wp execOp
  simp only [ho, resolve, invoke, builtin, Sem.run_bind, Sem.run_pure, Result.andThen_ok, List.map_toArray, List.map_cons, List.map_nil, hs, hx, hr]
  refine h v' w' ?_ h3 (by rw [World.size_alloc] at hat; exact hat)
  unfold Own; rw [List.length_append, List.map_append]; exact h2
end
/-- a configuration's block: one of its two rows at i -/
def two (i : Nat) (xv yv : Value) : Array Value := if i = 0 then #[xv, yv] else #[yv, xv]
theorem two_cell {w : World} {g i : Nat} {t : TypeId} {xv yv : Value} (hi : i < 2) (h : Blk w g t (two i xv yv)) : w.cell? ⟨g, i, none⟩ = some xv := by
  have := h.cell i
  rw [this]
  unfold two
  rcases (show i = 0 ∨ i = 1 by omega) with rfl | rfl <;> rfl
theorem two_set {w : World} {g i : Nat} {t : TypeId} {xv yv : Value} (hi : i < 2) (h : Blk w g t (two i xv yv)) (v : Value) : Blk (w.setCell ⟨g, i, none⟩ v) g t (two i v yv) := by
  have := h.set_ i v
  unfold two at this ⊢
  rcases (show i = 0 ∨ i = 1 by omega) with rfl | rfl <;> exact this
structure LdS (F : Nat → Prop) (w1 : World) (rb cb i : Nat) (xs ys : List Int) (xv yv : Value) (rest : List UInt8) (W : World) : Prop where
  rd : Rd F W rb rest
  blk : Blk W cb 24 (two i xv yv)
  own : Own fI w1.heap.size 3 W xv xs
  oth : Own fI w1.heap.size 3 W yv ys
  apart : Apart xv yv
  frm : Frm (fun g => g = rb ∨ g = cb) w1 W
/-- where the reader and the configuration lie -/
structure LdW (F : Nat → Prop) (w1 : World) (rb cb : Nat) : Prop where
  r : rb < w1.heap.size
  c : cb < w1.heap.size
  ne : rb ≠ cb
  far : ∀ g, F g → g < w1.heap.size ∧ g ≠ rb ∧ g ≠ cb
theorem LdS.size {F : Nat → Prop} {w1 W : World} {rb cb i : Nat} {xs ys : List Int} {xv yv : Value} {rest : List UInt8} (h : LdS F w1 rb cb i xs ys xv yv rest W) : w1.heap.size ≤ W.heap.size := h.frm.size
/-- behind a number that was read -/
theorem LdS.read {F : Nat → Prop} {w1 W W' : World} {rb cb i : Nat} {xs ys : List Int} {xv yv : Value} {rest rest' : List UInt8} (h : LdS F w1 rb cb i xs ys xv yv rest W) (hw : LdW F w1 rb cb) (hr : Rd F W' rb rest') (hf : Frm (fun g => g = rb) W W') : LdS F w1 rb cb i xs ys xv yv rest' W' :=
  ⟨hr, h.blk.frm hf (fun e => hw.ne e.symm), h.own.frm hf (fun g h1 h2 => by have := hw.r; omega), h.oth.frm hf (fun g h1 h2 => by have := hw.r; omega), h.apart, h.frm.trans (hf.mono fun _ _ e => .inl e)⟩
theorem LdS.mid {F : Nat → Prop} {w1 W W' : World} {rb cb i : Nat} {xs ys : List Int} {xv yv : Value} {rest : List UInt8} {u : Int} (h : LdS F w1 rb cb i xs ys xv yv rest W) (hw : LdW F w1 rb cb) (hi : i < 2)
    (hg : (W.alloc (.cells #[fI u] 3)).grownBy W' xv.ownBlock) : W'.cell? ⟨cb, i, none⟩ = some xv ∧ W'.frozen? ⟨cb, i, none⟩ = false := by
  have hs := h.size
  have hb : Below w1.heap.size W W' := ((Below.refl _ _).alloc hs _).trans ((h.own.alloc _).below_ (by rw [World.size_alloc]; omega) hg)
  have hblk : Blk W' cb 24 (two i xv yv) := h.blk.frm (Frm.of_below hb) (by have := hw.c; omega)
  exact ⟨two_cell hi hblk, hblk.free i⟩
/-- behind an append to the row at i, and its store -/
theorem LdS.put {F : Nat → Prop} {w1 W W' : World} {rb cb i : Nat} {xs ys : List Int} {xv yv v' : Value} {rest : List UInt8} {u : Int} (h : LdS F w1 rb cb i xs ys xv yv rest W) (hw : LdW F w1 rb cb) (hi : i < 2)
    (ho : Own fI w1.heap.size 3 W' v' (xs ++ [u])) (hg : (W.alloc (.cells #[fI u] 3)).grownBy W' xv.ownBlock) (hat : v'.ownBlock = xv.ownBlock ∨ v'.ownBlock = some (W.heap.size + 1)) :
    LdS F w1 rb cb i (xs ++ [u]) ys v' yv rest (W'.setCell ⟨cb, i, none⟩ v') := by
  have hs := h.size
  have hb : Below w1.heap.size W W' := ((Below.refl _ _).alloc hs _).trans ((h.own.alloc _).below_ (by rw [World.size_alloc]; omega) hg)
  have hset : Frm (fun g => g = cb) W' (W'.setCell ⟨cb, i, none⟩ v') := (Frm.refl (fun g => g = cb) W').setCell (p := ⟨cb, i, none⟩) (fun _ => rfl) _
  have hblk : Blk W' cb 24 (two i xv yv) := h.blk.frm (Frm.of_below hb) (by have := hw.c; omega)
  refine ⟨?_, two_set hi hblk v', ho.frm hset (fun g h1 h2 => by have := hw.c; omega), ?_, h.apart.grown h.oth hat, ?_⟩
  · exact Rd.frm (Rd.belowB h.rd hb hw.r (fun g hg => (hw.far g hg).1)) hset (fun e => hw.ne e) (fun g hg => (hw.far g hg).2.2)
  · exact ((h.oth.alloc _).other h.apart.symm hg).frm hset (fun g h1 h2 => by have := hw.c; omega)
  · have h1 : Frm (fun g => g = rb ∨ g = cb) w1 W' := h.frm.then_up ((Frm.of_below hb).mono fun _ _ e => .inr e)
    exact h1.trans (hset.mono fun _ _ e => .inr e)
theorem LdS.putZ {F : Nat → Prop} {w1 W W' : World} {rb cb i : Nat} {xs ys zs : List Int} {xv yv v' : Value} {rest : List UInt8} {u : Int} (hz : zs = xs ++ [u]) (h : LdS F w1 rb cb i xs ys xv yv rest W) (hw : LdW F w1 rb cb) (hi : i < 2)
    (ho : Own fI w1.heap.size 3 W' v' (xs ++ [u])) (hg : (W.alloc (.cells #[fI u] 3)).grownBy W' xv.ownBlock) (hat : v'.ownBlock = xv.ownBlock ∨ v'.ownBlock = some (W.heap.size + 1)) :
    LdS F w1 rb cb i zs ys v' yv rest (W'.setCell ⟨cb, i, none⟩ v') := by
  subst hz; exact h.put hw hi ho hg hat
end Go.Proofs.Ytilefofpfbgikaa
namespace Go.Proofs.Ytilefofpfbgikaa
open Go Go.RowKit Go.Maps Go.Lib Mem Pk Cf

/-- what has been read: i of two rows -/
def LdP (bs : List UInt8) (i : Nat) (vs ls : List Int) (rest : List UInt8) : Prop :=
  (i = 0 → vs = [] ∧ ls = [] ∧ rest = bs) ∧ (i = 1 → row bs = some (vs, rest) ∧ ls = []) ∧ (i = 2 → preC bs = some (vs, ls, rest))
def LdOut (F : Nat → Prop) (w1 : World) (rb cb : Nat) (bs : List UInt8) (iv : Value) (W : World) : Prop :=
  ∃ (i : Nat) (vs ls : List Int) (va la : Value) (rest : List UInt8), i ≤ 2 ∧ iv = .int .i64 (i : Int) ∧ LdS F w1 rb cb 0 vs ls va la rest W ∧ LdP bs i vs ls rest
def LdIn (F : Nat → Prop) (w1 : World) (rb cb i n : Nat) (ys : List Int) (yv : Value) (r : List UInt8) (kv : Value) (W : World) : Prop :=
  ∃ (k : Nat) (xs : List Int) (xv : Value) (rest : List UInt8), k ≤ n ∧ xs.length = k ∧ kv = .int .i64 (k : Int) ∧ LdS F w1 rb cb i xs ys xv yv rest W ∧ cnts n r = (cnts (n - k) rest).map fun p => (xs ++ p.1, p.2)
theorem LdS.swap {F : Nat → Prop} {w1 W : World} {rb cb : Nat} {xs ys : List Int} {xv yv : Value} {rest : List UInt8} (h : LdS F w1 rb cb 0 xs ys xv yv rest W) : LdS F w1 rb cb 1 ys xs yv xv rest W :=
  ⟨h.rd, h.blk, h.oth, h.own, h.apart.symm, h.frm⟩
theorem LdS.swap' {F : Nat → Prop} {w1 W : World} {rb cb : Nat} {xs ys : List Int} {xv yv : Value} {rest : List UInt8} (h : LdS F w1 rb cb 1 xs ys xv yv rest W) : LdS F w1 rb cb 0 ys xs yv xv rest W :=
  ⟨h.rd, h.blk, h.oth, h.own, h.apart.symm, h.frm⟩
/-- one row more -/
theorem ldOut_round {F : Nat → Prop} {w1 W : World} {rb cb i : Nat} {bs rest : List UInt8} {vs ls : List Int} {va la : Value} (hi : i < 2) (h : LdS F w1 rb cb 0 vs ls va la rest W) (hp : LdP bs i vs ls rest) :
    ∃ xv ys yv, LdS F w1 rb cb i [] ys xv yv rest W ∧ (row rest = none → preC bs = none) ∧ ∀ xs r1 xv' W', row rest = some (xs, r1) → LdS F w1 rb cb i xs ys xv' yv r1 W' → LdOut F w1 rb cb bs (.int .i64 ((i + 1 : Nat) : Int)) W' := by
  obtain ⟨h0, h1, -⟩ := hp
  rcases (show i = 0 ∨ i = 1 by omega) with rfl | rfl
  · obtain ⟨rfl, rfl, rfl⟩ := h0 rfl
    exact ⟨va, [], la, h, preC_no1, fun xs r1 xv' W' hr hs => ⟨1, xs, [], xv', la, r1, by omega, rfl, hs, fun e => by omega, fun _ => ⟨hr, rfl⟩, fun e => by omega⟩⟩
  · obtain ⟨hr1, rfl⟩ := h1 rfl
    exact ⟨la, vs, va, h.swap, preC_no2 hr1, fun xs r1 xv' W' hr hs => ⟨2, vs, xs, va, xv', r1, by omega, rfl, hs.swap', fun e => by omega, fun e => by omega, fun _ => preC_some hr1 hr⟩⟩
def LdYes (F : Nat → Prop) (w0 : World) (rb cb : Nat) (vs ls : List Int) (rest : List UInt8) (e : Ending) (W : World) : Prop :=
  e = .returned (.tuple #[]) ∧ Rd F W rb rest ∧ Frm (fun g => g = rb ∨ g = cb) w0 W ∧ ∃ va la, Blk W cb 24 #[va, la] ∧ Own fI w0.heap.size 3 W va vs ∧ Own fI w0.heap.size 3 W la ls
def LdNo (w0 : World) (rb cb : Nat) (e : Ending) (W : World) : Prop :=
  e = .panicked [{ v := wrongV 30, recovered := false }] ∧ Frm (fun g => g = rb ∨ g = cb) w0 W
def LdPost (F : Nat → Prop) (w0 : World) (rb cb : Nat) (bs : List UInt8) (e : Ending) (W : World) : Prop :=
  (∀ vs ls rest, preC bs = some (vs, ls, rest) → rightB vs ls = true → LdYes F w0 rb cb vs ls rest e W) ∧ ((∀ vs ls rest, preC bs = some (vs, ls, rest) → rightB vs ls = false) → LdNo w0 rb cb e W)
theorem LdPost.no {F : Nat → Prop} {w0 W : World} {rb cb : Nat} {bs : List UInt8} (h : preC bs = none) (hf : Frm (fun g => g = rb ∨ g = cb) w0 W) : LdPost F w0 rb cb bs (.panicked [{ v := wrongV 30, recovered := false }]) W :=
  ⟨(fun vs ls rest hp => by rw [h] at hp; cases hp), fun _ => ⟨rfl, hf⟩⟩
def CtYes (F : Nat → Prop) (w1 : World) (rb cb i : Nat) (xs ys : List Int) (xv yv : Value) (r : List UInt8) (a : Int) (e : Ending) (W : World) : Prop :=
  e = .returned (.int .i64 a) ∧ LdS F w1 rb cb i xs ys xv yv r W ∧ W.cell? ⟨cb, i, none⟩ = some xv ∧ ∀ o, (W.alloc o).cell? ⟨cb, i, none⟩ = some xv
def CtNo (w1 : World) (rb cb : Nat) (e : Ending) (W : World) : Prop :=
  e = .panicked [{ v := wrongV 30, recovered := false }] ∧ Frm (fun g => g = rb ∨ g = cb) w1 W
theorem ct_yes {F : Nat → Prop} {w1 W : World} {rb cb i : Nat} {xs ys : List Int} {xv yv : Value} {rest r : List UInt8} {a : Int} (h : LdS F w1 rb cb i xs ys xv yv rest W) (hw : LdW F w1 rb cb) (hi : i < 2) (hc : cnt rest = some (a, r)) :
    Calls Try.prog 66 #[.pointer (some ⟨rb, 0, none⟩), .int .i64 7] W (CtYes F w1 rb cb i xs ys xv yv r a) := by
  obtain ⟨k, hk, rfl⟩ := cnt_yes hc
  refine (Count_yes h.rd hk).mono fun e W' hh => ?_
  obtain ⟨he, hr, hf⟩ := hh
  have hs := h.read hw hr hf
  exact ⟨he, hs, two_cell hi hs.blk, fun o => two_cell hi (hs.blk.alloc o)⟩
theorem ct_no {F : Nat → Prop} {w1 W : World} {rb cb i : Nat} {xs ys : List Int} {xv yv : Value} {rest : List UInt8} (h : LdS F w1 rb cb i xs ys xv yv rest W) (hc : cnt rest = none) :
    Calls Try.prog 66 #[.pointer (some ⟨rb, 0, none⟩), .int .i64 7] W (CtNo w1 rb cb) :=
  (Count_none h.rd (cnt_no hc)).mono fun _ _ hh => ⟨hh.1, h.frm.trans (hh.2.mono fun _ _ e => .inl e)⟩
theorem LdS.below {F : Nat → Prop} {w1 W W' : World} {rb cb i : Nat} {xs ys : List Int} {xv yv : Value} {rest : List UInt8} (h : LdS F w1 rb cb i xs ys xv yv rest W) (hb : Below W.heap.size W W') : LdS F w1 rb cb i xs ys xv yv rest W' :=
  ⟨Rd.frm h.rd (Frm.below hb) (fun e => e) (fun _ _ e => e), Blk.frm (F := fun _ => False) h.blk (Frm.below hb) (fun e => e), h.own.frm (Frm.below hb) (fun _ _ e => e), h.oth.frm (Frm.below hb) (fun _ _ e => e), h.apart, h.frm.trans ((Frm.below hb).mono (fun _ _ e => False.elim e))⟩
set_option maxRecDepth 100000 in
set_option maxHeartbeats 4000000 in
theorem Load1_any {F : Nat → Prop} {w0 : World} {rb cb : Nat} {bs : List UInt8} (h : Rd F w0 rb bs) (hc : Blk w0 cb 24 #[.slice none 0 0, .slice none 0 0]) (hr : rb < w0.heap.size) (hcl : cb < w0.heap.size) (hne : rb ≠ cb)
    (hfar : ∀ g, F g → g < w0.heap.size ∧ g ≠ rb ∧ g ≠ cb) :
    Calls Try.prog 65 #[.pointer (some ⟨rb, 0, none⟩), .pointer (some ⟨cb, 0, none⟩)] w0 (LdPost F w0 rb cb bs) := by
  obtain ⟨w1, hw1⟩ : ∃ x, x = w0.alloc (.cells #[.pointer (some ⟨cb, 0, none⟩), .pointer (some ⟨cb, 1, none⟩)] 105) := ⟨_, rfl⟩
  have hb1 : Below w0.heap.size w0 w1 := by rw [hw1]; exact (Below.refl _ _).alloc (Nat.le_refl _) _
  have hp1 : Blk w1 w0.heap.size 105 #[.pointer (some ⟨cb, 0, none⟩), .pointer (some ⟨cb, 1, none⟩)] := by rw [hw1]; exact Blk.new_ w0 _ _
  have hz1 : w1.heap.size = w0.heap.size + 1 := by rw [hw1]; exact World.size_alloc ..
  have HW : LdW F w1 rb cb := ⟨by omega, by omega, hne, fun g hg => ⟨by have := (hfar g hg).1; omega, (hfar g hg).2⟩⟩
  have HST : Hid (LdS F w1 rb cb 0 [] [] (.slice none 0 0) (.slice none 0 0) bs w1) := Lib.hid ⟨Rd.belowB h hb1 hr (fun g hg => (hfar g hg).1), hc.below hb1 hcl, Own.nil, Own.nil, (fun g hg => by simp [Value.ownBlock] at hg), Frm.refl _ _⟩
  have HFR : Hid (∀ W, Frm (fun g => g = rb ∨ g = cb) w1 W → Frm (fun g => g = rb ∨ g = cb) w0 W) := Lib.hid fun W hf => ((Frm.below hb1).mono (fun _ _ e => False.elim e)).trans hf
  have HP1 := Lib.hid hp1; clear hp1
  have HZ : Hid (w0.heap.size ≤ w1.heap.size) := Lib.hid hb1.size
  clear h hc hfar hb1 hz1
  have HW1 := Lib.hid hw1; clear hw1
  go_enter Try.func65, Try.ntmps65
  go_upto_region 1 with fail
  rw [← HW1.out]
  clear HW1
  go_wp2_with fail
  go_loopw [9] (fun iv wr => LdOut F w1 rb cb bs iv wr) (fun iv _ => 2 - (intOf iv).toNat)
  case atStart => exact ⟨0, [], [], _, _, bs, by omega, rfl, HST.out, fun _ => ⟨rfl, rfl, rfl⟩, fun e => by omega, fun e => by omega⟩
  case round =>
    obtain ⟨i, vs, ls, va, la, rest, hi, rfl, hst, hlp⟩ := hrel
    clear HST
    by_cases hlt : i < 2
    · obtain ⟨xv, ys, yv, hs, hno, hyes⟩ := ldOut_round hlt hst hlp
      have HNO := Lib.hid hno; clear hno
      have HYES := Lib.hid hyes; clear hyes
      have HS := Lib.hid hs; clear hs hst hlp
      obtain ⟨wo, rfl⟩ : ∃ wo, wo = wr := ⟨_, rfl⟩
      have t1 : (i : Int) < 2 := by omega
      have t0 : (0 : Int) ≤ (i : Int) := by omega
      have p0 : wo.cell? ⟨w0.heap.size, i, none⟩ = some (.pointer (some ⟨cb, i, none⟩)) := by
        have h1 := (HP1.out.frm HS.out.frm (fun e => by rcases e with e | e <;> omega)).cell i
        rw [h1]
        rcases (show i = 0 ∨ i = 1 by omega) with rfl | rfl <;> rfl
      cases hcn : cnt rest with
      | none =>
        have HCT := Lib.hid (ct_no HS.out hcn)
        have HN : Hid (preC bs = none) := Lib.hid (HNO.out (row_no hcn))
        go_wp2_with fail
        (with_reducible refine HCT.out.mono ?_); rintro e w2 ⟨rfl, hf2⟩
        go_wp2_with fail
        exact ⟨rfl, LdPost.no HN.out (HFR.out _ hf2)⟩
      | some p =>
        obtain ⟨a, r⟩ := p
        obtain ⟨ha, hbs⟩ := cnt_some.1 hcn
        obtain ⟨n, rfl⟩ : ∃ n : Nat, a = (n : Int) := ⟨a.toNat, by omega⟩
        have hn7 : n ≤ 7 := by omega
        have HCT := Lib.hid (ct_yes HS.out HW hlt hcn)
        have HROW := Lib.hid (row_is hcn)
        clear hcn hbs ha
        go_wp2_with fail
        (with_reducible refine HCT.out.mono ?_); rintro e w2 ⟨rfl, hs2, hc2, -⟩
        have HS2 := Lib.hid hs2; clear hs2 hc2 p0
        go_wp2_with fail
        go_loopw [15] (fun kv wr => LdIn F w1 rb cb i n ys yv r kv wr) (fun kv _ => n - (intOf kv).toNat)
        case atStart => exact ⟨0, [], xv, r, Nat.zero_le _, rfl, rfl, HS2.out, by rw [Nat.sub_zero]; simp⟩
        case round =>
          obtain ⟨k, xs, xw, r2, hk, hxl, rfl, hst, hcs⟩ := hrel
          have HS3 := Lib.hid hst; clear hst
          have HCS := Lib.hid hcs; clear hcs
          by_cases hkn : k < n
          · have t5 : (k : Int) < (n : Int) := by omega
            obtain ⟨m, hm⟩ : ∃ m, n - k = m + 1 := ⟨n - k - 1, by omega⟩
            obtain ⟨wi, rfl⟩ : ∃ wi, wi = wr := ⟨_, rfl⟩
            have hq0 : wi.cell? ⟨cb, i, none⟩ = some xw := two_cell hlt HS3.out.blk
            cases hcn : cnt r2 with
            | none =>
              have hN : preC bs = none := HNO.out (by rw [HROW.out, HCS.out, hm, cnts_no hcn]; rfl)
              have HN := Lib.hid hN; clear hN
              have HCT2 : Hid (∀ W, Below wi.heap.size wi W → Calls Try.prog 66 #[.pointer (some ⟨rb, 0, none⟩), .int .i64 7] W (CtNo w1 rb cb)) := Lib.hid fun W hb => ct_no (HS3.out.below hb) hcn
              clear hcn hm
              have hdr := below_drew0 wi
              go_wp2_with fail
              go_region_dies
              all_goals ((refine (HCT2.out _ ?_).mono ?_); (assumption); (rintro e w3 ⟨rfl, hf3⟩); exact ⟨rfl, LdPost.no HN.out (HFR.out _ hf3)⟩)
            | some p =>
              obtain ⟨y, r3⟩ := p
              have hcs2 : cnts n r = (cnts m r3).map fun p => ((xs ++ [y]) ++ p.1, p.2) := by
                rw [HCS.out, hm, cnts_step hcn, Option.map_map]
                congr 1; funext p; simp
              obtain ⟨zs, hzs⟩ : ∃ zs, zs = xs ++ [y] := ⟨_, rfl⟩
              rw [← hzs] at hcs2
              have hzl : zs.length = k + 1 := by rw [hzs, List.length_append, List.length_singleton, hxl]
              have HZL := Lib.hid hzl; clear hzl
              have HZS := Lib.hid hzs; clear hzs
              have HCS2 := Lib.hid hcs2; clear hcs2
              have HCT2 : Hid (∀ W, Below wi.heap.size wi W → Calls Try.prog 66 #[.pointer (some ⟨rb, 0, none⟩), .int .i64 7] W (CtYes F w1 rb cb i xs ys xw yv r3 y)) := Lib.hid fun W hb => ct_yes (HS3.out.below hb) HW hlt hcn
              have HM : Hid (n - (k + 1) = m) := Lib.hid (show n - (k + 1) = m by omega)
              clear hcn hm
              have hdr := below_drew0 wi
              have hx7 : xs.length + 1 ≤ 8 := by omega
              have H63 : Hid (xs.length + 1 ≤ maxLen) := by show _ ≤ _; unfold maxLen; omega
              have HBY : Hid ((xs.length + 1) * 8 ≤ 140737488355328) := by show _ ≤ _; omega
              clear hx7
              go_wp2_with fail
              go_region_law (first
                | (go_simp; go_at_call 66; (with_reducible refine (HCT2.out _ ?_).mono ?_); (assumption); rintro e w3 ⟨rfl, hs3, hc3, hc4⟩; dsimp only)
                | (refine step_append1at (f := fI) (w0 := w3) (v := xw) (xs := xs) (g := w3.heap.size) (c := 1) (base := w1.heap.size) (e := 3) ?_ (.tmp 20) (.tmp 23) 22 ?_ intTI y (fI_oneI _) ?_ hs3.own ?_ ?_ H63.out HBY.out hs3.size ?_; rfl; rfl; rfl; rfl; rfl; intro v7 w7 ho7 hg7 hat7; have ho8 : Own fI w1.heap.size 3 w7 v7 zs := (by rw [HZS.out]; exact ho7); obtain ⟨A7, e7, rfl⟩ := ho8.form; have hs7 : LdS F w1 rb cb i zs ys (.slice A7 zs.length e7) yv r3 (w7.setCell ⟨cb, i, none⟩ (.slice A7 zs.length e7)) := (by exact LdS.putZ HZS.out (u := y) hs3 HW hlt ho7 hg7 hat7); have c7 : w7.cell? ⟨cb, i, none⟩ = some xw := (by exact (LdS.mid (u := y) hs3 HW hlt hg7).1); have q7 : w7.frozen? ⟨cb, i, none⟩ = false := (by exact (LdS.mid (u := y) hs3 HW hlt hg7).2)))
              all_goals (go_wp2_with fail; go_roundw; (case rel => exact ⟨k + 1, zs, _, r3, by omega, HZL.out, by go_num, hs7, by rw [HM.out]; exact HCS2.out⟩); (case measure => simp [intOf]; omega))
          · have hke : k = n := by omega
            subst hke
            have hfin := HYES.out xs r2 xw wr (by rw [HROW.out, HCS.out, Nat.sub_self]; simp [cnts]) HS3.out
            have HFIN := Lib.hid hfin; clear hfin
            have t5 : ¬ (k : Int) < (k : Int) := by omega
            go_wp2_with fail
            go_roundw
            case rel => exact HFIN.out
            case measure => simp [intOf]; omega
    · have hi2 : i = 2 := by omega
      subst hi2
      have HS := Lib.hid hst; clear hst
      have HPR := Lib.hid (hlp.2.2 rfl); clear hlp
      obtain ⟨A, c, rfl⟩ := HS.out.own.form
      obtain ⟨B, d, rfl⟩ := HS.out.oth.form
      have d0 : wr.cell? ⟨cb, 0, none⟩ = some (.slice A vs.length c) := HS.out.blk.cell 0
      have d1 : wr.cell? ⟨cb, 1, none⟩ = some (.slice B ls.length d) := HS.out.blk.cell 1
      obtain ⟨p, hp⟩ : ∃ p, p = rightB vs ls := ⟨_, rfl⟩
      have hrg := Right_any (c := c) (d := d) (CI.mk HS.out.own.sl.2 HS.out.oth.sl.2)
      rw [← hp] at hrg
      have HP := Lib.hid hp; clear hp
      have HRG := Lib.hid hrg; clear hrg
      go_wp2_with fail
      (with_reducible refine HRG.out.mono ?_); rintro e w2 ⟨rfl, hb2⟩
      have HB2 := Lib.hid hb2; clear hb2 d0 d1
      have HF2 : Hid (Frm (fun g => g = rb ∨ g = cb) w0 w2) := Lib.hid ((HFR.out _ HS.out.frm).trans ((Frm.below HB2.out).mono (fun _ _ e => False.elim e)))
      cases p with
      | true =>
        have HF : Hid (LdYes F w0 rb cb vs ls rest (.returned (.tuple #[])) w2) := Lib.hid ⟨rfl, Rd.frm HS.out.rd (Frm.below HB2.out) (fun e => e) (fun _ _ e => e), HF2.out, _, _, Blk.frm (F := fun _ => False) HS.out.blk (Frm.below HB2.out) (fun e => e), Own.lower (HS.out.own.frm (Frm.below HB2.out) (fun _ _ e => e)) HZ.out, Own.lower (HS.out.oth.frm (Frm.below HB2.out) (fun _ _ e => e)) HZ.out⟩
        go_wp2_with fail
        refine bodyPost_ret (v := .tuple #[]) (by simp [results, Try.results65, go_sem]) rfl ?_
        refine ⟨fun vs' ls' rest' h1 h2 => ?_, fun h1 => ?_⟩
        · rw [HPR.out] at h1
          injection h1 with h1; injection h1 with e1 h1; injection h1 with e2 e3
          subst e1; subst e2; subst e3
          exact HF.out
        · have := h1 _ _ _ HPR.out
          rw [← HP.out] at this; cases this
      | false =>
        go_wp2_with fail
        (with_reducible refine (Fail_any _ _ 30 (by decide)).mono ?_); rintro e w3 ⟨rfl, rfl⟩
        go_wp2_with fail
        refine ⟨rfl, fun vs' ls' rest' h1 h2 => ?_, fun h1 => ⟨rfl, HF2.out⟩⟩
        rw [HPR.out] at h1
        injection h1 with h1; injection h1 with e1 h1; injection h1 with e2 e3
        subst e1; subst e2; subst e3
        rw [← HP.out] at h2; cases h2
end Go.Proofs.Ytilefofpfbgikaa
namespace Go.Proofs.Ytilefofpfbgikaa
open Go Go.RowKit Go.Maps Go.Lib Mem Pk Cf

def LrPost (bs : List UInt8) (w1 : World) (cb : Nat) (e : Ending) (w' : World) : Prop :=
  ∃ code : Int, e = .returned (.int .i64 code) ∧ Frm (fun g => g = cb) w1 w' ∧ (loadC bs = none → code = 30) ∧
    ∀ vs ls, loadC bs = some (vs, ls) → code = 0 ∧ ∃ va la, Blk w' cb 24 #[va, la] ∧ Own fI w1.heap.size 3 w' va vs ∧ Own fI w1.heap.size 3 w' la ls
theorem load_read {F : Nat → Prop} {w1 : World} {A : Option Addr} {c cb : Nat} {bs : List UInt8} (hs : SlF F w1 A bs) (hc : bs.length ≤ c) (hm : c ≤ maxLen) (hcb : Blk w1 cb 24 #[.slice none 0 0, .slice none 0 0]) (hF : ∀ g, F g → g ≠ cb) :
    Calls Try.prog 64 #[.slice A bs.length c, .func (.func 65) #[] #[.pointer (some ⟨cb, 0, none⟩)]] w1 (LrPost bs w1 cb) := by
  have hs2 : SlF (fun g => F g ∧ g < w1.heap.size) w1 A bs := hs.mono fun g h1 h2 => ⟨h2, h1⟩
  have hlt := hcb.lt
  have h1 := Load1_any (rb := w1.heap.size + 1) (cb := cb) (rdW_rd hs2 (by omega) hc hm) (hcb.below (rdW_below ..) hlt) (by rw [rdW_size]; omega) (by rw [rdW_size]; omega) (by omega)
    (fun g hg => ⟨by rw [rdW_size]; omega, by omega, hF g hg.1⟩)
  have hcode := rdW_code w1 A bs.length c
  have hfr : ∀ {W w' : World}, Frm (fun g => g = w1.heap.size + 1 ∨ g = cb) (rdW w1 A bs.length c) W → Frm (fun g => g = w1.heap.size) W w' → Frm (fun g => g = cb) w1 w' := by
    intro W w' ha hb
    have e1 : Frm (fun g => g = cb) w1 (rdW w1 A bs.length c) := (Frm.below (rdW_below ..)).mono fun _ _ e => False.elim e
    have e2 := e1.then_up (ha.mono fun g _ e => by rcases e with e | e <;> omega)
    exact e2.then_up (hb.mono fun g _ e => .inr (by omega))
  by_cases hy : ∃ vs ls rest, preC bs = some (vs, ls, rest) ∧ rightB vs ls = true
  · obtain ⟨vs, ls, rest, hp, hr⟩ := hy
    have hl := loadC_pre hp
    refine (Read_yes (rest := rest) hs2 hc hm 65 #[.pointer (some ⟨cb, 0, none⟩)]
      (fun W => Frm (fun g => g = w1.heap.size + 1 ∨ g = cb) (rdW w1 A bs.length c) W ∧ ∃ va la, Blk W cb 24 #[va, la] ∧ Own fI (rdW w1 A bs.length c).heap.size 3 W va vs ∧ Own fI (rdW w1 A bs.length c).heap.size 3 W la ls)
      (enters_of Try.func65 (by kernel_rfl) rfl) (h1.mono fun e W hh => ?_) (if rest = [] then 0 else 30) rfl).mono fun e w' hh => ?_
    · obtain ⟨he, hrd, hf, hrest⟩ := hh.1 vs ls rest hp hr
      exact ⟨he, hrd, hcode.frm hf (by rintro (e | e) <;> omega), hf, hrest⟩
    · obtain ⟨he, W, ⟨hf, va, la, hb, hv, hll⟩, hf2, hsz⟩ := hh
      refine ⟨_, he, hfr hf hf2, fun hn => ?_, fun vs' ls' hs' => ?_⟩
      · rw [hl] at hn
        by_cases h0 : rest = []
        · rw [if_pos ⟨hr, h0⟩] at hn; cases hn
        · rw [if_neg h0]
      · rw [hl] at hs'
        by_cases h0 : rest = []
        · rw [if_pos ⟨hr, h0⟩] at hs'
          injection hs' with hs'; injection hs' with e1 e2
          subst e1; subst e2
          refine ⟨by rw [if_pos h0], va, la, hb.frm hf2 (by omega), ?_, ?_⟩
          · exact Own.lower (hv.frm hf2 (fun g hg e => by rw [rdW_size] at hg; omega)) (by rw [rdW_size]; omega)
          · exact Own.lower (hll.frm hf2 (fun g hg e => by rw [rdW_size] at hg; omega)) (by rw [rdW_size]; omega)
        · rw [if_neg (by rintro ⟨_, h⟩; exact h0 h)] at hs'; cases hs'
  · have hn : loadC bs = none := by
      cases hp : preC bs with
      | none => exact loadC_nopre hp
      | some p =>
        obtain ⟨vs, ls, rest⟩ := p
        rw [loadC_pre hp, if_neg]
        rintro ⟨h2, _⟩
        exact hy ⟨vs, ls, rest, hp, h2⟩
    refine (Read_no (F := F) hc hm 65 #[.pointer (some ⟨cb, 0, none⟩)]
      (fun W => Frm (fun g => g = w1.heap.size + 1 ∨ g = cb) (rdW w1 A bs.length c) W)
      (enters_of Try.func65 (by kernel_rfl) rfl) 30 (h1.mono fun e W hh => ?_)).mono fun e w' hh => ?_
    · obtain ⟨he, hf⟩ := hh.2 (fun vs ls rest hp => by
        cases hr : rightB vs ls with
        | false => rfl
        | true => exact absurd ⟨vs, ls, rest, hp, hr⟩ hy)
      exact ⟨he, hcode.frm hf (by rintro (e | e) <;> omega), hf⟩
    · obtain ⟨he, W, hf, hf2, hsz⟩ := hh
      exact ⟨30, he, hfr hf hf2, fun _ => rfl, fun vs ls h => by rw [hn] at h; cases h⟩
/-- what conf.Load leaves -/
def LoadPost (res : Option (List Int × List Int)) (w : World) (e : Ending) (w' : World) : Prop :=
  (res = none → e = .returned (.tuple #[.agg #[.slice none 0 0, .slice none 0 0], .int .i64 30])) ∧ Below w.heap.size w w' ∧
  ∀ vs ls, res = some (vs, ls) → ∃ A B c d, e = .returned (.tuple #[.agg #[.slice A vs.length c, .slice B ls.length d], .int .i64 0]) ∧ Own fI w.heap.size 3 w' (.slice A vs.length c) vs ∧ Own fI w.heap.size 3 w' (.slice B ls.length d) ls
set_option maxRecDepth 100000 in
theorem Load_any {F : Nat → Prop} {w : World} {A : Option Addr} {c : Nat} {bs : List UInt8} (hs : SlF F w A bs) (hc : bs.length ≤ c) (hm : c ≤ maxLen) :
    Calls Try.prog 28 #[.slice A bs.length c] w (LoadPost (loadC bs) w) := by
  have hmf : ∀ (fn : Fn) (first cap : Array Value) (w : World), (Instr.makeFunc fn first cap).run Try.prog w = .ok (.func fn first cap) w := fun _ _ _ _ => rfl
  obtain ⟨res, hres⟩ : ∃ r, r = loadC bs := ⟨_, rfl⟩
  obtain ⟨w0, hw0⟩ : ∃ x, x = w.alloc (.cells #[.slice none 0 0, .slice none 0 0] 24) := ⟨_, rfl⟩
  have hb0 : Below w.heap.size w w0 := by rw [hw0]; exact (Below.refl _ _).alloc (Nat.le_refl _) _
  have hx0 : Blk w0 w.heap.size 24 #[.slice none 0 0, .slice none 0 0] := by rw [hw0]; exact Blk.new_ w _ _
  have hz0 : w0.heap.size = w.heap.size + 1 := by rw [hw0]; exact World.size_alloc ..
  obtain ⟨w1, hw1⟩ : ∃ x, x = w0.alloc (.cells #[.slice none 0 0, .slice none 0 0] 24) := ⟨_, rfl⟩
  have hb1 : Below w0.heap.size w0 w1 := by rw [hw1]; exact (Below.refl _ _).alloc (Nat.le_refl _) _
  have hx1 : Blk w1 w0.heap.size 24 #[.slice none 0 0, .slice none 0 0] := by rw [hw1]; exact Blk.new_ w0 _ _
  have hz1 : w1.heap.size = w.heap.size + 2 := by rw [hw1, World.size_alloc, hz0]
  rw [hz0] at hx1
  have hB1 : Below w.heap.size w w1 := hb0.trans (hb1.mono (by omega))
  have hx01 := hx0.below hb1 hx0.lt
  have hs1 : SlF (fun g => F g ∧ g < w.heap.size) w1 A bs := (hs.mono fun g h1 h2 => ⟨h2, h1⟩).frm (Frm.of_below hB1) (fun g h => by omega)
  have HRD := Lib.hid (load_read hs1 hc hm hx1 (fun g h => by omega))
  have HB1 := Lib.hid hB1
  have HX0 := Lib.hid hx01
  have HZ1 := Lib.hid hz1
  rw [← hres]
  have HRES := Lib.hid hres; clear hres
  have HW0 := Lib.hid hw0; clear hw0
  have HW1 := Lib.hid hw1; clear hw1
  clear hb0 hb1 hx0 hx1 hz0 hz1 hB1 hx01 hs1 hs
  go_enter Try.func28, Try.ntmps28
  go_upto_region 2 with fail
  rw [← HW0.out, ← HW1.out]
  clear HW0 HW1
  go_wp2_with fail
  (with_reducible refine HRD.out.mono ?_); rintro e w2 ⟨code, rfl, hf2, hn, hy⟩
  have hB2 : Below w.heap.size w w2 := HB1.out.trans (hf2.to_below (fun k _ h1 h2 => by omega) HB1.out.size)
  have hx2 : Blk w2 w.heap.size 24 #[.slice none 0 0, .slice none 0 0] := HX0.out.frm hf2 (by omega)
  have HB2 := Lib.hid hB2
  have HX2 := Lib.hid hx2
  have q0 := hx2.free 0
  have q1 := hx2.free 1
  clear hB2 hx2 hf2
  rw [← HRES.out] at hn hy
  cases res with
  | none =>
    obtain rfl := hn rfl
    have r0 : ((w2.setCell ⟨w.heap.size, 0, none⟩ (.slice none 0 0)).setCell ⟨w.heap.size, 1, none⟩ (.slice none 0 0)).cell? ⟨w.heap.size, 0, none⟩ = some (.slice none 0 0) := ((HX2.out.set_ 0 _).set_ 1 _).cell 0
    have r1 : ((w2.setCell ⟨w.heap.size, 0, none⟩ (.slice none 0 0)).setCell ⟨w.heap.size, 1, none⟩ (.slice none 0 0)).cell? ⟨w.heap.size, 1, none⟩ = some (.slice none 0 0) := ((HX2.out.set_ 0 _).set_ 1 _).cell 1
    have e0 : w2.cell? ⟨w.heap.size, 0, none⟩ = some (.slice none 0 0) := HX2.out.cell 0
    have e1 : w2.cell? ⟨w.heap.size, 1, none⟩ = some (.slice none 0 0) := HX2.out.cell 1
    clear hn hy
    go_wp2_with fail
    refine bodyPost_ret (v := .tuple #[.agg #[.slice none 0 0, .slice none 0 0], .int .i64 30]) (by simp [results, Try.results28, go_sem, r0, r1]) rfl ?_
    exact ⟨fun _ => rfl, (HB2.out.setCell (p := ⟨w.heap.size, 0, none⟩) (Nat.le_refl _) _).setCell (p := ⟨w.heap.size, 1, none⟩) (Nat.le_refl _) _, fun vs ls h => by cases h⟩
  | some p =>
    obtain ⟨vs, ls⟩ := p
    obtain ⟨rfl, va, la, hb, hv, hl⟩ := hy vs ls rfl
    obtain ⟨A', c', rfl⟩ := hv.form
    obtain ⟨B', d', rfl⟩ := hl.form
    have r0 : ((w2.setCell ⟨w.heap.size, 0, none⟩ (.slice A' vs.length c')).setCell ⟨w.heap.size, 1, none⟩ (.slice B' ls.length d')).cell? ⟨w.heap.size, 0, none⟩ = some (.slice A' vs.length c') := ((HX2.out.set_ 0 _).set_ 1 _).cell 0
    have r1 : ((w2.setCell ⟨w.heap.size, 0, none⟩ (.slice A' vs.length c')).setCell ⟨w.heap.size, 1, none⟩ (.slice B' ls.length d')).cell? ⟨w.heap.size, 1, none⟩ = some (.slice B' ls.length d') := ((HX2.out.set_ 0 _).set_ 1 _).cell 1
    have e0 : w2.cell? ⟨w.heap.size, 0, none⟩ = some (.slice none 0 0) := HX2.out.cell 0
    have e1 : w2.cell? ⟨w.heap.size, 1, none⟩ = some (.slice none 0 0) := HX2.out.cell 1
    have d0 : w2.cell? ⟨w.heap.size + 1, 0, none⟩ = some (.slice A' vs.length c') := hb.cell 0
    have d1 : w2.cell? ⟨w.heap.size + 1, 1, none⟩ = some (.slice B' ls.length d') := hb.cell 1
    have hf : Frm (fun g => g = w.heap.size) w2 ((w2.setCell ⟨w.heap.size, 0, none⟩ (.slice A' vs.length c')).setCell ⟨w.heap.size, 1, none⟩ (.slice B' ls.length d')) := ((Frm.refl (fun g => g = w.heap.size) w2).setCell (p := ⟨w.heap.size, 0, none⟩) (fun _ => rfl) _).setCell (p := ⟨w.heap.size, 1, none⟩) (fun _ => rfl) _
    have HO1 := Lib.hid (Own.lower (hv.frm hf (fun g h1 h2 => by have := HZ1.out; omega)) HB1.out.size)
    have HO2 := Lib.hid (Own.lower (hl.frm hf (fun g h1 h2 => by have := HZ1.out; omega)) HB1.out.size)
    clear hn hy hv hl hb hf
    go_wp2_with fail
    refine bodyPost_ret (v := .tuple #[.agg #[.slice A' vs.length c', .slice B' ls.length d'], .int .i64 0]) (by simp [results, Try.results28, go_sem, r0, r1]) rfl ?_
    refine ⟨(fun h => by cases h), (HB2.out.setCell (p := ⟨w.heap.size, 0, none⟩) (Nat.le_refl _) _).setCell (p := ⟨w.heap.size, 1, none⟩) (Nat.le_refl _) _, fun vs' ls' h => ?_⟩
    injection h with h; injection h with e1 e2
    subst e1; subst e2
    exact ⟨A', B', c', d', rfl, HO1.out, HO2.out⟩
def RgPost (p : Bool) (w3 : World) (e : Ending) (w' : World) : Prop := e = .returned (.bool p) ∧ Below w3.heap.size w3 w'
end Go.Proofs.Ytilefofpfbgikaa
