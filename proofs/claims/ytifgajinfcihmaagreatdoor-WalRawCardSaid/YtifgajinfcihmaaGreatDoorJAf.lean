/- Layer 3: a number put behind bytes. -/
import Derived.Deep.DeepCutAuto
import Derived.Test.YtifgajinfcihmaaGreatDoorJAe
import Derived.Test.YtifgajinfcihmaaGreatDoorJAb
import Derived.Test.YtifgajinfcihmaaGreatDoorJAd
import Derived.Test.YtifgajinfcihmaaGreatDoorJAc
namespace Go.Proofs.YtifgajinfcihmaaGreatDoor
open Go.RowKit Go.Maps Mem Pk
def AppPost (base : Nat) (ys : List UInt8) (w : World) (e : Ending) (w' : World) : Prop := ∃ v', e = .returned v' ∧ Mem.Own fB base 5 w' v' ys ∧ Below base w w'
end Go.Proofs.YtifgajinfcihmaaGreatDoor
namespace Go.Proofs.YtifgajinfcihmaaGreatDoor
open Go.RowKit Go.Maps Mem Pk
theorem fB_oneJ (u : UInt8) : (fB u).oneCell' = true := rfl
end Go.Proofs.YtifgajinfcihmaaGreatDoor
namespace Go.Proofs.YtifgajinfcihmaaGreatDoor
open Go.RowKit Go.Maps Go.Lib Mem Pk
section
variable {P : Program} {α : Type} {f : α → Value}
theorem run_appendXg {w : World} {t ty : TypeId} {base : Nat} {e : TypeId} {z : Value} {bytes : Nat} (ht : SliceT P t e z bytes)
 {v : Value} {xs : List α} (hown : Mem.Own f base e w v xs) {B : Option Addr} {d : Nat} {ys : List α} (hys : Sl f w B ys) (h1 : ∀ u, (f u).oneCell' = true)
 (h63 : xs.length + ys.length ≤ maxLen) (hbytes : (xs.length + ys.length) * bytes ≤ 140737488355328) (hbase : base ≤ w.heap.size) :
 ∃ v' w', (Builtin.append_ #[t, t] ty #[v, .slice B ys.length d]).run P w = .ok v' w' ∧ Mem.Own f base e w' v' (xs ++ ys) ∧ w.grownBy w' v.ownBlock := by
 obtain ⟨ht, hz1, i, hi, hz, hsz, hby⟩ := ht
 cases B with
 | none =>
   obtain rfl : ys = [] := by
    cases ys with
    | nil => rfl
    | cons x r => obtain ⟨b, o, e, _⟩ := hys.2 (by simp); cases e
   refine ⟨v, w, ?_, by rw [List.append_nil]; exact hown, World.grownBy.refl _ _⟩
   obtain ⟨A, c, rfl⟩ := hown.form
   have hc := hown.cap.1
   cases A with
   | none =>
     obtain rfl : xs = [] := by
      cases xs with
      | nil => rfl
      | cons x r => obtain ⟨b, o, e, _⟩ := hown.sl.2.2 (by simp); cases e
     have hc0 : c = 0 := by
      rcases hown.2 with ⟨hv, _⟩ | ⟨g, cap, cur, hv, _⟩
      ·injection hv
      ·injection hv with hv; cases hv
     subst hc0
     simp [Builtin.append_, run_underlying ht, sizeOf, typeInfo, zeroValue, hi, hz, Builtin.lenOf, Builtin.firstCells]
   | some a9 => simp [Builtin.append_, run_underlying ht, sizeOf, typeInfo, zeroValue, hi, hz, hc, Builtin.lenOf, Builtin.firstCells, storeCells]
 | some ad =>
   obtain ⟨v', w', hr, h2, h3, _, _⟩ := run_append_own_at (P := P) w base t ty e i z 1 bytes ht hi hz hsz hby hz1 (by decide) v xs.length (xs.map f) hown ad ys.length d (ys.map f) (by simp) (by
    intro j y hy
    have hj : j < ys.length := by
     rcases Nat.lt_or_ge j ys.length with h | h
     ·exact h
     ·rw [List.getElem?_eq_none (by simpa using h)] at hy; cases hy
    obtain ⟨b, o, e, hc⟩ := hys.2 (by omega)
    injection e with e
    subst e
    have e2 : (⟨b, o, none⟩ : Addr).add j = ⟨b, o + j, none⟩ := by
     unfold Addr.add; split
     ·rename_i h0; subst h0; rfl
     ·rfl
    rw [e2, hc j hj]
    simp [hj] at hy; rw [← hy]) (by
    intro y hy
    obtain ⟨u, _, rfl⟩ := List.mem_map.1 hy
    exact h1 u) h63 hbytes hbase
   refine ⟨v', w', hr, ?_, h3⟩
   unfold Mem.Own; rw [List.length_append, List.map_append]; exact h2
theorem step_appendXg {w : World} {ops : Array Oper} {o : Oper} {a : Act} {K : Act → World → Prop} {Q : Exit → Act → World → Prop} {E : Prop} (hgd : o.guard = none) (s x : Operand) (t : TypeId)
 (ho : o.op = .call { callee := .builtin .append, args := #[s, x], argTypes := #[t, t] })
 {base : Nat} {e : TypeId} {z : Value} {bytes : Nat} (ht : SliceT P t e z bytes)
 {v : Value} {xs : List α} (hs : a.eval s = v) (hown : Mem.Own f base e w v xs)
 {B : Option Addr} {d : Nat} {ys : List α} (hx : a.eval x = .slice B ys.length d) (hys : Sl f w B ys) (h1 : ∀ u, (f u).oneCell' = true)
 (h63 : xs.length + ys.length ≤ maxLen) (hbytes : (xs.length + ys.length) * bytes ≤ 140737488355328) (hbase : base ≤ w.heap.size)
 (h : ∀ v' w', Mem.Own f base e w' v' (xs ++ ys) → w.grownBy w' v.ownBlock → K (a.put o.dst v') w') :
 if Region.wanted o (yielded ops a.tmps) = true then Oper.wp P o a w K Q else E := by
 have hw : Region.wanted o (yielded ops a.tmps) = true := by simp [Region.wanted, hgd]
 rw [if_pos hw]
 obtain ⟨v', w', hr, h2, h3⟩ := run_appendXg (P := P) (t := t) (ty := o.type) ht hown (d := d) hys h1 h63 hbytes hbase
 unfold Oper.wp execOp
 simp only [ho, resolve, invoke, builtin, Sem.run_bind, Sem.run_pure, Result.andThen_ok, List.map_toArray, List.map_cons, List.map_nil, hs, hx, hr]
 exact h v' w' h2 h3
end
theorem wpList_appendXg {P : Program} {α : Type} {f : α → Value} {ops : Array Oper} {rest : List Oper} {o : Oper} {a : Act} {Q : Exit → Act → World → Prop} {w : World} (hgd : o.guard = none) (s x : Operand) (t : TypeId)
 (ho : o.op = .call { callee := .builtin .append, args := #[s, x], argTypes := #[t, t] })
 {base : Nat} {e : TypeId} {z : Value} {bytes : Nat} (ht : SliceT P t e z bytes)
 {v : Value} {xs : List α} (hs : a.eval s = v) (hown : Mem.Own f base e w v xs)
 {B : Option Addr} {d : Nat} {ys : List α} (hx : a.eval x = .slice B ys.length d) (hys : Sl f w B ys) (h1 : ∀ u, (f u).oneCell' = true)
 (h63 : xs.length + ys.length ≤ maxLen) (hbytes : (xs.length + ys.length) * bytes ≤ 140737488355328) (hbase : base ≤ w.heap.size)
 (h : ∀ v' w', Mem.Own f base e w' v' (xs ++ ys) → w.grownBy w' v.ownBlock → wpList P ops Q rest (a.put o.dst v') w') : wpList P ops Q (o :: rest) a w := by
 obtain ⟨v', w', hr, h2, h3⟩ := run_appendXg (P := P) (t := t) (ty := o.type) ht hown (d := d) hys h1 h63 hbytes hbase
 exact wpList_append_run w hgd s x t t ho v _ hs hx v' w' hr (h v' w' h2 h3)
def KeepU (w w' : World) : Prop := ∀ g t cs, t ≠ 5 → Blk w g t cs → Blk w' g t cs
theorem KeepU.refl (w : World) : KeepU w w := fun _ _ _ _ h => h
theorem KeepU.trans {a b c : World} (h : KeepU a b) (k : KeepU b c) : KeepU a c := fun g t cs ht hb => k g t cs ht (h g t cs ht hb)
theorem KeepU.alloc {a b : World} (h : KeepU a b) (o : Obj) : KeepU a (b.alloc o) := fun g t cs ht hb => (h g t cs ht hb).alloc o
theorem KeepU.of_grown {base : Nat} {α : Type} {f : α → Value} {a w w' : World} {v : Value} {xs : List α} (ho : Mem.Own f base 5 w v xs) (h : KeepU a w) (hg : w.grownBy w' v.ownBlock) : KeepU a w' :=
 fun g t cs ht hq => Blk.apart (h g t cs ht hq) ho ht hg
def AppPostK (base : Nat) (ys : List UInt8) (w : World) (e : Ending) (w' : World) : Prop := ∃ v', e = .returned v' ∧ Mem.Own fB base 5 w' v' ys ∧ Below base w w' ∧ KeepU w w'
def AnRelK (base : Nat) (zs : List UInt8) (m : Nat) (w : World) (bv uv : Value) (wr : World) : Prop :=
 ∃ (f u : Nat) (ys : List UInt8), f ≤ 9 ∧ uv = .int .u64 u ∧ u < 18446744073709551616 ∧ u < 128 ^ (f + 1) ∧ ys ++ numF f u = zs ∧ ys.length + f ≤ m + 9 ∧ Mem.Own fB base 5 wr bv ys ∧ Below base w wr ∧ KeepU w wr
set_option maxRecDepth 100000 in
set_option maxHeartbeats 2000000 in
theorem appendNum_keep {base : Nat} {w : World} {v : Value} {xs : List UInt8} (h : Mem.Own fB base 5 w v xs) (hb : base ≤ w.heap.size) (n : Int) (h1 : -9223372036854775808 ≤ n) (h2 : n ≤ 9223372036854775807) (hl : xs.length ≤ 100000000000) :
 Calls Tryz.prog 132 #[v, .int .i64 n] w (AppPostK base (xs ++ numB n) w) := by
 have H := Lib.hid h; clear h
 have hz := zig_bits n h1 h2
 have HZ := Lib.hid (zig_lt h1 h2)
 obtain ⟨u0, hu0⟩ : ∃ u, u = zig n := ⟨_, rfl⟩
 have HU0 := Lib.hid hu0
 rw [← hu0] at hz HZ
 clear hu0 h1 h2
 go_enter Tryz.func132, Tryz.ntmps132
 go_wp2_with fail
 clear hz
 go_loopw [0, 5] (fun bv uv wr => AnRelK base (xs ++ numB n) xs.length w bv uv wr) (fun _ uv _ => (intOf uv).toNat)
 case atStart => exact ⟨9, u0, xs, Nat.le_refl _, rfl, HZ.out, Nat.lt_of_lt_of_le HZ.out (by decide), by unfold numB; rw [HU0.out], Nat.le_refl _, H.out, Below.refl _ _, KeepU.refl _⟩
 case round =>
  obtain ⟨f, u, ys, hf, rfl, hu, hup, hys, hyl, hown, hbw, hku⟩ := hrel
  have HKU := Lib.hid hku; clear hku
  have HOWN := Lib.hid hown; clear hown
  have HBW := Lib.hid hbw; clear hbw
  have HYS := Lib.hid hys; clear hys
  have h63 : ys.length + 1 ≤ maxLen := by unfold maxLen; omega
  have H63 := Lib.hid h63; clear h63
  have hby : (ys.length + 1) * 1 ≤ 140737488355328 := by omega
  have HBY := Lib.hid hby; clear hby
  have HUP := Lib.hid hup; clear hup
  have HU := Lib.hid hu; clear hu
  have hbz := Nat.le_trans hb HBW.out.size
  by_cases hs : u < 128
  ·obtain ⟨b, rfl⟩ : ∃ b : UInt8, u = b.toNat := ⟨UInt8.ofNat u, (ofNat_lt (by omega)).symm⟩
   have HNF : Hid (ys ++ [b] = xs ++ numB n) := by show _ = _; rw [← HYS.out, numF_small hs, UInt8.ofNat_toNat]
   go_wp2_with (at_builtin; refine wpList_append1t (f := fB) rfl (.tmp 23) (.tmp 26) 28 rfl u8T b (fB_one _) rfl HOWN.out rfl rfl H63.out HBY.out hbz ?_; intro v7 w7 hown7 hg7)
   go_ret
   exact ⟨v7, rfl, by rw [← HNF.out]; exact hown7, (HBW.out.alloc hbz _).trans ((HOWN.out.alloc _).below_ (by rw [World.size_alloc]; omega) hg7), HKU.out.trans (KeepU.of_grown (HOWN.out.alloc _) ((KeepU.refl _).alloc _) hg7)⟩
  ·obtain ⟨b, hbb⟩ : ∃ b, b = UInt8.ofNat (u % 128 + 128) := ⟨_, rfl⟩
   have hor := u8_or128 u
   rw [← hbb] at hor
   have hf0 : f ≠ 0 := by intro e; subst e; have := HUP.out; omega
   obtain ⟨f', rfl⟩ : ∃ f', f = f' + 1 := ⟨f - 1, by omega⟩
   have HNF : Hid ((ys ++ [b]) ++ numF f' (u / 128) = xs ++ numB n) := by show _ = _; rw [← HYS.out, numF_big hs, hbb, List.append_assoc]; rfl
   have hup2 : u / 128 < 128 ^ (f' + 1) := by have := HUP.out; rw [pow_step (f' + 1)] at this; exact Nat.div_lt_of_lt_mul (by rw [Nat.mul_comm]; exact this)
   have HUP2 := Lib.hid hup2; clear hup2
   clear hbb
   go_wp2_with (at_builtin; refine wpList_append1t (f := fB) rfl (.tmp 17) (.tmp 21) 28 rfl u8T b (fB_one _) rfl HOWN.out rfl rfl H63.out HBY.out hbz ?_; intro v7 w7 hown7 hg7)
   go_roundw
   case rel => exact ⟨f', u / 128, ys ++ [b], by omega, by go_num, by have := HU.out; omega, HUP2.out, HNF.out, by rw [List.length_append, List.length_singleton]; omega, hown7, (HBW.out.alloc hbz _).trans ((HOWN.out.alloc _).below_ (by rw [World.size_alloc]; omega) hg7), HKU.out.trans (KeepU.of_grown (HOWN.out.alloc _) ((KeepU.refl _).alloc _) hg7)⟩
   case measure => simp [intOf]; omega
end Go.Proofs.YtifgajinfcihmaaGreatDoor
