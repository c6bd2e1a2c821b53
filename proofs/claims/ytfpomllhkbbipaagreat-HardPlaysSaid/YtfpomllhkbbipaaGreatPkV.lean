/- Layer 3: one value read: a number, or bytes. -/
import Derived.Test.YtfpomllhkbbipaaGreatPkN
import Derived.Test.YtfpomllhkbbipaaGreatPkP
import Derived.Test.YtfpomllhkbbipaaGreatFrm
namespace Go.Proofs.YtfpomllhkbbipaaGreat
open Go Go.RowKit Go.Maps Go.Lib Mem Pk

/-- a value: its kind (1: a number, 3: bytes), the number, the bytes -/
structure PV where
  k : Int
  n : Int
  b : List UInt8
def pvC (v : PV) (A : Option Addr) (c : Nat) : Array Value := #[.int .i64 v.k, .int .i64 v.n, .float .f64 0, .slice A v.b.length c, .bool false]
/-- what stands ahead of bytes, of a kind; what is left -/
def oneV (k : Int) (bs : List UInt8) : Option (PV × List UInt8) :=
  if k = 1 then (getNum bs).map fun x => (⟨1, x.1, []⟩, bs.drop x.2)
  else match getCount 4096 bs with
    | none => none
    | some (n, m) => if n.toNat ≤ (bs.drop m).length then some (⟨3, 0, (bs.drop m).take n.toNat⟩, (bs.drop m).drop n.toNat) else none
def ValOk (F : Nat → Prop) (r : Nat) (v : PV) (rest : List UInt8) (w : World) (e : Ending) (w' : World) : Prop :=
  ∃ A c, e = .returned (.agg (pvC v A c)) ∧ Own fB w.heap.size 5 w' (.slice A v.b.length c) v.b ∧ Rd F w' r rest ∧ Frm (fun g => g = r) w w'
theorem Rd.frmG {F G : Nat → Prop} {w w' : World} {r : Nat} {bs : List UInt8} (h : Rd F w r bs) (hf : Frm G w w') (hr : ¬ G r) (hG : ∀ g, F g → ¬ G g) : Rd F w' r bs := by
  obtain ⟨A, c, h1, h2, h3, h4⟩ := h
  exact ⟨A, c, h1, h2.frm hf hr, h3.frm hf hG, h4⟩
theorem Rd.below_ {F : Nat → Prop} {w w' : World} {r : Nat} {bs : List UInt8} (h : Rd F w r bs) (hb : Below w.heap.size w w') : Rd F w' r bs := h.frmG (G := fun _ => False) (Frm.below hb) (fun e => e) (fun _ _ e => e)
theorem Rd.lt {F : Nat → Prop} {w : World} {r : Nat} {bs : List UInt8} (h : Rd F w r bs) : r < w.heap.size := by
  obtain ⟨A, c, h1, h2, h3, h4⟩ := h; exact h2.lt
theorem Rd.notF {F : Nat → Prop} {w : World} {r : Nat} {bs : List UInt8} (h : Rd F w r bs) : ¬ F r := by
  obtain ⟨A, c, h1, h2, h3, h4⟩ := h; exact h1
theorem Rd.cut {F : Nat → Prop} {w : World} {r : Nat} {bs : List UInt8} (h : Rd F w r bs) : Rd (fun g => F g ∧ g < w.heap.size) w r bs := by
  obtain ⟨A, c, h1, h2, h3, h4⟩ := h
  exact ⟨A, c, fun e => h1 e.1, h2, h3.mono fun g hg e => ⟨e, hg⟩, h4⟩
theorem Rd.uncut {F : Nat → Prop} {w W : World} {r : Nat} {bs : List UInt8} (h : Rd (fun g => F g ∧ g < w.heap.size) W r bs) (hn : ¬ F r) : Rd F W r bs := by
  obtain ⟨A, c, h1, h2, h3, h4⟩ := h
  exact ⟨A, c, hn, h2, h3.mono fun g hg e => e.1, h4⟩
theorem ownLow {α : Type} {f : α → Value} {base base' : Nat} {e : TypeId} {w : World} {v : Value} {xs : List α} (h : Own f base e w v xs) (hb : base' ≤ base) : Own f base' e w v xs := by
  obtain ⟨h1, h2⟩ := h
  refine ⟨h1, ?_⟩
  rcases h2 with h2 | ⟨g, cap, cur, a, b, c⟩
  · exact .inl h2
  · exact .inr ⟨g, cap, cur, a, Nat.le_trans hb b, c⟩
theorem ownFrm {α : Type} {f : α → Value} {base : Nat} {e : TypeId} {w w' : World} {v : Value} {xs : List α} {G : Nat → Prop} (h : Own f base e w v xs) (hf : Frm G w w') (hG : ∀ g, base ≤ g → ¬ G g) : Own f base e w' v xs := by
  obtain ⟨h1, h2⟩ := h
  refine ⟨h1, ?_⟩
  rcases h2 with h2 | ⟨g, cap, cur, a, b, hh, c⟩
  · exact .inl h2
  · exact .inr ⟨g, cap, cur, a, b, (hf.block g (lt_of_block hh) (hG g b)).trans hh, c⟩
def put5 (W : World) (g : Nat) (a b c d e : Value) : World := ((((W.setCell ⟨g, 0, none⟩ a).setCell ⟨g, 1, none⟩ b).setCell ⟨g, 2, none⟩ c).setCell ⟨g, 3, none⟩ d).setCell ⟨g, 4, none⟩ e
theorem put5_blk {W : World} {g : Nat} {t : TypeId} {a b c d e a' b' c' d' e' : Value} (h : Blk W g t #[a', b', c', d', e']) : Blk (put5 W g a b c d e) g t #[a, b, c, d, e] := ((((h.set_ 0 a).set_ 1 b).set_ 2 c).set_ 3 d).set_ 4 e
theorem put5_frm (W : World) (g : Nat) (a b c d e : Value) : Frm (fun k => k = g) W (put5 W g a b c d e) :=
  (((((Frm.refl (fun k => k = g) W).setCell (p := ⟨g, 0, none⟩) (fun _ => rfl) a).setCell (p := ⟨g, 1, none⟩) (fun _ => rfl) b).setCell (p := ⟨g, 2, none⟩) (fun _ => rfl) c).setCell (p := ⟨g, 3, none⟩) (fun _ => rfl) d).setCell (p := ⟨g, 4, none⟩) (fun _ => rfl) e
/-- the two boxes of value -/
def vlW (w : World) (k : Int) : World := (w.alloc (.cells #[.int .i64 0, .int .i64 0, .float .f64 0, .slice none 0 0, .bool false] 83)).alloc (.cells #[.int .i64 k, .int .i64 0, .float .f64 0, .slice none 0 0, .bool false] 83)
theorem vlW_below (w : World) (k : Int) : Below w.heap.size w (vlW w k) := ((Below.refl _ _).alloc (Nat.le_refl _) _).alloc (by simp) _
theorem vlW_a (w : World) (k : Int) : Blk (vlW w k) w.heap.size 83 #[.int .i64 0, .int .i64 0, .float .f64 0, .slice none 0 0, .bool false] := (Blk.new_ w _ _).alloc _
theorem vlW_b (w : World) (k : Int) : Blk (vlW w k) (w.heap.size + 1) 83 #[.int .i64 k, .int .i64 0, .float .f64 0, .slice none 0 0, .bool false] := by
  have := Blk.new_ (w.alloc (.cells #[.int .i64 0, .int .i64 0, .float .f64 0, .slice none 0 0, .bool false] 83)) 83 #[.int .i64 k, .int .i64 0, .float .f64 0, .slice none 0 0, .bool false]
  rw [World.size_alloc] at this; exact this
theorem vl_frm (W : World) (g : Nat) (x : Value) (i : Nat) (a b c d e : Value) : Frm (fun k => k = g ∨ k = g + 1) W (put5 (W.setCell ⟨g + 1, i, none⟩ x) g a b c d e) :=
  (((((((Frm.refl (fun k => k = g ∨ k = g + 1) W).setCell (p := ⟨g + 1, i, none⟩) (fun _ => .inr rfl) x).setCell (p := ⟨g, 0, none⟩) (fun _ => .inl rfl) a).setCell (p := ⟨g, 1, none⟩) (fun _ => .inl rfl) b).setCell (p := ⟨g, 2, none⟩) (fun _ => .inl rfl) c).setCell (p := ⟨g, 3, none⟩) (fun _ => .inl rfl) d).setCell (p := ⟨g, 4, none⟩) (fun _ => .inl rfl) e)
theorem vl_rd {F : Nat → Prop} {w w2 W : World} {r : Nat} {bs : List UInt8} (h : Rd F w2 r bs) (hf : Frm (fun k => k = w.heap.size ∨ k = w.heap.size + 1) w2 W) (hr : r < w.heap.size) (hF : ∀ g, F g → g ≠ w.heap.size ∧ g ≠ w.heap.size + 1) : Rd F W r bs :=
  h.frmG hf (by omega) (fun g hg e => by have := hF g hg; omega)
theorem vl_end {w w1 w2 W : World} {r : Nat} (hb : Below w.heap.size w w1) (hf : Frm (fun g => g = r) w1 w2) (h9 : Frm (fun k => k = w.heap.size ∨ k = w.heap.size + 1) w2 W) : Frm (fun g => g = r) w W :=
  ((Frm.below hb).trans hf).then_up (h9.mono fun k _ e => .inr (by omega))
set_option maxRecDepth 100000 in
set_option maxHeartbeats 2000000 in
theorem value_num0 {F : Nat → Prop} {w : World} {r : Nat} {bs : List UInt8} (h : Rd F w r bs) (hF : ∀ g, F g → g < w.heap.size) {n : Int} {m : Nat} (hg : getNum bs = some (n, m)) :
    Calls Tryz.prog 80 #[.pointer (some ⟨r, 0, none⟩), .int .i64 1] w (ValOk F r ⟨1, n, []⟩ (bs.drop m) w) := by
  have hrl := h.lt
  have HN := Lib.hid (Num_yes (h.below_ (vlW_below w 1)) hg)
  obtain ⟨rest, hrest⟩ : ∃ z, z = bs.drop m := ⟨_, rfl⟩
  rw [← hrest] at HN ⊢
  have HRL := Lib.hid hrl
  have HNF : Hid (∀ g, F g → g ≠ w.heap.size ∧ g ≠ w.heap.size + 1) := Lib.hid fun g hg => by have := hF g hg; omega
  have HW : Hid ((w.alloc (.cells #[.int .i64 0, .int .i64 0, .float .f64 0, .slice none 0 0, .bool false] 83)).alloc (.cells #[.int .i64 1, .int .i64 0, .float .f64 0, .slice none 0 0, .bool false] 83) = vlW w 1) := Lib.hid rfl
  have HB1 := Lib.hid (vlW_below w 1)
  have HA := Lib.hid (vlW_a w 1)
  have HB := Lib.hid (vlW_b w 1)
  have hsf : ∀ (a : Addr) (w : World), (store a (.float .f64 0) .plain).run Tryz.prog w = stored Tryz.prog w a (.float .f64 0) .plain := fun a w => run_store _ w a _ _ rfl
  clear h hg hrest hrl hF
  go_enter Tryz.func80, Tryz.ntmps80
  go_upto_region 3 with fail
  rw [HW.out]
  obtain ⟨w1, hw1⟩ : ∃ z, z = vlW w 1 := ⟨_, rfl⟩
  rw [← hw1] at HN HA HB HB1 ⊢
  clear HW hw1
  go_wp2_with fail
  (with_reducible refine HN.out.mono ?_); rintro e w2 ⟨rfl, hr2, hf2⟩
  have HR2 := Lib.hid hr2
  have HF2 := Lib.hid hf2
  have ha := HA.out.frm hf2 (by have := HRL.out; omega)
  have hb := HB.out.frm hf2 (by have := HRL.out; omega)
  have HA2 := Lib.hid ha
  have HB2 := Lib.hid hb
  have b0 : w2.cell? ⟨w.heap.size + 1, 0, none⟩ = some (.int .i64 1) := hb.cell 0
  have b1 : w2.cell? ⟨w.heap.size + 1, 1, none⟩ = some (.int .i64 0) := hb.cell 1
  have b2 : w2.cell? ⟨w.heap.size + 1, 2, none⟩ = some (.float .f64 0) := hb.cell 2
  have b3 : w2.cell? ⟨w.heap.size + 1, 3, none⟩ = some (.slice none 0 0) := hb.cell 3
  have b4 : w2.cell? ⟨w.heap.size + 1, 4, none⟩ = some (.bool false) := hb.cell 4
  have a0 : w2.cell? ⟨w.heap.size, 0, none⟩ = some (.int .i64 0) := ha.cell 0
  have a1 : w2.cell? ⟨w.heap.size, 1, none⟩ = some (.int .i64 0) := ha.cell 1
  have a2 : w2.cell? ⟨w.heap.size, 2, none⟩ = some (.float .f64 0) := ha.cell 2
  have a3 : w2.cell? ⟨w.heap.size, 3, none⟩ = some (.slice none 0 0) := ha.cell 3
  have a4 : w2.cell? ⟨w.heap.size, 4, none⟩ = some (.bool false) := ha.cell 4
  have fa0 := ha.free 0
  have fa1 := ha.free 1
  have fa2 := ha.free 2
  have fa3 := ha.free 3
  have fa4 := ha.free 4
  have fb1 := hb.free 1
  clear hr2 hf2 ha hb HN
  go_wp2_with fail
  obtain ⟨W9, hW9⟩ : ∃ z, z = put5 (w2.setCell ⟨w.heap.size + 1, 1, none⟩ (.int .i64 n)) w.heap.size (.int .i64 1) (.int .i64 n) (.float .f64 0) (.slice none 0 0) (.bool false) := ⟨_, rfl⟩
  have hx9 : Blk W9 w.heap.size 83 #[.int .i64 1, .int .i64 n, .float .f64 0, .slice none 0 0, .bool false] := by rw [hW9]; exact put5_blk (HA2.out.far (p := ⟨w.heap.size + 1, 1, none⟩) (by show w.heap.size ≠ w.heap.size + 1; omega) _)
  have hf9 := vl_frm w2 w.heap.size (.int .i64 n) 1 (.int .i64 1) (.int .i64 n) (.float .f64 0) (.slice none 0 0) (.bool false)
  rw [← hW9] at hf9
  unfold put5 at hW9
  rw [← hW9]
  have r0 := hx9.cell 0
  have r1 := hx9.cell 1
  have r2 := hx9.cell 2
  have r3 := hx9.cell 3
  have r4 := hx9.cell 4
  refine bodyPost_ret (v := .agg #[.int .i64 1, .int .i64 n, .float .f64 0, .slice none 0 0, .bool false]) (by simp [results, Tryz.results80, go_sem, r0, r1, r2, r3, r4]) rfl ?_
  have hlt2 := HR2.out.lt
  exact ⟨none, 0, rfl, Own.nil, vl_rd HR2.out hf9 HRL.out HNF.out, vl_end HB1.out HF2.out hf9⟩

theorem ValOk.uncut {F : Nat → Prop} {r : Nat} {v : PV} {rest : List UInt8} {w : World} {e : Ending} {w' : World} (h : ValOk (fun g => F g ∧ g < w.heap.size) r v rest w e w') (hn : ¬ F r) : ValOk F r v rest w e w' := by
  obtain ⟨A, c, h1, h2, h3, h4⟩ := h
  exact ⟨A, c, h1, h2, h3.uncut hn, h4⟩
theorem value_num {F : Nat → Prop} {w : World} {r : Nat} {bs : List UInt8} (h : Rd F w r bs) {n : Int} {m : Nat} (hg : getNum bs = some (n, m)) :
    Calls Tryz.prog 80 #[.pointer (some ⟨r, 0, none⟩), .int .i64 1] w (ValOk F r ⟨1, n, []⟩ (bs.drop m) w) :=
  (value_num0 h.cut (fun g hg => hg.2) hg).mono fun _ _ hp => hp.uncut h.notF
/-- bytes, as many as a count ahead of them says -/
def BtOk (F : Nat → Prop) (r : Nat) (b rest : List UInt8) (w : World) (e : Ending) (w' : World) : Prop :=
  ∃ A c, e = .returned (.slice A b.length c) ∧ Own fB w.heap.size 5 w' (.slice A b.length c) b ∧ Rd F w' r rest ∧ Frm (fun g => g = r) w w'
set_option maxHeartbeats 1000000 in
theorem Bytes_yes {F : Nat → Prop} {w : World} {r : Nat} {bs : List UInt8} (h : Rd F w r bs) {n : Int} {m : Nat} (hg : getCount 4096 bs = some (n, m)) (hn : n.toNat ≤ (bs.drop m).length) :
    Calls Tryz.prog 96 #[.pointer (some ⟨r, 0, none⟩)] w (BtOk F r ((bs.drop m).take n.toNat) ((bs.drop m).drop n.toNat) w) := by
  obtain ⟨-, h2, h3⟩ := getCount_some hg
  have HC := Lib.hid (Count_yes h hg)
  obtain ⟨rs, hrs⟩ : ∃ z, z = bs.drop m := ⟨_, rfl⟩
  rw [← hrs] at HC hn ⊢
  obtain ⟨k, rfl⟩ := Int.eq_ofNat_of_zero_le h2
  rw [Int.toNat_natCast] at hn ⊢
  have HN := Lib.hid hn
  have hk : k ≤ 4096 := by omega
  have hlk : (rs.take k).length = k := by rw [List.length_take]; omega
  have HLK := Lib.hid hlk
  clear h hg hrs hn h2 h3 hlk
  go_enter Tryz.func96, Tryz.ntmps96
  go_wp2_with fail
  (with_reducible refine HC.out.mono ?_); rintro e w1 ⟨rfl, hr1, hf1⟩
  have HT := Lib.hid (take_ok hr1 k HN.out (k : Int) rfl)
  have HF1 := Lib.hid hf1
  clear hr1 hf1 HC
  go_wp2_with fail
  (with_reducible refine HT.out.mono ?_); rintro e w2 ⟨A2, c2, rfl, hs2, hr2, hf2⟩
  have hcl := CloneB_any A2 c2 (rs.take k) (by rw [HLK.out]; omega) w2 hs2.sl
  rw [HLK.out] at hcl
  have HCL := Lib.hid hcl
  have HR2 := Lib.hid hr2
  have HF2 : Hid (Frm (fun g => g = r) w w2) := Lib.hid (HF1.out.trans hf2)
  clear hs2 hr2 hf2 hcl HT HF1
  go_wp2_with fail
  (with_reducible refine HCL.out.mono ?_); rintro e w3 ⟨A3, c3, rfl, ho3, hb3⟩
  rw [HLK.out] at ho3
  rw [HLK.out]
  go_wp2_with fail
  go_ret
  refine ⟨A3, c3, by rw [HLK.out]; rfl, ?_, HR2.out.below_ hb3, HF2.out.trans (Frm.below hb3)⟩
  rw [HLK.out]
  exact ownLow ho3 HF2.out.size
theorem Bytes_no {F : Nat → Prop} {w : World} {r : Nat} {bs : List UInt8} (h : Rd F w r bs) (hg : ∀ n m, getCount 4096 bs = some (n, m) → (bs.drop m).length < n.toNat) :
    Calls Tryz.prog 96 #[.pointer (some ⟨r, 0, none⟩)] w (RdNo r 30 w) := by
  cases hc : getCount 4096 bs with
  | none =>
    have HC := Lib.hid (Count_none h hc)
    clear h hg hc
    go_enter Tryz.func96, Tryz.ntmps96
    go_wp2_with fail
    (with_reducible refine HC.out.mono ?_); rintro e w1 ⟨rfl, hf1⟩
    go_wp2_with fail
    exact ⟨rfl, rfl, hf1⟩
  | some x =>
    obtain ⟨n, m⟩ := x
    have hlt := hg n m hc
    obtain ⟨-, h2, h3⟩ := getCount_some hc
    have HC := Lib.hid (Count_yes h hc)
    obtain ⟨rs, hrs⟩ : ∃ z, z = bs.drop m := ⟨_, rfl⟩
    rw [← hrs] at HC hlt
    have HLT : Hid ((rs.length : Int) < n) := Lib.hid (by omega)
    clear h hg hrs hlt hc
    go_enter Tryz.func96, Tryz.ntmps96
    go_wp2_with fail
    (with_reducible refine HC.out.mono ?_); rintro e w1 ⟨rfl, hr1, hf1⟩
    have HT := Lib.hid (take_no hr1 n HLT.out)
    have HF1 := Lib.hid hf1
    clear hr1 hf1 HC
    go_wp2_with fail
    (with_reducible refine HT.out.mono ?_); rintro e w2 ⟨rfl, hf2⟩
    go_wp2_with fail
    exact ⟨rfl, rfl, HF1.out.trans hf2⟩
set_option maxRecDepth 100000 in
set_option maxHeartbeats 2000000 in
theorem value_bytes0 {F : Nat → Prop} {w : World} {r : Nat} {bs : List UInt8} (h : Rd F w r bs) (hF : ∀ g, F g → g < w.heap.size) {n : Int} {m : Nat} (hg : getCount 4096 bs = some (n, m)) (hn : n.toNat ≤ (bs.drop m).length) :
    Calls Tryz.prog 80 #[.pointer (some ⟨r, 0, none⟩), .int .i64 3] w (ValOk F r ⟨3, 0, (bs.drop m).take n.toNat⟩ ((bs.drop m).drop n.toNat) w) := by
  have hrl := h.lt
  have HN := Lib.hid (Bytes_yes (h.below_ (vlW_below w 3)) hg hn)
  obtain ⟨b, hb⟩ : ∃ z, z = (bs.drop m).take n.toNat := ⟨_, rfl⟩
  obtain ⟨rest, hrest⟩ : ∃ z, z = (bs.drop m).drop n.toNat := ⟨_, rfl⟩
  rw [← hrest, ← hb] at HN ⊢
  have HRL := Lib.hid hrl
  have HNF : Hid (∀ g, F g → g ≠ w.heap.size ∧ g ≠ w.heap.size + 1) := Lib.hid fun g hg => by have := hF g hg; omega
  have HW : Hid ((w.alloc (.cells #[.int .i64 0, .int .i64 0, .float .f64 0, .slice none 0 0, .bool false] 83)).alloc (.cells #[.int .i64 3, .int .i64 0, .float .f64 0, .slice none 0 0, .bool false] 83) = vlW w 3) := Lib.hid rfl
  have HB1 := Lib.hid (vlW_below w 3)
  have HA := Lib.hid (vlW_a w 3)
  have HB := Lib.hid (vlW_b w 3)
  have HSZ : Hid ((vlW w 3).heap.size = w.heap.size + 2) := Lib.hid (by unfold vlW; simp)
  have hsf : ∀ (a : Addr) (w : World), (store a (.float .f64 0) .plain).run Tryz.prog w = stored Tryz.prog w a (.float .f64 0) .plain := fun a w => run_store _ w a _ _ rfl
  clear h hg hrest hrl hF hn hb
  go_enter Tryz.func80, Tryz.ntmps80
  go_upto_region 3 with fail
  rw [HW.out]
  obtain ⟨w1, hw1⟩ : ∃ z, z = vlW w 3 := ⟨_, rfl⟩
  rw [← hw1] at HN HA HB HB1 HSZ ⊢
  clear HW hw1
  go_wp2_with fail
  (with_reducible refine HN.out.mono ?_); rintro e w2 ⟨A2, c2, rfl, ho2, hr2, hf2⟩
  have HO2 := Lib.hid ho2
  have HR2 := Lib.hid hr2
  have HF2 := Lib.hid hf2
  have ha := HA.out.frm hf2 (by have := HRL.out; omega)
  have hb := HB.out.frm hf2 (by have := HRL.out; omega)
  have HA2 := Lib.hid ha
  have HB2 := Lib.hid hb
  have b0 : w2.cell? ⟨w.heap.size + 1, 0, none⟩ = some (.int .i64 3) := hb.cell 0
  have b1 : w2.cell? ⟨w.heap.size + 1, 1, none⟩ = some (.int .i64 0) := hb.cell 1
  have b2 : w2.cell? ⟨w.heap.size + 1, 2, none⟩ = some (.float .f64 0) := hb.cell 2
  have b3 : w2.cell? ⟨w.heap.size + 1, 3, none⟩ = some (.slice none 0 0) := hb.cell 3
  have b4 : w2.cell? ⟨w.heap.size + 1, 4, none⟩ = some (.bool false) := hb.cell 4
  have a0 : w2.cell? ⟨w.heap.size, 0, none⟩ = some (.int .i64 0) := ha.cell 0
  have a1 : w2.cell? ⟨w.heap.size, 1, none⟩ = some (.int .i64 0) := ha.cell 1
  have a2 : w2.cell? ⟨w.heap.size, 2, none⟩ = some (.float .f64 0) := ha.cell 2
  have a3 : w2.cell? ⟨w.heap.size, 3, none⟩ = some (.slice none 0 0) := ha.cell 3
  have a4 : w2.cell? ⟨w.heap.size, 4, none⟩ = some (.bool false) := ha.cell 4
  have fa0 := ha.free 0
  have fa1 := ha.free 1
  have fa2 := ha.free 2
  have fa3 := ha.free 3
  have fa4 := ha.free 4
  have fb3 := hb.free 3
  clear hr2 hf2 ha hb HN ho2
  go_wp2_with fail
  obtain ⟨W9, hW9⟩ : ∃ z, z = put5 (w2.setCell ⟨w.heap.size + 1, 3, none⟩ (.slice A2 b.length c2)) w.heap.size (.int .i64 3) (.int .i64 0) (.float .f64 0) (.slice A2 b.length c2) (.bool false) := ⟨_, rfl⟩
  have hx9 : Blk W9 w.heap.size 83 #[.int .i64 3, .int .i64 0, .float .f64 0, .slice A2 b.length c2, .bool false] := by rw [hW9]; exact put5_blk (HA2.out.far (p := ⟨w.heap.size + 1, 3, none⟩) (by show w.heap.size ≠ w.heap.size + 1; omega) _)
  have hf9 := vl_frm w2 w.heap.size (.slice A2 b.length c2) 3 (.int .i64 3) (.int .i64 0) (.float .f64 0) (.slice A2 b.length c2) (.bool false)
  rw [← hW9] at hf9
  unfold put5 at hW9
  rw [← hW9]
  have r0 := hx9.cell 0
  have r1 := hx9.cell 1
  have r2 := hx9.cell 2
  have r3 := hx9.cell 3
  have r4 := hx9.cell 4
  refine bodyPost_ret (v := .agg #[.int .i64 3, .int .i64 0, .float .f64 0, .slice A2 b.length c2, .bool false]) (by simp [results, Tryz.results80, go_sem, r0, r1, r2, r3, r4]) rfl ?_
  have hlt2 := HR2.out.lt
  refine ⟨A2, c2, rfl, ownLow (ownFrm HO2.out hf9 (fun g hg e => ?_)) (by have := HSZ.out; omega), vl_rd HR2.out hf9 HRL.out HNF.out, vl_end HB1.out HF2.out hf9⟩
  have := HSZ.out
  omega
theorem value_bytes {F : Nat → Prop} {w : World} {r : Nat} {bs : List UInt8} (h : Rd F w r bs) {n : Int} {m : Nat} (hg : getCount 4096 bs = some (n, m)) (hn : n.toNat ≤ (bs.drop m).length) :
    Calls Tryz.prog 80 #[.pointer (some ⟨r, 0, none⟩), .int .i64 3] w (ValOk F r ⟨3, 0, (bs.drop m).take n.toNat⟩ ((bs.drop m).drop n.toNat) w) :=
  (value_bytes0 h.cut (fun g hg => hg.2) hg hn).mono fun _ _ hp => hp.uncut h.notF
theorem value_yes {F : Nat → Prop} {w : World} {r : Nat} {bs : List UInt8} (h : Rd F w r bs) {k : Int} (hk : k = 1 ∨ k = 3) {v : PV} {rest : List UInt8} (hv : oneV k bs = some (v, rest)) :
    Calls Tryz.prog 80 #[.pointer (some ⟨r, 0, none⟩), .int .i64 k] w (ValOk F r v rest w) := by
  rcases hk with rfl | rfl
  · unfold oneV at hv
    rw [if_pos rfl] at hv
    cases hg : getNum bs with
    | none => rw [hg] at hv; cases hv
    | some x =>
      obtain ⟨n, m⟩ := x
      rw [hg] at hv
      injection hv with hv; injection hv with h1 h2
      subst h1; subst h2
      exact value_num h hg
  · unfold oneV at hv
    rw [if_neg (by decide)] at hv
    cases hg : getCount 4096 bs with
    | none => rw [hg] at hv; cases hv
    | some x =>
      obtain ⟨n, m⟩ := x
      rw [hg] at hv
      simp only at hv
      split at hv
      · injection hv with hv; injection hv with h1 h2
        subst h1; subst h2
        exact value_bytes h hg ‹_›
      · cases hv
set_option maxRecDepth 100000 in
set_option maxHeartbeats 2000000 in
theorem value_no {F : Nat → Prop} {w : World} {r : Nat} {bs : List UInt8} (h : Rd F w r bs) {k : Int} (hk : k = 1 ∨ k = 3) (hv : oneV k bs = none) :
    Calls Tryz.prog 80 #[.pointer (some ⟨r, 0, none⟩), .int .i64 k] w (RdNo r 30 w) := by
  have hsf : ∀ (a : Addr) (w : World), (store a (.float .f64 0) .plain).run Tryz.prog w = stored Tryz.prog w a (.float .f64 0) .plain := fun a w => run_store _ w a _ _ rfl
  have HB1 := Lib.hid (vlW_below w k)
  have hr1 := h.below_ (vlW_below w k)
  have HW : Hid ((w.alloc (.cells #[.int .i64 0, .int .i64 0, .float .f64 0, .slice none 0 0, .bool false] 83)).alloc (.cells #[.int .i64 k, .int .i64 0, .float .f64 0, .slice none 0 0, .bool false] 83) = vlW w k) := Lib.hid rfl
  rcases hk with rfl | rfl
  · unfold oneV at hv
    rw [if_pos rfl] at hv
    have hg : getNum bs = none := by
      cases hg : getNum bs with
      | none => rfl
      | some x => rw [hg] at hv; cases hv
    have HN := Lib.hid (Num_none hr1 hg)
    clear h hv hg hr1
    go_enter Tryz.func80, Tryz.ntmps80
    go_upto_region 3 with fail
    rw [HW.out]
    obtain ⟨w1, hw1⟩ : ∃ z, z = vlW w 1 := ⟨_, rfl⟩
    rw [← hw1] at HN HB1 ⊢
    clear HW hw1
    go_wp2_with fail
    (with_reducible refine HN.out.mono ?_); rintro e w2 ⟨rfl, hf2⟩
    go_wp2_with fail
    exact ⟨rfl, rfl, (Frm.below HB1.out).trans hf2⟩
  · unfold oneV at hv
    rw [if_neg (by decide)] at hv
    have hg : ∀ n m, getCount 4096 bs = some (n, m) → (bs.drop m).length < n.toNat := fun n m hg => by
      rw [hg] at hv
      simp only at hv
      split at hv
      · cases hv
      · omega
    have HN := Lib.hid (Bytes_no hr1 hg)
    clear h hv hg hr1
    go_enter Tryz.func80, Tryz.ntmps80
    go_upto_region 3 with fail
    rw [HW.out]
    obtain ⟨w1, hw1⟩ : ∃ z, z = vlW w 3 := ⟨_, rfl⟩
    rw [← hw1] at HN HB1 ⊢
    clear HW hw1
    go_wp2_with fail
    (with_reducible refine HN.out.mono ?_); rintro e w2 ⟨rfl, hf2⟩
    go_wp2_with fail
    exact ⟨rfl, rfl, (Frm.below HB1.out).trans hf2⟩
end Go.Proofs.YtfpomllhkbbipaaGreat
