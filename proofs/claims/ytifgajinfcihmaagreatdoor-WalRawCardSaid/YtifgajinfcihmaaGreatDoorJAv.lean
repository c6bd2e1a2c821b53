/- Layers 6 and 8: names of numbers: the walks of named and indexOf. -/
import Derived.WalkSmall
import Derived.Lib.AppendIntMem
import Derived.Shelf.Strconv.ErrVarParseInt
import Derived.Test.YtifgajinfcihmaaGreatDoorJAu
import Derived.Test.YtifgajinfcihmaaGreatDoorJAo
import Derived.Test.YtifgajinfcihmaaGreatDoorJAm
import Derived.Test.YtifgajinfcihmaaGreatDoorJAs
namespace Go.Proofs.YtifgajinfcihmaaGreatDoor
open Go Go.RowKit Go.Maps Go.Lib Mem Dsk Go.Proofs.YtifgajinfcihmaaGreatDoor.Nm
structure LaidS (w : World) : Prop where
 tab : Lib.TabIs Tryz.prog w "internal/strconv.uint64pow10" .u64 Lib.pow10Tab
 syn : ∃ tp p, w.var? Tryz.prog "strconv.ErrSyntax" = some #[.iface tp p]
 rng : ∃ tp p, w.var? Tryz.prog "strconv.ErrRange" = some #[.iface tp p]
def LaidB (B : Nat) (w : World) : Prop := ∀ w', Below B w w' → LaidS w'
theorem LaidB.here {B : Nat} {w : World} (h : LaidB B w) : LaidS w := h w (Below.refl _ _)
theorem LaidB.on {B : Nat} {w w' : World} (h : LaidB B w) (hb : Below B w w') : LaidB B w' := fun w2 h2 => h w2 (hb.trans h2)
theorem LaidB.of {w : World} (h : LaidS w) : LaidB w.heap.size w := by
 intro w' hb
 have key : ∀ {n : String} {cs : Array Value}, w.var? Tryz.prog n = some cs → w'.var? Tryz.prog n = some cs := by
  intro n cs hv
  cases hg : Tryz.prog.globalNamed n with
  | none => unfold World.var? at hv; rw [hg] at hv; simp at hv
  | some g =>
    refine var?_below hb hg ?_ hv
    unfold World.var? at hv
    rw [hg] at hv
    rcases Nat.lt_or_ge g w.heap.size with h9 | h9
    ·exact h9
    ·have : w.heap[g]? = none := Array.getElem?_eq_none h9
     simp [this] at hv
 exact ⟨key h.tab, h.syn.elim fun tp h => h.elim fun p h => ⟨tp, p, key h⟩, h.rng.elim fun tp h => h.elim fun p h => ⟨tp, p, key h⟩⟩
theorem Tryz.repX : Builder.Extra Tryz.prog Tryz.repS_ren where
 sizeBuilder := by kernel_rfl
 liesBuilder := by kernel_rfl
 t5 := Tryz.underlying5
 a5 := Tryz.isAgg5
 z5 := Tryz.sizeOf5
 v5 := Tryz.zeroValue5
 infoByte := by kernel_rfl
 cellsByte := by kernel_rfl
 sizeByte := by kernel_rfl
 neB5 := by decide
theorem FmtI_any {w : World} (hl : LaidS w) {n : Int} (h0 : 0 ≤ n) (h1 : n ≤ 9223372036854775807) :
 Calls Tryz.prog 95 #[.int .i64 n, .int .i64 10] w fun e w' => e = .returned (.string ⟨(Lib.decDigits n.toNat).toArray⟩) ∧ Below w.heap.size w w' :=
 (Any.strconv_FormatInt_10 Tryz.fmtI n (by omega) h1 w hl.tab).mono fun e w' ⟨he, k, os, hw⟩ => by
  rw [show Lib.itoa n = Lib.decDigits n.toNat by unfold Lib.itoa; rw [if_neg (by omega)]] at he
  exact ⟨he, hw ▸ Lib.below_grow _ w (Nat.le_refl _) k os⟩
theorem Rep0_any (w : World) (c : Nat) (hc : c ≤ 15) :
 Calls Tryz.prog 96 #[.string ⟨#[48]⟩, .int .i64 c] w fun e w' => e = .returned (.string ⟨(Lib.repeatL [48] c).toArray⟩) ∧ Below w.heap.size w w' :=
 Any.strings_Repeat Tryz.repS Tryz.repX ⟨#[48]⟩ c w (by omega) (by show 1 * c ≤ _; omega)
theorem CutP_any (w : World) (s p : ByteArray) :
 Calls Tryz.prog 72 #[.string s, .string p] w fun e w' => e = .returned (.tuple #[.string ⟨(Lib.trimPrefix s.data.toList p.data.toList).toArray⟩, .bool (Lib.hasPrefix s.data.toList p.data.toList)]) ∧ w = w' :=
 (Any.strings_CutPrefix Tryz.cutP s p w).mono fun _e _w' ⟨he, hw⟩ => ⟨he, hw.symm⟩
theorem ParI_any {w : World} (hl : LaidS w) (s : ByteArray) (hs : s.size ≤ 281474976710656) :
 Calls Tryz.prog 73 #[.string s, .int .i64 10, .int .i64 64] w fun e w' => Below w.heap.size w w' ∧
  ((∃ v, Lib.parseIntB 64 s.data.toList = .ok v ∧ e = .returned (.tuple #[.int .i64 v, .nilIface])) ∨
   ((∀ v, Lib.parseIntB 64 s.data.toList ≠ .ok v) ∧ ∃ v t pv, e = .returned (.tuple #[.int .i64 v, .iface t pv]))) := by
 cases h : Lib.parseIntB 64 s.data.toList with
 | ok v =>
   refine (Any.strconv_ParseInt_10_at64_ok Tryz.parseI s (by omega) v h w).mono fun e w' ⟨he, hw⟩ => ⟨?_, .inl ⟨v, rfl, he⟩⟩
   rcases hw with rfl | ⟨t, rfl⟩
   ·exact Below.refl _ _
   ·exact Lib.bytesWorld_below _ _ _
 | range =>
   obtain ⟨tp, p, hv⟩ := hl.rng
   exact (Any.strconv_ParseInt_10_at64_range_var Tryz.parseI s hs h tp p w hv).mono fun e w' ⟨N, he, _, _, hb⟩ => ⟨hb, .inr ⟨fun v hh => (by cases hh), _, _, _, he⟩⟩
 | _ =>
   obtain ⟨tp, p, hv⟩ := hl.syn
   exact (Any.strconv_ParseInt_10_at64_syntax_var Tryz.parseI s hs h tp p w hv).mono fun e w' ⟨N, he, _, _, hb⟩ => ⟨hb, .inr ⟨fun v hh => (by cases hh), _, _, _, he⟩⟩
theorem dec_len {v : Nat} (h : v < 1000000000000000) : (Lib.decDigits v).length ≤ 15 := by rw [Lib.decDigits_length]; exact nDigits_le 14 v (by simpa using h)
theorem toList_sname (n : ByteArray) : n.toList = sname n := Lib.toList_data n
theorem sname_inj {a b : ByteArray} (h : sname a = sname b) : a = b := ByteArray.ext (Array.ext' h)
end Go.Proofs.YtifgajinfcihmaaGreatDoor
namespace Go.Proofs.YtifgajinfcihmaaGreatDoor
open Go Go.RowKit Go.Maps Go.Lib Mem Dsk Go.Proofs.YtifgajinfcihmaaGreatDoor.Nm
def nmWA (i : Int) : ByteArray := ⟨(nmOf 119 i.toNat).toArray⟩
theorem sname_nmWA (i : Int) : sname (nmWA i) = nmOf 119 i.toNat := by unfold sname nmWA; simp
theorem nmWA_eq {i : Int} (h0 : 0 ≤ i) (h1 : i < 1000000000000000) : (⟨#[119]⟩ : ByteArray) ++ ⟨(Lib.repeatL [48] (15 - (Lib.decDigits i.toNat).length)).toArray⟩ ++ ⟨(Lib.decDigits i.toNat).toArray⟩ = nmWA i := by
 have h := Nm.written 119 (v := i.toNat) (by omega)
 unfold nmWA
 rw [← h]
 apply ByteArray.ext
 simp
set_option maxRecDepth 100000 in
set_option maxHeartbeats 1000000 in
theorem WNamed_any {w : World} (hl : LaidS w) {i : Int} (h0 : 0 ≤ i) (h1 : i < 1000000000000000) :
 Calls Tryz.prog 74 #[.int .i64 i] w fun e w' => e = .returned (.string (nmWA i)) ∧ Below w.heap.size w w' := by
 have HF := Lib.hid (FmtI_any hl h0 (by omega))
 have hdl := dec_len (v := i.toNat) (by omega)
 have HNB := Lib.hid (nmWA_eq h0 h1)
 obtain ⟨ds, hds⟩ : ∃ z, z = Lib.decDigits i.toNat := ⟨_, rfl⟩
 rw [← hds] at HF HNB hdl
 obtain ⟨k, hk⟩ : ∃ k : Nat, k = 15 - ds.length := ⟨_, rfl⟩
 rw [← hk] at HNB
 have e1 : IntKind.i64.wrap (15 - (ds.length : Int)) = (k : Int) := by rw [IntKind.wrap_i64]; omega
 have hsz : (⟨ds.toArray⟩ : ByteArray).size = ds.length := by simp [ByteArray.size]
 have hk15 : k ≤ 15 := by omega
 have hrl : (Lib.repeatL [48] k).length = k := by rw [Lib.repeatL_length]; simp
 have z1 : ¬ 9223372036854775807 < 1 + (Lib.repeatL [48] k).length := by omega
 have z2 : ¬ 9223372036854775807 < 1 + (Lib.repeatL [48] k).length + ds.length := by omega
 clear hl h0 h1 hds hk
 go_enter Tryz.func74, Tryz.ntmps74
 go_wp2_with fail
 (with_reducible refine HF.out.mono ?_); rintro e w1 ⟨rfl, hb1⟩
 have HB1 := Lib.hid hb1; clear hb1
 go_wp2_with fail
 (with_reducible refine (Rep0_any w1 k hk15).mono ?_); rintro e w2 ⟨rfl, hb2⟩
 have HB2 : Hid (Below w.heap.size w w2) := Lib.hid (HB1.out.trans (hb2.mono HB1.out.size)); clear hb2
 go_wp2_with fail
 go_ret
 exact ⟨by rw [HNB.out]; rfl, HB2.out⟩
theorem widx_trim {n : ByteArray} {i : Nat} (h : idxN 119 (sname n) = some i) : Lib.hasPrefix n.data.toList [119] = true ∧ (Lib.trimPrefix n.data.toList [119]).length = 15 ∧ Lib.parseIntB 64 (Lib.trimPrefix n.data.toList [119]) = .ok (i : Int) ∧ nmWA i = n := by
 obtain ⟨h1, h2⟩ := idxN_iff.1 h
 have h3 : n.data.toList = 119 :: pad 15 i := h2
 have hp : Lib.hasPrefix n.data.toList [119] = true := by rw [h3]; exact rfl
 have ht : Lib.trimPrefix n.data.toList [119] = pad 15 i := by
  rw [h3]
  exact rfl
 rw [ht]
 refine ⟨hp, pad_len 15 i, parse_ok (pad_len 15 i) ?_, ?_⟩
 ·rw [numD_pad 15 0 i (by simpa using h1), Nat.zero_mul, Nat.zero_add]
 ·unfold nmWA
  apply ByteArray.ext
  show ((nmOf 119 (i : Int).toNat).toArray : Array UInt8) = n.data
  apply Array.ext'
  rw [h3]
  rfl
theorem wnm_idx {n : ByteArray} {v : Int} (h0 : 0 ≤ v) (h1 : v < 1000000000000000) (h : nmWA v = n) : idxN 119 (sname n) = some v.toNat := by
 rw [← h, sname_nmWA]
 exact idxN_iff.2 ⟨by omega, rfl⟩
theorem widx_none {n : ByteArray} (h : ∀ i, idxN 119 (sname n) = some i → False) : idxN 119 (sname n) = none := by
 cases h9 : idxN 119 (sname n) with
 | none => rfl
 | some i => exact (h i h9).elim
def WIxP (n : ByteArray) (w : World) (e : Ending) (w' : World) : Prop :=
 (∃ v : Int, e = .returned (.tuple #[.int .i64 v, .bool (idxN 119 (sname n)).isSome]) ∧ ∀ i, idxN 119 (sname n) = some i → v = (i : Int)) ∧ Below w.heap.size w w'
theorem WIxP.no {n : ByteArray} {w w' : World} {v : Int} (h : idxN 119 (sname n) = none) (hb : Below w.heap.size w w') : WIxP n w (.returned (.tuple #[.int .i64 v, .bool false])) w' :=
 ⟨⟨v, by rw [h]; rfl, fun i hi => by rw [h] at hi; cases hi⟩, hb⟩
set_option maxRecDepth 100000 in
set_option maxHeartbeats 2000000 in
theorem WIndex_any {B : Nat} {w : World} (hl : LaidB B w) (hB : B ≤ w.heap.size) (n : ByteArray) (hn : n.size ≤ 1000000) :
 Calls Tryz.prog 44 #[.string n] w (WIxP n w) := by
 have HC := Lib.hid (CutP_any w n ⟨#[119]⟩)
 have htl : (Lib.trimPrefix n.data.toList [119]).length ≤ 1000000 := by
  have h1 : (Lib.trimPrefix n.data.toList [119]).length ≤ n.data.toList.length := by
   unfold Lib.trimPrefix
   split
   ·rw [List.length_drop]; omega
   ·exact Nat.le_refl _
  have h2 : n.data.toList.length = n.size := sname_len n
  omega
 have HT := Lib.hid (fun i (h : idxN 119 (sname n) = some i) => widx_trim h)
 change Hid (Calls _ _ _ _ fun e w' => e = .returned (.tuple #[.string ⟨(Lib.trimPrefix n.data.toList [119]).toArray⟩, .bool (Lib.hasPrefix n.data.toList [119])]) ∧ w = w') at HC
 obtain ⟨tr, htr⟩ : ∃ z, z = Lib.trimPrefix n.data.toList [119] := ⟨_, rfl⟩
 obtain ⟨q, hq⟩ : ∃ z, z = Lib.hasPrefix n.data.toList [119] := ⟨_, rfl⟩
 rw [← htr, ← hq] at HC HT
 rw [← htr] at htl
 have hsz : (⟨tr.toArray⟩ : ByteArray).size = tr.length := by exact List.size_toArray
 have HP := Lib.hid (ParI_any hl.here ⟨tr.toArray⟩ (by omega))
 change Hid (Calls _ _ _ _ fun e w' => Below w.heap.size w w' ∧ ((∃ v, Lib.parseIntB 64 tr = .ok v ∧ _) ∨ ((∀ v, Lib.parseIntB 64 tr ≠ .ok v) ∧ _))) at HP
 have HL := Lib.hid hl
 clear hl htr hq
 go_enter Tryz.func44, Tryz.ntmps44
 go_wp2_with fail
 (with_reducible refine HC.out.mono ?_); rintro e w1 ⟨rfl, rfl⟩
 go_wp2_with fail
 (with_reducible refine HP.out.mono ?_)
 rintro e w2 ⟨hb2, hv⟩
 have HB2 := Lib.hid hb2; clear hb2
 rcases hv with ⟨v, hv, rfl⟩ | ⟨hv, v, t, pv, rfl⟩
 ·cases q with
  | false =>
    have HN := Lib.hid (widx_none (fun i hi => by have := (HT.out i hi).1; cases this))
    clear hv
    go_wp2_with fail
    go_ret2
    exact WIxP.no HN.out HB2.out
  | true =>
    by_cases h0 : 0 ≤ v
    ·by_cases h15 : tr.length = 15
     ·have hlt := parse_back h15 hv h0
      have t0 : decide (0 ≤ v) = true := decide_eq_true h0
      have t1 : ((tr.length : Int) == 15) = true := by rw [h15]; rfl
      have HNM := Lib.hid (WNamed_any (HL.out.on (HB2.out.mono hB)).here h0 hlt)
      have H0 := Lib.hid h0
      have HLT := Lib.hid hlt
      have HV := Lib.hid hv
      clear h0 h15 hlt hv htl
      go_wp2_with fail
      (with_reducible refine HNM.out.mono ?_); rintro e w3 ⟨rfl, hb3⟩
      have HB3 : Hid (Below w.heap.size w w3) := Lib.hid (HB2.out.trans (hb3.mono HB2.out.size)); clear hb3
      by_cases he : nmWA v = n
      ·have t2 : ((nmWA v).toList == n.toList) = true := by rw [he]; simp
       have HN := Lib.hid (wnm_idx H0.out HLT.out he)
       clear he
       go_wp2_with fail
       go_ret2
       exact ⟨⟨v, by rw [HN.out]; rfl, fun i hi => by rw [HN.out] at hi; injection hi with hi; have := H0.out; omega⟩, HB3.out⟩
      ·have t2 : ((nmWA v).toList == n.toList) = false := by rw [beq_eq_false_iff_ne, toList_sname, toList_sname]; exact fun h9 => he (sname_inj h9)
       have HN := Lib.hid (widx_none (fun i hi => by
        obtain ⟨-, -, h3, h4⟩ := HT.out i hi
        rw [HV.out] at h3
        injection h3 with h3
        exact he (by rw [h3]; exact h4)))
       clear he
       go_wp2_with fail
       go_ret2
       exact WIxP.no HN.out HB3.out
     ·have t0 : decide (0 ≤ v) = true := decide_eq_true h0
      have t1 : ((tr.length : Int) == 15) = false := by rw [beq_eq_false_iff_ne]; omega
      have HN := Lib.hid (widx_none (fun i hi => h15 (HT.out i hi).2.1))
      clear hv h15 h0
      go_wp2_with fail
      go_ret2
      exact WIxP.no HN.out HB2.out
    ·have t0 : decide (0 ≤ v) = false := decide_eq_false h0
     have HN := Lib.hid (widx_none (fun i hi => by
      obtain ⟨-, -, h3, h4⟩ := HT.out i hi
      rw [hv] at h3
      injection h3 with h3
      omega))
     clear hv h0
     go_wp2_with fail
     go_ret2
     exact WIxP.no HN.out HB2.out
 ·have HN := Lib.hid (widx_none (fun i hi => hv _ (HT.out i hi).2.2.1))
  clear hv
  cases q with
  | false =>
    go_wp2_with fail
    go_ret2
    exact WIxP.no HN.out HB2.out
  | true =>
    go_wp2_with fail
    go_ret2
    exact WIxP.no HN.out HB2.out
end Go.Proofs.YtifgajinfcihmaaGreatDoor
namespace Go.Proofs.YtifgajinfcihmaaGreatDoor
open Go Go.RowKit Go.Shelf Go.Sort Go.Maps Go.Lib Mem Pk Dsk Go.Proofs.YtifgajinfcihmaaGreatDoor.Nm
namespace Nm
theorem pad_cons (k : Nat) : ∀ u : Nat, pad (k + 1) u = UInt8.ofNat (48 + u / 10 ^ k % 10) :: pad k u := by
 induction k with
 | zero => intro u; simp [pad]
 | succ k ih =>
   intro u
   show pad (k + 1) (u / 10) ++ [UInt8.ofNat (48 + u % 10)] = _
   rw [ih (u / 10)]
   have : u / 10 / 10 ^ k = u / 10 ^ (k + 1) := by rw [Nat.div_div_eq_div_mul, Nat.pow_succ, Nat.mul_comm]
   rw [this]
   rfl
theorem dg_mod (x : Nat) : ((x : Nat) : Int).tmod 10 = ((x % 10 : Nat) : Int) := by rw [Int.tmod_eq_emod_of_nonneg (Int.natCast_nonneg x)]; rfl
theorem dg_div (x : Nat) : ((x : Nat) : Int).tdiv 10 = ((x / 10 : Nat) : Int) := by rw [Int.tdiv_eq_ediv_of_nonneg (Int.natCast_nonneg x)]; rfl
theorem dg_next (u k x : Nat) (hx : x = u / 10 ^ k) : x / 10 = u / 10 ^ (k + 1) := by rw [hx, Nat.pow_succ, Nat.div_div_eq_div_mul]
theorem dg_wrap (y : Nat) (h : y < 10) : wrap64 (48 + (y : Int)) = 48 + (y : Int) := by
 unfold wrap64; omega
theorem dg_quo (u k x : Nat) (hu : u ≤ 9223372036854775807) (hx : x = u / 10 ^ k) : wrap64 ((x : Int) / 10) = ((x / 10 : Nat) : Int) := by
 have : x ≤ u := by rw [hx]; exact Nat.div_le_self _ _
 unfold wrap64; omega
theorem dg_byte (y : Nat) (h : y < 10) : (48 + (y : Int)) % 256 = 48 + (y : Int) := by omega
theorem dg_cons (u k x y : Nat) (hx : x = u / 10 ^ k) (hy : y = x % 10) : (⟨#[UInt8.ofNat (48 + y)]⟩ : ByteArray) ++ ⟨(pad k u).toArray⟩ = ⟨(pad (k + 1) u).toArray⟩ := by
 rw [pad_cons, ← hx, ← hy]
 apply ByteArray.ext
 simp [ByteArray.data_append]
theorem dg_w (u : Nat) : (⟨#[119]⟩ : ByteArray) ++ ⟨(pad 15 u).toArray⟩ = ⟨(119 :: pad 15 u).toArray⟩ := by
 apply ByteArray.ext
 simp [ByteArray.data_append]
theorem dg_conv {wr : World} {y : Nat} (hy : y < 10) : (convert 28 9 (.slice (some ⟨wr.heap.size, 0, none⟩) 1 1)).run Tryz.prog (wr.alloc (.cells #[.int .u8 (48 + (y : Int))] 5)) = .ok (.string ⟨#[UInt8.ofNat (48 + y)]⟩) (wr.alloc (.cells #[.int .u8 (48 + (y : Int))] 5)) :=
 run_convert_bytes_back (P := Tryz.prog) _ 28 9 5 ⟨wr.heap.size, 0, none⟩ 1 [UInt8.ofNat (48 + y)] Tryz.underlying28 Tryz.underlying5 Tryz.underlying9 (by
  intro j hj
  simp only [List.length_singleton] at hj
  obtain rfl : j = 0 := by omega
  have h9 : (UInt8.ofNat (48 + y)).toNat = 48 + y := by rw [UInt8.toNat_ofNat']; omega
  have hB : Blk (wr.alloc (.cells #[.int .u8 (48 + (y : Int))] 5)) wr.heap.size 5 #[.int .u8 (48 + (y : Int))] := Blk.new_ _ _ _
  have h0 := hB.cell 0
  show _ = some (Value.int .u8 (((UInt8.ofNat (48 + y)).toNat : Nat) : Int))
  rw [h9]
  exact h0)
end Nm
def DgRel (u h0 : Nat) (w : World) (xv ov iv : Value) (W : World) : Prop :=
 ∃ k x : Nat, k ≤ 15 ∧ x = u / 10 ^ k ∧ xv = .int .i64 (x : Int) ∧ ov = .string ⟨(pad k u).toArray⟩ ∧ iv = .int .i64 (k : Int) ∧ Below h0 w W
set_option maxRecDepth 100000 in
set_option maxHeartbeats 4000000 in
theorem RName6_any {w : World} (u : Nat) (hu : u ≤ 9223372036854775807) :
 Calls Tryz.prog 12 #[.int .i64 (u : Int)] w fun e w' => e = .returned (.string ⟨(119 :: pad 15 u).toArray⟩) ∧ Below w.heap.size w w' := by
 go_enter Tryz.func12, Tryz.ntmps12
 go_wp2_with fail
 go_loopw [0, 3, 4] (fun xv ov iv wr => DgRel u w.heap.size w xv ov iv wr) (fun _ _ iv _ => 15 - (intOf iv).toNat)
 case atStart => exact ⟨0, u, by decide, by simp, rfl, rfl, rfl, Below.refl _ _⟩
 case round =>
  obtain ⟨k, x, hk, hx, rfl, rfl, rfl, hbw⟩ := hrel
  have HX := Lib.hid hx
  have hpl := pad_len k u
  clear hx
  by_cases h15 : k < 15
  ·have h1 : (k : Int) < 15 := by omega
   obtain ⟨y, hy⟩ : ∃ y, y = x % 10 := ⟨_, rfl⟩
   have hy10 : y < 10 := by omega
   have hm := dg_mod x
   have hq := dg_div x
   have hq2 := dg_quo u k x hu HX.out
   rw [← hy] at hm
   have hw1 := dg_wrap y hy10
   have hw2 := dg_byte y hy10
   have hcv := dg_conv (wr := wr) hy10
   have HB2 : Hid (Below w.heap.size w (wr.alloc (.cells #[.int .u8 (48 + (y : Int))] 5))) := Lib.hid (hbw.trans (((Below.refl wr.heap.size wr).alloc (Nat.le_refl _) _).mono hbw.size))
   have hco := dg_cons u k x y HX.out hy
   obtain ⟨ch, hch⟩ : ∃ ch, ch = UInt8.ofNat (48 + y) := ⟨_, rfl⟩
   rw [← hch] at hcv hco
   have HCV := Lib.hid hcv
   have HCO := Lib.hid hco
   clear hcv hco hch
   have HNX := Lib.hid (dg_next u k x HX.out)
   have hl9 : ¬ 9223372036854775807 < 1 + (pad k u).length := by rw [hpl]; omega
   have HLT := Lib.hid h15
   clear hbw hy hy10 h15 hk
   go_wp2_with fail
   rw [HCV.out]
   go_wp2_with fail
   go_roundw
   case rel => exact ⟨k + 1, x / 10, HLT.out, HNX.out, by rw [hq2], by rw [HCO.out], by go_num, HB2.out⟩
   case measure => simp [intOf]; have := HLT.out; omega
  ·obtain rfl : k = 15 := by omega
   have h9 : ¬ 9223372036854775807 < 1 + (pad 15 u).length := by rw [hpl]; decide
   have HB := Lib.hid hbw
   clear hbw hk h15
   go_wp2_with fail
   go_ret
   rw [← dg_w]
   exact ⟨rfl, HB.out⟩
end Go.Proofs.YtifgajinfcihmaaGreatDoor
