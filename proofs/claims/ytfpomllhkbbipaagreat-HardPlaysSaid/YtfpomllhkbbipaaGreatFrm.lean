/- Layer 3: words and frames: the program's. -/
import Derived.Test.YtfpomllhkbbipaaGreatSum
import Derived.Test.YtfpomllhkbbipaaGreatPkA
import Derived.BigQuiet
import Derived.Test.YtfpomllhkbbipaaGreatRj
import Derived.Test.YtfpomllhkbbipaaGreatApX
import Derived.Test.YtfpomllhkbbipaaGreatCut
namespace Go.Proofs.YtfpomllhkbbipaaGreat
open Go Go.RowKit Go.Maps Go.Lib Mem Pk

theorem Mem.Own.lit {α : Type} {f : α → Value} {base : Nat} {e : TypeId} {w : World} (xs : List α) (hm : xs.length ≤ maxLen) (hb : base ≤ w.heap.size) :
    Own f base e (w.alloc (.cells (xs.map f).toArray e)) (.slice (some ⟨w.heap.size, 0, none⟩) xs.length xs.length) xs := by
  refine ⟨by simp, .inr ⟨w.heap.size, xs.length, (xs.map f).toArray, rfl, hb, heap_alloc_new w _, Nat.le_refl _, hm, by simp, ?_⟩⟩
  rw [Nat.mul_one]
  exact List.take_of_length_le (by simp)
theorem word_row (u : Nat) : (wordB u).map fB = [.int .u8 ((u % 256 : Nat) : Int), .int .u8 ((u / 256 % 256 : Nat) : Int), .int .u8 ((u / 65536 % 256 : Nat) : Int), .int .u8 ((u / 16777216 % 256 : Nat) : Int)] := by
  have h : ∀ n : Nat, n < 256 → fB (UInt8.ofNat n) = .int .u8 (n : Int) := fun n hn => by unfold fB; rw [byte_of hn]
  unfold wordB
  simp only [List.map_cons, List.map_nil]
  rw [h _ (by omega), h _ (by omega), h _ (by omega), h _ (by omega)]
theorem word_own {w : World} (u : Nat) : Own fB w.heap.size 5 (w.alloc (.cells #[.int .u8 ((u % 256 : Nat) : Int), .int .u8 ((u / 256 % 256 : Nat) : Int), .int .u8 ((u / 65536 % 256 : Nat) : Int), .int .u8 ((u / 16777216 % 256 : Nat) : Int)] 5)) (.slice (some ⟨w.heap.size, 0, none⟩) 4 4) (wordB u) := by
  have h := Mem.Own.lit (f := fB) (base := w.heap.size) (e := 5) (w := w) (wordB u) (by rw [wordB_len]; decide) (Nat.le_refl _)
  rw [word_row, wordB_len] at h
  exact h
set_option maxRecDepth 100000 in
theorem word_any {w : World} (u : Nat) (hu : u < 2 ^ 32) : Calls Tryz.prog 63 #[.int .u32 (u : Int)] w (AppPost w.heap.size (wordB u) w) := by
  have hu' : u < 4294967296 := hu
  have HO := word_own (w := w) u
  obtain ⟨x0, h0⟩ : ∃ x, x = u % 256 := ⟨_, rfl⟩
  obtain ⟨x1, h1⟩ : ∃ x, x = u / 256 % 256 := ⟨_, rfl⟩
  obtain ⟨x2, h2⟩ : ∃ x, x = u / 65536 % 256 := ⟨_, rfl⟩
  obtain ⟨x3, h3⟩ : ∃ x, x = u / 16777216 % 256 := ⟨_, rfl⟩
  have a0 : (u : Int) % 256 = (x0 : Int) := by omega
  have a1 : (u : Int) / 256 % 256 = (x1 : Int) := by omega
  have a2 : (u : Int) / 65536 % 256 = (x2 : Int) := by omega
  have a3 : (u : Int) / 16777216 % 256 = (x3 : Int) := by omega
  have b0 : (x0 : Int) % 256 = (x0 : Int) := by omega
  have b1 : (x1 : Int) % 256 = (x1 : Int) := by omega
  have b2 : (x2 : Int) % 256 = (x2 : Int) := by omega
  have b3 : (x3 : Int) % 256 = (x3 : Int) := by omega
  rw [← h0, ← h1, ← h2, ← h3] at HO
  have HO := Lib.hid HO
  clear h0 h1 h2 h3 hu'
  clear hu
  go_enter Tryz.func63, Tryz.ntmps63
  go_wp2_with fail
  go_ret
  exact ⟨_, rfl, HO.out, (Below.refl _ _).alloc (Nat.le_refl _) _⟩
set_option maxRecDepth 100000 in
theorem Rword_any {w : World} (u : Nat) (hu : u < 2 ^ 32) : Calls Tryz.prog 87 #[.int .u32 (u : Int)] w (AppPost w.heap.size (wordB u) w) := by
  have hu' : u < 4294967296 := hu
  have HO := word_own (w := w) u
  obtain ⟨x0, h0⟩ : ∃ x, x = u % 256 := ⟨_, rfl⟩
  obtain ⟨x1, h1⟩ : ∃ x, x = u / 256 % 256 := ⟨_, rfl⟩
  obtain ⟨x2, h2⟩ : ∃ x, x = u / 65536 % 256 := ⟨_, rfl⟩
  obtain ⟨x3, h3⟩ : ∃ x, x = u / 16777216 % 256 := ⟨_, rfl⟩
  have a0 : (u : Int) % 256 = (x0 : Int) := by omega
  have a1 : (u : Int) / 256 % 256 = (x1 : Int) := by omega
  have a2 : (u : Int) / 65536 % 256 = (x2 : Int) := by omega
  have a3 : (u : Int) / 16777216 % 256 = (x3 : Int) := by omega
  have b0 : (x0 : Int) % 256 = (x0 : Int) := by omega
  have b1 : (x1 : Int) % 256 = (x1 : Int) := by omega
  have b2 : (x2 : Int) % 256 = (x2 : Int) := by omega
  have b3 : (x3 : Int) % 256 = (x3 : Int) := by omega
  rw [← h0, ← h1, ← h2, ← h3] at HO
  have HO := Lib.hid HO
  clear h0 h1 h2 h3 hu'
  clear hu
  go_enter Tryz.func87, Tryz.ntmps87
  go_wp2_with fail
  go_ret
  exact ⟨_, rfl, HO.out, (Below.refl _ _).alloc (Nat.le_refl _) _⟩
end Go.Proofs.YtfpomllhkbbipaaGreat
namespace Go.Proofs.YtfpomllhkbbipaaGreat
open Go Go.RowKit Go.Maps Go.Lib Mem Pk

theorem or_join {a b k : Nat} (h : a < 2 ^ k) (ha : a < 2 ^ 32) (hb : b * 2 ^ k < 2 ^ 32) : bits BinOp.or IntKind.u32 (a : Int) ((b * 2 ^ k : Nat) : Int) = ((a + b * 2 ^ k : Nat) : Int) := by
  rw [u32_or_nat _ _ ha hb]
  have h1 := Nat.shiftLeft_add_eq_or_of_lt (b := a) (i := k) h b
  rw [Nat.shiftLeft_eq] at h1
  rw [Nat.or_comm, ← h1, Nat.add_comm]
/-- the four bytes -/
theorem word_cells {w : World} {A : Option Addr} {bs : List UInt8} (h : Sl fB w A bs) (h4 : 4 ≤ bs.length) : ∃ b o, ∃ n0 n1 n2 n3 : Nat, A = some ⟨b, o, none⟩ ∧ n0 < 256 ∧ n1 < 256 ∧ n2 < 256 ∧ n3 < 256 ∧ unwordN bs = n0 + n1 * 256 + n2 * 65536 + n3 * 16777216 ∧
    w.cell? ⟨b, o, none⟩ = some (.int .u8 (n0 : Int)) ∧ w.cell? ⟨b, o + 1, none⟩ = some (.int .u8 (n1 : Int)) ∧ w.cell? ⟨b, o + 2, none⟩ = some (.int .u8 (n2 : Int)) ∧ w.cell? ⟨b, o + 3, none⟩ = some (.int .u8 (n3 : Int)) := by
  obtain ⟨b, o, rfl, _, hc⟩ := h.at (k := 0) (by omega)
  have e : ∀ (j : Nat) (hj : j < bs.length), bs.getD j 0 = bs[j] := fun j hj => by rw [List.getD_eq_getElem?_getD, List.getElem?_eq_getElem hj, Option.getD_some]
  refine ⟨b, o, bs[0].toNat, bs[1].toNat, bs[2].toNat, bs[3].toNat, rfl, (bs[0]).toNat_lt, (bs[1]).toNat_lt, (bs[2]).toNat_lt, (bs[3]).toNat_lt, ?_, hc 0 (by omega), hc 1 (by omega), hc 2 (by omega), hc 3 (by omega)⟩
  unfold unwordN
  rw [e 0 (by omega), e 1 (by omega), e 2 (by omega), e 3 (by omega)]
set_option maxRecDepth 100000 in
theorem unword_any {w : World} {A : Option Addr} {c : Nat} {bs : List UInt8} (h : Sl fB w A bs) (h4 : 4 ≤ bs.length) :
    Calls Tryz.prog 75 #[.slice A bs.length c] w (Quiet (.int .u32 (unwordN bs : Int)) w) := by
  have hl := h.len
  obtain ⟨b, o, n0, n1, n2, n3, rfl, l0, l1, l2, l3, hu, c0, c1, c2, c3⟩ := word_cells h h4
  obtain ⟨u, hu2⟩ : ∃ u, u = unwordN bs := ⟨_, rfl⟩
  rw [← hu2]
  have i0 : (0 : Int) < (bs.length : Int) := by omega
  have i1 : (1 : Int) < (bs.length : Int) := by omega
  have i2 : (2 : Int) < (bs.length : Int) := by omega
  have i3 : (3 : Int) < (bs.length : Int) := by omega
  have v0 : (n0 : Int) % 4294967296 = (n0 : Int) := by omega
  have v1 : (n1 : Int) % 4294967296 = (n1 : Int) := by omega
  have v2 : (n2 : Int) % 4294967296 = (n2 : Int) := by omega
  have v3 : (n3 : Int) % 4294967296 = (n3 : Int) := by omega
  obtain ⟨p1, hp1⟩ : ∃ p, p = n1 * 2 ^ 8 := ⟨_, rfl⟩
  obtain ⟨p2, hp2⟩ : ∃ p, p = n2 * 2 ^ 16 := ⟨_, rfl⟩
  obtain ⟨p3, hp3⟩ : ∃ p, p = n3 * 2 ^ 24 := ⟨_, rfl⟩
  have t1 : (n1 : Int) * 256 % 4294967296 = (p1 : Int) := by omega
  have t2 : (n2 : Int) * 65536 % 4294967296 = (p2 : Int) := by omega
  have t3 : (n3 : Int) * 16777216 % 4294967296 = (p3 : Int) := by omega
  obtain ⟨m1, hm1⟩ : ∃ m, m = n0 + p1 := ⟨_, rfl⟩
  obtain ⟨m2, hm2⟩ : ∃ m, m = m1 + p2 := ⟨_, rfl⟩
  have r1 : bits BinOp.or IntKind.u32 (n0 : Int) (p1 : Int) = (m1 : Int) := by rw [hm1, hp1]; exact or_join (by omega) (by omega) (by omega)
  have r2 : bits BinOp.or IntKind.u32 (m1 : Int) (p2 : Int) = (m2 : Int) := by rw [hm2, hp2]; exact or_join (by omega) (by omega) (by omega)
  have r3 : bits BinOp.or IntKind.u32 (m2 : Int) (p3 : Int) = (u : Int) := by
    have e : u = m2 + n3 * 2 ^ 24 := by omega
    rw [e, hp3]; exact or_join (by omega) (by omega) (by omega)
  have z1 : (1 : Nat) < bs.length := by omega
  clear h h4 hu hu2 hp1 hp2 hp3 hm1 hm2 l0 l1 l2 l3 hl z1
  go_enter Tryz.func75, Tryz.ntmps75
  go_wp2_with fail
  go_quiet (fail)
  go_wp2_with fail
  go_ret
  exact ⟨rfl, _, rfl⟩
set_option maxRecDepth 100000 in
theorem Runword_any {w : World} {A : Option Addr} {c : Nat} {bs : List UInt8} (h : Sl fB w A bs) (h4 : 4 ≤ bs.length) :
    Calls Tryz.prog 57 #[.slice A bs.length c] w (Quiet (.int .u32 (unwordN bs : Int)) w) := by
  have hl := h.len
  obtain ⟨b, o, n0, n1, n2, n3, rfl, l0, l1, l2, l3, hu, c0, c1, c2, c3⟩ := word_cells h h4
  obtain ⟨u, hu2⟩ : ∃ u, u = unwordN bs := ⟨_, rfl⟩
  rw [← hu2]
  have i0 : (0 : Int) < (bs.length : Int) := by omega
  have i1 : (1 : Int) < (bs.length : Int) := by omega
  have i2 : (2 : Int) < (bs.length : Int) := by omega
  have i3 : (3 : Int) < (bs.length : Int) := by omega
  have v0 : (n0 : Int) % 4294967296 = (n0 : Int) := by omega
  have v1 : (n1 : Int) % 4294967296 = (n1 : Int) := by omega
  have v2 : (n2 : Int) % 4294967296 = (n2 : Int) := by omega
  have v3 : (n3 : Int) % 4294967296 = (n3 : Int) := by omega
  obtain ⟨p1, hp1⟩ : ∃ p, p = n1 * 2 ^ 8 := ⟨_, rfl⟩
  obtain ⟨p2, hp2⟩ : ∃ p, p = n2 * 2 ^ 16 := ⟨_, rfl⟩
  obtain ⟨p3, hp3⟩ : ∃ p, p = n3 * 2 ^ 24 := ⟨_, rfl⟩
  have t1 : (n1 : Int) * 256 % 4294967296 = (p1 : Int) := by omega
  have t2 : (n2 : Int) * 65536 % 4294967296 = (p2 : Int) := by omega
  have t3 : (n3 : Int) * 16777216 % 4294967296 = (p3 : Int) := by omega
  obtain ⟨m1, hm1⟩ : ∃ m, m = n0 + p1 := ⟨_, rfl⟩
  obtain ⟨m2, hm2⟩ : ∃ m, m = m1 + p2 := ⟨_, rfl⟩
  have r1 : ((n0 : Int) + (p1 : Int)) % 4294967296 = (m1 : Int) := by omega
  have r2 : ((m1 : Int) + (p2 : Int)) % 4294967296 = (m2 : Int) := by omega
  have r3 : ((m2 : Int) + (p3 : Int)) % 4294967296 = (u : Int) := by omega
  have z1 : (1 : Nat) < bs.length := by omega
  clear h h4 hu hu2 hp1 hp2 hp3 hm1 hm2 l0 l1 l2 l3 hl z1
  go_enter Tryz.func57, Tryz.ntmps57
  go_wp2_with fail
  go_quiet (fail)
  go_wp2_with fail
  go_ret
  exact ⟨by rw [r3]; rfl, _, rfl⟩
end Go.Proofs.YtfpomllhkbbipaaGreat
namespace Go.Proofs.YtfpomllhkbbipaaGreat
open Go Go.RowKit Go.Maps Go.Lib Mem Pk

/-- bytes and a code -/
def FrPost (res : List UInt8 × Int) (w : World) (e : Ending) (w' : World) : Prop :=
  ∃ A c, e = .returned (.tuple #[.slice A res.1.length c, .int .i64 res.2]) ∧ Own fB w.heap.size 5 w' (.slice A res.1.length c) res.1 ∧ Below w.heap.size w w'
def frameR (p : List UInt8) : List UInt8 × Int := if p.length ≤ 4096 then (frameB p, 0) else ([], 2)
set_option maxRecDepth 100000 in
theorem Frame_any {w : World} {A : Option Addr} {c : Nat} {p : List UInt8} (h : Sl fB w A p) :
    Calls Tryz.prog 30 #[.slice A p.length c] w (FrPost (frameR p) w) := by
  have hl := h.len
  unfold frameR
  by_cases h4 : p.length ≤ 4096
  · rw [if_pos h4]
    have t1 : ¬ (4096 : Int) < (p.length : Int) := by omega
    have H := Lib.hid h; clear h
    have e1 : IntKind.u32.wrap (p.length : Int) = (p.length : Int) := by rw [IntKind.wrap_u32]; omega
    have HW1 := Lib.hid (word_any (w := w) p.length (show p.length < 4294967296 by omega))
    have H4 := Lib.hid h4; clear h4
    go_enter Tryz.func30, Tryz.ntmps30
    go_wp2_with fail
    (with_reducible refine HW1.out.mono ?_); rintro e w1 ⟨v1, rfl, ho1, hb1⟩
    have HS1 := Lib.hid (Sum_any (c := c) (H.out.below hb1))
    have HO1 := Lib.hid ho1
    have HB1 := Lib.hid hb1
    clear ho1 hb1 e1 HW1
    go_wp2_with fail
    (with_reducible refine HS1.out.mono ?_); rintro e w2 ⟨rfl, rfl⟩
    have HW2 := Lib.hid (word_any (w := w1) (sumN p) (sumN_lt p))
    clear HS1
    go_wp2_with fail
    (with_reducible refine HW2.out.mono ?_); rintro e w3 ⟨v3, rfl, ho3, hb3⟩
    have HO3 := Lib.hid (HO1.out.below hb3)
    have HB3 : Hid (Below w.heap.size w w3) := HB1.out.trans (hb3.mono HB1.out.size)
    obtain ⟨A3, c3, rfl⟩ := ho3.form
    have HS3 := Lib.hid ho3.sl.2
    clear ho3 hb3 HO1 HB1 HW2
    have HB1w : Hid (w.heap.size ≤ w3.heap.size) := Lib.hid HB3.out.size
    have h63 : Hid ((wordB p.length).length + (wordB (sumN p)).length ≤ maxLen) := Lib.hid (by rw [wordB_len, wordB_len]; decide)
    have hby : Hid (((wordB p.length).length + (wordB (sumN p)).length) * 1 ≤ 140737488355328) := Lib.hid (by rw [wordB_len, wordB_len]; decide)
    go_upto_region 4 with (at_builtin; refine wpList_appendX (f := fB) rfl (.tmp 11) (.tmp 14) 49 rfl u8T rfl HO3.out rfl HS3.out fB_oneJ h63.out hby.out HB1w.out ?_; intro v4 w4 ho4 hb4)
    obtain ⟨hd, hhd⟩ : ∃ x, x = wordB p.length ++ wordB (sumN p) := ⟨_, rfl⟩
    rw [← hhd] at ho4
    obtain ⟨A4, c4, rfl⟩ := ho4.form
    have HHD := Lib.hid hhd
    have hhl : hd.length = 8 := by rw [hhd, List.length_append, wordB_len, wordB_len]
    have HO4 := Lib.hid ho4
    have HB4 : Hid (Below w.heap.size w w4) := HB3.out.trans hb4
    have h63' : Hid (hd.length + p.length ≤ maxLen) := Lib.hid (by rw [hhl]; have := H4.out; unfold maxLen; omega)
    have hby' : Hid ((hd.length + p.length) * 1 ≤ 140737488355328) := Lib.hid (by rw [hhl]; have := H4.out; omega)
    have HP4 := Lib.hid (H.out.below HB4.out)
    clear hhd hhl ho4 hb4 h63 hby HO3 HS3 HB1w
    go_wp2_with (at_builtin; refine wpList_appendX (f := fB) rfl (.tmp 16) (.tmp 17) 49 rfl u8T rfl HO4.out rfl HP4.out fB_oneJ h63'.out hby'.out HB4.out.size ?_; intro v5 w5 ho5 hb5)
    obtain ⟨fr, hfr⟩ : ∃ x, x = frameB p := ⟨_, rfl⟩
    have he : hd ++ p = fr := by rw [hfr, HHD.out]; rfl
    rw [he] at ho5
    obtain ⟨A5, c5, rfl⟩ := ho5.form
    rw [← hfr]
    refine bodyPost_ret (v := .tuple #[.slice A5 fr.length c5, .int .i64 0]) (by simp [results, Tryz.results30, go_sem]) rfl ?_
    exact ⟨A5, c5, rfl, ho5, HB4.out.trans hb5⟩
  · rw [if_neg h4]
    have t1 : (4096 : Int) < (p.length : Int) := by omega
    clear h4 h
    go_enter Tryz.func30, Tryz.ntmps30
    go_wp2_with fail
    refine bodyPost_ret (v := .tuple #[.slice none 0 0, .int .i64 2]) (by simp [results, Tryz.results30, go_sem]) rfl ?_
    exact ⟨none, 0, rfl, Own.nil, Below.refl _ _⟩
theorem apart_base {base : Nat} {w w' : World} {va vb : Value} {xs ys : List UInt8} (h : Own fB base 5 w va xs) (h' : Own fB w.heap.size 5 w' vb ys) : Apart va vb := by
  intro k h1 h2
  have := (h.lt k h1).2
  have := (h'.lt k h2).1
  omega
set_option maxRecDepth 100000 in
theorem RFrame_any {w : World} {A : Option Addr} {c : Nat} {p : List UInt8} (h : Sl fB w A p) :
    Calls Tryz.prog 65 #[.slice A p.length c] w (FrPost (frameR p) w) := by
  have hl := h.len
  unfold frameR
  by_cases h4 : p.length ≤ 4096
  · rw [if_pos h4]
    have t1 : ¬ (4096 : Int) < (p.length : Int) := by omega
    have H := Lib.hid h; clear h
    have e1 : IntKind.u32.wrap (p.length : Int) = (p.length : Int) := by rw [IntKind.wrap_u32]; omega
    have HW1 := Lib.hid (Rword_any (w := w) p.length (show p.length < 4294967296 by omega))
    have H4 := Lib.hid h4; clear h4
    go_enter Tryz.func65, Tryz.ntmps65
    go_wp2_with fail
    (with_reducible refine HW1.out.mono ?_); rintro e w1 ⟨v1, rfl, ho1, hb1⟩
    have HS1 := Lib.hid (RSum_any (c := c) (H.out.below hb1))
    have HO1 := Lib.hid ho1
    have HB1 := Lib.hid hb1
    clear ho1 hb1 e1 HW1
    go_wp2_with fail
    (with_reducible refine HS1.out.mono ?_); rintro e w2 ⟨rfl, rfl⟩
    have HW2 := Lib.hid (Rword_any (w := w1) (sumN p) (sumN_lt p))
    clear HS1
    go_wp2_with fail
    (with_reducible refine HW2.out.mono ?_); rintro e w3 ⟨v3, rfl, ho3, hb3⟩
    have hj := Join_any (HO1.out.below hb3) ho3 (apart_base HO1.out ho3) (Nat.le_trans HB1.out.size hb3.size) (by rw [wordB_len, wordB_len]; decide)
    have HB3 : Hid (Below w.heap.size w w3) := HB1.out.trans (hb3.mono HB1.out.size)
    obtain ⟨hd, hhd⟩ : ∃ x, x = wordB p.length ++ wordB (sumN p) := ⟨_, rfl⟩
    rw [← hhd] at hj
    have hhl : hd.length = 8 := by rw [hhd, List.length_append, wordB_len, wordB_len]
    have HHD := Lib.hid hhd
    have HJ := Lib.hid hj
    clear ho3 hb3 HO1 HB1 HW2 hj hhd
    go_wp2_with fail
    (with_reducible refine HJ.out.mono ?_); rintro e w4 ⟨v4, rfl, ho4, hb4⟩
    have HB4 : Hid (Below w.heap.size w w4) := HB3.out.trans hb4
    have HJ2 := Lib.hid (Join_sl (c := c) ho4 H.out HB4.out (Nat.le_refl _) HB4.out.size (by rw [hhl]; have := H4.out; omega))
    clear ho4 hb4 HJ HB3 hhl
    go_wp2_with fail
    (with_reducible refine HJ2.out.mono ?_); rintro e w5 ⟨v5, rfl, ho5, hb5⟩
    obtain ⟨fr, hfr⟩ : ∃ x, x = frameB p := ⟨_, rfl⟩
    have he : hd ++ p = fr := by rw [hfr, HHD.out]; rfl
    rw [he] at ho5
    obtain ⟨A5, c5, rfl⟩ := ho5.form
    have HFR := Lib.hid hfr; clear hfr
    clear HJ2 he
    have HO5 := Lib.hid ho5; clear ho5
    have HB5 : Hid (Below w.heap.size w w5) := HB4.out.trans hb5
    clear hb5
    go_wp2_with fail
    rw [← HFR.out]
    refine bodyPost_ret (v := .tuple #[.slice A5 fr.length c5, .int .i64 0]) (by simp [results, Tryz.results65, go_sem]) rfl ?_
    exact ⟨A5, c5, rfl, HO5.out, HB5.out⟩
  · rw [if_neg h4]
    have t1 : (4096 : Int) < (p.length : Int) := by omega
    clear h4 h
    go_enter Tryz.func65, Tryz.ntmps65
    go_wp2_with fail
    refine bodyPost_ret (v := .tuple #[.slice none 0 0, .int .i64 2]) (by simp [results, Tryz.results65, go_sem]) rfl ?_
    exact ⟨none, 0, rfl, Own.nil, Below.refl _ _⟩
end Go.Proofs.YtfpomllhkbbipaaGreat
namespace Go.Proofs.YtfpomllhkbbipaaGreat
open Go Go.RowKit Go.Maps Go.Lib Mem Pk

theorem cut_lhk {P : Program} {t e : TypeId} (hu : P.underlying t = some (.slice e)) (hs : ∀ w, (sizeOf e).run P w = .ok 1 w) (kl kh : IntKind) (A : Option Addr) (len cap l h : Nat) (h1 : l ≤ h) (h2 : h ≤ cap) (w : World) :
    (Instr.slice t (.slice A len cap) (some (.int kl (l : Int))) (some (.int kh (h : Int))) none).run P w = .ok (.slice (partA A cap l) (h - l) (cap - l)) w := by
  have he : P.elem t = e := by simp [Program.elem, hu]
  have hu' : P.underlying t = some (.slice (P.elem t)) := by rw [he]; exact hu
  rw [run_slice_lh w t A len cap hu' kl kh l h (by omega) (by omega) (by omega), he, hs]
  show Result.ok (sliced A (l : Int).toNat (h : Int).toNat cap 1) w = _
  simp [sliced, partA]
theorem cut_h {P : Program} {t e : TypeId} (hu : P.underlying t = some (.slice e)) (hs : ∀ w, (sizeOf e).run P w = .ok 1 w) (kh : IntKind) (A : Option Addr) (len cap h : Nat) (h2 : h ≤ cap) (w : World) :
    (Instr.slice t (.slice A len cap) none (some (.int kh (h : Int))) none).run P w = .ok (.slice (partA A cap 0) h cap) w := by
  have he : P.elem t = e := by simp [Program.elem, hu]
  have hu' : P.underlying t = some (.slice (P.elem t)) := by rw [he]; exact hu
  rw [run_slice_h w t A len cap hu' kh h (by omega) (by omega), he, hs]
  show Result.ok (sliced A 0 (h : Int).toNat cap 1) w = _
  simp [sliced, partA]
/-- a payload, how many bytes it has, a code -/
def UfPost (res : List UInt8 × Nat × Int) (w : World) (e : Ending) (w' : World) : Prop :=
  ∃ A c, e = .returned (.tuple #[.slice A res.1.length c, .int .i64 (res.2.1 : Int), .int .i64 res.2.2]) ∧ Own fB w.heap.size 5 w' (.slice A res.1.length c) res.1 ∧ Below w.heap.size w w'
theorem UfPost.no {w w' : World} {k : Int} (h : Below w.heap.size w w') : UfPost ([], 0, k) w (.returned (.tuple #[.slice none 0 0, .int .i64 0, .int .i64 k])) w' := ⟨none, 0, rfl, Own.nil, h⟩
def ClPost (xs : List UInt8) (w : World) (e : Ending) (w' : World) : Prop := ∃ A c, e = .returned (.slice A xs.length c) ∧ Own fB w.heap.size 5 w' (.slice A xs.length c) xs ∧ Below w.heap.size w w'
theorem CloneB_any (A : Option Addr) (c : Nat) (xs : List UInt8) (hl : xs.length ≤ 140737488355328) (w : World) (hs : Sl fB w A xs) :
    Calls Tryz.prog 40 #[.slice A xs.length c] w (ClPost xs w) := by
  have hnil := fun (w : World) (a : Option Addr) (n c : Nat) => Lib.run_eql_slice_nil (P := Tryz.prog) w 49 5 a n c 0 0 Tryz.underlying49
  have hl1 : xs.length ≤ maxLen := by unfold maxLen; omega
  have hl2 : xs.length * 1 ≤ 140737488355328 := by omega
  have HL1 := Lib.hid hl1; clear hl1
  have HL2 := Lib.hid hl2; clear hl2
  cases A with
  | none =>
    obtain rfl : xs = [] := by
      cases xs with
      | nil => rfl
      | cons x r => obtain ⟨b, o, e, _⟩ := hs.2 (by simp); cases e
    go_enter Tryz.func40, Tryz.ntmps40
    go_wp2_with fail
    go_ret
    exact ⟨none, 0, rfl, Own.nil, Below.refl _ _⟩
  | some ad =>
    go_enter Tryz.func40, Tryz.ntmps40
    go_wp2_with (at_builtin; refine wpList_appendN (f := fB) rfl (.tmp 5) (.tmp 6) 49 rfl u8T rfl (Own.mk_ (Nat.le_refl _)) rfl (hs.below ((Below.refl _ _).alloc (Nat.le_refl _) _)) fB_oneJ (by rw [List.length_nil, Nat.zero_add]; exact HL1.out) (by rw [List.length_nil, Nat.zero_add]; exact HL2.out) (by simp) ?_; intro v1 w1 hown1 hb1; obtain ⟨A', c', rfl⟩ := hown1.form)
    go_ret
    rw [List.nil_append] at hown1
    exact ⟨A', c', rfl, hown1, ((Below.refl _ _).alloc (Nat.le_refl _) _).trans hb1⟩
theorem Sum_q {w : World} {A : Option Addr} {c n : Nat} {bs : List UInt8} (h : Sl fB w A bs) : Calls Tryz.prog 64 #[.slice A bs.length c] (w.drewN n) fun e w'' => e = .returned (.int .u32 (sumN bs : Int)) ∧ ∃ m, w'' = w.drewN m :=
  quiet_mine (Sum_any (c := c) (h.drewN n))
theorem unword_q {w : World} {A : Option Addr} {c n : Nat} {bs : List UInt8} (h : Sl fB w A bs) (h4 : 4 ≤ bs.length) : Calls Tryz.prog 75 #[.slice A bs.length c] (w.drewN n) fun e w'' => e = .returned (.int .u32 (unwordN bs : Int)) ∧ ∃ m, w'' = w.drewN m :=
  Calls.quiet_of (unword_any (c := c) (h.drewN n) h4)
set_option maxRecDepth 100000 in
set_option maxHeartbeats 1000000 in
theorem Unframe_any {w : World} {A : Option Addr} {c : Nat} {bs : List UInt8} (h : Sl fB w A bs) (hc : bs.length ≤ c) (hm : c ≤ maxLen) :
    Calls Tryz.prog 51 #[.slice A bs.length c] w (UfPost (unframe bs) w) := by
  have hl := h.len
  obtain ⟨u, hu⟩ : ∃ u, u = unwordN bs := ⟨_, rfl⟩
  unfold unframe
  rw [← hu]
  by_cases h8 : bs.length < 8
  · rw [if_pos h8]
    have t1 : (bs.length : Int) < 8 := by omega
    clear h hc hm hu h8
    go_enter Tryz.func51, Tryz.ntmps51
    go_wp2_with fail
    refine bodyPost_ret (v := .tuple #[.slice none 0 0, .int .i64 0, .int .i64 31]) (by simp [results, Tryz.results51, go_sem]) rfl ?_
    exact UfPost.no (Below.refl _ _)
  · rw [if_neg h8]
    have t1 : ¬ (bs.length : Int) < 8 := by omega
    have HUW := Lib.hid (unword_any (c := c) h (by omega))
    rw [← hu] at HUW
    have H := Lib.hid h; clear h
    have HU := Lib.hid hu; clear hu
    have H8 := Lib.hid h8; clear h8
    have HC := Lib.hid hc; clear hc
    have HM := Lib.hid hm; clear hm
    have HU32 : Hid (u < 4294967296) := Lib.hid (by rw [HU.out]; exact unwordN_lt bs)
    by_cases h2 : 4096 < u
    · rw [if_pos h2]
      have t2 : (4096 : Int) < (u : Int) := by omega
      clear h2
      go_enter Tryz.func51, Tryz.ntmps51
      go_wp2_with fail
      (with_reducible refine HUW.out.mono ?_); rintro e w2 ⟨rfl, m, rfl⟩
      go_wp2_with fail
      refine bodyPost_ret (v := .tuple #[.slice none 0 0, .int .i64 0, .int .i64 2]) (by simp [results, Tryz.results51, go_sem]) rfl ?_
      exact UfPost.no (below_drewN (Below.refl _ _) _)
    · rw [if_neg h2]
      have t2 : ¬ (4096 : Int) < (u : Int) := by omega
      obtain ⟨v, hv⟩ : ∃ v, v = 8 + u := ⟨_, rfl⟩
      have e1 : IntKind.i64.wrap (u : Int) = (u : Int) := by rw [IntKind.wrap_i64]; omega
      have e2 : IntKind.i64.wrap (8 + (u : Int)) = (v : Int) := by rw [IntKind.wrap_i64]; omega
      have e2b : 8 + (u : Int) = (v : Int) := by omega
      have e3 : IntKind.u32.wrap (v : Int) = (v : Int) := by rw [IntKind.wrap_u32]; omega
      have e3b : (v : Int) % 4294967296 = (v : Int) := by omega
      have hu4 : u ≤ 4096 := by omega
      by_cases h3 : bs.length < 8 + u
      · rw [if_pos h3]
        have t3 : (bs.length : Int) < (v : Int) := by omega
        clear h2 h3 hv hu4
        go_enter Tryz.func51, Tryz.ntmps51
        go_wp2_with fail
        (with_reducible refine HUW.out.mono ?_); rintro e w2 ⟨rfl, m, rfl⟩
        go_wp2_with fail
        refine bodyPost_ret (v := .tuple #[.slice none 0 0, .int .i64 0, .int .i64 31]) (by simp [results, Tryz.results51, go_sem]) rfl ?_
        exact UfPost.no (below_drewN (Below.refl _ _) _)
      · rw [if_neg h3]
        have t3 : ¬ (bs.length : Int) < (v : Int) := by omega
        have hcl := HC.out
        obtain ⟨p, hp⟩ : ∃ p, p = (bs.drop 8).take u := ⟨_, rfl⟩
        have hpl : p.length = u := by rw [hp, List.length_take, List.length_drop]; omega
        obtain ⟨P8, hP8⟩ : ∃ x, x = partA A c 8 := ⟨_, rfl⟩
        obtain ⟨c8, hc8⟩ : ∃ x, x = c - 8 := ⟨_, rfl⟩
        obtain ⟨P4, hP4⟩ : ∃ x, x = partA A c 4 := ⟨_, rfl⟩
        obtain ⟨c4, hc4⟩ : ∃ x, x = c - 4 := ⟨_, rfl⟩
        obtain ⟨q, hq⟩ : ∃ q, q = bs.drop 4 := ⟨_, rfl⟩
        have hql : q.length = bs.length - 4 := by rw [hq, List.length_drop]
        have k8 : ∀ W : World, (Instr.slice 49 (.slice A bs.length c) (some (.int .i64 8)) (some (.int .u32 (v : Int))) none).run Tryz.prog W = .ok (.slice P8 p.length c8) W := fun W => by
          have h := cut_lhk Tryz.underlying49 sizeU8 .i64 .u32 A bs.length c 8 v (by omega) (by omega) W
          rw [← hP8, ← hc8, show v - 8 = p.length by omega] at h; exact h
        have k4 : ∀ W : World, (Instr.slice 49 (.slice A bs.length c) (some (.int .i64 4)) none none).run Tryz.prog W = .ok (.slice P4 q.length c4) W := fun W => by
          have h := cutB A bs.length c 4 (by omega) W
          rw [← hP4, ← hc4, ← hql] at h; exact h
        have hsp : Sl fB w P8 p := by rw [hp, hP8]; exact H.out.part (by omega) hcl
        have hsq : Sl fB w P4 q := by
          have h := H.out.part (c := c) (k := 4) (m := bs.length - 4) (by omega) hcl
          rw [List.take_of_length_le (by rw [List.length_drop]; omega), ← hq] at h
          rw [hP4]; exact h
        have HSP := Lib.hid hsp
        have HSQ := Lib.hid hsq
        have HQL : Hid (4 ≤ q.length) := Lib.hid (by have := H8.out; omega)
        have HPL := Lib.hid hpl
        rw [← hp, ← hq]
        obtain ⟨s1, hs1⟩ : ∃ s, s = sumN p := ⟨_, rfl⟩
        obtain ⟨s2, hs2⟩ : ∃ s, s = unwordN q := ⟨_, rfl⟩
        rw [← hs1, ← hs2]
        obtain ⟨res, hres⟩ : ∃ r, r = (if s1 = s2 then (p, 8 + u, (0 : Int)) else ([], 0, 32)) := ⟨_, rfl⟩
        rw [← hres]
        have HRES := Lib.hid hres; clear hres
        have HQ1 : Hid (∀ (W : World) (B : Option Addr) (d n : Nat), Sl fB W B p → Calls Tryz.prog 64 #[.slice B p.length d] (W.drewN n) fun e w'' => e = .returned (.int .u32 (s1 : Int)) ∧ ∃ m, w'' = W.drewN m) := Lib.hid fun W B d n h => by rw [hs1]; exact Sum_q h
        have HQ2 : Hid (∀ (W : World) (n : Nat), Sl fB W P4 q → Calls Tryz.prog 75 #[.slice P4 q.length c4] (W.drewN n) fun e w'' => e = .returned (.int .u32 (s2 : Int)) ∧ ∃ m, w'' = W.drewN m) := Lib.hid fun W n h => by rw [hs2]; exact unword_q h HQL.out
        have HV := Lib.hid hv
        clear h2 h3 hv hcl hp hpl hP8 hc8 hP4 hc4 hq hql hsp hsq hs1 hs2
        go_enter Tryz.func51, Tryz.ntmps51
        go_wp2_with fail
        (with_reducible refine HUW.out.mono ?_); rintro e w2 ⟨rfl, m, rfl⟩
        have HCL := Lib.hid (CloneB_any P8 c8 p (by rw [HPL.out]; omega) (w.drewN m) (HSP.out.drewN m))
        go_wp2_with fail
        (with_reducible refine HCL.out.mono ?_); rintro e w3 ⟨A3, c3, rfl, ho3, hb3⟩
        have HB3 : Hid (Below w.heap.size w w3) := Lib.hid ((below_drewN (Below.refl _ _) m).trans hb3)
        have HO3 : Hid (Own fB w.heap.size 5 w3 (.slice A3 p.length c3) p) := Lib.hid ho3
        have hs3 := HO3.out.sl.2
        have hq3 := HSQ.out.below HB3.out
        clear ho3 hb3 HCL
        by_cases h5 : s1 = s2
        · have H5 := Lib.hid h5
          have t5 : ((s1 : Int) == (s2 : Int)) = true := by rw [beq_iff_eq]; omega
          clear h5
          go_wp2_with fail
          go_quiet (first | (go_at_call 64; exact HQ1.out _ _ _ _ hs3) | (go_at_call 75; exact HQ2.out _ _ hq3))
          go_wp2_with fail
          refine bodyPost_ret (v := .tuple #[.slice A3 p.length c3, .int .i64 (v : Int), .int .i64 0]) (by simp [results, Tryz.results51, go_sem]) rfl ?_
          rw [HRES.out, if_pos H5.out]
          exact ⟨A3, c3, by rw [HV.out], HO3.out, below_drewN HB3.out _⟩
        · have H5 := Lib.hid h5
          have t5 : ((s1 : Int) == (s2 : Int)) = false := by rw [beq_eq_false_iff_ne]; omega
          clear h5
          go_wp2_with fail
          go_quiet (first | (go_at_call 64; exact HQ1.out _ _ _ _ hs3) | (go_at_call 75; exact HQ2.out _ _ hq3))
          go_wp2_with fail
          refine bodyPost_ret (v := .tuple #[.slice none 0 0, .int .i64 0, .int .i64 32]) (by simp [results, Tryz.results51, go_sem]) rfl ?_
          rw [HRES.out, if_neg H5.out]
          exact UfPost.no (below_drewN HB3.out _)
end Go.Proofs.YtfpomllhkbbipaaGreat
