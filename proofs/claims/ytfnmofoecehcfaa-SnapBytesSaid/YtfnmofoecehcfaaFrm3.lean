/- Layer 3: frames: both sides. -/
import Derived.Test.YtfnmofoecehcfaaFrm2
import Derived.Test.YtfnmofoecehcfaaRj
import Derived.Test.YtfnmofoecehcfaaJs
import Derived.Test.YtfnmofoecehcfaaApX
import Derived.Test.YtfnmofoecehcfaaCut
namespace Go.Proofs.Ytfnmofoecehcfaa
open Go Go.RowKit Go.Maps Go.Lib Mem Pk

/-- bytes and a code -/
def FrPost (res : List UInt8 × Int) (w : World) (e : Ending) (w' : World) : Prop :=
  ∃ A c, e = .returned (.tuple #[.slice A res.1.length c, .int .i64 res.2]) ∧ Own fB w.heap.size 5 w' (.slice A res.1.length c) res.1 ∧ Below w.heap.size w w'
def frameR (p : List UInt8) : List UInt8 × Int := if p.length ≤ 4096 then (frameB p, 0) else ([], 2)
set_option maxRecDepth 100000 in
theorem Frame_any {w : World} {A : Option Addr} {c : Nat} {p : List UInt8} (h : Sl fB w A p) :
    Calls Try.prog 16 #[.slice A p.length c] w (FrPost (frameR p) w) := by
  have hl := h.len
  unfold frameR
  by_cases h4 : p.length ≤ 4096
  · rw [if_pos h4]
    have t1 : ¬ (4096 : Int) < (p.length : Int) := by omega
    have H := Lib.hid h; clear h
    have e1 : IntKind.u32.wrap (p.length : Int) = (p.length : Int) := by rw [IntKind.wrap_u32]; omega
    have HW1 := Lib.hid (word_any (w := w) p.length (show p.length < 4294967296 by omega))
    have H4 := Lib.hid h4; clear h4
    go_enter Try.func16, Try.ntmps16
    go_wp2_with fail
    (with_reducible refine HW1.out.mono ?_); rintro e w1 ⟨v1, rfl, ho1, hb1⟩
    have HS1 := Lib.hid (Sum_any (c := c) (H.out.below hb1))
    have HO1 := Lib.hid ho1
    have HB1 := Lib.hid hb1
    clear ho1 hb1 e1 HW1
    go_wp2_with fail
    (with_reducible refine HS1.out.mono ?_); rintro e w2 ⟨rfl, rfl⟩
    have HW2 := Lib.hid (word_any (w := w1) (sumN p) (sumN_lt p))
    clear HS1
    go_wp2_with fail
    (with_reducible refine HW2.out.mono ?_); rintro e w3 ⟨v3, rfl, ho3, hb3⟩
    have HO3 := Lib.hid (HO1.out.below hb3)
    have HB3 : Hid (Below w.heap.size w w3) := HB1.out.trans (hb3.mono HB1.out.size)
    obtain ⟨A3, c3, rfl⟩ := ho3.form
    have HS3 := Lib.hid ho3.sl.2
    clear ho3 hb3 HO1 HB1 HW2
    have HB1w : Hid (w.heap.size ≤ w3.heap.size) := Lib.hid HB3.out.size
    have h63 : Hid ((wordB p.length).length + (wordB (sumN p)).length ≤ maxLen) := Lib.hid (by rw [wordB_len, wordB_len]; decide)
    have hby : Hid (((wordB p.length).length + (wordB (sumN p)).length) * 1 ≤ 140737488355328) := Lib.hid (by rw [wordB_len, wordB_len]; decide)
    go_upto_region 4 with (at_builtin; refine wpList_appendX (f := fB) rfl (.tmp 11) (.tmp 14) 25 rfl u8T rfl HO3.out rfl HS3.out fB_oneJ h63.out hby.out HB1w.out ?_; intro v4 w4 ho4 hb4)
    obtain ⟨hd, hhd⟩ : ∃ x, x = wordB p.length ++ wordB (sumN p) := ⟨_, rfl⟩
    rw [← hhd] at ho4
    obtain ⟨A4, c4, rfl⟩ := ho4.form
    have HHD := Lib.hid hhd
    have hhl : hd.length = 8 := by rw [hhd, List.length_append, wordB_len, wordB_len]
    have HO4 := Lib.hid ho4
    have HB4 : Hid (Below w.heap.size w w4) := HB3.out.trans hb4
    have h63' : Hid (hd.length + p.length ≤ maxLen) := Lib.hid (by rw [hhl]; have := H4.out; unfold maxLen; omega)
    have hby' : Hid ((hd.length + p.length) * 1 ≤ 140737488355328) := Lib.hid (by rw [hhl]; have := H4.out; omega)
    have HP4 := Lib.hid (H.out.below HB4.out)
    clear hhd hhl ho4 hb4 h63 hby HO3 HS3 HB1w
    go_wp2_with (at_builtin; refine wpList_appendX (f := fB) rfl (.tmp 16) (.tmp 17) 25 rfl u8T rfl HO4.out rfl HP4.out fB_oneJ h63'.out hby'.out HB4.out.size ?_; intro v5 w5 ho5 hb5)
    obtain ⟨fr, hfr⟩ : ∃ x, x = frameB p := ⟨_, rfl⟩
    have he : hd ++ p = fr := by rw [hfr, HHD.out]; rfl
    rw [he] at ho5
    obtain ⟨A5, c5, rfl⟩ := ho5.form
    rw [← hfr]
    refine bodyPost_ret (v := .tuple #[.slice A5 fr.length c5, .int .i64 0]) (by simp [results, Try.results16, go_sem]) rfl ?_
    exact ⟨A5, c5, rfl, ho5, HB4.out.trans hb5⟩
  · rw [if_neg h4]
    have t1 : (4096 : Int) < (p.length : Int) := by omega
    clear h4 h
    go_enter Try.func16, Try.ntmps16
    go_wp2_with fail
    refine bodyPost_ret (v := .tuple #[.slice none 0 0, .int .i64 2]) (by simp [results, Try.results16, go_sem]) rfl ?_
    exact ⟨none, 0, rfl, Own.nil, Below.refl _ _⟩
theorem apart_base {base : Nat} {w w' : World} {va vb : Value} {xs ys : List UInt8} (h : Own fB base 5 w va xs) (h' : Own fB w.heap.size 5 w' vb ys) : Apart va vb := by
  intro k h1 h2
  have := (h.lt k h1).2
  have := (h'.lt k h2).1
  omega
set_option maxRecDepth 100000 in
theorem RFrame_any {w : World} {A : Option Addr} {c : Nat} {p : List UInt8} (h : Sl fB w A p) :
    Calls Try.prog 27 #[.slice A p.length c] w (FrPost (frameR p) w) := by
  have hl := h.len
  unfold frameR
  by_cases h4 : p.length ≤ 4096
  · rw [if_pos h4]
    have t1 : ¬ (4096 : Int) < (p.length : Int) := by omega
    have H := Lib.hid h; clear h
    have e1 : IntKind.u32.wrap (p.length : Int) = (p.length : Int) := by rw [IntKind.wrap_u32]; omega
    have HW1 := Lib.hid (Rword_any (w := w) p.length (show p.length < 4294967296 by omega))
    have H4 := Lib.hid h4; clear h4
    go_enter Try.func27, Try.ntmps27
    go_wp2_with fail
    (with_reducible refine HW1.out.mono ?_); rintro e w1 ⟨v1, rfl, ho1, hb1⟩
    have HS1 := Lib.hid (RSum_any (c := c) (H.out.below hb1))
    have HO1 := Lib.hid ho1
    have HB1 := Lib.hid hb1
    clear ho1 hb1 e1 HW1
    go_wp2_with fail
    (with_reducible refine HS1.out.mono ?_); rintro e w2 ⟨rfl, rfl⟩
    have HW2 := Lib.hid (Rword_any (w := w1) (sumN p) (sumN_lt p))
    clear HS1
    go_wp2_with fail
    (with_reducible refine HW2.out.mono ?_); rintro e w3 ⟨v3, rfl, ho3, hb3⟩
    have hj := Join_any (HO1.out.below hb3) ho3 (apart_base HO1.out ho3) (Nat.le_trans HB1.out.size hb3.size) (by rw [wordB_len, wordB_len]; decide)
    have HB3 : Hid (Below w.heap.size w w3) := HB1.out.trans (hb3.mono HB1.out.size)
    obtain ⟨hd, hhd⟩ : ∃ x, x = wordB p.length ++ wordB (sumN p) := ⟨_, rfl⟩
    rw [← hhd] at hj
    have hhl : hd.length = 8 := by rw [hhd, List.length_append, wordB_len, wordB_len]
    have HHD := Lib.hid hhd
    have HJ := Lib.hid hj
    clear ho3 hb3 HO1 HB1 HW2 hj hhd
    go_wp2_with fail
    (with_reducible refine HJ.out.mono ?_); rintro e w4 ⟨v4, rfl, ho4, hb4⟩
    have HB4 : Hid (Below w.heap.size w w4) := HB3.out.trans hb4
    have HJ2 := Lib.hid (Join_sl (c := c) ho4 H.out HB4.out (Nat.le_refl _) HB4.out.size (by rw [hhl]; have := H4.out; omega))
    clear ho4 hb4 HJ HB3 hhl
    go_wp2_with fail
    (with_reducible refine HJ2.out.mono ?_); rintro e w5 ⟨v5, rfl, ho5, hb5⟩
    obtain ⟨fr, hfr⟩ : ∃ x, x = frameB p := ⟨_, rfl⟩
    have he : hd ++ p = fr := by rw [hfr, HHD.out]; rfl
    rw [he] at ho5
    obtain ⟨A5, c5, rfl⟩ := ho5.form
    have HFR := Lib.hid hfr; clear hfr
    clear HJ2 he
    have HO5 := Lib.hid ho5; clear ho5
    have HB5 : Hid (Below w.heap.size w w5) := HB4.out.trans hb5
    clear hb5
    go_wp2_with fail
    rw [← HFR.out]
    refine bodyPost_ret (v := .tuple #[.slice A5 fr.length c5, .int .i64 0]) (by simp [results, Try.results27, go_sem]) rfl ?_
    exact ⟨A5, c5, rfl, HO5.out, HB5.out⟩
  · rw [if_neg h4]
    have t1 : (4096 : Int) < (p.length : Int) := by omega
    clear h4 h
    go_enter Try.func27, Try.ntmps27
    go_wp2_with fail
    refine bodyPost_ret (v := .tuple #[.slice none 0 0, .int .i64 2]) (by simp [results, Try.results27, go_sem]) rfl ?_
    exact ⟨none, 0, rfl, Own.nil, Below.refl _ _⟩
end Go.Proofs.Ytfnmofoecehcfaa
