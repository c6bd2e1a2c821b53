/- Layer 15: the walks of Middle, of the document's Middle, of the law ConfMiddle. -/
import Derived.Test.YtilefofpfbgikaaMidL
import Derived.Test.YtilefofpfbgikaaByt
namespace Go.Proofs.Ytilefofpfbgikaa
open Go.RowKit Go.Maps Mem Mid

theorem i64T : SliceT Try.prog 25 2 (.int .i64 0) 8 := sliceT_mk Try.underlying25 rfl (by kernel_rfl)
theorem fI_one (u : Int) : (fI u).oneCell' = true := rfl
def MdRel (vs : List Int) (f : Int → Int) (w1 : World) (nv iv : Value) (wr : World) : Prop :=
  ∃ k : Nat, k ≤ vs.length ∧ iv = .int .i64 k ∧ Own fI w1.heap.size 2 wr nv ((vs.take k).map f) ∧ Below w1.heap.size w1 wr
theorem mapTake_succ {vs : List Int} {f : Int → Int} {k : Nat} (h : k < vs.length) : (vs.take (k + 1)).map f = (vs.take k).map f ++ [f vs[k]] := by
  rw [List.take_succ_eq_append_getElem h, List.map_append]; rfl
theorem mapTake_len {vs : List Int} {f : Int → Int} {k : Nat} (h : k ≤ vs.length) : ((vs.take k).map f).length = k := by rw [List.length_map, List.length_take]; omega
set_option maxHeartbeats 1000000 in
theorem Middle_any {w : World} (A : Option Addr) (c : Nat) (vs : List Int) (hs : Sl fI w A vs) (hr : vs.length * 8 ≤ 140737488355328) (L : Value) (g : Nat) (cb : Array Value) (f : Int → Int)
    (eg : ∀ args w, (callFunc g args).run Try.prog w = .ok (.enter g args) w)
    (hf : ∀ W x, Below w.heap.size w W → x ∈ vs → Calls Try.prog g (#[.int .i64 x] ++ cb) W fun e W' => e = .returned (.int .i64 (f x)) ∧ Below W.heap.size W W') :
    Calls Try.prog 16 #[.agg #[.slice A vs.length c, L], .func (.func g) #[] cb] w fun e w' => e = .returned (.int .i64 (middle (vs.map f))) ∧ Below w.heap.size w w' := by
  have hl := hs.len
  have HS := Lib.hid hs; clear hs
  have HR := Lib.hid hr; clear hr
  have HF := Lib.hid hf; clear hf
  go_enter Try.func16, Try.ntmps16
  obtain ⟨w1, hw1⟩ : ∃ x, x = w.alloc (.cells #[.slice A vs.length c, L] 24) := ⟨_, rfl⟩
  have hb1 : Below w.heap.size w w1 := by rw [hw1]; exact (Below.refl _ _).alloc (Nat.le_refl _) _
  have d0 : w1.cell? ⟨w.heap.size, 0, none⟩ = some (.slice A vs.length c) := by rw [hw1]; exact (Blk.new_ w _ _).cell 0
  go_upto_region 2 with fail
  rw [← hw1]
  have HW1 := Lib.hid hw1; clear hw1
  have HB1 := Lib.hid hb1; clear hb1
  go_wp2_with fail
  go_loopw [5, 11] (fun nv iv wr => MdRel vs f w1 nv iv wr) (fun _ iv _ => vs.length - (intOf iv).toNat)
  case atStart => exact ⟨0, Nat.zero_le _, rfl, Own.nil, Below.refl _ _⟩
  case round =>
    obtain ⟨k, hk, rfl, hown, hbw⟩ := hrel
    have HOWN := Lib.hid hown; clear hown
    have HBW := Lib.hid hbw; clear hbw
    by_cases hlt : k < vs.length
    · obtain ⟨b, o, rfl, _, hc⟩ := (HS.out.below HB1.out |>.below HBW.out).at hlt
      replace hc := hc k hlt
      obtain ⟨x, hx⟩ : ∃ x, x = vs[k] := ⟨_, rfl⟩
      have hxm : x ∈ vs := by rw [hx]; exact List.getElem_mem hlt
      have HMT : Hid ((vs.take (k + 1)).map f = (vs.take k).map f ++ [f x]) := by rw [hx]; exact mapTake_succ hlt
      rw [← hx] at hc
      unfold fI at hc
      clear hx
      have hbw0 : Below w.heap.size w wr := HB1.out.trans (HBW.out.mono HB1.out.size)
      have hcall := HF.out wr x hbw0 hxm
      have HCALL := Lib.hid hcall; clear hcall hxm hbw0
      obtain ⟨M, hM⟩ : ∃ M, M = (vs.take k).map f := ⟨_, rfl⟩
      have hMl : M.length = k := by rw [hM]; exact mapTake_len hk
      rw [← hM] at HOWN HMT
      clear hM
      have HML := Lib.hid hMl; clear hMl
      go_wp2_with fail
      (with_reducible refine HCALL.out.mono ?_); rintro e w2 ⟨rfl, hb2⟩
      have HOWN2 := Lib.hid (HOWN.out.below hb2)
      have HB2 : Hid (Below w1.heap.size w1 w2) := HBW.out.trans (hb2.mono HBW.out.size)
      clear hb2
      have hby : (M.length + 1) * 8 ≤ 140737488355328 := by have h1 := HML.out; have h2 : M.length = k := h1; have h3 := HR.out; have h4 : vs.length * 8 ≤ 140737488355328 := h3; omega
      have HBY := Lib.hid hby; clear hby
      have h63 : M.length + 1 ≤ maxLen := by have h1 := HML.out; have h2 : M.length = k := h1; unfold maxLen; omega
      have H63 := Lib.hid h63; clear h63
      go_wp2_with (at_builtin; refine wpList_append1t (f := fI) rfl (.tmp 15) (.tmp 19) 25 rfl i64T (f x) (fI_one _) rfl HOWN2.out rfl rfl H63.out HBY.out HB2.out.size ?_; intro v7 w7 hown7 hg7)
      go_roundw
      case rel => exact ⟨k + 1, hlt, by go_num, by rw [HMT.out]; exact hown7, (HB2.out.alloc HB2.out.size _).trans ((HOWN2.out.alloc _).below_ (by rw [World.size_alloc]; exact Nat.le_succ_of_le HB2.out.size) hg7)⟩
      case measure => simp [intOf]; omega
    · have hkn : k = vs.length := by omega
      have HO : Hid (Own fI w1.heap.size 2 wr u5 (vs.map f)) := by have h1 := HOWN.out; rw [hkn, List.take_length] at h1; exact h1
      clear HOWN hkn
      obtain ⟨A5, c5, rfl⟩ := HO.out.form
      have hml : (vs.map f).length = vs.length := List.length_map ..
      have HBz : Hid (Below w.heap.size w wr) := HB1.out.trans (HBW.out.mono HB1.out.size)
      by_cases h0 : vs = []
      · have h1 : vs.map f = [] := by rw [h0]; rfl
        have HM0 : Hid (middle (vs.map f) = 0) := by rw [h1]; rfl
        have hz : vs.length = 0 := by rw [h0]; rfl
        rw [hml]
        clear h0 h1 hml
        rw [hz]
        go_wp2_with fail
        go_ret
        exact ⟨by rw [HM0.out]; rfl, HBz.out⟩
      · have hpos : 0 < vs.length := List.length_pos_iff.2 h0
        have hsl := Sort64_any HO.out (by rw [hml]; have h3 := HR.out; have h4 : vs.length * 8 ≤ 140737488355328 := h3; omega)
        have HSL := Lib.hid hsl; clear hsl
        have hmd : middle (vs.map f) = (srt (vs.map f)).getD ((vs.length - 1) / 2) 0 := by
          unfold middle; rw [if_neg (by simpa using h0), hml]
        have HMD := Lib.hid hmd; clear hmd h0
        have hneq : ((vs.length : Int) == 0) = false := by rw [beq_eq_false_iff_ne]; omega
        rw [hml] at HSL ⊢
        have HML := Lib.hid hml; clear hml
        go_wp2_with fail
        (with_reducible refine HSL.out.mono ?_); rintro e w2 ⟨rfl, hown2, hg2⟩
        have hq : (vs.length - 1) / 2 < (srt (vs.map f)).length := by rw [srt_len, List.length_map]; omega
        have HBy : Hid (Below w.heap.size w w2) := HBz.out.trans ((HO.out.below_ HBW.out.size (by rw [HML.out]; exact hg2)).mono HB1.out.size)
        have hs2 := (Own.sl (n := vs.length) (A := A5) (c := c5) hown2).2
        obtain ⟨b5, o5, rfl, _, hc5⟩ := hs2.at hq
        have hq5 := hc5 _ hq
        have hgd : (srt (vs.map f)).getD ((vs.length - 1) / 2) 0 = (srt (vs.map f))[(vs.length - 1) / 2] := by rw [List.getD_eq_getElem?_getD, List.getElem?_eq_getElem hq, Option.getD_some]
        have HGD : Hid (middle (vs.map f) = (srt (vs.map f))[(vs.length - 1) / 2]) := HMD.out.trans hgd
        obtain ⟨y, hy⟩ : ∃ y, y = (srt (vs.map f))[(vs.length - 1) / 2] := ⟨_, rfl⟩
        rw [← hy] at hq5 HGD
        unfold fI at hq5
        have i1 : ((vs.length : Int) - 1) / 2 = (((vs.length - 1) / 2 : Nat) : Int) := by omega
        have i2 : ((vs.length - 1) / 2 : Nat) < vs.length := by omega
        clear hs2 hc5 hgd hy hq hown2 hg2 HSL HMD HO HML
        obtain ⟨q, hqq⟩ : ∃ q, q = (vs.length - 1) / 2 := ⟨_, rfl⟩
        rw [← hqq] at i1 i2 hq5
        clear hqq
        go_wp2_with fail
        go_ret
        exact ⟨by rw [HGD.out]; rfl, HBy.out⟩
end Go.Proofs.Ytilefofpfbgikaa
