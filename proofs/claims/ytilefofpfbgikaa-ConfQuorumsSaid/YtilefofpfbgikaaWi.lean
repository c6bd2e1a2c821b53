/- Layer 15: the document's 'with'. -/
import Derived.Test.YtilefofpfbgikaaAp2
import Derived.Test.YtilefofpfbgikaaNx
namespace Go.Proofs.Ytilefofpfbgikaa
open Go.RowKit Go.Maps Go.Lib Mem Cf

/-- is m of the list, one told apart? -/
def pick (xs : List Int) (n : Int) (b : Bool) (m : Int) : Bool := if m = n then b else hasB xs m
/-- of the numbers 1 to 7 those that are picked, up to k of them looked at -/
def upto (xs : List Int) (n : Int) (b : Bool) (k : Nat) : List Int := ((List.range k).map fun i : Nat => ((i : Int) + 1)).filter (pick xs n b)
theorem upto_yes {xs : List Int} {n : Int} {b : Bool} {k : Nat} (h : pick xs n b ((k : Int) + 1) = true) : upto xs n b (k + 1) = upto xs n b k ++ [(k : Int) + 1] := by
  unfold upto; rw [List.range_succ, List.map_append, List.filter_append]; simp [h]
theorem upto_no {xs : List Int} {n : Int} {b : Bool} {k : Nat} (h : pick xs n b ((k : Int) + 1) = false) : upto xs n b (k + 1) = upto xs n b k := by
  unfold upto; rw [List.range_succ, List.map_append, List.filter_append]; simp [h]
theorem upto_len (xs : List Int) (n : Int) (b : Bool) (k : Nat) : (upto xs n b k).length ≤ k := by
  unfold upto; exact Nat.le_trans (List.length_filter_le ..) (by simp)
/-- what the loop holds: out's two rows a, b; k numbers have been looked at in the one, k' in the other -/
structure WiInv (w : World) (g : Nat) (A : Option Addr) (c : Nat) (vs : List Int) (B : Option Addr) (d : Nat) (ls : List Int) (n : Int) (bv bl : Bool) (k k' : Nat) (a b : Value) (wr : World) : Prop where
  box : Blk wr w.heap.size 24 #[.slice A vs.length c, .slice B ls.length d]
  res : Blk wr (w.heap.size + 1) 24 #[.slice none 0 0, .slice none 0 0]
  blk : Blk wr g 24 #[a, b]
  gg : g = w.heap.size + 2
  v : Own fI w.heap.size 3 wr a (upto vs n bv k)
  l : Own fI w.heap.size 3 wr b (upto ls n bl k')
  ap : Apart a b
  bel : Below w.heap.size w wr
section
variable {w wr : World} {g : Nat} {A : Option Addr} {c : Nat} {vs : List Int} {B : Option Addr} {d : Nat} {ls : List Int} {n : Int} {bv bl : Bool} {k k' : Nat} {a b : Value}
theorem WiInv.below {wx : World} (h : WiInv w g A c vs B d ls n bv bl k k' a b wr) (hb : Below wr.heap.size wr wx) : WiInv w g A c vs B d ls n bv bl k k' a b wx :=
  ⟨h.box.below hb h.box.lt, h.res.below hb h.res.lt, h.blk.below hb h.blk.lt, h.gg, h.v.below hb, h.l.below hb, h.ap, h.bel.trans (hb.mono h.bel.size)⟩
theorem WiInv.noV (h : WiInv w g A c vs B d ls n bv bl k k' a b wr) (hp : pick vs n bv ((k : Int) + 1) = false) : WiInv w g A c vs B d ls n bv bl (k + 1) k' a b wr := { h with v := by rw [upto_no hp]; exact h.v }
theorem WiInv.noL (h : WiInv w g A c vs B d ls n bv bl k k' a b wr) (hp : pick ls n bl ((k' : Int) + 1) = false) : WiInv w g A c vs B d ls n bv bl k (k' + 1) a b wr := { h with l := by rw [upto_no hp]; exact h.l }
theorem WiInv.yesV {x : Int} {v7 : Value} {w7 : World} (h : WiInv w g A c vs B d ls n bv bl k k' a b wr) (hp : pick vs n bv ((k : Int) + 1) = true) (ho : Own fI w.heap.size 3 w7 v7 (upto vs n bv k ++ [(k : Int) + 1])) (hg : (wr.alloc (.cells #[fI x] 3)).grownBy w7 a.ownBlock) (hat : v7.ownBlock = a.ownBlock ∨ v7.ownBlock = some (wr.heap.size + 1)) :
    WiInv w g A c vs B d ls n bv bl (k + 1) k' v7 b (w7.setCell ⟨g, 0, none⟩ v7) := by
  have e1 := (h.blk.alloc (.cells #[fI x] 3)).apart (h.v.alloc _) (by decide) hg
  have e2 := (h.box.alloc (.cells #[fI x] 3)).apart (h.v.alloc _) (by decide) hg
  have e3 := (h.res.alloc (.cells #[fI x] 3)).apart (h.v.alloc _) (by decide) hg
  have e4 := (h.l.alloc (.cells #[fI x] 3)).other h.ap.symm hg
  have hgg := h.gg
  have e5 : Below w.heap.size w w7 := (h.bel.alloc h.bel.size _).trans ((h.v.alloc _).below_ (by rw [World.size_alloc]; exact Nat.le_succ_of_le h.bel.size) hg)
  exact ⟨e2.far (by show w.heap.size ≠ g; omega) _, e3.far (by show w.heap.size + 1 ≠ g; omega) _, e1.set_ 0 _, hgg, by rw [upto_yes hp]; exact ho.farB e1 (by decide) 0 _, e4.farB e1 (by decide) 0 _, h.ap.grown h.l hat, e5.setCell (p := ⟨g, 0, none⟩) (by show w.heap.size ≤ g; omega) _⟩
theorem WiInv.yesL {x : Int} {v7 : Value} {w7 : World} (h : WiInv w g A c vs B d ls n bv bl k k' a b wr) (hp : pick ls n bl ((k' : Int) + 1) = true) (ho : Own fI w.heap.size 3 w7 v7 (upto ls n bl k' ++ [(k' : Int) + 1])) (hg : (wr.alloc (.cells #[fI x] 3)).grownBy w7 b.ownBlock) (hat : v7.ownBlock = b.ownBlock ∨ v7.ownBlock = some (wr.heap.size + 1)) :
    WiInv w g A c vs B d ls n bv bl k (k' + 1) a v7 (w7.setCell ⟨g, 1, none⟩ v7) := by
  have e1 := (h.blk.alloc (.cells #[fI x] 3)).apart (h.l.alloc _) (by decide) hg
  have e2 := (h.box.alloc (.cells #[fI x] 3)).apart (h.l.alloc _) (by decide) hg
  have e3 := (h.res.alloc (.cells #[fI x] 3)).apart (h.l.alloc _) (by decide) hg
  have e4 := (h.v.alloc (.cells #[fI x] 3)).other h.ap hg
  have hgg := h.gg
  have e5 : Below w.heap.size w w7 := (h.bel.alloc h.bel.size _).trans ((h.l.alloc _).below_ (by rw [World.size_alloc]; exact Nat.le_succ_of_le h.bel.size) hg)
  exact ⟨e2.far (by show w.heap.size ≠ g; omega) _, e3.far (by show w.heap.size + 1 ≠ g; omega) _, e1.set_ 1 _, hgg, e4.farB e1 (by decide) 1 _, by rw [upto_yes hp]; exact ho.farB e1 (by decide) 1 _, (h.ap.symm.grown h.v hat).symm, e5.setCell (p := ⟨g, 1, none⟩) (by show w.heap.size ≤ g; omega) _⟩
/-- what is known of out's block behind an append -/
theorem WiInv.afterV {x : Int} {w7 : World} (h : WiInv w g A c vs B d ls n bv bl k k' a b wr) (hg : (wr.alloc (.cells #[fI x] 3)).grownBy w7 a.ownBlock) : Blk w7 g 24 #[a, b] := (h.blk.alloc (.cells #[fI x] 3)).apart (h.v.alloc _) (by decide) hg
theorem WiInv.afterL {x : Int} {w7 : World} (h : WiInv w g A c vs B d ls n bv bl k k' a b wr) (hg : (wr.alloc (.cells #[fI x] 3)).grownBy w7 b.ownBlock) : Blk w7 g 24 #[a, b] := (h.blk.alloc (.cells #[fI x] 3)).apart (h.l.alloc _) (by decide) hg
end
def WiRel (w : World) (g : Nat) (A : Option Addr) (c : Nat) (vs : List Int) (B : Option Addr) (d : Nat) (ls : List Int) (n : Int) (bv bl : Bool) (mv : Value) (wr : World) : Prop :=
  ∃ (k : Nat) (a b : Value), k ≤ 7 ∧ mv = .int .i64 ((k : Int) + 1) ∧ WiInv w g A c vs B d ls n bv bl k k a b wr
def WithPost (r1 r2 : List Int) (w : World) (e : Ending) (w' : World) : Prop :=
  ∃ A c B d, e = .returned (.agg #[.slice A r1.length c, .slice B r2.length d]) ∧ Own fI w.heap.size 3 w' (.slice A r1.length c) r1 ∧ Own fI w.heap.size 3 w' (.slice B r2.length d) r2 ∧ Below w.heap.size w w'
set_option maxRecDepth 100000 in
set_option maxHeartbeats 8000000 in
theorem with_any {w : World} {A B : Option Addr} {c d : Nat} {vs ls : List Int} (h : CI w A vs B ls) (n : Int) (bv bl : Bool) :
    Calls Try.prog 77 #[.agg #[.slice A vs.length c, .slice B ls.length d], .int .i64 n, .bool bv, .bool bl] w (WithPost (upto vs n bv 7) (upto ls n bl 7) w) := by
  have H := Lib.hid h; clear h
  go_enter Try.func77, Try.ntmps77
  go_upto_region 2 with fail
  obtain ⟨w1, hw1⟩ : ∃ x, x = ((w.alloc (.cells #[.slice A vs.length c, .slice B ls.length d] 24)).alloc (.cells #[.slice none 0 0, .slice none 0 0] 24)).alloc (.cells #[.slice none 0 0, .slice none 0 0] 24) := ⟨_, rfl⟩
  rw [← hw1]
  obtain ⟨g, hg⟩ : ∃ g, g = w.heap.size + 1 + 1 := ⟨_, rfl⟩
  rw [← hg]
  have hinv : WiInv w g A c vs B d ls n bv bl 0 0 (.slice none 0 0) (.slice none 0 0) w1 := by
    have b2 := Blk.new_ (w.alloc (.cells #[.slice A vs.length c, .slice B ls.length d] 24)) 24 #[.slice none 0 0, .slice none 0 0]
    have b3 := Blk.new_ ((w.alloc (.cells #[.slice A vs.length c, .slice B ls.length d] 24)).alloc (.cells #[.slice none 0 0, .slice none 0 0] 24)) 24 #[.slice none 0 0, .slice none 0 0]
    rw [World.size_alloc] at b2
    rw [World.size_alloc, World.size_alloc, ← hg] at b3
    rw [hw1]
    exact ⟨((Blk.new_ w _ _).alloc _).alloc _, b2.alloc _, b3, hg, Own.nil, Own.nil, fun x hx => by simp [Value.ownBlock] at hx, (((Below.refl _ _).alloc (Nat.le_refl _) _).alloc (by simp) _).alloc (by simp; omega) _⟩
  have HINV := Lib.hid hinv; clear hinv hw1
  have HG := Lib.hid hg; clear hg
  go_wp2_with fail
  go_loopw [10] (fun mv wr => WiRel w g A c vs B d ls n bv bl mv wr) (fun mv _ => 8 - (intOf mv).toNat)
  case atStart => exact ⟨0, _, _, Nat.zero_le _, rfl, HINV.out⟩
  case round =>
    obtain ⟨k, a, b, hk, rfl, hinv⟩ := hrel
    have HI := Lib.hid hinv; clear hinv
    have g0 : wr.cell? ⟨g, 0, none⟩ = some a := HI.out.blk.cell 0
    have g1 : wr.cell? ⟨g, 1, none⟩ = some b := HI.out.blk.cell 1
    by_cases hlt : k < 7
    · by_cases hmn : (k : Int) + 1 = n
      · have hpv : pick vs n bv ((k : Int) + 1) = bv := by unfold pick; rw [if_pos hmn]
        have hpl : pick ls n bl ((k : Int) + 1) = bl := by unfold pick; rw [if_pos hmn]
        have HPV := Lib.hid hpv; clear hpv
        have HPL := Lib.hid hpl; clear hpl
        have te : ((k : Int) + 1 == n) = true := by rw [beq_iff_eq]; exact hmn
        have tn : ((k : Int) + 1 != n) = false := by simp [hmn]
        clear hmn
        cases bv with
        | false =>
          cases bl with
          | false =>
            go_wp2_with fail
            go_roundw
            case rel => exact ⟨k + 1, _, _, by omega, by go_num, (HI.out.noV HPV.out).noL HPL.out⟩
            case measure => simp [intOf]; omega
          | true =>
            have HJ := Lib.hid (HI.out.noV HPV.out)
            have hu := upto_len ls n true k
            have h63 : (upto ls n true k).length + 1 ≤ maxLen := by unfold maxLen; omega
            have hby : ((upto ls n true k).length + 1) * 8 ≤ 140737488355328 := by omega
            have H63 := Lib.hid h63; clear h63
            have HBY := Lib.hid hby; clear hby hu
            have tst := fun v7 w7 ho7 hg7 hat7 => Lib.hid (HJ.out.yesL (x := (k : Int) + 1) (v7 := v7) (w7 := w7) HPL.out ho7 hg7 hat7)
            have tst2 := fun w7 hg7 => HJ.out.afterL (x := (k : Int) + 1) (w7 := w7) hg7
            have TST := Lib.hid tst; clear tst
            have TST2 := Lib.hid tst2; clear tst2
            go_wp2_with (at_builtin; refine wpList_append1at (f := fI) rfl (.tmp 56) (.tmp 58) 22 rfl intTI ((k : Int) + 1) (fI_oneI _) rfl HJ.out.l rfl rfl H63.out HBY.out HJ.out.bel.size ?_; intro v7 w7 ho7 hg7 hat7; obtain ⟨A7, e7, rfl⟩ := ho7.form; have h7b := TST2.out w7 hg7; have c7 := h7b.cell 1; have q7 := h7b.free 1; have HI7 := TST.out _ w7 ho7 hg7 hat7; rw [List.length_append, List.length_singleton] at HI7; clear ho7 hg7 hat7 h7b TST TST2)
            go_roundw
            case rel => exact ⟨k + 1, _, _, by omega, by go_num, HI7.out⟩
            case measure => simp [intOf]; omega
        | true =>
          cases bl with
          | false =>
            have hu := upto_len vs n true k
            have h63 : (upto vs n true k).length + 1 ≤ maxLen := by unfold maxLen; omega
            have hby : ((upto vs n true k).length + 1) * 8 ≤ 140737488355328 := by omega
            have H63 := Lib.hid h63; clear h63
            have HBY := Lib.hid hby; clear hby hu
            have tst := fun v7 w7 ho7 hg7 hat7 => Lib.hid (HI.out.yesV (x := (k : Int) + 1) (v7 := v7) (w7 := w7) HPV.out ho7 hg7 hat7)
            have tst2 := fun w7 hg7 => HI.out.afterV (x := (k : Int) + 1) (w7 := w7) hg7
            have TST := Lib.hid tst; clear tst
            have TST2 := Lib.hid tst2; clear tst2
            go_wp2_with (at_builtin; refine wpList_append1at (f := fI) rfl (.tmp 33) (.tmp 35) 22 rfl intTI ((k : Int) + 1) (fI_oneI _) rfl HI.out.v rfl rfl H63.out HBY.out HI.out.bel.size ?_; intro v7 w7 ho7 hg7 hat7; obtain ⟨A7, e7, rfl⟩ := ho7.form; have h7b := TST2.out w7 hg7; have c7 := h7b.cell 0; have q7 := h7b.free 0; have HI7 := TST.out _ w7 ho7 hg7 hat7; rw [List.length_append, List.length_singleton] at HI7; clear ho7 hg7 hat7 h7b TST TST2)
            go_roundw
            case rel => exact ⟨k + 1, _, _, by omega, by go_num, HI7.out.noL HPL.out⟩
            case measure => simp [intOf]; omega
          | true =>
            have hu := upto_len vs n true k
            have h63 : (upto vs n true k).length + 1 ≤ maxLen := by unfold maxLen; omega
            have hby : ((upto vs n true k).length + 1) * 8 ≤ 140737488355328 := by omega
            have H63 := Lib.hid h63; clear h63
            have HBY := Lib.hid hby; clear hby hu
            have tst := fun v7 w7 ho7 hg7 hat7 => Lib.hid (HI.out.yesV (x := (k : Int) + 1) (v7 := v7) (w7 := w7) HPV.out ho7 hg7 hat7)
            have tst2 := fun w7 hg7 => HI.out.afterV (x := (k : Int) + 1) (w7 := w7) hg7
            have TST := Lib.hid tst; clear tst
            have TST2 := Lib.hid tst2; clear tst2
            go_upto_region 7 with (at_builtin; refine wpList_append1at (f := fI) rfl (.tmp 33) (.tmp 35) 22 rfl intTI ((k : Int) + 1) (fI_oneI _) rfl HI.out.v rfl rfl H63.out HBY.out HI.out.bel.size ?_; intro v7 w7 ho7 hg7 hat7; obtain ⟨A7, e7, rfl⟩ := ho7.form; have h7b := TST2.out w7 hg7; have c7 := h7b.cell 0; have q7 := h7b.free 0; have HI7 := TST.out _ w7 ho7 hg7 hat7; rw [List.length_append, List.length_singleton] at HI7; clear ho7 hg7 hat7 h7b TST TST2)
            clear c7 q7 H63 HBY
            obtain ⟨w8, hw8⟩ : ∃ x, x = w7.setCell ⟨g, 0, none⟩ (.slice A7 ((upto vs n true k).length + 1) e7) := ⟨_, rfl⟩
            rw [← hw8] at HI7 ⊢
            clear hw8
            have g1 : w8.cell? ⟨g, 1, none⟩ = some b := HI7.out.blk.cell 1
            have hu := upto_len ls n true k
            have h63 : (upto ls n true k).length + 1 ≤ maxLen := by unfold maxLen; omega
            have hby : ((upto ls n true k).length + 1) * 8 ≤ 140737488355328 := by omega
            have H63 := Lib.hid h63; clear h63
            have HBY := Lib.hid hby; clear hby hu
            have tst := fun v7 w7 ho7 hg7 hat7 => Lib.hid (HI7.out.yesL (x := (k : Int) + 1) (v7 := v7) (w7 := w7) HPL.out ho7 hg7 hat7)
            have tst2 := fun w7 hg7 => HI7.out.afterL (x := (k : Int) + 1) (w7 := w7) hg7
            have TST := Lib.hid tst; clear tst
            have TST2 := Lib.hid tst2; clear tst2
            go_wp2_with (at_builtin; refine wpList_append1at (f := fI) rfl (.tmp 56) (.tmp 58) 22 rfl intTI ((k : Int) + 1) (fI_oneI _) rfl HI7.out.l rfl rfl H63.out HBY.out HI7.out.bel.size ?_; intro v7 w9 ho7 hg7 hat7; obtain ⟨A9, e9, rfl⟩ := ho7.form; have h7b := TST2.out w9 hg7; have c7 := h7b.cell 1; have q7 := h7b.free 1; have HI9 := TST.out _ w9 ho7 hg7 hat7; rw [List.length_append, List.length_singleton] at HI9; clear ho7 hg7 hat7 h7b TST TST2)
            go_roundw
            case rel => exact ⟨k + 1, _, _, by omega, by go_num, HI9.out⟩
            case measure => simp [intOf]; omega
      · have te : ((k : Int) + 1 == n) = false := by rw [beq_eq_false_iff_ne]; exact hmn
        have tn : ((k : Int) + 1 != n) = true := by rw [bne_iff_ne]; exact hmn
        obtain ⟨y, hy⟩ : ∃ y, y = hasB vs ((k : Int) + 1) := ⟨_, rfl⟩
        obtain ⟨z, hz⟩ : ∃ z, z = hasB ls ((k : Int) + 1) := ⟨_, rfl⟩
        have hpv : pick vs n bv ((k : Int) + 1) = y := by unfold pick; rw [if_neg hmn, hy]
        have hpl : pick ls n bl ((k : Int) + 1) = z := by unfold pick; rw [if_neg hmn, hz]
        have HPV := Lib.hid hpv; clear hpv
        have HPL := Lib.hid hpl; clear hpl
        clear hmn
        have hrv := RVoter_any (c := c) (d := d) (H.out.below HI.out.bel) ((k : Int) + 1)
        rw [← hy] at hrv
        have HRV := Lib.hid hrv; clear hrv hy
        have hhas : ∀ W, Below w.heap.size w W → Calls Try.prog 63 #[.slice B ls.length d, .int .i64 ((k : Int) + 1)] W fun e w' => e = .returned (.bool z) ∧ W = w' := fun W hb => by rw [hz]; exact Has_any B d ls _ W (H.out.below hb).l
        have HHAS := Lib.hid hhas; clear hhas hz
        have b0 : wr.cell? ⟨w.heap.size, 0, none⟩ = some (.slice A vs.length c) := HI.out.box.cell 0
        have b1 : wr.cell? ⟨w.heap.size, 1, none⟩ = some (.slice B ls.length d) := HI.out.box.cell 1
        go_wp2_with fail
        (with_reducible refine HRV.out.mono ?_); rintro e w2 ⟨rfl, hb2⟩
        have HI2 := Lib.hid (HI.out.below hb2); clear hb2 b0 b1 g0 g1 HI HRV
        have g0 : w2.cell? ⟨g, 0, none⟩ = some a := HI2.out.blk.cell 0
        cases y with
        | false =>
          have HJ := Lib.hid (HI2.out.noV HPV.out)
          go_upto_region 7 with fail
          have b1 : w2.cell? ⟨w.heap.size, 1, none⟩ = some (.slice B ls.length d) := HJ.out.box.cell 1
          have hhs := HHAS.out w2 HJ.out.bel
          have HHS := Lib.hid hhs; clear hhs
          have g1 : w2.cell? ⟨g, 1, none⟩ = some b := HJ.out.blk.cell 1
          go_wp2_with fail
          (with_reducible refine HHS.out.mono ?_); rintro e w3 ⟨rfl, rfl⟩
          cases z with
          | false =>
            go_wp2_with fail
            go_roundw
            case rel => exact ⟨k + 1, _, _, by omega, by go_num, HJ.out.noL HPL.out⟩
            case measure => simp [intOf]; omega
          | true =>
            have hu := upto_len ls n bl k
            have h63 : (upto ls n bl k).length + 1 ≤ maxLen := by unfold maxLen; omega
            have hby : ((upto ls n bl k).length + 1) * 8 ≤ 140737488355328 := by omega
            have H63 := Lib.hid h63; clear h63
            have HBY := Lib.hid hby; clear hby hu
            have tst := fun v7 w7 ho7 hg7 hat7 => Lib.hid (HJ.out.yesL (x := (k : Int) + 1) (v7 := v7) (w7 := w7) HPL.out ho7 hg7 hat7)
            have tst2 := fun w7 hg7 => HJ.out.afterL (x := (k : Int) + 1) (w7 := w7) hg7
            have TST := Lib.hid tst; clear tst
            have TST2 := Lib.hid tst2; clear tst2
            go_wp2_with (at_builtin; refine wpList_append1at (f := fI) rfl (.tmp 56) (.tmp 58) 22 rfl intTI ((k : Int) + 1) (fI_oneI _) rfl HJ.out.l rfl rfl H63.out HBY.out HJ.out.bel.size ?_; intro v7 w9 ho7 hg7 hat7; obtain ⟨A9, e9, rfl⟩ := ho7.form; have h7b := TST2.out w9 hg7; have c7 := h7b.cell 1; have q7 := h7b.free 1; have HI9 := TST.out _ w9 ho7 hg7 hat7; rw [List.length_append, List.length_singleton] at HI9; clear ho7 hg7 hat7 h7b TST TST2)
            go_roundw
            case rel => exact ⟨k + 1, _, _, by omega, by go_num, HI9.out⟩
            case measure => simp [intOf]; omega
        | true =>
          have hu := upto_len vs n bv k
          have h63 : (upto vs n bv k).length + 1 ≤ maxLen := by unfold maxLen; omega
          have hby : ((upto vs n bv k).length + 1) * 8 ≤ 140737488355328 := by omega
          have H63 := Lib.hid h63; clear h63
          have HBY := Lib.hid hby; clear hby hu
          have tst := fun v7 w7 ho7 hg7 hat7 => Lib.hid (HI2.out.yesV (x := (k : Int) + 1) (v7 := v7) (w7 := w7) HPV.out ho7 hg7 hat7)
          have tst2 := fun w7 hg7 => HI2.out.afterV (x := (k : Int) + 1) (w7 := w7) hg7
          have TST := Lib.hid tst; clear tst
          have TST2 := Lib.hid tst2; clear tst2
          go_upto_region 7 with (at_builtin; refine wpList_append1at (f := fI) rfl (.tmp 33) (.tmp 35) 22 rfl intTI ((k : Int) + 1) (fI_oneI _) rfl HI2.out.v rfl rfl H63.out HBY.out HI2.out.bel.size ?_; intro v7 w7 ho7 hg7 hat7; obtain ⟨A7, e7, rfl⟩ := ho7.form; have h7b := TST2.out w7 hg7; have c7 := h7b.cell 0; have q7 := h7b.free 0; have HI7 := TST.out _ w7 ho7 hg7 hat7; rw [List.length_append, List.length_singleton] at HI7; clear ho7 hg7 hat7 h7b TST TST2)
          clear c7 q7 H63 HBY
          obtain ⟨w8, hw8⟩ : ∃ x, x = w7.setCell ⟨g, 0, none⟩ (.slice A7 ((upto vs n bv k).length + 1) e7) := ⟨_, rfl⟩
          rw [← hw8] at HI7 ⊢
          clear hw8
          have b1 : w8.cell? ⟨w.heap.size, 1, none⟩ = some (.slice B ls.length d) := HI7.out.box.cell 1
          have hhs := HHAS.out w8 HI7.out.bel
          have HHS := Lib.hid hhs; clear hhs
          have g1 : w8.cell? ⟨g, 1, none⟩ = some b := HI7.out.blk.cell 1
          go_wp2_with fail
          (with_reducible refine HHS.out.mono ?_); rintro e w3 ⟨rfl, rfl⟩
          cases z with
          | false =>
            go_wp2_with fail
            go_roundw
            case rel => exact ⟨k + 1, _, _, by omega, by go_num, HI7.out.noL HPL.out⟩
            case measure => simp [intOf]; omega
          | true =>
            have hu := upto_len ls n bl k
            have h63 : (upto ls n bl k).length + 1 ≤ maxLen := by unfold maxLen; omega
            have hby : ((upto ls n bl k).length + 1) * 8 ≤ 140737488355328 := by omega
            have H63 := Lib.hid h63; clear h63
            have HBY := Lib.hid hby; clear hby hu
            have tst := fun v7 w7 ho7 hg7 hat7 => Lib.hid (HI7.out.yesL (x := (k : Int) + 1) (v7 := v7) (w7 := w7) HPL.out ho7 hg7 hat7)
            have tst2 := fun w7 hg7 => HI7.out.afterL (x := (k : Int) + 1) (w7 := w7) hg7
            have TST := Lib.hid tst; clear tst
            have TST2 := Lib.hid tst2; clear tst2
            go_wp2_with (at_builtin; refine wpList_append1at (f := fI) rfl (.tmp 56) (.tmp 58) 22 rfl intTI ((k : Int) + 1) (fI_oneI _) rfl HI7.out.l rfl rfl H63.out HBY.out HI7.out.bel.size ?_; intro v7 w9 ho7 hg7 hat7; obtain ⟨A9, e9, rfl⟩ := ho7.form; have h7b := TST2.out w9 hg7; have c7 := h7b.cell 1; have q7 := h7b.free 1; have HI9 := TST.out _ w9 ho7 hg7 hat7; rw [List.length_append, List.length_singleton] at HI9; clear ho7 hg7 hat7 h7b TST TST2)
            go_roundw
            case rel => exact ⟨k + 1, _, _, by omega, by go_num, HI9.out⟩
            case measure => simp [intOf]; omega
    · have hk7 : k = 7 := by omega
      subst hk7
      obtain ⟨A1, c1, rfl⟩ := HI.out.v.form
      obtain ⟨B1, d1, rfl⟩ := HI.out.l.form
      have r0 := HI.out.res.cell 0
      have r1 := HI.out.res.cell 1
      have q0 := HI.out.res.free 0
      have q1 := HI.out.res.free 1
      have g0 : wr.cell? ⟨g, 0, none⟩ = some (.slice A1 (upto vs n bv 7).length c1) := HI.out.blk.cell 0
      have g1 : wr.cell? ⟨g, 1, none⟩ = some (.slice B1 (upto ls n bl 7).length d1) := HI.out.blk.cell 1
      go_wp2_with fail
      have z1 := HI.out.res.set_ 0 (.slice A1 (upto vs n bv 7).length c1)
      have z2 := z1.set_ 1 (.slice B1 (upto ls n bl 7).length d1)
      have s0 := z2.cell 0
      have s1 := z2.cell 1
      refine bodyPost_ret (v := .agg #[.slice A1 (upto vs n bv 7).length c1, .slice B1 (upto ls n bl 7).length d1]) (by simp [results, Try.results77, go_sem, r0, r1, q0, q1]) rfl ?_
      exact ⟨A1, c1, B1, d1, rfl, (HI.out.v.farB HI.out.res (by decide) 0 _).farB z1 (by decide) 1 _, (HI.out.l.farB HI.out.res (by decide) 0 _).farB z1 (by decide) 1 _, (HI.out.bel.setCell (p := ⟨w.heap.size + 1, 0, none⟩) (Nat.le_succ _) _).setCell (p := ⟨w.heap.size + 1, 1, none⟩) (Nat.le_succ _) _⟩
end Go.Proofs.Ytilefofpfbgikaa
