/- Layer 8: the walk of Open. -/
import Derived.Test.YtfpomllhkbbipaaGreatDoorStF
import Derived.Test.YtfpomllhkbbipaaGreatDoorStV
namespace Go.Proofs.YtfpomllhkbbipaaGreatDoor
open Go Go.RowKit Go.Shelf Go.Sort Go.Maps Go.Lib Mem Pk Cf Dsk Go.Proofs.YtfpomllhkbbipaaGreatDoor.Nm Sto

theorem strTS : SliceT Tryz.prog 55 9 (.string ⟨#[]⟩) 16 := sliceT_mk Tryz.underlying55 rfl (by kernel_rfl)
theorem encS_one (u : Name) : (encStr u).oneCell' = true := rfl
/-- blocks of strings -/
def st (w : World) (g : Nat) : Prop := ∃ cs fr, w.heap[g]? = some (.cells cs 9 fr)
theorem slb_not {α : Type} {f : α → Value} {e : TypeId} {F : Nat → Prop} {w : World} {A : Option Addr} {xs : List α} (h : SlB f e F w A xs) (hne : e ≠ 9) : SlB f e (fun g => F g ∧ ¬ st w g) w A xs := by
  refine ⟨h.1, fun h0 => ?_⟩
  obtain ⟨b, o, cur, fr, e1, hF, hb, hc⟩ := h.2 h0
  refine ⟨b, o, cur, fr, e1, ⟨hF, fun ⟨cs, fr', h2⟩ => ?_⟩, hb, hc⟩
  rw [hb] at h2
  injection h2 with h2
  injection h2 with _ h2
  exact hne h2
theorem blk_not {w : World} {g : Nat} {t : TypeId} {cs : Array Value} (h : Blk w g t cs) (hne : t ≠ 9) : ¬ st w g := fun ⟨cs', fr, h2⟩ => by
  unfold Blk at h
  rw [h] at h2
  injection h2 with h2
  injection h2 with _ h2
  exact hne h2
section
variable {G : Nat → Prop} {B p : Nat} {s : S} {w w' : World}
/-- a disk has no block of strings -/
theorem DX.strs (h : DX G B p s w) : DX (fun g => G g ∨ st w g) B p s w := by
  obtain ⟨mb, rs, h0⟩ := h.at_
  have hm : ¬ st w mb := fun ⟨cs, fr, h2⟩ => by
    obtain ⟨es, clock, h4, _⟩ := h0.map
    rw [h4] at h2
    cases h2
  refine ⟨⟨mb, rs, { h0 with
      inP := ⟨h0.inP.1, fun hh => hh.elim h0.inP.2 (blk_not h0.blk (by decide))⟩
      inM := ⟨h0.inM.1, fun hh => hh.elim h0.inM.2 hm⟩
      recs := fun r hr => by
        obtain ⟨r1, r2, r3, r4, r5⟩ := h0.recs r hr
        exact ⟨r1, ⟨r2.1, fun hh => hh.elim r2.2 (blk_not r1 (by decide))⟩, (slb_not r3 (by decide)).mono (fun g _ hg => ⟨hg.1.1, fun hh => hh.elim hg.1.2 hg.2⟩), (slb_not r4 (by decide)).mono (fun g _ hg => ⟨hg.1.1, fun hh => hh.elim hg.1.2 hg.2⟩), r5⟩ }⟩, h.le, fun g hg => hg.elim (h.old g) (fun ⟨_, _, h2⟩ => (Array.getElem?_eq_some_iff.1 h2).1)⟩
theorem DX.names (h : DX G B p s w) : (snames s).length ≤ 256 ∧ ∀ n ∈ snames s, n.length ≤ 16 := by
  obtain ⟨mb, rs, h0⟩ := h.at_
  refine ⟨by unfold snames; rw [List.length_map]; exact h0.count, fun n hn => ?_⟩
  unfold snames at hn
  rw [← h0.files] at hn
  obtain ⟨f, hf, rfl⟩ := List.mem_map.1 hn
  obtain ⟨r, hr, rfl⟩ := List.mem_map.1 hf
  have h1 := (h0.recs r hr).2.2.2.2.2.2.2.2.2.2
  unfold named at h1
  simp only [Bool.and_eq_true, decide_eq_true_eq] at h1
  exact h1.2
theorem DX.grown_str {base : Nat} {v : Value} {xs : List Name} {row : Option Nat} (h : DX G B p s w) (hg : w.grownBy w' v.ownBlock) (ho : Mem.Own encStr base 9 w v xs) : DX G B p s w' := by
  refine (dx_in h.strs (F := fun g => v.ownBlock = some g) ⟨hg.os, hg.tape, hg.output, hg.size, fun k hk hn => hg.block k hk (fun e => hn e.symm)⟩ (fun g e => .inr ?_)).weaken (fun g hg' => .inl hg')
  rcases ho.2 with ⟨rfl, -⟩ | ⟨g', cap, cur, rfl, -, hh, -⟩
  · cases e
  · have e2 : g' = g := Option.some.inj e
    subst e2
    exact ⟨_, _, hh⟩
theorem slb_apart {α β : Type} {f : α → Value} {f' : β → Value} {e e' : TypeId} {F : Nat → Prop} {base : Nat} {A : Option Addr} {v : Value} {xs : List α} {ys : List β} (h : SlB f e F w A xs) (ho : Mem.Own f' base e' w v ys) (hne : e ≠ e') (hg : w.grownBy w' v.ownBlock) : SlB f e F w' A xs := by
  refine ⟨h.1, fun h0 => ?_⟩
  obtain ⟨b, o, cur, fr, e1, hF, hb, hc⟩ := h.2 h0
  refine ⟨b, o, cur, fr, e1, hF, (hg.block b (Array.getElem?_eq_some_iff.1 hb).1 (fun e2 => ?_)).trans hb, hc⟩
  rcases ho.2 with ⟨rfl, -⟩ | ⟨g', cap, cur', rfl, -, hh, -⟩
  · cases e2
  · have e3 : b = g' := Option.some.inj e2
    subst e3
    rw [hb] at hh
    injection hh with hh
    injection hh with _ hh
    exact hne hh
end
namespace Sto
def isNm (n : Name) : Bool := (idxS n).isSome
theorem namesS_eq (s : S) : namesS s = (snames s).filter isNm := rfl
theorem findS_right {s : S} : ∀ {ns : List Name} {x : SnT}, findS s ns = some x → rightS x = true
  | [], _, h => by cases h
  | n :: r, x, h => by
    rw [findS_cons] at h
    cases hc : cand s n with
    | none => rw [hc] at h; exact findS_right h
    | some y =>
      rw [hc] at h
      obtain rfl := Option.some.inj h
      unfold cand at hc
      cases hr : readS (read s n).1 with
      | none => rw [hr] at hc; cases hc
      | some z =>
        rw [hr] at hc
        simp only at hc
        split at hc
        · obtain rfl := Option.some.inj hc
          exact (readS_iff.1 hr).1
        · cases hc
theorem openS_down {s : S} (h : s.down = true) : openS s = (s, none, 50) := by unfold openS; rw [if_pos h]
theorem openS_is {s : S} {f : Option SnT} {s' : S} {k : Nat} (h : s.down = false) (hf : findS s (namesS s).reverse = f) (hr : rmAll s (goneS s f) = (s', k)) : openS s = (s', f, k) := by
  unfold openS; rw [if_neg (by rw [h]; exact Bool.false_ne_true)]; simp only; rw [hf, hr]
end Sto
theorem other_idx {f : Option SnT} {x : Name} {i : Nat} (hi : idxS x = some i) : other f x = (!f.isSome || ((i : Int) != (f.getD zS).x)) := by
  cases f with
  | none => rfl
  | some y =>
    unfold other
    simp only [Option.isSome_some, Option.getD_some, Bool.not_true, Bool.false_or]
    rw [hi]
    simp only [Option.map_some]
    by_cases h9 : (i : Int) = y.x
    · have h8 : ((i : Int) != y.x) = false := by simpa using h9
      have h7 : decide (some (Int.ofNat i) = some y.x) = true := decide_eq_true (by rw [← h9]; rfl)
      rw [h8, h7]; rfl
    · have h8 : ((i : Int) != y.x) = true := by simpa using h9
      have h7 : decide (some (Int.ofNat i) = some y.x) = false := decide_eq_false (fun h => h9 (Option.some.inj h))
      rw [h8, h7]; rfl
def N1Rel (xs : List Name) (w1 : World) (ov iv : Value) (W : World) : Prop :=
  ∃ k : Nat, k ≤ xs.length ∧ iv = .int .i64 k ∧ Mem.Own encStr w1.heap.size 9 W ov ((xs.take k).filter isNm) ∧ Below w1.heap.size w1 W
/-- what Open leaves -/
def SOpenP (G : Nat → Prop) (B p : Nat) (s : S) (w : World) (e : Ending) (w' : World) : Prop :=
  Below B w w' ∧ Kept G w w' ∧
  ((openS s).2.2 ≠ 0 → e = .returned (.tuple #[.pointer none, .int .i64 ((openS s).2.2 : Int)]) ∧ DX G B p (openS s).1 w') ∧
  ((openS s).2.2 = 0 → ∃ sb, e = .returned (.tuple #[.pointer (some ⟨sb, 0, none⟩), .int .i64 0]) ∧ StAt G B p sb (openS s).1 (openS s).2.1 w')
/-- what a name says, as the walks need it -/
theorem idx_any {B : Nat} {w : World} (hl : LaidB B w) (hB : B ≤ w.heap.size) (n : Name) (hn : n.length ≤ 16) :
    Calls Tryz.prog 28 #[.string ⟨n.toArray⟩] w fun e w' => (∃ v : Int, e = .returned (.tuple #[.int .i64 v, .bool (isNm n)]) ∧ ∀ i, idxS n = some i → v = (i : Int)) ∧ Below w.heap.size w w' := by
  have hsn : sname ⟨n.toArray⟩ = n := by unfold sname; simp
  have hsz : (⟨n.toArray⟩ : ByteArray).size = n.length := by simp [ByteArray.size]
  have h := SIndex_any hl hB ⟨n.toArray⟩ (by omega)
  unfold SIxP at h
  rw [hsn] at h
  exact h
theorem fnd_uni {f : Option SnT} {w w' : World} {e : Ending} (h : FndP f w e w') : ∃ A C D a c d, e = .returned (.tuple #[.agg #[.int .i64 (f.getD zS).x, .int .i64 (f.getD zS).t, .slice A (f.getD zS).vs.length a, .slice C (f.getD zS).ls.length c, .slice D (f.getD zS).ds.length d], .bool f.isSome]) ∧
    RowsAt (fun g => w.heap.size ≤ g ∧ g < w'.heap.size) w' (f.getD zS) A C D ∧ Below w.heap.size w w' := by
  obtain ⟨h1, h2, h3⟩ := h
  cases f with
  | none => exact ⟨none, none, none, 0, 0, 0, h2 rfl, ⟨SlB.nil, SlB.nil, SlB.nil⟩, h1⟩
  | some x =>
    obtain ⟨A, C, D, a, c, d, he, o1, o2, o3⟩ := h3 x rfl
    exact ⟨A, C, D, a, c, d, he, (⟨(SlB.of_own o1).2, (SlB.of_own o2).2, (SlB.of_own o3).2⟩ : RowsAt (fun g => w.heap.size ≤ g) w' x A C D).mono (fun g hl hg => ⟨hg, hl⟩), h1⟩
theorem St0.grown {G R : Nat → Prop} {B p sb : Nat} {s : S} {l : Option SnT} {A C D : Option Addr} {a c d : Nat} {w w' : World} {base : Nat} {v : Value} {xs : List Name} (h : St0 G R B p sb s l A C D a c d w) (hg : w.grownBy w' v.ownBlock) (ho : Mem.Own encStr base 9 w v xs) : St0 G R B p sb s l A C D a c d w' :=
  ⟨h.dx.grown_str (row := none) hg ho, h.blk.apart ho (by decide) hg, ⟨slb_apart h.rows.v ho (by decide) hg, slb_apart h.rows.l ho (by decide) hg, slb_apart h.rows.d ho (by decide) hg⟩, h.big, h.notG, h.right⟩
def N2Rel (G R : Nat → Prop) (B p sb : Nat) (s : S) (f : Option SnT) (A C D : Option Addr) (a c d : Nat) (ns g0 : List Name) (wG : World) (gv iv : Value) (W : World) : Prop :=
  ∃ k : Nat, k ≤ ns.length ∧ iv = .int .i64 k ∧ Mem.Own encStr wG.heap.size 9 W gv (g0 ++ (ns.take k).filter (other f)) ∧ Below wG.heap.size wG W ∧ St0 G R B p sb s f A C D a c d W
def N3Rel (G3 : Nat → Prop) (B p : Nat) (s : S) (gs : List Name) (wR : World) (iv : Value) (W : World) : Prop :=
  ∃ k : Nat, k ≤ gs.length ∧ iv = .int .i64 k ∧ ∃ sk, Hid (rmAll s gs = rmAll sk (gs.drop k)) ∧ DX G3 B p sk W ∧ Below B wR W ∧ Kept G3 wR W
set_option maxRecDepth 100000 in
set_option maxHeartbeats 8000000 in
theorem sOpen_any {G : Nat → Prop} {B p : Nat} {s : S} {w : World} (hx : DX G B p s w) (hla : LaidB B w) :
    Calls Tryz.prog 9 #[.pointer (some ⟨p, 0, none⟩)] w (SOpenP G B p s w) := by
  have HX := Lib.hid hx
  have HLA := Lib.hid hla
  cases hdn : s.down with
  | true =>
    have HD := Lib.hid (L_Down hx.drop hdn)
    have HO := Lib.hid (openS_down hdn)
    clear hx hdn hla
    go_enter Tryz.func9, Tryz.ntmps9
    go_wp2_with fail
    (with_reducible refine HD.out.mono ?_); rintro e w' ⟨rfl, rfl⟩
    go_wp2_with fail
    go_ret2
    unfold SOpenP
    rw [HO.out]
    exact ⟨Below.refl _ _, fun _ _ => rfl, fun _ => ⟨rfl, HX.out⟩, fun h => by simp at h⟩
  | false =>
    obtain ⟨hnc, hnl⟩ := hx.names
    have HD := Lib.hid (L_Down hx.drop hdn)
    have HDN := Lib.hid hdn
    have HNM := Lib.hid (L_Names hx.drop)
    have HNL := Lib.hid hnl
    obtain ⟨xs, hxs⟩ : ∃ z, z = snames s := ⟨_, rfl⟩
    rw [← hxs] at HNM HNL hnc
    have HXS := Lib.hid hxs
    clear hx hdn hla hxs hnl
    go_enter Tryz.func9, Tryz.ntmps9
    go_wp2_with fail
    (with_reducible refine HD.out.mono ?_); rintro e w' ⟨rfl, rfl⟩
    go_wp2_with fail
    (with_reducible refine HNM.out.mono ?_); rintro e w1 ⟨A1, c1, rfl, hs1, -, hb1⟩
    have HS1 := Lib.hid hs1
    have HB1 := Lib.hid hb1
    have HX1 := Lib.hid (HX.out.below hb1)
    have HL1 := Lib.hid (HLA.out.on (hb1.mono HX.out.le))
    clear hs1 hb1 HD HNM
    go_wp2_with fail
    go_loopw [4, 23] (fun ov iv wr => N1Rel xs w1 ov iv wr) (fun _ iv _ => xs.length - (intOf iv).toNat)
    case atStart => exact ⟨0, Nat.zero_le _, rfl, Own.nil, Below.refl _ _⟩
    case round =>
      obtain ⟨k, hk, rfl, hown, hbw⟩ := hrel
      have HOWN := Lib.hid hown
      have HBW := Lib.hid hbw
      clear hown hbw
      by_cases hlt : k < xs.length
      · obtain ⟨b, o, rfl, _, hc⟩ := (HS1.out.sl.below HBW.out).at hlt
        have ck := hc k hlt
        obtain ⟨x, hxe⟩ : ∃ x, x = xs[k] := ⟨_, rfl⟩
        rw [← hxe] at ck
        have ck : wr.cell? ⟨b, o + k, none⟩ = some (.string ⟨x.toArray⟩) := ck
        have hxm : x ∈ xs := by rw [hxe]; exact List.getElem_mem hlt
        have hx16 := HNL.out x hxm
        have HTK : Hid ((xs.take (k + 1)).filter isNm = (xs.take k).filter isNm ++ (if isNm x then [x] else [])) := Lib.hid (by
          rw [List.take_succ_eq_append_getElem hlt, List.filter_append, ← hxe]
          cases h9 : isNm x <;> simp [h9])
        have hle1 := HX1.out.le
        have hwz := HBW.out.size
        have HIX := Lib.hid (idx_any (HL1.out.on (HBW.out.mono hle1)) (Nat.le_trans hle1 hwz) x hx16)
        have HLK : Hid (((xs.take k).filter isNm).length ≤ 256) := Lib.hid (Nat.le_trans (List.length_filter_le _ _) (by rw [List.length_take]; omega))
        have HLT := Lib.hid hlt
        clear hc hxe hxm hx16 hle1 hwz
        obtain ⟨q, hq⟩ : ∃ z, z = isNm x := ⟨_, rfl⟩
        rw [← hq] at HIX HTK
        clear hq
        have hk0 : (0 : Int) ≤ (k : Int) := by omega
        have hk1 : (k : Int) < (xs.length : Int) := by omega
        go_wp2_with fail
        (with_reducible refine HIX.out.mono ?_); rintro e w3 ⟨⟨v, rfl, -⟩, hb3⟩
        have HB3 : Hid (Below w1.heap.size w1 w3) := Lib.hid (HBW.out.trans (hb3.mono HBW.out.size))
        have HO3 := Lib.hid (HOWN.out.below hb3)
        clear hb3 HIX
        cases q with
        | true =>
          have hz3 := HB3.out.size
          go_wp2_with (at_builtin; refine wpList_append1 (f := encStr) rfl (.tmp 33) (.tmp 35) 55 rfl strTS x rfl rfl HO3.out rfl rfl (by have h9 := HLK.out; unfold maxLen; exact Nat.le_trans (Nat.succ_le_succ h9) (by decide)) (by have h9 := HLK.out; omega) hz3 ?_; intro v4 w4 ho4 hb4)
          go_roundw
          case rel => exact ⟨k + 1, HLT.out, by go_num, by rw [HTK.out]; exact ho4, HB3.out.trans hb4⟩
          case measure => simp [intOf]; have := HLT.out; omega
        | false =>
          go_wp2_with fail
          go_roundw
          case rel => exact ⟨k + 1, HLT.out, by go_num, by rw [HTK.out, show (if false = true then [x] else []) = ([] : List Name) from rfl, List.append_nil]; exact HO3.out, HB3.out⟩
          case measure => simp [intOf]; have := HLT.out; omega
      · have hke : k = xs.length := by omega
        subst hke
        rw [List.take_length] at HOWN
        obtain ⟨A4, c4, rfl⟩ := HOWN.out.form
        obtain ⟨ns, hns⟩ : ∃ z, z = xs.filter isNm := ⟨_, rfl⟩
        rw [← hns] at HOWN
        rw [← hns]
        have HNS := Lib.hid hns
        have HXR := Lib.hid (HX1.out.below HBW.out)
        have hnsl : ns.length ≤ 256 := by rw [hns]; exact Nat.le_trans (List.length_filter_le _ _) hnc
        have HNS16 : Hid (∀ n ∈ ns, n ∈ xs ∧ isNm n = true) := Lib.hid (fun n hn => by rw [hns] at hn; exact List.mem_filter.1 hn)
        have HNM2 := Lib.hid (L_Names HXR.out.drop)
        rw [← HXS.out] at HNM2
        clear hns
        go_wp2_with fail
        (with_reducible refine HNM2.out.mono ?_); rintro e wG ⟨A5, c5, rfl, hs5, -, hb5⟩
        have HBG := Lib.hid hb5
        have HCO : Hid (Calls Tryz.prog 29 #[.slice A5 xs.length c5, .string ⟨#[115, 110, 97, 112, 46, 116, 109, 112]⟩] wG fun e w' => e = .returned (.bool (decide (nmT ∈ xs))) ∧ wG = w') := Lib.hid (ContainsS_any A5 c5 xs ⟨#[115, 110, 97, 112, 46, 116, 109, 112]⟩ wG hs5)
        have HXG := Lib.hid (HXR.out.below hb5)
        have HLG := Lib.hid (HL1.out.on ((HBW.out.mono HX1.out.le).trans (hb5.mono HXR.out.le)))
        have HNG : Hid (SlB encStr 9 (fun g => g < wG.heap.size) wG A4 ns) := Lib.hid (((SlB.of_own HOWN.out).2.below hb5).mono (fun g hl _ => hl))
        have HWG : Hid (Below w.heap.size w wG) := Lib.hid (HB1.out.trans ((HBW.out.trans (hb5.mono HBW.out.size)).mono HB1.out.size))
        clear hs5 hb5 HNM2
        obtain ⟨q, hq⟩ : ∃ z, z = decide (nmT ∈ xs) := ⟨_, rfl⟩
        rw [← hq] at HCO
        obtain ⟨g0, hg0⟩ : ∃ z : List Name, z = if q then [nmT] else [] := ⟨_, rfl⟩
        have HG0 : Hid (g0 = if nmT ∈ xs then [nmT] else []) := Lib.hid (by rw [hg0, hq]; simp)
        have hg0l : g0.length ≤ 1 := by rw [hg0]; split <;> simp
        clear hq
        go_wp2_with fail
        (with_reducible refine HCO.out.mono ?_); rintro e w' ⟨rfl, rfl⟩
        go_upto_if 40 with fail
        go_cut [9] (fun gv W => Mem.Own encStr wG.heap.size 9 W gv g0 ∧ Below wG.heap.size wG W)
        case first =>
          cases q with
          | true =>
            have hb0 : Below wG.heap.size wG wG := Below.refl _ _
            go_wp2_with (at_builtin; refine wpList_append1 (f := encStr) (base := wG.heap.size) (xs := []) rfl (.tmp 41) (.tmp 42) 55 rfl strTS nmT rfl rfl Own.nil rfl rfl (by unfold maxLen; decide) (by decide) (Nat.le_refl _) ?_; intro v4 w4 ho4 hb4)
            go_meet
            exact ⟨by rw [hg0]; exact ho4, hb4⟩
          | false =>
            go_wp2_with fail
            go_meet
            exact ⟨by rw [hg0]; exact Own.nil, Below.refl _ _⟩
        case rest =>
          obtain ⟨hog, hbg⟩ := hcut
          have HOG := Lib.hid hog
          have HBGW := Lib.hid hbg
          clear hog hbg hg0 HCO
          go_upto_region 15 with fail
          obtain ⟨w6, hw6⟩ : ∃ z, z = wc.alloc (.cells #[.pointer (some ⟨p, 0, none⟩), .int .i64 0, .int .i64 0, .slice none 0 0, .slice none 0 0, .slice none 0 0, .bool false] 80) := ⟨_, rfl⟩
          rw [← hw6]
          have hb6 : Below wc.heap.size wc w6 := by rw [hw6]; exact (Below.refl _ _).alloc (Nat.le_refl _) _
          have hS6 : Blk w6 wc.heap.size 80 #[.pointer (some ⟨p, 0, none⟩), .int .i64 0, .int .i64 0, .slice none 0 0, .slice none 0 0, .slice none 0 0, .bool false] := by rw [hw6]; exact Blk.new_ wc _ _
          have hz6 : w6.heap.size = wc.heap.size + 1 := by rw [hw6, World.size_alloc]
          have hG6 : Below wG.heap.size wG w6 := HBGW.out.trans (hb6.mono HBGW.out.size)
          have hx6 := HXG.out.below hG6
          have HX6S : Hid (DX (fun g => G g ∨ g = wc.heap.size) B p s w6) := Lib.hid ((HXG.out.below HBGW.out).protect hb6 (fun g e => by omega))
          have hn6 : SlB encStr 9 (fun g => g < wG.heap.size) w6 A4 ns := HNG.out.keep (fun g _ _ hg _ => hG6.block g hg)
          have hl6 : LaidB B w6 := HLG.out.on (hG6.mono HXG.out.le)
          have HFD := Lib.hid (sFind_any (c := c4) hl6 hx6 hn6 (by omega) (fun n hn => Nat.le_trans (HNL.out n (HNS16.out n hn).1) (by decide)) (fun n hn => by
            have h9 := (HNS16.out n hn).2
            unfold isNm at h9
            exact Option.isSome_iff_exists.1 h9))
          obtain ⟨f, hf⟩ : ∃ z, z = findS s ns.reverse := ⟨_, rfl⟩
          rw [← hf] at HFD
          have HF : Hid (findS s (namesS s).reverse = f) := Lib.hid (by rw [namesS_eq, ← HXS.out, ← HNS.out, ← hf])
          have HS6 := Lib.hid hS6
          have HB6 := Lib.hid hb6
          have HZ6 := Lib.hid hz6
          have HG6 := Lib.hid hG6
          have HX6 := Lib.hid hx6
          have HO6 := Lib.hid (HOG.out.below hb6)
          clear hw6 hb6 hS6 hz6 hG6 hx6 hn6 hl6 hf HOG
          obtain ⟨sb, hsb⟩ : ∃ z, z = wc.heap.size := ⟨_, rfl⟩
          rw [← hsb] at HS6 HZ6 HX6S ⊢
          have HSB := Lib.hid hsb
          clear hsb
          go_wp2_with fail
          (with_reducible refine HFD.out.mono ?_); rintro e w7 hfd
          obtain ⟨A, C, D, a, c, d, rfl, hro, hb7⟩ := fnd_uni hfd
          have HR7 := Lib.hid hro
          have HB7 := Lib.hid hb7
          have HS7 := Lib.hid (HS6.out.below hb7 HS6.out.lt)
          have q1 := HS7.out.free 1
          have q2 := HS7.out.free 2
          have q3 := HS7.out.free 3
          have q4 := HS7.out.free 4
          have q5 := HS7.out.free 5
          have q6 := HS7.out.free 6
          have e1 := HS7.out.cell 1
          have e2 := HS7.out.cell 2
          have e3 := HS7.out.cell 3
          have e4 := HS7.out.cell 4
          have e5 := HS7.out.cell 5
          have e6 := HS7.out.cell 6
          clear hro hb7 hfd HFD
          go_wp2_with fail
          obtain ⟨W9, hW9⟩ : ∃ z, z = (((((w7.setCell ⟨sb, 1, none⟩ (.int .i64 (f.getD zS).x)).setCell ⟨sb, 2, none⟩ (.int .i64 (f.getD zS).t)).setCell ⟨sb, 3, none⟩ (.slice A (f.getD zS).vs.length a)).setCell ⟨sb, 4, none⟩ (.slice C (f.getD zS).ls.length c)).setCell ⟨sb, 5, none⟩ (.slice D (f.getD zS).ds.length d)).setCell ⟨sb, 6, none⟩ (.bool f.isSome) := ⟨_, rfl⟩
          have hf9 : Frm (fun g => g = sb) w7 W9 := by rw [hW9]; exact ((((((Frm.refl (fun g => g = sb) w7).setCell (p := ⟨sb, 1, none⟩) (fun _ => rfl) _).setCell (p := ⟨sb, 2, none⟩) (fun _ => rfl) _).setCell (p := ⟨sb, 3, none⟩) (fun _ => rfl) _).setCell (p := ⟨sb, 4, none⟩) (fun _ => rfl) _).setCell (p := ⟨sb, 5, none⟩) (fun _ => rfl) _).setCell (p := ⟨sb, 6, none⟩) (fun _ => rfl) _
          have hB9 : Blk W9 sb 80 #[.pointer (some ⟨p, 0, none⟩), .int .i64 (f.getD zS).x, .int .i64 (f.getD zS).t, .slice A (f.getD zS).vs.length a, .slice C (f.getD zS).ls.length c, .slice D (f.getD zS).ds.length d, .bool f.isSome] := by rw [hW9]; exact (((((HS7.out.set_ 1 _).set_ 2 _).set_ 3 _).set_ 4 _).set_ 5 _).set_ 6 _
          have HW9 := Lib.hid hW9
          rw [← hW9]
          have hsw := HSB.out
          have hz6 := HZ6.out
          have hgz := HBGW.out.size
          have hR9 : RowsAt (fun g => w6.heap.size ≤ g ∧ g < w7.heap.size) W9 (f.getD zS) A C D := HR7.out.same (fun g hl hg => hf9.block g hl (fun e => by omega))
          have hst : St0 G (fun g => w6.heap.size ≤ g ∧ g < w7.heap.size) B p sb s f A C D a c d W9 := by
            refine ⟨(dx_in (HX6S.out.protect HB7.out (G2 := fun g => w6.heap.size ≤ g ∧ g < w7.heap.size) (fun g hg => hg)) hf9 (fun g e => .inl (.inr e))).weaken (fun g hg => ?_), hB9, hR9, ?_, ?_, ?_⟩
            · rcases hg with (hg | hg) | hg
              · exact .inl (.inl hg)
              · exact .inr hg
              · exact .inl (.inr hg)
            · have := HXG.out.le; omega
            · intro hg
              have h9 := HXG.out.old _ hg
              omega
            · intro y hy
              rw [hy] at HF
              exact findS_right HF.out
          have hog9 := own_frmT (HO6.out.below HB7.out) HS7.out (by decide) hf9
          have hb9 : Below wG.heap.size wG W9 := (HG6.out.trans (HB7.out.mono HG6.out.size)).trans (hf9.to_below (fun k _ h1 h2 => by omega) (by have := HB7.out.size; omega))
          obtain ⟨R, hRe⟩ : ∃ z : Nat → Prop, z = fun g => w6.heap.size ≤ g ∧ g < w7.heap.size := ⟨_, rfl⟩
          rw [← hRe] at hst
          have HST := Lib.hid hst
          have HOG := Lib.hid hog9
          have HB9 := Lib.hid hb9
          clear hsw hz6 hgz hR9 hst hog9 hb9 hRe hB9 hf9 hW9 HW9 q1 q2 q3 q4 q5 q6 e1 e2 e3 e4 e5 e6 HO6 HS6 HX6 HX6S HR7 HS7
          go_loopw [9, 61] (fun gv iv wr => N2Rel G R B p sb s f A C D a c d ns g0 wG gv iv wr) (fun _ iv _ => ns.length - (intOf iv).toNat)
          case atStart => exact ⟨0, Nat.zero_le _, rfl, by rw [List.take_zero, List.filter_nil, List.append_nil]; exact HOG.out, HB9.out, HST.out⟩
          case round =>
            obtain ⟨k, hk, rfl, hown, hbw, hst⟩ := hrel
            have HOWM := Lib.hid hown
            have HBV := Lib.hid hbw
            have HSR := Lib.hid hst
            clear hown hbw hst
            by_cases hlt : k < ns.length
            · obtain ⟨b, o, rfl, _, hc⟩ := (HNG.out.keep (fun g _ _ hg _ => HBV.out.block g hg) : SlB encStr 9 (fun g => g < wG.heap.size) wr A4 ns).sl.at hlt
              have ck := hc k hlt
              obtain ⟨x, hxe⟩ : ∃ x, x = ns[k] := ⟨_, rfl⟩
              rw [← hxe] at ck
              have ck : wr.cell? ⟨b, o + k, none⟩ = some (.string ⟨x.toArray⟩) := ck
              have hxm : x ∈ ns := by rw [hxe]; exact List.getElem_mem hlt
              obtain ⟨hx1, hx2⟩ := HNS16.out x hxm
              have hx16 := HNL.out x hx1
              obtain ⟨i, hi⟩ : ∃ i, idxS x = some i := Option.isSome_iff_exists.1 hx2
              have HI := Lib.hid hi
              have HTK : Hid (g0 ++ (ns.take (k + 1)).filter (other f) = (g0 ++ (ns.take k).filter (other f)) ++ (if other f x then [x] else [])) := Lib.hid (by
                rw [List.take_succ_eq_append_getElem hlt, List.filter_append, ← hxe, List.append_assoc]
                cases h9 : other f x <;> simp [h9])
              have HIX := Lib.hid (idx_any (HLG.out.on (HBV.out.mono HXG.out.le)) (Nat.le_trans HXG.out.le HBV.out.size) x hx16)
              have HLK : Hid ((g0 ++ (ns.take k).filter (other f)).length ≤ 257) := Lib.hid (by
                have h9 := List.length_filter_le (other f) (ns.take k)
                rw [List.length_take] at h9
                rw [List.length_append]; omega)
              have HLT := Lib.hid hlt
              clear hc hxe hxm hx1 hx16 hi hx2
              have hk0 : (0 : Int) ≤ (k : Int) := by omega
              have hk1 : (k : Int) < (ns.length : Int) := by omega
              go_wp2_with fail
              (with_reducible refine HIX.out.mono ?_); rintro e w3 ⟨⟨v, rfl, hv⟩, hb3⟩
              have hvi : v = (i : Int) := hv i HI.out
              subst hvi
              have HB3 : Hid (Below wG.heap.size wG w3) := Lib.hid (HBV.out.trans (hb3.mono HBV.out.size))
              have HO3 := Lib.hid (HOWM.out.below hb3)
              have HS3 := Lib.hid (HSR.out.below hb3)
              have e1 : w3.cell? ⟨sb, 1, none⟩ = some (.int .i64 (f.getD zS).x) := HS3.out.blk.cell 1
              have e6 : w3.cell? ⟨sb, 6, none⟩ = some (.bool f.isSome) := HS3.out.blk.cell 6
              clear hb3 HIX hv
              have hz3 := HB3.out.size
              have hoth : other f x = (!f.isSome || ((i : Int) != (f.getD zS).x)) := other_idx HI.out
              have HOTH := Lib.hid hoth
              clear hoth
              obtain ⟨q2, hq2⟩ : ∃ z, z = other f x := ⟨_, rfl⟩
              rw [← hq2] at HTK
              have HQ2 := Lib.hid hq2
              clear hq2
              rcases Bool.eq_false_or_eq_true f.isSome with hb | hb
              · rw [hb] at e6
                have h9 : q2 = ((i : Int) != (f.getD zS).x) := by have h9 := HOTH.out; rw [← HQ2.out, hb] at h9; exact h9
                clear hb
                cases q2 with
                | true =>
                  have t1 : ((i : Int) != (f.getD zS).x) = true := h9.symm
                  clear h9
                  go_wp2_with (at_builtin; refine wpList_append1t (f := encStr) rfl (.tmp 84) (.tmp 86) 55 rfl strTS x rfl rfl HO3.out rfl rfl (by have h9 := HLK.out; unfold maxLen; exact Nat.le_trans (Nat.succ_le_succ h9) (by decide)) (by have h9 := HLK.out; omega) hz3 ?_; intro v4 w4 ho4 hg4; have hz4 : Below wG.heap.size wG w4 := ((HB3.out.alloc hz3 _).grown hg4 (by rw [World.size_alloc]; omega) (fun k' e' => (HO3.out.lt k' e').1)); have hs4 := (HS3.out.below ((Below.refl _ _).alloc (Nat.le_refl _) (.cells #[encStr x] 9))).grown hg4 (HO3.out.alloc _))
                  go_roundw
                  case rel => exact ⟨k + 1, HLT.out, by go_num, by rw [HTK.out]; exact ho4, hz4, hs4⟩
                  case measure => simp [intOf]; have := HLT.out; omega
                | false =>
                  have t1 : ((i : Int) != (f.getD zS).x) = false := h9.symm
                  clear h9
                  go_wp2_with fail
                  go_roundw
                  case rel => exact ⟨k + 1, HLT.out, by go_num, by rw [HTK.out, show (if false = true then [x] else []) = ([] : List Name) from rfl, List.append_nil]; exact HO3.out, HB3.out, HS3.out⟩
                  case measure => simp [intOf]; have := HLT.out; omega
              · rw [hb] at e6
                have h9 : q2 = true := by have h9 := HOTH.out; rw [← HQ2.out, hb] at h9; exact h9
                subst h9
                clear hb
                go_wp2_with (at_builtin; refine wpList_append1t (f := encStr) rfl (.tmp 84) (.tmp 86) 55 rfl strTS x rfl rfl HO3.out rfl rfl (by have h9 := HLK.out; unfold maxLen; exact Nat.le_trans (Nat.succ_le_succ h9) (by decide)) (by have h9 := HLK.out; omega) hz3 ?_; intro v4 w4 ho4 hg4; have hz4 : Below wG.heap.size wG w4 := ((HB3.out.alloc hz3 _).grown hg4 (by rw [World.size_alloc]; omega) (fun k' e' => (HO3.out.lt k' e').1)); have hs4 := (HS3.out.below ((Below.refl _ _).alloc (Nat.le_refl _) (.cells #[encStr x] 9))).grown hg4 (HO3.out.alloc _))
                go_roundw
                case rel => exact ⟨k + 1, HLT.out, by go_num, by rw [HTK.out]; exact ho4, hz4, hs4⟩
                case measure => simp [intOf]; have := HLT.out; omega
            · have hke : k = ns.length := by omega
              subst hke
              rw [List.take_length] at HOWM
              obtain ⟨AG, cG, rfl⟩ := HOWM.out.form
              have HGE : Hid (goneS s f = g0 ++ ns.filter (other f)) := Lib.hid (by unfold goneS; rw [namesS_eq, ← HXS.out, ← HNS.out, ← HG0.out])
              obtain ⟨gs, hgs⟩ : ∃ z, z = g0 ++ ns.filter (other f) := ⟨_, rfl⟩
              rw [← hgs] at HOWM HGE ⊢
              have hg16 : ∀ n ∈ gs, n.length ≤ 16 := by
                intro n hn
                rw [hgs] at hn
                rcases List.mem_append.1 hn with hn | hn
                · have h9 := HG0.out
                  rw [h9] at hn
                  split at hn
                  · simp at hn; subst hn; decide
                  · cases hn
                · exact HNL.out n (HNS16.out n (List.mem_filter.1 hn).1).1
              have HG16 := Lib.hid hg16
              have hgl : SlB encStr 9 (fun g => st wr g) wr AG gs := by
                have h9 := (SlB.of_own HOWM.out).2
                refine ⟨h9.1, fun h0 => ?_⟩
                obtain ⟨b', o', cur, fr, e1', _, hb', hc'⟩ := h9.2 h0
                exact ⟨b', o', cur, fr, e1', ⟨_, _, hb'⟩, hb', hc'⟩
              have HGL := Lib.hid hgl
              have hgn : gs.length ≤ 257 := by
                have h9 := List.length_filter_le (other f) ns
                rw [hgs, List.length_append]; omega
              have HBR : Hid (Below B w wr) := Lib.hid ((HWG.out.mono HX.out.le).trans (HBV.out.mono HXG.out.le))
              have HKR : Hid (Kept G w wr) := Lib.hid (kept_trans (kept_below HX.out.old HWG.out) (kept_below HXG.out.old HBV.out))
              obtain ⟨wR, hwR⟩ : ∃ z, z = wr := ⟨_, rfl⟩
              rw [← hwR] at HGL HBR HKR HSR ⊢
              have HXT := Lib.hid HSR.out.dx.strs
              clear hgs hg16 hgl hwR
              go_wp2_with fail
              go_loopw [91] (fun iv wr => N3Rel (fun g => ((G g ∨ R g) ∨ g = sb) ∨ st wR g) B p s gs wR iv wr) (fun iv _ => gs.length - (intOf iv).toNat)
              case atStart => exact ⟨0, Nat.zero_le _, rfl, s, Lib.hid rfl, HXT.out, (Below.refl _ _), fun _ _ => rfl⟩
              case round =>
                obtain ⟨j, hj, rfl, sk, HRA, hdk, hbk, hkk⟩ := hrel
                have HDK := Lib.hid hdk
                have HBK := Lib.hid hbk
                have HKK := Lib.hid hkk
                clear hdk hbk hkk
                by_cases hjt : j < gs.length
                · have hgr := HGL.out.kept HKK.out (fun g hg => .inr hg)
                  obtain ⟨x, hxe⟩ : ∃ x, x = gs[j] := ⟨_, rfl⟩
                  obtain ⟨b, o, hAG, _, hc⟩ := hgr.sl.at hjt
                  have ck := hc j hjt
                  rw [← hxe] at ck
                  have ck : wr.cell? ⟨b, o + j, none⟩ = some (.string ⟨x.toArray⟩) := ck
                  have hxm : x ∈ gs := by rw [hxe]; exact List.getElem_mem hjt
                  have hx16 := HG16.out x hxm
                  have hsn : sname ⟨x.toArray⟩ = x := by unfold sname; simp
                  obtain ⟨⟨s', kc⟩, hrm⟩ : ∃ z, z = remove sk x := ⟨_, rfl⟩
                  have hxz : (⟨x.toArray⟩ : ByteArray).size ≤ maxLen := by
                    have h9 : (⟨x.toArray⟩ : ByteArray).size = x.length := by simp [ByteArray.size]
                    rw [h9]; unfold maxLen; omega
                  have HRM := Lib.hid (X_Remove HDK.out ⟨x.toArray⟩ hxz (show Dsk.remove sk (sname ⟨x.toArray⟩) = (s', kc) from (by rw [hsn]; exact hrm.symm)) rfl)
                  have HDR : Hid (rmAll sk (gs.drop j) = if kc = 0 then rmAll s' (gs.drop (j + 1)) else (s', kc)) := Lib.hid (by
                    rw [List.drop_eq_getElem_cons hjt, ← hxe]
                    show (if (remove sk x).2 = 0 then rmAll (remove sk x).1 (gs.drop (j + 1)) else remove sk x) = _
                    rw [← hrm])
                  have HJT := Lib.hid hjt
                  have hj0 : (0 : Int) ≤ (j : Int) := by omega
                  have hj1 : (j : Int) < (gs.length : Int) := by omega
                  rw [hAG]
                  clear hgr hc hxe hxm hx16 hsn hrm hjt hxz
                  go_wp2_with fail
                  (with_reducible refine HRM.out.mono ?_); rintro e w8 ⟨rfl, hd8, hb8, hk8⟩
                  have HD8 := Lib.hid hd8
                  have HB8 : Hid (Below B wR w8) := Lib.hid (HBK.out.trans hb8)
                  have HK8 := Lib.hid (kept_trans HKK.out hk8)
                  clear hd8 hb8 hk8 HRM
                  by_cases hkc : kc = 0
                  · subst hkc
                    have g1 : ((((0 : Nat) : Int)) != 0) = false := rfl
                    go_wp2_with fail
                    go_roundw
                    case rel => exact ⟨j + 1, HJT.out, by go_num, s', Lib.hid (by rw [HRA.out, HDR.out]; simp), HD8.out, HB8.out, HK8.out⟩
                    case measure => simp [intOf]; have := HJT.out; omega
                  · have g1 : ((kc : Int) != 0) = true := by rw [bne_iff_ne]; omega
                    have HO := Lib.hid (openS_is HDN.out HF.out (by rw [HGE.out, HRA.out, HDR.out, if_neg hkc]))
                    have HKC := Lib.hid hkc
                    clear hkc
                    go_wp2_with fail
                    go_ret2
                    unfold SOpenP
                    rw [HO.out]
                    exact ⟨HBR.out.trans HB8.out, kept_trans HKR.out (fun g hg => HK8.out g (.inl (.inl (.inl hg)))), fun _ => ⟨rfl, HD8.out.weaken (fun g hg => .inl (.inl (.inl hg)))⟩, fun h => absurd h HKC.out⟩
                · have hje : j = gs.length := by omega
                  subst hje
                  have HO := Lib.hid (openS_is (k := 0) HDN.out HF.out (by rw [HGE.out, HRA.out, List.drop_length]; rfl))
                  go_wp2_with fail
                  go_ret2
                  unfold SOpenP
                  rw [HO.out]
                  refine ⟨HBR.out.trans HBK.out, kept_trans HKR.out (fun g hg => HKK.out g (.inl (.inl (.inl hg)))), fun h => absurd rfl h, fun _ => ⟨sb, rfl, R, A, C, D, a, c, d, ?_⟩⟩
                  exact ⟨HDK.out.weaken (fun g hg => .inl hg), blk_kept HSR.out.blk (HKK.out _ (.inl (.inr rfl))), HSR.out.rows.same (fun g _ hg => HKK.out g (.inl (.inl (.inr hg)))), HSR.out.big, HSR.out.notG, HSR.out.right⟩
end Go.Proofs.YtfpomllhkbbipaaGreatDoor
