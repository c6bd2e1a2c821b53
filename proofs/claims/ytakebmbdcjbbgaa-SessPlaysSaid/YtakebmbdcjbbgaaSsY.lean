/- Layer 13: SessFull: the walk. -/
import Derived.Test.YtakebmbdcjbbgaaSsA
import Derived.Test.YtakebmbdcjbbgaaSsO
import Derived.Test.YtakebmbdcjbbgaaAnd
namespace Go.Proofs.Ytakebmbdcjbbgaa
open Go Go.RowKit Go.Maps Go.Lib Mem Ss

theorem i64T : SliceT Try.prog 32 2 (.int .i64 0) 8 := sliceT_mk Try.underlying32 rfl (by kernel_rfl)
theorem fI_one64 (u : Int) : (fI u).oneCell' = true := rfl
section
variable {G : Nat → Prop} {w w' : World} {p : Nat} {t : Tb}
/-- what is written are blocks of another type -/
theorem foot_type {base mb g : Nat} {rs : List Rec} {cur : Array Value} {e : TypeId} {fr : Nat × Nat} (h : TRep base w p t mb rs) (hg : w.heap[g]? = some (.cells cur e fr)) (he : e ≠ 67 ∧ e ≠ 71 ∧ e ≠ 76) : ¬ Foot p mb rs g := by
  rintro (rfl | rfl | ⟨r, hr, rfl | hq⟩)
  · have h1 : w.heap[g]? = some (.cells _ 67 (0, 0)) := h.blk
    rw [hg] at h1; cases h1; exact he.1 rfl
  · exact not_map_blk h.map hg rfl
  · have h1 : w.heap[r.sb]? = some (.cells _ 71 (0, 0)) := (h.recs r hr).1
    rw [hg] at h1; cases h1; exact he.2.1 rfl
  · obtain ⟨cur', hc⟩ := Rec.row_blk (h.recs r hr) hq
    rw [hg] at hc; cases hc; exact he.2.2 rfl
theorem TRep.frmF {base mb : Nat} {rs : List Rec} {F : Nat → Prop} (h : TRep base w p t mb rs) (hf : Frm F w w') (hd : ∀ g, Foot p mb rs g → ¬ F g) : TRep base w' p t mb rs := by
  refine ⟨{ h.toTRep0 with blk := h.blk.frm hf (hd _ (.inl rfl)), map := map_frm h.map hf (hd _ (.inr (.inl rfl))), recs := fun r hr => ?_ }, h.ok⟩
  obtain ⟨a, b, c⟩ := h.recs r hr
  exact ⟨a.frm hf (hd _ (.inr (.inr ⟨r, hr, .inl rfl⟩))), b, OwnK.frmA c hf fun g hg => hd g (.inr (.inr ⟨r, hr, .inr hg⟩))⟩
theorem TX.frmT (h : TX G w p t) {F : Nat → Prop} (hf : Frm F w w') (hF : ∀ g, g < w.heap.size → F g → ∃ cur e fr, w.heap[g]? = some (.cells cur e fr) ∧ e ≠ 67 ∧ e ≠ 71 ∧ e ≠ 76) : TX G w' p t := by
  obtain ⟨mb, rs, h, h1, h2⟩ := h
  have hnF : ∀ g, Foot p mb rs g → ¬ F g := fun g hg hFg => by
    obtain ⟨cur, e, fr, hc, he⟩ := hF g (Foot.lt h hg) hFg
    exact foot_type h hc he hg
  exact ⟨mb, rs, h.frmF hf hnF, h1, fun g hg => Nat.lt_of_lt_of_le (h2 g hg) hf.size⟩
/-- a block of another type is kept apart -/
theorem TX.guard (h : TX G w p t) {g : Nat} {cur : Array Value} {e : TypeId} {fr : Nat × Nat} (hg : w.heap[g]? = some (.cells cur e fr)) (he : e ≠ 67 ∧ e ≠ 71 ∧ e ≠ 76) : TX (fun k => G k ∨ k = g) w p t := by
  obtain ⟨mb, rs, h, h1, h2⟩ := h
  refine ⟨mb, rs, h, fun k hk e' => ?_, fun k hk => ?_⟩
  · rcases e' with e' | rfl
    · exact h1 k hk e'
    · exact foot_type h hg he hk
  · rcases hk with hk | rfl
    · exact h2 k hk
    · exact lt_of_block hg
theorem TX.guardOwn {b : Nat} {av : Value} {all : List Int} (h : TX G w p t) (ho : Mem.Own fI b 2 w av all) : TX (fun k => G k ∨ av.ownBlock = some k) w p t := by
  rcases ho.2 with ⟨rfl, -⟩ | ⟨g, cap, cur, rfl, hb, hh, -⟩
  · exact h.less fun g hg => hg.elim id fun e => by cases e
  · exact (h.guard hh (by decide)).less fun k hk => hk.elim .inl fun e => .inr (Option.some.inj e).symm
end
/-- the list, where other blocks are written -/
theorem Mem.Own.frmO {b : Nat} {e : TypeId} {w w' : World} {av : Value} {all : List Int} {F : Nat → Prop} (h : Mem.Own fI b e w av all) (hf : Frm F w w') (hn : ∀ g, av.ownBlock = some g → ¬ F g) : Mem.Own fI b e w' av all := by
  obtain ⟨h1, h2⟩ := h
  refine ⟨h1, ?_⟩
  rcases h2 with h2 | ⟨k, cap, cur, a, b, hh, c⟩
  · exact .inl h2
  · exact .inr ⟨k, cap, cur, a, b, (hf.block k (lt_of_block hh) (hn k (by rw [a]; rfl))).trans hh, c⟩
theorem TX.append {G : Nat → Prop} {b : Nat} {w w' : World} {p : Nat} {t : Tb} {av : Value} {all : List Int} {o : Obj} (h : TX G w p t) (ho : Mem.Own fI b 2 w av all) (hg : (w.alloc o).grownBy w' av.ownBlock) : TX G w' p t := by
  refine (h.below ((Below.refl _ _).alloc (Nat.le_refl _) o)).frmT (F := fun g => av.ownBlock = some g) ((Frm.refl _ _).grown hg (fun k hk _ => hk)) fun g hlt hg' => ?_
  rcases ho.2 with ⟨rfl, -⟩ | ⟨k, cap, cur, rfl, hb, hh, -⟩
  · cases hg'
  · cases hg'
    exact ⟨cur, 2, (0, 0), (Below.heap_alloc w o _ (lt_of_block hh)).trans hh, by decide⟩
def FullRel (n b p : Nat) (w : World) (av iv : Value) (W : World) : Prop :=
  ∃ (i : Nat) (all : List Int) (t : Tb), i ≤ n ∧ iv = .int .i64 i ∧ FullR all i t ∧ TX (fun g => g < b) W p t ∧ Mem.Own fI b 2 W av all ∧ Below b w W
def ThRel (id : Int) (all : List Int) (tv jv : Value) : Prop := ∃ j : Nat, j ≤ all.length ∧ jv = .int .i64 j ∧ tv = .bool (decide (id ∈ all.take j))
theorem th_step {id : Int} {all : List Int} {j : Nat} (h : j < all.length) : decide (id ∈ all.take (j + 1)) = (decide (id ∈ all.take j) || (all[j] == id)) := by
  rw [Bool.eq_iff_iff]
  simp only [decide_eq_true_eq, Bool.or_eq_true, beq_iff_eq]
  rw [List.take_succ_eq_append_getElem h, List.mem_append, List.mem_singleton]
  constructor
  · rintro (h | h)
    · exact .inl h
    · exact .inr h.symm
  · rintro (h | h)
    · exact .inl h
    · exact .inr h.symm
theorem Ss.FullR.hi_le {all : List Int} {i : Nat} {t : Tb} (h : FullR all i t) {id : Int} : 0 ≤ highT t id ∧ highT t id ≤ i := by
  unfold highT
  cases hf : findS id t with
  | none => exact ⟨Int.le_refl 0, (by omega : (0 : Int) ≤ i)⟩
  | some s =>
    have hm := (findS_some hf).1
    exact ⟨by have := (h.ok.each s hm).low; simp only; omega, h.high s hm⟩
set_option maxRecDepth 100000 in
set_option maxHeartbeats 4000000 in
theorem sessFull_walk {w : World} (A : Option Addr) (c : Nat) (ids : List Int) (_ : ids.length ≤ c) (_ : c ≤ maxLen) (hs : Sl fI w A ids) (_ : ∀ x ∈ ids, (Lit.int .i64 x).wf = true) (_ : Room 8 ids.length) (hbk : ids.length ≤ 1048576) :
    Calls Try.prog 5 #[.slice A ids.length c] w fun e w' => e = .returned (.bool true) ∧ Below w.heap.size w w' := by
  have hlen := hs.len
  have HS := Lib.hid hs; clear hs
  have HBK := Lib.hid hbk; clear hbk
  go_enter Try.func5, Try.ntmps5
  go_wp2_with fail
  (with_reducible refine (X_New _).mono ?_); rintro e w2 ⟨p, rfl, h2, hb2⟩
  have H2 := Lib.hid h2
  have HB2 := Lib.hid hb2
  clear h2 hb2
  go_wp2_with fail
  (with_reducible refine (alive_any _).mono ?_); rintro e w3 ⟨rfl, hb3⟩
  have H3 : Hid (TX (fun g => g < w.heap.size) (w3.alloc (.cells #[] 2)) p []) := Lib.hid ((H2.out.below hb3).below ((Below.refl _ _).alloc (Nat.le_refl _) _))
  have HB3 : Hid (Below w.heap.size w w3) := Lib.hid (HB2.out.trans (hb3.mono HB2.out.size))
  have HA3 : Hid (Mem.Own fI w.heap.size 2 (w3.alloc (.cells #[] 2)) (.slice (some ⟨w3.heap.size, 0, none⟩) 0 0) []) := Lib.hid (Own.mk_ HB3.out.size)
  clear hb3 HB2 H2
  go_wp2_with fail
  go_loopw [4, 21] (fun av iv wr => FullRel ids.length w.heap.size p w av iv wr) (fun _ iv _ => ids.length - (RowKit.intOf iv).toNat)
  case atStart => exact ⟨0, [], [], Nat.zero_le _, rfl, FullR.start, H3.out, HA3.out, HB3.out.alloc HB3.out.size _⟩
  case round =>
    obtain ⟨i, all, t, hi, rfl, hfr, htx, hown, hbw⟩ := hrel
    obtain ⟨wo, rfl⟩ : ∃ wo, wo = wr := ⟨_, rfl⟩
    have HFR := Lib.hid hfr; clear hfr
    have HT := Lib.hid htx; clear htx
    have HB := Lib.hid hbw; clear hbw
    have hall : all.length ≤ 16 := by rw [HFR.out.len]; exact HFR.out.ok.few
    obtain ⟨Aa, ca, rfl⟩ := hown.form
    have HO := Lib.hid hown; clear hown
    by_cases hlt : i < ids.length
    · have hc := (HS.out.below' (Nat.le_refl _) HB.out).at hlt
      obtain ⟨b, o, rfl, hbl, hc⟩ := hc
      obtain ⟨x, hx⟩ : ∃ z, z = ids[i] := ⟨_, rfl⟩
      have e0 : wo.cell? ⟨b, o + i, none⟩ = some (.int .i64 x) := by rw [hx]; exact hc i hlt
      obtain ⟨m, hm, em⟩ := and_lit x 63 (by decide)
      have em : bits .and .i64 x 63 = (m : Int) := em
      obtain ⟨I, hI⟩ : ∃ z, z = 1 + (m : Int) := ⟨_, rfl⟩
      have HI := Lib.hid hI
      have hI1 : 1 ≤ I ∧ I ≤ 64 := by omega
      have HI1 := Lib.hid hI1
      have hiw : (Lit.int .i64 I).wf = true := by
        simp [Lit.wf, IntKind.min, IntKind.max, IntKind.signed, IntKind.bits]; omega
      have HIN : Hid (numOk I = true) := Lib.hid (numOk_iff.2 ⟨hI1.1, by omega⟩)
      have HLT := Lib.hid hlt
      clear hc hx hI hI1 hbl
      go_upto_region 9 with fail
      rw [← HI.out]
      clear em HI hm e0
      go_wp2_with fail
      go_loop [7, 30] (fun tv jv => ThRel I all tv jv) (fun _ jv => all.length - (RowKit.intOf jv).toNat)
      case atStart => exact ⟨0, Nat.zero_le _, rfl, by simp⟩
      case round =>
        obtain ⟨j, hj, rfl, rfl⟩ := hrel
        by_cases hjl : j < all.length
        · obtain ⟨y, hy⟩ : ∃ z, z = all[j] := ⟨_, rfl⟩
          have hst := th_step (id := I) hjl
          rw [← hy] at hst
          obtain ⟨b', o', rfl, -, hcj⟩ := HO.out.sl.2.at hjl
          have ej : wo.cell? ⟨b', o' + j, none⟩ = some (.int .i64 y) := by rw [hy]; exact hcj j hjl
          obtain ⟨q, hq⟩ : ∃ z, z = decide (I ∈ all.take j) := ⟨_, rfl⟩
          rw [← hq] at hst ⊢
          obtain ⟨q2, hq2⟩ : ∃ z, z = (y == I) := ⟨_, rfl⟩
          rw [← hq2] at hst
          have t2 : (y == I) = q2 := hq2.symm
          have HST := Lib.hid hst
          clear hy hcj hst hq hq2
          cases q <;> cases q2 <;>
          · go_wp2_with fail
            go_round
            case rel => exact ⟨j + 1, by omega, by go_num, by rw [HST.out]; rfl⟩
            case measure => simp [RowKit.intOf]; omega
        · have hje : j = all.length := by omega
          subst hje
          rw [List.take_length]
          obtain ⟨q, hq⟩ : ∃ z, z = decide (I ∈ all) := ⟨_, rfl⟩
          rw [← hq]
          have HG := Lib.hid (HT.out.guardOwn HO.out)
          obtain ⟨h1, hh1⟩ : ∃ z, z = highT t I := ⟨_, rfl⟩
          have hhl := HFR.out.hi_le (id := I)
          rw [← hh1] at hhl
          have hhi := Highest_any HT.out.tab I hiw
          unfold HiP at hhi
          rw [← hh1] at hhi
          have HHI := Lib.hid hhi; clear hhi
          have hb1 : h1 ≤ 1048576 := by have := HBK.out; have := HLT.out; omega
          have hb0 : 0 ≤ h1 := hhl.1
          have HPT := Lib.hid (X_Put HG.out I (h1 + 1) 0 0 hiw)
          unfold XPut at HPT
          have HH1 := Lib.hid hh1
          clear hhl hh1 HG
          have HI1' : Hid ((i : Int) + 1 ≤ 1099511627776) := Lib.hid (by have := HBK.out; have := HLT.out; omega)
          cases q with
          | true =>
            have hmem : I ∈ all := of_decide_eq_true hq.symm
            obtain ⟨f1, f2, f3, f4⟩ := HFR.out.old HIN.out HI1'.out hmem
            rw [← HH1.out] at f1 f2 f3 f4
            rw [f1] at HPT
            have HF4 := Lib.hid f4
            have HZ : Hid (decide (1 < highT (putT t I (h1 + 1) 0 0).1 I) = true) := Lib.hid (decide_eq_true (by omega))
            clear hmem f1 f2 f3 f4 hq
            obtain ⟨t', ht'⟩ : ∃ z, z = (putT t I (h1 + 1) 0 0).1 := ⟨_, rfl⟩
            rw [← ht'] at HPT HF4 HZ
            clear ht'
            go_wp2_with fail
            (with_reducible refine HHI.out.mono ?_); rintro e wb ⟨rfl, rfl⟩
            go_wp2_with fail
            (with_reducible refine HPT.out.mono ?_); rintro e w5 ⟨rfl, ht5, hf5⟩
            have HO5 := Lib.hid (Mem.Own.frmO HO.out hf5 (fun g hg h => h (.inr hg)))
            have HT5 := Lib.hid (ht5.less (H := fun g => g < w.heap.size) (fun g h => .inl h))
            have HB5 : Hid (Below w.heap.size w w5) := Lib.hid (HB.out.trans (hf5.to_below (fun k _ h1 h => h (.inl h1)) HB.out.size))
            clear ht5 hf5 HPT HHI
            have hhi5 := Highest_any HT5.out.tab I hiw
            unfold HiP at hhi5
            obtain ⟨h2, hh2⟩ : ∃ z, z = highT t' I := ⟨_, rfl⟩
            rw [← hh2] at hhi5
            have HHI5 := Lib.hid hhi5
            have HH2 := Lib.hid hh2
            clear hhi5 hh2
            have tz : decide (1 < h2) = true := by rw [HH2.out]; exact HZ.out
            go_wp2_with fail
            (with_reducible refine HHI5.out.mono ?_); rintro e wb ⟨rfl, rfl⟩
            go_wp2_with fail
            go_roundw
            case rel => exact ⟨i + 1, all, t', by have := HLT.out; omega, by go_num, HF4.out, HT5.out, HO5.out, HB5.out⟩
            case measure => simp [RowKit.intOf]; have := HLT.out; omega
          | false =>
            have hmem : I ∉ all := of_decide_eq_false hq.symm
            by_cases h16 : all.length = 16
            · have hfull := HFR.out.full HIN.out hmem h16
              rw [← HH1.out] at hfull
              have hk : (putT t I (h1 + 1) 0 0).2 = 131 := by rw [hfull]
              have HF4 : Hid (FullR all (i + 1) (putT t I (h1 + 1) 0 0).1) := Lib.hid (by rw [hfull]; exact HFR.out.up (by omega))
              rw [hk] at HPT
              have t16 : ((all.length : Int) == 16) = true := by rw [beq_iff_eq]; omega
              clear hfull hk hmem hq h16
              obtain ⟨t', ht'⟩ : ∃ z, z = (putT t I (h1 + 1) 0 0).1 := ⟨_, rfl⟩
              rw [← ht'] at HPT HF4 
              clear ht'
              go_wp2_with fail
              (with_reducible refine HHI.out.mono ?_); rintro e wb ⟨rfl, rfl⟩
              go_wp2_with fail
              (with_reducible refine HPT.out.mono ?_); rintro e w5 ⟨rfl, ht5, hf5⟩
              have HO5 := Lib.hid (Mem.Own.frmO HO.out hf5 (fun g hg h => h (.inr hg)))
              have HT5 := Lib.hid (ht5.less (H := fun g => g < w.heap.size) (fun g h => .inl h))
              have HB5 : Hid (Below w.heap.size w w5) := Lib.hid (HB.out.trans (hf5.to_below (fun k _ h1 h => h (.inl h1)) HB.out.size))
              clear ht5 hf5 HPT HHI
              have hhi5 := Highest_any HT5.out.tab I hiw
              unfold HiP at hhi5
              obtain ⟨h2, hh2⟩ : ∃ z, z = highT t' I := ⟨_, rfl⟩
              rw [← hh2] at hhi5
              have HHI5 := Lib.hid hhi5
              have HH2 := Lib.hid hh2
              clear hhi5 hh2
              obtain ⟨z2, hz2⟩ : ∃ z, z = decide (1 < h2) := ⟨_, rfl⟩
              have tz : decide (1 < h2) = z2 := hz2.symm
              clear hz2
              cases z2 <;>
              · go_wp2_with fail
                (with_reducible refine HHI5.out.mono ?_); rintro e wb ⟨rfl, rfl⟩
                go_wp2_with fail
                go_roundw
                case rel => exact ⟨i + 1, all, t', by have := HLT.out; omega, by go_num, HF4.out, HT5.out, HO5.out, HB5.out⟩
                case measure => simp [RowKit.intOf]; have := HLT.out; omega
            · obtain ⟨f1, f2⟩ := HFR.out.new HIN.out hmem h16
              rw [← HH1.out] at f1 f2
              rw [f1] at HPT
              have HF4 := Lib.hid f2
              have t16 : ((all.length : Int) == 16) = false := by rw [beq_eq_false_iff_ne]; omega
              clear f1 f2 hmem hq h16
              obtain ⟨t', ht'⟩ : ∃ z, z = (putT t I (h1 + 1) 0 0).1 := ⟨_, rfl⟩
              rw [← ht'] at HPT HF4 
              clear ht'
              go_wp2_with fail
              (with_reducible refine HHI.out.mono ?_); rintro e wb ⟨rfl, rfl⟩
              go_wp2_with fail
              (with_reducible refine HPT.out.mono ?_); rintro e w5 ⟨rfl, ht5, hf5⟩
              have HO5 := Lib.hid (Mem.Own.frmO HO.out hf5 (fun g hg h => h (.inr hg)))
              have HT5 := Lib.hid (ht5.less (H := fun g => g < w.heap.size) (fun g h => .inl h))
              have HB5 : Hid (Below w.heap.size w w5) := Lib.hid (HB.out.trans (hf5.to_below (fun k _ h1 h => h (.inl h1)) HB.out.size))
              clear ht5 hf5 HPT HHI
              have hhi5 := Highest_any HT5.out.tab I hiw
              unfold HiP at hhi5
              obtain ⟨h2, hh2⟩ : ∃ z, z = highT t' I := ⟨_, rfl⟩
              rw [← hh2] at hhi5
              have HHI5 := Lib.hid hhi5
              have HH2 := Lib.hid hh2
              clear hhi5 hh2
              obtain ⟨z2, hz2⟩ : ∃ z, z = decide (1 < h2) := ⟨_, rfl⟩
              have tz : decide (1 < h2) = z2 := hz2.symm
              clear hz2
              cases z2 <;>
              · go_wp2_with fail
                (with_reducible refine HHI5.out.mono ?_); rintro e wb ⟨rfl, rfl⟩
                go_wp2_with (at_builtin; refine wpList_append1t (f := fI) rfl _ _ _ rfl i64T I (fI_one64 I) rfl HO5.out rfl rfl (by unfold maxLen; omega) (by omega) HB5.out.size ?_; intro v6 w6 hown6 hg6)
                have HT6 : Hid (TX (fun g => g < w.heap.size) w6 p t') := Lib.hid (TX.append HT5.out HO5.out hg6)
                have HB6 : Hid (Below w.heap.size w w6) := Lib.hid (HB5.out.trans (Mem.Own.below_ (HO5.out.alloc _) (Nat.le_trans HB5.out.size (by rw [World.size_alloc]; omega)) hg6 |> fun h => ((Below.refl _ _).alloc HB5.out.size _).trans h))
                have HO6 := Lib.hid hown6
                clear hown6 hg6
                go_wp2_with fail
                go_roundw
                case rel => exact ⟨i + 1, all ++ [I], t', by have := HLT.out; omega, by go_num, HF4.out, HT6.out, HO6.out, HB6.out⟩
                case measure => simp [RowKit.intOf]; have := HLT.out; omega
    · have HSS := Lib.hid (Sessions_any HT.out.tab)
      have hl2 : (t.map Sn.id).length = all.length := by rw [List.length_map, HFR.out.len]
      have HL2 := Lib.hid hl2; clear hl2
      go_wp2_with fail
      (with_reducible refine HSS.out.mono ?_); rintro e w5 ⟨A5, c5, rfl, -, hb5⟩
      have HB5 : Hid (Below w.heap.size w w5) := Lib.hid (HB.out.trans (hb5.mono HB.out.size))
      clear hb5
      rw [HL2.out]
      go_wp2_with fail
      go_ret
      exact ⟨by simp, HB5.out⟩
end Go.Proofs.Ytakebmbdcjbbgaa
