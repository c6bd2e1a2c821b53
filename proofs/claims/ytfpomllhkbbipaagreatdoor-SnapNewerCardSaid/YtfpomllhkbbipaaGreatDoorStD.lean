/- Layer 8: SnapNewer: the walk. -/
import Derived.Test.YtfpomllhkbbipaaGreatDoorStA
namespace Go.Proofs.YtfpomllhkbbipaaGreatDoor
open Go Go.RowKit Go.Shelf Go.Sort Go.Maps Go.Lib Mem Pk Cf Dsk Go.Proofs.YtfpomllhkbbipaaGreatDoor.Nm Sto

namespace Sto
/-- the greatest index so far -/
def Top (l : Option SnT) (t : Nat) : Prop := match l with
  | none => t = 0
  | some y => y.x = (t : Int) ∧ 1 ≤ t
theorem right_one (m k : Nat) (hm : m ≤ 1023) (hk : k < 30) (b : UInt8) : rightS ⟨m, k, [], [], [b]⟩ = decide (1 ≤ m) := by
  have hc : rconfB [] [] = true := by decide
  unfold rightS snapB
  rw [hc]
  unfold okNum
  by_cases h : 1 ≤ m
  · rw [decide_eq_true h]; simp; omega
  · rw [decide_eq_false h]; simp; omega
theorem old_S {s : S} {l : Option SnT} (h1 : s.down = false) (h2 : s.files = old l) (h3 : s.fuse = 0) : s = ⟨old l, false, 0⟩ := by
  obtain ⟨f, d, u⟩ := s
  simp only at h1 h2 h3
  subst h1; subst h2; subst h3; rfl
theorem newer_step {l : Option SnT} {t m k : Nat} (hl : ∀ y, l = some y → rightS y = true) (ht : Top l t) (hm : m ≤ 1023) (hk : k < 30) (b : UInt8) :
    ∃ l' c, putS ⟨old l, false, 0⟩ l ⟨m, k, [], [], [b]⟩ = (⟨old l', false, 0⟩, l', c) ∧ c = (if m < 1 then 1 else if m ≤ t then 110 else 0) ∧ Top l' (max t m) := by
  have hr := right_one m k hm hk b
  rcases putS_any (s := ⟨old l, false, 0⟩) (l := l) (x := ⟨m, k, [], [], [b]⟩) rfl rfl hl with ⟨h1, h2⟩ | ⟨h1, ⟨y, hy, hle⟩, h2⟩ | ⟨h1, hgt, h2⟩
  · rw [h1] at hr
    have hm0 : m = 0 := by
      have := hr.symm
      rw [decide_eq_false_iff_not] at this
      omega
    subst hm0
    exact ⟨l, 1, h2, by simp, by rw [Nat.max_zero]; exact ht⟩
  · rw [h1] at hr
    have hm1 : 1 ≤ m := by simpa using hr.symm
    subst hy
    have hyt : y.x = (t : Int) := ht.1
    have hle' : (m : Int) ≤ y.x := hle
    have hmt : m ≤ t := by omega
    exact ⟨some y, 110, h2, by rw [if_neg (by omega), if_pos hmt], by rw [Nat.max_eq_left hmt]; exact ht⟩
  · rw [h1] at hr
    have hm1 : 1 ≤ m := by simpa using hr.symm
    have hmt : t < m := by
      cases l with
      | none => have : t = 0 := ht; omega
      | some y =>
        have h9 := hgt y rfl
        have hyt : y.x = (t : Int) := ht.1
        have h9' : y.x < (m : Int) := h9
        omega
    rcases h2 with ⟨h3, h4, h5, h6⟩ | ⟨_, _, h5, _⟩
    · refine ⟨some ⟨m, k, [], [], [b]⟩, 0, Prod.ext (old_S h4 h5 (h6 rfl)) h3, by rw [if_neg (by omega), if_neg (by omega)], ?_⟩
      rw [Nat.max_eq_right (by omega)]
      exact ⟨rfl, hm1⟩
    · exact absurd rfl h5
theorem top_names {l : Option SnT} {t : Nat} (h : Top l t) : l.isSome = decide (0 < t) ∧ (l.getD zS).x = (t : Int) ∧ (snames ⟨old l, false, 0⟩).length = min t 1 := by
  cases l with
  | none => have : t = 0 := h; subst this; exact ⟨rfl, rfl, rfl⟩
  | some y =>
    obtain ⟨h1, h2⟩ := h
    refine ⟨(decide_eq_true (by omega)).symm, h1, ?_⟩
    rw [Nat.min_eq_right h2]; rfl
end Sto
def NwRel (xs : List Int) (B p sb : Nat) (w : World) (tv iv : Value) (W : World) : Prop :=
  ∃ k t : Nat, k ≤ xs.length ∧ k ≤ 30 ∧ iv = .int .i64 k ∧ t ≤ 1023 ∧ tv = .int .i64 t ∧ ∃ l, Hid (Top l t) ∧ SA B p sb ⟨old l, false, 0⟩ l W ∧ Below B w W
set_option maxRecDepth 100000 in
set_option maxHeartbeats 8000000 in
theorem snapNewer_walk {w : World} (hla : LaidS w) (A : Option Addr) (ca : Nat) (xs : List Int) (hs : Sl fI w A xs) :
    Calls Tryz.prog 6 #[.slice A xs.length ca] w fun e w' => e = .returned (.bool true) ∧ Below w.heap.size w w' := by
  have HLA := Lib.hid (LaidB.of hla)
  have HS := Lib.hid hs
  have hln := hs.len
  clear hla hs
  go_enter Tryz.func6, Tryz.ntmps6
  go_wp2_with fail
  (with_reducible refine (L_New w w.heap.size (Nat.le_refl _)).mono ?_); rintro e w1 ⟨p, rfl, hd1, -, hb1⟩
  have HD1 := Lib.hid hd1
  have HB1 := Lib.hid hb1
  have HAL := Lib.hid (alive8_any (w := w1) (LaidB.of (HLA.out.on hb1).here))
  clear hd1 hb1
  go_wp2_with fail
  (with_reducible refine HAL.out.mono ?_); rintro e w2 ⟨rfl, hb2⟩
  have HD2 := Lib.hid (HD1.out.below hb2)
  have HB2 : Hid (Below w.heap.size w w2) := Lib.hid (HB1.out.trans (hb2.mono HB1.out.size))
  clear hb2 HB1 HD1 HAL
  go_wp2_with fail
  (with_reducible refine (L_sOpen HD2.out (HLA.out.on HB2.out) o0).mono ?_); rintro e w3 ⟨sb, rfl, ha3, hb3⟩
  have HA3 := Lib.hid ha3
  have HB3 : Hid (Below w.heap.size w w3) := Lib.hid (HB2.out.trans hb3)
  clear ha3 hb3 HB2 HD2
  go_wp2_with fail
  go_loopw [6, 33] (fun tv iv wr => NwRel xs w.heap.size p sb w tv iv wr) (fun _ iv _ => xs.length - (intOf iv).toNat)
  case atStart => exact ⟨0, 0, Nat.zero_le _, by omega, rfl, by omega, rfl, none, Lib.hid rfl, HA3.out, HB3.out⟩
  case round =>
    obtain ⟨k, t, hk, hk30, rfl, ht, rfl, l, HTP, hsa, hbw⟩ := hrel
    have HSA := Lib.hid hsa
    have HBW := Lib.hid hbw
    clear hsa hbw
    by_cases hlt : k < xs.length
    · obtain ⟨b, o, rfl, _, hc⟩ := (HS.out.below HBW.out).at hlt
      have ck := hc k hlt
      obtain ⟨y, hy⟩ : ∃ y, y = xs[k] := ⟨_, rfl⟩
      rw [← hy] at ck; unfold fI at ck
      have HLT := Lib.hid hlt
      have hk0 : (0 : Int) ≤ (k : Int) := by omega
      have hk1 : (k : Int) < (xs.length : Int) := by omega
      clear hc hy hlt
      by_cases h30 : 30 ≤ k
      · have t1 : decide ((30 : Int) ≤ (k : Int)) = true := decide_eq_true (by omega)
        have t1' : (30 : Int) ≤ (k : Int) := by omega
        go_wp2_with fail
        go_ret
        exact ⟨rfl, HBW.out⟩
      · have t1 : ¬ (30 : Int) ≤ (k : Int) := by omega
        obtain ⟨m, hm, hand⟩ := and_small y 1023 (by decide)
        have hand : bits .and .i64 y 1023 = (m : Int) := hand
        obtain ⟨l', c, hps, hc, htp⟩ := newer_step HSA.out.right HTP.out hm (show k < 30 by omega) (UInt8.ofNat k)
        have HPS := Lib.hid hps
        have HC := Lib.hid hc
        have HTP2 := Lib.hid htp
        clear hps hc htp
        have e8 : IntKind.u8.wrap (k : Int) = (k : Int) := by
          unfold IntKind.wrap
          simp [IntKind.signed, IntKind.bits]
          omega
        have HX5 : Hid (StAt (fun g => False ∨ g = wr.heap.size) w.heap.size p sb ⟨old l, false, 0⟩ l (wr.alloc (.cells #[.int .u8 (k : Int)] 5))) := Lib.hid (HSA.out.protect ((Below.refl _ _).alloc (Nat.le_refl _) _) (fun g e => by subst e; exact ⟨Nat.le_refl _, by rw [World.size_alloc]; omega⟩))
        have hcs : (#[.int .u8 (k : Int)] : Array Value) = ([UInt8.ofNat k].map fB).toArray := by
          have h9 : (UInt8.ofNat k).toNat = k := by rw [UInt8.toNat_ofNat']; omega
          show (#[.int .u8 (k : Int)] : Array Value) = #[.int .u8 (((UInt8.ofNat k).toNat : Nat) : Int)]
          rw [h9]
        have hb5 : Below wr.heap.size wr (wr.alloc (.cells #[.int .u8 (k : Int)] 5)) := (Below.refl _ _).alloc (Nat.le_refl _) _
        have HB5 : Hid (Below w.heap.size w (wr.alloc (.cells #[.int .u8 (k : Int)] 5))) := Lib.hid (HBW.out.trans (hb5.mono HSA.out.le))
        have hput := sPut_any (A' := none) (C' := none) (D' := some ⟨wr.heap.size, 0, none⟩) (a' := 0) (c' := 0) (d' := 1) (x := ⟨m, k, [], [], [UInt8.ofNat k]⟩) (F := fun g => g = wr.heap.size) HX5.out (HLA.out.on HB5.out) ⟨SlB.nil, SlB.nil, SlB.lit [UInt8.ofNat k] _ hcs (by show 1 ≤ maxLen; unfold maxLen; decide)⟩ (fun g e => .inl (.inr e)) (Nat.le_refl _)
        unfold PutP at hput
        rw [HPS.out] at hput
        have HPUT := Lib.hid hput
        clear hcs hb5 hput
        change Hid (Calls _ _ #[.pointer (some ⟨sb, 0, none⟩), .agg #[.int .i64 (m : Int), .int .i64 (k : Int), .slice none 0 0, .slice none 0 0, .slice (some ⟨wr.heap.size, 0, none⟩) 1 1]] _ _) at HPUT
        go_wp2_with fail
        (with_reducible refine HPUT.out.mono ?_); rintro e w6 ⟨rfl, ha6, hb6, -⟩
        have HA6 : Hid (SA w.heap.size p sb ⟨old l', false, 0⟩ l' w6) := Lib.hid (ha6.weaken (fun g h => .inl h))
        have HB6 : Hid (Below w.heap.size w w6) := Lib.hid (HB5.out.trans hb6)
        clear ha6 hb6 HPUT HX5 HB5
        obtain ⟨n1, n2, n3⟩ := top_names HTP2.out
        obtain ⟨t2, ht2⟩ : ∃ t2, t2 = max t m := ⟨_, rfl⟩
        rw [← ht2] at n1 n2 n3 HTP2
        have hmax : max (t : Int) (m : Int) = (t2 : Int) := by omega
        have ht1023 : t2 ≤ 1023 := by omega
        have hm2 : m ≤ t2 := by omega
        have hcc := HC.out
        have key : c = 1 ∧ (m : Int) < 1 ∨ c = 110 ∧ ¬ (m : Int) < 1 ∧ (m : Int) ≤ (t : Int) ∨ c = 0 ∧ ¬ (m : Int) < 1 ∧ ¬ (m : Int) ≤ (t : Int) := by
          rw [hcc]
          by_cases g1 : m < 1
          · left; rw [if_pos g1]; exact ⟨rfl, by omega⟩
          · right
            rw [if_neg g1]
            by_cases g2 : m ≤ t
            · left; rw [if_pos g2]; exact ⟨rfl, by omega, by omega⟩
            · right; rw [if_neg g2]; exact ⟨rfl, by omega, by omega⟩
        clear hcc ht2
        rcases key with ⟨rfl, g1⟩ | ⟨rfl, g1, g2⟩ | ⟨rfl, g1, g2⟩
        · have q1 : (((1 : Nat) : Int) != 1) = false := rfl
          go_wp2_with fail
          (with_reducible refine (sLast_any HA6.out).mono ?_); rintro e w7 ⟨v, rfl, ⟨A9, C9, D9, a9, c9, d9, rfl, -, -, -⟩, hb7⟩
          have HD7 := Lib.hid (HA6.out.dd.below hb7)
          have HB7 : Hid (Below w.heap.size w w7) := Lib.hid (HB6.out.trans (hb7.mono HA6.out.le))
          have HA7 := Lib.hid (HA6.out.below hb7)
          clear hb7
          obtain ⟨z, hz⟩ : ∃ z, z = l'.getD zS := ⟨_, rfl⟩
          rw [← hz] at n2 ⊢
          rw [n1, n2]
          obtain ⟨w8, hw8⟩ : ∃ z', z' = w7.alloc (.cells #[.int .i64 (t2 : Int), .int .i64 z.t, .slice A9 z.vs.length a9, .slice C9 z.ls.length c9, .slice D9 z.ds.length d9] 43) := ⟨_, rfl⟩
          have hb8 : Below w7.heap.size w7 w8 := by rw [hw8]; exact (Below.refl _ _).alloc (Nat.le_refl _) _
          have HB8 : Hid (Below w.heap.size w w8) := Lib.hid (HB7.out.trans (hb8.mono HB7.out.size))
          have HA8 := Lib.hid (HA7.out.below hb8)
          have HNM := Lib.hid (L_Names (HD7.out.below hb8))
          have HW8 := Lib.hid hw8
          have hnl : (snames ⟨old l', false, 0⟩).length = min t2 1 := n3
          clear hw8 hb8 hz n1 n2 n3
          rcases Nat.eq_zero_or_pos t2 with h0 | h0
          · subst h0
            have hw0 : w8 = w7.alloc (.cells #[.int .i64 0, .int .i64 z.t, .slice A9 z.vs.length a9, .slice C9 z.ls.length c9, .slice D9 z.ds.length d9] 43) := HW8.out
            have HW0 := Lib.hid hw0
            clear hw0
            rw [show decide (0 < 0) = false from rfl]
            go_wp2_with fail
            rw [← HW0.out]
            (with_reducible refine HNM.out.mono ?_); rintro e w9 ⟨A11, c11, rfl, -, -, hb9⟩
            have HB9 : Hid (Below w.heap.size w w9) := Lib.hid (HB8.out.trans (hb9.mono HB8.out.size))
            have HA9 := Lib.hid (HA8.out.below hb9)
            clear hb9
            go_wp2_with fail
            go_roundw
            case rel => exact ⟨k + 1, 0, HLT.out, by omega, by go_num, by omega, rfl, l', Lib.hid HTP2.out, HA9.out, HB9.out⟩
            case measure => simp [intOf]; have := HLT.out; omega
          · have h1 : decide (0 < t2) = true := decide_eq_true h0
            have h2 : (0 : Int) < (t2 : Int) := by omega
            have h3 : min (t2 : Int) 1 = 1 := by omega
            have h4 : min t2 1 = 1 := by omega
            rw [h1]
            rw [h4] at hnl
            go_wp2_with fail
            rw [← HW8.out]
            (with_reducible refine HNM.out.mono ?_); rintro e w9 ⟨A11, c11, rfl, -, -, hb9⟩
            have HB9 : Hid (Below w.heap.size w w9) := Lib.hid (HB8.out.trans (hb9.mono HB8.out.size))
            have HA9 := Lib.hid (HA8.out.below hb9)
            clear hb9
            go_wp2_with fail
            go_roundw
            case rel => exact ⟨k + 1, t2, HLT.out, by omega, by go_num, ht1023, rfl, l', Lib.hid HTP2.out, HA9.out, HB9.out⟩
            case measure => simp [intOf]; have := HLT.out; omega
        · have q1 : (((110 : Nat) : Int) != 110) = false := rfl
          go_wp2_with fail
          (with_reducible refine (sLast_any HA6.out).mono ?_); rintro e w7 ⟨v, rfl, ⟨A9, C9, D9, a9, c9, d9, rfl, -, -, -⟩, hb7⟩
          have HD7 := Lib.hid (HA6.out.dd.below hb7)
          have HB7 : Hid (Below w.heap.size w w7) := Lib.hid (HB6.out.trans (hb7.mono HA6.out.le))
          have HA7 := Lib.hid (HA6.out.below hb7)
          clear hb7
          obtain ⟨z, hz⟩ : ∃ z, z = l'.getD zS := ⟨_, rfl⟩
          rw [← hz] at n2 ⊢
          rw [n1, n2]
          obtain ⟨w8, hw8⟩ : ∃ z', z' = w7.alloc (.cells #[.int .i64 (t2 : Int), .int .i64 z.t, .slice A9 z.vs.length a9, .slice C9 z.ls.length c9, .slice D9 z.ds.length d9] 43) := ⟨_, rfl⟩
          have hb8 : Below w7.heap.size w7 w8 := by rw [hw8]; exact (Below.refl _ _).alloc (Nat.le_refl _) _
          have HB8 : Hid (Below w.heap.size w w8) := Lib.hid (HB7.out.trans (hb8.mono HB7.out.size))
          have HA8 := Lib.hid (HA7.out.below hb8)
          have HNM := Lib.hid (L_Names (HD7.out.below hb8))
          have HW8 := Lib.hid hw8
          have hnl : (snames ⟨old l', false, 0⟩).length = min t2 1 := n3
          clear hw8 hb8 hz n1 n2 n3
          rcases Nat.eq_zero_or_pos t2 with h0 | h0
          · exact absurd h0 (by omega)
          · have h1 : decide (0 < t2) = true := decide_eq_true h0
            have h2 : (0 : Int) < (t2 : Int) := by omega
            have h3 : min (t2 : Int) 1 = 1 := by omega
            have h4 : min t2 1 = 1 := by omega
            rw [h1]
            rw [h4] at hnl
            go_wp2_with fail
            rw [← HW8.out]
            (with_reducible refine HNM.out.mono ?_); rintro e w9 ⟨A11, c11, rfl, -, -, hb9⟩
            have HB9 : Hid (Below w.heap.size w w9) := Lib.hid (HB8.out.trans (hb9.mono HB8.out.size))
            have HA9 := Lib.hid (HA8.out.below hb9)
            clear hb9
            go_wp2_with fail
            go_roundw
            case rel => exact ⟨k + 1, t2, HLT.out, by omega, by go_num, ht1023, rfl, l', Lib.hid HTP2.out, HA9.out, HB9.out⟩
            case measure => simp [intOf]; have := HLT.out; omega
        · have q1 : (((0 : Nat) : Int) != 0) = false := rfl
          go_wp2_with fail
          (with_reducible refine (sLast_any HA6.out).mono ?_); rintro e w7 ⟨v, rfl, ⟨A9, C9, D9, a9, c9, d9, rfl, -, -, -⟩, hb7⟩
          have HD7 := Lib.hid (HA6.out.dd.below hb7)
          have HB7 : Hid (Below w.heap.size w w7) := Lib.hid (HB6.out.trans (hb7.mono HA6.out.le))
          have HA7 := Lib.hid (HA6.out.below hb7)
          clear hb7
          obtain ⟨z, hz⟩ : ∃ z, z = l'.getD zS := ⟨_, rfl⟩
          rw [← hz] at n2 ⊢
          rw [n1, n2]
          obtain ⟨w8, hw8⟩ : ∃ z', z' = w7.alloc (.cells #[.int .i64 (t2 : Int), .int .i64 z.t, .slice A9 z.vs.length a9, .slice C9 z.ls.length c9, .slice D9 z.ds.length d9] 43) := ⟨_, rfl⟩
          have hb8 : Below w7.heap.size w7 w8 := by rw [hw8]; exact (Below.refl _ _).alloc (Nat.le_refl _) _
          have HB8 : Hid (Below w.heap.size w w8) := Lib.hid (HB7.out.trans (hb8.mono HB7.out.size))
          have HA8 := Lib.hid (HA7.out.below hb8)
          have HNM := Lib.hid (L_Names (HD7.out.below hb8))
          have HW8 := Lib.hid hw8
          have hnl : (snames ⟨old l', false, 0⟩).length = min t2 1 := n3
          clear hw8 hb8 hz n1 n2 n3
          rcases Nat.eq_zero_or_pos t2 with h0 | h0
          · exact absurd h0 (by omega)
          · have h1 : decide (0 < t2) = true := decide_eq_true h0
            have h2 : (0 : Int) < (t2 : Int) := by omega
            have h3 : min (t2 : Int) 1 = 1 := by omega
            have h4 : min t2 1 = 1 := by omega
            rw [h1]
            rw [h4] at hnl
            go_wp2_with fail
            rw [← HW8.out]
            (with_reducible refine HNM.out.mono ?_); rintro e w9 ⟨A11, c11, rfl, -, -, hb9⟩
            have HB9 : Hid (Below w.heap.size w w9) := Lib.hid (HB8.out.trans (hb9.mono HB8.out.size))
            have HA9 := Lib.hid (HA8.out.below hb9)
            clear hb9
            go_wp2_with fail
            go_roundw
            case rel => exact ⟨k + 1, t2, HLT.out, by omega, by go_num, ht1023, rfl, l', Lib.hid HTP2.out, HA9.out, HB9.out⟩
            case measure => simp [intOf]; have := HLT.out; omega
    · have hke : ¬ (k : Int) < (xs.length : Int) := by omega
      clear hlt
      go_wp2_with fail
      go_ret
      exact ⟨rfl, HBW.out⟩
end Go.Proofs.YtfpomllhkbbipaaGreatDoor
