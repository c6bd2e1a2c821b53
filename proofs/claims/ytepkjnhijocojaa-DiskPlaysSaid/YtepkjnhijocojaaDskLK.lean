/- Layer 5: the walk of the law DiskKeeps. -/
import Derived.Test.YtepkjnhijocojaaDskT3
import Derived.Test.YtepkjnhijocojaaDskQ5
namespace Go.Proofs.Ytepkjnhijocojaa
open Go.RowKit Go.Maps Mem Dsk

theorem Dsk.Calm.any {s : S} (h : Dsk.Calm s) (kind : Int) (a z : Name) (n : Int) (b : List UInt8) : Calm (doStep s kind a z n b).1 := by
  unfold doStep
  split
  · exact h.create a
  · split
    · exact h.remove a
    · split
      · exact h.rename a z
      · split
        · exact h.write a n b
        · split
          · exact h.cut a n
          · exact h.sync a
theorem boolT : SliceT Try.prog 22 4 (.bool false) 1 := sliceT_mk Try.underlying22 rfl (by kernel_rfl)
def AllRel (w : World) (n g : Nat) (iv : Value) (wr : World) : Prop :=
  ∃ k : Nat, k ≤ n ∧ iv = .int .i64 k ∧ Own fBool w.heap.size 4 wr (.slice (some ⟨g, 0, none⟩) n n) (List.replicate k true ++ List.replicate (n - k) false) ∧ Below w.heap.size w wr
set_option maxHeartbeats 1000000 in
theorem all_any (n : Nat) (hn : n ≤ 1000000) (w : World) :
    Calls Try.prog 24 #[.int .i64 n] w fun e w' => ∃ A c, e = .returned (.slice A n c) ∧ SlB fBool 4 (fun g => w.heap.size ≤ g) w' A (List.replicate n true) ∧ Below w.heap.size w w' := by
  have hmk := run_makeT (P := Try.prog) boolT rfl .i64 .i64 (n : Int) n rfl (by omega) (by omega)
  go_enter Try.func24, Try.ntmps24
  go_wp2_with fail
  go_loopw [9] (fun iv wr => AllRel w n w.heap.size iv wr) (fun iv _ => n - (intOf iv).toNat)
  case atStart => exact ⟨0, Nat.zero_le _, rfl, Own.made_ (f := fBool) false n (maxLen_small hn) (Nat.le_refl _), (Below.refl _ _).alloc (Nat.le_refl _) _⟩
  case round =>
    obtain ⟨k, hk, rfl, hown, hbw⟩ := hrel
    have HOWN := Lib.hid hown; clear hown
    have HBW := Lib.hid hbw; clear hbw
    by_cases hlt : k < n
    · obtain ⟨g, hg, _, _, hcell, hfz⟩ := HOWN.out.slot (k := k) (by simp; omega)
      injection hg with hg; injection hg with hg
      subst hg
      go_wp2_with fail
      go_roundw
      case rel => exact ⟨k + 1, by omega, by go_num, by have := HOWN.out.set_ (k := k) (by simp; omega) true; rw [fill_step _ _ hlt] at this; exact this, HBW.out.setCell (Nat.le_refl _) _⟩
      case measure => simp [intOf]; omega
    · have hkn : k = n := by omega
      have HO : Hid (Own fBool w.heap.size 4 wr (.slice (some ⟨w.heap.size, 0, none⟩) n n) (List.replicate n true)) := by
        have h1 := HOWN.out; rw [hkn] at h1; have h2 : Own fBool w.heap.size 4 wr (.slice (some ⟨w.heap.size, 0, none⟩) n n) (List.replicate n true) := by simpa using h1
        exact h2
      clear HOWN hkn
      go_wp2_with fail
      go_ret
      exact ⟨_, _, rfl, (SlB.of_own HO.out).2, HBW.out⟩
theorem D.small {B p : Nat} {s : S} {w : World} (h : D B p s w) : ∀ f ∈ s.files, f.name.length ≤ 16 := by
  obtain ⟨mb, rs, h⟩ := h.at_
  intro f hf
  rw [← h.files] at hf
  obtain ⟨r, hr, rfl⟩ := List.mem_map.1 hf
  have h1 := (h.recs r hr).2.2.2.2.2.2.2.2.2.2
  unfold named at h1
  simp only [Bool.and_eq_true, decide_eq_true_eq] at h1
  exact h1.2
theorem D.loose_le {B p : Nat} {s : S} {w : World} (h : D B p s w) : looseN s ≤ 524288 := by
  obtain ⟨mb, rs, h⟩ := h.at_
  have h1 := sumL_le (L := fun _ => true) (rs := rs) (fun x hx => (h.recs x hx).2.2.2.2.2.2.2.2.1)
  rw [h.sum (fun _ _ => rfl)] at h1
  have h2 := h.count
  rw [← h.files, List.length_map] at h2
  exact Nat.le_trans h1 (Nat.mul_le_mul_right 2048 h2)
def KeRel (B p q : Nat) (w : World) (kv uv : Value) (wr : World) : Prop :=
  ∃ (k : Nat) (u : Int) (s : S) (F : Nat → Prop), kv = .int .i64 k ∧ uv = .int .i64 u ∧ Two F B p q s s wr ∧ Dsk.Calm s ∧ Below B w wr
theorem sname_mk (l : Name) : sname ⟨l.toArray⟩ = l := by unfold sname; simp
theorem read_pair {s : S} {n : Name} {P : List UInt8} (h : (Dsk.read s n).1 = P) : Dsk.read s n = (P, (Dsk.read s n).2) := by rw [← h]
set_option maxRecDepth 100000 in
set_option maxHeartbeats 8000000 in
theorem diskKeeps_walk {w : World} (A : Option Addr) (ca : Nat) (ops : List OpR) (hops : Script w.heap.size w A ops) (nm : ByteArray) (hnm : nm.size ≤ maxLen)
    (Bb : Option Addr) (cb : Nat) (bs : List UInt8) (_ : bs.length ≤ cb) (_ : cb ≤ maxLen) (hsb : Sl fB w Bb bs) (_ : ∀ x ∈ bs, True) (_ : Room 1 bs.length)
    (x : Int) (wx : (Lit.int .i64 x).wf = true)
    (Cm : Option Addr) (cm : Nat) (ms : List UInt8) (_ : ms.length ≤ cm) (_ : cm ≤ maxLen) (hsm : Sl fB w Cm ms) (_ : ∀ x ∈ ms, True) (_ : Room 1 ms.length) :
    Calls Try.prog 6 #[.slice A ops.length ca, .string nm, .slice Bb bs.length cb, .int .i64 x, .slice Cm ms.length cm] w fun e w' => e = .returned (.bool true) ∧ Below w.heap.size w w' := by
  obtain ⟨tb, htb⟩ := hsb.old
  obtain ⟨tm, htm⟩ := hsm.old
  have hlo := hops.1
  unfold maxLen at hlo
  have HOPS := Lib.hid hops; clear hops
  have HNM := Lib.hid hnm; clear hnm
  clear hsb hsm
  go_enter Try.func6, Try.ntmps6
  go_wp2_with fail
  (with_reducible refine (L_New w w.heap.size (Nat.le_refl _)).mono ?_); rintro e w1 ⟨p, rfl, hd1, hp, hb1⟩
  have HB1 := Lib.hid hb1; clear hb1
  go_wp2_with fail
  (with_reducible refine (New_any w1).mono ?_); rintro e w2 ⟨q, rfl, hd2, hb2⟩
  have htw2 := Two.start hd1 hb2 hd2
  have HB2 : Hid (Below w.heap.size w w2) := HB1.out.trans (hb2.mono HB1.out.size)
  clear hd1 hd2 hb2 HB1
  go_wp2_with fail
  (with_reducible refine (alive_any w2).mono ?_); rintro e w3 ⟨rfl, hb3⟩
  have htw3 := htw2.below hb3
  have HB3 : Hid (Below w.heap.size w w3) := HB2.out.trans (hb3.mono HB2.out.size)
  clear htw2 hb3 HB2
  go_wp2_with fail
  go_loopw [13, 41] (fun uv kv wr => KeRel w.heap.size p q w kv uv wr) (fun _ kv _ => ops.length - (intOf kv).toNat)
  case atStart => exact ⟨0, 0, s0, _, rfl, rfl, htw3, ⟨rfl, rfl, fun f hf => by cases hf⟩, HB3.out⟩
  case round =>
    obtain ⟨k, u, s, F, rfl, rfl, htw, hcalm, hb⟩ := hrel
    have HB := Lib.hid hb; clear hb
    have HCALM := Lib.hid hcalm; clear hcalm
    by_cases hlt : k < ops.length
    · have hops := HOPS.out.under HB.out
      obtain ⟨b, o, rfl, hbB, hcell⟩ := hops.at hlt
      have hok := hops.ok hlt
      clear hops
      obtain ⟨op, hop⟩ : ∃ op, op = ops[k] := ⟨_, rfl⟩
      rw [← hop] at hcell hok
      clear hop
      have HOK := Lib.hid hok; clear hok
      obtain ⟨kind, a, z, n, oA, oc, obs, oK, od, okeep⟩ := op
      have i0 : wr.cell? ⟨b, o + k * 6, none⟩ = some (.int .i64 kind) := hcell 0 (by decide)
      have i1 : wr.cell? ⟨b, o + k * 6 + 1, none⟩ = some (.string a) := hcell 1 (by decide)
      have i2 : wr.cell? ⟨b, o + k * 6 + 2, none⟩ = some (.string z) := hcell 2 (by decide)
      have i3 : wr.cell? ⟨b, o + k * 6 + 3, none⟩ = some (.int .i64 n) := hcell 3 (by decide)
      have i4 : wr.cell? ⟨b, o + k * 6 + 4, none⟩ = some (.slice oA obs.length oc) := hcell 4 (by decide)
      have i5 : wr.cell? ⟨b, o + k * 6 + 5, none⟩ = some (.slice oK okeep.length od) := hcell 5 (by decide)
      clear hcell
      have hab : Below wr.heap.size wr (wr.alloc (.cells #[.int .i64 kind, .string a, .string z, .int .i64 n, .slice oA obs.length oc, .slice oK okeep.length od] 45)) := (Below.refl _ _).alloc (Nat.le_refl _) _
      have htwa := htw.below hab
      have hpro := htw.one.protect (G2 := fun g => g = wr.heap.size) hab (fun g hg => by subst hg; exact ⟨Nat.le_refl _, by rw [World.size_alloc]; omega⟩)
      have hbox : Blk (wr.alloc (.cells #[.int .i64 kind, .string a, .string z, .int .i64 n, .slice oA obs.length oc, .slice oK okeep.length od] 45)) wr.heap.size 45 #[.int .i64 kind, .string a, .string z, .int .i64 n, .slice oA obs.length oc, .slice oK okeep.length od] := Blk.new_ wr _ _
      have HBA : Hid (Below w.heap.size w (wr.alloc (.cells #[.int .i64 kind, .string a, .string z, .int .i64 n, .slice oA obs.length oc, .slice oK okeep.length od] 45))) := HB.out.trans (hab.mono HB.out.size)
      have HOKA : Hid (OpOK w.heap.size (wr.alloc (.cells #[.int .i64 kind, .string a, .string z, .int .i64 n, .slice oA obs.length oc, .slice oK okeep.length od] 45)) ⟨kind, a, z, n, oA, oc, obs, oK, od, okeep⟩) := HOK.out.under (hab.mono HB.out.size)
      have HBOX := Lib.hid hbox; clear hbox
      clear hab htw HOK
      by_cases c1 : kind < 1
      · go_wp2_with fail
        go_roundw
        case rel => exact ⟨k + 1, _, s, F, by go_num, rfl, htwa, HCALM.out, HBA.out⟩
        case measure => simp [intOf]; omega
      by_cases c6 : 6 < kind
      · go_wp2_with fail
        go_roundw
        case rel => exact ⟨k + 1, _, s, F, by go_num, rfl, htwa, HCALM.out, HBA.out⟩
        case measure => simp [intOf]; omega
      by_cases cu : 20000 < wrap64 (u + (obs.length : Int))
      · go_wp2_with fail
        go_roundw
        case rel => exact ⟨k + 1, _, s, F, by go_num, rfl, htwa, HCALM.out, HBA.out⟩
        case measure => simp [intOf]; omega
      have hst : Calls Try.prog 23 #[.pointer (some ⟨p, 0, none⟩), .agg #[.int .i64 kind, .string a, .string z, .int .i64 n, .slice oA obs.length oc, .slice oK okeep.length od]] _ _ := step_walkX hpro ⟨kind, a, z, n, oA, oc, obs, oK, od, okeep⟩ HOKA.out (prod_eta _)
      have HST := Lib.hid hst; clear hst hpro
      have HCS := Lib.hid (HCALM.out.any kind (sname a) (sname z) n obs)
      go_wp2_with fail
      (with_reducible refine HST.out.mono ?_); rintro e w6 ⟨rfl, hd6, hb6, hk6⟩
      have htw6 := htwa.first (hd6.weaken (fun _ h => .inl h)) hb6 (fun g hg => hk6 g (.inl hg))
      have hbox6 : Blk w6 wr.heap.size 45 #[.int .i64 kind, .string a, .string z, .int .i64 n, .slice oA obs.length oc, .slice oK okeep.length od] := (hk6 _ (.inr rfl)).trans HBOX.out
      have j0 : w6.cell? ⟨wr.heap.size, 0, none⟩ = some (.int .i64 kind) := hbox6.cell 0
      have j1 : w6.cell? ⟨wr.heap.size, 1, none⟩ = some (.string a) := hbox6.cell 1
      have j2 : w6.cell? ⟨wr.heap.size, 2, none⟩ = some (.string z) := hbox6.cell 2
      have j3 : w6.cell? ⟨wr.heap.size, 3, none⟩ = some (.int .i64 n) := hbox6.cell 3
      have j4 : w6.cell? ⟨wr.heap.size, 4, none⟩ = some (.slice oA obs.length oc) := hbox6.cell 4
      have j5 : w6.cell? ⟨wr.heap.size, 5, none⟩ = some (.slice oK okeep.length od) := hbox6.cell 5
      have HB6 : Hid (Below w.heap.size w w6) := HBA.out.trans hb6
      have hst2 : Calls Try.prog 23 #[.pointer (some ⟨q, 0, none⟩), .agg #[.int .i64 kind, .string a, .string z, .int .i64 n, .slice oA obs.length oc, .slice oK okeep.length od]] _ _ := step_walkX htw6.snd ⟨kind, a, z, n, oA, oc, obs, oK, od, okeep⟩ (HOKA.out.under hb6) (prod_eta _)
      have HST2 := Lib.hid hst2; clear hst2
      have HTW6 := Lib.hid htw6; clear htw6
      clear hb6 hk6 hd6 hbox6 HBOX HBA HST htwa
      go_wp2_with fail
      (with_reducible refine HST2.out.mono ?_); rintro e w7 ⟨rfl, hd7, hb7, hk7⟩
      have htw7 := HTW6.out.second hd7 hb7 hk7
      go_wp2_with fail
      go_roundw
      case rel => exact ⟨k + 1, _, _, _, by go_num, rfl, htw7, HCS.out, HB6.out.trans hb7⟩
      case measure => simp [intOf]; omega
    · obtain ⟨M, hM⟩ : ∃ M, M = looseN s := ⟨_, rfl⟩
      have hM1 : M ≤ 524288 := by rw [hM]; exact htw.left.loose_le
      have HMM := Lib.hid hM; clear hM
      go_wp2_with fail
      (with_reducible refine (L_Loose htw.left (k := (M : Int)) (by rw [HMM.out])).mono ?_); rintro e w6 ⟨rfl, _, hb6⟩
      have htw6 := htw.below hb6
      have HB6 : Hid (Below w.heap.size w w6) := HB.out.trans (hb6.mono HB.out.size)
      clear htw hb6 HB
      go_wp2_with fail
      (with_reducible refine (all_any M (by omega) w6).mono ?_); rintro e w7 ⟨A7, c7, rfl, hs7, hb7⟩
      have htw7 := htw6.below hb7
      have HB7 : Hid (Below w.heap.size w w7) := HB6.out.trans (hb7.mono HB6.out.size)
      have hcr := X_Crash htw7.one (c := c7) hs7 (.inl (by decide)) (s' := allKept s) (by rw [HMM.out]; exact HCALM.out.crash_all)
      rw [List.length_replicate] at hcr
      have HCR := Lib.hid hcr; clear hcr hs7
      clear htw6 hb7 HB6
      go_wp2_with fail
      (with_reducible refine HCR.out.mono ?_); rintro e w8 ⟨rfl, hd8, hb8, hk8⟩
      have htw8 := htw7.first hd8 hb8 hk8
      have HB8 : Hid (Below w.heap.size w w8) := HB7.out.trans hb8
      clear htw7 hb8 HB7 HCR hd8 hk8
      go_wp2_with fail
      (with_reducible refine (L_Names htw8.right).mono ?_); rintro e w9 ⟨A9, c9, rfl, hs9, _, hb9⟩
      have htw9 := htw8.below hb9
      have HB9 : Hid (Below w.heap.size w w9) := HB8.out.trans (hb9.mono HB8.out.size)
      have HS9 := Lib.hid hs9.sl; clear hs9
      clear htw8 hb9 HB8
      have hsn : snames (allKept s) = snames s := allKept_names s
      have HSN := Lib.hid hsn; clear hsn
      have hnl : (snames (allKept s)).length = (snames s).length := by rw [HSN.out]
      have hsmall := htw9.right.small
      have HSMALL := Lib.hid hsmall; clear hsmall
      go_wp2_with fail
      (with_reducible refine (L_Names htw9.left).mono ?_); rintro e w10 ⟨A10, c10, rfl, _, _, hb10⟩
      have htw10 := htw9.below hb10
      have HB10 : Hid (Below w.heap.size w w10) := HB9.out.trans (hb10.mono HB9.out.size)
      have HS10 := Lib.hid (HS9.out.below hb10); clear HS9
      clear htw9 hb10 HB9
      go_wp2_with fail
      (with_reducible refine (L_Loose htw10.left (k := 0) (by rw [allKept_loose]; decide)).mono ?_); rintro e w11 ⟨rfl, _, hb11⟩
      have htw11 := htw10.below hb11
      have HB11 : Hid (Below w.heap.size w w11) := HB10.out.trans (hb11.mono HB10.out.size)
      have HS11 := Lib.hid (HS10.out.below hb11); clear HS10
      clear htw10 hb11 HB10
      go_wp2_with fail
      (with_reducible refine (L_Names htw11.left).mono ?_); rintro e w12 ⟨A12, c12, rfl, hs12, _, hb12⟩
      have htw12 := htw11.below hb12
      have HB12 : Hid (Below w.heap.size w w12) := HB11.out.trans (hb12.mono HB11.out.size)
      have HS12 := Lib.hid (HS11.out.below hb12); clear HS11
      rw [HSN.out] at hs12
      have HD12 := Lib.hid hs12.sl; clear hs12
      have hln := HS12.out.len
      clear htw11 hb12 HB11
      go_wp2_with fail
      go_loopw [90] (fun iv wr => ∃ i : Nat, i ≤ (snames s).length ∧ iv = .int .i64 i ∧ Below w12.heap.size w12 wr) (fun iv _ => (snames s).length - (intOf iv).toNat)
      case atStart => exact ⟨0, Nat.zero_le _, rfl, Below.refl _ _⟩
      case round =>
        obtain ⟨i, hi, rfl, hbw⟩ := hrel
        have HBW := Lib.hid hbw; clear hbw
        have htwr := htw12.below HBW.out
        by_cases hil : i < (snames s).length
        · obtain ⟨b1, o1, rfl, _, hc1⟩ := (HS12.out.below HBW.out).at hil
          obtain ⟨b2, o2, rfl, _, hc2⟩ := (HD12.out.below HBW.out).at hil
          have d1 := hc1 i hil
          have d2 := hc2 i hil
          clear hc1 hc2
          obtain ⟨N, hN⟩ : ∃ N, N = (snames s)[i] := ⟨_, rfl⟩
          have hN16 : N.length ≤ 16 := by
            rw [hN]
            have := List.getElem_mem hil
            unfold snames at this
            obtain ⟨f, hf, e⟩ := List.mem_map.1 this
            have h2 := HSMALL.out f hf
            rw [e] at h2
            exact h2
          rw [← hN] at d1 d2
          clear hN
          unfold encStr at d1 d2
          have hsz : (⟨N.toArray⟩ : ByteArray).size ≤ maxLen := maxLen_small (by show N.toArray.size ≤ _; simp; omega)
          obtain ⟨P, hP⟩ : ∃ P, P = (Dsk.read s (sname ⟨N.toArray⟩)).1 := ⟨_, rfl⟩
          have HP := Lib.hid hP; clear hP
          have HSZ := Lib.hid hsz; clear hsz
          go_wp2_with fail
          (with_reducible refine (L_Read htwr.left _ HSZ.out (bs := P) (read_pair (by rw [HP.out]; exact allKept_read HCALM.out _)) rfl).mono ?_); rintro e w13 ⟨A13, c13, rfl, hs13, _, _, _, hb13⟩
          have HB13 : Hid (Below w12.heap.size w12 w13) := HBW.out.trans (hb13.mono HBW.out.size)
          have htw13 := htwr.below hb13
          have HS13 := Lib.hid hs13.sl
          have e1 : w13.cell? ⟨b1, o1 + i, none⟩ = some (.string ⟨N.toArray⟩) := (hb13.cell (p := ⟨b1, o1 + i, none⟩) (lt_of_cell d1)).trans d1
          clear hs13 hb13 htwr
          go_wp2_with fail
          (with_reducible refine (L_Read htw13.right _ HSZ.out (bs := P) (read_pair HP.out.symm) rfl).mono ?_); rintro e w14 ⟨A14, c14, rfl, hs14, _, _, _, hb14⟩
          have HB14 : Hid (Below w12.heap.size w12 w14) := HB13.out.trans (hb14.mono HB13.out.size)
          have hsb := SameBytes_any A13 A14 c13 c14 P P w14 (HS13.out.below hb14) hs14.sl
          have HSB := Lib.hid hsb
          have f1 : w14.cell? ⟨b1, o1 + i, none⟩ = some (.string ⟨N.toArray⟩) := (hb14.cell (p := ⟨b1, o1 + i, none⟩) (lt_of_cell e1)).trans e1
          clear hsb hs14 hb14 htw13 d1 e1
          go_wp2_with fail
          (with_reducible refine HSB.out.mono ?_); rintro e w15 ⟨rfl, k15, rfl⟩
          go_wp2_with fail
          go_roundw
          case rel => exact ⟨i + 1, by omega, by go_num, below_drewN HB14.out k15⟩
          case measure => simp [intOf]; omega
        · have hd := htwr.left
          have HBr : Hid (Below w.heap.size w wr) := HB12.out.trans (HBW.out.mono HB12.out.size)
          clear htwr htw12 HB12 HBW HS12 HD12
          have hc0 : Dsk.Calm (allKept s) := HCALM.out.allKept
          have hc1 := hc0.create (sname nm)
          obtain ⟨s3, hs3⟩ : ∃ s3, s3 = (Dsk.create (allKept s) (sname nm)).1 := ⟨_, rfl⟩
          rw [← hs3] at hc1
          have hcreate := L_Create hd nm HNM.out (s' := s3) (k := (Dsk.create (allKept s) (sname nm)).2) (by rw [hs3]) rfl
          have HCC := Lib.hid hcreate; clear hcreate hs3
          have hc2 := hc1.write (sname nm) 0 bs
          obtain ⟨s4, hs4⟩ : ∃ s4, s4 = (Dsk.write s3 (sname nm) 0 bs).1 := ⟨_, rfl⟩
          obtain ⟨k4, hk4⟩ : ∃ k4, k4 = (Dsk.write s3 (sname nm) 0 bs).2 := ⟨_, rfl⟩
          have h4 : Dsk.write s3 (sname nm) 0 bs = (s4, k4) := by rw [hs4, hk4]
          rw [← hs4] at hc2
          clear hs4 hk4
          have H4 := Lib.hid h4; clear h4
          go_wp2_with fail
          (with_reducible refine HCC.out.mono ?_); rintro e v1 ⟨rfl, hd1, hb1⟩
          have HV1 : Hid (Below w.heap.size w v1) := HBr.out.trans hb1
          clear hb1 HBr hd HCC
          by_cases hk4 : k4 = 0
          · subst hk4
            go_wp2_with fail
            (with_reducible refine (L_Write hd1 _ HNM.out _ (by decide) (htb.under HV1.out) (Nat.not_lt.2 hd1.ge) (ki := 0) H4.out rfl).mono ?_); rintro e v2 ⟨rfl, hd2, hb2⟩
            have HV2 : Hid (Below w.heap.size w v2) := HV1.out.trans hb2
            clear hb2 HV1 hd1
            obtain ⟨s5, hs5⟩ : ∃ s5, s5 = (Dsk.sync s4 (sname nm)).1 := ⟨_, rfl⟩
            obtain ⟨k5, hk5⟩ : ∃ k5, k5 = (Dsk.sync s4 (sname nm)).2 := ⟨_, rfl⟩
            have h5 : Dsk.sync s4 (sname nm) = (s5, k5) := by rw [hs5, hk5]
            clear hs5 hk5
            have H5 := Lib.hid h5; clear h5
            by_cases hk5 : k5 = 0
            · subst hk5
              obtain ⟨K, hrd, hsy⟩ := sync_ok hc2 H5.out
              have HRD := Lib.hid hrd; clear hrd
              have HSY := Lib.hid hsy; clear hsy
              go_wp2_with fail
              (with_reducible refine (L_Sync hd2 _ HNM.out (ki := 0) H5.out rfl).mono ?_); rintro e v3 ⟨rfl, hd3, hb3⟩
              have HV3 : Hid (Below w.heap.size w v3) := HV2.out.trans hb3
              clear hb3 HV2 hd2
              go_wp2_with fail
              (with_reducible refine (L_Read hd3 _ HNM.out (ki := 0) HRD.out rfl).mono ?_); rintro e v4 ⟨A4, c4, rfl, hs4, _, _, hd4, hb4⟩
              have HV4 : Hid (Below w.heap.size w v4) := HV3.out.trans (hb4.mono HV3.out.size)
              have hdx : DX (fun g => v3.heap.size ≤ g ∧ g < v4.heap.size) w.heap.size p s5 v4 := hd3.protect hb4 (fun g hg => hg)
              have HW4 : Hid (SlB fB 5 (fun g => v3.heap.size ≤ g ∧ g < v4.heap.size) v4 A4 K) := hs4.mono (fun g hl hg => ⟨hg, hl⟩)
              clear hb4 HV3 hd3 hd4 hs4
              go_wp2_with fail
              (with_reducible refine (X_Write hdx _ HNM.out x wx (htm.under HV4.out) (Nat.not_lt.2 hdx.ge) (prod_eta _) rfl).mono ?_); rintro e v5 ⟨rfl, hdx5, hb5, hk5⟩
              have HV5 : Hid (Below w.heap.size w v5) := HV4.out.trans hb5
              have HW5 := Lib.hid (HW4.out.kept hk5 (fun _ h => h))
              clear hb5 hk5 HV4 HW4 hdx
              have hcr := X_Crash hdx5 (K := none) (c := 0) (keep := []) (te := 0) (F := fun _ => False) SlB.nil (.inr (fun _ h => h.elim)) rfl
              rw [List.length_nil] at hcr
              have HCR := Lib.hid hcr; clear hcr hdx5
              go_wp2_with fail
              (with_reducible refine HCR.out.mono ?_); rintro e v6 ⟨rfl, hdx6, hb6, hk6⟩
              have HV6 : Hid (Below w.heap.size w v6) := HV5.out.trans hb6
              have HW6 := Lib.hid (HW5.out.kept hk6 (fun _ h => h))
              clear hb6 hk6 HV5 HW5 HCR
              go_wp2_with fail
              (with_reducible refine (L_Read hdx6.drop _ HNM.out (ki := 0) ((HSY.out.write x ms).crash) rfl).mono ?_); rintro e v7 ⟨A7, c7, rfl, hs7, _, _, _, hb7⟩
              have HV7 : Hid (Below w.heap.size w v7) := HV6.out.trans (hb7.mono HV6.out.size)
              have hsb := SameBytes_any A4 A7 c4 c7 K K v7 (HW6.out.sl.below hb7) hs7.sl
              have HSB := Lib.hid hsb; clear hsb hs7 hb7 hdx6 HV6 HW6
              go_wp2_with fail
              (with_reducible refine HSB.out.mono ?_); rintro e v8 ⟨rfl, k8, rfl⟩
              go_wp2_with fail
              go_ret
              exact ⟨rfl, below_drewN HV7.out k8⟩
            · have t5 : ((k5 : Int) != 0) = true := by rw [bne_iff_ne]; omega
              clear hk5
              go_wp2_with fail
              (with_reducible refine (L_Sync hd2 _ HNM.out (ki := (k5 : Int)) H5.out rfl).mono ?_); rintro e v3 ⟨rfl, hd3, hb3⟩
              go_wp2_with fail
              go_ret
              exact ⟨rfl, HV2.out.trans hb3⟩
          · have t4 : ((k4 : Int) != 0) = true := by rw [bne_iff_ne]; omega
            clear hk4
            go_wp2_with fail
            (with_reducible refine (L_Write hd1 _ HNM.out _ (by decide) (htb.under HV1.out) (Nat.not_lt.2 hd1.ge) (ki := (k4 : Int)) H4.out rfl).mono ?_); rintro e v2 ⟨rfl, hd2, hb2⟩
            go_wp2_with fail
            go_ret
            exact ⟨rfl, HV1.out.trans hb2⟩
end Go.Proofs.Ytepkjnhijocojaa
