/- Layer 5: the walk of the law DiskPlays. -/
import Derived.Test.YtepkjnhijocojaaR5j
import Derived.Test.YtepkjnhijocojaaDskLK
import Derived.Deep.CutBlock
namespace Go.Proofs.Ytepkjnhijocojaa
open Go.RowKit Go.Maps Mem Dsk

def PyRel (B p bm : Nat) (w : World) (uv kv : Value) (wr : World) : Prop :=
  ∃ (k : Nat) (u : Int) (s : S) (G : Nat → Prop), kv = .int .i64 k ∧ uv = .int .i64 u ∧ Pl G B p bm s s wr ∧ Below B w wr
def PyMid (B p bm : Nat) (w wx : World) : Prop := ∃ (s : S) (G : Nat → Prop), Pl G B p bm s s wx ∧ Below B w wx
set_option maxRecDepth 100000 in
set_option maxHeartbeats 8000000 in
theorem diskPlays_walk {w : World} (A : Option Addr) (ca : Nat) (ops : List OpR) (hops : Script w.heap.size w A ops) :
    Calls Try.prog 8 #[.slice A ops.length ca] w fun e w' => e = .returned (.bool true) ∧ Below w.heap.size w w' := by
  have hlo := hops.1
  unfold maxLen at hlo
  have HOPS := Lib.hid hops; clear hops
  go_enter Try.func8, Try.ntmps8
  go_wp2_with fail
  (with_reducible refine (L_New w w.heap.size (Nat.le_refl _)).mono ?_); rintro e w1 ⟨p, rfl, hd1, hp, hb1⟩
  have HB1 := Lib.hid hb1; clear hb1
  go_wp2_with fail
  (with_reducible refine (alive_any w1).mono ?_); rintro e w2 ⟨rfl, hb2⟩
  have hd2 := hd1.below hb2
  have HB2 : Hid (Below w.heap.size w w2) := HB1.out.trans (hb2.mono HB1.out.size)
  clear hd1 hb2 HB1
  go_upto_region 5 with fail
  obtain ⟨w3, hw3⟩ : ∃ x, x = w2.alloc (.cells #[.slice none 0 0, .bool false, .int .i64 0] 52) := ⟨_, rfl⟩
  rw [← hw3]
  have hpl : Pl (fun g => w2.heap.size ≤ g ∧ g < w3.heap.size) w.heap.size p w2.heap.size s0 s0 w3 := by
    have hb : Below w2.heap.size w2 w3 := by rw [hw3]; exact (Below.refl _ _).alloc (Nat.le_refl _) _
    refine ⟨hd2.protect hb (fun g hg => hg), ⟨Nat.le_refl _, by rw [hw3, World.size_alloc]; omega⟩, HB2.out.size, none, 0, [], by rw [hw3]; exact Blk.new_ _ _ _, ⟨?_, fun r hr => by cases hr⟩, rfl⟩
    exact SlK.nil
  have HB3 : Hid (Below w.heap.size w w3) := by rw [hw3]; exact HB2.out.alloc HB2.out.size _
  clear hd2 HB2
  obtain ⟨bm, hbm⟩ : ∃ x, x = w2.heap.size := ⟨_, rfl⟩
  rw [← hbm] at hpl ⊢
  clear hbm hw3
  go_wp2_with fail
  go_loopw [5, 26] (fun uv kv wr => PyRel w.heap.size p bm w uv kv wr) (fun _ kv _ => ops.length - (intOf kv).toNat)
  case atStart => exact ⟨0, 0, s0, _, rfl, rfl, hpl, HB3.out⟩
  case round =>
    clear hpl HB3
    obtain ⟨k, u, s, G, rfl, rfl, hpl, hb⟩ := hrel
    by_cases hlt : k < ops.length
    · have HOP := Lib.hid (HOPS.out.under hb)
      obtain ⟨b, o, rfl, hbB, hcell⟩ := HOP.out.at hlt
      have hok := HOP.out.ok hlt
      clear HOP
      obtain ⟨op, hop⟩ : ∃ op, op = ops[k] := ⟨_, rfl⟩
      rw [← hop] at hcell hok
      clear hop
      have HOK := Lib.hid hok; clear hok
      obtain ⟨kind, a, z, n, oA, oc, obs, oK, od, okeep⟩ := op
      have i0 : wr.cell? ⟨b, o + k * 6, none⟩ = some (.int .i64 kind) := hcell 0 (by decide)
      have i1 : wr.cell? ⟨b, o + k * 6 + 1, none⟩ = some (.string a) := hcell 1 (by decide)
      have i2 : wr.cell? ⟨b, o + k * 6 + 2, none⟩ = some (.string z) := hcell 2 (by decide)
      have i3 : wr.cell? ⟨b, o + k * 6 + 3, none⟩ = some (.int .i64 n) := hcell 3 (by decide)
      have i4 : wr.cell? ⟨b, o + k * 6 + 4, none⟩ = some (.slice oA obs.length oc) := hcell 4 (by decide)
      have i5 : wr.cell? ⟨b, o + k * 6 + 5, none⟩ = some (.slice oK okeep.length od) := hcell 5 (by decide)
      clear hcell
      have HB := Lib.hid hb; clear hb
      have HPL := Lib.hid hpl; clear hpl
      go_upto_region 9 with fail
      obtain ⟨wa, hwa⟩ : ∃ x, x = wr.alloc (.cells #[.int .i64 kind, .string a, .string z, .int .i64 n, .slice oA obs.length oc, .slice oK okeep.length od] 45) := ⟨_, rfl⟩
      rw [← hwa]
      have hab : Below wr.heap.size wr wa := by rw [hwa]; exact (Below.refl _ _).alloc (Nat.le_refl _) _
      have hbox : Blk wa wr.heap.size 45 #[.int .i64 kind, .string a, .string z, .int .i64 n, .slice oA obs.length oc, .slice oK okeep.length od] := by rw [hwa]; exact Blk.new_ wr _ _
      clear hwa i0 i1 i2 i3 i4 i5
      have HBA : Hid (Below w.heap.size w wa) := HB.out.trans (hab.mono HB.out.size)
      have HOKA : Hid (OpOK w.heap.size wa ⟨kind, a, z, n, oA, oc, obs, oK, od, okeep⟩) := HOK.out.under (hab.mono HB.out.size)
      -- the step's box is kept as well
      have hpl0 := HPL.out.below hab
      have hpla : Pl (fun g => G g ∨ g = wr.heap.size) w.heap.size p bm s s wa := by
        obtain ⟨A1, c1, rs1, h1, h2, h3⟩ := hpl0.ref
        exact ⟨HPL.out.dx.protect (G2 := fun g => g = wr.heap.size) hab (fun g hg => by subst hg; exact ⟨Nat.le_refl _, hbox.lt⟩), .inl hpl0.box, hpl0.big, A1, c1, rs1, h1, h2.mono (fun _ _ h => .inl h), h3⟩
      have HPLA := Lib.hid hpla; clear hpl0 hpla hab HPL HB HOK
      have HBOX := Lib.hid hbox; clear hbox
      have j0 : wa.cell? ⟨wr.heap.size, 0, none⟩ = some (.int .i64 kind) := HBOX.out.cell 0
      have j4 : wa.cell? ⟨wr.heap.size, 4, none⟩ = some (.slice oA obs.length oc) := HBOX.out.cell 4
      by_cases cu : 20000 < wrap64 (u + (obs.length : Int))
      · go_wp2_with fail
        go_ret
        exact ⟨rfl, HBA.out⟩
      go_upto_block 2 with fail
      go_cut [] (fun wx => PyMid w.heap.size p bm w wx)
      case first =>
        have j1 : wa.cell? ⟨wr.heap.size, 1, none⟩ = some (.string a) := HBOX.out.cell 1
        have hinv := HPLA.out.inv
        have HINV := Lib.hid hinv; clear hinv
        by_cases h16 : 1 ≤ kind ∧ kind ≤ 6
        · obtain ⟨h1, h6⟩ := h16
          have hst : Calls Try.prog 23 #[.pointer (some ⟨p, 0, none⟩), .agg #[.int .i64 kind, .string a, .string z, .int .i64 n, .slice oA obs.length oc, .slice oK okeep.length od]] _ _ := step_walkX HPLA.out.dx ⟨kind, a, z, n, oA, oc, obs, oK, od, okeep⟩ HOKA.out (prod_eta _)
          have HST := Lib.hid hst; clear hst
          have j2 : wa.cell? ⟨wr.heap.size, 2, none⟩ = some (.string z) := HBOX.out.cell 2
          have j3 : wa.cell? ⟨wr.heap.size, 3, none⟩ = some (.int .i64 n) := HBOX.out.cell 3
          have j5 : wa.cell? ⟨wr.heap.size, 5, none⟩ = some (.slice oK okeep.length od) := HBOX.out.cell 5
          go_wp2_with fail
          (with_reducible refine HST.out.mono ?_); rintro e w4 ⟨rfl, hd4, hb4, hk4⟩
          have hpl4 := HPLA.out.op hd4 hb4 hk4
          have HBX4 : Hid (Blk w4 wr.heap.size 45 #[.int .i64 kind, .string a, .string z, .int .i64 n, .slice oA obs.length oc, .slice oK okeep.length od]) := (hk4 _ (.inr rfl)).trans HBOX.out
          have HB4 : Hid (Below w.heap.size w w4) := HBA.out.trans hb4
          have HOK4 := Lib.hid (HOKA.out.under hb4)
          obtain ⟨A1, c1, rs1, hk1, hf1, hm1, hl1⟩ := hpl4.open_ HINV.out.1
          have HPL4 := Lib.hid hpl4; clear hpl4 hd4 hb4 hk4 j1 j2 j3 j4 j5 HPLA HBA HST HBOX
          have hdo := Do_any A1 c1 rs1 hf1 s hm1 hl1 HINV.out.2.1 HINV.out.2.2 a z HOK4.out.a HOK4.out.z n HOK4.out.n oA oc obs (HOK4.out.bs.elim fun _ h => h.sl) kind h1 h6
          have HDO := Lib.hid hdo; clear hdo hf1 hm1 hl1
          have j0 : w4.cell? ⟨wr.heap.size, 0, none⟩ = some (.int .i64 kind) := HBX4.out.cell 0
          have j1 : w4.cell? ⟨wr.heap.size, 1, none⟩ = some (.string a) := HBX4.out.cell 1
          have j2 : w4.cell? ⟨wr.heap.size, 2, none⟩ = some (.string z) := HBX4.out.cell 2
          have j3 : w4.cell? ⟨wr.heap.size, 3, none⟩ = some (.int .i64 n) := HBX4.out.cell 3
          have j4 : w4.cell? ⟨wr.heap.size, 4, none⟩ = some (.slice oA obs.length oc) := HBX4.out.cell 4
          have k0 : w4.cell? ⟨bm, 0, none⟩ = some (.slice A1 rs1.length c1) := hk1.cell 0
          have k1 : w4.cell? ⟨bm, 1, none⟩ = some (.bool s.down) := hk1.cell 1
          have k2 : w4.cell? ⟨bm, 2, none⟩ = some (.int .i64 s.fuse) := hk1.cell 2
          have HK1 := Lib.hid hk1; clear hk1
          go_wp2_with fail
          (with_reducible refine HDO.out.mono ?_); rintro e w5 ⟨v, rfl, ⟨A2, c2, rs2, rfl, hf2, hm2⟩, hb5⟩
          have HF2 := Lib.hid hf2; clear hf2
          have HM2 := Lib.hid hm2; clear hm2
          obtain ⟨s2, hs2⟩ : ∃ x, x = (doStep s kind (sname a) (sname z) n obs).1 := ⟨_, rfl⟩
          obtain ⟨r2, hr2⟩ : ∃ x, x = (doStep s kind (sname a) (sname z) n obs).2 := ⟨_, rfl⟩
          rw [← hs2] at HM2 HPL4 ⊢
          rw [← hr2]
          clear hs2 hr2 j0 j1 j2 j3 j4 k0 k1 k2 HDO
          have HB5 := Lib.hid hb5; clear hb5
          go_upto_region 15 with fail
          obtain ⟨w6, hw6⟩ : ∃ x, x = w5.alloc (.cells #[.slice A2 rs2.length c2, .bool s2.down, .int .i64 s2.fuse] 52) := ⟨_, rfl⟩
          rw [← hw6]
          have hab6 : Below w5.heap.size w5 w6 := by rw [hw6]; exact (Below.refl _ _).alloc (Nat.le_refl _) _
          have hbx6 : Blk w6 w5.heap.size 52 #[.slice A2 rs2.length c2, .bool s2.down, .int .i64 s2.fuse] := by rw [hw6]; exact Blk.new_ w5 _ _
          clear hw6
          have HB6 : Hid (Below w4.heap.size w4 w6) := HB5.out.trans (hab6.mono HB5.out.size)
          have hkb := HK1.out.below HB6.out HK1.out.lt
          have HPUT := Lib.hid (HPL4.out.put HB6.out (c := c2) (HF2.out.below hab6) HM2.out)
          have HBZ : Hid (Below w.heap.size w (((w6.setCell ⟨bm, 0, none⟩ (.slice A2 rs2.length c2)).setCell ⟨bm, 1, none⟩ (.bool s2.down)).setCell ⟨bm, 2, none⟩ (.int .i64 s2.fuse))) :=
            (((HB4.out.trans (HB6.out.mono HB4.out.size)).setCell (p := ⟨bm, 0, none⟩) HPL4.out.big _).setCell (p := ⟨bm, 1, none⟩) HPL4.out.big _).setCell (p := ⟨bm, 2, none⟩) HPL4.out.big _
          have q0 := hkb.free 0
          have q1 := hkb.free 1
          have q2 := hkb.free 2
          have k0 : w6.cell? ⟨bm, 0, none⟩ = some (.slice A1 rs1.length c1) := hkb.cell 0
          have k1 : w6.cell? ⟨bm, 1, none⟩ = some (.bool s.down) := hkb.cell 1
          have k2 : w6.cell? ⟨bm, 2, none⟩ = some (.int .i64 s.fuse) := hkb.cell 2
          have l0 : w6.cell? ⟨w5.heap.size, 0, none⟩ = some (.slice A2 rs2.length c2) := hbx6.cell 0
          have l1 : w6.cell? ⟨w5.heap.size, 1, none⟩ = some (.bool s2.down) := hbx6.cell 1
          have l2 : w6.cell? ⟨w5.heap.size, 2, none⟩ = some (.int .i64 s2.fuse) := hbx6.cell 2
          clear hkb hbx6 hab6 HB6 HB5 HF2 HM2 HPL4 HB4
          go_wp2_with fail
          go_meet
          exact ⟨s2, _, HPUT.out, HBZ.out⟩
        have hk16 : kind < 1 ∨ 6 < kind := by omega
        have t16 : (decide (1 ≤ kind) && decide (kind ≤ 6)) = false := by simp; omega
        have HK16 := Lib.hid hk16
        have HT16 := Lib.hid t16
        by_cases h7 : kind = 7
        · subst h7
          clear h16 hk16 t16
          obtain ⟨P, hP⟩ : ∃ P, P = (Dsk.read s (sname a)).1 := ⟨_, rfl⟩
          obtain ⟨q, hq⟩ : ∃ q, q = (Dsk.read s (sname a)).2 := ⟨_, rfl⟩
          have hrd : Dsk.read s (sname a) = (P, q) := by rw [hP, hq]
          clear hP hq
          have HRD := Lib.hid hrd; clear hrd
          go_wp2_with fail
          (with_reducible refine (Read_own HPLA.out.dx.drop a HOKA.out.a HRD.out rfl).mono ?_); rintro e w4 ⟨A4, c4, rfl, ho4, _, hb4⟩
          have HO4 := Lib.hid ho4; clear ho4
          have hpl4 := HPLA.out.below hb4
          obtain ⟨A1, c1, rs1, hk1, hf1, hm1, hl1⟩ := hpl4.open_ HINV.out.1
          have HRR := RRead_any A1 c1 rs1 hf1 s hm1 a HOKA.out.a
          rw [HRD.out] at HRR
          replace HRR := Lib.hid HRR
          have HB4 := Lib.hid hb4; clear hb4
          have HBX4 := Lib.hid (HBOX.out.below HB4.out HBOX.out.lt)
          have j1 : w4.cell? ⟨wr.heap.size, 1, none⟩ = some (.string a) := HBX4.out.cell 1
          have k0 : w4.cell? ⟨bm, 0, none⟩ = some (.slice A1 rs1.length c1) := hk1.cell 0
          have k1 : w4.cell? ⟨bm, 1, none⟩ = some (.bool s.down) := hk1.cell 1
          have k2 : w4.cell? ⟨bm, 2, none⟩ = some (.int .i64 s.fuse) := hk1.cell 2
          clear hk1 hf1 hm1 hl1 hpl4
          go_wp2_with fail
          (with_reducible refine HRR.out.mono ?_); rintro e w5 ⟨A5, c5, rfl, hs5, hb5⟩
          have ho5 := HO4.out.below hb5
          have hsb := SameBytes_any A4 A5 c4 c5 P P w5 ho5.sl.2 hs5.sl
          have HO5 := Lib.hid ho5; clear ho5
          have HSB := Lib.hid hsb; clear hsb
          have HB5 : Hid (Below wa.heap.size wa w5) := HB4.out.trans (hb5.mono HB4.out.size)
          clear hs5 hb5 HO4 HB4 HBX4 j0 j1 k0 k1 k2 HRR
          simp only
          go_wp2_with fail
          (with_reducible refine HSB.out.mono ?_); rintro e w6 ⟨rfl, k6, rfl⟩
          have hl5 := HO5.out.sl.2.len
          go_wp2_with fail
          go_loopw [98] (fun iv wi => ∃ (i : Nat) (ys : List UInt8), i ≤ P.length ∧ iv = .int .i64 i ∧ ys.length = P.length ∧ Own fB wa.heap.size 5 wi (.slice A4 ys.length c4) ys ∧ Below wa.heap.size wa wi) (fun iv _ => P.length - (intOf iv).toNat)
          case atStart => exact ⟨0, P, Nat.zero_le _, rfl, rfl, HO5.out.drewN k6, below_drewN HB5.out k6⟩
          case round =>
            obtain ⟨i, ys, hi, rfl, hyl, hown, hbi⟩ := hrel
            have HYL := Lib.hid hyl; clear hyl
            have HOWN := Lib.hid hown; clear hown
            have HBI := Lib.hid hbi; clear hbi
            by_cases hil : i < P.length
            · have hiy : i < ys.length := by have h := HYL.out; have h2 : ys.length = P.length := h; omega
              obtain ⟨g, rfl, hg, _, hc, hfz⟩ := HOWN.out.slot hiy
              have HIY := Lib.hid hiy
              have HG := Lib.hid hg; clear hg
              go_wp2_with fail
              go_roundw
              case rel => exact ⟨i + 1, ys.set i 99, by omega, by go_num, by rw [List.length_set]; exact HYL.out, by have := HOWN.out.set_ HIY.out (99 : UInt8); rw [List.length_set]; exact this, HBI.out.setCell HG.out _⟩
              case measure => simp [intOf]; omega
            · have HPZ := Lib.hid (HPLA.out.below HBI.out)
              have HBZ : Hid (Below w.heap.size w wr) := HBA.out.trans (HBI.out.mono HBA.out.size)
              go_wp2_with fail
              go_meet
              exact ⟨s, _, HPZ.out, HBZ.out⟩
        have t7 : (kind == 7) = false := by simpa using h7
        by_cases h8 : kind = 8
        · subst h8
          clear h16 hk16 t16
          have j3 : wa.cell? ⟨wr.heap.size, 3, none⟩ = some (.int .i64 n) := HBOX.out.cell 3
          go_wp2_with fail
          (with_reducible refine (X_Fail HPLA.out.dx n HOKA.out.n).mono ?_); rintro e w4 ⟨rfl, hd4, hb4, hk4⟩
          have hpl4 := HPLA.out.op hd4 hb4 hk4
          have hfu := hpl4.fuse n.toNat
          obtain ⟨A1, c1, rs1, hk1, hf1, hm1⟩ := hpl4.ref
          have HBX4 : Hid (Blk w4 wr.heap.size 45 #[.int .i64 8, .string a, .string z, .int .i64 n, .slice oA obs.length oc, .slice oK okeep.length od]) := (hk4 _ (.inr rfl)).trans HBOX.out
          have j3 : w4.cell? ⟨wr.heap.size, 3, none⟩ = some (.int .i64 n) := HBX4.out.cell 3
          have k2 : w4.cell? ⟨bm, 2, none⟩ = some (.int .i64 s.fuse) := hk1.cell 2
          have q2 := hk1.free 2
          have hmx : ((n.toNat : Nat) : Int) = max n 0 := by omega
          have HFU := Lib.hid hfu
          have HBZ : Hid (Below w.heap.size w (w4.setCell ⟨bm, 2, none⟩ (.int .i64 (n.toNat : Nat)))) := (HBA.out.trans hb4).setCell hpl4.big _
          clear hfu hpl4 hk1 hf1 hm1 hb4 hk4 hd4
          go_wp2_with fail
          go_meet
          rw [← hmx]
          exact ⟨_, _, HFU.out, HBZ.out⟩
        have t8 : (kind == 8) = false := by simpa using h8
        by_cases h9 : kind = 9
        · subst h9
          clear h16 hk16 t16
          have j5 : wa.cell? ⟨wr.heap.size, 5, none⟩ = some (.slice oK okeep.length od) := HBOX.out.cell 5
          obtain ⟨te, hke⟩ := HOKA.out.keep
          have hcr := X_Crash (c := od) HPLA.out.dx hke (.inr (fun _ h => h)) rfl
          have HCR := Lib.hid hcr; clear hcr
          have HKE := Lib.hid hke; clear hke
          go_wp2_with fail
          (with_reducible refine HCR.out.mono ?_); rintro e w4 ⟨rfl, hd4, hb4, hk4⟩
          have hpl4 := HPLA.out.op hd4 hb4 hk4
          have HBX4 : Hid (Blk w4 wr.heap.size 45 #[.int .i64 9, .string a, .string z, .int .i64 n, .slice oA obs.length oc, .slice oK okeep.length od]) := (hk4 _ (.inr rfl)).trans HBOX.out
          have HB4 : Hid (Below w.heap.size w w4) := HBA.out.trans hb4
          obtain ⟨te4, hke4⟩ := (HOKA.out.under hb4).keep
          obtain ⟨A1, c1, rs1, hk1, hf1, hm1, hl1⟩ := hpl4.open_ HINV.out.1
          have hrc := RCrash_any A1 c1 rs1 hf1 hl1 s hm1 oK od okeep hke4.sl
          have HRC := Lib.hid hrc; clear hrc hf1 hm1 hl1 hke4
          have HPL4 := Lib.hid hpl4; clear hpl4 hd4 hb4 hk4 j5 HPLA HBA HCR HBOX
          have j5 : w4.cell? ⟨wr.heap.size, 5, none⟩ = some (.slice oK okeep.length od) := HBX4.out.cell 5
          have k0 : w4.cell? ⟨bm, 0, none⟩ = some (.slice A1 rs1.length c1) := hk1.cell 0
          have k1 : w4.cell? ⟨bm, 1, none⟩ = some (.bool s.down) := hk1.cell 1
          have k2 : w4.cell? ⟨bm, 2, none⟩ = some (.int .i64 s.fuse) := hk1.cell 2
          have HK1 := Lib.hid hk1; clear hk1
          go_wp2_with fail
          (with_reducible refine HRC.out.mono ?_); rintro e w5 ⟨v, rfl, ⟨A2, c2, rs2, rfl, hf2, hm2⟩, hb5⟩
          obtain ⟨s2, hs2⟩ : ∃ x, x = Dsk.crash s okeep := ⟨_, rfl⟩
          rw [← hs2] at hm2 HPL4 ⊢
          have hkb := HK1.out.below hb5 HK1.out.lt
          have HPUT := Lib.hid (HPL4.out.put hb5 (c := c2) hf2 hm2)
          have HBZ : Hid (Below w.heap.size w (((w5.setCell ⟨bm, 0, none⟩ (.slice A2 rs2.length c2)).setCell ⟨bm, 1, none⟩ (.bool s2.down)).setCell ⟨bm, 2, none⟩ (.int .i64 s2.fuse))) :=
            (((HB4.out.trans (hb5.mono HB4.out.size)).setCell (p := ⟨bm, 0, none⟩) HPL4.out.big _).setCell (p := ⟨bm, 1, none⟩) HPL4.out.big _).setCell (p := ⟨bm, 2, none⟩) HPL4.out.big _
          clear hf2 hm2 hs2 hb5 j5 k0 k1 k2 HRC HK1
          have q0 := hkb.free 0
          have q1 := hkb.free 1
          have q2 := hkb.free 2
          have k0 : w5.cell? ⟨bm, 0, none⟩ = some (.slice A1 rs1.length c1) := hkb.cell 0
          have k1 : w5.cell? ⟨bm, 1, none⟩ = some (.bool s.down) := hkb.cell 1
          have k2 : w5.cell? ⟨bm, 2, none⟩ = some (.int .i64 s.fuse) := hkb.cell 2
          clear hkb
          go_wp2_with fail
          go_meet
          exact ⟨s2, _, HPUT.out, HBZ.out⟩
        have t9 : (kind == 9) = false := by simpa using h9
        clear h16 hk16 t16 h7 h8 h9
        rcases HK16.out with hk | hk
        · go_wp2_with fail
          go_meet
          exact ⟨s, _, HPLA.out, HBA.out⟩
        · go_wp2_with fail
          go_meet
          exact ⟨s, _, HPLA.out, HBA.out⟩
      case rest =>
        obtain ⟨s3, G3, hpl, hb⟩ := hcut
        obtain ⟨A1, c1, rs1, hk1, hf1, hm1, hl1⟩ := hpl.open_ hpl.inv.1
        have hal := alike_any hpl.dx.drop A1 c1 rs1 hf1 hm1 hl1
        have HAL := Lib.hid hal; clear hal hf1 hm1 hl1
        have k0 := (hk1.cell 0).trans (show _ = some (Value.slice A1 rs1.length c1) from rfl)
        have k1 := (hk1.cell 1).trans (show _ = some (Value.bool s3.down) from rfl)
        have k2 := (hk1.cell 2).trans (show _ = some (Value.int .i64 s3.fuse) from rfl)
        have HPL := Lib.hid hpl; clear hpl hk1
        have HB := Lib.hid hb; clear hb
        go_wp2_with fail
        (with_reducible refine HAL.out.mono ?_); rintro e w9 ⟨rfl, hb9⟩
        have HPL9 := Lib.hid (HPL.out.below hb9)
        have HB9 : Hid (Below w.heap.size w w9) := HB.out.trans (hb9.mono HB.out.size)
        clear hb9 k0 k1 k2
        go_wp2_with fail
        go_roundw
        case rel => exact ⟨k + 1, _, s3, G3, by go_num, rfl, HPL9.out, HB9.out⟩
        case measure => simp [intOf]; omega
    · go_wp2_with fail
      go_ret
      exact ⟨rfl, hb⟩
end Go.Proofs.Ytepkjnhijocojaa
