/- Layer 7's document: Save. -/
import Derived.Test.YtfpomllhkbbipaaGreatR7
import Derived.Test.YtfpomllhkbbipaaGreatHdS
import Derived.Test.YtfpomllhkbbipaaGreatReg
import Derived.Shelf.Abstract
namespace Go.Proofs.YtfpomllhkbbipaaGreat
open Go Go.RowKit Go.Maps Go.Lib Mem Pk Dsk Hd

def RSaveP (G : Nat → Prop) (res : S × (Int × Int) × Nat) (w : World) (e : Ending) (w' : World) : Prop :=
  ∃ A c rs, e = .returned (.tuple #[.agg #[.slice A rs.length c, .bool res.1.down, .int .i64 res.1.fuse, .int .i64 res.2.1.1, .int .i64 res.2.1.2], .int .i64 res.2.2]) ∧ Files (up G w) w' A rs ∧ rs.map RFile.file = res.1.files ∧ Below w.heap.size w w'
theorem rsave_out {G : Nat → Prop} {w w5 : World} {A : Option Addr} {c : Nat} {rs : List RFile} {s : S} {t v : Int} {k : Nat} {cs : Array Value} (hx : Blk w5 (w.heap.size + 1) 34 cs) (hf : Files (up G w) w5 A rs) (hm : rs.map RFile.file = s.files) (hb : Below w.heap.size w w5) :
    RSaveP G (s, (t, v), k) w (.returned (.tuple #[.agg #[.slice A rs.length c, .bool s.down, .int .i64 s.fuse, .int .i64 t, .int .i64 v], .int .i64 k]))
      (((((w5.setCell ⟨w.heap.size + 1, 0, none⟩ (.slice A rs.length c)).setCell ⟨w.heap.size + 1, 1, none⟩ (.bool s.down)).setCell ⟨w.heap.size + 1, 2, none⟩ (.int .i64 s.fuse)).setCell ⟨w.heap.size + 1, 3, none⟩ (.int .i64 t)).setCell ⟨w.heap.size + 1, 4, none⟩ (.int .i64 v)) := by
  refine ⟨A, c, rs, rfl, ?_, hm, ?_⟩
  · exact ((((hf.far hx (by decide) (by decide) 0 _).far (hx.set_ 0 _) (by decide) (by decide) 1 _).far ((hx.set_ 0 _).set_ 1 _) (by decide) (by decide) 2 _).far (((hx.set_ 0 _).set_ 1 _).set_ 2 _) (by decide) (by decide) 3 _).far ((((hx.set_ 0 _).set_ 1 _).set_ 2 _).set_ 3 _) (by decide) (by decide) 4 _
  · have hle : ∀ i, w.heap.size ≤ (⟨w.heap.size + 1, i, none⟩ : Addr).block := fun i => Nat.le_succ _
    exact ((((hb.setCell (hle 0) _).setCell (hle 1) _).setCell (hle 2) _).setCell (hle 3) _).setCell (hle 4) _
def opA (A5 : Option Addr) (i : Nat) : Option Addr := if i = 1 then A5 else none
def opC (c5 i : Nat) : Nat := if i = 1 then c5 else 0
/-- the four steps, as they lie -/
def opsV (A5 : Option Addr) (n c5 : Nat) : Array Value := #[.int .i64 1, .string bT, .string ⟨#[]⟩, .int .i64 0, .slice none 0 0, .int .i64 4, .string bT, .string ⟨#[]⟩, .int .i64 0, .slice A5 n c5,
  .int .i64 6, .string bT, .string ⟨#[]⟩, .int .i64 0, .slice none 0 0, .int .i64 3, .string bT, .string bH, .int .i64 0, .slice none 0 0]
theorem ops_at {w : World} {b : Nat} {ty : TypeId} {A5 : Option Addr} {bs : List UInt8} {c5 : Nat} (h : Blk w b ty (opsV A5 bs.length c5)) {i : Nat} (hi : i < 4) :
    w.cell? ⟨b, i * 5, none⟩ = some (.int .i64 (opK i)) ∧ w.cell? ⟨b, i * 5 + 1, none⟩ = some (.string bT) ∧ w.cell? ⟨b, i * 5 + 2, none⟩ = some (.string (opZ i)) ∧ w.cell? ⟨b, i * 5 + 3, none⟩ = some (.int .i64 0) ∧ w.cell? ⟨b, i * 5 + 4, none⟩ = some (.slice (opA A5 i) (opB bs i).length (opC c5 i)) := by
  match i, hi with
  | 0, _ => exact ⟨h.cell 0, h.cell 1, h.cell 2, h.cell 3, h.cell 4⟩
  | 1, _ => exact ⟨h.cell 5, h.cell 6, h.cell 7, h.cell 8, h.cell 9⟩
  | 2, _ => exact ⟨h.cell 10, h.cell 11, h.cell 12, h.cell 13, h.cell 14⟩
  | 3, _ => exact ⟨h.cell 15, h.cell 16, h.cell 17, h.cell 18, h.cell 19⟩
def RsRel (G : Nat → Prop) (o : Option (List UInt8)) (bs : List UInt8) (f : Nat) (t0 v0 : Int) (w w5 : World) (iv : Value) (wr : World) : Prop :=
  ∃ (i : Nat) (A : Option Addr) (c : Nat) (rs : List RFile), i ≤ 4 ∧ (f = 0 ∨ i < f) ∧ iv = .int .i64 i ∧ Blk wr w.heap.size 34 #[.slice A rs.length c, .bool false, .int .i64 ((f - i : Nat) : Int), .int .i64 t0, .int .i64 v0] ∧
    Files (up G w) wr A rs ∧ rs.map RFile.file = (stH o bs f i).files ∧ Frm (fun g => g = w.heap.size) w5 wr
/-- behind the step: the disk in its new box -/
def RsCut (G : Nat → Prop) (dn : Bool) (fu : Nat) (fs : List File) (k : Nat) (w wr : World) (s10 s11 : Value) (wx : World) : Prop :=
  ∃ (N : Nat) (A : Option Addr) (c : Nat) (rs : List RFile), s10 = .pointer (some ⟨N, 0, none⟩) ∧ s11 = .int .i64 k ∧ wr.heap.size ≤ N ∧ Blk wx N 32 #[.slice A rs.length c, .bool dn, .int .i64 fu] ∧
    Files (up G w) wx A rs ∧ rs.map RFile.file = fs ∧ Below wr.heap.size wr wx
theorem newBx {wq W : World} (_ : Below wq.heap.size wq W) (ty : TypeId) (cs : Array Value) : Blk (W.alloc (.cells cs ty)) W.heap.size ty cs := Blk.new_ W ty cs
theorem set3b {wq W : World} {N : Nat} (h : Below wq.heap.size wq W) (hn : wq.heap.size ≤ N) (a b c : Value) : Below wq.heap.size wq (((W.setCell ⟨N, 0, none⟩ a).setCell ⟨N, 1, none⟩ b).setCell ⟨N, 2, none⟩ c) :=
  ((h.setCell (p := ⟨N, 0, none⟩) hn a).setCell (p := ⟨N, 1, none⟩) hn b).setCell (p := ⟨N, 2, none⟩) hn c
theorem set3f {F : Nat → Prop} {W : World} {A : Option Addr} {rs : List RFile} {N : Nat} {cs : Array Value} (h : Files F W A rs) (hx : Blk W N 32 cs) (a b c : Value) :
    Files F (((W.setCell ⟨N, 0, none⟩ a).setCell ⟨N, 1, none⟩ b).setCell ⟨N, 2, none⟩ c) A rs :=
  ((h.far hx (by decide) (by decide) 0 a).far (hx.set_ 0 a) (by decide) (by decide) 1 b).far ((hx.set_ 0 a).set_ 1 b) (by decide) (by decide) 2 c
set_option maxRecDepth 100000 in
set_option maxHeartbeats 4000000 in
theorem RSave_any {G : Nat → Prop} {w : World} (A : Option Addr) (c : Nat) (rs : List RFile) (h : Files G w A rs) (o : Option (List UInt8)) (hs : rs.map RFile.file = old o) (f : Nat) (hf : f ≤ 9223372036854775807) (t0 v0 t v : Int) :
    Calls Tryz.prog 9 #[.agg #[.slice A rs.length c, .bool false, .int .i64 f, .int .i64 t0, .int .i64 v0], .int .i64 t, .int .i64 v] w (RSaveP G (saveH ⟨old o, false, f⟩ (t0, v0) t v) w) := by
  have HF := Lib.hid h
  have HS := Lib.hid hs
  clear h hs
  obtain ⟨r, hr⟩ : ∃ z, z = rightH t v := ⟨_, rfl⟩
  have HR := Lib.hid hr
  have hrt := fun W => RRight_any t v W
  rw [← hr] at hrt
  have HRT := Lib.hid hrt
  clear hr hrt
  go_enter Tryz.func9, Tryz.ntmps9
  go_upto_region 1 with fail
  obtain ⟨w3, hw3⟩ : ∃ z, z = (w.alloc (.cells #[.slice A rs.length c, .bool false, .int .i64 f, .int .i64 t0, .int .i64 v0] 34)).alloc (.cells #[.slice none 0 0, .bool false, .int .i64 0, .int .i64 0, .int .i64 0] 34) := ⟨_, rfl⟩
  rw [← hw3]
  have hz3 : w3.heap.size = w.heap.size + 2 := by rw [hw3]; simp [World.size_alloc]
  have hb3 : Below w.heap.size w w3 := by
    rw [hw3]; exact ((Below.refl _ _).alloc (Nat.le_refl _) _).alloc (by simp) _
  have hx0 : Blk w3 w.heap.size 34 #[.slice A rs.length c, .bool false, .int .i64 f, .int .i64 t0, .int .i64 v0] := by rw [hw3]; exact (Blk.new_ w _ _).alloc _
  have hx1 : Blk w3 (w.heap.size + 1) 34 #[.slice none 0 0, .bool false, .int .i64 0, .int .i64 0, .int .i64 0] := by
    have := Blk.new_ (w.alloc (.cells #[.slice A rs.length c, .bool false, .int .i64 f, .int .i64 t0, .int .i64 v0] 34)) 34 #[.slice none 0 0, .bool false, .int .i64 0, .int .i64 0, .int .i64 0]
    rw [World.size_alloc] at this; rw [hw3]; exact this
  have HZ3 := Lib.hid hz3
  have HB3 := Lib.hid hb3
  have HX0 := Lib.hid hx0
  have HX1 := Lib.hid hx1
  have HF3 : Hid (Files G w3 A rs) := Lib.hid (HF.out.below hb3)
  have a0 : w3.cell? ⟨w.heap.size + 1, 0, none⟩ = some (.slice none 0 0) := hx1.cell 0
  have a1 : w3.cell? ⟨w.heap.size + 1, 1, none⟩ = some (.bool false) := hx1.cell 1
  have a2 : w3.cell? ⟨w.heap.size + 1, 2, none⟩ = some (.int .i64 0) := hx1.cell 2
  have a3 : w3.cell? ⟨w.heap.size + 1, 3, none⟩ = some (.int .i64 0) := hx1.cell 3
  have a4 : w3.cell? ⟨w.heap.size + 1, 4, none⟩ = some (.int .i64 0) := hx1.cell 4
  have b0 : w3.cell? ⟨w.heap.size, 0, none⟩ = some (.slice A rs.length c) := hx0.cell 0
  have b1 : w3.cell? ⟨w.heap.size, 1, none⟩ = some (.bool false) := hx0.cell 1
  have b2 : w3.cell? ⟨w.heap.size, 2, none⟩ = some (.int .i64 f) := hx0.cell 2
  have b3 : w3.cell? ⟨w.heap.size, 3, none⟩ = some (.int .i64 t0) := hx0.cell 3
  have b4 : w3.cell? ⟨w.heap.size, 4, none⟩ = some (.int .i64 v0) := hx0.cell 4
  have fa0 := hx1.free 0
  have fa1 := hx1.free 1
  have fa2 := hx1.free 2
  have fa3 := hx1.free 3
  have fa4 := hx1.free 4
  clear hw3 hz3 hb3 hx0 hx1
  go_wp2_with fail
  (with_reducible refine (HRT.out _).mono ?_); rintro e w' ⟨rfl, rfl⟩
  cases r with
  | false =>
    have HSV : Hid (saveH ⟨old o, false, f⟩ (t0, v0) t v = (⟨old o, false, f⟩, (t0, v0), 1)) := Lib.hid (saveH_no HR.out.symm)
    go_wp2_with fail
    refine bodyPost_ret (v := .tuple #[.agg #[.slice A rs.length c, .bool false, .int .i64 f, .int .i64 t0, .int .i64 v0], .int .i64 1]) (by simp [results, Tryz.results9, go_sem, a0, a1, a2, a3, a4]) rfl ?_
    rw [HSV.out]
    exact rsave_out (s := ⟨old o, false, f⟩) (k := 1) HX1.out (HF3.out.mono (fun _ _ h => .inl h)) HS.out HB3.out
  | true =>
    obtain ⟨q, hq⟩ : ∃ q, q = decide (((t0, v0) : Int × Int) = (t, v)) := ⟨_, rfl⟩
    have HQ := Lib.hid hq
    clear hq
    go_upto_region 3 with fail
    go_cut [26] (fun s26 wx => s26 = .bool q ∧ wx = w3)
    case first =>
      by_cases h1 : t0 = t
      · have t1 : (t0 == t) = true := by rw [h1]; simp
        by_cases h2 : v0 = v
        · have t2 : (v0 == v) = true := by rw [h2]; simp
          have HQ2 : Hid (q = true) := Lib.hid (by rw [HQ.out]; exact decide_eq_true (by rw [h1, h2]))
          clear h1 h2
          go_wp2_with fail
          go_meet
          exact ⟨by rw [HQ2.out], rfl⟩
        · have t2 : (v0 == v) = false := by rw [beq_eq_false_iff_ne]; exact h2
          have HQ2 : Hid (q = false) := Lib.hid (by rw [HQ.out]; exact decide_eq_false (fun h => h2 (congrArg Prod.snd h)))
          clear h1 h2
          go_wp2_with fail
          go_meet
          exact ⟨by rw [HQ2.out], rfl⟩
      · have t1 : (t0 == t) = false := by rw [beq_eq_false_iff_ne]; exact h1
        have HQ2 : Hid (q = false) := Lib.hid (by rw [HQ.out]; exact decide_eq_false (fun h => h1 (congrArg Prod.fst h)))
        clear h1
        go_wp2_with fail
        go_meet
        exact ⟨by rw [HQ2.out], rfl⟩
    case rest =>
      obtain ⟨rfl, hwc⟩ := hcut
      rw [hwc]; clear hwc
      cases q with
      | true =>
        have HSV : Hid (saveH ⟨old o, false, f⟩ (t0, v0) t v = (⟨old o, false, f⟩, (t0, v0), 0)) := Lib.hid (saveH_same HR.out.symm (of_decide_eq_true HQ.out.symm))
        go_wp2_with fail
        refine bodyPost_ret (v := .tuple #[.agg #[.slice A rs.length c, .bool false, .int .i64 f, .int .i64 t0, .int .i64 v0], .int .i64 0]) (by simp [results, Tryz.results9, go_sem, a0, a1, a2, a3, a4]) rfl ?_
        rw [HSV.out]
        exact rsave_out (s := ⟨old o, false, f⟩) (k := 0) HX1.out (HF3.out.mono (fun _ _ h => .inl h)) HS.out HB3.out
      | false =>
        obtain ⟨bs, hbs⟩ : ∃ z, z = bytesH t v := ⟨_, rfl⟩
        have HBL : Hid (bs.length ≤ 28) := Lib.hid (by rw [hbs]; exact bytesH_len t v)
        have HBY := Lib.hid (RBytes_any (w := w3) HR.out.symm)
        have HBS := Lib.hid hbs
        rw [← hbs] at HBY
        clear hbs a0 a1 a2 a3 a4 b0 b1 b2 b3 b4 fa0 fa1 fa2 fa3 fa4
        go_wp2_with fail
        (with_reducible refine HBY.out.mono ?_); rintro e w4 ⟨v5, rfl, ho5, hb4⟩
        obtain ⟨A5, c5, rfl⟩ := ho5.form
        have HO5 := Lib.hid ho5
        have HB4 := Lib.hid hb4
        clear ho5 hb4 HBY
        go_upto_region 7 with fail
        obtain ⟨w5, hw5⟩ : ∃ z, z = w4.alloc (.cells (opsV A5 bs.length c5) 69) := ⟨_, rfl⟩
        have hw5' := hw5
        unfold opsV bT bH at hw5'
        rw [← hw5']
        have hops : Blk w5 w4.heap.size 69 (opsV A5 bs.length c5) := by rw [hw5]; exact Blk.new_ w4 _ _
        have hb5 : Below w3.heap.size w3 w5 := by rw [hw5]; exact HB4.out.alloc HB4.out.size _
        have hz5 : w5.heap.size = w4.heap.size + 1 := by rw [hw5]; simp [World.size_alloc]
        have HOPS := Lib.hid hops
        have HB5 := Lib.hid hb5
        have HZ5 := Lib.hid hz5
        have HZ4 : Hid (w.heap.size + 2 ≤ w4.heap.size) := Lib.hid (by have h1 := HZ3.out; have h2 := HB4.out.size; omega)
        have HSB : Hid (SlB fB 5 (fun g => w3.heap.size ≤ g) w5 A5 bs) := Lib.hid ((SlB.of_own (by rw [hw5]; exact HO5.out.alloc _)).2)
        have HY0 := Lib.hid (HX0.out.below hb5 HX0.out.lt)
        have HY1 := Lib.hid (HX1.out.below hb5 HX1.out.lt)
        have HF5 : Hid (Files (up G w) w5 A rs) := Lib.hid ((HF3.out.below hb5).mono (fun _ _ h => .inl h))
        have HB05 : Hid (Below w.heap.size w w5) := Lib.hid (HB3.out.trans (hb5.mono HB3.out.size))
        clear hw5 hw5' hops hb5 hz5 HO5 HB4 HX0 HX1 HF3 HF
        obtain ⟨ob, hob⟩ : ∃ z, z = w4.heap.size := ⟨_, rfl⟩
        rw [← hob] at HOPS HZ5 HZ4 ⊢
        clear hob
        go_loopw [9] (fun iv wr => RsRel G o bs f t0 v0 w w5 iv wr) (fun iv _ => 4 - (RowKit.intOf iv).toNat)
        case atStart => exact ⟨0, A, c, rs, by omega, by omega, rfl, HY0.out, HF5.out, HS.out, Frm.refl _ _⟩
        case round =>
          obtain ⟨i, A1, c1, rs1, hi, hfi, rfl, hbox, hfiles, hmap, hfr⟩ := hrel
          have HBOX := Lib.hid hbox
          have HFI := Lib.hid hfiles
          have HMP := Lib.hid hmap
          have HFR := Lib.hid hfr
          have HFI0 := Lib.hid hfi
          clear hbox hfiles hmap hfr hfi
          by_cases hlt : i < 4
          · obtain ⟨res, hres⟩ : ∃ z, z = doStep (stH o bs f i) (opK i) (sname bT) (sname (opZ i)) 0 (opB bs i) := ⟨_, rfl⟩
            obtain ⟨⟨fs, dn, fu⟩, k⟩ := res
            have HRES := Lib.hid hres
            have hopb := HOPS.out.frm HFR.out (by have := HZ4.out; omega)
            have hpk : ∀ W, Below wr.heap.size wr W → W.cell? ⟨w.heap.size, 0, none⟩ = some (.slice A1 rs1.length c1) ∧ W.cell? ⟨w.heap.size, 1, none⟩ = some (.bool false) ∧ W.cell? ⟨w.heap.size, 2, none⟩ = some (.int .i64 ((f - i : Nat) : Int)) ∧
                W.cell? ⟨ob, i * 5, none⟩ = some (.int .i64 (opK i)) ∧ W.cell? ⟨ob, i * 5 + 1, none⟩ = some (.string bT) ∧ W.cell? ⟨ob, i * 5 + 2, none⟩ = some (.string (opZ i)) ∧ W.cell? ⟨ob, i * 5 + 3, none⟩ = some (.int .i64 0) ∧ W.cell? ⟨ob, i * 5 + 4, none⟩ = some (.slice (opA A5 i) (opB bs i).length (opC c5 i)) := fun W hW => by
              have h1 := HBOX.out.below hW HBOX.out.lt
              exact ⟨h1.cell 0, h1.cell 1, h1.cell 2, ops_at (hopb.below hW hopb.lt) hlt⟩
            have HDO : Hid (∀ W, Below wr.heap.size wr W → Calls Tryz.prog 23 #[.agg #[.slice A1 rs1.length c1, .bool false, .int .i64 ((f - i : Nat) : Int)], .agg #[.int .i64 (opK i), .string bT, .string (opZ i), .int .i64 0, .slice (opA A5 i) (opB bs i).length (opC c5 i)]] W (DoPost (up G w) (⟨fs, dn, fu⟩, k) W)) := Lib.hid fun W hW => by
              have hsb : Sl fB W (opA A5 i) (opB bs i) := by
                unfold opA opB
                split
                · exact (HSB.out.frm HFR.out (fun g hg e => by have h1 := HZ3.out; have h2 : w3.heap.size ≤ g := hg; omega)).sl.below hW
                · exact Sl.nil
              have h1 := Do_any A1 c1 rs1 (HFI.out.below hW) (stH o bs f i) HMP.out (by rw [← List.length_map, HMP.out]; exact Nat.le_trans (stH_len o bs f i) (by decide)) (by rw [(stH_up o bs f i hi).2]; omega) (stH_sorted o bs f i) bT (opZ i) (by decide) (opZ_le i) 0 (by decide) (opA A5 i) (opC c5 i) (opB bs i) hsb (opK i) (opK_in i).1 (opK_in i).2
              rw [← HRES.out, (stH_up o bs f i hi).1, (stH_up o bs f i hi).2] at h1
              exact h1
            have HZW : Hid (w.heap.size ≤ wr.heap.size) := Lib.hid (Nat.le_trans HB05.out.size HFR.out.size)
            have ti : (i : Int) < 4 := by omega
            have ti0 : (0 : Int) ≤ (i : Int) := by omega
            have HLT := Lib.hid hlt
            obtain ⟨nT, hnT⟩ : ∃ z, z = bT := ⟨_, rfl⟩
            obtain ⟨nZ, hnZ⟩ : ∃ z, z = opZ i := ⟨_, rfl⟩
            obtain ⟨kd, hkd⟩ : ∃ z, z = opK i := ⟨_, rfl⟩
            obtain ⟨OA, hOA⟩ : ∃ z, z = opA A5 i := ⟨_, rfl⟩
            obtain ⟨OC, hOC⟩ : ∃ z, z = opC c5 i := ⟨_, rfl⟩
            obtain ⟨ol, hol⟩ : ∃ z, z = (opB bs i).length := ⟨_, rfl⟩
            obtain ⟨fz, hfz⟩ : ∃ z : Int, z = ((f - i : Nat) : Int) := ⟨_, rfl⟩
            rw [← hnT] at HDO hpk
            rw [← hnZ] at HDO hpk
            rw [← hkd] at HDO hpk
            rw [← hOA, ← hOC, ← hol] at HDO hpk
            rw [← hfz] at HDO hpk
            have HPK := Lib.hid hpk
            have HBX : Hid (Below wr.heap.size wr wr.drew) := Lib.hid (Below.refl wr.heap.size wr).drew
            clear hres hlt hnT hnZ hkd hOA hOC hol hfz hpk hopb
            go_upto_region 9 with fail
            go_cut [10, 11] (fun s10 s11 wx => RsCut G dn fu fs k w wr s10 s11 wx)
            case first =>
              refine AnyZ.start (S := (fun W => W.cell? ⟨w.heap.size, 0, none⟩ = some (.slice A1 rs1.length c1) ∧ W.cell? ⟨w.heap.size, 1, none⟩ = some (.bool false) ∧ W.cell? ⟨w.heap.size, 2, none⟩ = some (.int .i64 fz) ∧ W.cell? ⟨ob, i * 5, none⟩ = some (.int .i64 kd) ∧ W.cell? ⟨ob, i * 5 + 1, none⟩ = some (.string nT) ∧ W.cell? ⟨ob, i * 5 + 2, none⟩ = some (.string nZ) ∧ W.cell? ⟨ob, i * 5 + 3, none⟩ = some (.int .i64 0) ∧ W.cell? ⟨ob, i * 5 + 4, none⟩ = some (.slice OA ol OC))) (z := 1013) (by kernel_rfl) ?_ (fun hHeld => ?_)
              · exact HPK.out _ HBX.out
              refine AnyZ.take (i := 0) (v := ?_) rfl (by kernel_rfl) (by kernel_rfl) (by kernel_rfl) (by kernel_rfl) (fun _ _ _ h => h) (Or.inl ⟨by kernel_rfl, ?_⟩) (by assumption) ?_
              rotate_left
              · intro w hSw; (try dsimp only at hSw); go_simp; try with_reducible rfl
              try simp only [Act.put, List.getElem_toArray, List.getElem_cons_succ, List.getElem_cons_zero, List.setIfInBounds_toArray, List.set_cons_zero, List.set_cons_succ]
              refine AnyZ.take (i := 1) (v := ?_) rfl (by kernel_rfl) (by kernel_rfl) (by kernel_rfl) (by kernel_rfl) (fun _ _ _ h => h) (Or.inl ⟨by kernel_rfl, ?_⟩) (by assumption) ?_
              rotate_left
              · intro w hSw; (try dsimp only at hSw); go_simp; try with_reducible rfl
              try simp only [Act.put, List.getElem_toArray, List.getElem_cons_succ, List.getElem_cons_zero, List.setIfInBounds_toArray, List.set_cons_zero, List.set_cons_succ]
              refine AnyZ.take (i := 2) (v := ?_) rfl (by kernel_rfl) (by kernel_rfl) (by kernel_rfl) (by kernel_rfl) (fun _ _ _ h => h) (Or.inl ⟨by kernel_rfl, ?_⟩) (by assumption) ?_
              rotate_left
              · intro w hSw; (try dsimp only at hSw); go_simp; try with_reducible rfl
              try simp only [Act.put, List.getElem_toArray, List.getElem_cons_succ, List.getElem_cons_zero, List.setIfInBounds_toArray, List.set_cons_zero, List.set_cons_succ]
              refine AnyZ.take (i := 3) (v := ?_) rfl (by kernel_rfl) (by kernel_rfl) (by kernel_rfl) (by kernel_rfl) (fun _ _ _ h => h) (Or.inl ⟨by kernel_rfl, ?_⟩) (by assumption) ?_
              rotate_left
              · intro w hSw; (try dsimp only at hSw); go_simp; try with_reducible rfl
              try simp only [Act.put, List.getElem_toArray, List.getElem_cons_succ, List.getElem_cons_zero, List.setIfInBounds_toArray, List.set_cons_zero, List.set_cons_succ]
              refine AnyZ.take (i := 4) (v := ?_) rfl (by kernel_rfl) (by kernel_rfl) (by kernel_rfl) (by kernel_rfl) (fun _ _ _ h => h) (Or.inl ⟨by kernel_rfl, ?_⟩) (by assumption) ?_
              rotate_left
              · intro w hSw; (try dsimp only at hSw); go_simp; try with_reducible rfl
              try simp only [Act.put, List.getElem_toArray, List.getElem_cons_succ, List.getElem_cons_zero, List.setIfInBounds_toArray, List.set_cons_zero, List.set_cons_succ]
              refine AnyZ.take (i := 5) (v := ?_) rfl (by kernel_rfl) (by kernel_rfl) (by kernel_rfl) (by kernel_rfl) (fun _ _ _ h => h) (Or.inl ⟨by kernel_rfl, ?_⟩) (by assumption) ?_
              rotate_left
              · intro w hSw; (try dsimp only at hSw); go_simp; try with_reducible rfl
              try simp only [Act.put, List.getElem_toArray, List.getElem_cons_succ, List.getElem_cons_zero, List.setIfInBounds_toArray, List.set_cons_zero, List.set_cons_succ]
              refine AnyZ.ready (rs := [6, 10]) (by kernel_rfl) (by simp) ?_
              refine AllZ.cons rfl (fun K hK => ?_) (AllZ.cons rfl (fun K hK => ?_) AllZ.nil)
              · go_simp
                (with_reducible refine (HDO.out _ HBX.out).mono ?_); rintro e wj ⟨vj, rfl, ⟨A2, c2, rs2, rfl, hf2, hm2⟩, hbj⟩
                have HF2 : Hid (Files (up G w) wj A2 rs2) := Lib.hid (hf2.mono (fun g _ hg => hg.elim id (fun h => .inr (Nat.le_trans HZW.out (Nat.le_trans HBX.out.size h)))))
                have HM2 := Lib.hid hm2
                try (replace HNB := Lib.hid (HNB.out.below hbj HNB.out.lt); have n0 : wj.cell? ⟨wr.heap.size, 0, none⟩ = some (.slice none 0 0) := HNB.out.cell 0; have n1 : wj.cell? ⟨wr.heap.size, 1, none⟩ = some (.bool false) := HNB.out.cell 1; have n2 : wj.cell? ⟨wr.heap.size, 2, none⟩ = some (.int .i64 0) := HNB.out.cell 2; have nf0 := HNB.out.free 0; have nf1 := HNB.out.free 1; have nf2 := HNB.out.free 2)
                replace HBX := Lib.hid (HBX.out.trans (hbj.mono HBX.out.size))
                clear hf2 hm2 hbj
                refine hK.out _ _ ?_ (fun hHeld => ?_)
                · exact HPK.out _ HBX.out
                clear hK K
                try simp only [Act.put, List.getElem_toArray, List.getElem_cons_succ, List.getElem_cons_zero, List.setIfInBounds_toArray, List.set_cons_zero, List.set_cons_succ]
                refine AnyZ.take (i := 7) (v := ?_) rfl (by kernel_rfl) (by kernel_rfl) (by kernel_rfl) (by kernel_rfl) (fun _ _ _ h => h) (Or.inl ⟨by kernel_rfl, ?_⟩) (by assumption) ?_
                rotate_left
                · intro w hSw; (try dsimp only at hSw); go_simp; try with_reducible rfl
                try simp only [Act.put, List.getElem_toArray, List.getElem_cons_succ, List.getElem_cons_zero, List.setIfInBounds_toArray, List.set_cons_zero, List.set_cons_succ]
                refine AnyZ.take (i := 8) (v := ?_) rfl (by kernel_rfl) (by kernel_rfl) (by kernel_rfl) (by kernel_rfl) (fun _ _ _ h => h) (Or.inl ⟨by kernel_rfl, ?_⟩) (by assumption) ?_
                rotate_left
                · intro w hSw; (try dsimp only at hSw); go_simp; try with_reducible rfl
                try simp only [Act.put, List.getElem_toArray, List.getElem_cons_succ, List.getElem_cons_zero, List.setIfInBounds_toArray, List.set_cons_zero, List.set_cons_succ]
                refine AnyZ.take (i := 9) (v := ?_) rfl (by kernel_rfl) (by kernel_rfl) (by kernel_rfl) (by kernel_rfl) (fun _ _ _ h => h) (Or.inl ⟨by kernel_rfl, ?_⟩) (by assumption) ?_
                rotate_left
                · intro w hSw; (try dsimp only at hSw); go_simp; try with_reducible rfl
                try simp only [Act.put, List.getElem_toArray, List.getElem_cons_succ, List.getElem_cons_zero, List.setIfInBounds_toArray, List.set_cons_zero, List.set_cons_succ]
                refine AnyZ.ready (rs := [10]) (by kernel_rfl) (by simp) ?_
                refine AllZ.cons rfl (fun K hK => ?_) AllZ.nil
                go_simp
                have HNG := Lib.hid HBX.out.size
                have HNB := Lib.hid (newBx HBX.out 32 #[.slice none 0 0, .bool false, .int .i64 0])
                try have HBXF := Lib.hid (HBX.out.alloc HBX.out.size (.cells #[.slice A2 rs2.length c2, .bool dn, .int .i64 (fu : Int)] 32))
                try have HNBF := Lib.hid (newBx HBX.out 32 #[.slice A2 rs2.length c2, .bool dn, .int .i64 (fu : Int)])
                try have HF2F := Lib.hid (HF2.out.below ((Below.refl _ _).alloc (Nat.le_refl _) (.cells #[.slice A2 rs2.length c2, .bool dn, .int .i64 (fu : Int)] 32)))
                try replace HF2 := Lib.hid (HF2.out.below ((Below.refl _ _).alloc (Nat.le_refl _) (.cells #[.slice none 0 0, .bool false, .int .i64 0] 32)))
                replace HBX := Lib.hid (HBX.out.alloc HBX.out.size (.cells #[.slice none 0 0, .bool false, .int .i64 0] 32))
                try change Hid (Below wr.heap.size wr (wr.alloc (.cells #[.slice none 0 0, .bool false, .int .i64 0] 32)).drew) at HBX
                try change Hid (Blk (wr.alloc (.cells #[.slice none 0 0, .bool false, .int .i64 0] 32)).drew wr.heap.size 32 #[.slice none 0 0, .bool false, .int .i64 0]) at HNB
                refine hK.out _ _ ?_ (fun hHeld => ?_)
                · exact HPK.out _ HBX.out
                clear hK K
                try simp only [Act.put, List.getElem_toArray, List.getElem_cons_succ, List.getElem_cons_zero, List.setIfInBounds_toArray, List.set_cons_zero, List.set_cons_succ]
                refine AnyZ.ready (rs := [11]) (by kernel_rfl) (by simp) ?_
                refine AllZ.cons rfl (fun K hK => ?_) AllZ.nil
                go_simp
                first
                  | (replace HBX := HBXF; replace HF2 := HF2F; replace HNB := HNBF; clear HBXF HF2F HNBF)
                  | (replace HBX := Lib.hid (set3b HBX.out HNG.out (.slice A2 rs2.length c2) (.bool dn) (.int .i64 (fu : Int))); replace HF2 := Lib.hid (set3f HF2.out HNB.out (.slice A2 rs2.length c2) (.bool dn) (.int .i64 (fu : Int))); replace HNB := Lib.hid (((HNB.out.set_ 0 (.slice A2 rs2.length c2)).set_ 1 (.bool dn)).set_ 2 (.int .i64 (fu : Int))))
                refine hK.out _ _ ?_ (fun hHeld => ?_)
                · exact HPK.out _ HBX.out
                clear hK K
                try simp only [Act.put, List.getElem_toArray, List.getElem_cons_succ, List.getElem_cons_zero, List.setIfInBounds_toArray, List.set_cons_zero, List.set_cons_succ]
                refine AnyZ.take (i := 12) (v := ?_) rfl (by kernel_rfl) (by kernel_rfl) (by kernel_rfl) (by kernel_rfl) (fun _ _ _ h => h) (Or.inl ⟨by kernel_rfl, ?_⟩) (by assumption) ?_
                rotate_left
                · intro w hSw; (try dsimp only at hSw); go_simp; try with_reducible rfl
                try simp only [Act.put, List.getElem_toArray, List.getElem_cons_succ, List.getElem_cons_zero, List.setIfInBounds_toArray, List.set_cons_zero, List.set_cons_succ]
                refine AnyZ.done (by kernel_rfl) ?_ _
                go_wp2_with fail
                go_meet
                exact ⟨_, A2, c2, rs2, rfl, rfl, HNG.out, HNB.out, HF2.out, HM2.out, HBX.out⟩
              · go_simp
                have HNG := Lib.hid HBX.out.size
                have HNB := Lib.hid (newBx HBX.out 32 #[.slice none 0 0, .bool false, .int .i64 0])
                try have HBXF := Lib.hid (HBX.out.alloc HBX.out.size (.cells #[.slice A2 rs2.length c2, .bool dn, .int .i64 (fu : Int)] 32))
                try have HNBF := Lib.hid (newBx HBX.out 32 #[.slice A2 rs2.length c2, .bool dn, .int .i64 (fu : Int)])
                try have HF2F := Lib.hid (HF2.out.below ((Below.refl _ _).alloc (Nat.le_refl _) (.cells #[.slice A2 rs2.length c2, .bool dn, .int .i64 (fu : Int)] 32)))
                try replace HF2 := Lib.hid (HF2.out.below ((Below.refl _ _).alloc (Nat.le_refl _) (.cells #[.slice none 0 0, .bool false, .int .i64 0] 32)))
                replace HBX := Lib.hid (HBX.out.alloc HBX.out.size (.cells #[.slice none 0 0, .bool false, .int .i64 0] 32))
                try change Hid (Below wr.heap.size wr (wr.alloc (.cells #[.slice none 0 0, .bool false, .int .i64 0] 32)).drew) at HBX
                try change Hid (Blk (wr.alloc (.cells #[.slice none 0 0, .bool false, .int .i64 0] 32)).drew wr.heap.size 32 #[.slice none 0 0, .bool false, .int .i64 0]) at HNB
                refine hK.out _ _ ?_ (fun hHeld => ?_)
                · exact HPK.out _ HBX.out
                clear hK K
                try simp only [Act.put, List.getElem_toArray, List.getElem_cons_succ, List.getElem_cons_zero, List.setIfInBounds_toArray, List.set_cons_zero, List.set_cons_succ]
                refine AnyZ.ready (rs := [6]) (by kernel_rfl) (by simp) ?_
                refine AllZ.cons rfl (fun K hK => ?_) AllZ.nil
                go_simp
                (with_reducible refine (HDO.out _ HBX.out).mono ?_); rintro e wj ⟨vj, rfl, ⟨A2, c2, rs2, rfl, hf2, hm2⟩, hbj⟩
                have HF2 : Hid (Files (up G w) wj A2 rs2) := Lib.hid (hf2.mono (fun g _ hg => hg.elim id (fun h => .inr (Nat.le_trans HZW.out (Nat.le_trans HBX.out.size h)))))
                have HM2 := Lib.hid hm2
                try (replace HNB := Lib.hid (HNB.out.below hbj HNB.out.lt); have n0 : wj.cell? ⟨wr.heap.size, 0, none⟩ = some (.slice none 0 0) := HNB.out.cell 0; have n1 : wj.cell? ⟨wr.heap.size, 1, none⟩ = some (.bool false) := HNB.out.cell 1; have n2 : wj.cell? ⟨wr.heap.size, 2, none⟩ = some (.int .i64 0) := HNB.out.cell 2; have nf0 := HNB.out.free 0; have nf1 := HNB.out.free 1; have nf2 := HNB.out.free 2)
                replace HBX := Lib.hid (HBX.out.trans (hbj.mono HBX.out.size))
                clear hf2 hm2 hbj
                refine hK.out _ _ ?_ (fun hHeld => ?_)
                · exact HPK.out _ HBX.out
                clear hK K
                try simp only [Act.put, List.getElem_toArray, List.getElem_cons_succ, List.getElem_cons_zero, List.setIfInBounds_toArray, List.set_cons_zero, List.set_cons_succ]
                refine AnyZ.take (i := 7) (v := ?_) rfl (by kernel_rfl) (by kernel_rfl) (by kernel_rfl) (by kernel_rfl) (fun _ _ _ h => h) (Or.inl ⟨by kernel_rfl, ?_⟩) (by assumption) ?_
                rotate_left
                · intro w hSw; (try dsimp only at hSw); go_simp; try with_reducible rfl
                try simp only [Act.put, List.getElem_toArray, List.getElem_cons_succ, List.getElem_cons_zero, List.setIfInBounds_toArray, List.set_cons_zero, List.set_cons_succ]
                refine AnyZ.take (i := 8) (v := ?_) rfl (by kernel_rfl) (by kernel_rfl) (by kernel_rfl) (by kernel_rfl) (fun _ _ _ h => h) (Or.inl ⟨by kernel_rfl, ?_⟩) (by assumption) ?_
                rotate_left
                · intro w hSw; (try dsimp only at hSw); go_simp; try with_reducible rfl
                try simp only [Act.put, List.getElem_toArray, List.getElem_cons_succ, List.getElem_cons_zero, List.setIfInBounds_toArray, List.set_cons_zero, List.set_cons_succ]
                refine AnyZ.take (i := 9) (v := ?_) rfl (by kernel_rfl) (by kernel_rfl) (by kernel_rfl) (by kernel_rfl) (fun _ _ _ h => h) (Or.inl ⟨by kernel_rfl, ?_⟩) (by assumption) ?_
                rotate_left
                · intro w hSw; (try dsimp only at hSw); go_simp; try with_reducible rfl
                try simp only [Act.put, List.getElem_toArray, List.getElem_cons_succ, List.getElem_cons_zero, List.setIfInBounds_toArray, List.set_cons_zero, List.set_cons_succ]
                refine AnyZ.ready (rs := [11]) (by kernel_rfl) (by simp) ?_
                refine AllZ.cons rfl (fun K hK => ?_) AllZ.nil
                go_simp
                first
                  | (replace HBX := HBXF; replace HF2 := HF2F; replace HNB := HNBF; clear HBXF HF2F HNBF)
                  | (replace HBX := Lib.hid (set3b HBX.out HNG.out (.slice A2 rs2.length c2) (.bool dn) (.int .i64 (fu : Int))); replace HF2 := Lib.hid (set3f HF2.out HNB.out (.slice A2 rs2.length c2) (.bool dn) (.int .i64 (fu : Int))); replace HNB := Lib.hid (((HNB.out.set_ 0 (.slice A2 rs2.length c2)).set_ 1 (.bool dn)).set_ 2 (.int .i64 (fu : Int))))
                refine hK.out _ _ ?_ (fun hHeld => ?_)
                · exact HPK.out _ HBX.out
                clear hK K
                try simp only [Act.put, List.getElem_toArray, List.getElem_cons_succ, List.getElem_cons_zero, List.setIfInBounds_toArray, List.set_cons_zero, List.set_cons_succ]
                refine AnyZ.take (i := 12) (v := ?_) rfl (by kernel_rfl) (by kernel_rfl) (by kernel_rfl) (by kernel_rfl) (fun _ _ _ h => h) (Or.inl ⟨by kernel_rfl, ?_⟩) (by assumption) ?_
                rotate_left
                · intro w hSw; (try dsimp only at hSw); go_simp; try with_reducible rfl
                try simp only [Act.put, List.getElem_toArray, List.getElem_cons_succ, List.getElem_cons_zero, List.setIfInBounds_toArray, List.set_cons_zero, List.set_cons_succ]
                refine AnyZ.done (by kernel_rfl) ?_ _
                go_wp2_with fail
                go_meet
                exact ⟨_, A2, c2, rs2, rfl, rfl, HNG.out, HNB.out, HF2.out, HM2.out, HBX.out⟩
            case rest =>
              obtain ⟨N, A2, c2, rs2, rfl, rfl, hN, hbk, hf2, hm2, hb2⟩ := hcut
              have HBK := Lib.hid hbk
              have HF2 := Lib.hid hf2
              have HM2 := Lib.hid hm2
              have HB2 := Lib.hid hb2
              have HBX2 : Hid (Blk wc w.heap.size 34 #[.slice A1 rs1.length c1, .bool false, .int .i64 ((f - i : Nat) : Int), .int .i64 t0, .int .i64 v0]) := Lib.hid (HBOX.out.below hb2 HBOX.out.lt)
              have HY2 : Hid (Blk wc (w.heap.size + 1) 34 #[.slice none 0 0, .bool false, .int .i64 0, .int .i64 0, .int .i64 0]) := Lib.hid ((HY1.out.frm HFR.out (by omega)).below hb2 (HY1.out.frm HFR.out (by omega)).lt)
              have e0 : wc.cell? ⟨N, 0, none⟩ = some (.slice A2 rs2.length c2) := hbk.cell 0
              have e1 : wc.cell? ⟨N, 1, none⟩ = some (.bool dn) := hbk.cell 1
              have e2 : wc.cell? ⟨N, 2, none⟩ = some (.int .i64 fu) := hbk.cell 2
              have r0 : wc.cell? ⟨w.heap.size, 0, none⟩ = some (.slice A1 rs1.length c1) := HBX2.out.cell 0
              have r1 : wc.cell? ⟨w.heap.size, 1, none⟩ = some (.bool false) := HBX2.out.cell 1
              have r2 : wc.cell? ⟨w.heap.size, 2, none⟩ = some (.int .i64 ((f - i : Nat) : Int)) := HBX2.out.cell 2
              have r3 : wc.cell? ⟨w.heap.size, 3, none⟩ = some (.int .i64 t0) := HBX2.out.cell 3
              have r4 : wc.cell? ⟨w.heap.size, 4, none⟩ = some (.int .i64 v0) := HBX2.out.cell 4
              have g0 := HBX2.out.free 0
              have g1 := HBX2.out.free 1
              have g2 := HBX2.out.free 2
              clear hbk hf2 hm2 hb2 HBX HPK HDO
              go_upto_region 11 with fail
              obtain ⟨W, hW⟩ : ∃ z, z = ((wc.setCell ⟨w.heap.size, 0, none⟩ (.slice A2 rs2.length c2)).setCell ⟨w.heap.size, 1, none⟩ (.bool dn)).setCell ⟨w.heap.size, 2, none⟩ (.int .i64 fu) := ⟨_, rfl⟩
              rw [← hW]
              have HBW : Hid (Blk W w.heap.size 34 #[.slice A2 rs2.length c2, .bool dn, .int .i64 fu, .int .i64 t0, .int .i64 v0]) := Lib.hid (by rw [hW]; exact ((HBX2.out.set_ 0 _).set_ 1 _).set_ 2 _)
              have hset : Frm (fun g => g = w.heap.size) wc W := by rw [hW]; exact (((Frm.refl (fun g => g = w.heap.size) wc).setCell (p := ⟨w.heap.size, 0, none⟩) (fun _ => rfl) _).setCell (p := ⟨w.heap.size, 1, none⟩) (fun _ => rfl) _).setCell (p := ⟨w.heap.size, 2, none⟩) (fun _ => rfl) _
              have HYW : Hid (Blk W (w.heap.size + 1) 34 #[.slice none 0 0, .bool false, .int .i64 0, .int .i64 0, .int .i64 0]) := Lib.hid (HY2.out.frm hset (by omega))
              have HFW : Hid (Files (up G w) W A2 rs2) := Lib.hid (by rw [hW]; exact ((HF2.out.far HBX2.out (by decide) (by decide) 0 _).far (HBX2.out.set_ 0 _) (by decide) (by decide) 1 _).far ((HBX2.out.set_ 0 _).set_ 1 _) (by decide) (by decide) 2 _)
              have HFRW : Hid (Frm (fun g => g = w.heap.size) w5 W) := Lib.hid ((HFR.out.trans (Frm.below HB2.out)).trans hset)
              clear hW hset e0 e1 e2 r0 r1 r2 r3 r4 g0 g1 g2
              have a0 : W.cell? ⟨w.heap.size + 1, 0, none⟩ = some (.slice none 0 0) := HYW.out.cell 0
              have a1 : W.cell? ⟨w.heap.size + 1, 1, none⟩ = some (.bool false) := HYW.out.cell 1
              have a2 : W.cell? ⟨w.heap.size + 1, 2, none⟩ = some (.int .i64 0) := HYW.out.cell 2
              have a3 : W.cell? ⟨w.heap.size + 1, 3, none⟩ = some (.int .i64 0) := HYW.out.cell 3
              have a4 : W.cell? ⟨w.heap.size + 1, 4, none⟩ = some (.int .i64 0) := HYW.out.cell 4
              have b0 : W.cell? ⟨w.heap.size, 0, none⟩ = some (.slice A2 rs2.length c2) := HBW.out.cell 0
              have b1 : W.cell? ⟨w.heap.size, 1, none⟩ = some (.bool dn) := HBW.out.cell 1
              have b2 : W.cell? ⟨w.heap.size, 2, none⟩ = some (.int .i64 fu) := HBW.out.cell 2
              have b3 : W.cell? ⟨w.heap.size, 3, none⟩ = some (.int .i64 t0) := HBW.out.cell 3
              have b4 : W.cell? ⟨w.heap.size, 4, none⟩ = some (.int .i64 v0) := HBW.out.cell 4
              have fa0 := HYW.out.free 0
              have fa1 := HYW.out.free 1
              have fa2 := HYW.out.free 2
              have fa3 := HYW.out.free 3
              have fa4 := HYW.out.free 4
              by_cases hbad : f = i + 1
              · obtain ⟨hs1, hs2⟩ := step_bad (o := o) (bs := bs) HLT.out hbad
                have hr := HRES.out
                rw [hs1] at hr
                injection hr with hr1 hr2
                injection hr1 with hr3 hr4 hr5
                subst hr3; subst hr4; subst hr5; subst hr2
                have HSV : Hid (saveH ⟨old o, false, f⟩ (t0, v0) t v = (⟨(stH o bs f i).files, true, 0⟩, (t0, v0), 50)) := Lib.hid (saveH_bad HR.out.symm (of_decide_eq_false HQ.out.symm) (by rw [steps_after o (bytesH t v) f (by rw [← HBS.out]; have := HBL.out; omega), ← HBS.out]; exact hs2) (by decide))
                clear hs1 hs2 hbad
                go_wp2_with fail
                refine bodyPost_ret (v := .tuple #[.agg #[.slice A2 rs2.length c2, .bool true, .int .i64 0, .int .i64 t0, .int .i64 v0], .int .i64 50]) (by simp [results, Tryz.results9, go_sem, a0, a1, a2, a3, a4]) rfl ?_
                rw [HSV.out]
                exact rsave_out (s := ⟨(stH o bs f i).files, true, 0⟩) (k := 50) HYW.out HFW.out HM2.out (HB05.out.trans (HFRW.out.to_below (fun k hk h1 h => by omega) HB05.out.size))
              · have hs1 := step_ok (o := o) (bs := bs) (by have := HBL.out; omega) HLT.out hbad HFI0.out
                have hr := HRES.out
                rw [hs1] at hr
                have hfi2 : f = 0 ∨ i + 1 < f := by have := HFI0.out; omega
                have hup := stH_up o bs f (i + 1) (by have := HLT.out; omega)
                injection hr with hr1 hr2
                have hfs : fs = (stH o bs f (i + 1)).files := by rw [← hr1]
                have hdn : dn = false := by have := hup.1; rw [← hr1] at this; exact this
                have hfu : fu = f - (i + 1) := by have := hup.2; rw [← hr1] at this; exact this
                have HM3 : Hid (rs2.map RFile.file = (stH o bs f (i + 1)).files) := Lib.hid (by rw [← hfs]; exact HM2.out)
                subst hr2
                clear hr1 HRES HM2 hup hfs hs1 hbad
                subst hdn; subst hfu
                go_wp2_with fail
                go_roundw
                case rel => exact ⟨i + 1, A2, c2, rs2, HLT.out, hfi2, by go_num, HBW.out, HFW.out, HM3.out, HFRW.out⟩
                case measure => simp [RowKit.intOf]; have := HLT.out; omega
          · have hi4 : i = 4 := by omega
            subst hi4
            have t4 : ¬ ((4 : Nat) : Int) < 4 := by omega
            have hgood := after_good (o := o) (bs := bs) HFI0.out
            have HSV : Hid (saveH ⟨old o, false, f⟩ (t0, v0) t v = (stH o bs f 4, (t, v), 0)) := Lib.hid (saveH_ok HR.out.symm (of_decide_eq_false HQ.out.symm) (by rw [steps_after o (bytesH t v) f (by rw [← HBS.out]; have := HBL.out; omega), ← HBS.out]; exact hgood))
            have HYW : Hid (Blk wr (w.heap.size + 1) 34 #[.slice none 0 0, .bool false, .int .i64 0, .int .i64 0, .int .i64 0]) := Lib.hid (HY1.out.frm HFR.out (by omega))
            have a0 : wr.cell? ⟨w.heap.size + 1, 0, none⟩ = some (.slice none 0 0) := HYW.out.cell 0
            have a1 : wr.cell? ⟨w.heap.size + 1, 1, none⟩ = some (.bool false) := HYW.out.cell 1
            have a2 : wr.cell? ⟨w.heap.size + 1, 2, none⟩ = some (.int .i64 0) := HYW.out.cell 2
            have a3 : wr.cell? ⟨w.heap.size + 1, 3, none⟩ = some (.int .i64 0) := HYW.out.cell 3
            have a4 : wr.cell? ⟨w.heap.size + 1, 4, none⟩ = some (.int .i64 0) := HYW.out.cell 4
            have b0 : wr.cell? ⟨w.heap.size, 0, none⟩ = some (.slice A1 rs1.length c1) := HBOX.out.cell 0
            have b1 : wr.cell? ⟨w.heap.size, 1, none⟩ = some (.bool false) := HBOX.out.cell 1
            have b2 : wr.cell? ⟨w.heap.size, 2, none⟩ = some (.int .i64 ((f - 4 : Nat) : Int)) := HBOX.out.cell 2
            have b3 : wr.cell? ⟨w.heap.size, 3, none⟩ = some (.int .i64 t0) := HBOX.out.cell 3
            have b4 : wr.cell? ⟨w.heap.size, 4, none⟩ = some (.int .i64 v0) := HBOX.out.cell 4
            have fa0 := HYW.out.free 0
            have fa1 := HYW.out.free 1
            have fa2 := HYW.out.free 2
            have fa3 := HYW.out.free 3
            have fa4 := HYW.out.free 4
            have fb3 := HBOX.out.free 3
            have fb4 := HBOX.out.free 4
            clear hgood hlt
            go_wp2_with fail
            refine bodyPost_ret (v := .tuple #[.agg #[.slice A1 rs1.length c1, .bool false, .int .i64 ((f - 4 : Nat) : Int), .int .i64 t, .int .i64 v], .int .i64 0]) (by simp [results, Tryz.results9, go_sem, a0, a1, a2, a3, a4]) rfl ?_
            rw [HSV.out]
            have hset : Frm (fun g => g = w.heap.size) wr ((wr.setCell ⟨w.heap.size, 3, none⟩ (.int .i64 t)).setCell ⟨w.heap.size, 4, none⟩ (.int .i64 v)) := ((Frm.refl (fun g => g = w.heap.size) wr).setCell (p := ⟨w.heap.size, 3, none⟩) (fun _ => rfl) _).setCell (p := ⟨w.heap.size, 4, none⟩) (fun _ => rfl) _
            exact rsave_out (s := stH o bs f 4) (k := 0) (HYW.out.frm hset (by omega)) ((HFI.out.far HBOX.out (by decide) (by decide) 3 _).far (HBOX.out.set_ 3 _) (by decide) (by decide) 4 _) HMP.out (HB05.out.trans ((HFR.out.trans hset).to_below (fun k hk h1 h => by omega) HB05.out.size))
end Go.Proofs.YtfpomllhkbbipaaGreat
