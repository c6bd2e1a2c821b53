/- Layer 7: HardPlays: what it holds between its rounds. -/
import Derived.Test.YtfpomllhkbbipaaGreatHdC
import Derived.Test.YtfpomllhkbbipaaGreatR7s
import Derived.Test.YtfpomllhkbbipaaGreatAnd
import Derived.Deep.CutBlock
namespace Go.Proofs.YtfpomllhkbbipaaGreat
open Go Go.RowKit Go.Maps Go.Lib Mem Pk Dsk Hd

/-! plain: a disk that is up, a disk behind a loss -/
def Okay (s : S) : Prop := ∃ o f, s = ⟨old o, false, f⟩ ∧ f ≤ 7
def Opens (s : S) : Prop := ∀ keep, ∃ o, openH (crash s keep) = (⟨old o, false, 0⟩, tvO o, 0)
def Broke (s : S) : Prop := s.down = true ∧ Opens s
theorem Okay.opens {s : S} (h : Okay s) : Opens s := by
  obtain ⟨o, f, rfl, -⟩ := h
  exact fun keep => ⟨o, by rw [crash_old, open_old]⟩
theorem Okay.fuse {s : S} (h : Okay s) {k : Nat} (hk : k ≤ 7) : Okay { s with fuse := k } := by
  obtain ⟨o, f, rfl, -⟩ := h
  exact ⟨o, k, rfl, hk⟩
theorem Broke.fuse {s : S} (h : Broke s) (k : Nat) : Broke { s with fuse := k } := ⟨h.1, h.2⟩
theorem okay_save {s : S} (h : Okay s) (tv : Int × Int) (t v : Int) : ((saveH s tv t v).2.2 = 50 ∧ Broke (saveH s tv t v).1) ∨ ((saveH s tv t v).2.2 ≠ 50 ∧ Okay (saveH s tv t v).1) := by
  have h0 := h
  obtain ⟨o, f, rfl, hf⟩ := h
  cases hr : rightH t v with
  | false => rw [saveH_no hr]; exact .inr ⟨(by show (_ : Nat) ≠ 50; simp), h0⟩
  | true =>
    by_cases he : tv = (t, v)
    · rw [saveH_same hr he]; exact .inr ⟨(by show (_ : Nat) ≠ 50; simp), h0⟩
    · have hs := steps_after o (bytesH t v) f (by have := bytesH_len t v; omega)
      by_cases hg : f = 0 ∨ 4 < f
      · have h3 : stepsH ⟨old o, false, f⟩ (bytesH t v) = (stH o (bytesH t v) f 4, 0) := by rw [hs, after_good hg]
        rw [saveH_ok hr he h3]
        exact .inr ⟨(by show (_ : Nat) ≠ 50; simp), _, _, rfl, by omega⟩
      · have hb : f - 1 < 4 := by omega
        have h4 := (step_bad (o := o) (bs := bytesH t v) hb (show f = f - 1 + 1 by omega)).2
        have h3 := hs.trans h4
        rw [saveH_bad hr he h3 (by decide)]
        refine .inl ⟨rfl, rfl, fun keep => ⟨o, ?_⟩⟩
        rcases after_crash o (bytesH t v) f keep with ⟨h5, -⟩ | ⟨-, -, h5⟩
        · rw [h4] at h5; exact absurd h5 (by show ¬ (50 : Nat) = 0; decide)
        · rw [h4] at h5; exact h5
/-! memory -/
/-- the law's disk and hard, and the document's hard in the box bm; G are the blocks of the latter -/
structure HP (G : Nat → Prop) (B p hb bm : Nat) (s t : S) (tv ut : Int × Int) (w : World) : Prop where
  ha : HAt G B p hb s tv w
  box : G bm
  big : B ≤ bm
  ref : ∃ A c rs, Blk w bm 34 #[.slice A rs.length c, .bool t.down, .int .i64 t.fuse, .int .i64 ut.1, .int .i64 ut.2] ∧ Files G w A rs ∧ rs.map RFile.file = t.files
section
variable {G : Nat → Prop} {B p hb hb' bm : Nat} {s t s' t' : S} {tv ut tv' ut' : Int × Int} {w w' : World}
theorem HP.below (h : HP G B p hb bm s t tv ut w) (hw : Below w.heap.size w w') : HP G B p hb bm s t tv ut w' := by
  obtain ⟨A, c, rs, h1, h2, h3⟩ := h.ref
  exact ⟨h.ha.below hw, h.box, h.big, A, c, rs, h1.below hw h1.lt, h2.below hw, h3⟩
theorem HP.op (h : HP G B p hb bm s t tv ut w) (h1 : HAt G B p hb' s' tv' w') (hw : Below B w w') (hk : Kept G w w') : HP G B p hb' bm s' t tv' ut w' := by
  obtain ⟨A, c, rs, h2, h3, h4⟩ := h.ref
  exact ⟨h1, h.box, h.big, A, c, rs, (hk _ h.box).trans h2, h3.frm (frm_of_kept hw hk) (fun g hg hn => hn hg), h4⟩
/-- a row of stores into one block that is the document's -/
theorem HAt.setIn (h : HAt G B p hb s tv w) {q : Addr} (hq : G q.block) (u : Value) : HAt G B p hb s tv (w.setCell q u) := by
  refine ⟨h.dx.setIn (.inl hq) u, ?_, h.big, h.notG⟩
  exact h.blk.frm (F := fun g => g = q.block) ((Frm.refl (fun g => g = q.block) w).setCell (p := q) (fun _ => rfl) u) (fun e => h.notG (e ▸ hq))
theorem HAt.next (h : HAt G B p hb s tv w) (hw : Below w.heap.size w w') : HAt (nextG G w w') B p hb s tv w' := by
  refine ⟨(h.dx.protect (G2 := fun g => w.heap.size ≤ g ∧ g < w'.heap.size) hw (fun g hg => hg)).weaken ?_, h.blk.below hw h.blk.lt, h.big, ?_⟩
  · intro g hg
    rcases hg with ⟨hg | hg, hl⟩ | rfl
    · exact .inl (.inl hg)
    · exact .inr ⟨hg, hl⟩
    · exact .inl (.inr rfl)
  · rintro ⟨hg | hg, -⟩
    · exact h.notG hg
    · have := h.blk.lt; omega
/-- the document's answer laid into its box -/
theorem HP.put (h : HP G B p hb bm s t tv ut w) (hw : Below w.heap.size w w') {A : Option Addr} {c : Nat} {rs : List RFile} (hf : Files (up G w) w' A rs) (hm : rs.map RFile.file = t'.files) :
    HP (nextG G w w') B p hb bm s t' tv ut' (((((w'.setCell ⟨bm, 0, none⟩ (.slice A rs.length c)).setCell ⟨bm, 1, none⟩ (.bool t'.down)).setCell ⟨bm, 2, none⟩ (.int .i64 t'.fuse)).setCell ⟨bm, 3, none⟩ (.int .i64 ut'.1)).setCell ⟨bm, 4, none⟩ (.int .i64 ut'.2)) := by
  obtain ⟨A0, c0, rs0, h1, _, _⟩ := h.ref
  have h2 := h1.below hw h1.lt
  have hin : nextG G w w' bm := ⟨.inl h.box, h2.lt⟩
  have hs0 := h2.set_ 0 (.slice A rs.length c)
  have hs1 := hs0.set_ 1 (.bool t'.down)
  have hs2 := hs1.set_ 2 (.int .i64 t'.fuse)
  have hs3 := hs2.set_ 3 (.int .i64 ut'.1)
  have hs4 := hs3.set_ 4 (.int .i64 ut'.2)
  have hf0 : Files (nextG G w w') w' A rs := hf.mono (fun g hl hg => ⟨hg, hl⟩)
  exact ⟨(((((h.ha.next hw).setIn (q := ⟨bm, 0, none⟩) hin _).setIn (q := ⟨bm, 1, none⟩) hin _).setIn (q := ⟨bm, 2, none⟩) hin _).setIn (q := ⟨bm, 3, none⟩) hin _).setIn (q := ⟨bm, 4, none⟩) hin _, hin, h.big, A, c, rs, hs4,
    ((((hf0.far h2 (by decide) (by decide) 0 _).far hs0 (by decide) (by decide) 1 _).far hs1 (by decide) (by decide) 2 _).far hs2 (by decide) (by decide) 3 _).far hs3 (by decide) (by decide) 4 _, hm⟩
theorem HP.fuse (h : HP G B p hb bm s t tv ut w) (k : Nat) : HP G B p hb bm s { t with fuse := k } tv ut (w.setCell ⟨bm, 2, none⟩ (.int .i64 k)) := by
  obtain ⟨A, c, rs, h1, h2, h3⟩ := h.ref
  exact ⟨h.ha.setIn (q := ⟨bm, 2, none⟩) h.box _, h.box, h.big, A, c, rs, h1.set_ 2 _, h2.far h1 (by decide) (by decide) 2 _, h3⟩
theorem HP.inv (h : HP G B p hb bm s t tv ut w) : s.files.length ≤ 256 ∧ Sorted s.files := by
  obtain ⟨mb, rs', hr⟩ := h.ha.dx.at_
  exact ⟨hr.count, hr.sorted⟩
theorem HP.open_ (h : HP G B p hb bm s t tv ut w) (hc : t.files.length ≤ 256) : ∃ A c rs, Blk w bm 34 #[.slice A rs.length c, .bool t.down, .int .i64 t.fuse, .int .i64 ut.1, .int .i64 ut.2] ∧ Files G w A rs ∧ rs.map RFile.file = t.files ∧ rs.length ≤ 256 := by
  obtain ⟨A, c, rs, h1, h2, h3⟩ := h.ref
  refine ⟨A, c, rs, h1, h2, h3, ?_⟩
  rw [← h3, List.length_map] at hc; exact hc
theorem L_hFailG (h : HAt G B p hb s tv w) (n : Int) (hn : (Lit.int .i64 n).wf = true) : Calls Tryz.prog 10 #[.pointer (some ⟨p, 0, none⟩), .int .i64 n] w fun e w' => e = .returned (.tuple #[]) ∧ HAt G B p hb { s with fuse := n.toNat } tv w' ∧ Below B w w' ∧ Kept G w w' :=
  (Fail_any h.dx.at_ n hn).mono fun _ _ ⟨he, hd, hf⟩ => by
    have h2 := frmX h.dx.le h.dx.old hf
    exact ⟨he, ⟨⟨hd, Nat.le_trans h.dx.le hf.size, fun g hg => Nat.lt_of_lt_of_le (h.dx.old g hg) hf.size⟩, (h2.2 hb (.inr rfl)).trans h.blk, h.big, h.notG⟩, h2.1, fun g hg => h2.2 g (.inl hg)⟩
end
end Go.Proofs.YtfpomllhkbbipaaGreat
namespace Go.Proofs.YtfpomllhkbbipaaGreat
open Go.RowKit Go.Maps Mem Dsk

/-- a call of a script, as it lies in memory -/
structure HopR where
  kind : Int
  t : Int
  v : Int
  n : Int
  K : Option Addr
  d : Nat
  keep : List Bool
def HopR.cell (o : HopR) : Nat → Value
  | 0 => .int .i64 o.kind
  | 1 => .int .i64 o.t
  | 2 => .int .i64 o.v
  | 3 => .int .i64 o.n
  | _ => .slice o.K o.keep.length o.d
structure HopOK (B : Nat) (w : World) (o : HopR) : Prop where
  kind : (Lit.int .i64 o.kind).wf = true
  n : (Lit.int .i64 o.n).wf = true
  keep : ∃ te, SlB fBool te (fun g => g < B) w o.K o.keep
def HScript (B : Nat) (w : World) (A : Option Addr) (ops : List HopR) : Prop :=
  ops.length ≤ maxLen ∧ (0 < ops.length → ∃ b o, A = some ⟨b, o, none⟩ ∧ b < B ∧ ∀ j (h : j < ops.length) i, i < 5 → w.cell? ⟨b, o + j * 5 + i, none⟩ = some (ops[j].cell i)) ∧ ∀ o ∈ ops, HopOK B w o
section
variable {B : Nat} {w w' : World} {A : Option Addr} {ops : List HopR}
theorem HopOK.under {o : HopR} (h : HopOK B w o) (hb : Below B w w') : HopOK B w' o :=
  { h with keep := by obtain ⟨te, h1⟩ := h.keep; exact ⟨te, h1.under hb⟩ }
theorem HScript.under (h : HScript B w A ops) (hb : Below B w w') : HScript B w' A ops :=
  ⟨h.1, fun hn => by
    obtain ⟨b, o, e, hlt, hc⟩ := h.2.1 hn
    exact ⟨b, o, e, hlt, fun j hj i hi => (hb.cell (p := ⟨b, o + j * 5 + i, none⟩) hlt).trans (hc j hj i hi)⟩, fun o ho => (h.2.2 o ho).under hb⟩
theorem HScript.at (h : HScript B w A ops) {k : Nat} (hk : k < ops.length) : ∃ b o, A = some ⟨b, o, none⟩ ∧ b < B ∧ ∀ i, i < 5 → w.cell? ⟨b, o + k * 5 + i, none⟩ = some (ops[k].cell i) := by
  obtain ⟨b, o, e, hlt, hc⟩ := h.2.1 (by omega)
  exact ⟨b, o, e, hlt, hc k hk⟩
theorem HScript.ok (h : HScript B w A ops) {k : Nat} (hk : k < ops.length) : HopOK B w ops[k] := h.2.2 _ (List.getElem_mem hk)
end
theorem open_hscript {H : Type} {enc : TypeId × Value → H} {w : World} {v : Value} {d : DataW H} {ps : List MemPlace} (h : DataW.Trod enc Tryz.prog w 0 (fun _ => true) true 22 v d ps) (hv : ∃ A len cap, v = .slice A len cap) :
    ∃ (A : Option Addr) (cap : Nat) (ops : List HopR), v = .slice A ops.length cap ∧ HScript w.heap.size w A ops := by
  obtain ⟨A, len, cap, rfl⟩ := hv
  obtain ⟨fuel, hf⟩ := h
  have hf : DataW.trod enc Tryz.prog w 0 (fun _ => true) true fuel 22 [.slice A len cap] = some (d, ps) := hf
  obtain ⟨A', cap', ops, e, hle, hcm, hc, hq⟩ := open_structs (fuel := fuel) (v := .slice A len cap) HopR.cell (HopOK w.heap.size w) Tryz.underlying22 Tryz.underlying39 (by kernel_rfl) (by kernel_rfl) (by decide) hf (fun c n hfl => by
    obtain ⟨y0, t0⟩ := hfl 0 _ rfl
    obtain ⟨y1, t1⟩ := hfl 1 _ rfl
    obtain ⟨y2, t2⟩ := hfl 2 _ rfl
    obtain ⟨y3, t3⟩ := hfl 3 _ rfl
    obtain ⟨y4, t4⟩ := hfl 4 _ rfl
    obtain ⟨k, e0, w0⟩ := op_int Tryz.underlying3 t0
    obtain ⟨a, e1, w1⟩ := op_int Tryz.underlying2 t1
    obtain ⟨z, e2, w2⟩ := op_int Tryz.underlying3 t2
    obtain ⟨m, e3, w3⟩ := op_int Tryz.underlying3 t3
    obtain ⟨A5, c5, ks, e5, h51, h52, hs5, _⟩ := op_slice fBool (fun _ => True) Tryz.underlying37 (by kernel_rfl) t4 (fun v n y h => op_bool Tryz.underlying4 h)
    refine ⟨⟨k, a, z, m, A5, c5, ks⟩, fun j hj => ?_, ⟨w0, w3, hs5.old⟩⟩
    match j, hj with
    | 0, _ => exact e0
    | 1, _ => exact e1
    | 2, _ => exact e2
    | 3, _ => exact e3
    | 4, _ => exact e5)
  injection e with e1 e2 e3
  subst e1; subst e2; subst e3
  refine ⟨_, _, ops, rfl, ?_, hc, hq⟩
  omega
end Go.Proofs.YtfpomllhkbbipaaGreat
namespace Go.Proofs.YtfpomllhkbbipaaGreat
open Go Go.RowKit Go.Maps Go.Lib Mem Pk Dsk Hd

def Held (b : Bool) (s : S) : Prop := if b then Broke s else Okay s
def PhRel (B p bm : Nat) (w : World) (hv bv kv : Value) (wr : World) : Prop :=
  ∃ (k hb : Nat) (s : S) (tv : Int × Int) (G : Nat → Prop) (br : Bool), kv = .int .i64 k ∧ hv = .pointer (some ⟨hb, 0, none⟩) ∧ bv = .bool br ∧ HP G B p hb bm s s tv tv wr ∧ Below B w wr ∧ Hid (Held br s)
def PhMid (B p bm ob : Nat) (cs : Array Value) (w : World) (hv bv : Value) (wx : World) : Prop :=
  ∃ (hb : Nat) (s : S) (tv : Int × Int) (G : Nat → Prop) (br : Bool), hv = .pointer (some ⟨hb, 0, none⟩) ∧ bv = .bool br ∧ HP G B p hb bm s s tv tv wx ∧ Below B w wx ∧ Hid (Held br s)
theorem HP.more {G : Nat → Prop} {B p hb bm : Nat} {s t : S} {tv ut : Int × Int} {w w' : World} (h : HP G B p hb bm s t tv ut w) (hw : Below w.heap.size w w') (hl : w.heap.size < w'.heap.size) : HP (fun g => G g ∨ g = w.heap.size) B p hb bm s t tv ut w' := by
  obtain ⟨A, c, rs, h1, h2, h3⟩ := h.ref
  have hd : DX (fun g => (G g ∨ g = w.heap.size) ∨ g = hb) B p s w' := (h.ha.dx.protect (G2 := fun g => g = w.heap.size) hw (fun g hg => by subst hg; exact ⟨Nat.le_refl _, hl⟩)).weaken (fun g hg => by
    rcases hg with (hg | hg) | hg
    · exact .inl (.inl hg)
    · exact .inr hg
    · exact .inl (.inr hg))
  refine ⟨⟨hd, h.ha.blk.below hw h.ha.blk.lt, h.ha.big, ?_⟩, .inl h.box, h.big, A, c, rs, h1.below hw h1.lt, (h2.below hw).mono (fun _ _ h => .inl h), h3⟩
  rintro (hg | hg)
  · exact h.ha.notG hg
  · have := h.ha.blk.lt; omega
def PnRel (n : Nat) (w : World) (iv : Value) (wx : World) : Prop := ∃ i : Nat, i ≤ n ∧ iv = .int .i64 i ∧ Below w.heap.size w wx
theorem wf_n7 {m : Nat} (h : m ≤ 7) : (Lit.int .i64 (m : Int)).wf = true := by
  have e3 : IntKind.i64.min = -9223372036854775808 := rfl
  have e4 : IntKind.i64.max = 9223372036854775807 := rfl
  simp [Lit.wf, e3, e4]; omega
theorem okay_s0 : Okay s0 := ⟨none, 0, rfl, by decide⟩
theorem sorted_s0 : Sorted s0.files := List.Pairwise.nil
set_option maxRecDepth 100000 in
set_option maxHeartbeats 8000000 in
theorem hardPlays_walk {w : World} (A : Option Addr) (ca : Nat) (ops : List HopR) (hops : HScript w.heap.size w A ops) :
    Calls Tryz.prog 3 #[.slice A ops.length ca] w fun e w' => e = .returned (.bool true) ∧ Below w.heap.size w w' := by
  have hlo := hops.1
  unfold maxLen at hlo
  have HOPS := Lib.hid hops; clear hops
  go_enter Tryz.func3, Tryz.ntmps3
  go_wp2_with fail
  (with_reducible refine (L_New w w.heap.size (Nat.le_refl _)).mono ?_); rintro e w1 ⟨p, rfl, hd1, hp, hb1⟩
  have HB1 := Lib.hid hb1
  go_wp2_with fail
  (with_reducible refine (alive_any w1).mono ?_); rintro e w2 ⟨rfl, hb2⟩
  have HD2 := Lib.hid (hd1.below hb2)
  have HB2 : Hid (Below w.heap.size w w2) := Lib.hid (HB1.out.trans (hb2.mono HB1.out.size))
  clear hd1 hb1 hb2 HB1
  go_wp2_with fail
  (with_reducible refine (L_hOpen HD2.out o0).mono ?_); rintro e w3 ⟨hb, rfl, ha3, hb3⟩
  have HA3 := Lib.hid ha3
  have HB3 : Hid (Below w.heap.size w w3) := Lib.hid (HB2.out.trans hb3)
  have hro := ROpen_any (G := fun _ => False) (w := w3) none 0 [] ⟨SlK.nil, fun r hr => by cases hr⟩ s0 rfl (by decide) sorted_s0 rfl rfl
  change Calls _ _ #[.agg #[.slice none 0 0, .bool false, .int .i64 0]] _ _ at hro
  have HRO := Lib.hid hro
  clear ha3 hb3 hro HB2 HD2
  go_wp2_with fail
  (with_reducible refine HRO.out.mono ?_); rintro e w4 ⟨A4, c4, rs4, rfl, hf4, hm4, hb4⟩
  have HF4 := Lib.hid hf4
  have HM4 := Lib.hid hm4
  have HB4 := Lib.hid hb4
  change Hid (rs4.map RFile.file = s0.files) at HM4
  clear hf4 hm4 hb4 HRO
  rw [o0]
  go_upto_region 6 with fail
  obtain ⟨w5, hw5⟩ : ∃ z, z = w4.alloc (.cells #[.slice A4 rs4.length c4, .bool false, .int .i64 0, .int .i64 0, .int .i64 0] 34) := ⟨_, rfl⟩
  have hbx : Blk w5 w4.heap.size 34 #[.slice A4 rs4.length c4, .bool false, .int .i64 0, .int .i64 0, .int .i64 0] := by rw [hw5]; exact Blk.new_ w4 _ _
  have hb35 : Below w3.heap.size w3 w5 := by rw [hw5]; exact HB4.out.alloc HB4.out.size _
  have hf5 : Files (up (fun _ => False) w3) w5 A4 rs4 := by rw [hw5]; exact HF4.out.below ((Below.refl _ _).alloc (Nat.le_refl _) _)
  change Code.wp _ _ _ _ (w4.alloc (.cells #[.slice A4 rs4.length c4, .bool false, .int .i64 0, .int .i64 0, .int .i64 0] 34))
  rw [← hw5]
  have hhp : HP (nextG (fun _ => False) w3 w5) w.heap.size p hb w4.heap.size s0 s0 (0, 0) (0, 0) w5 :=
    ⟨HA3.out.next hb35, ⟨.inr HB4.out.size, hbx.lt⟩, Nat.le_trans HB3.out.size HB4.out.size, A4, c4, rs4, hbx, hf5.mono (fun g hl hg => ⟨hg, hl⟩), HM4.out⟩
  have HHP := Lib.hid hhp
  have HB5 : Hid (Below w.heap.size w w5) := Lib.hid (HB3.out.trans (hb35.mono HB3.out.size))
  obtain ⟨bm, hbm⟩ : ∃ z, z = w4.heap.size := ⟨_, rfl⟩
  rw [← hbm] at HHP ⊢
  clear hw5 hbx hb35 hf5 hhp hbm HF4 HM4 HB4 HB3 HA3
  go_wp2_with fail
  go_loopw [4, 8, 42] (fun hv bv kv wr => PhRel w.heap.size p bm w hv bv kv wr) (fun _ _ kv _ => ops.length - (RowKit.intOf kv).toNat)
  case atStart => exact ⟨0, hb, s0, (0, 0), _, false, rfl, rfl, rfl, HHP.out, HB5.out, Lib.hid okay_s0⟩
  case round =>
    clear HHP HB5
    obtain ⟨k, hb, s, tv, G, br, rfl, rfl, rfl, hhp, hbw, hheld⟩ := hrel
    have HHP := Lib.hid hhp
    have HBW := Lib.hid hbw
    clear hhp hbw
    by_cases hlt : k < ops.length
    · have HOP := Lib.hid (HOPS.out.under HBW.out)
      obtain ⟨b, o, rfl, hbB, hcell⟩ := HOP.out.at hlt
      have hok := HOP.out.ok hlt
      obtain ⟨op, hop⟩ : ∃ op, op = ops[k] := ⟨_, rfl⟩
      rw [← hop] at hcell hok
      have HOK := Lib.hid hok
      obtain ⟨kind, ot, ov, n, oK, od, okeep⟩ := op
      have i0 : wr.cell? ⟨b, o + k * 5, none⟩ = some (.int .i64 kind) := hcell 0 (by decide)
      have i1 : wr.cell? ⟨b, o + k * 5 + 1, none⟩ = some (.int .i64 ot) := hcell 1 (by decide)
      have i2 : wr.cell? ⟨b, o + k * 5 + 2, none⟩ = some (.int .i64 ov) := hcell 2 (by decide)
      have i3 : wr.cell? ⟨b, o + k * 5 + 3, none⟩ = some (.int .i64 n) := hcell 3 (by decide)
      have i4 : wr.cell? ⟨b, o + k * 5 + 4, none⟩ = some (.slice oK okeep.length od) := hcell 4 (by decide)
      clear hcell hop hok HOP
      go_upto_region 10 with fail
      obtain ⟨wa, hwa⟩ : ∃ x, x = wr.alloc (.cells #[.int .i64 kind, .int .i64 ot, .int .i64 ov, .int .i64 n, .slice oK okeep.length od] 39) := ⟨_, rfl⟩
      rw [← hwa]
      have hab : Below wr.heap.size wr wa := by rw [hwa]; exact (Below.refl _ _).alloc (Nat.le_refl _) _
      have hbox : Blk wa wr.heap.size 39 #[.int .i64 kind, .int .i64 ot, .int .i64 ov, .int .i64 n, .slice oK okeep.length od] := by rw [hwa]; exact Blk.new_ wr _ _
      have HPA := Lib.hid (HHP.out.more hab hbox.lt)
      have HBA : Hid (Below w.heap.size w wa) := Lib.hid (HBW.out.trans (hab.mono HBW.out.size))
      have HOKA := Lib.hid (HOK.out.under (hab.mono HBW.out.size))
      have HBOX := Lib.hid hbox
      obtain ⟨ob, hob⟩ : ∃ z, z = wr.heap.size := ⟨_, rfl⟩
      rw [← hob] at HPA HBOX ⊢
      have HGB : Hid ((fun g => G g ∨ g = ob) ob) := Lib.hid (.inr rfl)
      obtain ⟨F, hF⟩ : ∃ F : Nat → Prop, F = fun g => G g ∨ g = ob := ⟨_, rfl⟩
      rw [← hF] at HPA HGB
      clear hwa hab hbox i0 i1 i2 i3 i4 hob hF HHP HOK
      have HLT := Lib.hid hlt
      have j0 : wa.cell? ⟨ob, 0, none⟩ = some (.int .i64 kind) := HBOX.out.cell 0
      go_upto_block 2 with fail
      go_cut [4, 8] (fun hv bv wx => PhMid w.heap.size p bm ob #[.int .i64 kind, .int .i64 ot, .int .i64 ov, .int .i64 n, .slice oK okeep.length od] w hv bv wx)
      case first =>
        by_cases k1 : kind = 1
        · have t1 : (kind == 1) = true := by rw [k1]; rfl
          clear k1
          cases br with
          | true =>
            go_wp2_with fail
            go_roundw
            case rel => exact ⟨k + 1, hb, s, tv, F, true, by go_num, rfl, rfl, HPA.out, HBA.out, hheld⟩
            case measure => simp [RowKit.intOf]; have := HLT.out; omega
          | false =>
            have hok2 : Okay s := hheld.out
            obtain ⟨⟨s9, tv9, kk⟩, hres⟩ : ∃ z, z = saveH s tv ot ov := ⟨_, rfl⟩
            have hov := okay_save hok2 tv ot ov
            rw [← hres] at hov
            have HSV := Lib.hid (hSave_any HPA.out.ha ot ov)
            rw [← hres] at HSV
            have HOV := Lib.hid hov
            obtain ⟨o2, f2, rfl, hf2⟩ := hok2
            have HRES := Lib.hid hres
            have j1 : wa.cell? ⟨ob, 1, none⟩ = some (.int .i64 ot) := HBOX.out.cell 1
            have j2 : wa.cell? ⟨ob, 2, none⟩ = some (.int .i64 ov) := HBOX.out.cell 2
            clear hres hov
            unfold HSaveP at HSV
            go_wp2_with fail
            (with_reducible refine HSV.out.mono ?_); rintro e w4 ⟨rfl, ha4, hb4, hk4⟩
            have HP4 := Lib.hid (HPA.out.op ha4 hb4 hk4)
            have HB4 : Hid (Below w.heap.size w w4) := Lib.hid (HBA.out.trans hb4)
            have hx4 : Blk w4 ob 39 #[.int .i64 kind, .int .i64 ot, .int .i64 ov, .int .i64 n, .slice oK okeep.length od] := (hk4 _ HGB.out).trans HBOX.out
            obtain ⟨A5, c5, rs5, hk5, hf5, hm5, -⟩ := HP4.out.open_ HPA.out.inv.1
            have HK5 := Lib.hid hk5
            have j1' : w4.cell? ⟨ob, 1, none⟩ = some (.int .i64 ot) := hx4.cell 1
            have j2' : w4.cell? ⟨ob, 2, none⟩ = some (.int .i64 ov) := hx4.cell 2
            have b0 : w4.cell? ⟨bm, 0, none⟩ = some (.slice A5 rs5.length c5) := hk5.cell 0
            have b1 : w4.cell? ⟨bm, 1, none⟩ = some (.bool false) := hk5.cell 1
            have b2 : w4.cell? ⟨bm, 2, none⟩ = some (.int .i64 f2) := hk5.cell 2
            have b3 : w4.cell? ⟨bm, 3, none⟩ = some (.int .i64 tv.1) := hk5.cell 3
            have b4 : w4.cell? ⟨bm, 4, none⟩ = some (.int .i64 tv.2) := hk5.cell 4
            have hrs := RSave_any A5 c5 rs5 hf5 o2 hm5 f2 (by omega) tv.1 tv.2 ot ov
            rw [show saveH ⟨old o2, false, f2⟩ (tv.1, tv.2) ot ov = (s9, tv9, kk) from HRES.out.symm] at hrs
            unfold RSaveP at hrs
            have HRS := Lib.hid hrs
            clear ha4 hb4 hk4 hx4 hk5 hf5 hm5 hrs j1 j2 HSV
            go_wp2_with fail
            (with_reducible refine HRS.out.mono ?_); rintro e w5 ⟨A6, c6, rs6, rfl, hf6, hm6, hb6⟩
            have HF6 := Lib.hid hf6
            have HM6 := Lib.hid hm6
            have HB6 := Lib.hid hb6
            clear hf6 hm6 hb6 HRS j1' j2' b0 b1 b2 b3 b4
            go_upto_region 15 with fail
            obtain ⟨w6, hw6⟩ : ∃ z, z = w5.alloc (.cells #[.slice A6 rs6.length c6, .bool s9.down, .int .i64 s9.fuse, .int .i64 tv9.1, .int .i64 tv9.2] 34) := ⟨_, rfl⟩
            rw [← hw6]
            have hx6 : Blk w6 w5.heap.size 34 #[.slice A6 rs6.length c6, .bool s9.down, .int .i64 s9.fuse, .int .i64 tv9.1, .int .i64 tv9.2] := by rw [hw6]; exact Blk.new_ w5 _ _
            have hb56 : Below w5.heap.size w5 w6 := by rw [hw6]; exact (Below.refl _ _).alloc (Nat.le_refl _) _
            have HB46 : Hid (Below w4.heap.size w4 w6) := Lib.hid (HB6.out.trans (hb56.mono HB6.out.size))
            have hk6 := HK5.out.below HB46.out HK5.out.lt
            have e0 : w6.cell? ⟨w5.heap.size, 0, none⟩ = some (.slice A6 rs6.length c6) := hx6.cell 0
            have e1 : w6.cell? ⟨w5.heap.size, 1, none⟩ = some (.bool s9.down) := hx6.cell 1
            have e2 : w6.cell? ⟨w5.heap.size, 2, none⟩ = some (.int .i64 s9.fuse) := hx6.cell 2
            have e3 : w6.cell? ⟨w5.heap.size, 3, none⟩ = some (.int .i64 tv9.1) := hx6.cell 3
            have e4 : w6.cell? ⟨w5.heap.size, 4, none⟩ = some (.int .i64 tv9.2) := hx6.cell 4
            have b0 : w6.cell? ⟨bm, 0, none⟩ = some (.slice A5 rs5.length c5) := hk6.cell 0
            have b1 : w6.cell? ⟨bm, 1, none⟩ = some (.bool false) := hk6.cell 1
            have b2 : w6.cell? ⟨bm, 2, none⟩ = some (.int .i64 f2) := hk6.cell 2
            have b3 : w6.cell? ⟨bm, 3, none⟩ = some (.int .i64 tv.1) := hk6.cell 3
            have b4 : w6.cell? ⟨bm, 4, none⟩ = some (.int .i64 tv.2) := hk6.cell 4
            have fb0 := hk6.free 0
            have fb1 := hk6.free 1
            have fb2 := hk6.free 2
            have fb3 := hk6.free 3
            have fb4 := hk6.free 4
            have HPZ := Lib.hid (HP4.out.put (t' := s9) (ut' := tv9) HB46.out (c := c6) (HF6.out.below hb56) HM6.out)
            have hle : w.heap.size ≤ bm := HP4.out.big
            have HBZ : Hid (Below w.heap.size w (((((w6.setCell ⟨bm, 0, none⟩ (.slice A6 rs6.length c6)).setCell ⟨bm, 1, none⟩ (.bool s9.down)).setCell ⟨bm, 2, none⟩ (.int .i64 s9.fuse)).setCell ⟨bm, 3, none⟩ (.int .i64 tv9.1)).setCell ⟨bm, 4, none⟩ (.int .i64 tv9.2))) :=
              Lib.hid ((((((HB4.out.trans (HB46.out.mono HB4.out.size)).setCell (p := ⟨bm, 0, none⟩) hle _).setCell (p := ⟨bm, 1, none⟩) hle _).setCell (p := ⟨bm, 2, none⟩) hle _).setCell (p := ⟨bm, 3, none⟩) hle _).setCell (p := ⟨bm, 4, none⟩) hle _)
            have tkk : ((kk : Int) != (kk : Int)) = false := by simp
            clear hw6 hx6 hb56 hk6 hle
            rcases HOV.out with ⟨hk50, hbr⟩ | ⟨hk50, hbr⟩
            · have HHD : Hid (Held true s9) := Lib.hid hbr
              have hk50' : kk = 50 := hk50
              have t50 : ((kk : Int) == 50) = true := by rw [hk50']; rfl
              clear hk50 hbr hk50'
              go_wp2_with fail
              go_meet
              exact ⟨hb, s9, tv9, _, true, rfl, rfl, HPZ.out, HBZ.out, HHD⟩
            · have HHD : Hid (Held false s9) := Lib.hid hbr
              have hk50' : kk ≠ 50 := hk50
              have t50 : ((kk : Int) == 50) = false := by rw [beq_eq_false_iff_ne]; omega
              clear hk50 hbr hk50'
              go_wp2_with fail
              go_meet
              exact ⟨hb, s9, tv9, _, false, rfl, rfl, HPZ.out, HBZ.out, HHD⟩
        by_cases k2 : kind = 2
        · have t1 : (kind == 1) = false := by rw [beq_eq_false_iff_ne]; omega
          have t2 : (kind == 2) = true := by rw [k2]; rfl
          obtain ⟨m, hm, e1⟩ := and_lit n 7 (by decide)
          have E1 : Hid (bits BinOp.and IntKind.i64 n 7 = (m : Int)) := Lib.hid e1
          have hwf : (Lit.int .i64 (m : Int)).wf = true := wf_n7 (by omega)
          have HFL := Lib.hid (L_hFailG HPA.out.ha (m : Int) hwf)
          have j3 : wa.cell? ⟨ob, 3, none⟩ = some (.int .i64 n) := HBOX.out.cell 3
          have hm7 : m ≤ 7 := by omega
          clear k1 k2 e1 hwf hm
          go_wp2_with fail
          rw [E1.out]
          (with_reducible refine HFL.out.mono ?_); rintro e w4 ⟨rfl, ha4, hb4, hk4⟩
          rw [Int.toNat_natCast] at ha4
          have HP4 := Lib.hid (HPA.out.op ha4 hb4 hk4)
          have HB4 : Hid (Below w.heap.size w w4) := Lib.hid (HBA.out.trans hb4)
          have HX4 := Lib.hid ((hk4 _ HGB.out).trans HBOX.out)
          obtain ⟨A5, c5, rs5, hk5, -, -, -⟩ := HP4.out.open_ HPA.out.inv.1
          have j3' : w4.cell? ⟨ob, 3, none⟩ = some (.int .i64 n) := Blk.cell (show Blk w4 ob 39 #[.int .i64 kind, .int .i64 ot, .int .i64 ov, .int .i64 n, .slice oK okeep.length od] from HX4.out) 3
          have b2 : w4.cell? ⟨bm, 2, none⟩ = some (.int .i64 s.fuse) := hk5.cell 2
          have fb2 := hk5.free 2
          have HFZ := Lib.hid (HP4.out.fuse m)
          have HBZ : Hid (Below w.heap.size w (w4.setCell ⟨bm, 2, none⟩ (.int .i64 m))) := Lib.hid (HB4.out.setCell (p := ⟨bm, 2, none⟩) HP4.out.big _)
          have hhd : Held br { s with fuse := m } := by
            have h0 := hheld.out
            cases br with
            | true => exact Broke.fuse h0 m
            | false => exact Okay.fuse h0 hm7
          have HHD := Lib.hid hhd
          clear ha4 hb4 hk4 hk5 hhd j3 HFL
          go_wp2_with fail
          go_meet
          rw [E1.out]
          exact ⟨hb, _, tv, F, br, rfl, rfl, HFZ.out, HBZ.out, HHD⟩
        by_cases k3 : kind = 3
        · have t1 : (kind == 1) = false := by rw [beq_eq_false_iff_ne]; exact k1
          have t2 : (kind == 2) = false := by rw [beq_eq_false_iff_ne]; exact k2
          have t3 : (kind == 3) = true := by rw [k3]; rfl
          have hop2 : Opens s := by
            have h0 := hheld.out
            cases br with
            | true => exact (show Broke s from h0).2
            | false => exact Okay.opens h0
          obtain ⟨o9, ho9⟩ := hop2 okeep
          have HO9 := Lib.hid ho9
          obtain ⟨te, hkp⟩ := HOKA.out.keep
          have HKP := Lib.hid hkp
          have hcr := X_Crash HPA.out.ha.dx (c := od) hkp (.inr (fun g hg => hg)) (s' := crash s okeep) rfl
          have HCR := Lib.hid hcr
          have j4 : wa.cell? ⟨ob, 4, none⟩ = some (.slice oK okeep.length od) := HBOX.out.cell 4
          clear k1 k2 k3 hop2 ho9 hkp hcr
          go_wp2_with fail
          (with_reducible refine HCR.out.mono ?_); rintro e w4 ⟨rfl, hd4, hb4, hk4⟩
          have HCI : Hid ((crash s okeep).files.length ≤ 256 ∧ Sorted (crash s okeep).files) := Lib.hid (by obtain ⟨mb, rs', hr⟩ := hd4.at_; exact ⟨hr.count, hr.sorted⟩)
          have hopn := hOpen_any (hd4.weaken (F := F) (fun g hg => .inl hg))
          unfold HOpenP at hopn
          rw [HO9.out] at hopn
          have HOPN := Lib.hid hopn
          have HB4 := Lib.hid hb4
          have HK4 : Hid (Kept F wa w4) := Lib.hid (fun g hg => hk4 g (.inl hg))
          clear hd4 hb4 hk4 hopn HCR j4
          go_wp2_with fail
          (with_reducible refine HOPN.out.mono ?_); rintro e w5 ⟨hb5, hk5, -, hop5⟩
          obtain ⟨hbn, rfl, ha5⟩ := hop5 (by first | rfl | trivial)
          have HP5 := Lib.hid (HPA.out.op ha5 (HB4.out.trans hb5) (HK4.out.trans_ hk5))
          have HB5 : Hid (Below w.heap.size w w5) := Lib.hid (HBA.out.trans (HB4.out.trans hb5))
          have hx5 : Blk w5 ob 39 #[.int .i64 kind, .int .i64 ot, .int .i64 ov, .int .i64 n, .slice oK okeep.length od] := ((HK4.out.trans_ hk5) _ HGB.out).trans HBOX.out
          have hks5 : Sl fBool w5 oK okeep := (HKP.out.under (HB4.out.trans hb5)).sl
          obtain ⟨A5, c5, rs5, hk5', hf5, hm5, hl5⟩ := HP5.out.open_ HPA.out.inv.1
          have HK5 := Lib.hid hk5'
          have hrc := RCrash_any A5 c5 rs5 hf5 hl5 s hm5 oK od okeep hks5
          have HRC := Lib.hid hrc
          have j4' : w5.cell? ⟨ob, 4, none⟩ = some (.slice oK okeep.length od) := hx5.cell 4
          have b0 : w5.cell? ⟨bm, 0, none⟩ = some (.slice A5 rs5.length c5) := hk5'.cell 0
          have b1 : w5.cell? ⟨bm, 1, none⟩ = some (.bool s.down) := hk5'.cell 1
          have b2 : w5.cell? ⟨bm, 2, none⟩ = some (.int .i64 s.fuse) := hk5'.cell 2
          clear hb5 hk5 hop5 ha5 hx5 hks5 hk5' hf5 hm5 hl5 hrc HOPN
          go_wp2_with fail
          (with_reducible refine HRC.out.mono ?_); rintro e w6 ⟨v6, rfl, ⟨A6, c6, rs6, rfl, hf6, hm6⟩, hb6⟩
          have hro := ROpen_any A6 c6 rs6 hf6 (crash s okeep) hm6 (by rw [← List.length_map, hm6]; exact HCI.out.1) HCI.out.2 rfl rfl
          unfold ROpenP at hro
          rw [HO9.out] at hro
          change Calls _ _ #[.agg #[.slice A6 rs6.length c6, .bool (crash s okeep).down, .int .i64 ((crash s okeep).fuse : Int)]] _ _ at hro
          have HRO := Lib.hid hro
          have HB6 := Lib.hid hb6
          clear hf6 hm6 hb6 hro HRC j4' b0 b1 b2
          go_wp2_with fail
          (with_reducible refine HRO.out.mono ?_); rintro e w7 ⟨A7, c7, rs7, rfl, hf7, hm7, hb7⟩
          have HF7 : Hid (Files (up F w5) w7 A7 rs7) := Lib.hid (hf7.mono (fun g _ hg => hg.elim id (fun h => .inr (Nat.le_trans HB6.out.size h))))
          have HM7 := Lib.hid hm7
          have HB7 : Hid (Below w5.heap.size w5 w7) := Lib.hid (HB6.out.trans (hb7.mono HB6.out.size))
          clear hf7 hm7 hb7 HRO
          go_upto_region 26 with fail
          obtain ⟨w8, hw8⟩ : ∃ z, z = w7.alloc (.cells #[.slice A7 rs7.length c7, .bool false, .int .i64 0, .int .i64 (tvO o9).1, .int .i64 (tvO o9).2] 34) := ⟨_, rfl⟩
          rw [← hw8]
          have hx8 : Blk w8 w7.heap.size 34 #[.slice A7 rs7.length c7, .bool false, .int .i64 0, .int .i64 (tvO o9).1, .int .i64 (tvO o9).2] := by rw [hw8]; exact Blk.new_ w7 _ _
          have hb78 : Below w7.heap.size w7 w8 := by rw [hw8]; exact (Below.refl _ _).alloc (Nat.le_refl _) _
          have HB58 : Hid (Below w5.heap.size w5 w8) := Lib.hid (HB7.out.trans (hb78.mono HB7.out.size))
          have hk8 := HK5.out.below HB58.out HK5.out.lt
          have e0 : w8.cell? ⟨w7.heap.size, 0, none⟩ = some (.slice A7 rs7.length c7) := hx8.cell 0
          have e1 : w8.cell? ⟨w7.heap.size, 1, none⟩ = some (.bool false) := hx8.cell 1
          have e2 : w8.cell? ⟨w7.heap.size, 2, none⟩ = some (.int .i64 0) := hx8.cell 2
          have e3 : w8.cell? ⟨w7.heap.size, 3, none⟩ = some (.int .i64 (tvO o9).1) := hx8.cell 3
          have e4 : w8.cell? ⟨w7.heap.size, 4, none⟩ = some (.int .i64 (tvO o9).2) := hx8.cell 4
          have b0 : w8.cell? ⟨bm, 0, none⟩ = some (.slice A5 rs5.length c5) := hk8.cell 0
          have b1 : w8.cell? ⟨bm, 1, none⟩ = some (.bool s.down) := hk8.cell 1
          have b2 : w8.cell? ⟨bm, 2, none⟩ = some (.int .i64 s.fuse) := hk8.cell 2
          have b3 : w8.cell? ⟨bm, 3, none⟩ = some (.int .i64 tv.1) := hk8.cell 3
          have b4 : w8.cell? ⟨bm, 4, none⟩ = some (.int .i64 tv.2) := hk8.cell 4
          have fb0 := hk8.free 0
          have fb1 := hk8.free 1
          have fb2 := hk8.free 2
          have fb3 := hk8.free 3
          have fb4 := hk8.free 4
          have HPZ := Lib.hid (HP5.out.put (t' := ⟨old o9, false, 0⟩) (ut' := tvO o9) HB58.out (c := c7) (HF7.out.below hb78) HM7.out)
          have hle : w.heap.size ≤ bm := HP5.out.big
          have HBZ : Hid (Below w.heap.size w (((((w8.setCell ⟨bm, 0, none⟩ (.slice A7 rs7.length c7)).setCell ⟨bm, 1, none⟩ (.bool false)).setCell ⟨bm, 2, none⟩ (.int .i64 0)).setCell ⟨bm, 3, none⟩ (.int .i64 (tvO o9).1)).setCell ⟨bm, 4, none⟩ (.int .i64 (tvO o9).2))) :=
            Lib.hid ((((((HB5.out.trans (HB58.out.mono HB5.out.size)).setCell (p := ⟨bm, 0, none⟩) hle _).setCell (p := ⟨bm, 1, none⟩) hle _).setCell (p := ⟨bm, 2, none⟩) hle _).setCell (p := ⟨bm, 3, none⟩) hle _).setCell (p := ⟨bm, 4, none⟩) hle _)
          have HHD : Hid (Held false ⟨old o9, false, 0⟩) := Lib.hid ⟨o9, 0, rfl, by decide⟩
          clear hw8 hx8 hb78 hk8 hle
          go_wp2_with fail
          go_meet
          exact ⟨hbn, _, _, _, false, rfl, rfl, HPZ.out, HBZ.out, HHD⟩
        have t1 : (kind == 1) = false := by rw [beq_eq_false_iff_ne]; exact k1
        have t2 : (kind == 2) = false := by rw [beq_eq_false_iff_ne]; exact k2
        have t3 : (kind == 3) = false := by rw [beq_eq_false_iff_ne]; exact k3
        clear k1 k2 k3
        go_wp2_with fail
        go_meet
        exact ⟨hb, s, tv, F, br, rfl, rfl, HPA.out, HBA.out, hheld⟩
      case rest =>
        obtain ⟨hb2, s2, tv2, G2, br2, rfl, rfl, hhp2, hbw2, hheld2⟩ := hcut
        have HP2 := Lib.hid hhp2
        have HB2 := Lib.hid hbw2
        clear hhp2 hbw2 HPA HBA HBOX HOKA HGB j0
        cases br2 with
        | true =>
          go_wp2_with fail
          go_roundw
          case rel => exact ⟨k + 1, hb2, s2, tv2, G2, true, by go_num, rfl, rfl, HP2.out, HB2.out, hheld2⟩
          case measure => simp [RowKit.intOf]; have := HLT.out; omega
        | false =>
          obtain ⟨t2, v2⟩ := tv2
          go_wp2_with fail
          (with_reducible refine (L_Names HP2.out.ha.dx.drop).mono ?_); rintro e w8 ⟨A8, c8, rfl, hs8, -, hb8⟩
          have HP8 := Lib.hid (HP2.out.below hb8)
          have HS8 := Lib.hid hs8
          have HB8 : Hid (Below w.heap.size w w8) := Lib.hid (HB2.out.trans (hb8.mono HB2.out.size))
          clear hs8 hb8 HP2 HB2
          obtain ⟨A9, c9, rs9, hk9, hf9, hm9, hl9⟩ := HP8.out.open_ HP8.out.inv.1
          have HF9 := Lib.hid hf9
          have HM9 := Lib.hid hm9
          have m0 : w8.cell? ⟨bm, 0, none⟩ = some (.slice A9 rs9.length c9) := hk9.cell 0
          have m1 : w8.cell? ⟨bm, 1, none⟩ = some (.bool s2.down) := hk9.cell 1
          have m3 : w8.cell? ⟨bm, 3, none⟩ = some (.int .i64 t2) := hk9.cell 3
          have m4 : w8.cell? ⟨bm, 4, none⟩ = some (.int .i64 v2) := hk9.cell 4
          obtain ⟨nn, hnn⟩ : ∃ z, z = (snames s2).length := ⟨_, rfl⟩
          have hnl : nn = rs9.length := by rw [hnn]; unfold snames; rw [List.length_map, ← hm9, List.length_map]
          rw [← hnn]
          have tl : ((nn : Int) != (rs9.length : Int)) = false := by rw [hnl]; simp
          have HNN := Lib.hid hnn
          have HNL := Lib.hid hnl
          have tt : (t2 != t2) = false := by simp
          have tv : (v2 != v2) = false := by simp
          have HQ1 : Hid (∀ m, Calls Tryz.prog 14 #[.pointer (some ⟨hb2, 0, none⟩)] (w8.drewN m) fun e w'' => e = .returned (.int .i64 t2) ∧ ∃ m', w'' = w8.drewN m') := Lib.hid fun m => (L_bTerm (HP8.out.ha.blk.drewN m)).mono fun _ _ ⟨h1, h2⟩ => ⟨h1, m, h2.symm⟩
          have HQ2 : Hid (∀ m, Calls Tryz.prog 15 #[.pointer (some ⟨hb2, 0, none⟩)] (w8.drewN m) fun e w'' => e = .returned (.int .i64 v2) ∧ ∃ m', w'' = w8.drewN m') := Lib.hid fun m => (L_bVote (HP8.out.ha.blk.drewN m)).mono fun _ _ ⟨h1, h2⟩ => ⟨h1, m, h2.symm⟩
          have HK9 := Lib.hid hk9
          clear hk9 hf9 hm9 hnn hnl
          go_upto_region 33 with fail
          go_quiet (first | (go_at_call 14; exact HQ1.out _) | (go_at_call 15; exact HQ2.out _))
          obtain ⟨wq, hwq⟩ : ∃ z, z = w8.drewN nq := ⟨_, rfl⟩
          have hbq : Below w8.heap.size w8 wq := by rw [hwq]; exact below_drewN (Below.refl _ _) nq
          rw [← hwq]
          have HPQ := Lib.hid (HP8.out.below hbq)
          have HBQ : Hid (Below w.heap.size w wq) := Lib.hid (HB8.out.trans (hbq.mono HB8.out.size))
          have HSQ : Hid (SlB encStr 9 (fun g => w2.heap.size ≤ g ∨ True) wq A8 (snames s2)) := Lib.hid ((HS8.out.below hbq).mono (fun _ _ _ => .inr trivial))
          have HFQ := Lib.hid (HF9.out.below hbq)
          have HKQ := Lib.hid (HK9.out.below hbq HK9.out.lt)
          have m0' : wq.cell? ⟨bm, 0, none⟩ = some (.slice A9 rs9.length c9) := HKQ.out.cell 0
          clear hwq hbq m0 m1 m3 m4 tt tv HQ1 HQ2 HK9 HF9 HS8 HP8 HB8
          go_wp2_with fail
          go_loopw [144] (fun iv wx => PnRel rs9.length wq iv wx) (fun iv _ => rs9.length - (RowKit.intOf iv).toNat)
          case atStart => exact ⟨0, Nat.zero_le _, rfl, Below.refl _ _⟩
          case round =>
            obtain ⟨i, hi, rfl, hbi⟩ := hrel
            have HBI := Lib.hid hbi
            clear hbi m0'
            by_cases hlti : i < rs9.length
            · obtain ⟨r, hr⟩ : ∃ z, z = rs9[i] := ⟨_, rfl⟩
              have hok2 : Okay s2 := hheld2.out
              have hfacts : s2.down = false ∧ Dsk.read s2 r.file.name = (r.file.now, 0) ∧ r.file.name = nmH := by
                obtain ⟨o2, f2, rfl, -⟩ := hok2
                have hm := HM9.out
                cases o2 with
                | none =>
                  have : rs9.length = 0 := by rw [← List.length_map, hm]; rfl
                  omega
                | some bb =>
                  have h1 : rs9.length = 1 := by rw [← List.length_map, hm]; rfl
                  have h2 : r.file = ⟨nmH, bb, bb⟩ := by
                    have h3 : (rs9.map RFile.file)[i]? = some r.file := by rw [List.getElem?_map, List.getElem?_eq_getElem hlti, hr]; rfl
                    have h4 : i = 0 := by omega
                    subst h4
                    rw [hm] at h3
                    injection h3 with h3
                    exact h3.symm
                  rw [h2]
                  exact ⟨rfl, rfl, rfl⟩
              have HFX := Lib.hid hfacts
              obtain ⟨bw, ow, rfl, -, -, hc9⟩ := (HFQ.out.below HBI.out).1.at hlti
              have c0 : wr.cell? ⟨bw, ow + i * 3, none⟩ = some (.string ⟨r.file.name.toArray⟩) := by rw [hr]; exact hc9 0 (by decide)
              have c1 : wr.cell? ⟨bw, ow + i * 3 + 1, none⟩ = some (.slice r.A r.file.now.length r.c) := by rw [hr]; exact hc9 1 (by decide)
              have c2 : wr.cell? ⟨bw, ow + i * 3 + 2, none⟩ = some (.slice r.B r.file.safe.length r.d) := by rw [hr]; exact hc9 2 (by decide)
              have HROK : Hid (RFok G2 wr r) := Lib.hid (by rw [hr]; exact (HFQ.out.below HBI.out).2 _ (List.getElem_mem hlti))
              have hil : i < (snames s2).length := by rw [← HNN.out, HNL.out]; exact hlti
              have hnm : (snames s2)[i]? = some r.file.name := by
                have h3 : (rs9.map RFile.file)[i]? = some r.file := by rw [List.getElem?_map, List.getElem?_eq_getElem hlti, hr]; rfl
                rw [HM9.out] at h3
                unfold snames; rw [List.getElem?_map, h3]; rfl
              have HNMI := Lib.hid hnm
              have HIL := Lib.hid hil
              have HLI := Lib.hid hlti
              have ti : (i : Int) < (rs9.length : Int) := by omega
              have ti0 : (0 : Int) ≤ (i : Int) := by omega
              clear hr hok2 hfacts hc9 hil hnm hlti
              go_upto_region 38 with fail
              obtain ⟨wy, hwy⟩ : ∃ z, z = wr.alloc (.cells #[.string ⟨r.file.name.toArray⟩, .slice r.A r.file.now.length r.c, .slice r.B r.file.safe.length r.d] 51) := ⟨_, rfl⟩
              rw [← hwy]
              have hby : Below wr.heap.size wr wy := by rw [hwy]; exact (Below.refl _ _).alloc (Nat.le_refl _) _
              have HBXY : Hid (Blk wy wr.heap.size 51 #[.string ⟨r.file.name.toArray⟩, .slice r.A r.file.now.length r.c, .slice r.B r.file.safe.length r.d]) := Lib.hid (by rw [hwy]; exact Blk.new_ wr _ _)
              have HBY : Hid (Below wq.heap.size wq wy) := Lib.hid (HBI.out.trans (hby.mono HBI.out.size))
              have HRY := Lib.hid (HROK.out.below hby)
              have y0 : wy.cell? ⟨wr.heap.size, 0, none⟩ = some (.string ⟨r.file.name.toArray⟩) := HBXY.out.cell 0
              have HRD := Lib.hid (L_Read (HPQ.out.below HBY.out).ha.dx.drop ⟨r.file.name.toArray⟩ (by rw [HFX.out.2.2]; decide) (show Dsk.read s2 (sname ⟨r.file.name.toArray⟩) = (r.file.now, 0) by rw [sname_arr]; exact HFX.out.2.1) (ki := 0) rfl)
              obtain ⟨gb, hgb⟩ : ∃ z, z = wr.heap.size := ⟨_, rfl⟩
              rw [← hgb] at HBXY y0 ⊢
              clear hwy hby HROK c0 c1 c2 hgb
              go_wp2_with fail
              (with_reducible refine HRD.out.mono ?_); rintro e wz ⟨A10, c10, rfl, hs10, -, -, -, hb10⟩
              have HBZ : Hid (Below wq.heap.size wq wz) := Lib.hid (HBY.out.trans (hb10.mono HBY.out.size))
              have hbxz := HBXY.out.below hb10 HBXY.out.lt
              have HSMB := Lib.hid (fun m => quiet_at (SameBytes_any A10 r.A c10 r.c r.file.now r.file.now (wz.drewN m) (hs10.sl.drewN m) ((HRY.out.now.below hb10).sl.drewN m)))
              have z0 : wz.cell? ⟨gb, 0, none⟩ = some (.string ⟨r.file.name.toArray⟩) := hbxz.cell 0
              have z1 : wz.cell? ⟨gb, 1, none⟩ = some (.slice r.A r.file.now.length r.c) := hbxz.cell 1
              have zm : wz.cell? ⟨bm, 1, none⟩ = some (.bool false) := by
                have := (HKQ.out.below HBZ.out HKQ.out.lt).cell 1
                rw [← HFX.out.1]; exact this
              have HBZ2 := Lib.hid HBZ.out
              obtain ⟨b8, o8, rfl, -, hc8⟩ := (HSQ.out.below HBZ.out).sl.at HIL.out
              have z8 : wz.cell? ⟨b8, o8 + i, none⟩ = some (.string ⟨r.file.name.toArray⟩) := by
                have h3 := hc8 i HIL.out
                have h4 := HNMI.out
                rw [List.getElem?_eq_getElem HIL.out] at h4
                injection h4 with h4
                rw [h4] at h3; exact h3
              have tin : (i : Int) < (nn : Int) := by have := HNL.out; omega
              clear hs10 hb10 hbxz hc8 HRD HBXY HRY y0
              go_upto_region 39 with fail
              go_quiet (first | (go_at_call 17; exact HSMB.out _))
              go_wp2_with fail
              go_roundw
              case rel => exact ⟨i + 1, HLI.out, by go_num, below_drewN HBZ2.out _⟩
              case measure => simp [RowKit.intOf]; have := HLI.out; omega
            · have ti : ¬ (i : Int) < (rs9.length : Int) := by omega
              clear hlti
              go_wp2_with fail
              go_roundw
              case rel => exact ⟨k + 1, hb2, s2, (t2, v2), G2, false, by go_num, rfl, rfl, HPQ.out.below HBI.out, HBQ.out.trans (HBI.out.mono HBQ.out.size), hheld2⟩
              case measure => simp [RowKit.intOf]; have := HLT.out; omega
    · go_wp2_with fail
      go_ret
      exact ⟨rfl, HBW.out⟩
end Go.Proofs.YtfpomllhkbbipaaGreat
