/- Layer 5: the law DiskPlays: what it holds between its rounds. -/
import Derived.Test.YtepkjnhijocojaaR5i
import Derived.Test.YtepkjnhijocojaaDskT3
namespace Go.Proofs.Ytepkjnhijocojaa
open Go.RowKit Go.Maps Mem Dsk

theorem Mem.Own.base_ {α : Type} {f : α → Value} {base base' : Nat} {e : TypeId} {w : World} {v : Value} {xs : List α} (h : Own f base e w v xs) (hb : base' ≤ base) : Own f base' e w v xs := by
  obtain ⟨h1, h2⟩ := h
  refine ⟨h1, ?_⟩
  rcases h2 with h2 | ⟨g, cap, cur, a, b, c⟩
  · exact .inl h2
  · exact .inr ⟨g, cap, cur, a, Nat.le_trans hb b, c⟩
/-- what Read leaves, its bytes being the caller's own -/
def ReadOwn (B p : Nat) (s : S) (bs : List UInt8) (ki : Int) (w : World) (e : Ending) (w' : World) : Prop :=
  ∃ A c, e = .returned (.tuple #[.slice A bs.length c, .int .i64 ki]) ∧ Own fB w.heap.size 5 w' (.slice A bs.length c) bs ∧ D B p s w' ∧ Below w.heap.size w w'
set_option maxHeartbeats 1000000 in
theorem Read_own {B : Nat} {w : World} {p : Nat} {s : S} (hd : D B p s w) (n : ByteArray) (hn : n.size ≤ maxLen) {bs : List UInt8} {k : Nat} {ki : Int} (hr : Dsk.read s (sname n) = (bs, k)) (hki : (k : Int) = ki) :
    Calls Try.prog 15 #[.pointer (some ⟨p, 0, none⟩), .string n] w (ReadOwn B p s bs ki w) := by
  have hBw := hd.le
  obtain ⟨mb, rs, h⟩ := hd.at_
  have hfiles := h.files
  rcases hlk : lookV s rs [n] with ⟨o, e⟩
  have hlo := look_one0 hfiles n hlk
  cases o with
  | some r =>
    obtain ⟨rfl, hfind⟩ := lookV_rec hlk
    have hres : Dsk.read s (sname n) = (r.file.now, 0) := by unfold Dsk.read; simp only [hlo]; rfl
    rw [hres] at hr
    injection hr with hr1 hr2
    subst hr1; subst hr2; subst hki
    clear hres hlo
    have HFI := Lib.hid hfind; clear hfind
    go_enter Try.func15, Try.ntmps15
    go_wp2_with fail
    (with_reducible refine (lookd_one h n hn hlk _ rfl).mono ?_); rintro x w1 ⟨rfl, h1, hf1⟩
    have HF := Lib.hid hf1; clear hf1
    obtain ⟨hname, hmem⟩ := findR_some HFI.out
    obtain ⟨hb, hF, hA, hB, hc1, hc2, hc3, hc4, hsm⟩ := h1.recs r hmem
    have c0 : w1.cell? ⟨r.fb, 0, none⟩ = some (.slice r.A r.file.now.length r.c) := hb.cell 0
    have HSM := Lib.hid hsm; clear hsm hname
    unfold ptrOf
    go_wp2_with fail
    (with_reducible refine (Clone_any _ _ _ (small_ok HSM.out).1 _ hA.sl).mono ?_); rintro x w2 ⟨⟨A', c', rfl, hown⟩, hb2⟩
    have HOWN := Lib.hid hown; clear hown
    go_wp2_with fail
    go_ret2
    exact ⟨A', c', rfl, HOWN.out.base_ HF.out.size, ⟨⟨mb, rs, h1.below hb2⟩, Nat.le_trans hBw (Nat.le_trans HF.out.size hb2.size)⟩, HF.out.trans (hb2.mono HF.out.size)⟩
  | none =>
    have hne := lookV_none_ne hlk
    have hres : Dsk.read s (sname n) = ([], e) := by unfold Dsk.read; simp only [hlo]; rfl
    rw [hres] at hr
    injection hr with hr1 hr2
    subst hr1; subst hr2; subst hki
    clear hres hlo
    have t1 : ((e : Int) != 0) = true := by rw [bne_iff_ne]; omega
    have HNE := Lib.hid hne; clear hne
    go_enter Try.func15, Try.ntmps15
    go_wp2_with fail
    (with_reducible refine (lookd_one h n hn hlk _ rfl).mono ?_); rintro x w1 ⟨rfl, h1, hf1⟩
    have HF := Lib.hid hf1; clear hf1
    unfold ptrOf
    go_wp2_with fail
    go_ret2
    exact ⟨none, 0, rfl, Own.nil, ⟨⟨mb, rs, h1⟩, Nat.le_trans hBw HF.out.size⟩, HF.out⟩

section
variable {G : Nat → Prop} {B p bm : Nat} {s t s' t' : S} {w w' : World}
theorem DX.setIn (h : DX G B p s w) {q : Addr} (hq : G q.block) (u : Value) : DX G B p s (w.setCell q u) := by
  obtain ⟨mb, rs, h0⟩ := h.at_
  exact ⟨⟨mb, rs, h0.frm (G := fun g => g = q.block) ((Frm.refl (fun g => g = q.block) w).setCell (p := q) (fun _ => rfl) u) (fun g hg e => hg.2 (e ▸ hq))⟩, by rw [World.size_setCell]; exact h.le, fun g hg => by rw [World.size_setCell]; exact h.old g hg⟩
/-- a law's disk beside the document's one (in the box bm); G are the blocks of the latter -/
structure Pl (G : Nat → Prop) (B p bm : Nat) (s t : S) (w : World) : Prop where
  dx : DX G B p s w
  box : G bm
  big : B ≤ bm
  ref : ∃ A c rs, Blk w bm 52 #[.slice A rs.length c, .bool t.down, .int .i64 t.fuse] ∧ Files G w A rs ∧ rs.map RFile.file = t.files
theorem Pl.below (h : Pl G B p bm s t w) (hb : Below w.heap.size w w') : Pl G B p bm s t w' := by
  obtain ⟨A, c, rs, h1, h2, h3⟩ := h.ref
  exact ⟨h.dx.below hb, h.box, h.big, A, c, rs, h1.below hb h1.lt, h2.below hb, h3⟩
theorem Pl.op (h : Pl G B p bm s t w) (h1 : DX G B p s' w') (hb : Below B w w') (hk : Kept G w w') : Pl G B p bm s' t w' := by
  obtain ⟨A, c, rs, h2, h3, h4⟩ := h.ref
  exact ⟨h1, h.box, h.big, A, c, rs, (hk _ h.box).trans h2, h3.frm (frm_of_kept hb hk) (fun g hg hn => hn hg), h4⟩
def nextG (G : Nat → Prop) (w w' : World) : Nat → Prop := fun g => up G w g ∧ g < w'.heap.size
theorem Pl.put (h : Pl G B p bm s t w) (hb : Below w.heap.size w w') {A : Option Addr} {c : Nat} {rs : List RFile} (hf : Files (up G w) w' A rs) (hm : rs.map RFile.file = t'.files) :
    Pl (nextG G w w') B p bm s t' (((w'.setCell ⟨bm, 0, none⟩ (.slice A rs.length c)).setCell ⟨bm, 1, none⟩ (.bool t'.down)).setCell ⟨bm, 2, none⟩ (.int .i64 t'.fuse)) := by
  obtain ⟨A0, c0, rs0, h1, _, _⟩ := h.ref
  have h2 := h1.below hb h1.lt
  have hin : nextG G w w' bm := ⟨.inl h.box, h2.lt⟩
  have hd := (h.dx.protect (G2 := fun g => w.heap.size ≤ g ∧ g < w'.heap.size) hb (fun g hg => hg)).weaken (F := nextG G w w') (fun g hg => hg.1.imp id (fun h3 => ⟨h3, hg.2⟩))
  have hs0 := h2.set_ 0 (.slice A rs.length c)
  have hs1 := hs0.set_ 1 (.bool t'.down)
  have hs2 := hs1.set_ 2 (.int .i64 t'.fuse)
  have hf0 : Files (nextG G w w') w' A rs := hf.mono (fun g hl hg => ⟨hg, hl⟩)
  exact ⟨((hd.setIn (q := ⟨bm, 0, none⟩) hin _).setIn (q := ⟨bm, 1, none⟩) hin _).setIn (q := ⟨bm, 2, none⟩) hin _, hin, h.big, A, c, rs, hs2,
    ((hf0.far h2 (by decide) (by decide) 0 _).far hs0 (by decide) (by decide) 1 _).far hs1 (by decide) (by decide) 2 _, hm⟩
theorem Pl.fuse (h : Pl G B p bm s t w) (k : Nat) : Pl G B p bm s { t with fuse := k } (w.setCell ⟨bm, 2, none⟩ (.int .i64 k)) := by
  obtain ⟨A, c, rs, h1, h2, h3⟩ := h.ref
  exact ⟨h.dx.setIn (q := ⟨bm, 2, none⟩) h.box _, h.box, h.big, A, c, rs, h1.set_ 2 _, h2.far h1 (by decide) (by decide) 2 _, h3⟩
theorem X_Fail (h : DX G B p s w) (n : Int) (hn : (Lit.int .i64 n).wf = true) :
    Calls Try.prog 16 #[.pointer (some ⟨p, 0, none⟩), .int .i64 n] w fun e w' => e = .returned (.tuple #[]) ∧ DX G B p { s with fuse := n.toNat } w' ∧ Below B w w' ∧ Kept G w w' :=
  (Fail_any h.at_ n hn).mono fun _ _ ⟨he, hd, hf⟩ => by
    have h2 := frmX h.le h.old hf
    exact ⟨he, ⟨hd, Nat.le_trans h.le hf.size, fun g hg => Nat.lt_of_lt_of_le (h.old g hg) hf.size⟩, h2.1, h2.2⟩
theorem Pl.inv (h : Pl G B p bm s t w) : s.files.length ≤ 256 ∧ s.fuse ≤ 9223372036854775807 ∧ Sorted s.files := by
  obtain ⟨mb, rs', hr⟩ := h.dx.at_
  exact ⟨hr.count, hr.fuse, hr.sorted⟩
/-- the document's disk, taken out of its box -/
theorem Pl.open_ (h : Pl G B p bm s t w) (hc : t.files.length ≤ 256) : ∃ A c rs, Blk w bm 52 #[.slice A rs.length c, .bool t.down, .int .i64 t.fuse] ∧ Files G w A rs ∧ rs.map RFile.file = t.files ∧ rs.length ≤ 256 := by
  obtain ⟨A, c, rs, h1, h2, h3⟩ := h.ref
  refine ⟨A, c, rs, h1, h2, h3, ?_⟩
  rw [← h3, List.length_map] at hc; exact hc
end
end Go.Proofs.Ytepkjnhijocojaa
