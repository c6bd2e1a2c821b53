/- Layer 5: two disks beside each other; one step of a script on either. -/
import Derived.Test.YtepkjnhijocojaaDskT2
import Derived.Test.YtepkjnhijocojaaDskX
namespace Go.Proofs.Ytepkjnhijocojaa
open Go.RowKit Go.Maps Mem Dsk

set_option maxHeartbeats 2000000 in
theorem step_walkX {G : Nat → Prop} {B p : Nat} {s : S} {w : World} (h : DX G B p s w) (o : OpR) (ho : OpOK B w o) {s' : S} {k : Nat} (hr : doStep s o.kind (sname o.a) (sname o.z) o.n o.bs = (s', k)) :
    Calls Try.prog 23 #[.pointer (some ⟨p, 0, none⟩), .agg #[.int .i64 o.kind, .string o.a, .string o.z, .int .i64 o.n, .slice o.A o.bs.length o.c, .slice o.K o.keep.length o.d]] w (PostX G B p s' (k : Int) w) := by
  obtain ⟨hk, hn, ha, hz, ⟨te, hbs⟩, _, _⟩ := ho
  obtain ⟨kind, a, z, n, A, c, bs, K, d, keep⟩ := o
  simp only at hk hn ha hz hbs hr ⊢
  have hab : Below w.heap.size w (w.alloc (.cells #[.int .i64 kind, .string a, .string z, .int .i64 n, .slice A bs.length c, .slice K keep.length d] 45)) := (Below.refl _ _).alloc (Nat.le_refl _) _
  have hdb := h.below hab
  have hbs1 := hbs.under (hab.mono h.le)
  have HAB : Hid (Below B w (w.alloc (.cells #[.int .i64 kind, .string a, .string z, .int .i64 n, .slice A bs.length c, .slice K keep.length d] 45))) := hab.mono h.le
  have hkp : Kept G w (w.alloc (.cells #[.int .i64 kind, .string a, .string z, .int .i64 n, .slice A bs.length c, .slice K keep.length d] 45)) := fun g hg => hab.block g (h.old g hg)
  clear hab hbs
  have HR := Lib.hid hr; clear hr
  have fin : ∀ e w1, PostX G B p s' (k : Int) (w.alloc (.cells #[.int .i64 kind, .string a, .string z, .int .i64 n, .slice A bs.length c, .slice K keep.length d] 45)) e w1 → PostX G B p s' (k : Int) w e w1 := fun e w1 ⟨h1, h2, h3, h4⟩ => ⟨h1, h2, HAB.out.trans h3, fun g hg => (h4 g hg).trans (hkp g hg)⟩
  have FIN := Lib.hid fin; clear fin hkp
  by_cases c1 : kind = 1
  · subst c1
    have hc := X_Create hdb a ha (by simpa [doStep] using HR.out) rfl
    have HC := Lib.hid hc; clear hc
    go_enter Try.func23, Try.ntmps23
    go_wp2_with fail
    (with_reducible refine HC.out.mono ?_); rintro e w1 ⟨rfl, hp⟩
    go_wp2_with fail
    go_ret
    exact FIN.out _ _ ⟨rfl, hp⟩
  have d1 : (kind == 1) = false := by simpa using c1
  by_cases c2 : kind = 2
  · subst c2
    have hc := X_Remove hdb a ha (by simpa [doStep] using HR.out) rfl
    have HC := Lib.hid hc; clear hc
    go_enter Try.func23, Try.ntmps23
    go_wp2_with fail
    (with_reducible refine HC.out.mono ?_); rintro e w1 ⟨rfl, hp⟩
    go_wp2_with fail
    go_ret
    exact FIN.out _ _ ⟨rfl, hp⟩
  have d2 : (kind == 2) = false := by simpa using c2
  by_cases c3 : kind = 3
  · subst c3
    have hc := X_Rename hdb a z ha hz (by simpa [doStep] using HR.out) rfl
    have HC := Lib.hid hc; clear hc
    go_enter Try.func23, Try.ntmps23
    go_wp2_with fail
    (with_reducible refine HC.out.mono ?_); rintro e w1 ⟨rfl, hp⟩
    go_wp2_with fail
    go_ret
    exact FIN.out _ _ ⟨rfl, hp⟩
  have d3 : (kind == 3) = false := by simpa using c3
  by_cases c4 : kind = 4
  · subst c4
    have hc := X_Write (c := c) hdb a ha n hn hbs1 (Nat.not_lt.2 hdb.ge) (by simpa [doStep] using HR.out) rfl
    have HC := Lib.hid hc; clear hc
    go_enter Try.func23, Try.ntmps23
    go_wp2_with fail
    (with_reducible refine HC.out.mono ?_); rintro e w1 ⟨rfl, hp⟩
    go_wp2_with fail
    go_ret
    exact FIN.out _ _ ⟨rfl, hp⟩
  have d4 : (kind == 4) = false := by simpa using c4
  by_cases c5 : kind = 5
  · subst c5
    have hc := X_Cut hdb a ha n hn (by simpa [doStep] using HR.out) rfl
    have HC := Lib.hid hc; clear hc
    go_enter Try.func23, Try.ntmps23
    go_wp2_with fail
    (with_reducible refine HC.out.mono ?_); rintro e w1 ⟨rfl, hp⟩
    go_wp2_with fail
    go_ret
    exact FIN.out _ _ ⟨rfl, hp⟩
  have d5 : (kind == 5) = false := by simpa using c5
  have hr6 : Dsk.sync s (sname a) = (s', k) := by have := HR.out; unfold doStep at this; rw [if_neg c1, if_neg c2, if_neg c3, if_neg c4, if_neg c5] at this; exact this
  have hc := X_Sync hdb a ha hr6 rfl
  have HC := Lib.hid hc; clear hc hr6
  clear c1 c2 c3 c4 c5
  go_enter Try.func23, Try.ntmps23
  go_wp2_with fail
  (with_reducible refine HC.out.mono ?_); rintro e w1 ⟨rfl, hp⟩
  go_wp2_with fail
  go_ret
  exact FIN.out _ _ ⟨rfl, hp⟩

theorem Mem.frm_of_kept {F : Nat → Prop} {B : Nat} {w w' : World} (hb : Below B w w') (hk : Kept F w w') : Frm (fun g => ¬ F g) w w' :=
  ⟨hb.os, hb.tape, hb.output, hb.size, fun g _ hn => hk g (Classical.not_not.1 hn)⟩
theorem DiskAt.mono {F G : Nat → Prop} {w : World} {p : Nat} {s : S} (h : DiskAt F w p s) (hF : ∀ g, g < w.heap.size → F g → G g) : DiskAt G w p s := by
  obtain ⟨mb, rs, h⟩ := h; exact ⟨mb, rs, h.mono hF⟩
theorem DiskAt.kept {F G : Nat → Prop} {B : Nat} {w w' : World} {p : Nat} {s : S} (h : DiskAt F w p s) (hb : Below B w w') (hk : Kept G w w') (hF : ∀ g, F g → G g) : DiskAt F w' p s := by
  obtain ⟨mb, rs, h⟩ := h; exact ⟨mb, rs, h.frm (frm_of_kept hb hk) (fun g hg hn => hn (hF g hg))⟩
theorem DiskAt.below {F : Nat → Prop} {w w' : World} {p : Nat} {s : S} (h : DiskAt F w p s) (hb : Below w.heap.size w w') : DiskAt F w' p s := by
  obtain ⟨mb, rs, h⟩ := h; exact ⟨mb, rs, h.below hb⟩
/-- two disks: the second lies in F -/
structure Two (F : Nat → Prop) (B p q : Nat) (s t : S) (w : World) : Prop where
  one : DX F B p s w
  two : DiskAt (fun g => B ≤ g ∧ F g) w q t
section
variable {F : Nat → Prop} {B p q : Nat} {s t : S} {w w' : World}
theorem Two.below (h : Two F B p q s t w) (hb : Below w.heap.size w w') : Two F B p q s t w' := ⟨h.one.below hb, h.two.below hb⟩
/-- a step on the first -/
theorem Two.first {s' : S} (h : Two F B p q s t w) (h1 : DX F B p s' w') (hb : Below B w w') (hk : Kept F w w') : Two F B p q s' t w' := ⟨h1, h.two.kept hb hk (fun _ hg => hg.2)⟩
/-- what the second's steps keep -/
def beside (F : Nat → Prop) (w : World) : Nat → Prop := fun g => ¬ F g ∧ g < w.heap.size
theorem Two.snd (h : Two F B p q s t w) : DX (beside F w) B q t w :=
  ⟨h.two.mono (fun g _ hg => ⟨hg.1, fun hn => hn.1 hg.2⟩), h.one.le, fun _ hg => hg.2⟩
theorem Two.second {t' : S} (h : Two F B p q s t w) (h2 : DX (beside F w) B q t' w') (hb : Below B w w') (hk : Kept (beside F w) w w') :
    Two (fun g => (F g ∨ w.heap.size ≤ g) ∧ g < w'.heap.size) B p q s t' w' := by
  refine ⟨⟨?_, h2.le, fun _ hg => hg.2⟩, h2.at_.mono (fun g hl hg => ⟨hg.1, ?_, hl⟩)⟩
  · have h3 := (h.one.at_.mono (G := fun g => B ≤ g ∧ beside F w g) (fun g hl hg => ⟨hg.1, hg.2, hl⟩)).kept hb hk (fun _ hg => hg.2)
    exact h3.mono (fun g _ hg => ⟨hg.1, fun hn => hn.1.elim hg.2.1 (fun h4 => absurd hg.2.2 (Nat.not_lt.2 h4))⟩)
  · by_cases hl2 : g < w.heap.size
    · left
      exact Classical.not_not.1 (fun hf => hg.2 ⟨hf, hl2⟩)
    · right; omega
theorem Two.left (h : Two F B p q s t w) : D B p s w := h.one.drop
theorem Two.right (h : Two F B p q s t w) : D B q t w := h.snd.drop
/-- a second disk beside the first -/
theorem Two.start (h : D B p s w) (hb : Below w.heap.size w w') (h2 : DiskAt (fun g => w.heap.size ≤ g) w' q t) : Two (fun g => w.heap.size ≤ g ∧ g < w'.heap.size) B p q s t w' :=
  ⟨h.protect hb (fun _ hg => hg), h2.mono (fun g hl hg => ⟨Nat.le_trans h.le hg, hg, hl⟩)⟩
end
end Go.Proofs.Ytepkjnhijocojaa
