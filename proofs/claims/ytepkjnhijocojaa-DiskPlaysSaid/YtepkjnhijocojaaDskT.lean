/- Layer 5: scripts of calls; one step of a script. -/
import Derived.Test.YtepkjnhijocojaaDskLP
import Derived.Test.YtepkjnhijocojaaOpen
import Derived.Deep.Fields
import Derived.Deep.Slices
import Derived.ChangeSame
namespace Go.Proofs.Ytepkjnhijocojaa
open Go.RowKit Go.Maps Mem Dsk

/-- a call of a script, as it lies in memory -/
structure OpR where
  kind : Int
  a : ByteArray
  z : ByteArray
  n : Int
  A : Option Addr
  c : Nat
  bs : List UInt8
  K : Option Addr
  d : Nat
  keep : List Bool
def OpR.cell (o : OpR) : Nat → Value
  | 0 => .int .i64 o.kind
  | 1 => .string o.a
  | 2 => .string o.z
  | 3 => .int .i64 o.n
  | 4 => .slice o.A o.bs.length o.c
  | _ => .slice o.K o.keep.length o.d
structure OpOK (B : Nat) (w : World) (o : OpR) : Prop where
  kind : (Lit.int .i64 o.kind).wf = true
  n : (Lit.int .i64 o.n).wf = true
  a : o.a.size ≤ maxLen
  z : o.z.size ≤ maxLen
  bs : ∃ te, SlB fB te (fun g => g < B) w o.A o.bs
  keep : ∃ te, SlB fBool te (fun g => g < B) w o.K o.keep
  cap : o.bs.length ≤ o.c ∧ o.c ≤ maxLen
def Script (B : Nat) (w : World) (A : Option Addr) (ops : List OpR) : Prop :=
  ops.length ≤ maxLen ∧ (0 < ops.length → ∃ b o, A = some ⟨b, o, none⟩ ∧ b < B ∧ ∀ j (h : j < ops.length) i, i < 6 → w.cell? ⟨b, o + j * 6 + i, none⟩ = some (ops[j].cell i)) ∧ ∀ o ∈ ops, OpOK B w o
section
variable {B : Nat} {w w' : World} {A : Option Addr} {ops : List OpR}
theorem OpOK.under {o : OpR} (h : OpOK B w o) (hb : Below B w w') : OpOK B w' o :=
  { h with bs := by obtain ⟨te, h1⟩ := h.bs; exact ⟨te, h1.under hb⟩, keep := by obtain ⟨te, h1⟩ := h.keep; exact ⟨te, h1.under hb⟩ }
theorem Script.under (h : Script B w A ops) (hb : Below B w w') : Script B w' A ops :=
  ⟨h.1, fun hn => by
    obtain ⟨b, o, e, hlt, hc⟩ := h.2.1 hn
    exact ⟨b, o, e, hlt, fun j hj i hi => (hb.cell (p := ⟨b, o + j * 6 + i, none⟩) hlt).trans (hc j hj i hi)⟩, fun o ho => (h.2.2 o ho).under hb⟩
theorem Script.at (h : Script B w A ops) {k : Nat} (hk : k < ops.length) : ∃ b o, A = some ⟨b, o, none⟩ ∧ b < B ∧ ∀ i, i < 6 → w.cell? ⟨b, o + k * 6 + i, none⟩ = some (ops[k].cell i) := by
  obtain ⟨b, o, e, hlt, hc⟩ := h.2.1 (by omega)
  exact ⟨b, o, e, hlt, hc k hk⟩
theorem Script.ok (h : Script B w A ops) {k : Nat} (hk : k < ops.length) : OpOK B w ops[k] := h.2.2 _ (List.getElem_mem hk)
end
def doStep (s : S) (kind : Int) (a z : Name) (n : Int) (b : List UInt8) : S × Nat :=
  if kind = 1 then Dsk.create s a else if kind = 2 then Dsk.remove s a else if kind = 3 then Dsk.rename s a z else if kind = 4 then Dsk.write s a n b else if kind = 5 then Dsk.cut s a n else Dsk.sync s a
theorem prod_eta {α β : Type} (x : α × β) : x = (x.1, x.2) := rfl
set_option maxHeartbeats 2000000 in
theorem step_walk {B p : Nat} {s : S} {w : World} (h : D B p s w) (o : OpR) (ho : OpOK B w o) {s' : S} {k : Nat} (hr : doStep s o.kind (sname o.a) (sname o.z) o.n o.bs = (s', k)) :
    Calls Try.prog 23 #[.pointer (some ⟨p, 0, none⟩), .agg #[.int .i64 o.kind, .string o.a, .string o.z, .int .i64 o.n, .slice o.A o.bs.length o.c, .slice o.K o.keep.length o.d]] w (Post B p s' (k : Int) w) := by
  obtain ⟨hk, hn, ha, hz, ⟨te, hbs⟩, _, _⟩ := ho
  obtain ⟨kind, a, z, n, A, c, bs, K, d, keep⟩ := o
  simp only at hk hn ha hz hbs hr ⊢
  have hab : Below w.heap.size w (w.alloc (.cells #[.int .i64 kind, .string a, .string z, .int .i64 n, .slice A bs.length c, .slice K keep.length d] 45)) := (Below.refl _ _).alloc (Nat.le_refl _) _
  have hdb := h.below hab
  have hbs1 := hbs.under (hab.mono h.le)
  have HAB : Hid (Below B w (w.alloc (.cells #[.int .i64 kind, .string a, .string z, .int .i64 n, .slice A bs.length c, .slice K keep.length d] 45))) := hab.mono h.le
  clear hab hbs
  have HR := Lib.hid hr; clear hr
  have fin : ∀ e w1, Post B p s' (k : Int) (w.alloc (.cells #[.int .i64 kind, .string a, .string z, .int .i64 n, .slice A bs.length c, .slice K keep.length d] 45)) e w1 → Post B p s' (k : Int) w e w1 := fun e w1 ⟨h1, h2, h3⟩ => ⟨h1, h2, HAB.out.trans h3⟩
  have FIN := Lib.hid fin; clear fin
  by_cases c1 : kind = 1
  · subst c1
    have hc := L_Create hdb a ha (by simpa [doStep] using HR.out) rfl
    have HC := Lib.hid hc; clear hc
    go_enter Try.func23, Try.ntmps23
    go_wp2_with fail
    (with_reducible refine HC.out.mono ?_); rintro e w1 ⟨rfl, hp⟩
    go_wp2_with fail
    go_ret
    exact FIN.out _ _ ⟨rfl, hp⟩
  have d1 : (kind == 1) = false := by simpa using c1
  by_cases c2 : kind = 2
  · subst c2
    have hc := L_Remove hdb a ha (by simpa [doStep] using HR.out) rfl
    have HC := Lib.hid hc; clear hc
    go_enter Try.func23, Try.ntmps23
    go_wp2_with fail
    (with_reducible refine HC.out.mono ?_); rintro e w1 ⟨rfl, hp⟩
    go_wp2_with fail
    go_ret
    exact FIN.out _ _ ⟨rfl, hp⟩
  have d2 : (kind == 2) = false := by simpa using c2
  by_cases c3 : kind = 3
  · subst c3
    have hc := L_Rename hdb a z ha hz (by simpa [doStep] using HR.out) rfl
    have HC := Lib.hid hc; clear hc
    go_enter Try.func23, Try.ntmps23
    go_wp2_with fail
    (with_reducible refine HC.out.mono ?_); rintro e w1 ⟨rfl, hp⟩
    go_wp2_with fail
    go_ret
    exact FIN.out _ _ ⟨rfl, hp⟩
  have d3 : (kind == 3) = false := by simpa using c3
  by_cases c4 : kind = 4
  · subst c4
    have hc := L_Write (c := c) hdb a ha n hn hbs1 (Nat.not_lt.2 hdb.ge) (by simpa [doStep] using HR.out) rfl
    have HC := Lib.hid hc; clear hc
    go_enter Try.func23, Try.ntmps23
    go_wp2_with fail
    (with_reducible refine HC.out.mono ?_); rintro e w1 ⟨rfl, hp⟩
    go_wp2_with fail
    go_ret
    exact FIN.out _ _ ⟨rfl, hp⟩
  have d4 : (kind == 4) = false := by simpa using c4
  by_cases c5 : kind = 5
  · subst c5
    have hc := L_Cut hdb a ha n hn (by simpa [doStep] using HR.out) rfl
    have HC := Lib.hid hc; clear hc
    go_enter Try.func23, Try.ntmps23
    go_wp2_with fail
    (with_reducible refine HC.out.mono ?_); rintro e w1 ⟨rfl, hp⟩
    go_wp2_with fail
    go_ret
    exact FIN.out _ _ ⟨rfl, hp⟩
  have d5 : (kind == 5) = false := by simpa using c5
  have hr6 : Dsk.sync s (sname a) = (s', k) := by have := HR.out; unfold doStep at this; rw [if_neg c1, if_neg c2, if_neg c3, if_neg c4, if_neg c5] at this; exact this
  have hc := L_Sync hdb a ha hr6 rfl
  have HC := Lib.hid hc; clear hc hr6
  clear c1 c2 c3 c4 c5
  go_enter Try.func23, Try.ntmps23
  go_wp2_with fail
  (with_reducible refine HC.out.mono ?_); rintro e w1 ⟨rfl, hp⟩
  go_wp2_with fail
  go_ret
  exact FIN.out _ _ ⟨rfl, hp⟩
end Go.Proofs.Ytepkjnhijocojaa
