/- Layer 3: the reader. -/
import Derived.Test.YtfpomllhkbbipaaGreatByt
import Derived.Test.YtfpomllhkbbipaaGreatSrtG
import Derived.Recover
import Derived.Defers
namespace Go.Proofs.YtfpomllhkbbipaaGreat
open Go.RowKit Go.Maps Mem

/-- what a reader panics with -/
def wrongV (k : Int) : Value := .iface 148 (.agg #[.int .i64 k])
theorem Mem.SlB.dropM {α : Type} {f : α → Value} {e : TypeId} {F : Nat → Prop} {w : World} {A : Option Addr} {xs : List α} (h : SlB f e F w A xs) (n : Nat) : SlB f e F w (A.map fun x => x.add n) (xs.drop n) := by
  by_cases hn : n < xs.length
  · obtain ⟨b, o, rfl, _, _⟩ := h.sl.at hn
    have h1 := h.piece (k := n) (m := xs.length - n) (by omega) rfl
    rw [List.take_of_length_le (by simp)] at h1
    have e2 : (⟨b, o, none⟩ : Addr).add n = ⟨b, o + n, none⟩ := by
      unfold Addr.add; split
      · rename_i h0; subst h0; rfl
      · rfl
    show SlB f e F w (some ((⟨b, o, none⟩ : Addr).add n)) _
    rw [e2]; exact h1
  · rw [List.drop_of_length_le (by omega)]; exact SlB.nil
theorem Mem.SlB.takeM {α : Type} {f : α → Value} {e : TypeId} {F : Nat → Prop} {w : World} {A : Option Addr} {xs : List α} (h : SlB f e F w A xs) (n : Nat) : SlB f e F w A (xs.take n) := by
  by_cases hx : 0 < xs.length
  · obtain ⟨b, o, rfl, _, _⟩ := h.sl.at hx
    by_cases hn : n ≤ xs.length
    · have h1 := h.piece (k := 0) (m := n) (by omega) rfl
      rw [List.drop_zero, Nat.add_zero] at h1; exact h1
    · rw [List.take_of_length_le (by omega)]; exact h
  · have : xs = [] := List.eq_nil_of_length_eq_zero (by omega)
    subst this; rw [List.take_nil]; exact SlB.nil
/-- bytes that lie in a block of F, of whatever type -/
def SlF (F : Nat → Prop) (w : World) (A : Option Addr) (xs : List UInt8) : Prop := ∃ e, SlB fB e F w A xs
section
variable {F G : Nat → Prop} {w w' : World} {A : Option Addr} {xs : List UInt8}
theorem SlF.of {e : TypeId} (h : SlB fB e F w A xs) : SlF F w A xs := ⟨e, h⟩
theorem SlF.nil : SlF F w A [] := ⟨0, SlB.nil⟩
theorem SlF.sl (h : SlF F w A xs) : Sl fB w A xs := by obtain ⟨e, h⟩ := h; exact h.sl
theorem SlF.mono (h : SlF F w A xs) (hF : ∀ g, g < w.heap.size → F g → G g) : SlF G w A xs := by obtain ⟨e, h⟩ := h; exact ⟨e, h.mono hF⟩
theorem SlF.frm (h : SlF F w A xs) (hf : Frm G w w') (hd : ∀ g, F g → ¬ G g) : SlF F w' A xs := by obtain ⟨e, h⟩ := h; exact ⟨e, h.frm hf hd⟩
theorem SlF.below (h : SlF F w A xs) (hb : Below w.heap.size w w') : SlF F w' A xs := by obtain ⟨e, h⟩ := h; exact ⟨e, h.below hb⟩
theorem SlF.dropM (h : SlF F w A xs) (n : Nat) : SlF F w (A.map fun x => x.add n) (xs.drop n) := by obtain ⟨e, h⟩ := h; exact ⟨e, Mem.SlB.dropM h n⟩
theorem SlF.takeM (h : SlF F w A xs) (n : Nat) : SlF F w A (xs.take n) := by obtain ⟨e, h⟩ := h; exact ⟨e, Mem.SlB.takeM h n⟩
theorem SlF.of_sl (h : Sl fB w A xs) : SlF (fun g => g < w.heap.size) w A xs := by
  by_cases hx : 0 < xs.length
  · obtain ⟨b, o, rfl, hb, hc⟩ := h.at hx
    have h0 := hc 0 hx
    have hheap : ∃ cur e fr, w.heap[b]? = some (.cells cur e fr) := by
      unfold World.cell? at h0
      split at h0
      · rename_i c e fr hh; exact ⟨c, e, fr, hh⟩
      · cases h0
    obtain ⟨cur, e, fr, hh⟩ := hheap
    refine ⟨e, h.1, fun _ => ⟨b, o, cur, fr, rfl, hb, hh, fun j hj => ?_⟩⟩
    have h2 := hc j hj
    unfold World.cell? at h2
    rw [hh] at h2
    simpa using h2
  · obtain rfl : xs = [] := List.eq_nil_of_length_eq_zero (by omega)
    exact SlF.nil
end
/-- a reader at block r: the bytes that it still has lie in blocks of F -/
def Rd (F : Nat → Prop) (w : World) (r : Nat) (bs : List UInt8) : Prop :=
  ∃ A c, ¬ F r ∧ Blk w r 146 #[.slice A bs.length c] ∧ SlF F w A bs ∧ bs.length ≤ c ∧ c ≤ maxLen
/-- a call of a reader's method that ends well -/
def RdOk (F : Nat → Prop) (r : Nat) (rest : List UInt8) (v : Value) (w : World) (e : Ending) (w' : World) : Prop := e = .returned v ∧ Rd F w' r rest ∧ Frm (fun g => g = r) w w'
/-- one that panics -/
def RdNo (r : Nat) (k : Int) (w : World) (e : Ending) (w' : World) : Prop := e = .panicked [{ v := wrongV k, recovered := false }] ∧ Frm (fun g => g = r) w w'
theorem rdFail_any (w : World) (p : Value) (k : Int) (hk : k ≠ 0) : Calls Tryz.prog 112 #[p, .int .i64 k] w fun e w' => e = .panicked [{ v := wrongV k, recovered := false }] ∧ w = w' := by
  have hk1 : (k == 0) = false := by simpa using hk
  clear hk
  go_enter Tryz.func112, Tryz.ntmps112
  go_wp2_with fail
  exact ⟨rfl, rfl, rfl⟩
theorem take_no {F : Nat → Prop} {w : World} {r : Nat} {bs : List UInt8} (h : Rd F w r bs) (n : Int) (hn : (bs.length : Int) < n) :
    Calls Tryz.prog 111 #[.pointer (some ⟨r, 0, none⟩), .int .i64 n] w (RdNo r 30 w) := by
  obtain ⟨A, c, -, hb, hs, hc, hm⟩ := h
  have c0 : w.cell? ⟨r, 0, none⟩ = some (.slice A bs.length c) := hb.cell 0
  clear hb hs
  go_enter Tryz.func111, Tryz.ntmps111
  go_wp2_with fail
  (with_reducible refine (rdFail_any w _ 30 (by decide)).mono ?_); rintro e w' ⟨rfl, rfl⟩
  go_wp2_with fail
  exact ⟨rfl, rfl, Frm.refl _ _⟩
/-- the bytes that take gives -/
def TakeOk (F : Nat → Prop) (r : Nat) (bs : List UInt8) (n : Nat) (w : World) (e : Ending) (w' : World) : Prop :=
  ∃ A c, e = .returned (.slice A n c) ∧ SlF F w' A (bs.take n) ∧ Rd F w' r (bs.drop n) ∧ Frm (fun g => g = r) w w'
theorem take_ok {F : Nat → Prop} {w : World} {r : Nat} {bs : List UInt8} (h : Rd F w r bs) (n : Nat) (hn : n ≤ bs.length) (ni : Int) (hni : (n : Int) = ni) :
    Calls Tryz.prog 111 #[.pointer (some ⟨r, 0, none⟩), .int .i64 ni] w (TakeOk F r bs n w) := by
  subst hni
  obtain ⟨A, c, hr, hb, hs, hc, hm⟩ := h
  have c0 : w.cell? ⟨r, 0, none⟩ = some (.slice A bs.length c) := hb.cell 0
  have q0 := hb.free 0
  have hl := hs.sl.len
  have hfin : ∀ A', (A' = A.map (fun x => x.add n) ∨ c = n) → TakeOk F r bs n w (.returned (.slice A n c)) (w.setCell ⟨r, 0, none⟩ (.slice A' (bs.length - n) (c - n))) := by
    intro A' hA'
    have hset : Frm (fun g => g = r) w (w.setCell ⟨r, 0, none⟩ (.slice A' (bs.length - n) (c - n))) := (Frm.refl (fun g => g = r) w).setCell (p := ⟨r, 0, none⟩) (fun _ => rfl) _
    have hd : ∀ g, F g → ¬ g = r := fun g hg e => hr (e ▸ hg)
    refine ⟨A, c, rfl, (hs.takeM n).frm hset hd, ⟨A', c - n, hr, by rw [List.length_drop]; exact hb.set_ 0 _, ?_, by rw [List.length_drop]; omega, by omega⟩, (Frm.refl (fun g => g = r) w).setCell (p := ⟨r, 0, none⟩) (fun _ => rfl) _⟩
    refine SlF.frm ?_ hset hd
    rcases hA' with rfl | h
    · exact hs.dropM n
    · rw [List.drop_of_length_le (by omega)]; exact SlF.nil
  unfold maxLen at hm
  by_cases hcn : c = n
  · have h1 := hfin A (.inr hcn)
    rw [show bs.length - n = 0 by omega, show c - n = 0 by omega] at h1
    have HF := Lib.hid h1; clear h1 hfin hb hs
    subst hcn
    go_enter Tryz.func111, Tryz.ntmps111
    go_wp2_with fail
    go_ret
    exact HF.out
  · have HF := Lib.hid (hfin _ (.inl rfl)); clear hfin hb hs
    go_enter Tryz.func111, Tryz.ntmps111
    go_wp2_with fail
    go_ret
    exact HF.out
end Go.Proofs.YtfpomllhkbbipaaGreat
