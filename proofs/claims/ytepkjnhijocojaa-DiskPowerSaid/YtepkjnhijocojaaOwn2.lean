/- Rows of the call's own: made by make, written in place. Over any program. -/
import Derived.Test.YtepkjnhijocojaaOwn
import Derived.Laws.MakeOwn
namespace Go.Proofs.Ytepkjnhijocojaa.Mem
open Go Go.RowKit Go.Maps Go.Lib

def zerosA (z : Value) (n : Nat) : Array Value := (List.replicate n z).toArray
theorem madeCells_one (z : Value) (n : Nat) : madeCells #[z] n = zerosA z n := by
  unfold madeCells zerosA
  apply Array.ext
  · simp
  · intro i h1 h2
    simp [Nat.mod_one]
theorem run_makeT {P : Program} {t e : TypeId} {z : Value} {bytes : Nat} (ht : SliceT P t e z bytes) (hz1 : z.cells = #[z]) (kl kc : IntKind) (l : Int) (n : Nat) (hl : l = n) (hbytes : bytes * n ≤ 281474976710656) (h63 : n ≤ 9223372036854775807) (w : World) :
    (Instr.makeSlice t (.int kl l) (.int kc l)).run P w = .ok (.slice (some ⟨w.heap.size, 0, none⟩) n n) (w.alloc (.cells (zerosA z n) e)) := by
  obtain ⟨ht, _, i, hi, hz, hsz, hby⟩ := ht
  subst hl
  have hb : (i.bytes : Int) * (n : Int) ≤ 281474976710656 := by
    have h : ((i.bytes * n : Nat) : Int) ≤ 281474976710656 := by rw [hby]; omega
    rwa [Int.natCast_mul] at h
  have hr := run_make (P := P) w t e i z ht hi hz kl kc (n : Int) (n : Int) (by omega) (by omega) hb (by omega)
  simp only [Int.toNat_natCast, hsz, Nat.mul_one, hz1, madeCells_one] at hr
  exact hr
section
variable {α : Type} {f : α → Value} {w w' : World} {v : Value} {xs : List α} {base : Nat} {e : TypeId}
theorem Own.made_ (z : α) (n : Nat) (hn : n ≤ maxLen) (hb : base ≤ w.heap.size) : Own f base e (w.alloc (.cells (zerosA (f z) n) e)) (.slice (some ⟨w.heap.size, 0, none⟩) n n) (List.replicate n z) := by
  unfold Own
  refine ⟨by simp, .inr ⟨w.heap.size, n, zerosA (f z) n, by simp, hb, heap_alloc_new w _, by simp, hn, by simp [zerosA], ?_⟩⟩
  unfold zerosA
  simp
theorem Own.slot {A : Option Addr} {n c k : Nat} (h : Own f base e w (.slice A n c) xs) (hk : k < xs.length) :
    ∃ g, A = some ⟨g, 0, none⟩ ∧ base ≤ g ∧ g < w.heap.size ∧ w.cell? ⟨g, k, none⟩ = some (f xs[k]) ∧ w.frozen? ⟨g, k, none⟩ = false := by
  have hn := h.sl.1
  obtain ⟨g, rfl, hg⟩ := h.addr (by omega)
  have hc := h.sl.2.cell hk
  rw [Nat.zero_add] at hc
  refine ⟨g, rfl, hg, lt_of_cell hc, hc, ?_⟩
  rcases h.2 with ⟨hv, _⟩ | ⟨g', cap, cur, hv, hb, hh, _⟩
  · cases hv
  · injection hv with hv; injection hv with hv; injection hv with hv
    subst hv
    simp [World.frozen?, hh]
theorem Own.set_ {g n c k : Nat} (h : Own f base e w (.slice (some ⟨g, 0, none⟩) n c) xs) (hk : k < xs.length) (u : α) :
    Own f base e (w.setCell ⟨g, k, none⟩ (f u)) (.slice (some ⟨g, 0, none⟩) n c) (xs.set k u) := by
  have hn := h.sl.1
  rcases h.2 with ⟨hv, _⟩ | ⟨g', cap, cur, hv, hb, hh, hnc, hcm, hcs, htake⟩
  · cases hv
  · injection hv with hv hv2 hv3; injection hv with hv; injection hv with hv
    subst hv; subst hv3
    unfold Own
    rw [List.length_set]
    refine ⟨by simp, .inr ⟨g, c, cur.setIfInBounds k (f u), by rw [hn], hb, ?_, by omega, hcm, by simpa using hcs, ?_⟩⟩
    · have : (Blk w g e cur) := hh
      exact this.set_ k (f u)
    · rw [Array.toList_setIfInBounds, List.take_set, htake, List.map_set]
theorem Own.below (ho : Own f base e w v xs) (hb : Below w.heap.size w w') : Own f base e w' v xs := by
  obtain ⟨h1, h2⟩ := ho
  refine ⟨h1, ?_⟩
  rcases h2 with h2 | ⟨g, cap, cur, a, b, hh, c⟩
  · exact .inl h2
  · have hlt : g < w.heap.size := by
      rcases Nat.lt_or_ge g w.heap.size with hl | hl
      · exact hl
      · rw [Array.getElem?_eq_none hl] at hh; cases hh
    exact .inr ⟨g, cap, cur, a, b, (hb.block g hlt).trans hh, c⟩
theorem SlB.any {A : Option Addr} (h : Sl f w A xs) {G : Nat → Prop} (hG : ∀ g, g < w.heap.size → G g) : ∃ e, SlB f e G w A xs := by
  by_cases h0 : xs.length = 0
  · exact ⟨0, h.1, fun hn => by omega⟩
  · obtain ⟨b, o, rfl, hlt, hc⟩ := h.at (k := 0) (by omega)
    have h1 := hc 0 (by omega)
    unfold World.cell? at h1
    cases hb : w.heap[b]? with
    | none => simp [hb] at h1
    | some ob =>
      cases ob with
      | cells cs t fr =>
        refine ⟨t, h.1, fun _ => ⟨b, o, cs, fr, rfl, hG b hlt, hb, fun j hj => ?_⟩⟩
        have h2 := hc j hj
        simpa [World.cell?, hb] using h2
      | _ => simp [hb] at h1
end
end Go.Proofs.Ytepkjnhijocojaa.Mem
