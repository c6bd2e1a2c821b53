/- A region that draws its order: what S says of the world is owed till its last store (number z) alone. Over any program. -/
import Derived.Deep.RegionHeld3
import Derived.Test.YtifgajinfcihmaaGreatDoorJAa
namespace Go.Proofs.YtifgajinfcihmaaGreatDoor
open Go
section
variable {P : Program} {ops : Array Oper} {Q : Exit → Act → World → Prop} {S : World → Prop} {z : Nat}
def AnyZ (P : Program) (ops : Array Oper) (Q : Exit → Act → World → Prop) (S : World → Prop) (z : Nat) : Nat → Array Bool → Act → World → Prop
 | 0, listed, a, w => Region.ready .any ops listed = [] ∧ Q .normal a w
 | n + 1, listed, a, w => (Region.ready .any ops listed = [] → Q .normal a w) ∧ ∀ i ∈ Region.ready .any ops listed, wpOp P ops Q i (fun a' w' => ((listed.setIfInBounds i true).getD z false = false → S w') ∧ AnyZ P ops Q S z n (listed.setIfInBounds i true) a' w') a w
theorem AnyZ.any : ∀ (n : Nat) (listed : Array Bool) (a : Act) (w : World), AnyZ P ops Q S z n listed a w → wpAny P .any ops Q n listed a w
 | 0, _, _, _, h => h
 | n + 1, _, _, _, h => ⟨h.1, fun i hi => wpOp_mono (fun a' w' h' => AnyZ.any n _ a' w' h'.2) (h.2 i hi)⟩
def waitsFor (ops : Array Oper) (z i : Nat) : Bool := match ops[z]? with
 | some oz => oz.after.any fun e => Region.binds .any e && e.on == i
 | none => true
theorem waits_not {i : Nat} {listed : Array Bool} (hw : waitsFor ops z i = true) (hi : i ∈ Region.ready .any ops listed) : z ∉ Region.ready .any ops listed := by
 intro hz
 obtain ⟨-, oz, hoz, hall⟩ := mem_ready.1 hz
 unfold waitsFor at hw
 rw [hoz] at hw
 simp only [Array.any_eq_true, Bool.and_eq_true, beq_iff_eq] at hw
 obtain ⟨k, hk, hb, he⟩ := hw
 have h1 := hall _ (Array.getElem_mem hk) hb
 rw [he] at h1
 have h0 := (mem_ready.1 hi).1
 rcases Nat.lt_or_ge i listed.size with h' | h'
 ·simp [h'] at h0 h1; rw [h0] at h1; cases h1
 ·simp [Array.getElem?_eq_none h'] at h1
theorem AnyZ.first {i : Nat} {oi : Oper} {v : Value} (hi : ops[i]? = some oi) (hsel : ∀ (j : Nat) (o : Oper) cs b, ops[j]? = some o → o.op ≠ .select cs b)
 (hQ : ∀ c a w, Q (.panic c) (a.put oi.dst v) w → Q (.panic c) a w) {T : World → Prop} (hiz : i ≠ z) :
 ∀ (n : Nat) (listed : Array Bool) (a : Act) (w : World),
   (∀ j oj, ops[j]? = some oj → j ≠ i → listed.getD j true = false → (∀ e ∈ oj.after, Region.binds .any e = true → e.on ≠ i) → oi.apart ops oj = true) →
   i ∈ Region.ready .any ops listed → YieldsIf P ops T oi v a → ((∀ w, T w) ∨ (T = S ∧ waitsFor ops z i = true ∧ listed.getD z false = false)) → (listed.getD z false = false → S w) →
   AnyZ P ops Q S z n (listed.setIfInBounds i true) (a.put oi.dst v) w → AnyZ P ops Q S z (n + 1) listed a w := by
 have hTw : ∀ (listed : Array Bool) (w : World), ((∀ w, T w) ∨ (T = S ∧ waitsFor ops z i = true ∧ listed.getD z false = false)) → (listed.getD z false = false → S w) → T w := fun listed w hT hS => by
  rcases hT with hT | ⟨hT, -, hz⟩
  ·exact hT w
  ·rw [hT]; exact hS hz
 intro n
 induction n with
 | zero =>
   intro listed a w _ hr hy hT hS H
   refine ⟨fun h => (by rw [h] at hr; cases hr), fun j hj => ?_⟩
   by_cases hji : j = i
   ·rw [hji]; exact hy.wpOp hi (hTw listed w hT hS) ⟨fun hz => hS (by rw [getD_set_ne false hiz] at hz; exact hz), H⟩
   ·have := ready_mono hj hji
    rw [H.1] at this
    cases this
 | succ n ih =>
   intro listed a w hfree hr hy hT hS H
   refine ⟨fun h => (by rw [h] at hr; cases hr), fun j hj => ?_⟩
   by_cases hji : j = i
   ·rw [hji]; exact hy.wpOp hi (hTw listed w hT hS) ⟨fun hz => hS (by rw [getD_set_ne false hiz] at hz; exact hz), H⟩
   ·have h1 := H.2 j (ready_mono hj hji)
    obtain ⟨hjun, oj, hoj, hall⟩ := mem_ready.1 hj
    have hnot : ∀ e ∈ oj.after, Region.binds .any e = true → e.on ≠ i := fun e he hb heq => by
     have h1 := hall e he hb
     have h0 := (mem_ready.1 hr).1
     rw [heq] at h1
     rcases Nat.lt_or_ge i listed.size with h' | h'
     ·simp [h'] at h0 h1; rw [h0] at h1; cases h1
     ·simp [Array.getElem?_eq_none h'] at h1
    have h2 := wpOp_putIf hoj (hfree j oj hoj hji hjun hnot) (fun cs b => hsel i oi cs b hi) (fun cs b => hsel j oj cs b hoj) hQ hy h1
    refine wpOp_mono (fun a' w' h3 => ?_) h2
    obtain ⟨h4, h5, h6⟩ := h3
    have hT' : (∀ w, T w) ∨ (T = S ∧ waitsFor ops z i = true ∧ (listed.setIfInBounds j true).getD z false = false) := by
     rcases hT with hT | ⟨hT, hwz, hz⟩
     ·exact .inl hT
     ·have hjz : j ≠ z := fun e => waits_not hwz hr (e ▸ hj)
      exact .inr ⟨hT, hwz, by rw [getD_set_ne false hjz]; exact hz⟩
    have h5' : (listed.setIfInBounds j true).getD z false = false → S w' := fun hz => h5 (by
     rw [Array.setIfInBounds_comm _ _ (Ne.symm hji), getD_set_ne false hiz]; exact hz)
    refine ⟨h5', ih (listed.setIfInBounds j true) a' w' (fun k ok hk hki hun hno => ?_) (ready_mono hr (Ne.symm hji)) h4 hT' h5' ?_⟩
    ·refine hfree k ok hk hki ?_ hno
     by_cases hjk : j = k
     ·rw [← hjk]; exact hjun
     ·rw [getD_set_ne true hjk] at hun; exact hun
    ·rw [Array.setIfInBounds_comm _ _ hji]
     exact h6
theorem AnyZ.take {i : Nat} {oi : Oper} {v : Value} {n : Nat} {listed : Array Bool} {a : Act} {w : World} (hi : ops[i]? = some oi)
 (hs : Region.noSelect ops = true) (hf : Region.free .any ops listed i = true) (hr : (Region.ready .any ops listed).contains i = true) (hwz : (waitsFor ops z i && (i != z && !listed.getD z false)) = true)
 (hQ : ∀ c a w, Q (.panic c) (a.put oi.dst v) w → Q (.panic c) a w) (hy : YieldsIf P ops S oi v a) (hS : S w)
 (h : AnyZ P ops Q S z n (listed.setIfInBounds i true) (a.put oi.dst v) w) : AnyZ P ops Q S z (n + 1) listed a w := by
 simp only [Bool.and_eq_true, bne_iff_ne, Bool.not_eq_true'] at hwz
 exact AnyZ.first hi (Region.noSelect_spec hs) hQ hwz.2.1 n listed a w (Region.free_spec hi hf) (by simpa using hr) hy (.inr ⟨rfl, hwz.1, hwz.2.2⟩) (fun _ => hS) h
theorem AnyZ.takeAny {i : Nat} {oi : Oper} {v : Value} {n : Nat} {listed : Array Bool} {a : Act} {w : World} (hi : ops[i]? = some oi)
 (hs : Region.noSelect ops = true) (hf : Region.free .any ops listed i = true) (hr : (Region.ready .any ops listed).contains i = true) (hiz : (i != z) = true)
 (hQ : ∀ c a w, Q (.panic c) (a.put oi.dst v) w → Q (.panic c) a w) (hy : YieldsIf P ops (fun _ => True) oi v a) (hS : S w)
 (h : AnyZ P ops Q S z n (listed.setIfInBounds i true) (a.put oi.dst v) w) : AnyZ P ops Q S z (n + 1) listed a w :=
 AnyZ.first hi (Region.noSelect_spec hs) hQ (by simpa using hiz) n listed a w (Region.free_spec hi hf) (by simpa using hr) hy (.inl fun _ => trivial) (fun _ => hS) h
theorem AnyZ.takeFree {i : Nat} {oi : Oper} {v : Value} {n : Nat} {listed : Array Bool} {a : Act} {w : World} (hi : ops[i]? = some oi)
 (hs : Region.noSelect ops = true) (hf : Region.free .any ops listed i = true) (hr : (Region.ready .any ops listed).contains i = true) (hiz : (i != z && listed.getD z false) = true)
 (hQ : ∀ c a w, Q (.panic c) (a.put oi.dst v) w → Q (.panic c) a w) (hy : YieldsIf P ops (fun _ => True) oi v a)
 (h : AnyZ P ops Q S z n (listed.setIfInBounds i true) (a.put oi.dst v) w) : AnyZ P ops Q S z (n + 1) listed a w := by
 simp only [Bool.and_eq_true, bne_iff_ne] at hiz
 exact AnyZ.first hi (Region.noSelect_spec hs) hQ hiz.1 n listed a w (Region.free_spec hi hf) (by simpa using hr) hy (.inl fun _ => trivial) (fun e => by rw [hiz.2] at e; cases e) h
theorem AnyZ.done {listed : Array Bool} {a : Act} {w : World} (hr : Region.ready .any ops listed = []) (h : Q .normal a w) :
 ∀ n, AnyZ P ops Q S z n listed a w
 | 0 => ⟨hr, h⟩
 | _ + 1 => ⟨fun _ => h, by rw [hr]; simp⟩
theorem AnyZ.start {id : Nat} {a : Act} {w : World} (hm : P.follows .mixedOrders = true) (hS : S w.drew)
 (h : S w.drew → AnyZ P ops Q S z ops.size (Array.replicate ops.size false) a w.drew) : (Code.region id ops true).wp P Q a w :=
 wp_region_any hm (AnyZ.any _ _ _ _ (h hS))
def AllZ (P : Program) (ops : Array Oper) (Q : Exit → Act → World → Prop) (S : World → Prop) (z n : Nat) (listed : Array Bool) (a : Act) (w : World) (rs : List Nat) : Prop :=
 ∀ i ∈ rs, wpOp P ops Q i (fun a' w' => ((listed.setIfInBounds i true).getD z false = false → S w') ∧ AnyZ P ops Q S z n (listed.setIfInBounds i true) a' w') a w
theorem AllZ.nil {n : Nat} {listed : Array Bool} {a : Act} {w : World} : AllZ P ops Q S z n listed a w [] := fun _ h => by cases h
theorem AllZ.cons {n : Nat} {listed : Array Bool} {a : Act} {w : World} {i : Nat} {o : Oper} {rs : List Nat} (ho : ops[i]? = some o)
 (h : ∀ K' : Act → World → Prop, Shut (∀ a w, S w → (S w → AnyZ P ops Q S z n (listed.setIfInBounds i true) a w) → K' a w) → if Region.wanted o (yielded ops a.tmps) = true then Oper.wp P o a w K' Q else K' (a.put o.dst undef) w)
 (hs : AllZ P ops Q S z n listed a w rs) : AllZ P ops Q S z n listed a w (i :: rs) := fun j hj => by
 rcases List.mem_cons.1 hj with rfl | hj
 ·exact wpOp_step ho (fun K' hK => h K' (fun a w hS hW => hK a w ⟨fun _ => hS, hW hS⟩))
 ·exact hs j hj
theorem AllZ.last {n : Nat} {listed : Array Bool} {a : Act} {w : World} {o : Oper} {rs : List Nat} (ho : ops[z]? = some o) (hz : (listed.setIfInBounds z true).getD z false = true)
 (h : ∀ K' : Act → World → Prop, Shut (∀ a w, AnyZ P ops Q S z n (listed.setIfInBounds z true) a w → K' a w) → if Region.wanted o (yielded ops a.tmps) = true then Oper.wp P o a w K' Q else K' (a.put o.dst undef) w)
 (hs : AllZ P ops Q S z n listed a w rs) : AllZ P ops Q S z n listed a w (z :: rs) := fun j hj => by
 rcases List.mem_cons.1 hj with rfl | hj
 ·exact wpOp_step ho (fun K' hK => h K' (fun a w hW => hK a w ⟨(fun e => by rw [hz] at e; cases e), hW⟩))
 ·exact hs j hj
theorem AllZ.free {i : Nat} {n : Nat} {listed : Array Bool} {a : Act} {w : World} {o : Oper} {rs : List Nat} (ho : ops[i]? = some o) (hz : (listed.setIfInBounds i true).getD z false = true)
 (h : ∀ K' : Act → World → Prop, Shut (∀ a w, AnyZ P ops Q S z n (listed.setIfInBounds i true) a w → K' a w) → if Region.wanted o (yielded ops a.tmps) = true then Oper.wp P o a w K' Q else K' (a.put o.dst undef) w)
 (hs : AllZ P ops Q S z n listed a w rs) : AllZ P ops Q S z n listed a w (i :: rs) := fun j hj => by
 rcases List.mem_cons.1 hj with rfl | hj
 ·exact wpOp_step ho (fun K' hK => h K' (fun a w hW => hK a w ⟨(fun e => by rw [hz] at e; cases e), hW⟩))
 ·exact hs j hj
theorem AnyZ.ready {rs : List Nat} {n : Nat} {listed : Array Bool} {a : Act} {w : World} (hr : Region.ready .any ops listed = rs) (hne : rs ≠ [])
 (h : AllZ P ops Q S z n listed a w rs) : AnyZ P ops Q S z (n + 1) listed a w := ⟨fun h0 => absurd (hr ▸ h0) hne, hr ▸ h⟩
end
end Go.Proofs.YtifgajinfcihmaaGreatDoor
