/- Layer 3: counts and rows of counts ahead of bytes: plain words; a step law. -/
import Derived.Deep.RegionHeld3
import Derived.RegionDies
import Derived.Deep.RegionLaw
import Derived.Test.YtfpomllhkbbipaaGreatDoorGAj
import Derived.Test.YtfpomllhkbbipaaGreatDoorGAk
import Derived.Test.YtfpomllhkbbipaaGreatDoorGAg
namespace Go.Proofs.YtfpomllhkbbipaaGreatDoor
open Go Go.RowKit Go.Maps Go.Lib Mem Pk Cf
def cnt (bs : List UInt8) : Option (Int × List UInt8) :=
 match getNum bs with
 | some (n, m) => if 0 ≤ n ∧ n ≤ 7 then some (n, bs.drop m) else none
 | none => none
theorem cnt_some {bs r : List UInt8} {n : Int} : cnt bs = some (n, r) ↔ (0 ≤ n ∧ n ≤ 7) ∧ bs = numB n ++ r := by
 unfold cnt
 constructor
 ·intro h
  cases hg : getNum bs with
  | none => rw [hg] at h; cases h
  | some p =>
    obtain ⟨k, m⟩ := p
    rw [hg] at h
    by_cases hk : 0 ≤ k ∧ k ≤ 7
    ·simp only [if_pos hk] at h
     injection h with h
     injection h with h1 h2
     subst h1; subst h2
     have := (getNum_inv hg).1
     exact ⟨hk, by rw [← this, List.take_append_drop]⟩
    ·simp only [if_neg hk] at h; cases h
 ·rintro ⟨hn, rfl⟩
  rw [getNum_num (by omega) (by omega)]
  simp only [if_pos hn, List.drop_left]
def cnts : Nat → List UInt8 → Option (List Int × List UInt8)
 | 0, bs => some ([], bs)
 | k + 1, bs =>
   match cnt bs with
   | none => none
   | some (n, r) =>
     match cnts k r with
     | none => none
     | some (ns, r') => some (n :: ns, r')
theorem cnts_some : ∀ {k : Nat} {bs r : List UInt8} {ns : List Int}, cnts k bs = some (ns, r) ↔ ns.length = k ∧ (∀ n ∈ ns, 0 ≤ n ∧ n ≤ 7) ∧ bs = numsB ns ++ r := by
 intro k
 induction k with
 | zero =>
   intro bs r ns
   unfold cnts
   constructor
   ·intro h
    injection h with h; injection h with h1 h2
    subst h1; subst h2
    exact ⟨rfl, by simp, rfl⟩
   ·rintro ⟨h1, -, rfl⟩
    obtain rfl := List.eq_nil_of_length_eq_zero h1
    rfl
 | succ k ih =>
   intro bs r ns
   unfold cnts
   constructor
   ·intro h
    cases hc : cnt bs with
    | none => rw [hc] at h; cases h
    | some p =>
      obtain ⟨n, r1⟩ := p
      rw [hc] at h
      simp only at h
      cases hk : cnts k r1 with
      | none => rw [hk] at h; cases h
      | some q =>
        obtain ⟨ms, r2⟩ := q
        rw [hk] at h
        injection h with h; injection h with h1 h2
        subst h1; subst h2
        obtain ⟨e1, e2, e3⟩ := ih.1 hk
        obtain ⟨f1, f2⟩ := cnt_some.1 hc
        refine ⟨by rw [List.length_cons, e1], fun m hm => ?_, ?_⟩
        ·rcases List.mem_cons.1 hm with rfl | hm
         ·exact f1
         ·exact e2 m hm
        ·rw [f2, e3]; unfold numsB; rw [List.flatMap_cons, List.append_assoc]
   ·rintro ⟨h1, h2, rfl⟩
    cases ns with
    | nil => cases h1
    | cons n ms =>
      have e1 : cnt (numsB (n :: ms) ++ r) = some (n, numsB ms ++ r) := cnt_some.2 ⟨h2 n List.mem_cons_self, by unfold numsB; rw [List.flatMap_cons, List.append_assoc]⟩
      have e2 : cnts k (numsB ms ++ r) = some (ms, r) := ih.2 ⟨by simpa using h1, fun m hm => h2 m (List.mem_cons_of_mem _ hm), rfl⟩
      rw [e1]; simp only []; rw [e2]
def row (bs : List UInt8) : Option (List Int × List UInt8) :=
 match cnt bs with
 | none => none
 | some (a, r) => cnts a.toNat r
theorem row_some {bs r : List UInt8} {ns : List Int} : row bs = some (ns, r) ↔ ns.length ≤ 7 ∧ (∀ n ∈ ns, 0 ≤ n ∧ n ≤ 7) ∧ bs = numsB ((ns.length : Int) :: ns) ++ r := by
 unfold row
 constructor
 ·intro h
  cases hc : cnt bs with
  | none => rw [hc] at h; cases h
  | some p =>
    obtain ⟨a, r1⟩ := p
    rw [hc] at h
    simp only at h
    obtain ⟨e1, e2, e3⟩ := cnts_some.1 h
    obtain ⟨f1, f2⟩ := cnt_some.1 hc
    have ha : (ns.length : Int) = a := by omega
    refine ⟨by omega, e2, ?_⟩
    rw [ha, f2, e3]; unfold numsB; rw [List.flatMap_cons, List.append_assoc]
 ·rintro ⟨h1, h2, rfl⟩
  have e1 : cnt (numsB ((ns.length : Int) :: ns) ++ r) = some ((ns.length : Int), numsB ns ++ r) := cnt_some.2 ⟨by omega, by unfold numsB; rw [List.flatMap_cons, List.append_assoc]⟩
  rw [e1]
  exact cnts_some.2 ⟨by simp, h2, rfl⟩
theorem cnt_yes {bs r : List UInt8} {n : Int} (h : cnt bs = some (n, r)) : ∃ k, getCount 7 bs = some (n, k) ∧ r = bs.drop k := by
 unfold cnt at h
 unfold getCount
 cases hg : getNum bs with
 | none => rw [hg] at h; cases h
 | some p =>
   obtain ⟨m, k⟩ := p
   rw [hg] at h
   by_cases hm : 0 ≤ m ∧ m ≤ 7
   ·simp only [if_pos hm] at h
    injection h with h; injection h with h1 h2
    subst h1
    exact ⟨k, by simp [hm.1, hm.2], h2.symm⟩
   ·simp only [if_neg hm] at h; cases h
theorem cnt_no {bs : List UInt8} (h : cnt bs = none) : getCount 7 bs = none := by
 unfold cnt at h
 unfold getCount
 cases hg : getNum bs with
 | none => rfl
 | some p =>
   obtain ⟨m, k⟩ := p
   rw [hg] at h
   by_cases hm : 0 ≤ m ∧ m ≤ 7
   ·simp only [if_pos hm] at h; cases h
   ·rw [Option.filter_some, if_neg (by simpa using hm)]
theorem row_no {bs : List UInt8} (h : cnt bs = none) : row bs = none := by unfold row; rw [h]
theorem row_is {bs r : List UInt8} {n : Nat} (h : cnt bs = some ((n : Int), r)) : row bs = cnts n r := by
 unfold row; rw [h]; rfl
theorem cnts_step {k : Nat} {bs r : List UInt8} {y : Int} (h : cnt bs = some (y, r)) : cnts (k + 1) bs = (cnts k r).map fun p => (y :: p.1, p.2) := by
 rw [cnts, h]; simp only []
 cases cnts k r <;> rfl
theorem cnts_no {k : Nat} {bs : List UInt8} (h : cnt bs = none) : cnts (k + 1) bs = none := by
 rw [cnts, h]
theorem Rd.frm {F G : Nat → Prop} {w w' : World} {r : Nat} {bs : List UInt8} (h : Rd F w r bs) (hf : Frm G w w') (hr : ¬ G r) (hd : ∀ g, F g → ¬ G g) : Rd F w' r bs := by
 obtain ⟨A, c, h0, h1, h2, h3⟩ := h
 exact ⟨A, c, h0, h1.frm hf hr, h2.frm hf hd, h3⟩
theorem Rd.belowB {F : Nat → Prop} {w w' : World} {r B : Nat} {bs : List UInt8} (h : Rd F w r bs) (hb : Below B w w') (hr : r < B) (hd : ∀ g, F g → g < B) : Rd F w' r bs :=
 Rd.frm h (Frm.of_below hb) (by omega) (fun g hg => by have := hd g hg; omega)
theorem Mem.Own.frm {α : Type} {f : α → Value} {base : Nat} {e : TypeId} {G : Nat → Prop} {w w' : World} {v : Value} {xs : List α} (h : Mem.Own f base e w v xs) (hf : Frm G w w') (hd : ∀ g, base ≤ g → ¬ G g) : Mem.Own f base e w' v xs := by
 obtain ⟨h1, h2⟩ := h
 refine ⟨h1, ?_⟩
 rcases h2 with h2 | ⟨g, cap, cur, a, b, hh, c⟩
 ·exact .inl h2
 ·refine .inr ⟨g, cap, cur, a, b, ?_, c⟩
  have hlt : g < w.heap.size := (Array.getElem?_eq_some_iff.1 hh).1
  rw [hf.block g hlt (hd g b)]
  exact hh
section
variable {P : Program} {α : Type} {f : α → Value}
theorem step_append1at {w0 : World} {ops : Array Oper} {o : Oper} {a : Act} {K : Act → World → Prop} {Q : Exit → Act → World → Prop} {E : Prop} (hgd : o.guard = none) (s x : Operand) (t : TypeId)
 (ho : o.op = .call { callee := .builtin .append, args := #[s, x], argTypes := #[t, t] })
 {base : Nat} {e : TypeId} {z : Value} {bytes : Nat} (ht : SliceT P t e z bytes)
 {v : Value} {xs : List α} (u : α) (h1 : (f u).oneCell' = true) (hs : a.eval s = v) (hown : Mem.Own f base e w0 v xs)
 {g c : Nat} (hx : a.eval x = .slice (some ⟨g, 0, none⟩) 1 c) (hg : g = w0.heap.size)
 (h63 : xs.length + 1 ≤ maxLen) (hbytes : (xs.length + 1) * bytes ≤ 140737488355328) (hbase : base ≤ w0.heap.size)
 (h : ∀ v' w', Mem.Own f base e w' v' (xs ++ [u]) → (w0.alloc (.cells #[f u] e)).grownBy w' v.ownBlock → (v'.ownBlock = v.ownBlock ∨ v'.ownBlock = some (w0.heap.size + 1)) → K (a.put o.dst v') w') :
 if Region.wanted o (yielded ops a.tmps) = true then Oper.wp P o a (w0.alloc (.cells #[f u] e)) K Q else E := by
 have hw : Region.wanted o (yielded ops a.tmps) = true := by simp [Region.wanted, hgd]
 rw [if_pos hw]
 obtain ⟨ht, hz1, i, hi, hz, hsz, hby⟩ := ht
 subst hg
 have hcell : (w0.alloc (.cells #[f u] e)).cell? ⟨w0.heap.size, 0, none⟩ = some (f u) := by
  have := heap_alloc_new w0 (.cells #[f u] e)
  unfold World.cell?
  simp only [this]; rfl
 obtain ⟨v', w', hr, h2, h3, _, hat⟩ := run_append_own_at (P := P) (w0.alloc (.cells #[f u] e)) base t o.type e i z 1 bytes ht hi hz hsz hby hz1 (by decide) v xs.length (xs.map f) (hown.alloc _) ⟨w0.heap.size, 0, none⟩ 1 c [f u] rfl (by
  intro j y hy
  match j, hy with
  | 0, hy => simp at hy; subst hy; exact hcell
  | j + 1, hy => simp at hy) (by intro y hy; simp at hy; subst hy; exact h1) h63 hbytes (by rw [World.size_alloc]; omega)
 unfold Oper.wp execOp
 simp only [ho, resolve, invoke, builtin, Sem.run_bind, Sem.run_pure, Result.andThen_ok, List.map_toArray, List.map_cons, List.map_nil, hs, hx, hr]
 refine h v' w' ?_ h3 (by rw [World.size_alloc] at hat; exact hat)
 unfold Mem.Own; rw [List.length_append, List.map_append]; exact h2
end
end Go.Proofs.YtfpomllhkbbipaaGreatDoor
