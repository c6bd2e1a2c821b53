/- Layer 1: Sort, told by codes. -/
import Derived.Test.YtdgliljmmokjnaaFloSW
import Derived.Test.YtdgliljmmokjnaaFloW2
import Derived.Test.YtdgliljmmokjnaaSrtG
import Derived.Test.YtdgliljmmokjnaaLibF
import Derived.Lib.SlicesCompact
import Derived.Lib.SliceRun
import Derived.Deep.DeepCutAuto
namespace Go.Proofs.Ytdgliljmmokjnaa
open Go.RowKit Go.Maps Go.Sort Go.Shelf Go.Lib Mem

/-- the codes of numbers' forms -/
abbrev Cd : Type := { c : Nat // c < Flo.W ∧ Flo.code (Flo.raw c) = c ∧ Flo.raw c < Flo.W }
theorem cd_ok {u : Nat} (h : u < Flo.W) : Flo.code u < Flo.W ∧ Flo.code (Flo.raw (Flo.code u)) = Flo.code u ∧ Flo.raw (Flo.code u) < Flo.W :=
  ⟨Flo.code_lt h, (Flo.code_raw (Flo.code_lt h)).2 (Flo.isC_code h), Flo.raw_lt (Flo.code_lt h)⟩
def cd (u : Nat) : Cd := if h : u < Flo.W then ⟨Flo.code u, cd_ok h⟩ else ⟨Flo.code 0, cd_ok (by unfold Flo.W; omega)⟩
theorem cd_val {u : Nat} (h : u < Flo.W) : (cd u).1 = Flo.code u := by unfold cd; rw [dif_pos h]
instance : Inhabited Cd := ⟨cd 0⟩
theorem cd_ext {a b : Cd} (h : a.1 = b.1) : a = b := Subtype.ext h
def fD (c : Cd) : Value := .float .f64 (Flo.raw c.1)
def cfD (a b : Cd) : Int := Flo.cmp3 a.1 b.1
theorem cmpF_cd (a b : Cd) : cmpF (Flo.raw a.1) (Flo.raw b.1) = cfD a b := by unfold cmpF cfD; rw [a.2.2.1, b.2.2.1]
theorem fD_cd {u : Nat} (h : u < Flo.W) : fD (cd u) = .float .f64 (Flo.can u) := by unfold fD; rw [cd_val h, Flo.raw_code h]
theorem ltD (x y : Cd) : ltOf cfD x y = decide (x.1 < y.1) := by
  unfold ltOf cfD Flo.cmp3
  by_cases h1 : x.1 < y.1
  · simp [h1]
  · by_cases h2 : y.1 < x.1 <;> simp [h1, h2]
theorem swoD : SWO (ltOf cfD) where
  irrefl x := by rw [ltD]; simp
  trans x y z h1 h2 := by rw [ltD] at *; simp at *; omega
  ntrans x y z h1 h2 := by rw [ltD] at *; simp at *; omega
theorem cmpD_any (a b : Cd) (w : World) : Calls Try.prog 22 #[fD a, fD b] w fun e w' => e = .returned (.int .i64 (cfD a b)) ∧ w = w' := by
  rw [← cmpF_cd]; exact cmp_any _ _ a.2.2.2 b.2.2.2 w
theorem cmpReadsD (blk off size : Nat) (w : World) : CmpReads Try.prog 22 #[] fD cfD blk off size w :=
  fun _ _ _ _ x y => (cmpD_any x y _).mono fun _ _ ⟨he, hw⟩ => ⟨he, 0, hw.symm⟩
theorem eqD_any (a b : Cd) (w : World) : Calls Try.prog 49 #[fD a, fD b] w fun e w' => e = .returned (.bool (decide (a = b))) ∧ w = w' := by
  have hc := cmpD_any a b w
  have hd : ((cfD a b : Int) == 0) = decide (a = b) := by
    unfold cfD Flo.cmp3
    by_cases h1 : a.1 < b.1
    · have : a ≠ b := fun e => by rw [e] at h1; omega
      simp [h1, this]
    · by_cases h2 : b.1 < a.1
      · have : a ≠ b := fun e => by rw [e] at h2; omega
        simp [h1, h2, this]
      · have : a = b := cd_ext (by omega)
        simp [this]
  have HC := Lib.hid hc; clear hc
  unfold fD at HC ⊢
  generalize Flo.raw a.1 = x at *
  generalize Flo.raw b.1 = y at *
  generalize decide (a = b) = z at *
  generalize cfD a b = q at *
  go_enter Try.func49, Try.ntmps49
  go_wp2_with fail
  (with_reducible refine HC.out.mono ?_); rintro e w' ⟨rfl, rfl⟩
  go_wp2_with fail
  go_ret
  exact ⟨rfl, rfl⟩
/-- the sorted list -/
def sD (xs : List Cd) : List Cd := xs.mergeSort fun x y => !(ltOf cfD) y x
theorem sD_len (xs : List Cd) : (sD xs).length = xs.length := List.length_mergeSort ..
def SDPost (base : Nat) (v : Value) (xs : List Cd) (w : World) (x : Ending) (w' : World) : Prop :=
  x = .returned (.tuple #[]) ∧ Own fD base 22 w' v (sD xs) ∧ w.grownBy w' v.ownBlock
theorem SortFunc_any {base : Nat} {w : World} {v : Value} {xs : List Cd} (h : Own fD base 22 w v xs) (hn : xs.length < 4611686018427387904) :
    Calls Try.prog 47 #[v, .func (.func 22) #[] #[]] w (SDPost base v xs w) := by
  have h9 := h
  rcases h.rows with ⟨rfl, rfl⟩ | ⟨g, cap, rfl, hlt, hH, hput⟩
  · refine (AnyF.slices_SortFunc_none { Try.sortf with } none 0 (.func (.func 22) #[] #[]) w).mono ?_
    rintro x w' ⟨rfl, rfl⟩
    exact ⟨rfl, by unfold sD; simpa using h9, grownBy_refl _ _⟩
  · have hc := Any.slices_SortFunc_total Try.sortf fD (fun _ => rfl) cfD swoD 22 #[] g 0 cap xs.toArray w (enters_of Try.func22 (by kernel_rfl) rfl) (cmpReadsD g 0 _ w).lays hH hlt (by simpa using hn)
      (fun x y h1 h2 => cd_ext (by rw [ltD] at h1 h2; simp at h1 h2; omega))
    have hsz : xs.toArray.size = xs.length := by simp
    rw [hsz] at hc
    refine hc.mono ?_
    rintro x w' ⟨rfl, n, os, rfl⟩
    obtain ⟨h1, h2⟩ := hput (sD xs) n os (sD_len xs)
    exact ⟨rfl, h1, h2⟩
end Go.Proofs.Ytdgliljmmokjnaa
