/- Layer 6: what the rows' cell 'laid' gives the walks: LaidS; and the door's own heap meets it. -/
import Derived.Test.YtifgajinfcihmaaGreatDoorRows
import Derived.ProofKit
import Derived.LaidMore
import Derived.MakeChecks
import Derived.Stop.Joined
import Derived.Stop.LaidErr
import Derived.Lib.LaidTab
import Derived.Test.YtifgajinfcihmaaGreatDoorJAv
namespace Go.Proofs.YtifgajinfcihmaaGreatDoor
open Go Go.RowKit Go.ChangeShapes
theorem err_kind : ∃ ms, Tryz.prog.underlying 126 = some (.interface ms) := ⟨#[("Error", 185)], by kernel_rfl⟩
theorem var_err {n nm : String} {d : DataW Unit} {r : List (String × DataW Unit)} {W : World} {g : Nat} (hg : Tryz.prog.globalNamed n = some g)
 (ht : (Tryz.prog.globals[g]?).map (·.type) = some 126) (h : laidMet Tryz.prog ((n, .iface nm d) :: r) W) : ∃ tp p, W.var? Tryz.prog n = some #[.iface tp p] := by
 obtain ⟨ps, ⟨g0, t0, cs0, f0, p0, q0, hg0, ht0, hv0, hd0, _, e0⟩, _, _⟩ := h
 obtain rfl := Option.some.inj (hg.symm.trans hg0)
 obtain rfl := Option.some.inj (ht.symm.trans ht0)
 obtain ⟨ms, hi⟩ := err_kind
 obtain ⟨_, u, v, hl, _, _⟩ := iface_of_trod hi hd0
 obtain ⟨l0⟩ := cs0
 simp only at hl
 subst hl
 exact ⟨u, v, hv0⟩
theorem laid_tab {H : Type} : (Rows.laid_internal_strconv_uint64pow10 : DataW H) = Lib.tabData .u64 Lib.pow10Tab := by
 show (DataW.agg _ : DataW H) = DataW.agg _
 congr 1
theorem of_laid {W : World} (h : laidMetH Tryz.prog Rows.walGapsRow.laid W) : LaidS W := by
 rw [MakeChecks.laidMetH_plain _ _ _ (by kernel_rfl)] at h
 have h3 := laidMet.tail (laidMet.tail h)
 have h4 := laidMet.tail h3
 have h5 := laidMet.tail h4
 rw [laid_tab] at h3
 exact ⟨Lib.tabIs_of_head (by kernel_rfl) (by kernel_rfl) (g := 2) (t := 249) (e := 161) (n := 20) Tryz.underlying249 Tryz.underlying161 (by kernel_rfl) (by kernel_rfl) h3,
  var_err (g := 0) (by kernel_rfl) (by kernel_rfl) h5, var_err (g := 1) (by kernel_rfl) (by kernel_rfl) h4⟩
set_option maxRecDepth 100000 in
theorem door_met (os : Os) (args : Array Value) : laidMetH Tryz.prog Rows.walGapsRow.laid ((World.doorLaid Tryz.prog 62 os).forCall (fun _ _ => 0) ⟨#[], args, []⟩).memory :=
 laidMetH_of_parts3 (fuel := 8) (laidMet_of_run' 8 (by kernel_rfl) (by kernel_rfl)) (by kernel_rfl) (by kernel_rfl)
end Go.Proofs.YtifgajinfcihmaaGreatDoor
