/- Layer 1: slices.CompactFunc at numbers' forms. -/
import Derived.Test.YtdgliljmmokjnaaFst
namespace Go.Proofs.Ytdgliljmmokjnaa
open Go.RowKit Go.Maps Go.Sort Go.Shelf Go.Lib Mem

theorem arr_get {xs : List Cd} {j : Nat} (h : j < xs.length) : xs.toArray[j]! = xs[j] := by
  rw [getElem!_pos _ _ (by simpa using h)]; simp
theorem arr_getD {d : Array Cd} {j : Nat} (h : j < d.size) : d[j]! = d.toList[j]'(by simpa using h) := by
  rw [getElem!_pos d j h]; simp
theorem compact_low {d dk : Array Cd} {k : Nat} (h : CompInv d d.size k dk) : dk.toList.take k = compactUpTo d d.size := by
  apply List.ext_getElem?
  intro j
  by_cases c : j < k
  · have := h.lt; have := h.size
    rw [List.getElem?_take_of_lt c, h.low j c, getElem!_pos dk j (by omega), List.getElem?_eq_getElem (by simp; omega)]; simp
  · rw [List.getElem?_take_eq_none (by omega), List.getElem?_eq_none (by rw [h.len]; omega)]
theorem grownBy_drewN {w w' : World} {k : Option Nat} (h : w.grownBy w' k) (n : Nat) : w.grownBy (w'.drewN n) k := by obtain ⟨a, b, c, d, e⟩ := h; exact ⟨a, b, c, d, e⟩
theorem grownBy_setCell1 {w w' : World} {g : Nat} (h : w.grownBy w' (some g)) (j : Nat) (u : Value) : w.grownBy (w'.setCell ⟨g, j, none⟩ u) (some g) := grownBy_setCells [u] w' j h
def CfPost (base : Nat) (v : Value) (xs : List Cd) (w : World) (x : Ending) (w' : World) : Prop :=
  ∃ A c, x = .returned (.slice A (compact xs).length c) ∧ Own fD base 22 w' (.slice A (compact xs).length c) (compact xs) ∧ w.grownBy w' v.ownBlock
def Cf1 (w : World) (xs : List Cd) (kv : Value) (wr : World) : Prop := ∃ k m : Nat, 1 ≤ k ∧ k ≤ xs.length ∧ kv = .int .i64 k ∧ wr = w.drewN m ∧ ∀ j, j < k → keeps xs.toArray j = true
def Cf2 (base g cap k : Nat) (w : World) (xs : List Cd) (kv k2v : Value) (wr : World) : Prop :=
  ∃ (kk k2 : Nat) (dk : Array Cd), kv = .int .i64 kk ∧ k2v = .int .i64 k2 ∧ 1 ≤ k2 ∧ k + k2 ≤ xs.length ∧ CompInv xs.toArray (k + k2) kk dk ∧ Own fD base 22 wr (.slice (some ⟨g, 0, none⟩) xs.length cap) dk.toList ∧ w.grownBy wr (some g)
theorem eqN {x y : Cd} {rx ry : Nat} {b : Bool} (h1 : Flo.raw x.1 = rx) (h2 : Flo.raw y.1 = ry) (hb : decide (x = y) = b) (W : World) : Calls Try.prog 49 #[.float .f64 rx, .float .f64 ry] W fun e w' => e = .returned (.bool b) ∧ W = w' := by
  subst h1; subst h2; subst hb; exact eqD_any x y W
set_option maxRecDepth 100000 in
set_option maxHeartbeats 4000000 in
theorem CompactFunc_any {base : Nat} {w : World} {v : Value} {xs : List Cd} (h : Own fD base 22 w v xs) (hbz : xs.length ≤ 20000000000000) :
    Calls Try.prog 48 #[v, .func (.func 49) #[] #[]] w (CfPost base v xs w) := by
  have HBZ := Lib.hid hbz; clear hbz
  have h9 := h
  have hsame : (∀ j, j < xs.length → keeps xs.toArray j = true) → compact xs = xs := compact_all xs
  obtain ⟨A, cap, rfl⟩ := h.form
  have hl := h.sl.2.len
  by_cases h2 : xs.length < 2
  · have he : compact xs = xs := hsame (fun j hj => keeps_lt_one _ j (by omega))
    have HE := Lib.hid he; clear he hsame h
    have H9 := Lib.hid h9; clear h9
    go_enter Try.func48, Try.ntmps48
    go_wp2_with fail
    go_ret
    exact ⟨A, cap, by rw [HE.out]; rfl, by rw [HE.out]; exact H9.out, grownBy_refl _ _⟩
  · obtain ⟨g, hA, _⟩ := h.addr (by omega)
    subst hA
    have hcap := h.cap
    have HCAP := Lib.hid hcap.2
    have hcap1 := hcap.1
    have hcap2 : cap ≤ 9223372036854775807 := hcap.2
    have H9 := Lib.hid h9; clear h9 h hcap
    have HSAME := Lib.hid hsame; clear hsame
    have hst := fun (a : Addr) (r : Nat) (w : World) => run_store Try.prog w a (.float .f64 r) .plain rfl
    go_enter Try.func48, Try.ntmps48
    go_wp2_with fail
    go_loopw [5] (fun kv wr => Cf1 w xs kv wr) (fun kv _ => xs.length - (intOf kv).toNat)
    case atStart => exact ⟨1, 0, Nat.le_refl _, by omega, rfl, rfl, keeps_lt_one _⟩
    case round =>
      obtain ⟨k, m, hk1, hk, rfl, rfl, hall⟩ := hrel
      have HALL := Lib.hid hall; clear hall
      by_cases hlt : k < xs.length
      · have c1 := H9.out.sl.2.cell hlt
        have c0 := H9.out.sl.2.cell (k := k - 1) (by omega)
        rw [Nat.zero_add] at c0 c1
        obtain ⟨x, hx⟩ : ∃ x, x = xs[k] := ⟨_, rfl⟩
        have hkm : k - 1 < xs.length := by omega
        obtain ⟨y, hy⟩ : ∃ y, y = xs[k - 1] := ⟨_, rfl⟩
        rw [← hx] at c1; rw [← hy] at c0
        obtain ⟨rx, hrx⟩ : ∃ r, Flo.raw x.1 = r := ⟨_, rfl⟩
        obtain ⟨ry, hry⟩ : ∃ r, Flo.raw y.1 = r := ⟨_, rfl⟩
        obtain ⟨b, hb⟩ : ∃ b, decide (x = y) = b := ⟨_, rfl⟩
        unfold fD at c0 c1
        rw [hrx] at c1; rw [hry] at c0
        have HQ : Hid (∀ W, Calls Try.prog 49 #[.float .f64 rx, .float .f64 ry] W fun e w' => e = .returned (.bool b) ∧ W = w') := Lib.hid (fun W => eqN hrx hry hb W)
        have HKP : Hid (keeps xs.toArray k = !b) := by
          show _ = _
          rw [← hb]
          by_cases hxy : x = y
          · have : keeps xs.toArray k = false := keeps_neg (by omega) (by rw [arr_get hlt, arr_get (by omega), ← hx, ← hy, hxy])
            rw [this]; simp [hxy]
          · have : keeps xs.toArray k = true := keeps_pos (by rw [arr_get hlt, arr_get (by omega), ← hx, ← hy]; exact hxy)
            rw [this]; simp [hxy]
        clear hx hy hrx hry hb
        have hs2 : k - 1 < xs.length := by omega
        have hk0 : (0 : Int) ≤ (k : Int) := by omega
        have hk2 : (k : Int) < (xs.length : Int) := by omega
        obtain ⟨wo, hwo⟩ : ∃ x, x = w.drewN m := ⟨_, rfl⟩
        have c1 : wo.cell? ⟨g, k, none⟩ = some (.float .f64 rx) := by rw [hwo]; exact c1
        have c0 : wo.cell? ⟨g, k - 1, none⟩ = some (.float .f64 ry) := by rw [hwo]; exact c0
        rw [← hwo]
        have HWO := Lib.hid hwo; clear hwo
        have hw1 : IntKind.i64.wrap ((k : Int) - 1) = ((k - 1 : Nat) : Int) := by rw [IntWalk.i64_in _ (by omega)]; omega
        have hk3 : (0 : Int) ≤ ((k - 1 : Nat) : Int) := by omega
        have hk4 : ((k - 1 : Nat) : Int) < (xs.length : Int) := by omega
        cases b with
        | false =>
          go_wp2_with fail
          go_quiet (first | (go_at_call 49; exact quiet_mine (HQ.out _)))
          clear hw1
          go_wp2_with fail
          go_roundw
          case rel => exact ⟨k + 1, m + nq, by omega, by omega, by go_num, by rw [HWO.out, World.drewN_drewN], fun j hj => by
            rcases Nat.lt_or_ge j k with h | h
            · exact HALL.out j h
            · have : j = k := by omega
              subst this; rw [HKP.out]; rfl⟩
          case measure => simp [intOf]; omega
        | true =>
          go_wp2_with fail
          go_quiet (first | (go_at_call 49; exact quiet_mine (HQ.out _)))
          clear hw1 c0 c1 hs2 hk0 hk2 hk3 hk4
          have hkc : k < cap := by omega
          have hkc2 : k ≤ cap := by omega
          go_wp2_with fail
          go_loopw [5, 7] (fun kv k2v wr => Cf2 base g cap k w xs kv k2v wr) (fun _ k2v _ => xs.length - (intOf k2v).toNat)
          case atStart =>
            exact ⟨k, 1, xs.toArray, rfl, rfl, Nat.le_refl _, by omega, CompInv.start HALL.out (by rw [HKP.out]; rfl), by rw [HWO.out]; exact (H9.out.drewN m).drewN nq, by rw [HWO.out]; exact grownBy_drewN (grownBy_drewN (grownBy_refl _ _) m) nq⟩
          case round =>
            obtain ⟨kk, k2, dk, rfl, rfl, h21, h2l, hinv, hown, hgr⟩ := hrel
            have hkk := hinv.lt
            have hds : dk.size = xs.length := by have := hinv.size; simpa using this
            have HINV := Lib.hid hinv; clear hinv
            have HOWN := Lib.hid hown; clear hown
            have HGR := Lib.hid hgr; clear hgr
            have HDS := Lib.hid hds
            by_cases hl2 : k + k2 < xs.length
            · obtain ⟨g', hg', _, _, cu, fu⟩ := HOWN.out.slot (k := k + k2) (by simp; omega)
              injection hg' with hg'; injection hg' with hg'; subst hg'
              obtain ⟨g', hg', _, _, cv, fv⟩ := HOWN.out.slot (k := k + k2 - 1) (by simp; omega)
              injection hg' with hg'; injection hg' with hg'; subst hg'
              obtain ⟨g', hg', _, _, ck, fk⟩ := HOWN.out.slot (k := kk) (by simp; omega)
              injection hg' with hg'; injection hg' with hg'; subst hg'
              clear fu fv
              have eu : dk.toList[k + k2]'(by simp; omega) = xs[k + k2] := by
                rw [← arr_getD (by omega), ← arr_get hl2]; exact HINV.out.high _ (by omega)
              have ev : dk.toList[k + k2 - 1]'(by simp; omega) = xs[k + k2 - 1] := by
                rw [← arr_getD (by omega), ← arr_get (by omega)]; exact HINV.out.high _ (by omega)
              obtain ⟨x, hx⟩ : ∃ x, x = xs[k + k2] := ⟨_, rfl⟩
              have hkm : k + k2 - 1 < xs.length := by omega
              obtain ⟨y, hy⟩ : ∃ y, y = xs[k + k2 - 1] := ⟨_, rfl⟩
              have hkz : kk < dk.toList.length := by simp; omega
              obtain ⟨z, hz⟩ : ∃ z, z = dk.toList[kk] := ⟨_, rfl⟩
              rw [eu, ← hx] at cu
              rw [ev, ← hy] at cv
              rw [← hz] at ck
              clear hz
              obtain ⟨rx, hrx⟩ : ∃ r, Flo.raw x.1 = r := ⟨_, rfl⟩
              obtain ⟨ry, hry⟩ : ∃ r, Flo.raw y.1 = r := ⟨_, rfl⟩
              obtain ⟨b, hb⟩ : ∃ b, decide (x = y) = b := ⟨_, rfl⟩
              unfold fD at cu cv ck
              rw [hrx] at cu; rw [hry] at cv
              have HQ : Hid (∀ W, Calls Try.prog 49 #[.float .f64 rx, .float .f64 ry] W fun e w' => e = .returned (.bool b) ∧ W = w') := Lib.hid (fun W => eqN hrx hry hb W)
              have HKP2 : Hid (keeps xs.toArray (k + k2) = !b) := by
                show _ = _
                rw [← hb]
                by_cases hxy : x = y
                · have : keeps xs.toArray (k + k2) = false := keeps_neg (by omega) (by rw [arr_get hl2, arr_get (by omega), ← hx, ← hy, hxy])
                  rw [this]; simp [hxy]
                · have : keeps xs.toArray (k + k2) = true := keeps_pos (by rw [arr_get hl2, arr_get (by omega), ← hx, ← hy]; exact hxy)
                  rw [this]; simp [hxy]
              have HX : Hid (fD x = .float .f64 rx) := by show _ = _; unfold fD; rw [hrx]
              have HXV : Hid (xs.toArray[k + k2]! = x) := by show _ = _; rw [arr_get hl2, hx]
              clear hx hy hrx hry hb eu ev
              have hof : k + k2 - 1 = k + (k2 - 1) := by omega
              rw [hof] at cv
              have hk20 : (0 : Int) ≤ (k2 : Int) := by omega
              have hle : ((xs.length - k : Nat) : Int) = (xs.length : Int) - (k : Int) := by omega
              have hk22 : (k2 : Int) < ((xs.length - k : Nat) : Int) := by omega
              have hw1 : IntKind.i64.wrap ((k2 : Int) - 1) = ((k2 - 1 : Nat) : Int) := by rw [IntWalk.i64_in _ (by omega)]; omega
              have hk23 : (0 : Int) ≤ ((k2 - 1 : Nat) : Int) := by omega
              have hk24 : ((k2 - 1 : Nat) : Int) < ((xs.length - k : Nat) : Int) := by omega
              clear hof hle
              cases b with
              | true =>
                go_wp2_with fail
                go_quiet (first | (go_at_call 49; exact quiet_mine (HQ.out _)))
                clear hw1
                go_wp2_with fail
                go_roundw
                case rel => exact ⟨kk, k2 + 1, dk, rfl, by go_num, by omega, by omega, HINV.out.skip (by rw [HKP2.out]; rfl), HOWN.out.drewN _, grownBy_drewN HGR.out _⟩
                case measure => simp [intOf]; omega
              | false =>
                go_wp2_with fail
                go_quiet (first | (go_at_call 49; exact quiet_mine (HQ.out _)))
                clear hw1
                obtain ⟨wz, hwz⟩ : ∃ x, x = wr.drewN nq := ⟨_, rfl⟩
                have cu : wz.cell? ⟨g, k + k2, none⟩ = some (.float .f64 rx) := by rw [hwz]; exact cu
                have ck : wz.cell? ⟨g, kk, none⟩ = some (.float .f64 (Flo.raw z.1)) := by rw [hwz]; exact ck
                have fk : wz.frozen? ⟨g, kk, none⟩ = false := by rw [hwz]; exact fk
                rw [← hwz]
                have HWZ := Lib.hid hwz; clear hwz
                go_wp2_with fail
                go_roundw
                case rel =>
                  refine ⟨kk + 1, k2 + 1, dk.setIfInBounds kk x, by go_num, by go_num, by omega, by omega, ?_, ?_, by rw [HWZ.out]; exact grownBy_setCell1 (grownBy_drewN HGR.out _) _ _⟩
                  · have := HINV.out.keep (by simp; omega) (by rw [HKP2.out]; rfl)
                    rw [HXV.out] at this; exact this
                  · have := (HOWN.out.drewN nq).set_ (k := kk) (by simp; omega) x
                    rw [HX.out] at this
                    rw [HWZ.out, Array.toList_setIfInBounds]; exact this
                case measure => simp [intOf]; omega
            · have hend : k + k2 = xs.length := by omega
              have hcl : ∀ ty, (Builtin.clear_ #[35] ty #[.slice (some ⟨g, kk, none⟩) (xs.length - kk) (cap - kk)]).run Try.prog wr = .ok (.tuple #[]) (wr.setCells g kk (List.replicate (xs.length - kk) (.float .f64 0))) :=
                fun ty => Lib.run_clear_slice wr _ 22 ty (.float .f64 0) Try.underlying35 (fun w => Try.zeroValue22 w) rfl rfl g kk _ _ (by omega)
                  (fun j hj => by obtain ⟨g', hg', _, _, hc, _⟩ := HOWN.out.slot (k := kk + j) (by simp; omega); injection hg' with hg'; injection hg' with hg'; subst hg'; rw [hc]; rfl)
                  (fun j hj => by obtain ⟨g', hg', _, _, _, hf⟩ := HOWN.out.slot (k := kk + j) (by simp; omega); injection hg' with hg'; injection hg' with hg'; subst hg'; exact hf)
              have hlow : dk.toList.take kk = compact xs := by
                have h1 := HINV.out
                rw [hend] at h1
                have h2 : CompInv xs.toArray xs.toArray.size kk dk := by simpa using h1
                have := compact_low h2
                simpa [compact] using this
              have HLOW := Lib.hid hlow; clear hlow
              have hkx : (compact xs).length = kk := by rw [← HLOW.out, List.length_take]; simp; omega
              have HKX := Lib.hid hkx; clear hkx hend
              have hkl : kk < xs.length := by omega
              have hkc3 : kk < cap := by omega
              go_wp2_with fail
              go_ret
              exact ⟨_, cap, by rw [HKX.out]; rfl, by rw [HKX.out, ← HLOW.out]; exact (HOWN.out.cut (by omega)).setHighs _ _ (Nat.le_refl _), grownBy_setCells _ _ _ HGR.out⟩
      · have hkk : k = xs.length := by omega
        have HE : Hid (compact xs = xs) := HSAME.out (fun j hj => HALL.out j (by omega))
        clear hkk
        go_wp2_with fail
        go_ret
        exact ⟨_, cap, by rw [HE.out]; rfl, by rw [HE.out]; exact H9.out, grownBy_drewN (grownBy_refl _ _) m⟩
end Go.Proofs.Ytdgliljmmokjnaa
