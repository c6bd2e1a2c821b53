/- Layer 1: the walk of the document's Sort. -/
import Derived.Test.YtdgliljmmokjnaaFloS
import Derived.Deep.QuietTactic
import Derived.BigQuiet
namespace Go.Proofs.Ytdgliljmmokjnaa
open Go.RowKit Mem

/-- a code as the cell of its number -/
def fC (c : Nat) : Value := .float .f64 (Flo.raw c)
theorem f64T : SliceT Try.prog 35 22 (.float .f64 0) 8 := sliceT_mk Try.underlying35 rfl (by kernel_rfl)
def lenB (n : Nat) : Prop := n * 8 ≤ 140737488351232
theorem lenB_app {n k : Nat} (h : lenB n) (hk : k ≤ n) : k + 1 ≤ maxLen ∧ (k + 1) * 8 ≤ 140737488355328 := by unfold lenB at h; unfold maxLen; omega
theorem lenB_le {n k : Nat} (h : lenB n) (hk : k ≤ n) : (k : Int) ≤ 9223372036854775806 := by unfold lenB at h; omega
/-- the relation of the inner loop -/
def RelIn (c : Nat) (l : List Nat) (B : Nat) (wi : World) (nv d kk : Value) (wr : World) : Prop :=
  ∃ k : Nat, k ≤ l.length ∧ kk = .int .i64 k ∧ d = .bool (steps c (l.take k)).2 ∧ Own fC B 22 wr nv (steps c (l.take k)).1 ∧ Below B wi wr
def RelOut (cs : List Nat) (w0 : World) (ov ii : Value) (wr : World) : Prop :=
  ∃ (k : Nat) (A : Option Addr) (c : Nat), k ≤ cs.length ∧ ii = .int .i64 k ∧ ov = .slice A (srt (cs.take k)).length c ∧ Sl fC wr A (srt (cs.take k)) ∧ Below w0.heap.size w0 wr
theorem srt_map_snoc (xs : List Nat) (i : Nat) (h : i < xs.length) : srt ((xs.map Flo.code).take (i + 1)) = ins (srt ((xs.map Flo.code).take i)) (Flo.code xs[i]) := by
  rw [srt_snoc _ i (by simpa using h)]; simp
def RetSort (cs : List Nat) (w : World) (e : Ending) (w' : World) : Prop :=
  ∃ A c, e = .returned (.slice A (srt cs).length c) ∧ Sl fC w' A (srt cs) ∧ Below w.heap.size w w'
theorem step_lt {c d : Nat} {nx : List Nat} (h : c < d) : step c (nx, false) d = ((nx ++ [c]) ++ [d], true) := by
  unfold step; simp [h, show ¬ c = d by omega]
theorem step_ltT {c d : Nat} {nx : List Nat} (h : c < d) : step c (nx, true) d = (nx ++ [d], true) := by
  unfold step; simp [h]
theorem step_eq {c d : Nat} {nx : List Nat} {b : Bool} (h : c = d) : step c (nx, b) d = (nx ++ [d], true) := by
  unfold step; subst h; simp
theorem step_gt {c d : Nat} {nx : List Nat} {b : Bool} (h : d < c) : step c (nx, b) d = (nx ++ [d], b) := by
  unfold step; simp [show ¬ c < d by omega, show ¬ c = d by omega]
theorem ins_of {l nx : List Nat} {c : Nat} {dn : Bool} {k : Nat} (h : steps c (l.take k) = (nx, dn)) (hk : ¬ k < l.length) : ins l c = if dn then nx else nx ++ [c] := by
  rw [List.take_of_length_le (by omega)] at h
  unfold ins; rw [h]
theorem srt_codes {xs : List Nat} (hx : ∀ x ∈ xs, x < Flo.W) (i : Nat) : ∀ d ∈ srt ((xs.map Flo.code).take i), d < Flo.W ∧ Flo.code (Flo.raw d) = d ∧ Flo.raw d < Flo.W := by
  intro d hd
  rw [(srt_sorted _).2] at hd
  have hd := List.mem_of_mem_take hd
  obtain ⟨x, hxm, rfl⟩ := List.mem_map.1 hd
  have h1 := Flo.code_lt (hx x hxm)
  exact ⟨h1, (Flo.code_raw h1).2 (Flo.isC_code (hx x hxm)), Flo.raw_lt h1⟩
theorem cmpF_raw {u d : Nat} (h : Flo.code (Flo.raw d) = d) : (Flo.code u < d → cmpF u (Flo.raw d) = -1) ∧ (Flo.code u = d → cmpF u (Flo.raw d) = 0) ∧ (d < Flo.code u → cmpF u (Flo.raw d) = 1) := by
  refine ⟨fun a => ?_, fun a => ?_, fun a => ?_⟩ <;> unfold cmpF Flo.cmp3 <;> rw [h]
  · rw [if_pos a]
  · rw [if_neg (by omega), if_neg (by omega)]
  · rw [if_neg (by omega), if_pos a]
set_option maxHeartbeats 1000000 in
theorem rsort_any (A : Option Addr) (c : Nat) (xs : List Nat) (hx : ∀ x ∈ xs, x < Flo.W) (hlen : lenB xs.length) (w : World) (hs : Sl (Value.float .f64) w A xs) :
    Calls Try.prog 33 #[.slice A xs.length c] w (RetSort (xs.map Flo.code) w) := by
  have hl := hs.len
  have HX := Lib.hid hx; clear hx
  go_enter Try.func33, Try.ntmps33
  go_wp2_with fail
  go_loopw [3, 4] (fun ov ii wr => RelOut (xs.map Flo.code) w ov ii wr) (fun _ ii _ => xs.length - (intOf ii).toNat)
  case atStart => exact ⟨0, _, _, Nat.zero_le _, rfl, rfl, Sl.nil, (Below.refl _ _).alloc (Nat.le_refl _) _⟩
  case round =>
    obtain ⟨i, A1, c1, hi, rfl, rfl, hs1, hb1⟩ := hrel
    obtain ⟨wo, rfl⟩ : ∃ wo : World, wo = wr := ⟨_, rfl⟩
    rw [List.length_map] at hi
    have hsl : (srt (List.take i (List.map Flo.code xs))).length ≤ i := Nat.le_trans (srt_len _) (List.length_take_le _ _)
    generalize hL : srt (List.take i (List.map Flo.code xs)) = l at *
    have HL := Lib.hid hL; clear hL
    have hb1' := Lib.hid hb1; clear hb1
    have hs' := hs.below hb1'.out
    by_cases hlt : i < xs.length
    · obtain ⟨b, o, rfl, hbb, hc⟩ := hs'.at hlt
      have hci := hc i hlt
      have HC := Lib.hid hc; clear hc
      have hu := HX.out xs[i] (List.getElem_mem hlt)
      have hcu := Flo.code_lt hu
      go_wp2_with fail
      go_loopw [5, 6, 7] (fun nv d kk ww => RelIn (Flo.code xs[i]) l wo.heap.size wo nv d kk ww) (fun _ _ kk _ => l.length - (intOf kk).toNat)
      case atStart => exact ⟨0, Nat.zero_le _, rfl, rfl, Own.mk_ (Nat.le_refl _), (Below.refl _ _).alloc (Nat.le_refl _) _⟩
      case round =>
        obtain ⟨k, hk, rfl, rfl, hown, hb2⟩ := hrel
        have hcod := srt_codes HX.out i
        rw [HL.out] at hcod
        have HCOD := Lib.hid hcod; clear hcod
        have hdl := steps_len (Flo.code xs[i]) (l.take k)
        have hss := steps_snoc (Flo.code xs[i]) l k
        have hcix := (Sl.below hs' hb2).cell hlt
        generalize hst : steps (Flo.code xs[i]) (l.take k) = st at *
        have HST := Lib.hid hst; clear hst
        obtain ⟨nx, dn⟩ := st
        rw [List.length_take, Nat.min_eq_left hk] at hdl
        have hdl1 : nx.length ≤ k + 1 := by simp only at hdl; split at hdl <;> omega
        have hdl0 : dn = false → nx.length ≤ k := by rintro rfl; simpa using hdl
        clear hdl
        by_cases hkl : k < l.length
        · obtain ⟨hd1, hd2, hd3⟩ := HCOD.out l[k] (List.getElem_mem hkl)
          obtain ⟨b2, o2, rfl, _, _⟩ := hs1.at hkl
          have hcl : wr.cell? ⟨b2, o2 + k, none⟩ = some (.float .f64 (Flo.raw l[k])) := (Sl.below hs1 hb2).cell hkl
          have HSS := Lib.hid (hss hkl); clear hss
          have hcm := cmpF_raw (u := xs[i]) hd2
          have hd2' := Lib.hid hd2; clear hd2
          rcases Nat.lt_trichotomy (Flo.code xs[i]) l[k] with hx1 | hx1 | hx1
          · have hcm1 := hcm.1 hx1
            clear hcm
            have HX1 := Lib.hid hx1; clear hx1
            cases dn
            · have hdl2 := hdl0 rfl
              clear hdl0
              go_wp2_with fail
              go_quiet ((go_at_call 23; exact quiet_mine (rcmp_any _ _ hu hd3 _)))
              go_wp2_with (first | (go_at_call 18; (with_reducible refine (rcode_any _ hu _).mono ?_); rintro e w' ⟨rfl, rfl⟩) | (go_at_call 43; (with_reducible refine (of_any _ hcu _).mono ?_); rintro e w' ⟨rfl, rfl⟩) | (at_builtin; refine wpList_append1 (f := fC) rfl (.tmp 38) (.tmp 45) 35 rfl f64T (Flo.code xs[i]) rfl rfl (hown.drewN _) rfl rfl (lenB_app hlen (by omega)).1 (lenB_app hlen (by omega)).2 hb2.size ?_; intro v1 w1 hown1 hb3; have hcl1 : w1.cell? ⟨b2, o2 + k, none⟩ = some (.float .f64 (Flo.raw l[k])) := (Sl.below hs1 ((below_drewN hb2 _).trans hb3)).cell hkl) | (at_builtin; refine wpList_append1 (f := fC) rfl (.tmp 49) (.tmp 54) 35 rfl f64T l[k] rfl rfl hown1 rfl rfl (lenB_app hlen (by rw [List.length_append, List.length_singleton]; omega)).1 (lenB_app hlen (by rw [List.length_append, List.length_singleton]; omega)).2 (Nat.le_trans hb2.size hb3.size) ?_; intro v2 w2 hown2 hb4))
              have hrl := HSS.out.trans (step_lt HX1.out)
              have HRL := Lib.hid hrl; clear hrl
              go_roundw
              case rel => exact ⟨k + 1, by omega, by go_num, by rw [HRL.out], by rw [HRL.out]; exact hown2, ((below_drewN hb2 _).trans hb3).trans hb4⟩
              case measure => simp [intOf]; omega
            · clear hdl0
              go_wp2_with fail
              go_quiet ((go_at_call 23; exact quiet_mine (rcmp_any _ _ hu hd3 _)))
              go_wp2_with (first | (at_builtin; refine wpList_append1 (f := fC) rfl (.tmp 49) (.tmp 54) 35 rfl f64T l[k] rfl rfl (hown.drewN _) rfl rfl (lenB_app hlen (by omega)).1 (lenB_app hlen (by omega)).2 hb2.size ?_; intro v2 w2 hown2 hb4))
              have hrl := HSS.out.trans (step_ltT HX1.out)
              have HRL := Lib.hid hrl; clear hrl
              go_roundw
              case rel => exact ⟨k + 1, by omega, by go_num, by rw [HRL.out], by rw [HRL.out]; exact hown2, (below_drewN hb2 _).trans hb4⟩
              case measure => simp [intOf]; omega
          · have hcm1 := hcm.2.1 hx1
            clear hcm
            have HX1 := Lib.hid hx1; clear hx1
            cases dn
            all_goals
              clear hdl0
              go_wp2_with fail
              go_quiet ((go_at_call 23; exact quiet_mine (rcmp_any _ _ hu hd3 _)))
              go_wp2_with (first | (at_builtin; refine wpList_append1 (f := fC) rfl (.tmp 49) (.tmp 54) 35 rfl f64T l[k] rfl rfl (hown.drewN _) rfl rfl (lenB_app hlen (by omega)).1 (lenB_app hlen (by omega)).2 hb2.size ?_; intro v2 w2 hown2 hb4))
              have hrl := HSS.out.trans (step_eq HX1.out)
              have HRL := Lib.hid hrl; clear hrl
              go_roundw
              case rel => exact ⟨k + 1, by omega, by go_num, by rw [HRL.out], by rw [HRL.out]; exact hown2, (below_drewN hb2 _).trans hb4⟩
              case measure => simp [intOf]; omega
          · have hcm1 := hcm.2.2 hx1
            clear hcm
            have HX1 := Lib.hid hx1; clear hx1
            cases dn
            all_goals
              clear hdl0
              go_wp2_with fail
              go_quiet ((go_at_call 23; exact quiet_mine (rcmp_any _ _ hu hd3 _)))
              go_wp2_with (first | (at_builtin; refine wpList_append1 (f := fC) rfl (.tmp 49) (.tmp 54) 35 rfl f64T l[k] rfl rfl (hown.drewN _) rfl rfl (lenB_app hlen (by omega)).1 (lenB_app hlen (by omega)).2 hb2.size ?_; intro v2 w2 hown2 hb4))
              have hrl := HSS.out.trans (step_gt HX1.out)
              have HRL := Lib.hid hrl; clear hrl
              go_roundw
              case rel => exact ⟨k + 1, by omega, by go_num, by rw [HRL.out], by rw [HRL.out]; exact hown2, (below_drewN hb2 _).trans hb4⟩
              case measure => simp [intOf]; omega
        · have hin := (srt_map_snoc xs i hlt).trans (by rw [HL.out, ins_of HST.out hkl])
          have HIN := Lib.hid hin; clear hin hss
          have HD0 := Lib.hid hdl0; clear hdl0
          cases dn
          · have hdl2 := HD0.out rfl
            go_wp2_with (first | (go_at_call 18; (with_reducible refine (rcode_any _ hu _).mono ?_); rintro e w' ⟨rfl, rfl⟩) | (go_at_call 43; (with_reducible refine (of_any _ hcu _).mono ?_); rintro e w' ⟨rfl, rfl⟩) | (at_builtin; refine wpList_append1 (f := fC) rfl (.tmp 58) (.tmp 65) 35 rfl f64T (Flo.code xs[i]) rfl rfl hown rfl rfl (lenB_app hlen (by omega)).1 (lenB_app hlen (by omega)).2 hb2.size ?_; intro v1 w1 hown1 hb3; obtain ⟨A', c', rfl⟩ := hown1.form))
            have HIN := HIN.out
            simp only [Bool.false_eq_true, if_false] at HIN
            have HIN := Lib.hid HIN
            go_roundw
            case rel => exact ⟨i + 1, A', c', by simp; omega, by go_num, by rw [HIN.out, List.length_append]; rfl, by rw [HIN.out]; exact (Own.sl hown1).2, hb1'.out.trans ((hb2.trans hb3).mono hb1'.out.size)⟩
            case measure => simp [intOf]; omega
          · obtain ⟨A', c', rfl⟩ := hown.form
            go_wp2_with fail
            have HIN := HIN.out
            simp only [if_true] at HIN
            have HIN := Lib.hid HIN
            go_roundw
            case rel => exact ⟨i + 1, A', c', by simp; omega, by go_num, by rw [HIN.out], by rw [HIN.out]; exact (Own.sl hown).2, hb1'.out.trans (hb2.mono hb1'.out.size)⟩
            case measure => simp [intOf]; omega
    · go_wp2_with fail
      go_ret
      have HL := HL.out
      rw [List.take_of_length_le (by simp; omega)] at HL
      exact ⟨A1, c1, by rw [HL]; rfl, by rw [HL]; exact hs1, hb1'.out⟩
end Go.Proofs.Ytdgliljmmokjnaa
