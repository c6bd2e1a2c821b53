/- Layer 5: the walks of part, loose. -/
import Derived.Test.YtepkjnhijocojaaDskE
namespace Go.Proofs.Ytepkjnhijocojaa
open Go.RowKit Go.Maps Mem Dsk

/-- where a piece of a slice begins -/
def partA (A : Option Addr) (c k : Nat) : Option Addr := if c = k then A else A.map (·.add k)
theorem cut_lh {P : Program} {t e : TypeId} (hu : P.underlying t = some (.slice e)) (hs : ∀ w, (sizeOf e).run P w = .ok 1 w) (A : Option Addr) (len cap l h : Nat) (li hi : Int)
    (hl : li = l) (hh : hi = h) (h1 : l ≤ h) (h2 : h ≤ cap) (w : World) : (Instr.slice t (.slice A len cap) (some (.int .i64 li)) (some (.int .i64 hi)) none).run P w = .ok (.slice (partA A cap l) (h - l) (cap - l)) w := by
  subst hl; subst hh
  have he : P.elem t = e := by simp [Program.elem, hu]
  have hu' : P.underlying t = some (.slice (P.elem t)) := by rw [he]; exact hu
  rw [run_slice_lh w t A len cap hu' .i64 .i64 l h (by omega) (by omega) (by omega), he, hs]
  show Result.ok (sliced A (l : Int).toNat (h : Int).toNat cap 1) w = _
  simp [sliced, partA]
theorem Mem.Sl.part {α : Type} {f : α → Value} {w : World} {A : Option Addr} {xs : List α} (h : Sl f w A xs) {c k m : Nat} (hm : k + m ≤ xs.length) (hc : xs.length ≤ c) :
    Sl f w (partA A c k) ((xs.drop k).take m) := by
  have hl : ((xs.drop k).take m).length = m := by simp; omega
  refine ⟨by rw [hl]; exact Nat.le_trans (by omega) h.1, fun hn => ?_⟩
  rw [hl] at hn
  obtain ⟨b, o, rfl, hcell⟩ := h.2 (by omega)
  refine ⟨b, o + k, ?_, fun j hj => ?_⟩
  · unfold partA
    rw [if_neg (by omega)]
    simp only [Option.map_some, Addr.add]
    by_cases h0 : k = 0
    · subst h0; rfl
    · rw [if_neg h0]
  · rw [Nat.add_assoc, hcell (k + j) (by rw [hl] at hj; omega)]
    simp
def secFrom (n i : Nat) : Nat := min (i * 32) n
def secTo (n i : Nat) : Nat := min (secFrom n i + 32) n
theorem sec_le (n i : Nat) : secFrom n i ≤ secTo n i ∧ secTo n i ≤ n := by unfold secTo secFrom; omega
theorem sector_eq (xs : List UInt8) (i : Nat) : sector xs i = (xs.drop (secFrom xs.length i)).take (secTo xs.length i - secFrom xs.length i) := by
  unfold sector secTo secFrom
  rcases Nat.lt_or_ge xs.length (i * 32) with h | h
  · rw [Nat.min_eq_right (Nat.le_of_lt h), List.drop_eq_nil_of_le (Nat.le_of_lt h), List.drop_eq_nil_of_le (Nat.le_refl _)]; simp
  · rw [Nat.min_eq_left h]
    rcases Nat.lt_or_ge xs.length (i * 32 + 32) with h2 | h2
    · rw [Nat.min_eq_right (Nat.le_of_lt h2), List.take_of_length_le (by simp; omega), List.take_of_length_le (by simp)]
    · rw [Nat.min_eq_left h2]; congr 1; omega
theorem sector_len (xs : List UInt8) (i : Nat) : (sector xs i).length = secTo xs.length i - secFrom xs.length i := by
  rw [sector_eq]; have := sec_le xs.length i; simp; omega
/-- the value that part answers -/
def partV (A : Option Addr) (c : Nat) (xs : List UInt8) (i : Nat) : Value := .slice (partA A c (secFrom xs.length i)) (sector xs i).length (c - secFrom xs.length i)
theorem Mem.Sl.sector {w : World} {A : Option Addr} {xs : List UInt8} (h : Sl fB w A xs) {c : Nat} (hc : xs.length ≤ c) (i : Nat) : Sl fB w (partA A c (secFrom xs.length i)) (sector xs i) := by
  have := sec_le xs.length i
  rw [sector_eq]; exact h.part (by omega) hc
theorem bytesSize (w : World) : (sizeOf 5).run Try.prog w = .ok 1 w := by kernel_rfl
set_option maxHeartbeats 400000 in
theorem part_any (A : Option Addr) (c : Nat) (xs : List UInt8) (i : Nat) (hi : i ≤ 1000000) (hc : xs.length ≤ c) (hc2 : c ≤ maxLen) (w : World) :
    Calls Try.prog 32 #[.slice A xs.length c, .int .i64 i] w fun e w' => e = .returned (partV A c xs i) ∧ w = w' := by
  unfold partV; rw [sector_len]
  unfold maxLen at hc2
  by_cases h1 : xs.length < i * 32
  · have e1 : secFrom xs.length i = xs.length := by unfold secFrom; omega
    have e2 : secTo xs.length i = xs.length := by unfold secTo; omega
    rw [e1, e2]; clear e1 e2
    have h1' : (xs.length : Int) < (i : Int) * 32 := by omega
    have h2' : (xs.length : Int) < (xs.length : Int) + 32 := by omega
    have hsl := cut_lh (P := Try.prog) (t := 26) Try.underlying26 bytesSize A xs.length c xs.length xs.length (xs.length : Int) (xs.length : Int) rfl rfl (Nat.le_refl _) hc
    go_enter Try.func32, Try.ntmps32
    go_wp2_with fail
    go_ret
    exact ⟨by simp, rfl⟩
  · have e1 : secFrom xs.length i = i * 32 := by unfold secFrom; omega
    have h1' : ¬ (xs.length : Int) < (i : Int) * 32 := by omega
    by_cases h2 : xs.length < i * 32 + 32
    · have e2 : secTo xs.length i = xs.length := by unfold secTo; omega
      rw [e1, e2]; clear e1 e2
      have h2' : (xs.length : Int) < (i : Int) * 32 + 32 := by omega
      have hsl := cut_lh (P := Try.prog) (t := 26) Try.underlying26 bytesSize A xs.length c (i * 32) xs.length ((i : Int) * 32) (xs.length : Int) (by omega) rfl (by omega) hc
      go_enter Try.func32, Try.ntmps32
      go_wp2_with fail
      go_ret
      exact ⟨rfl, rfl⟩
    · have e2 : secTo xs.length i = i * 32 + 32 := by unfold secTo; omega
      rw [e1, e2]; clear e1 e2
      have h2' : ¬ (xs.length : Int) < (i : Int) * 32 + 32 := by omega
      have hsl := cut_lh (P := Try.prog) (t := 26) Try.underlying26 bytesSize A xs.length c (i * 32) (i * 32 + 32) ((i : Int) * 32) ((i : Int) * 32 + 32) (by omega) (by omega) (by omega) (by omega)
      go_enter Try.func32, Try.ntmps32
      go_wp2_with fail
      go_ret
      exact ⟨rfl, rfl⟩

def fN (n : Nat) : Value := .int .i64 (n : Int)
theorem fN_one (n : Nat) : (fN n).oneCell' = true := rfl
theorem intT : SliceT Try.prog 71 3 (.int .i64 0) 8 := sliceT_mk Try.underlying71 rfl (by kernel_rfl)
def isLoose (f : File) (i : Nat) : Bool := !(sector f.now i == sector f.safe i)
def loosePre (f : File) (k : Nat) : List Nat := (List.range k).filter (isLoose f)
theorem loosePre_all (f : File) : loosePre f ((f.now.length + 31) / 32) = loose f := rfl
theorem loosePre_len (f : File) (k : Nat) : (loosePre f k).length ≤ k := by
  unfold loosePre; exact Nat.le_trans (List.length_filter_le _ _) (by simp)
theorem loosePre_yes {f : File} {k : Nat} (h : isLoose f k = true) : loosePre f (k + 1) = loosePre f k ++ [k] := by
  unfold loosePre; rw [List.range_succ, List.filter_append]; simp [h]
theorem loosePre_no {f : File} {k : Nat} (h : isLoose f k = false) : loosePre f (k + 1) = loosePre f k := by
  unfold loosePre; rw [List.range_succ, List.filter_append]; simp [h]
def LooseRel (f : File) (w : World) (B : Nat) (ov iv : Value) (wr : World) : Prop :=
  ∃ k : Nat, k ≤ (f.now.length + 31) / 32 ∧ iv = .int .i64 k ∧ Own fN B 3 wr ov (loosePre f k) ∧ Below B w wr
set_option maxHeartbeats 1000000 in
theorem loose_any {F : Nat → Prop} {w : World} {r : Rec} (h : RecOK F w r) :
    Calls Try.prog 31 #[.pointer (some ⟨r.fb, 0, none⟩)] w fun e w' => ∃ A c, e = .returned (.slice A (loose r.file).length c) ∧ Own fN w.heap.size 3 w' (.slice A (loose r.file).length c) (loose r.file) ∧ Below w.heap.size w w' := by
  obtain ⟨hb, hF, hA, hB, hc1, hc2, hc3, hc4, hsm⟩ := h
  have hlen : r.file.now.length ≤ 65536 := hsm.1
  have HL := Lib.hid hlen; clear hlen hsm
  have HB := Lib.hid hb; clear hb
  have hSA := hA.sl
  have hSB := hB.sl
  go_enter Try.func31, Try.ntmps31
  go_wp2_with fail
  go_loopw [3, 4] (fun ov iv wr => LooseRel r.file w w.heap.size ov iv wr) (fun _ iv _ => (r.file.now.length + 31) / 32 - (intOf iv).toNat)
  case atStart => exact ⟨0, Nat.zero_le _, rfl, Own.nil, Below.refl _ _⟩
  case round =>
    obtain ⟨k, hk, rfl, hown, hbw⟩ := hrel
    have hbk := HB.out.below hbw HB.out.lt
    have c0 : wr.cell? ⟨r.fb, 0, none⟩ = some (.slice r.A r.file.now.length r.c) := hbk.cell 0
    have c1 : wr.cell? ⟨r.fb, 1, none⟩ = some (.slice r.B r.file.safe.length r.d) := hbk.cell 1
    have hA' := hSA.below hbw
    have hB' := hSB.below hbw
    have hk3 : k ≤ 2048 := by have := HL.out; omega
    have HOWN := Lib.hid hown; clear hown
    have HBW := Lib.hid hbw; clear hbw hbk
    by_cases hlt : k * 32 < r.file.now.length
    · have hlt' : (k : Int) * 32 < (r.file.now.length : Int) := by omega
      have hE := fun W hx hy => Equal_any (partA r.A r.c (secFrom r.file.now.length k)) (partA r.B r.d (secFrom r.file.safe.length k)) (r.c - secFrom r.file.now.length k) (r.d - secFrom r.file.safe.length k) (sector r.file.now k) (sector r.file.safe k) W hx hy
      have HE := Lib.hid hE; clear hE
      cases hl : isLoose r.file k
      · have hq : decide (sector r.file.now k = sector r.file.safe k) = true := by unfold isLoose at hl; simpa using hl
        have HLP := Lib.hid (loosePre_no hl); clear hl
        go_wp2_with fail
        go_quiet (first | (go_at_call 32; exact quiet_mine (part_any _ _ _ _ (by omega) (by assumption) (by assumption) _)) | (go_at_call 46; exact Calls.quiet_of (HE.out _ ((hA'.sector hc1 k).drewN _) ((hB'.sector hc3 k).drewN _))))
        go_wp2_with fail
        go_roundw
        case rel => exact ⟨k + 1, by omega, by go_num, by rw [HLP.out]; exact HOWN.out.drewN _, below_drewN HBW.out _⟩
        case measure => simp [intOf]; omega
      · have hq : decide (sector r.file.now k = sector r.file.safe k) = false := by unfold isLoose at hl; simpa using hl
        have HLP := Lib.hid (loosePre_yes hl); clear hl
        go_wp2_with fail
        go_quiet (first | (go_at_call 32; exact quiet_mine (part_any _ _ _ _ (by omega) (by assumption) (by assumption) _)) | (go_at_call 46; exact Calls.quiet_of (HE.out _ ((hA'.sector hc1 k).drewN _) ((hB'.sector hc3 k).drewN _))))
        have hpl := loosePre_len r.file k
        go_wp2_with (at_builtin; refine wpList_append1 (f := fN) rfl _ _ _ rfl intT k (fN_one k) rfl (HOWN.out.drewN nq) rfl rfl (by unfold maxLen; omega) (by omega) (below_drewN HBW.out nq).size ?_; intro v2 w2 hown2 hb2)
        go_roundw
        case rel => exact ⟨k + 1, by omega, by go_num, by rw [HLP.out]; exact hown2, (below_drewN HBW.out nq).trans hb2⟩
        case measure => simp [intOf]; omega
    · have hlt' : ¬ (k : Int) * 32 < (r.file.now.length : Int) := by omega
      have hkk : k = (r.file.now.length + 31) / 32 := by omega
      have HKK := Lib.hid hkk; clear hkk
      obtain ⟨A1, c2, rfl⟩ := HOWN.out.form
      go_wp2_with fail
      go_ret
      have ho := HOWN.out
      have e := loosePre_all r.file
      rw [← HKK.out] at e
      rw [e] at ho
      exact ⟨A1, c2, by rw [e]; rfl, ho, HBW.out⟩
end Go.Proofs.Ytepkjnhijocojaa
