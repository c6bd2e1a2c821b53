/- Layer 3: Put, of numbers. -/
import Derived.Test.YtfpomllhkbbipaaGreatPkA
import Derived.Test.YtfpomllhkbbipaaGreatRow
namespace Go.Proofs.YtfpomllhkbbipaaGreat
open Go.RowKit Go.Maps Mem Pk

/-- a value that is a number -/
def valN (n : Int) : List Value := [.int .i64 1, .int .i64 n, .float .f64 0, .slice none 0 0, .bool false]
def numsB (ns : List Int) : List UInt8 := ns.flatMap numB
theorem numsB_snoc (ns : List Int) (n : Int) : numsB (ns ++ [n]) = numsB ns ++ numB n := by unfold numsB; simp
theorem numsB_len (ns : List Int) : (numsB ns).length ≤ 10 * ns.length := by
  unfold numsB
  induction ns with
  | nil => simp
  | cons n r ih =>
    have := (numB_len n).2
    simp only [List.flatMap_cons, List.length_append, List.length_cons]
    omega
def i64ok (n : Int) : Prop := -9223372036854775808 ≤ n ∧ n ≤ 9223372036854775807
def PtRel (ns : List Int) (w : World) (ov iv : Value) (wr : World) : Prop :=
  ∃ k : Nat, k ≤ ns.length ∧ iv = .int .i64 k ∧ Own fB w.heap.size 5 wr ov (numsB (ns.take k)) ∧ Below w.heap.size w wr
/-- what Put leaves -/
def PutPost (out : List UInt8) (w : World) (e : Ending) (w' : World) : Prop :=
  ∃ A c, e = .returned (.tuple #[.slice A out.length c, .int .i64 0]) ∧ Own fB w.heap.size 5 w' (.slice A out.length c) out ∧ Below w.heap.size w w'
set_option maxRecDepth 100000 in
set_option maxHeartbeats 2000000 in
theorem Put_nums {F : Nat → Prop} {w : World} (A : Option Addr) (c : Nat) (ns : List Int) (h : SlK 5 valN 83 F w A ns) (hl : ns.length ≤ 1000000) (hn : ∀ n ∈ ns, i64ok n) :
    Calls Tryz.prog 29 #[.slice A ns.length c] w (PutPost (numsB ns) w) := by
  have H := Lib.hid h; clear h
  have HN := Lib.hid hn; clear hn
  have hst := fun (a : Addr) (r : Nat) (w : World) => run_store Tryz.prog w a (.float .f64 r) .plain rfl
  go_enter Tryz.func29, Tryz.ntmps29
  go_wp2_with fail
  go_loopw [4, 12] (fun ov iv wr => PtRel ns w ov iv wr) (fun _ iv _ => ns.length - (intOf iv).toNat)
  case atStart => exact ⟨0, Nat.zero_le _, rfl, Own.nil, Below.refl _ _⟩
  case round =>
    obtain ⟨k, hk, rfl, hown, hbw⟩ := hrel
    have HOWN := Lib.hid hown; clear hown
    have HBW := Lib.hid hbw; clear hbw
    by_cases hlt : k < ns.length
    · obtain ⟨b, o, rfl, _, _, hc⟩ := (H.out.below HBW.out).at hlt
      obtain ⟨n, hnk⟩ : ∃ n, n = ns[k] := ⟨_, rfl⟩
      have HNS : Hid (numsB (ns.take (k + 1)) = numsB (ns.take k) ++ numB n) := by show _ = _; rw [List.take_succ_eq_append_getElem hlt, numsB_snoc, hnk]
      have hok : i64ok n := by rw [hnk]; exact HN.out _ (List.getElem_mem hlt)
      rw [← hnk] at hc
      have c0 : wr.cell? ⟨b, o + k * 5, none⟩ = some (.int .i64 1) := hc 0 (by decide)
      have c1 : wr.cell? ⟨b, o + k * 5 + 1, none⟩ = some (.int .i64 n) := hc 1 (by decide)
      have c2 : wr.cell? ⟨b, o + k * 5 + 2, none⟩ = some (.float .f64 0) := hc 2 (by decide)
      have c3 : wr.cell? ⟨b, o + k * 5 + 3, none⟩ = some (.slice none 0 0) := hc 3 (by decide)
      have c4 : wr.cell? ⟨b, o + k * 5 + 4, none⟩ = some (.bool false) := hc 4 (by decide)
      clear hc hnk
      obtain ⟨M, hM⟩ : ∃ M, M = numsB (ns.take k) := ⟨_, rfl⟩
      have hMl : M.length ≤ 10 * k := by rw [hM]; have := numsB_len (ns.take k); rw [List.length_take] at this; omega
      rw [← hM] at HOWN HNS
      clear hM
      have HOK := Lib.hid hok; clear hok
      have HML := Lib.hid hMl; clear hMl
      go_upto_region 5 with fail
      obtain ⟨w1, hw1⟩ : ∃ x, x = wr.alloc (.cells #[.int .i64 1, .int .i64 n, .float .f64 0, .slice none 0 0, .bool false] 83) := ⟨_, rfl⟩
      rw [← hw1]
      have hx1 : Blk w1 wr.heap.size 83 #[.int .i64 1, .int .i64 n, .float .f64 0, .slice none 0 0, .bool false] := by rw [hw1]; exact Blk.new_ wr _ _
      have hown1 := HOWN.out.alloc (.cells #[.int .i64 1, .int .i64 n, .float .f64 0, .slice none 0 0, .bool false] 83)
      rw [← hw1] at hown1
      have HB1 : Hid (Below w.heap.size w w1) := by rw [hw1]; exact HBW.out.alloc HBW.out.size _
      clear hw1 c0 c1 c2 c3 c4
      have d0 : w1.cell? ⟨wr.heap.size, 0, none⟩ = some (.int .i64 1) := hx1.cell 0
      have d1 : w1.cell? ⟨wr.heap.size, 1, none⟩ = some (.int .i64 n) := hx1.cell 1
      have hap := appendNum_any hown1 HB1.out.size n HOK.out.1 HOK.out.2 (by have h1 := HML.out; have h2 : M.length ≤ 10 * k := h1; omega)
      have HAP := Lib.hid hap; clear hap hown1 hx1
      go_wp2_with fail
      (with_reducible refine HAP.out.mono ?_); rintro e w2 ⟨v2, rfl, hown2, hb2⟩
      go_wp2_with fail
      go_roundw
      case rel => exact ⟨k + 1, hlt, by go_num, by rw [HNS.out]; exact hown2, HB1.out.trans hb2⟩
      case measure => simp [intOf]; omega
    · have hkn : k = ns.length := by omega
      have HO : Hid (Own fB w.heap.size 5 wr u4 (numsB ns)) := by have h1 := HOWN.out; rw [hkn, List.take_length] at h1; exact h1
      clear HOWN hkn
      obtain ⟨A4, c4, rfl⟩ := HO.out.form
      go_wp2_with fail
      go_ret2
      exact ⟨A4, c4, rfl, HO.out, HBW.out⟩
end Go.Proofs.YtfpomllhkbbipaaGreat
