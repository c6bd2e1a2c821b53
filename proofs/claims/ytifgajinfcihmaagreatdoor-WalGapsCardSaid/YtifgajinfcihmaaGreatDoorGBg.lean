/- Layer 6: the document's example. -/
import Derived.Lib.SlBytesConst
import Derived.Test.YtifgajinfcihmaaGreatDoorGBe
namespace Go.Proofs.YtifgajinfcihmaaGreatDoor
open Go Go.RowKit Go.Maps Go.Lib Mem Pk Dsk Wl Go.Proofs.YtifgajinfcihmaaGreatDoor.Nm
abbrev WK (G : Nat → Prop) (B p wb : Nat) (xs : List SegK) (w : World) : Prop := WlAt G B p wb (diskK xs) (segsK xs) w
theorem D.toW {B p : Nat} {s : S} {w : World} (h : D B p s w) : DX (fun _ => False) B p s w := h.protect (Below.refl _ _) (fun _ h => h.elim)
set_option maxRecDepth 100000 in
set_option maxHeartbeats 4000000 in
theorem alive6_any {w : World} (hla : LaidB w.heap.size w) : Calls Tryz.prog 11 #[] w fun e w' => e = .returned (.bool true) ∧ Below w.heap.size w w' := by
 have HLA := Lib.hid hla
 clear hla
 go_enter Tryz.func11, Tryz.ntmps11
 go_wp2_with fail
 (with_reducible refine (L_New w w.heap.size (Nat.le_refl _)).mono ?_); rintro e w1 ⟨p, rfl, hd1, -, hb1⟩
 have HD1 : Hid (D w.heap.size p (diskK []) w1) := Lib.hid hd1
 have HB1 := Lib.hid hb1
 clear hd1 hb1
 go_wp2_with fail
 (with_reducible refine (X_wOpen (G := fun _ => False) HD1.out.toW (HLA.out.on HB1.out) xo0).mono ?_); rintro e w2 ⟨wb, rfl, ha2, hb2, -⟩
 have HA2 : Hid (WK (fun _ => False) w.heap.size p wb [] w2) := Lib.hid ha2
 have HB2 : Hid (Below w.heap.size w w2) := Lib.hid (HB1.out.trans hb2)
 clear ha2 hb2 HB1 HD1
 have kc : (convert 28 28 (.slice (some ⟨w2.heap.size, 0, none⟩) 1 1)).run Tryz.prog (w2.alloc (.cells #[.int .u8 120] 5)) = .ok (.slice (some ⟨w2.heap.size, 0, none⟩) 1 1) (w2.alloc (.cells #[.int .u8 120] 5 (1, 2))) :=
  Lib.run_convert_bytes_const (P := Tryz.prog) w2 28 5 #[.int .u8 120] 1 1 Tryz.underlying28 Tryz.underlying5
 obtain ⟨wa, hwa⟩ : ∃ z, z = (w2.alloc (.cells #[.int .u8 120] 5 (1, 2))).alloc (.cells #[.int .i64 1, .int .i64 3, .int .i64 0, .slice (some ⟨w2.heap.size, 0, none⟩) 1 1] 40) := ⟨_, rfl⟩
 have hba : Below w2.heap.size w2 wa := by rw [hwa]; exact ((Below.refl _ _).alloc (Nat.le_refl _) _).alloc (by simp) _
 have hxa : Blk wa (w2.heap.size + 1) 40 #[.int .i64 1, .int .i64 3, .int .i64 0, .slice (some ⟨w2.heap.size, 0, none⟩) 1 1] := by
  rw [hwa]
  have h9 := Blk.new_ (w2.alloc (.cells #[.int .u8 120] 5 (1, 2))) 40 #[.int .i64 1, .int .i64 3, .int .i64 0, .slice (some ⟨w2.heap.size, 0, none⟩) 1 1]
  rw [World.size_alloc] at h9
  exact h9
 have hda : SlB fB 5 (fun q => q = w2.heap.size) wa (some ⟨w2.heap.size, 0, none⟩) [120] := by
  have h9 : SlB fB 5 (fun q => q = w2.heap.size) (w2.alloc (.cells #[.int .u8 120] 5 (1, 2))) (some ⟨w2.heap.size, 0, none⟩) [120] :=
   ⟨by unfold maxLen; decide, fun _ => ⟨w2.heap.size, 0, _, _, rfl, rfl, heap_alloc_new w2 _, fun j hj => by
    obtain rfl : j = 0 := by simp at hj; omega
    rfl⟩⟩
  rw [hwa]
  exact h9.below ((Below.refl _ _).alloc (Nat.le_refl _) _)
 have hsz : wa.heap.size = w2.heap.size + 2 := by rw [hwa, World.size_alloc, World.size_alloc]
 have HAP := Lib.hid (X_wAppend1 (w0 := w2) (w := wa) (e := ex1) (c := 1) (ki := 0) HA2.out hba (HLA.out.on (HB2.out.trans (hba.mono HB2.out.size))) (Nat.le_succ _) hxa ⟨_, hda⟩ (fun q e => .inr (by subst e; omega)) ⟨Nat.le_refl _, by unfold maxLen; decide⟩ ⟨by decide, by decide⟩ (fun e he => by cases he) xa1 rfl)
 have HWA := Lib.hid hwa
 have HBA : Hid (Below w.heap.size w wa) := Lib.hid (HB2.out.trans (hba.mono HB2.out.size))
 clear hwa hba hxa hda hsz
 change Hid (Calls _ _ #[.pointer (some ⟨wb, 0, none⟩), .slice (some ⟨w2.heap.size + 1, 0, none⟩) 1 1] _ _) at HAP
 go_wp2_with fail
 rw [← HWA.out]
 (with_reducible refine HAP.out.mono ?_); rintro e w3 ⟨rfl, ha3, hb3, -⟩
 have HA3 : Hid (WK (fun _ => False) w.heap.size p wb xk1 w3) := Lib.hid ha3
 have HB3 : Hid (Below w.heap.size w w3) := Lib.hid (HBA.out.trans hb3)
 clear ha3 hb3 HB2 HA2 HBA HAP HWA kc
 go_wp2_with fail
 (with_reducible refine (X_wSync HA3.out xa2 (ki := 0) rfl).mono ?_); rintro e w4 ⟨rfl, ha4, hb4, -⟩
 have HA4 : Hid (WK (fun _ => False) w.heap.size p wb xk2 w4) := Lib.hid ha4
 have HB4 : Hid (Below w.heap.size w w4) := Lib.hid (HB3.out.trans hb4)
 clear ha4 hb4 HB3 HA3
 obtain ⟨wc, hwc⟩ : ∃ z, z = w4.alloc (.cells #[.int .i64 2, .int .i64 0, .int .i64 0, .slice none 0 0] 40) := ⟨_, rfl⟩
 have hbc : Below w4.heap.size w4 wc := by rw [hwc]; exact (Below.refl _ _).alloc (Nat.le_refl _) _
 have hxc : Blk wc w4.heap.size 40 #[.int .i64 2, .int .i64 0, .int .i64 0, .slice none 0 0] := by rw [hwc]; exact Blk.new_ w4 _ _
 have HAP := Lib.hid (X_wAppend1 (F := fun _ => False) (w0 := w4) (w := wc) (e := ex2) (A := none) (c := 0) (ki := 0) HA4.out hbc (HLA.out.on (HB4.out.trans (hbc.mono HB4.out.size))) (Nat.le_refl _) hxc ⟨5, SlB.nil⟩ (fun q e => e.elim) ⟨Nat.le_refl _, Nat.zero_le _⟩ ⟨by decide, by decide⟩ xr2 xa3 rfl)
 have HWC := Lib.hid hwc
 have HBC : Hid (Below w.heap.size w wc) := Lib.hid (HB4.out.trans (hbc.mono HB4.out.size))
 clear hwc hbc hxc
 change Hid (Calls _ _ #[.pointer (some ⟨wb, 0, none⟩), .slice (some ⟨w4.heap.size, 0, none⟩) 1 1] _ _) at HAP
 go_wp2_with fail
 rw [← HWC.out]
 (with_reducible refine HAP.out.mono ?_); rintro e w5 ⟨rfl, ha5, hb5, -⟩
 have HD5 := Lib.hid (WlE.dd ha5)
 have HB5 : Hid (Below w.heap.size w w5) := Lib.hid (HBC.out.trans hb5)
 clear ha5 hb5 HB4 HA4 HBC HAP HWC
 have HCR := Lib.hid (L_Crash HD5.out (c := 0) (SlB.nil (f := fBool) (e := 4) (F := fun _ => False) (A := none)) (.inl (by decide)) rfl)
 change Hid (Calls _ _ #[.pointer (some ⟨p, 0, none⟩), .slice none 0 0] _ _) at HCR
 go_wp2_with fail
 (with_reducible refine HCR.out.mono ?_); rintro e w6 ⟨rfl, hd6, hb6⟩
 have HD6 := Lib.hid hd6
 have HB6 : Hid (Below w.heap.size w w6) := Lib.hid (HB5.out.trans hb6)
 clear hd6 hb6 HB5 HD5 HCR
 go_wp2_with fail
 (with_reducible refine (X_wOpen (G := fun _ => False) HD6.out.toW (HLA.out.on HB6.out) xa4).mono ?_); rintro e w7 ⟨wb7, rfl, ha7, hb7, -⟩
 have HA7 : Hid (WK (fun _ => False) w.heap.size p wb7 xk2 w7) := Lib.hid ha7
 have HB7 : Hid (Below w.heap.size w w7) := Lib.hid (HB6.out.trans hb7)
 clear ha7 hb7 HB6 HD6
 have HLA7 := Lib.hid (wLast_any HA7.out)
 rw [show lastE (allE (segsK xk2)) = 1 from rfl] at HLA7
 go_wp2_with fail
 (with_reducible refine HLA7.out.mono ?_); rintro e w8 ⟨rfl, m8, hw8⟩
 have hb8 : Below w7.heap.size w7 w8 := by rw [hw8]; exact below_drewN (Below.refl _ _) m8
 have HA8 : Hid (WK (fun _ => False) w.heap.size p wb7 xk2 w8) := Lib.hid (HA7.out.below hb8)
 have HB8 : Hid (Below w.heap.size w w8) := Lib.hid (HB7.out.trans (hb8.mono HB7.out.size))
 clear hw8 hb8 HB7 HA7 HLA7
 have HEN := Lib.hid (wEntries_any HA8.out (by decide) xr2)
 go_wp2_with fail
 (with_reducible refine HEN.out.mono ?_); rintro e w9 ⟨A9, c9, xs9, rfl, -, -, -, hb9⟩
 have HA9 : Hid (WK (fun _ => False) w.heap.size p wb7 xk2 w9) := Lib.hid (HA8.out.below hb9)
 have HB9 : Hid (Below w.heap.size w w9) := Lib.hid (HB8.out.trans (hb9.mono HB8.out.size))
 clear hb9 HB8 HA8 HEN
 have hl9 : (allE (segsK xk2)).length = 1 := rfl
 have HEN := Lib.hid (wEntries_any HA9.out (by decide) xr2)
 go_wp2_with fail
 (with_reducible refine HEN.out.mono ?_); rintro e w10 ⟨A10, c10, xs10, rfl, hr10, he10, -, hb10⟩
 have HA10 : Hid (WK (fun _ => False) w.heap.size p wb7 xk2 w10) := Lib.hid (HA9.out.below hb10)
 have HB10 : Hid (Below w.heap.size w w10) := Lib.hid (HB9.out.trans (hb10.mono HB9.out.size))
 have hx10 : xs10.length = 1 := by have h9 := congrArg List.length he10; rw [List.length_map] at h9; rw [h9]; rfl
 obtain ⟨b, o, hA, -, -, -, hc⟩ := hr10.at (j := 0) (by omega)
 have hx0 : xs10[0].e = ex1 := by
  have h9 : (xs10.map EnM.e)[0]'(by rw [List.length_map]; omega) = ex1 := by simp only [he10]; rfl
  rw [List.getElem_map] at h9; exact h9
 have c1 : w10.cell? ⟨b, o + 1, none⟩ = some (.int .i64 3) := by
  have h9 := hc 1 (by decide)
  rw [Nat.zero_mul, Nat.add_zero] at h9
  rw [h9]
  show some (Value.int .i64 xs10[0].e.tm) = _
  rw [hx0]; rfl
 subst hA
 clear hb10 hr10 he10 hx10 hc hx0 HB9 HA9 HEN
 have HCU := Lib.hid (X_wCut HA10.out ⟨1, xch⟩ (by decide) 1 xa5 (ki := 0) rfl)
 go_wp2_with fail
 (with_reducible refine HCU.out.mono ?_); rintro e w11 ⟨rfl, ha11, hb11, -⟩
 have HA11 : Hid (WK (fun _ => False) w.heap.size p wb7 [] w11) := Lib.hid ha11
 have HB11 : Hid (Below w.heap.size w w11) := Lib.hid (HB10.out.trans hb11)
 clear ha11 hb11 HB10 HA10 HCU c1
 have HFI := Lib.hid (wFirst_any HA11.out)
 rw [show firstE (allE (segsK [])) = 0 from rfl] at HFI
 go_wp2_with fail
 (with_reducible refine HFI.out.mono ?_); rintro e w12 ⟨rfl, m12, hw12⟩
 have hb12 : Below w11.heap.size w11 w12 := by rw [hw12]; exact below_drewN (Below.refl _ _) m12
 have HA12 : Hid (WK (fun _ => False) w.heap.size p wb7 [] w12) := Lib.hid (HA11.out.below hb12)
 have HB12 : Hid (Below w.heap.size w w12) := Lib.hid (HB11.out.trans (hb12.mono HB11.out.size))
 clear hw12 hb12 HB11 HA11 HFI
 obtain ⟨wd, hwd⟩ : ∃ z, z = w12.alloc (.cells #[.int .i64 7, .int .i64 0, .int .i64 0, .slice none 0 0] 40) := ⟨_, rfl⟩
 have hbd : Below w12.heap.size w12 wd := by rw [hwd]; exact (Below.refl _ _).alloc (Nat.le_refl _) _
 have hxd : Blk wd w12.heap.size 40 #[.int .i64 7, .int .i64 0, .int .i64 0, .slice none 0 0] := by rw [hwd]; exact Blk.new_ w12 _ _
 have HAP := Lib.hid (X_wAppend1 (F := fun _ => False) (w0 := w12) (w := wd) (e := ex7) (A := none) (c := 0) (ki := 0) HA12.out hbd (HLA.out.on (HB12.out.trans (hbd.mono HB12.out.size))) (Nat.le_refl _) hxd ⟨5, SlB.nil⟩ (fun q e => e.elim) ⟨Nat.le_refl _, Nat.zero_le _⟩ ⟨by decide, by decide⟩ (fun e he => by cases he) xa6 rfl)
 have HWD := Lib.hid hwd
 have HBD : Hid (Below w.heap.size w wd) := Lib.hid (HB12.out.trans (hbd.mono HB12.out.size))
 clear hwd hbd hxd
 change Hid (Calls _ _ #[.pointer (some ⟨wb7, 0, none⟩), .slice (some ⟨w12.heap.size, 0, none⟩) 1 1] _ _) at HAP
 go_wp2_with fail
 rw [← HWD.out]
 (with_reducible refine HAP.out.mono ?_); rintro e w13 ⟨rfl, ha13, hb13, -⟩
 have HA13 : Hid (WK (fun _ => False) w.heap.size p wb7 xk7 w13) := Lib.hid ha13
 have HB13 : Hid (Below w.heap.size w w13) := Lib.hid (HBD.out.trans hb13)
 clear ha13 hb13 HB12 HA12 HBD HAP HWD
 have HFI := Lib.hid (wFirst_any HA13.out)
 rw [show firstE (allE (segsK xk7)) = 7 from rfl] at HFI
 go_wp2_with fail
 (with_reducible refine HFI.out.mono ?_); rintro e w14 ⟨rfl, m14, hw14⟩
 have HB14 : Hid (Below w.heap.size w w14) := Lib.hid (by rw [hw14]; exact below_drewN HB13.out m14)
 clear hw14 HFI HB13
 go_wp2_with fail
 go_ret
 exact ⟨rfl, HB14.out⟩
end Go.Proofs.YtifgajinfcihmaaGreatDoor
namespace Go.Proofs.YtifgajinfcihmaaGreatDoor
open Go Go.RowKit Go.Maps Go.Lib Mem Pk Dsk Wl Go.Proofs.YtifgajinfcihmaaGreatDoor.Nm
namespace Wl
def eI (i : Int) : En := ⟨i, 0, 0, []⟩
def seqE : Int → Nat → List En
 | _, 0 => []
 | f, n + 1 => eI f :: seqE (f + 1) n
theorem seqE_len : ∀ (n : Nat) (f : Int), (seqE f n).length = n
 | 0, _ => rfl
 | n + 1, f => by unfold seqE; rw [List.length_cons, seqE_len]
theorem seqE_snoc : ∀ (n : Nat) (f : Int), seqE f (n + 1) = seqE f n ++ [eI (f + n)]
 | 0, f => by simp [seqE]
 | n + 1, f => by
   show eI f :: seqE (f + 1) (n + 1) = eI f :: seqE (f + 1) n ++ _
   rw [seqE_snoc n (f + 1), List.cons_append]
   congr 3; unfold eI; congr 1; omega
theorem follow_seq : ∀ (n : Nat) (f : Int), follow f (seqE f n)
 | 0, _ => trivial
 | n + 1, f => ⟨rfl, follow_seq n (f + 1)⟩
def bmpE (f : Int) (n k : Nat) (b : Int) : List En := (seqE f n).set k (eI (f + k + b))
theorem bmpE_len (f : Int) (n k : Nat) (b : Int) : (bmpE f n k b).length = n := by unfold bmpE; rw [List.length_set, seqE_len]
theorem bmpE_out {f : Int} {n k : Nat} {b : Int} (h : n ≤ k) : bmpE f n k b = seqE f n := by unfold bmpE; rw [List.set_eq_of_length_le (by rw [seqE_len]; exact h)]
theorem gapS : ∀ (n k : Nat) (f b : Int), 2 ≤ f → gapB (f - 1) (bmpE f n k b) = decide (k < n ∧ b ≠ 0)
 | 0, k, f, b, _ => by simp [bmpE, seqE, gapB]
 | n + 1, 0, f, b, hf => by
   show gapB (f - 1) (eI (f + ((0 : Nat) : Int) + b) :: seqE (f + 1) n) = _
   unfold gapB
   by_cases hb : b = 0
   ·subst hb
    rw [if_neg (by simp [eI])]
    have hg : gapB (eI (f + ((0 : Nat) : Int) + 0)).ix (seqE (f + 1) n) = false := gap_follow (by
     have := follow_seq n (f + 1)
     simpa [eI] using this)
    rw [hg]; simp
   ·rw [if_pos (by simp [eI]; omega)]
    exact (decide_eq_true ⟨by omega, hb⟩).symm
 | n + 1, k + 1, f, b, hf => by
   show gapB (f - 1) (eI f :: (seqE (f + 1) n).set k (eI (f + ((k + 1 : Nat) : Int) + b))) = _
   unfold gapB
   rw [if_neg (by simp [eI])]
   have ih := gapS n k (f + 1) b (by omega)
   have e1 : eI (f + ((k + 1 : Nat) : Int) + b) = eI (f + 1 + (k : Int) + b) := by unfold eI; congr 1; omega
   rw [e1]
   show gapB f (bmpE (f + 1) n k b) = _
   rw [show f + 1 - 1 = f by omega] at ih
   rw [ih, decide_eq_decide]; omega
def badE (n k : Nat) (b : Int) : Bool := decide ((0 < k ∧ k < n ∧ b ≠ 0) ∨ (k = 0 ∧ 1 < n ∧ b ≠ 0))
theorem gap0 {n k : Nat} {f b : Int} (hf : 1 ≤ f) (hb : 0 ≤ b) (hn : 1 ≤ n) : gapB 0 (bmpE f n k b) = badE n k b := by
 obtain ⟨n, rfl⟩ : ∃ m, n = m + 1 := ⟨n - 1, by omega⟩
 unfold badE
 cases k with
 | zero =>
   show gapB 0 (eI (f + ((0 : Nat) : Int) + b) :: seqE (f + 1) n) = _
   unfold gapB
   rw [if_neg (by rintro ⟨h, _⟩; exact h rfl)]
   cases n with
   | zero => simp [seqE, gapB]
   | succ n =>
     show gapB (eI (f + ((0 : Nat) : Int) + b)).ix (eI (f + 1) :: seqE (f + 1 + 1) n) = _
     unfold gapB
     by_cases h0 : b = 0
     ·subst h0
      rw [if_neg (by simp [eI])]
      have hg : gapB (eI (f + 1)).ix (seqE (f + 1 + 1) n) = false := gap_follow (follow_seq n _)
      rw [hg]; simp
     ·rw [if_pos (by simp [eI]; omega)]
      exact (decide_eq_true (.inr ⟨rfl, by omega, h0⟩)).symm
 | succ k =>
   show gapB 0 (eI f :: (seqE (f + 1) n).set k (eI (f + ((k + 1 : Nat) : Int) + b))) = _
   unfold gapB
   rw [if_neg (by rintro ⟨h, _⟩; exact h rfl)]
   have ih := gapS n k (f + 1) b (by omega)
   have e1 : eI (f + ((k + 1 : Nat) : Int) + b) = eI (f + 1 + (k : Int) + b) := by unfold eI; congr 1; omega
   rw [e1]
   show gapB f (bmpE (f + 1) n k b) = _
   rw [show f + 1 - 1 = f by omega] at ih
   rw [ih, decide_eq_decide]; omega
theorem seq_ix : ∀ (n : Nat) (f : Int), ∀ e ∈ seqE f n, ∃ i, e = eI i ∧ f ≤ i ∧ i ≤ f + n
 | 0, _, e, he => by cases he
 | n + 1, f, e, he => by
   rcases List.mem_cons.1 he with rfl | he
   ·exact ⟨f, rfl, by omega, by omega⟩
   ·obtain ⟨i, a, b, c⟩ := seq_ix n (f + 1) e he
    exact ⟨i, a, by omega, by omega⟩
theorem bmp_ix {f : Int} {n k : Nat} {b : Int} (h0 : 0 ≤ b) : ∀ e ∈ bmpE f n k b, ∃ i, e = eI i ∧ f ≤ i ∧ i ≤ f + n + b := by
 intro e he
 rcases Nat.lt_or_ge k n with hk | hk
 ·unfold bmpE at he
  rcases List.mem_or_eq_of_mem_set he with he | he
  ·obtain ⟨i, a, c, d⟩ := seq_ix n f e he
   exact ⟨i, a, c, by omega⟩
  ·exact ⟨_, he, by omega, by omega⟩
 ·rw [bmpE_out hk] at he
  obtain ⟨i, a, c, d⟩ := seq_ix n f e he
  exact ⟨i, a, c, by omega⟩
theorem eI_right {i : Int} (h1 : 1 ≤ i) (h2 : i ≤ 1099511627776) : rightE (eI i) = true := rightE_iff.2 ⟨h1, h2, by simp [eI], by simp [eI], by simp [eI], by simp [eI], by simp [eI]⟩
theorem gaps_bad {f b : Int} {n k : Nat} (hf : 1 ≤ f) (hf2 : f ≤ 2000) (hb : 0 ≤ b) (hb2 : b ≤ 3) (hn : 1 ≤ n) (hn2 : n ≤ 8) (hbad : badE n k b = true) :
 appendW (diskK []) [] (bmpE f n k b) = (diskK [], [], 60) := by
 unfold appendW
 rw [any_right (fun e he => by
  obtain ⟨i, rfl, h1, h2⟩ := bmp_ix hb e he
  exact eI_right (by omega) (by omega)), if_neg (by decide)]
 show (if gapB 0 (bmpE f n k b) = true then _ else _) = _
 rw [gap0 hf hb hn, hbad]; rfl
theorem gaps_good {f b : Int} {n k : Nat} (hf : 1 ≤ f) (hf2 : f ≤ 2000) (hb : 0 ≤ b) (hb2 : b ≤ 3) (hn : 1 ≤ n) (hn2 : n ≤ 8) (hbad : badE n k b = false) :
 ∃ i ys, appendW (diskK []) [] (bmpE f n k b) = (diskK ys, segsK ys, 0) ∧ RunK 0 i ys ∧ allE (segsK ys) = bmpE f n k b ∧ 1 ≤ i ∧ i ≤ 2011 ∧ lastE (allE (segsK ys)) = i + n - 1 := by
 have hr : allR (bmpE f n k b) := fun e he => by
  obtain ⟨i, rfl, h1, h2⟩ := bmp_ix hb e he
  exact eI_right (by omega) (by omega)
 have hg : gapB 0 (bmpE f n k b) = false := by rw [gap0 hf hb hn, hbad]
 have hlen := bmpE_len f n k b
 obtain ⟨es, hes⟩ : ∃ es, es = bmpE f n k b := ⟨_, rfl⟩
 have hix := bmp_ix (f := f) (n := n) (k := k) hb
 rw [← hes] at hr hg hlen hix ⊢
 cases es with
 | nil => simp at hlen; omega
 | cons e r =>
   obtain ⟨j, hj, h1, h2⟩ := hix e (by simp)
   have hej : e.ix = j := by rw [hj]; rfl
   have hf9 : follow j (e :: r) := by
    refine ⟨hej, ?_⟩
    unfold gapB at hg
    rw [if_neg (by rintro ⟨h9, _⟩; exact h9 rfl)] at hg
    rw [← hej]
    exact follow_gap (by omega) (fun x hx => hr x (List.mem_cons_of_mem _ hx)) hg
   obtain ⟨ys, k1, k2, k3, k4⟩ := appendW_ok (t := 0) (i := j) (xs := []) (es := e :: r) (RunK.nil _ _) hr (by simpa [segsK, allE] using hf9) (fun x hx => by
    have := rightE_iff.1 (hr x hx); omega) (by simp at hlen ⊢; omega)
   have hal : allE (segsK ys) = e :: r := k3
   refine ⟨j, ys, k1, k2, hal, by omega, by omega, ?_⟩
   rw [k2.last (by rw [hal]; simp), hal, hlen]
theorem gaps_next {i : Int} {n : Nat} {ys : List SegK} (h1 : 1 ≤ i) (h2 : i ≤ 2011) (hn : 1 ≤ n) (hn2 : n ≤ 8) (hl : lastE (allE (segsK ys)) = i + n - 1) :
 appendW (diskK ys) (segsK ys) [eI (i + n - 1 + 2)] = (diskK ys, segsK ys, 60) ∧ appendW (diskK ys) (segsK ys) [⟨i + n - 1 + 1, -1, 0, []⟩] = (diskK ys, segsK ys, 1) := by
 constructor
 ·unfold appendW
  rw [any_right (fun e he => by rw [List.mem_singleton.1 he]; exact eI_right (by omega) (by omega)), if_neg (by decide), hl]
  have : gapB (i + n - 1) [eI (i + n - 1 + 2)] = true := by
   unfold gapB; rw [if_pos (by simp [eI]; omega)]
  rw [this]; rfl
 ·unfold appendW
  have : [(⟨i + n - 1 + 1, -1, 0, []⟩ : En)].any (fun e => !rightE e) = true := by
   simp [rightE]
  rw [this]; rfl
end Wl
end Go.Proofs.YtifgajinfcihmaaGreatDoor
namespace Go.Proofs.YtifgajinfcihmaaGreatDoor
open Go Go.RowKit Go.Maps Go.Lib Mem Pk Dsk Wl Go.Proofs.YtifgajinfcihmaaGreatDoor.Nm
def Bare (xs : List EnM) : Prop := ∀ x ∈ xs, x.A = none ∧ x.c = 0 ∧ x.e.ds = []
theorem Bare.d {xs : List EnM} (h : Bare xs) (F : Nat → Prop) (w : World) : ∀ x ∈ xs, EmD F w x := fun x hx => by
 obtain ⟨h1, h2, h3⟩ := h x hx
 exact ⟨⟨5, by rw [h1, h3]; exact SlB.nil⟩, by rw [h3, h2]; exact Nat.le_refl _, by rw [h2]; exact Nat.zero_le _⟩
def GaRel (f : Int) (n base : Nat) (w3 : World) (ov iv : Value) (wr : World) : Prop :=
 ∃ (k : Nat) (xs : List EnM) (A : Option Addr) (c : Nat), k ≤ n ∧ iv = .int .i64 k ∧ ov = .slice A xs.length c ∧ Hid (xs.length = k) ∧ Rw 4 emC 40 (fun g => base ≤ g) wr A c xs ∧ Hid (xs.map EnM.e = seqE f k) ∧ Hid (Bare xs) ∧ Hid (Below base w3 wr)
def GaMid (f : Int) (n at_ : Nat) (b : Int) (l base : Nat) (A : Option Addr) (c : Nat) (w3 wx : World) : Prop :=
 ∃ ys : List EnM, ys.length = l ∧ Rw 4 emC 40 (fun g => base ≤ g) wx A c ys ∧ ys.map EnM.e = bmpE f n at_ b ∧ Bare ys ∧ Below base w3 wx
set_option maxRecDepth 100000 in
set_option maxHeartbeats 8000000 in
theorem walGaps_walk {w : World} (hla : LaidS w) (y1 : Int) (_ : (Lit.int .i64 y1).wf = true) (y2 : Int) (_ : (Lit.int .i64 y2).wf = true) (y3 : Int) (_ : (Lit.int .i64 y3).wf = true) (y4 : Int) (_ : (Lit.int .i64 y4).wf = true) :
 Calls Tryz.prog 6 #[.int .i64 y1, .int .i64 y2, .int .i64 y3, .int .i64 y4] w fun e w' => e = .returned (.bool true) ∧ Below w.heap.size w w' := by
 have HLA := Lib.hid (LaidB.of hla)
 clear hla
 obtain ⟨m1, hm1, ha1⟩ := and_small y1 1023 (by decide)
 obtain ⟨m2, hm2, ha2⟩ := and_small y2 7 (by decide)
 obtain ⟨m3, hm3, ha3⟩ := and_small y3 7 (by decide)
 obtain ⟨m4, hm4, ha4⟩ := and_small y4 3 (by decide)
 have ha1 : bits .and .i64 y1 1023 = (m1 : Int) := ha1
 have ha2 : bits .and .i64 y2 7 = (m2 : Int) := ha2
 have ha3 : bits .and .i64 y3 7 = (m3 : Int) := ha3
 have ha4 : bits .and .i64 y4 3 = (m4 : Int) := ha4
 go_enter Tryz.func6, Tryz.ntmps6
 go_wp2_with fail
 (with_reducible refine (L_New w w.heap.size (Nat.le_refl _)).mono ?_); rintro e w1 ⟨p, rfl, hd1, -, hb1⟩
 have HD1 : Hid (D w.heap.size p (diskK []) w1) := Lib.hid hd1
 have HB1 := Lib.hid hb1
 have HAL := Lib.hid (alive6_any (w := w1) (LaidB.of (HLA.out.on hb1).here))
 clear hd1 hb1
 go_wp2_with fail
 (with_reducible refine HAL.out.mono ?_); rintro e w2 ⟨rfl, hb2⟩
 have HD2 := Lib.hid (HD1.out.below hb2)
 have HB2 : Hid (Below w.heap.size w w2) := Lib.hid (HB1.out.trans (hb2.mono HB1.out.size))
 clear hb2 HB1 HD1 HAL
 go_wp2_with fail
 (with_reducible refine (X_wOpen (G := fun _ => False) HD2.out.toW (HLA.out.on HB2.out) xo0).mono ?_); rintro e w3 ⟨wb, rfl, hat3, hb3, -⟩
 have HA3 : Hid (WK (fun _ => False) w.heap.size p wb [] w3) := Lib.hid hat3
 have HB3 : Hid (Below w.heap.size w w3) := Lib.hid (HB2.out.trans hb3)
 clear hat3 hb3 HB2 HD2
 go_wp2_with fail
 go_loopw [12, 13] (fun ov iv wr => GaRel (1 + (m1 : Int)) (1 + m2) w3.heap.size w3 ov iv wr) (fun _ iv _ => (1 + m2) - (RowKit.intOf iv).toNat)
 case atStart =>
  exact ⟨0, [], some ⟨w3.heap.size, 0, none⟩, 0, Nat.zero_le _, rfl, rfl, Lib.hid rfl, ⟨Nat.le_refl _, Nat.zero_le _, .inr ⟨w3.heap.size, 0, #[], rfl, Nat.le_refl _, Blk.new_ _ _ _, by simp, fun j hj => by simp at hj⟩⟩, Lib.hid rfl, Lib.hid (fun x hx => by cases hx), Lib.hid ((Below.refl _ _).alloc (Nat.le_refl _) _)⟩
 case round =>
  obtain ⟨k, xs, A, c, hk, rfl, rfl, HXL, hrw, HXE, HBR, HBW⟩ := hrel
  have HRW := Lib.hid hrw
  clear hrw
  by_cases hlt : k < 1 + m2
  ·have hlt2 : (k : Int) < 1 + (m2 : Int) := by omega
   have HLT := Lib.hid hlt
   clear hlt
   go_wp2_with (at_builtin; refine wpList_appendR1 (f := emC) rfl (.tmp 48) (.tmp 53) 37 rfl entT emC_len ⟨eI (1 + (m1 : Int) + (k : Int)), none, 0⟩ (emC_one _) rfl rfl HRW.out rfl rfl (by have := HXL.out; unfold maxLen; omega) (by have := HXL.out; omega) ?_; intro A12 c12 w12 hr12 hf12; have HR12 := Lib.hid hr12; have HF12 := Lib.hid hf12; clear hr12 hf12)
   go_roundw
   case rel =>
    refine ⟨k + 1, xs ++ [⟨eI (1 + (m1 : Int) + (k : Int)), none, 0⟩], A12, c12, HLT.out, by go_num, by rw [List.length_append]; rfl, Lib.hid (by rw [List.length_append, HXL.out]; rfl), HR12.out.mono (fun g _ hg => by have := HBW.out.size; omega), Lib.hid ?_, Lib.hid (fun x hx => ?_), Lib.hid (HBW.out.trans (HF12.out.to_below (fun g _ h1 h2 => by omega) HBW.out.size))⟩
    ·rw [List.map_append, HXE.out, seqE_snoc]; rfl
    ·rcases List.mem_append.1 hx with hx | hx
     ·exact HBR.out x hx
     ·rw [List.mem_singleton.1 hx]; exact ⟨rfl, rfl, rfl⟩
   case measure => simp [RowKit.intOf]; have := HLT.out; omega
  ·have hkn : k = 1 + m2 := by omega
   have hlt2 : ¬ (k : Int) < 1 + (m2 : Int) := by omega
   have HK := Lib.hid hkn
   obtain ⟨l, hl⟩ : ∃ l, l = xs.length := ⟨_, rfl⟩
   have hl9 : l = 1 + m2 := by rw [hl, HXL.out, hkn]
   have HL := Lib.hid hl
   have HL9 := Lib.hid hl9
   rw [← hl]
   clear hlt hkn hl hl9
   go_upto_if 57 with fail
   go_cut [] (fun wx => GaMid (1 + (m1 : Int)) (1 + m2) m3 (m4 : Int) l w3.heap.size A c w3 wx)
   case first =>
    by_cases h57 : m3 < 1 + m2
    ·have t57 : (m3 : Int) < 1 + (m2 : Int) := by omega
     have hml : (m3 : Int) < (l : Int) := by have := HL9.out; omega
     obtain ⟨b, o, hA, hF, -, hfz, hc⟩ := HRW.out.at (j := m3) (by have := HL.out; have := HL9.out; omega)
     subst hA
     have hx3 : (xs[m3]'(by have := HL.out; have := HL9.out; omega)).e = eI (1 + (m1 : Int) + (m3 : Int)) := by
      have h9 : (xs.map EnM.e)[m3]'(by rw [List.length_map]; have := HL.out; have := HL9.out; omega) = eI (1 + (m1 : Int) + (m3 : Int)) := by
       simp only [HXE.out]
       have h8 : ∀ (n : Nat) (f : Int) (k : Nat) (h : k < (seqE f n).length), (seqE f n)[k] = eI (f + k) := by
        intro n
        induction n with
        | zero => intro f k h; simp [seqE] at h
        | succ n ih =>
          intro f k h
          cases k with
          | zero => simp [seqE]
          | succ k =>
            have := ih (f + 1) k (by simpa [seqE] using h)
            simp only [seqE, List.getElem_cons_succ]
            rw [this]; unfold eI; congr 1; omega
       exact h8 _ _ _ _
      rw [List.getElem_map] at h9; exact h9
     have c0 : wr.cell? ⟨b, o + m3 * 4, none⟩ = some (.int .i64 (1 + (m1 : Int) + (m3 : Int))) := by
      have h9 := hc 0 (by decide)
      rw [Nat.add_zero] at h9
      rw [h9]
      show some (Value.int .i64 _) = _
      rw [hx3]; rfl
     have HX3 := Lib.hid hx3
     have HFF := Lib.hid hF
     clear hc hx3 hF
     go_wp2_with fail
     go_meet
     have hx9 := HRW.out.set_ (j := m3) (i := 0) emC_len (by have := HL.out; have := HL9.out; omega) (by decide) (.int .i64 (1 + (m1 : Int) + (m3 : Int) + (m4 : Int))) (y := ⟨eI (1 + (m1 : Int) + (m3 : Int) + (m4 : Int)), none, 0⟩) (by
      obtain ⟨z, hz⟩ : ∃ z, z = xs[m3]'(by have := HL.out; have := HL9.out; omega) := ⟨_, rfl⟩
      have hb9 := HBR.out z (by rw [hz]; exact List.getElem_mem _)
      have he9 := HX3.out
      rw [← hz] at he9 ⊢
      unfold emC
      rw [he9, hb9.1, hb9.2.1]; rfl)
     refine ⟨_, ?_, hx9, ?_, fun x hx => ?_, HBW.out.setCell (by simp; exact HFF.out) _⟩
     ·rw [List.length_set]; exact HL.out.symm
     ·rw [List.map_set, HXE.out, HK.out]; rfl
     ·rcases List.mem_or_eq_of_mem_set hx with hx | hx
      ·exact HBR.out x hx
      ·rw [hx]; exact ⟨rfl, rfl, rfl⟩
    ·have t57 : ¬ (m3 : Int) < 1 + (m2 : Int) := by omega
     go_wp2_with fail
     go_meet
     exact ⟨xs, HL.out.symm, HRW.out, by rw [HXE.out, HK.out, bmpE_out (by omega)], HBR.out, HBW.out⟩
   case rest =>
    obtain ⟨wx, rfl⟩ : ∃ z : World, z = wc := ⟨_, rfl⟩
    obtain ⟨ys, hyl, hyr, hye, hyb, hyw⟩ := hcut
    have HYL := Lib.hid hyl
    have HYR := Lib.hid hyr
    have HYE := Lib.hid hye
    have HYB := Lib.hid hyb
    have HYW := Lib.hid hyw
    clear hyl hyr hye hyb hyw HRW HXE HBR HBW HXL HK
    obtain ⟨bad, hbad⟩ : ∃ z, z = badE (1 + m2) m3 (m4 : Int) := ⟨_, rfl⟩
    have HBD := Lib.hid hbad
    clear hbad
    go_upto_region 17 with fail
    go_cut [14] (fun v wy => v = .bool bad ∧ wy = wx)
    case first =>
     by_cases q1 : m3 = 0
     ·subst q1
      by_cases q2 : m2 = 0
      ·subst q2
       have hb9 : bad = false := by rw [HBD.out]; unfold badE; simp
       subst hb9
       go_wp2_with fail
       go_meet
       exact ⟨rfl, rfl⟩
      ·have t2 : (1 : Int) < 1 + (m2 : Int) := by omega
       by_cases q3 : m4 = 0
       ·subst q3
        have hb9 : bad = false := by rw [HBD.out]; unfold badE; simp
        subst hb9
        go_wp2_with fail
        go_meet
        exact ⟨rfl, rfl⟩
       ·have t3 : ((m4 : Int) != 0) = true := by rw [bne_iff_ne]; omega
        have hb9 : bad = true := by rw [HBD.out]; unfold badE; exact decide_eq_true (.inr ⟨rfl, by omega, by omega⟩)
        subst hb9
        go_wp2_with fail
        go_meet
        exact ⟨rfl, rfl⟩
     ·have t0 : (0 : Int) < (m3 : Int) := by omega
      have t1 : ((m3 : Int) == 0) = false := by rw [beq_eq_false_iff_ne]; omega
      by_cases q2 : m3 < 1 + m2
      ·have t2 : (m3 : Int) < 1 + (m2 : Int) := by omega
       by_cases q3 : m4 = 0
       ·subst q3
        have hb9 : bad = false := by rw [HBD.out]; unfold badE; simp
        subst hb9
        go_wp2_with fail
        go_meet
        exact ⟨rfl, rfl⟩
       ·have t3 : ((m4 : Int) != 0) = true := by rw [bne_iff_ne]; omega
        have hb9 : bad = true := by rw [HBD.out]; unfold badE; exact decide_eq_true (.inl ⟨by omega, q2, by omega⟩)
        subst hb9
        go_wp2_with fail
        go_meet
        exact ⟨rfl, rfl⟩
      ·have t2 : ¬ (m3 : Int) < 1 + (m2 : Int) := by omega
       have hb9 : bad = false := by rw [HBD.out]; unfold badE; exact decide_eq_false (by omega)
       subst hb9
       go_wp2_with fail
       go_meet
       exact ⟨rfl, rfl⟩
    case rest =>
     obtain ⟨rfl, hwc⟩ := hcut
     rw [hwc]; clear hwc
     have hp9 := WlE.protect (G2 := fun q => w3.heap.size ≤ q ∧ q < wx.heap.size) HA3.out HYW.out (fun _ hq => hq)
     have hr9 : Rw 4 emC 40 (fun q => w3.heap.size ≤ q ∧ q < wx.heap.size) wx A c ys := HYR.out.mono (fun g hl hg => ⟨hg, hl⟩)
     have hbw : Below w.heap.size w wx := HB3.out.trans (HYW.out.mono HB3.out.size)
     have HBX := Lib.hid hbw
     have hN : ys.length ≤ 8 := by have := HYL.out; have := HL9.out; omega
     cases bad with
     | true =>
       have HAP := Lib.hid (X_wAppend (ki := 60) hp9 (HLA.out.on hbw) hr9 (fun g hg => .inr hg) (HYB.out.d _ _) ⟨by show 0 + ys.length ≤ 900000; omega, by show 0 + ys.length ≤ 900000; omega⟩ (fun e he => by cases he) (by rw [HYE.out]; exact gaps_bad (by omega) (by omega) (by omega) (by omega) (by omega) (by omega) HBD.out.symm) rfl)
       rw [HYL.out] at HAP
       clear hp9 hr9 hbw hN
       go_wp2_with fail
       (with_reducible refine HAP.out.mono ?_); rintro e w6 ⟨rfl, ha6, hb6, -⟩
       have HA6 := Lib.hid ha6
       have HB6 : Hid (Below w.heap.size w w6) := Lib.hid (HBX.out.trans hb6)
       clear ha6 hb6 HAP
       have HLS := Lib.hid (wLast_any HA6.out)
       rw [show lastE (allE []) = 0 from rfl] at HLS
       go_wp2_with fail
       (with_reducible refine HLS.out.mono ?_); rintro e w7 ⟨rfl, m7, hw7⟩
       have hb7 : Below w6.heap.size w6 w7 := by rw [hw7]; exact below_drewN (Below.refl _ _) m7
       have HA7 := Lib.hid (HA6.out.below hb7)
       have HB7 : Hid (Below w.heap.size w w7) := Lib.hid (HB6.out.trans (hb7.mono HB6.out.size))
       clear hw7 hb7 HLS
       have HEN := Lib.hid (wEntries_any HA7.out (by decide) (fun e he => by cases he))
       go_wp2_with fail
       (with_reducible refine HEN.out.mono ?_); rintro e w8 ⟨A8, c8, xs8, rfl, -, -, -, hb8⟩
       have HB8 : Hid (Below w.heap.size w w8) := Lib.hid (HB7.out.trans (hb8.mono HB7.out.size))
       clear hb8 HEN
       have hz : (allE []).length = 0 := rfl
       go_wp2_with fail
       go_ret
       exact ⟨rfl, HB8.out⟩
     | false =>
       obtain ⟨i, zs, g1, g2, g3, g4, g5, g6⟩ := gaps_good (f := 1 + (m1 : Int)) (b := (m4 : Int)) (n := 1 + m2) (k := m3) (by omega) (by omega) (by omega) (by omega) (by omega) (by omega) HBD.out.symm
       have HAP := Lib.hid (X_wAppend (ki := 0) hp9 (HLA.out.on hbw) hr9 (fun g hg => .inr hg) (HYB.out.d _ _) ⟨by show 0 + ys.length ≤ 900000; omega, by show 0 + ys.length ≤ 900000; omega⟩ (fun e he => by cases he) (by rw [HYE.out]; exact g1) rfl)
       rw [HYL.out] at HAP
       obtain ⟨la, hla9⟩ : ∃ z, z = lastE (allE (segsK zs)) := ⟨_, rfl⟩
       have hgn := gaps_next g4 g5 (by omega) (by omega) g6
       have hli : la = i + ((1 + m2 : Nat) : Int) - 1 := by rw [hla9]; exact g6
       rw [← hli] at hgn
       have hlen : (allE (segsK zs)).length = 1 + m2 := by rw [g3, bmpE_len]
       have HG2 := Lib.hid g2
       have HGN := Lib.hid hgn
       have HLA9 := Lib.hid hla9
       have HLEN := Lib.hid hlen
       have hla1 : 1 ≤ la := by omega
       have hla2 : la ≤ 2100 := by omega
       have hzc : zs.length ≤ 8 := by
        have h9 := chain_count g2.chain
        rw [hlen] at h9
        unfold segsK at h9
        rw [List.length_map] at h9; omega
       have HZC := Lib.hid hzc
       have HRT := Lib.hid (chain_follow g2.chain).2
       clear hp9 hr9 hbw hN g1 g2 g3 g4 g5 g6 hgn hla9 hlen hli hzc
       go_wp2_with fail
       (with_reducible refine HAP.out.mono ?_); rintro e w6 ⟨rfl, ha6, hb6, -⟩
       have HA6 := Lib.hid ha6
       have HB6 : Hid (Below w.heap.size w w6) := Lib.hid (HBX.out.trans hb6)
       clear ha6 hb6 HAP
       have HEN := Lib.hid (wEntries_any HA6.out (by rw [HLEN.out]; omega) HRT.out)
       obtain ⟨nl, hnl⟩ : ∃ z, z = (allE (segsK zs)).length := ⟨_, rfl⟩
       have hnl2 : ((nl : Int) == 1 + (m2 : Int)) = true := by rw [beq_iff_eq, hnl, HLEN.out]; omega
       have HNL := Lib.hid hnl
       clear hnl
       go_wp2_with fail
       (with_reducible refine HEN.out.mono ?_); rintro e w7 ⟨A7, c7, xs7, rfl, -, -, -, hb7⟩
       rw [← HNL.out]
       have HA7 := Lib.hid (HA6.out.below hb7)
       have HB7 : Hid (Below w.heap.size w w7) := Lib.hid (HB6.out.trans (hb7.mono HB6.out.size))
       clear hb7 HEN HB6 HA6
       have HLS := Lib.hid (wLast_any HA7.out)
       rw [← HLA9.out] at HLS
       go_wp2_with fail
       (with_reducible refine HLS.out.mono ?_); rintro e w8 ⟨rfl, m8, hw8⟩
       have hb8 : Below w7.heap.size w7 w8 := by rw [hw8]; exact below_drewN (Below.refl _ _) m8
       have HA8 := Lib.hid (HA7.out.below hb8)
       have HB8 : Hid (Below w.heap.size w w8) := Lib.hid (HB7.out.trans (hb8.mono HB7.out.size))
       clear hw8 hb8 HLS HB7 HA7
       obtain ⟨wd, hwd⟩ : ∃ z, z = w8.alloc (.cells #[.int .i64 (la + 2), .int .i64 0, .int .i64 0, .slice none 0 0] 40) := ⟨_, rfl⟩
       have hbd : Below w8.heap.size w8 wd := by rw [hwd]; exact (Below.refl _ _).alloc (Nat.le_refl _) _
       have hxd : Blk wd w8.heap.size 40 #[.int .i64 (la + 2), .int .i64 0, .int .i64 0, .slice none 0 0] := by rw [hwd]; exact Blk.new_ w8 _ _
       have hzl : (segsK zs).length + 1 ≤ 900000 ∧ (allE (segsK zs)).length + 1 ≤ 900000 := by
        have h1 := HZC.out; have h2 := HLEN.out
        unfold segsK at h1 ⊢
        rw [List.length_map]
        exact ⟨by omega, by have : (allE (List.map SegK.s zs)).length = 1 + m2 := h2; omega⟩
       have HZL := Lib.hid hzl
       have HAP := Lib.hid (X_wAppend1 (F := fun _ => False) (w0 := w8) (w := wd) (e := eI (la + 2)) (A := none) (c := 0) (ki := 60) HA8.out hbd (HLA.out.on (HB8.out.trans (hbd.mono HB8.out.size))) (Nat.le_refl _) hxd ⟨5, SlB.nil⟩ (fun q e => e.elim) ⟨Nat.le_refl _, Nat.zero_le _⟩ hzl HRT.out HGN.out.1 rfl)
       have HWD := Lib.hid hwd
       have HBD9 : Hid (Below w.heap.size w wd) := Lib.hid (HB8.out.trans (hbd.mono HB8.out.size))
       clear hwd hbd hxd hzl
       change Hid (Calls _ _ #[.pointer (some ⟨wb, 0, none⟩), .slice (some ⟨w8.heap.size, 0, none⟩) 1 1] _ _) at HAP
       go_wp2_with fail
       rw [← HWD.out]
       (with_reducible refine HAP.out.mono ?_); rintro e w9 ⟨rfl, ha9, hb9, -⟩
       have HA9 := Lib.hid ha9
       have HB9 : Hid (Below w.heap.size w w9) := Lib.hid (HBD9.out.trans hb9)
       clear ha9 hb9 HAP HWD HBD9 HA8 HB8
       have HLS := Lib.hid (wLast_any HA9.out)
       rw [← HLA9.out] at HLS
       go_wp2_with fail
       (with_reducible refine HLS.out.mono ?_); rintro e w10 ⟨rfl, m10, hw10⟩
       have hb10 : Below w9.heap.size w9 w10 := by rw [hw10]; exact below_drewN (Below.refl _ _) m10
       have HA10 := Lib.hid (HA9.out.below hb10)
       have HB10 : Hid (Below w.heap.size w w10) := Lib.hid (HB9.out.trans (hb10.mono HB9.out.size))
       clear hw10 hb10 HLS HB9 HA9
       obtain ⟨wd, hwd⟩ : ∃ z, z = w10.alloc (.cells #[.int .i64 (la + 1), .int .i64 (-1), .int .i64 0, .slice none 0 0] 40) := ⟨_, rfl⟩
       have hbd : Below w10.heap.size w10 wd := by rw [hwd]; exact (Below.refl _ _).alloc (Nat.le_refl _) _
       have hxd : Blk wd w10.heap.size 40 #[.int .i64 (la + 1), .int .i64 (-1), .int .i64 0, .slice none 0 0] := by rw [hwd]; exact Blk.new_ w10 _ _
       have HAP := Lib.hid (X_wAppend1 (F := fun _ => False) (w0 := w10) (w := wd) (e := ⟨la + 1, -1, 0, []⟩) (A := none) (c := 0) (ki := 1) HA10.out hbd (HLA.out.on (HB10.out.trans (hbd.mono HB10.out.size))) (Nat.le_refl _) hxd ⟨5, SlB.nil⟩ (fun q e => e.elim) ⟨Nat.le_refl _, Nat.zero_le _⟩ HZL.out HRT.out HGN.out.2 rfl)
       have HWD := Lib.hid hwd
       have HBD9 : Hid (Below w.heap.size w wd) := Lib.hid (HB10.out.trans (hbd.mono HB10.out.size))
       clear hwd hbd hxd
       change Hid (Calls _ _ #[.pointer (some ⟨wb, 0, none⟩), .slice (some ⟨w10.heap.size, 0, none⟩) 1 1] _ _) at HAP
       go_wp2_with fail
       rw [← HWD.out]
       (with_reducible refine HAP.out.mono ?_); rintro e w11 ⟨rfl, ha11, hb11, -⟩
       have HB11 : Hid (Below w.heap.size w w11) := Lib.hid (HBD9.out.trans hb11)
       clear ha11 hb11 HAP HWD HBD9 HA10 HB10
       go_wp2_with fail
       go_ret
       exact ⟨rfl, HB11.out⟩
end Go.Proofs.YtifgajinfcihmaaGreatDoor
