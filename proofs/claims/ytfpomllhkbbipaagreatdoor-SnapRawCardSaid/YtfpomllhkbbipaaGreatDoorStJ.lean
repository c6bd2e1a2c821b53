/- Layer 8: files of names of numbers, whatever their bytes: what SnapRaw asks (plain); the document's Name. -/
import Derived.Test.YtfpomllhkbbipaaGreatDoorStM
import Derived.Test.YtfpomllhkbbipaaGreatDoorStP
namespace Go.Proofs.YtfpomllhkbbipaaGreatDoor
open Go Go.RowKit Go.Shelf Go.Sort Go.Maps Go.Lib Mem Pk Cf Dsk Go.Proofs.YtfpomllhkbbipaaGreatDoor.Nm

namespace Sto
/-- a disk whose files all have names of numbers -/
structure RawOk (s : S) : Prop where
  up : s.down = false
  fuse : s.fuse = 0
  names : ∀ g ∈ s.files, ∃ i : Nat, i < 1000000000000000 ∧ g.name = nmOf 115 i
theorem raw_create {s : S} {i : Nat} (h : RawOk s) : RawOk (create s (nmOf 115 i)).1 := by
  unfold create
  rw [step_idle h.fuse]
  simp only
  generalize hr : Dsk.look s [nmOf 115 i] = r
  obtain ⟨o, e⟩ := r
  cases o with
  | some f => exact h
  | none =>
    simp only
    split
    · split
      · exact h
      · refine ⟨h.up, h.fuse, fun g hg => ?_⟩
        rcases ins_mem.1 hg with rfl | hg
        · exact ⟨i % 1000000000000000, Nat.mod_lt _ (by decide), (nmOf_mod 115 i).symm⟩
        · exact h.names g (List.mem_filter.1 hg).1
    · exact h
theorem raw_write {s : S} {n : Name} {a : Int} {b : List UInt8} (h : RawOk s) : RawOk (write s n a b).1 := by
  unfold write
  rw [step_idle h.fuse]
  simp only
  generalize hr : Dsk.look s [n] = r
  obtain ⟨o, e⟩ := r
  cases o with
  | none => exact h
  | some f =>
    simp only
    split
    · exact h
    · split
      · exact h
      · refine ⟨h.up, h.fuse, fun g hg => ?_⟩
        obtain ⟨f', hf', e⟩ := List.mem_map.1 hg
        obtain ⟨j, hj, hn⟩ := h.names f' hf'
        refine ⟨j, hj, ?_⟩
        rw [← e]
        split <;> exact hn
theorem findS_mem {s : S} {x : SnT} : ∀ {ns : List Name}, findS s ns = some x → ∃ n ∈ ns, readS (Dsk.read s n).1 = some x ∧ (idxS n).map Int.ofNat = some x.x
  | [], h => by cases h
  | n :: r, h => by
    unfold findS at h
    split at h
    · rename_i y hy
      split at h
      · rename_i hx
        injection h with h
        subst h
        exact ⟨n, by simp, hy, hx⟩
      · obtain ⟨m, hm, h2⟩ := findS_mem h
        exact ⟨m, by simp [hm], h2⟩
    · obtain ⟨m, hm, h2⟩ := findS_mem h
      exact ⟨m, by simp [hm], h2⟩
theorem one_left {g : File} : ∀ {l : List File}, Sorted l → (∀ y ∈ l, y = g) → g ∈ l → l = [g]
  | [], _, _, h => by cases h
  | [a], _, h, _ => by rw [h a (by simp)]
  | a :: b :: r, hs, h, _ => by
    have h1 := h a (by simp)
    have h2 := h b (by simp)
    have h3 := (List.pairwise_cons.1 hs).1 b (by simp)
    rw [h1, h2] at h3
    exact absurd rfl (lt_ne h3)
theorem gone_iff {fs : List File} (hn : ∀ g ∈ fs, ∃ i : Nat, i < 1000000000000000 ∧ g.name = nmOf 115 i) (f : Option SnT) {g : File} (hg : g ∈ fs) : g.name ∈ goneS ⟨fs, false, 0⟩ f ↔ other f g.name = true := by
  rw [gone_mem]
  obtain ⟨i, hi, e⟩ := hn g hg
  have h1 : idxS g.name = some i := idxN_iff.2 ⟨hi, e⟩
  have h2 : g.name ≠ nmT := by rw [e]; intro h; have := congrArg List.length h; rw [nmOf_len] at this; exact absurd this (by decide)
  have h3 : g.name ∈ snames ⟨fs, false, 0⟩ := by unfold snames; exact List.mem_map.2 ⟨g, hg, rfl⟩
  rw [h1]
  simp [h2, h3]
theorem readS_right {b : List UInt8} {x : SnT} (h : readS b = some x) : rightS x = true := (readS_iff.1 h).1
/-- Open, and Open once more -/
theorem raw_open {fs : List File} (hs : Sorted fs) (hn : ∀ g ∈ fs, ∃ i : Nat, i < 1000000000000000 ∧ g.name = nmOf 115 i) :
    ∃ s1 l, openS ⟨fs, false, 0⟩ = (s1, l, 0) ∧ openS s1 = (s1, l, 0) ∧ (l = none → (snames s1).length = 0) ∧ (∀ x, l = some x → rightS x = true ∧ (snames s1).length = 1) := by
  have hnm : ∀ g ∈ fs, named g.name = true := fun g hg => by
    obtain ⟨i, _, e⟩ := hn g hg
    rw [e]; unfold named; rw [nmOf_len]; decide
  obtain ⟨f, hf, ho⟩ := openS_up hs hnm
  rw [ho]
  cases f with
  | none =>
    have h0 : fs.filter (fun g => !decide (g.name ∈ goneS ⟨fs, false, 0⟩ none)) = [] := by
      rw [List.filter_eq_nil_iff]
      intro g hg
      have : g.name ∈ goneS ⟨fs, false, 0⟩ none := (gone_iff hn none hg).2 rfl
      simp [this]
    rw [h0]
    exact ⟨_, _, rfl, rfl, fun _ => rfl, fun x e => by cases e⟩
  | some x =>
    obtain ⟨n, hnn, hr, hx⟩ := findS_mem hf.symm
    have hn1 : n ∈ snames ⟨fs, false, 0⟩ := by
      have := List.mem_reverse.1 hnn
      unfold namesS at this
      exact (List.mem_filter.1 this).1
    obtain ⟨g, hg, rfl⟩ := List.mem_map.1 hn1
    have hrd : ∀ l : List File, Sorted l → g ∈ l → (Dsk.read ⟨l, false, 0⟩ g.name).1 = g.now := fun l hl hgl => by
      unfold Dsk.read
      rw [look_found (s := ⟨l, false, 0⟩) (n := g.name) (f := g) rfl (hnm g hg) (find_uniq hl hgl)]
    rw [hrd fs hs hg] at hr
    have hgi : other (some x) g.name = false := by unfold other; simp [hx]
    have hL : fs.filter (fun y => !decide (y.name ∈ goneS ⟨fs, false, 0⟩ (some x))) = [g] := by
      refine one_left (hs.filter _) (fun y hy => ?_) ?_
      · obtain ⟨hy1, hy2⟩ := List.mem_filter.1 hy
        have h1 : other (some x) y.name = false := by
          cases ho : other (some x) y.name with
          | false => rfl
          | true => exact absurd ((gone_iff hn _ hy1).2 ho) (by simpa using hy2)
        unfold other at h1
        simp only [Bool.not_eq_false', decide_eq_true_eq] at h1
        obtain ⟨i, hi, e⟩ := hn g hg
        obtain ⟨j, hj, e2⟩ := hn y hy1
        have k1 : idxS g.name = some i := idxN_iff.2 ⟨hi, e⟩
        have k2 : idxS y.name = some j := idxN_iff.2 ⟨hj, e2⟩
        rw [k1] at hx
        rw [k2] at h1
        have : i = j := by
          have h5 := hx.trans h1.symm
          simp only [Option.map_some, Option.some.injEq] at h5
          exact Int.ofNat.inj h5
        have hnn : y.name = g.name := by rw [e, e2, this]
        have q1 := find_uniq hs hy1
        have q2 := find_uniq hs hg
        rw [hnn, q2] at q1
        exact (Option.some.inj q1).symm
      · exact List.mem_filter.2 ⟨hg, by
          have : ¬ g.name ∈ goneS ⟨fs, false, 0⟩ (some x) := fun h => by have := (gone_iff hn _ hg).1 h; rw [hgi] at this; cases this
          simp [this]⟩
    rw [hL]
    have hs1 : Sorted [g] := by unfold Sorted; simp
    have hn1 : ∀ y ∈ [g], ∃ i : Nat, i < 1000000000000000 ∧ y.name = nmOf 115 i := fun y hy => by simp only [List.mem_singleton] at hy; exact hy ▸ hn g hg
    obtain ⟨f1, hf1, ho1⟩ := openS_up hs1 (fun y hy => by simp only [List.mem_singleton] at hy; exact hy ▸ hnm g hg)
    obtain ⟨i, hi, e⟩ := hn g hg
    have k1 : idxS g.name = some i := idxN_iff.2 ⟨hi, e⟩
    have hns : namesS ⟨[g], false, 0⟩ = [g.name] := by unfold namesS snames; simp [k1]
    have hf1' : f1 = some x := by
      rw [hf1, hns]
      show findS ⟨[g], false, 0⟩ [g.name] = some x
      unfold findS
      rw [hrd [g] hs1 (by simp), hr]
      simp only
      rw [if_pos hx]
    rw [hf1'] at ho1
    have hL1 : [g].filter (fun y => !decide (y.name ∈ goneS ⟨[g], false, 0⟩ (some x))) = [g] := by
      have : ¬ g.name ∈ goneS ⟨[g], false, 0⟩ (some x) := fun h => by have := (gone_iff hn1 _ (by simp : g ∈ [g])).1 h; rw [hgi] at this; cases this
      simp [this]
    rw [hL1] at ho1
    exact ⟨_, _, rfl, ho1, (fun e => by cases e), fun y e => by injection e with e; subst e; exact ⟨readS_right hr, rfl⟩⟩
theorem raw_crash {s : S} (h : RawOk s) (hs : Sorted s.files) (keep : List Bool) : ∃ s1 l, openS (crash s keep) = (s1, l, 0) ∧ openS s1 = (s1, l, 0) ∧ (l = none → (snames s1).length = 0) ∧ (∀ x, l = some x → rightS x = true ∧ (snames s1).length = 1) := by
  refine raw_open (crash_sorted hs 0) (fun g hg => ?_)
  obtain ⟨f, hf, k, rfl⟩ := crash_mem keep s.files 0 g hg
  exact h.names f hf
end Sto
namespace Nm
theorem pad_cons (k : Nat) : ∀ u : Nat, pad (k + 1) u = UInt8.ofNat (48 + u / 10 ^ k % 10) :: pad k u := by
  induction k with
  | zero => intro u; simp [pad]
  | succ k ih =>
    intro u
    show pad (k + 1) (u / 10) ++ [UInt8.ofNat (48 + u % 10)] = _
    rw [ih (u / 10)]
    have : u / 10 / 10 ^ k = u / 10 ^ (k + 1) := by rw [Nat.div_div_eq_div_mul, Nat.pow_succ, Nat.mul_comm]
    rw [this]
    rfl
theorem dg_mod (x : Nat) : ((x : Nat) : Int).tmod 10 = ((x % 10 : Nat) : Int) := by rw [Int.tmod_eq_emod_of_nonneg (Int.natCast_nonneg x)]; rfl
theorem dg_div (x : Nat) : ((x : Nat) : Int).tdiv 10 = ((x / 10 : Nat) : Int) := by rw [Int.tdiv_eq_ediv_of_nonneg (Int.natCast_nonneg x)]; rfl
theorem dg_next (u k x : Nat) (hx : x = u / 10 ^ k) : x / 10 = u / 10 ^ (k + 1) := by rw [hx, Nat.pow_succ, Nat.div_div_eq_div_mul]
theorem dg_wrap (y : Nat) (h : y < 10) : wrap64 (48 + (y : Int)) = 48 + (y : Int) := by
  unfold wrap64; omega
theorem dg_quo (u k x : Nat) (hu : u ≤ 9223372036854775807) (hx : x = u / 10 ^ k) : wrap64 ((x : Int) / 10) = ((x / 10 : Nat) : Int) := by
  have : x ≤ u := by rw [hx]; exact Nat.div_le_self _ _
  unfold wrap64; omega
theorem dg_byte (y : Nat) (h : y < 10) : (48 + (y : Int)) % 256 = 48 + (y : Int) := by omega
theorem dg_cons (u k x y : Nat) (hx : x = u / 10 ^ k) (hy : y = x % 10) : (⟨#[UInt8.ofNat (48 + y)]⟩ : ByteArray) ++ ⟨(pad k u).toArray⟩ = ⟨(pad (k + 1) u).toArray⟩ := by
  rw [pad_cons, ← hx, ← hy]
  apply ByteArray.ext
  simp [ByteArray.data_append]
theorem dg_s (u : Nat) : (⟨#[115]⟩ : ByteArray) ++ (⟨(119 :: pad 15 u).toArray⟩ : ByteArray).extract 1 16 = ⟨(nmOf 115 u).toArray⟩ := by
  have := pad_len 15 u
  apply ByteArray.ext
  simp [ByteArray.data_append, ByteArray.data_extract, nmOf, List.take_of_length_le (Nat.le_of_eq this)]
theorem dg_w (u : Nat) : (⟨#[119]⟩ : ByteArray) ++ ⟨(pad 15 u).toArray⟩ = ⟨(119 :: pad 15 u).toArray⟩ := by
  apply ByteArray.ext
  simp [ByteArray.data_append]
theorem dg_conv {wr : World} {y : Nat} (hy : y < 10) : (convert 36 9 (.slice (some ⟨wr.heap.size, 0, none⟩) 1 1)).run Tryz.prog (wr.alloc (.cells #[.int .u8 (48 + (y : Int))] 5)) = .ok (.string ⟨#[UInt8.ofNat (48 + y)]⟩) (wr.alloc (.cells #[.int .u8 (48 + (y : Int))] 5)) :=
  run_convert_bytes_back (P := Tryz.prog) _ 36 9 5 ⟨wr.heap.size, 0, none⟩ 1 [UInt8.ofNat (48 + y)] Tryz.underlying36 Tryz.underlying5 Tryz.underlying9 (by
    intro j hj
    simp only [List.length_singleton] at hj
    obtain rfl : j = 0 := by omega
    have h9 : (UInt8.ofNat (48 + y)).toNat = 48 + y := by rw [UInt8.toNat_ofNat']; omega
    have hB : Blk (wr.alloc (.cells #[.int .u8 (48 + (y : Int))] 5)) wr.heap.size 5 #[.int .u8 (48 + (y : Int))] := Blk.new_ _ _ _
    have h0 := hB.cell 0
    show _ = some (Value.int .u8 (((UInt8.ofNat (48 + y)).toNat : Nat) : Int))
    rw [h9]
    exact h0)
end Nm
def DgRel (u h0 : Nat) (w : World) (xv ov iv : Value) (W : World) : Prop :=
  ∃ k x : Nat, k ≤ 15 ∧ x = u / 10 ^ k ∧ xv = .int .i64 (x : Int) ∧ ov = .string ⟨(pad k u).toArray⟩ ∧ iv = .int .i64 (k : Int) ∧ Below h0 w W
set_option maxRecDepth 100000 in
set_option maxHeartbeats 4000000 in
theorem RName6_any {w : World} (u : Nat) (hu : u ≤ 9223372036854775807) :
    Calls Tryz.prog 51 #[.int .i64 (u : Int)] w fun e w' => e = .returned (.string ⟨(119 :: pad 15 u).toArray⟩) ∧ Below w.heap.size w w' := by
  go_enter Tryz.func51, Tryz.ntmps51
  go_wp2_with fail
  go_loopw [0, 3, 4] (fun xv ov iv wr => DgRel u w.heap.size w xv ov iv wr) (fun _ _ iv _ => 15 - (intOf iv).toNat)
  case atStart => exact ⟨0, u, by decide, by simp, rfl, rfl, rfl, Below.refl _ _⟩
  case round =>
    obtain ⟨k, x, hk, hx, rfl, rfl, rfl, hbw⟩ := hrel
    have HX := Lib.hid hx
    have hpl := pad_len k u
    clear hx
    by_cases h15 : k < 15
    · have h1 : (k : Int) < 15 := by omega
      obtain ⟨y, hy⟩ : ∃ y, y = x % 10 := ⟨_, rfl⟩
      have hy10 : y < 10 := by omega
      have hm := dg_mod x
      have hq := dg_div x
      have hq2 := dg_quo u k x hu HX.out
      rw [← hy] at hm
      have hw1 := dg_wrap y hy10
      have hw2 := dg_byte y hy10
      have hcv := dg_conv (wr := wr) hy10
      have HB2 : Hid (Below w.heap.size w (wr.alloc (.cells #[.int .u8 (48 + (y : Int))] 5))) := Lib.hid (hbw.trans (((Below.refl wr.heap.size wr).alloc (Nat.le_refl _) _).mono hbw.size))
      have hco := dg_cons u k x y HX.out hy
      obtain ⟨ch, hch⟩ : ∃ ch, ch = UInt8.ofNat (48 + y) := ⟨_, rfl⟩
      rw [← hch] at hcv hco
      have HCV := Lib.hid hcv
      have HCO := Lib.hid hco
      clear hcv hco hch
      have HNX := Lib.hid (dg_next u k x HX.out)
      have hl9 : ¬ 9223372036854775807 < 1 + (pad k u).length := by rw [hpl]; omega
      have HLT := Lib.hid h15
      clear hbw hy hy10 h15 hk
      go_wp2_with fail
      rw [HCV.out]
      go_wp2_with fail
      go_roundw
      case rel => exact ⟨k + 1, x / 10, HLT.out, HNX.out, by rw [hq2], by rw [HCO.out], by go_num, HB2.out⟩
      case measure => simp [intOf]; have := HLT.out; omega
    · obtain rfl : k = 15 := by omega
      have h9 : ¬ 9223372036854775807 < 1 + (pad 15 u).length := by rw [hpl]; decide
      have HB := Lib.hid hbw
      clear hbw hk h15
      go_wp2_with fail
      go_ret
      rw [← dg_w]
      exact ⟨rfl, HB.out⟩
/-- the document's name of a number -/
theorem RName8_any {w : World} (u : Nat) (hu : u ≤ 9223372036854775807) :
    Calls Tryz.prog 22 #[.int .i64 (u : Int)] w fun e w' => e = .returned (.string ⟨(nmOf 115 u).toArray⟩) ∧ Below w.heap.size w w' := by
  have hpl := pad_len 15 u
  go_enter Tryz.func22, Tryz.ntmps22
  go_wp2_with fail
  (with_reducible refine (RName6_any u hu).mono ?_); rintro e w1 ⟨rfl, hb1⟩
  go_wp2_with fail
  go_ret
  rw [← dg_s]
  exact ⟨rfl, hb1⟩
end Go.Proofs.YtfpomllhkbbipaaGreatDoor
