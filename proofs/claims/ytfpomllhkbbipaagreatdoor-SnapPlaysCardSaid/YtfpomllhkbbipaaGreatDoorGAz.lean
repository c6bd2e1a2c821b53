/- Layer 5's document: a disk as a value; its walks. -/
import Derived.Lib.Strings
import Derived.Deep.DeepCutAuto
import Derived.Test.YtfpomllhkbbipaaGreatDoorGAj
import Derived.Test.YtfpomllhkbbipaaGreatDoorGAy
import Derived.Test.YtfpomllhkbbipaaGreatDoorGAb
namespace Go.Proofs.YtfpomllhkbbipaaGreatDoor
open Go.RowKit Go.Maps Mem Dsk
structure RFile where
 file : File
 A : Option Addr
 c : Nat
 B : Option Addr
 d : Nat
def RFile.cells (r : RFile) : List Value := [.string ⟨r.file.name.toArray⟩, .slice r.A r.file.now.length r.c, .slice r.B r.file.safe.length r.d]
theorem rcells_len (r : RFile) : r.cells.length = 3 := rfl
theorem rcells_one (r : RFile) : ∀ y ∈ r.cells, y.oneCell' = true := by
 intro y hy
 simp [RFile.cells] at hy
 rcases hy with rfl | rfl | rfl <;> rfl
structure RFok (G : Nat → Prop) (w : World) (r : RFile) : Prop where
 now : SlB fB 5 G w r.A r.file.now
 safe : SlB fB 5 G w r.B r.file.safe
 sz : small r.file
 cn : r.file.now.length ≤ r.c
 cs : r.file.safe.length ≤ r.d
def Files (G : Nat → Prop) (w : World) (A : Option Addr) (rs : List RFile) : Prop := SlK 3 RFile.cells 59 G w A rs ∧ ∀ r ∈ rs, RFok G w r
def RefAt (G : Nat → Prop) (w : World) (v : Value) (s : S) : Prop := ∃ A c rs, v = .agg #[.slice A rs.length c, .bool s.down, .int .i64 s.fuse] ∧ Files G w A rs ∧ rs.map RFile.file = s.files
section
variable {F G : Nat → Prop} {w w' : World} {A : Option Addr} {rs : List RFile} {r : RFile} {v : Value} {s : S}
theorem RFok.mono (h : RFok F w r) (hF : ∀ g, g < w.heap.size → F g → G g) : RFok G w r := ⟨h.now.mono hF, h.safe.mono hF, h.sz, h.cn, h.cs⟩
theorem RFok.frm (h : RFok F w r) (hf : Frm G w w') (hd : ∀ g, F g → ¬ G g) : RFok F w' r := ⟨h.now.frm hf hd, h.safe.frm hf hd, h.sz, h.cn, h.cs⟩
theorem RFok.below (h : RFok F w r) (hb : Below w.heap.size w w') : RFok F w' r := ⟨h.now.below hb, h.safe.below hb, h.sz, h.cn, h.cs⟩
theorem Files.mono (h : Files F w A rs) (hF : ∀ g, g < w.heap.size → F g → G g) : Files G w A rs := ⟨h.1.mono hF, fun r hr => (h.2 r hr).mono hF⟩
theorem Files.frm (h : Files F w A rs) (hf : Frm G w w') (hd : ∀ g, F g → ¬ G g) : Files F w' A rs := ⟨h.1.frm hf hd, fun r hr => (h.2 r hr).frm hf hd⟩
theorem Files.below (h : Files F w A rs) (hb : Below w.heap.size w w') : Files F w' A rs := ⟨h.1.below hb, fun r hr => (h.2 r hr).below hb⟩
end
theorem sname_toList (s : ByteArray) : s.toList = sname s := Lib.toList_data s
theorem fileT : SliceTK Tryz.prog 30 59 (.agg #[.string ByteArray.empty, .slice none 0 0, .slice none 0 0]) 3 64 := sliceTK_mk Tryz.underlying30 rfl (by decide) (by kernel_rfl)
theorem rname_any (s : ByteArray) (hs : s.size ≤ maxLen) (w : World) :
 Calls Tryz.prog 98 #[.string s] w fun e w' => e = .returned (.bool (named (sname s))) ∧ w = w' := by
 have hn := named_eq s
 unfold maxLen at hs
 by_cases h1 : 1 ≤ s.size
 ·have e : decide ((s.size : Int) ≤ 16) = named (sname s) := by rw [← hn, decide_eq_true (p := (1 : Int) ≤ s.size) (by omega)]; rfl
  have h2 : (0 : Int) < (s.size : Int) := by omega
  clear hn
  go_enter Tryz.func98, Tryz.ntmps98
  go_wp2_with fail
  go_ret
  exact ⟨rfl, rfl⟩
 ·have e : named (sname s) = false := by rw [← hn]; simp; omega
  clear hn
  have h1 : s.size = 0 := by omega
  go_enter Tryz.func98, Tryz.ntmps98
  go_wp2_with fail
  go_ret
  exact ⟨ret_bool e.symm, rfl⟩
def FindPost (n : Name) (rs : List RFile) (w : World) (e : Ending) (w' : World) : Prop :=
 ∃ i : Int, e = .returned (.int .i64 i) ∧ Below w.heap.size w w' ∧ ((i = -1 ∧ ∀ r ∈ rs, r.file.name ≠ n) ∨ ∃ k : Nat, i = k ∧ ∃ h : k < rs.length, rs[k].file.name = n ∧ ∀ j (hj : j < k), (rs[j]'(by omega)).file.name ≠ n)
set_option maxHeartbeats 1000000 in
theorem Find_any {G : Nat → Prop} {w : World} (A : Option Addr) (c : Nat) (rs : List RFile) (h : Files G w A rs) (dn : Bool) (fu : Nat) (n : ByteArray) :
 Calls Tryz.prog 34 #[.agg #[.slice A rs.length c, .bool dn, .int .i64 fu], .string n] w (FindPost (sname n) rs w) := by
 have hl := h.1.len
 have HF := Lib.hid h; clear h
 go_enter Tryz.func34, Tryz.ntmps34
 go_wp2_with fail
 go_loop [5] (fun iv => ∃ k : Nat, k ≤ rs.length ∧ iv = .int .i64 k ∧ ∀ j (hj : j < rs.length), j < k → rs[j].file.name ≠ sname n) (fun iv => rs.length - (intOf iv).toNat)
 case atStart => exact ⟨0, Nat.zero_le _, rfl, fun j _ h => absurd h (Nat.not_lt_zero _)⟩
 case round =>
  obtain ⟨k, hk, rfl, hno⟩ := hrel
  have HNO := Lib.hid hno; clear hno
  have hab := (Below.refl w.heap.size w).alloc (Nat.le_refl _) (.cells #[.slice A rs.length c, .bool dn, .int .i64 fu] 32)
  by_cases hlt : k < rs.length
  ·obtain ⟨b, o, rfl, _, _, hc⟩ := (HF.out.below hab).1.at hlt
   have c0 := hc 0 (by decide)
   have c0' : (w.alloc (.cells #[.slice (some ⟨b, o, none⟩) rs.length c, .bool dn, .int .i64 fu] 32)).cell? ⟨b, o + k * 3, none⟩ = some (.string ⟨rs[k].file.name.toArray⟩) := c0
   clear hc c0
   by_cases hn : rs[k].file.name = n.toList
   ·have t1 : (rs[k].file.name == n.toList) = true := by simpa using hn
    have HN := Lib.hid hn; clear hn
    go_wp2_with fail
    go_ret
    refine ⟨k, rfl, hab, .inr ⟨k, rfl, hlt, by rw [HN.out, sname_toList], fun j hj => HNO.out j (by omega) hj⟩⟩
   ·have t1 : (rs[k].file.name == n.toList) = false := by simpa using hn
    have HN := Lib.hid hn; clear hn
    go_wp2_with fail
    refine ⟨⟨k + 1, by omega, by go_num, fun j hj hjk => ?_⟩, by simp [intOf]; omega⟩
    by_cases e : j = k
    ·subst e; rw [← sname_toList]; exact HN.out
    ·exact HNO.out j hj (by omega)
  ·go_wp2_with fail
   go_ret
   refine ⟨-1, rfl, hab, .inl ⟨rfl, fun r hr => ?_⟩⟩
   obtain ⟨j, hj, rfl⟩ := List.getElem_of_mem hr
   exact HNO.out j hj (by omega)
theorem Mem.OwnK.setLow {α : Type} {k : Nat} {f : α → List Value} {e : TypeId} {w : World} {v : Value} {xs : List α} {base : Nat} (ho : OwnK k f base e w v xs) {p : Addr} (hp : p.block < base) (u : Value) : OwnK k f base e (w.setCell p u) v xs := by
 obtain ⟨h1, h2⟩ := ho
 refine ⟨h1, ?_⟩
 rcases h2 with h2 | ⟨g, cap, cur, a, b, hh, c⟩
 ·exact .inl h2
 ·exact .inr ⟨g, cap, cur, a, b, (Below.heap_setCell w p u g (by omega)).trans hh, c⟩
def delF (n : Name) (rs : List RFile) : List RFile := rs.filter (fun r => !(r.file.name == n))
theorem delF_file (n : Name) (rs : List RFile) : (delF n rs).map RFile.file = del n (rs.map RFile.file) := by
 unfold delF del; rw [List.filter_map]; rfl
theorem delF_yes {n : Name} {rs : List RFile} {k : Nat} (h : k < rs.length) (hn : rs[k].file.name ≠ n) : delF n (rs.take (k + 1)) = delF n (rs.take k) ++ [rs[k]] := by
 unfold delF; rw [List.take_succ_eq_append_getElem h, List.filter_append]; simp [hn]
theorem delF_no {n : Name} {rs : List RFile} {k : Nat} (h : k < rs.length) (hn : rs[k].file.name = n) : delF n (rs.take (k + 1)) = delF n (rs.take k) := by
 unfold delF; rw [List.take_succ_eq_append_getElem h, List.filter_append]; simp [hn]
theorem delF_len (n : Name) (rs : List RFile) : (delF n rs).length ≤ rs.length := List.length_filter_le _ _
def RefPost (G : Nat → Prop) (s : S) (w : World) (e : Ending) (w' : World) : Prop :=
 ∃ v, e = .returned v ∧ RefAt (up G w) w' v s ∧ Below w.heap.size w w'
theorem refPost_mk {G : Nat → Prop} {w w' : World} {A : Option Addr} {c : Nat} {rs : List RFile} {s : S} (hb : Below w.heap.size w w') (ho : OwnK 3 RFile.cells w.heap.size 59 w' (.slice A rs.length c) rs)
 (hr : ∀ r ∈ rs, RFok (up G w) w' r) (hf : rs.map RFile.file = s.files) : RefPost G s w (.returned (.agg #[.slice A rs.length c, .bool s.down, .int .i64 s.fuse])) w' :=
 ⟨_, rfl, ⟨A, c, rs, rfl, ⟨(ho.slK rcells_len).2.mono (fun _ _ h => .inr h), hr⟩, hf⟩, hb⟩
def WoRel (w0 : World) (n : Name) (rs : List RFile) (ov iv : Value) (wr : World) : Prop :=
 ∃ k : Nat, k ≤ rs.length ∧ iv = .int .i64 k ∧ OwnK 3 RFile.cells w0.heap.size 59 wr ov (delF n (rs.take k)) ∧ Below w0.heap.size w0 wr
set_option maxHeartbeats 2000000 in
theorem Without_any {G : Nat → Prop} {w : World} (A : Option Addr) (c : Nat) (rs : List RFile) (h : Files G w A rs) (hct : rs.length ≤ 100000) (s : S) (hs : rs.map RFile.file = s.files) (n : ByteArray) :
 Calls Tryz.prog 100 #[.agg #[.slice A rs.length c, .bool s.down, .int .i64 s.fuse], .string n] w (RefPost G { s with files := del (sname n) s.files } w) := by
 have hl := h.1.len
 have HF := Lib.hid h; clear h
 have HS := Lib.hid hs; clear hs
 go_enter Tryz.func100, Tryz.ntmps100
 go_wp2_with fail
 obtain ⟨w0, hw0⟩ : ∃ w0, w0 = (w.alloc (.cells #[.slice A rs.length c, .bool s.down, .int .i64 s.fuse] 32)).alloc (.cells #[.slice none 0 0, .bool false, .int .i64 0] 32) := ⟨_, rfl⟩
 rw [← hw0]
 have hz : w0.heap.size = w.heap.size + 1 + 1 := by rw [hw0]; simp
 have hab : Below w.heap.size w w0 := by rw [hw0]; exact ((Below.refl _ _).alloc (Nat.le_refl _) _).alloc (by simp) _
 have hbx : Blk w0 w.heap.size 32 #[.slice A rs.length c, .bool s.down, .int .i64 s.fuse] := by rw [hw0]; exact (Blk.new_ w _ _).alloc _
 have hrs : Blk w0 (w.heap.size + 1) 32 #[.slice none 0 0, .bool false, .int .i64 0] := by
  have := Blk.new_ (w.alloc (.cells #[.slice A rs.length c, .bool s.down, .int .i64 s.fuse] 32)) 32 #[.slice none 0 0, .bool false, .int .i64 0]
  rw [World.size_alloc] at this; rw [hw0]; exact this
 have hst : OwnK 3 RFile.cells w0.heap.size 59 (w0.alloc (.cells #[] 59)) (.slice (some ⟨w.heap.size + 1 + 1, 0, none⟩) 0 0) ([] : List RFile) := by rw [← hz]; exact OwnK.mk_ (Nat.le_refl _)
 have HST := Lib.hid hst; clear hst
 have HZ := Lib.hid hz; clear hz hw0
 have HAB := Lib.hid hab; clear hab
 have HBX := Lib.hid hbx; clear hbx
 have HRS := Lib.hid hrs; clear hrs
 go_loopw [5, 6] (fun ov iv wr => WoRel w0 (sname n) rs ov iv wr) (fun _ iv _ => rs.length - (intOf iv).toNat)
 case atStart => exact ⟨0, Nat.zero_le _, rfl, HST.out, (Below.refl _ _).alloc (Nat.le_refl _) _⟩
 case round =>
  obtain ⟨k, hk, rfl, hown, hbw⟩ := hrel
  have HOWN := Lib.hid hown; clear hown
  have HBW := Lib.hid hbw; clear hbw
  have HBXr := Lib.hid (HBX.out.below HBW.out HBX.out.lt)
  have HRSr := Lib.hid (HRS.out.below HBW.out HRS.out.lt)
  have b0 : wr.cell? ⟨w.heap.size, 0, none⟩ = some (.slice A rs.length c) := HBXr.out.cell 0
  by_cases hlt : k < rs.length
  ·obtain ⟨b, o, rfl, _, _, hc⟩ := ((HF.out.below HAB.out).below HBW.out).1.at hlt
   have c0 : wr.cell? ⟨b, o + k * 3, none⟩ = some (.string ⟨rs[k].file.name.toArray⟩) := hc 0 (by decide)
   have c1 : wr.cell? ⟨b, o + k * 3 + 1, none⟩ = some (.slice rs[k].A rs[k].file.now.length rs[k].c) := hc 1 (by decide)
   have c2 : wr.cell? ⟨b, o + k * 3 + 2, none⟩ = some (.slice rs[k].B rs[k].file.safe.length rs[k].d) := hc 2 (by decide)
   clear hc
   by_cases hn : rs[k].file.name = n.toList
   ·have t1 : (rs[k].file.name == n.toList) = true := by simpa using hn
    have HN := Lib.hid (delF_no hlt (show rs[k].file.name = sname n by rw [hn, sname_toList])); clear hn
    go_wp2_with fail
    go_roundw
    case rel => exact ⟨k + 1, by omega, by go_num, by rw [HN.out]; exact HOWN.out, HBW.out⟩
    case measure => simp [intOf]; omega
   ·have t1 : (rs[k].file.name == n.toList) = false := by simpa using hn
    have HN := Lib.hid (delF_yes hlt (show rs[k].file.name ≠ sname n by rw [← sname_toList]; exact hn)); clear hn
    have hdl : (delF (sname n) (rs.take k)).length ≤ k := Nat.le_trans (delF_len _ _) (List.length_take_le _ _)
    go_wp2_with (at_builtin; refine wpList_appendK1 (f := RFile.cells) rfl (.tmp 23) (.tmp 29) 30 rfl fileT rs[k] rfl (rcells_one _) rfl HOWN.out rfl rfl rfl (by unfold maxLen; omega) (by omega) HBW.out.size ?_; intro v7 w7 hown7 hg7)
    go_roundw
    case rel => exact ⟨k + 1, by omega, by go_num, by rw [HN.out]; exact hown7, (HBW.out.alloc HBW.out.size _).trans ((HOWN.out.alloc _).below_ (by rw [World.size_alloc]; exact Nat.le_succ_of_le HBW.out.size) hg7)⟩
    case measure => simp [intOf]; omega
  ·have hkk : k = rs.length := by omega
   obtain ⟨X, hX⟩ : ∃ X, X = delF (sname n) (rs.take k) := ⟨_, rfl⟩
   rw [← hX] at HOWN
   rw [hkk, List.take_length] at hX
   have HX := Lib.hid hX; clear hX
   clear hkk
   obtain ⟨A5, c5, rfl⟩ := HOWN.out.form
   have b1 : wr.cell? ⟨w.heap.size, 1, none⟩ = some (.bool s.down) := HBXr.out.cell 1
   have b2 : wr.cell? ⟨w.heap.size, 2, none⟩ = some (.int .i64 s.fuse) := HBXr.out.cell 2
   have g0 := HBXr.out.free 0
   have r0 : wr.cell? ⟨w.heap.size + 1, 0, none⟩ = some (.slice none 0 0) := HRSr.out.cell 0
   have r1 : wr.cell? ⟨w.heap.size + 1, 1, none⟩ = some (.bool false) := HRSr.out.cell 1
   have r2 : wr.cell? ⟨w.heap.size + 1, 2, none⟩ = some (.int .i64 0) := HRSr.out.cell 2
   have q0 := HRSr.out.free 0
   have q1 := HRSr.out.free 1
   have q2 := HRSr.out.free 2
   go_wp2_with fail
   have hbw1 : Below w.heap.size w wr := HAB.out.trans (HBW.out.mono HAB.out.size)
   have hz := HZ.out
   refine bodyPost_ret (v := .agg #[.slice A5 X.length c5, .bool s.down, .int .i64 s.fuse]) (by simp [results, Tryz.results100, go_sem, r0, r1, r2, q0, q1, q2]) rfl ?_
   have hbz := (((hbw1.setCell (p := ⟨w.heap.size, 0, none⟩) (Nat.le_refl _) (.slice A5 X.length c5)).setCell (p := ⟨w.heap.size + 1, 0, none⟩) (Nat.le_succ _) (.slice A5 X.length c5)).setCell (p := ⟨w.heap.size + 1, 1, none⟩) (Nat.le_succ _) (.bool s.down)).setCell (p := ⟨w.heap.size + 1, 2, none⟩) (Nat.le_succ _) (.int .i64 s.fuse)
   have hoz := (((HOWN.out.setLow (p := ⟨w.heap.size, 0, none⟩) (by show w.heap.size < _; omega) (.slice A5 X.length c5)).setLow (p := ⟨w.heap.size + 1, 0, none⟩) (by show w.heap.size + 1 < _; omega) (.slice A5 X.length c5)).setLow (p := ⟨w.heap.size + 1, 1, none⟩) (by show w.heap.size + 1 < _; omega) (.bool s.down)).setLow (p := ⟨w.heap.size + 1, 2, none⟩) (by show w.heap.size + 1 < _; omega) (.int .i64 s.fuse)
   refine refPost_mk (s := { s with files := del (sname n) s.files }) hbz (hoz.base_ HAB.out.size) (fun r hr => ?_) (by rw [HX.out, delF_file, HS.out])
   have hr' : r ∈ rs := by rw [HX.out] at hr; exact (List.mem_filter.1 hr).1
   exact ((HF.out.2 r hr').below hbz).mono (fun _ _ h => .inl h)
end Go.Proofs.YtfpomllhkbbipaaGreatDoor
namespace Go.Proofs.YtfpomllhkbbipaaGreatDoor
open Go.RowKit Go.Maps Mem Dsk
def Made (B : Nat) (xs : List UInt8) (e : Ending) (w' : World) : Prop := ∃ A c, e = .returned (.slice A xs.length c) ∧ SlB fB 5 (fun g => B ≤ g) w' A xs ∧ xs.length ≤ c
def GrowRel (w : World) (xs : List UInt8) (N : Nat) (first : Int) (ov iv : Value) (wr : World) : Prop :=
 ∃ k : Nat, k ≤ N ∧ iv = .int .i64 (first + k) ∧ Mem.Own fB w.heap.size 5 wr ov (xs.take k) ∧ Below w.heap.size w wr
set_option maxHeartbeats 1000000 in
theorem rpart_any (A : Option Addr) (c : Nat) (b : List UInt8) (fi ti : Int) (f t : Nat) (hf : fi = f) (ht : ti = t) (hf1 : f ≤ 100000000) (ht1 : t ≤ 100000000) (w : World) (hs : Sl fB w A b) (hb : b.length ≤ 100000000) :
 Calls Tryz.prog 46 #[.slice A b.length c, .int .i64 fi, .int .i64 ti] w fun e w' => Made w.heap.size (pieceD b f t) e w' ∧ Below w.heap.size w w' := by
 subst hf; subst ht
 obtain ⟨N, hN⟩ : ∃ N, N = (pieceD b f t).length := ⟨_, rfl⟩
 have hN2 : N = min t b.length - f := by rw [hN, pieceD_len]
 have HN := Lib.hid hN; clear hN
 have HN2 := Lib.hid hN2; clear hN2
 go_enter Tryz.func46, Tryz.ntmps46
 go_wp2_with fail
 go_loopw [7, 8] (fun ov iv wr => GrowRel w (pieceD b f t) N f ov iv wr) (fun _ iv _ => f + N - (intOf iv).toNat)
 case atStart => exact ⟨0, Nat.zero_le _, by simp, by rw [List.take_zero]; exact Own.mk_ (Nat.le_refl _), (Below.refl _ _).alloc (Nat.le_refl _) _⟩
 case round =>
  obtain ⟨k, hk, rfl, hown, hbw⟩ := hrel
  have HOWN := Lib.hid hown; clear hown
  have HBW := Lib.hid hbw; clear hbw
  have hkm : k ≤ 100000000 := by have := HN2.out; omega
  have hpl : ((pieceD b f t).take k).length ≤ k := List.length_take_le _ _
  by_cases hlt : k < N
  ·have h1 : f + k < t := by have := HN2.out; omega
   have h2 : f + k < b.length := by have := HN2.out; omega
   have h1' : (f : Int) + (k : Int) < (t : Int) := by omega
   have h2' : (f : Int) + (k : Int) < (b.length : Int) := by omega
   have h0' : (0 : Int) ≤ (f : Int) + (k : Int) := by omega
   obtain ⟨bk, o, rfl, _, hc⟩ := (hs.below HBW.out).at h2
   have hck : wr.cell? ⟨bk, o + (f + k), none⟩ = some (.int .u8 (b[f + k].toNat : Int)) := hc (f + k) h2
   clear hc
   have e1 : ((f : Int) + (k : Int)).toNat = f + k := by omega
   have HS := Lib.hid (take_snoc? (pieceD_get (t := t) h1 h2)); 
   clear e1
   go_wp2_with (at_builtin; refine wpList_append1t (f := fB) rfl (.tmp 22) (.tmp 27) 36 rfl u8T b[f + k] (fB_one _) rfl HOWN.out rfl rfl (by unfold maxLen; omega) (by omega) HBW.out.size ?_; intro v7 w7 hown7 hg7)
   go_roundw
   case rel => exact ⟨k + 1, by omega, by go_num, by rw [HS.out]; exact hown7, (HBW.out.alloc HBW.out.size _).trans ((HOWN.out.alloc _).below_ (by rw [World.size_alloc]; exact Nat.le_succ_of_le HBW.out.size) hg7)⟩
   case measure => simp [intOf]; omega
  ·have hkN : k = N := by omega
   have hends : ¬ ((f : Int) + (k : Int) < (t : Int)) ∨ ¬ ((f : Int) + (k : Int) < (b.length : Int)) := by have := HN2.out; omega
   obtain ⟨X, hX⟩ : ∃ X, X = (pieceD b f t).take k := ⟨_, rfl⟩
   rw [← hX] at HOWN
   rw [hkN, HN.out, List.take_length] at hX
   have HO : Hid (Mem.Own fB w.heap.size 5 wr _ X) := HOWN
   have HX := Lib.hid hX; clear hX
   clear HOWN hkN
   obtain ⟨A5, c5, rfl⟩ := HO.out.form
   have HBX := HBW
   rcases hends with h3 | h3
   ·go_wp2_with fail
    go_ret
    exact ⟨⟨A5, c5, by rw [← HX.out]; rfl, by rw [← HX.out]; exact (SlB.of_own HO.out).2, by rw [← HX.out]; exact HO.out.cap.1⟩, HBX.out⟩
   ·by_cases h4 : (f : Int) + (k : Int) < (t : Int)
    all_goals
     go_wp2_with fail
     go_ret
     exact ⟨⟨A5, c5, by rw [← HX.out]; rfl, by rw [← HX.out]; exact (SlB.of_own HO.out).2, by rw [← HX.out]; exact HO.out.cap.1⟩, HBX.out⟩
set_option maxHeartbeats 2000000 in
theorem rover_any (A : Option Addr) (c : Nat) (b : List UInt8) (ai : Int) (a : Nat) (ha : ai = a) (ha1 : a ≤ 1000000) (C : Option Addr) (cc : Nat) (d : List UInt8) (w : World) (hs : Sl fB w A b) (ht : Sl fB w C d) (hb : b.length ≤ 1000000) (hd : d.length ≤ 1000000) :
 Calls Tryz.prog 45 #[.slice A b.length c, .int .i64 ai, .slice C d.length cc] w fun e w' => Made w.heap.size (overZ b a d) e w' ∧ Below w.heap.size w w' := by
 subst ha
 obtain ⟨N, hN⟩ : ∃ N, N = (overZ b a d).length := ⟨_, rfl⟩
 have hN2 : N = max b.length (a + d.length) := by rw [hN, overZ_len]
 have HN := Lib.hid hN; clear hN
 have HN2 := Lib.hid hN2; clear hN2
 go_enter Tryz.func45, Tryz.ntmps45
 go_wp2_with fail
 go_loopw [7, 8] (fun ov iv wr => GrowRel w (overZ b a d) N 0 ov iv wr) (fun _ iv _ => N - (intOf iv).toNat)
 case atStart => exact ⟨0, Nat.zero_le _, by simp, by rw [List.take_zero]; exact Own.mk_ (Nat.le_refl _), (Below.refl _ _).alloc (Nat.le_refl _) _⟩
 case round =>
  obtain ⟨k, hk, hiv, hown, hbw⟩ := hrel
  rw [Int.zero_add] at hiv
  subst hiv
  have HOWN := Lib.hid hown; clear hown
  have HBW := Lib.hid hbw; clear hbw
  have hkm : k ≤ 2000000 := by have := HN2.out; omega
  have hpl : ((overZ b a d).take k).length ≤ k := List.length_take_le _ _
  have hsb := hs.below HBW.out
  have htb := ht.below HBW.out
  by_cases c1 : a ≤ k ∧ k < a + d.length
  ·obtain ⟨c1a, c1b⟩ := c1
   have hka : k - a < d.length := by omega
   have i1 : (a : Int) ≤ (k : Int) := by omega
   have i2 : (k : Int) < (a : Int) + (d.length : Int) := by omega
   obtain ⟨bk, o, rfl, _, hc⟩ := htb.at hka
   have hck : wr.cell? ⟨bk, o + (k - a), none⟩ = some (.int .u8 (d[k - a].toNat : Int)) := hc (k - a) hka
   clear hc
   have HS := Lib.hid (take_snoc? (overZ_mid (b := b) c1a hka))
   have e1 : ((k : Int) - (a : Int)).toNat = k - a := by omega
   have i3 : (0 : Int) ≤ (k : Int) - (a : Int) := by omega
   have i4 : (k : Int) - (a : Int) < (d.length : Int) := by omega
   have hkN : k < N := by have := HN2.out; omega
   by_cases c0 : k < b.length
   all_goals
    go_wp2_with (at_builtin; refine wpList_append1t (f := fB) rfl (.tmp 39) (.tmp 46) 36 rfl u8T d[k - a] (fB_one _) rfl HOWN.out rfl rfl (by unfold maxLen; omega) (by omega) HBW.out.size ?_; intro v7 w7 hown7 hg7)
    go_roundw
    case rel => exact ⟨k + 1, by omega, by go_num, by rw [HS.out]; exact hown7, (HBW.out.alloc HBW.out.size _).trans ((HOWN.out.alloc _).below_ (by rw [World.size_alloc]; exact Nat.le_succ_of_le HBW.out.size) hg7)⟩
    case measure => simp [intOf]; omega
  ·have hcc : ¬ ((a : Int) ≤ (k : Int)) ∨ ¬ ((k : Int) < (a : Int) + (d.length : Int)) := by omega
   by_cases c2 : k < b.length
   ·obtain ⟨bk, o, rfl, _, hc⟩ := hsb.at c2
    have hck : wr.cell? ⟨bk, o + k, none⟩ = some (.int .u8 (b[k].toNat : Int)) := hc k c2
    clear hc
    have HS := Lib.hid (take_snoc? (overZ_old (a := a) (c := d) c1 c2))
    have hkN : k < N := by have := HN2.out; omega
    by_cases i1 : (a : Int) ≤ (k : Int)
    ·have i2 : ¬ ((k : Int) < (a : Int) + (d.length : Int)) := by omega
     clear hcc c1
     go_wp2_with (at_builtin; refine wpList_append1t (f := fB) rfl (.tmp 53) (.tmp 58) 36 rfl u8T b[k] (fB_one _) rfl HOWN.out rfl rfl (by unfold maxLen; omega) (by omega) HBW.out.size ?_; intro v7 w7 hown7 hg7)
     go_roundw
     case rel => exact ⟨k + 1, by omega, by go_num, by rw [HS.out]; exact hown7, (HBW.out.alloc HBW.out.size _).trans ((HOWN.out.alloc _).below_ (by rw [World.size_alloc]; exact Nat.le_succ_of_le HBW.out.size) hg7)⟩
     case measure => simp [intOf]; omega
    ·clear hcc c1
     go_wp2_with (at_builtin; refine wpList_append1t (f := fB) rfl (.tmp 53) (.tmp 58) 36 rfl u8T b[k] (fB_one _) rfl HOWN.out rfl rfl (by unfold maxLen; omega) (by omega) HBW.out.size ?_; intro v7 w7 hown7 hg7)
     go_roundw
     case rel => exact ⟨k + 1, by omega, by go_num, by rw [HS.out]; exact hown7, (HBW.out.alloc HBW.out.size _).trans ((HOWN.out.alloc _).below_ (by rw [World.size_alloc]; exact Nat.le_succ_of_le HBW.out.size) hg7)⟩
     case measure => simp [intOf]; omega
   ·by_cases c3 : k < a + d.length
    ·have i1 : ¬ ((a : Int) ≤ (k : Int)) := by omega
     have i2 : (k : Int) < (a : Int) + (d.length : Int) := by omega
     have HS := Lib.hid (take_snoc? (overZ_zero c1 c2 c3))
     have hkN : k < N := by have := HN2.out; omega
     clear hcc c1
     go_wp2_with (at_builtin; refine wpList_append1t (f := fB) rfl (.tmp 24) (.tmp 25) 36 rfl u8T (0 : UInt8) (fB_one _) rfl HOWN.out rfl rfl (by unfold maxLen; omega) (by omega) HBW.out.size ?_; intro v7 w7 hown7 hg7)
     go_roundw
     case rel => exact ⟨k + 1, by omega, by go_num, by rw [HS.out]; exact hown7, (HBW.out.alloc HBW.out.size _).trans ((HOWN.out.alloc _).below_ (by rw [World.size_alloc]; exact Nat.le_succ_of_le HBW.out.size) hg7)⟩
     case measure => simp [intOf]; omega
    ·have hkN : k = N := by have := HN2.out; omega
     have i2 : ¬ ((k : Int) < (a : Int) + (d.length : Int)) := by omega
     obtain ⟨X, hX⟩ : ∃ X, X = (overZ b a d).take k := ⟨_, rfl⟩
     rw [← hX] at HOWN
     rw [hkN, HN.out, List.take_length] at hX
     have HO : Hid (Mem.Own fB w.heap.size 5 wr _ X) := HOWN
     have HX := Lib.hid hX; clear hX
     clear hcc c1 HOWN hkN
     obtain ⟨A5, c5, rfl⟩ := HO.out.form
     go_wp2_with fail
     go_ret
     exact ⟨⟨A5, c5, by rw [← HX.out]; rfl, by rw [← HX.out]; exact (SlB.of_own HO.out).2, by rw [← HX.out]; exact HO.out.cap.1⟩, HBW.out⟩
end Go.Proofs.YtfpomllhkbbipaaGreatDoor
namespace Go.Proofs.YtfpomllhkbbipaaGreatDoor
open Go.RowKit Go.Maps Mem Dsk
theorem RFok.far {G : Nat → Prop} {w : World} {r : RFile} {g : Nat} {t : TypeId} {cs : Array Value} (h : RFok G w r) (hb : Blk w g t cs) (hne : 5 ≠ t) (i : Nat) (u : Value) : RFok G (w.setCell ⟨g, i, none⟩ u) r :=
 ⟨h.now.far hb hne i u, h.safe.far hb hne i u, h.sz, h.cn, h.cs⟩
theorem Files.far {G : Nat → Prop} {w : World} {A : Option Addr} {rs : List RFile} {g : Nat} {t : TypeId} {cs : Array Value} (h : Files G w A rs) (hb : Blk w g t cs) (hn1 : 59 ≠ t) (hne : 5 ≠ t) (i : Nat) (u : Value) : Files G (w.setCell ⟨g, i, none⟩ u) A rs :=
 ⟨h.1.far hb (.inl hn1) i u, fun r hr => (h.2 r hr).far hb hne i u⟩
theorem sname_arr (l : Name) : sname ⟨l.toArray⟩ = l := by unfold sname; simp
def insF (f : RFile) : List RFile → List RFile
 | [] => [f]
 | y :: r => if lt f.file.name y.file.name then f :: y :: r else y :: insF f r
theorem insF_file (f : RFile) (rs : List RFile) : (insF f rs).map RFile.file = ins f.file (rs.map RFile.file) := by
 induction rs with
 | nil => rfl
 | cons y r ih => unfold insF; rw [List.map_cons]; unfold ins; split <;> simp [ih]
theorem insF_none {f : RFile} {l : List RFile} (h : ∀ y ∈ l, lt f.file.name y.file.name = false) : insF f l = l ++ [f] := by
 induction l with
 | nil => rfl
 | cons y r ih => unfold insF; rw [h y (by simp)]; simp [ih (fun z hz => h z (by simp [hz]))]
theorem insF_here {f z : RFile} {l : List RFile} (h : ∀ y ∈ l, lt f.file.name y.file.name = false) (hz : lt f.file.name z.file.name = true) : insF f (l ++ [z]) = l ++ [f] ++ [z] := by
 induction l with
 | nil => show insF f [z] = _; unfold insF; rw [hz]; rfl
 | cons y r ih => rw [List.cons_append]; unfold insF; rw [h y (by simp)]; simp [ih (fun z hz => h z (by simp [hz]))]
theorem insF_done {f z : RFile} {l : List RFile} (h : ∃ y ∈ l, lt f.file.name y.file.name = true) : insF f (l ++ [z]) = insF f l ++ [z] := by
 induction l with
 | nil => obtain ⟨y, hy, _⟩ := h; cases hy
 | cons y r ih =>
   rw [List.cons_append]; unfold insF
   by_cases e : lt f.file.name y.file.name = true
   ·rw [e]; rfl
   ·have e : lt f.file.name y.file.name = false := by simpa using e
    rw [e]
    obtain ⟨q, hq, hl⟩ := h
    rcases List.mem_cons.1 hq with rfl | hq
    ·rw [e] at hl; cases hl
    ·simp [ih ⟨q, hq, hl⟩]
theorem insF_len (f : RFile) (l : List RFile) : (insF f l).length = l.length + 1 := by
 have := congrArg List.length (insF_file f l); rw [List.length_map, ins_len, List.length_map] at this; exact this
theorem insF_mem {f x : RFile} {l : List RFile} (h : x ∈ insF f l) : x = f ∨ x ∈ l := by
 induction l with
 | nil => simp [insF] at h; exact .inl h
 | cons y r ih =>
   unfold insF at h
   split at h
   ·simp at h; rcases h with h | h | h
    ·exact .inl h
    ·exact .inr (by simp [h])
    ·exact .inr (by simp [h])
   ·simp at h; rcases h with h | h
    ·exact .inr (by simp [h])
    ·rcases ih h with h | h
     ·exact .inl h
     ·exact .inr (by simp [h])
def wiList (f : RFile) (rs : List RFile) (k : Nat) (dn : Bool) : List RFile := if dn then insF f (rs.take k) else rs.take k
def WiInv (f : RFile) (rs : List RFile) (k : Nat) (dn : Bool) : Prop := if dn then ∃ y ∈ rs.take k, lt f.file.name y.file.name = true else ∀ y ∈ rs.take k, lt f.file.name y.file.name = false
def WiRel (w0 : World) (f : RFile) (rs : List RFile) (ov dv iv : Value) (wr : World) : Prop :=
 ∃ (k : Nat) (dn : Bool), k ≤ rs.length ∧ iv = .int .i64 k ∧ dv = .bool dn ∧ WiInv f rs k dn ∧ OwnK 3 RFile.cells w0.heap.size 59 wr ov (wiList f rs k dn) ∧ Below w0.heap.size w0 wr
theorem wi_len (f : RFile) (rs : List RFile) (k : Nat) (dn : Bool) : (wiList f rs k dn).length ≤ k + 1 := by
 unfold wiList; split
 ·rw [insF_len]; have := List.length_take_le k rs; omega
 ·have := List.length_take_le k rs; omega
theorem wi_mid {f : RFile} {rs : List RFile} {k : Nat} (h : k < rs.length) (hi : WiInv f rs k false) (hz : lt f.file.name rs[k].file.name = true) : wiList f rs (k + 1) true = wiList f rs k false ++ [f] ++ [rs[k]] ∧ WiInv f rs (k + 1) true := by
 unfold wiList WiInv
 simp only [Bool.false_eq_true, if_false, if_true] at *
 unfold WiInv at hi; simp at hi
 rw [List.take_succ_eq_append_getElem h]
 exact ⟨insF_here hi hz, rs[k], List.mem_append_right _ (List.mem_singleton.2 rfl), hz⟩
theorem wi_not {f : RFile} {rs : List RFile} {k : Nat} (h : k < rs.length) (hi : WiInv f rs k false) (hz : lt f.file.name rs[k].file.name = false) : wiList f rs (k + 1) false = wiList f rs k false ++ [rs[k]] ∧ WiInv f rs (k + 1) false := by
 unfold wiList WiInv
 unfold WiInv at hi; simp at hi
 simp only [Bool.false_eq_true, if_false]
 rw [List.take_succ_eq_append_getElem h]
 refine ⟨rfl, fun y hy => ?_⟩
 rcases List.mem_append.1 hy with hy | hy
 ·exact hi y hy
 ·simp at hy; rw [hy]; exact hz
theorem wi_done {f : RFile} {rs : List RFile} {k : Nat} (h : k < rs.length) (hi : WiInv f rs k true) : wiList f rs (k + 1) true = wiList f rs k true ++ [rs[k]] ∧ WiInv f rs (k + 1) true := by
 unfold wiList WiInv
 unfold WiInv at hi; simp at hi
 simp only [if_true]
 rw [List.take_succ_eq_append_getElem h]
 obtain ⟨y, hy, hl⟩ := hi
 exact ⟨insF_done ⟨y, hy, hl⟩, y, List.mem_append_left _ hy, hl⟩
set_option maxHeartbeats 4000000 in
theorem With_any {G : Nat → Prop} {w : World} (A : Option Addr) (c : Nat) (rs : List RFile) (h : Files G w A rs) (hct : rs.length ≤ 100000) (s : S) (hs : rs.map RFile.file = s.files) (f : RFile) (hf : RFok G w f) :
 Calls Tryz.prog 99 #[.agg #[.slice A rs.length c, .bool s.down, .int .i64 s.fuse], .agg #[.string ⟨f.file.name.toArray⟩, .slice f.A f.file.now.length f.c, .slice f.B f.file.safe.length f.d]] w (RefPost G { s with files := put f.file s.files } w) := by
 have hl := h.1.len
 have HF := Lib.hid h; clear h
 have HS := Lib.hid hs; clear hs
 have HFF := Lib.hid hf; clear hf
 go_enter Tryz.func99, Tryz.ntmps99
 go_wp2_with fail
 obtain ⟨wa, hwa⟩ : ∃ wa, wa = ((w.alloc (.cells #[.slice A rs.length c, .bool s.down, .int .i64 s.fuse] 32)).alloc (.cells #[.string ⟨f.file.name.toArray⟩, .slice f.A f.file.now.length f.c, .slice f.B f.file.safe.length f.d] 59)).alloc (.cells #[.slice none 0 0, .bool false, .int .i64 0] 32) := ⟨_, rfl⟩
 rw [← hwa]
 have hz : wa.heap.size = w.heap.size + 1 + 1 + 1 := by rw [hwa]; simp
 have hab : Below w.heap.size w wa := by rw [hwa]; exact (((Below.refl _ _).alloc (Nat.le_refl _) _).alloc (by simp) _).alloc (by simp; omega) _
 have hbd : Blk wa w.heap.size 32 #[.slice A rs.length c, .bool s.down, .int .i64 s.fuse] := by rw [hwa]; exact ((Blk.new_ w _ _).alloc _).alloc _
 have hbf : Blk wa (w.heap.size + 1) 59 #[.string ⟨f.file.name.toArray⟩, .slice f.A f.file.now.length f.c, .slice f.B f.file.safe.length f.d] := by
  have := Blk.new_ (w.alloc (.cells #[.slice A rs.length c, .bool s.down, .int .i64 s.fuse] 32)) 59 #[.string ⟨f.file.name.toArray⟩, .slice f.A f.file.now.length f.c, .slice f.B f.file.safe.length f.d]
  rw [World.size_alloc] at this; rw [hwa]; exact this.alloc _
 have hbr : Blk wa (w.heap.size + 1 + 1) 32 #[.slice none 0 0, .bool false, .int .i64 0] := by
  have := Blk.new_ ((w.alloc (.cells #[.slice A rs.length c, .bool s.down, .int .i64 s.fuse] 32)).alloc (.cells #[.string ⟨f.file.name.toArray⟩, .slice f.A f.file.now.length f.c, .slice f.B f.file.safe.length f.d] 59)) 32 #[.slice none 0 0, .bool false, .int .i64 0]
  rw [World.size_alloc, World.size_alloc] at this; rw [hwa]; exact this
 have hwo := Without_any A c rs (HF.out.below hab) hct s HS.out ⟨f.file.name.toArray⟩
 have HZ := Lib.hid hz; clear hz hwa
 have HAB := Lib.hid hab; clear hab
 have HBD := Lib.hid hbd; clear hbd
 have HBF := Lib.hid hbf; clear hbf
 have HBR := Lib.hid hbr; clear hbr
 have HWO := Lib.hid hwo; clear hwo
 (with_reducible refine HWO.out.mono ?_); rintro e w1 ⟨v1, rfl, ⟨A1, c1, rs1, rfl, hf1, hm1⟩, hb1⟩
 have hbd1 := HBD.out.below hb1 HBD.out.lt
 have d0 : w1.cell? ⟨w.heap.size, 0, none⟩ = some (.slice A rs.length c) := hbd1.cell 0
 have d1 : w1.cell? ⟨w.heap.size, 1, none⟩ = some (.bool s.down) := hbd1.cell 1
 have d2 : w1.cell? ⟨w.heap.size, 2, none⟩ = some (.int .i64 s.fuse) := hbd1.cell 2
 have g0 := hbd1.free 0
 have g1 := hbd1.free 1
 have g2 := hbd1.free 2
 have HBD1 := Lib.hid hbd1; clear hbd1
 have HB1 := Lib.hid hb1; clear hb1
 have HF1 := Lib.hid hf1; clear hf1
 have HM1 := Lib.hid hm1; clear hm1 HWO
 go_wp2_with fail
 obtain ⟨wB, hwB⟩ : ∃ wB, wB = ((w1.setCell ⟨w.heap.size, 0, none⟩ (.slice A1 rs1.length c1)).setCell ⟨w.heap.size, 1, none⟩ (.bool s.down)).setCell ⟨w.heap.size, 2, none⟩ (.int .i64 s.fuse) := ⟨_, rfl⟩
 rw [← hwB]
 have hzB : wB.heap.size = w1.heap.size := by rw [hwB]; simp
 have hbB : Below w.heap.size w wB := by rw [hwB]; exact (((HAB.out.trans (HB1.out.mono HAB.out.size)).setCell (Nat.le_refl _) _).setCell (Nat.le_refl _) _).setCell (Nat.le_refl _) _
 have hbdB : Blk wB w.heap.size 32 #[.slice A1 rs1.length c1, .bool s.down, .int .i64 s.fuse] := by
  have := ((HBD1.out.set_ 0 (.slice A1 rs1.length c1)).set_ 1 (.bool s.down)).set_ 2 (.int .i64 s.fuse)
  rw [hwB]; exact this
 have hs1 := HBD1.out.set_ 0 (.slice A1 rs1.length c1)
 have hs2 := hs1.set_ 1 (.bool s.down)
 have hbf1 := HBF.out.below HB1.out HBF.out.lt
 have hbr1 := HBR.out.below HB1.out HBR.out.lt
 have hbfB : Blk wB (w.heap.size + 1) 59 #[.string ⟨f.file.name.toArray⟩, .slice f.A f.file.now.length f.c, .slice f.B f.file.safe.length f.d] := by
  rw [hwB]; exact ((hbf1.far (p := ⟨w.heap.size, 0, none⟩) (Nat.succ_ne_self _) _).far (p := ⟨w.heap.size, 1, none⟩) (Nat.succ_ne_self _) _).far (p := ⟨w.heap.size, 2, none⟩) (Nat.succ_ne_self _) _
 have hbrB : Blk wB (w.heap.size + 1 + 1) 32 #[.slice none 0 0, .bool false, .int .i64 0] := by
  rw [hwB]; exact ((hbr1.far (p := ⟨w.heap.size, 0, none⟩) (show w.heap.size + 1 + 1 ≠ w.heap.size by omega) _).far (p := ⟨w.heap.size, 1, none⟩) (show w.heap.size + 1 + 1 ≠ w.heap.size by omega) _).far (p := ⟨w.heap.size, 2, none⟩) (show w.heap.size + 1 + 1 ≠ w.heap.size by omega) _
 have hfB : Files (up G wa) wB A1 rs1 := by
  rw [hwB]; exact ((HF1.out.far HBD1.out (by decide) (by decide) 0 _).far hs1 (by decide) (by decide) 1 _).far hs2 (by decide) (by decide) 2 _
 have hffB : RFok G wB f := HFF.out.below hbB
 have hst : OwnK 3 RFile.cells wB.heap.size 59 (wB.alloc (.cells #[] 59)) (.slice (some ⟨w1.heap.size, 0, none⟩) 0 0) ([] : List RFile) := by rw [← hzB]; exact OwnK.mk_ (Nat.le_refl _)
 have hlt1 : w.heap.size + 1 + 1 < wB.heap.size := hbrB.lt
 have hl1 : rs1.length ≤ 100000 := by
  have := congrArg List.length HM1.out
  rw [List.length_map] at this
  have h2 := congrArg List.length HS.out
  rw [List.length_map] at h2
  have h3 := del_len_le (sname ⟨f.file.name.toArray⟩) s.files
  show rs1.length ≤ _
  rw [this]; show (del _ s.files).length ≤ _; omega
 clear hs1 hs2 hbf1 hbr1 d0 d1 d2 g0 g1 g2
 have HST := Lib.hid hst; clear hst
 have HZB := Lib.hid hzB; clear hzB hwB
 have HBB := Lib.hid hbB; clear hbB
 have HBDB := Lib.hid hbdB; clear hbdB
 have HBFB := Lib.hid hbfB; clear hbfB
 have HBRB := Lib.hid hbrB; clear hbrB
 have HFB := Lib.hid hfB; clear hfB
 have HFFB := Lib.hid hffB; clear hffB HB1 HBD HBF HBR HBD1 HF1 HF HFF
 go_loopw [5, 6, 7] (fun ov dv iv wr => WiRel wB f rs1 ov dv iv wr) (fun _ _ iv _ => rs1.length - (intOf iv).toNat)
 case atStart => exact ⟨0, false, Nat.zero_le _, rfl, rfl, by unfold WiInv; simp, HST.out, (Below.refl _ _).alloc (Nat.le_refl _) _⟩
 case round =>
  obtain ⟨k, dn, hk, rfl, rfl, hinv, hown, hbw⟩ := hrel
  have HOWN := Lib.hid hown; clear hown
  have HBW := Lib.hid hbw; clear hbw
  have HINV := Lib.hid hinv; clear hinv
  have hbd := HBDB.out.below HBW.out HBDB.out.lt
  have hbf := HBFB.out.below HBW.out HBFB.out.lt
  have hbr := HBRB.out.below HBW.out HBRB.out.lt
  have b0 : wr.cell? ⟨w.heap.size, 0, none⟩ = some (.slice A1 rs1.length c1) := hbd.cell 0
  have f0 : wr.cell? ⟨w.heap.size + 1, 0, none⟩ = some (.string ⟨f.file.name.toArray⟩) := hbf.cell 0
  have f1 : wr.cell? ⟨w.heap.size + 1, 1, none⟩ = some (.slice f.A f.file.now.length f.c) := hbf.cell 1
  have f2 : wr.cell? ⟨w.heap.size + 1, 2, none⟩ = some (.slice f.B f.file.safe.length f.d) := hbf.cell 2
  have hwl := wi_len f rs1 k dn
  by_cases hlt : k < rs1.length
  ·obtain ⟨b, o, rfl, _, hbs, hc⟩ := HFB.out.1.at hlt
   have C0 : Hid (wB.cell? ⟨b, o + k * 3, none⟩ = some (.string ⟨rs1[k].file.name.toArray⟩)) := hc 0 (by decide)
   have C1 : Hid (wB.cell? ⟨b, o + k * 3 + 1, none⟩ = some (.slice rs1[k].A rs1[k].file.now.length rs1[k].c)) := hc 1 (by decide)
   have C2 : Hid (wB.cell? ⟨b, o + k * 3 + 2, none⟩ = some (.slice rs1[k].B rs1[k].file.safe.length rs1[k].d)) := hc 2 (by decide)
   have c0 := (HBW.out.cell (p := ⟨b, o + k * 3, none⟩) hbs).trans C0.out
   have c1' := (HBW.out.cell (p := ⟨b, o + k * 3 + 1, none⟩) hbs).trans C1.out
   have c2 := (HBW.out.cell (p := ⟨b, o + k * 3 + 2, none⟩) hbs).trans C2.out
   clear hc
   cases dn
   ·cases hlt2 : lt f.file.name rs1[k].file.name
    ·have t1 : Op.bytesLess f.file.name rs1[k].file.name = false := hlt2
     have HW := Lib.hid (wi_not hlt HINV.out hlt2); clear hlt2
     go_wp2_with fail
     go_quiet (fail)
     go_wp2_with (at_builtin; refine wpList_appendK1 (f := RFile.cells) rfl (.tmp 37) (.tmp 43) 30 rfl fileT rs1[k] rfl (rcells_one _) rfl (HOWN.out.drewN nq) rfl rfl rfl (by unfold maxLen; omega) (by omega) (below_drewN HBW.out nq).size ?_; intro v7 w7 hown7 hg7)
     go_roundw
     case rel => exact ⟨k + 1, false, by omega, by go_num, rfl, HW.out.2, by rw [HW.out.1]; exact hown7, ((below_drewN HBW.out nq).alloc (below_drewN HBW.out nq).size _).trans (((HOWN.out.drewN nq).alloc _).below_ (by rw [World.size_alloc]; exact Nat.le_succ_of_le (below_drewN HBW.out nq).size) hg7)⟩
     case measure => simp [intOf]; omega
    ·have t1 : Op.bytesLess f.file.name rs1[k].file.name = true := hlt2
     have HW := Lib.hid (wi_mid hlt HINV.out hlt2); clear hlt2
     have hbd0 := HBDB.out.lt
     go_wp2_with fail
     go_quiet (fail)
     have hfc : (#[Value.string ⟨f.file.name.toArray⟩, .slice f.A f.file.now.length f.c, .slice f.B f.file.safe.length f.d] : Array Value) = f.cells.toArray := rfl
     have HFC := Lib.hid hfc; clear hfc
     go_wp2_with (first | (at_builtin; refine wpList_appendK1 (f := RFile.cells) rfl (.tmp 33) (.tmp 35) 30 rfl fileT f rfl (rcells_one _) rfl (HOWN.out.drewN nq) HFC.out rfl rfl (by unfold maxLen; omega) (by omega) (below_drewN HBW.out nq).size ?_; intro v6 w6 hown6 hg6; have hb6 := ((below_drewN HBW.out nq).alloc (below_drewN HBW.out nq).size _).trans (((HOWN.out.drewN nq).alloc _).below_ (by rw [World.size_alloc]; exact Nat.le_succ_of_le (below_drewN HBW.out nq).size) hg6); have b06 : w6.cell? ⟨w.heap.size, 0, none⟩ = some (.slice (some ⟨b, o, none⟩) rs1.length c1) := (HBDB.out.below hb6 hbd0).cell 0; have c06 := (hb6.cell (p := ⟨b, o + k * 3, none⟩) hbs).trans C0.out; have c16 := (hb6.cell (p := ⟨b, o + k * 3 + 1, none⟩) hbs).trans C1.out; have c26 := (hb6.cell (p := ⟨b, o + k * 3 + 2, none⟩) hbs).trans C2.out; have hl6 : (wiList f rs1 k false ++ [f]).length ≤ k + 2 := (by simp; omega)) | (at_builtin; refine wpList_appendK1 (f := RFile.cells) rfl (.tmp 37) (.tmp 43) 30 rfl fileT rs1[k] rfl (rcells_one _) rfl hown6 rfl rfl rfl (by unfold maxLen; omega) (by omega) hb6.size ?_; intro v7 w7 hown7 hg7))
     go_roundw
     case rel => exact ⟨k + 1, true, by omega, by go_num, rfl, HW.out.2, by rw [HW.out.1]; exact hown7, (hb6.alloc hb6.size _).trans ((hown6.alloc _).below_ (by rw [World.size_alloc]; exact Nat.le_succ_of_le hb6.size) hg7)⟩
     case measure => simp [intOf]; omega
   ·have HW := Lib.hid (wi_done hlt HINV.out)
    go_wp2_with fail
    go_quiet (fail)
    go_wp2_with (at_builtin; refine wpList_appendK1 (f := RFile.cells) rfl (.tmp 37) (.tmp 43) 30 rfl fileT rs1[k] rfl (rcells_one _) rfl (HOWN.out.drewN nq) rfl rfl rfl (by unfold maxLen; omega) (by omega) (below_drewN HBW.out nq).size ?_; intro v7 w7 hown7 hg7)
    go_roundw
    case rel => exact ⟨k + 1, true, by omega, by go_num, rfl, HW.out.2, by rw [HW.out.1]; exact hown7, ((below_drewN HBW.out nq).alloc (below_drewN HBW.out nq).size _).trans (((HOWN.out.drewN nq).alloc _).below_ (by rw [World.size_alloc]; exact Nat.le_succ_of_le (below_drewN HBW.out nq).size) hg7)⟩
    case measure => simp [intOf]; omega
  ·have hkk : k = rs1.length := by omega
   have hbd0 := HBDB.out.lt
   cases dn
   ·have hins : wiList f rs1 k false ++ [f] = insF f rs1 := by
     have h1 := HINV.out; unfold WiInv at h1; simp only [Bool.false_eq_true, if_false] at h1
     rw [hkk, List.take_length] at h1
     rw [insF_none h1]; unfold wiList; simp [hkk]
    have HINS := Lib.hid hins; clear hins hkk
    have hfc : (#[Value.string ⟨f.file.name.toArray⟩, .slice f.A f.file.now.length f.c, .slice f.B f.file.safe.length f.d] : Array Value) = f.cells.toArray := rfl
    have HFC := Lib.hid hfc; clear hfc
    go_upto_region 13 with (at_builtin; refine wpList_appendK1 (f := RFile.cells) rfl (.tmp 47) (.tmp 49) 30 rfl fileT f rfl (rcells_one _) rfl HOWN.out HFC.out rfl rfl (by unfold maxLen; omega) (by omega) HBW.out.size ?_; intro v6 w6 hown6 hg6)
    rw [HINS.out] at hown6
    have HO := Lib.hid hown6
    have HBZ : Hid (Below wB.heap.size wB w6) := (HBW.out.alloc HBW.out.size _).trans ((HOWN.out.alloc _).below_ (by rw [World.size_alloc]; exact Nat.le_succ_of_le HBW.out.size) hg6)
    clear hown6 hg6 HOWN HBW hbd hbf hbr b0 f0 f1 f2 HFC HINS hwl
    obtain ⟨WZ, rfl⟩ : ∃ x : World, x = w6 := ⟨_, rfl⟩
    have hbdZ := HBDB.out.below HBZ.out HBDB.out.lt
    have hbrZ := HBRB.out.below HBZ.out HBRB.out.lt
    have z0 : WZ.cell? ⟨w.heap.size, 0, none⟩ = some (.slice A1 rs1.length c1) := hbdZ.cell 0
    have z1 : WZ.cell? ⟨w.heap.size, 1, none⟩ = some (.bool s.down) := hbdZ.cell 1
    have z2 : WZ.cell? ⟨w.heap.size, 2, none⟩ = some (.int .i64 s.fuse) := hbdZ.cell 2
    have y0 := hbdZ.free 0
    have r0 : WZ.cell? ⟨w.heap.size + 1 + 1, 0, none⟩ = some (.slice none 0 0) := hbrZ.cell 0
    have r1 : WZ.cell? ⟨w.heap.size + 1 + 1, 1, none⟩ = some (.bool false) := hbrZ.cell 1
    have r2 : WZ.cell? ⟨w.heap.size + 1 + 1, 2, none⟩ = some (.int .i64 0) := hbrZ.cell 2
    have q0 := hbrZ.free 0
    have q1 := hbrZ.free 1
    have q2 := hbrZ.free 2
    have HBDZ := Lib.hid hbdZ; clear hbdZ
    have HBRZ := Lib.hid hbrZ; clear hbrZ
    obtain ⟨A5, c5, rfl⟩ := HO.out.form
    go_wp2_with fail
    have hbw1 : Below w.heap.size w WZ := HBB.out.trans (HBZ.out.mono HBB.out.size)
    refine bodyPost_ret (v := .agg #[.slice A5 (insF f rs1).length c5, .bool s.down, .int .i64 s.fuse]) (by simp [results, Tryz.results99, go_sem, r0, r1, r2]) rfl ?_
    have n1 : w.heap.size ≤ w.heap.size + 1 + 1 := by omega
    have n2 : w.heap.size < wB.heap.size := by omega
    have hbz := (((hbw1.setCell (p := ⟨w.heap.size, 0, none⟩) (Nat.le_refl _) (.slice A5 (insF f rs1).length c5)).setCell (p := ⟨w.heap.size + 1 + 1, 0, none⟩) n1 (.slice A5 (insF f rs1).length c5)).setCell (p := ⟨w.heap.size + 1 + 1, 1, none⟩) n1 (.bool s.down)).setCell (p := ⟨w.heap.size + 1 + 1, 2, none⟩) n1 (.int .i64 s.fuse)
    have hoz := (((HO.out.setLow (p := ⟨w.heap.size, 0, none⟩) n2 (.slice A5 (insF f rs1).length c5)).setLow (p := ⟨w.heap.size + 1 + 1, 0, none⟩) hlt1 (.slice A5 (insF f rs1).length c5)).setLow (p := ⟨w.heap.size + 1 + 1, 1, none⟩) hlt1 (.bool s.down)).setLow (p := ⟨w.heap.size + 1 + 1, 2, none⟩) hlt1 (.int .i64 s.fuse)
    have k1 := HBRZ.out.far (p := ⟨w.heap.size, 0, none⟩) (show w.heap.size + 1 + 1 ≠ w.heap.size by omega) (.slice A5 (insF f rs1).length c5)
    have k2 := k1.set_ 0 (.slice A5 (insF f rs1).length c5)
    have k3 := k2.set_ 1 (.bool s.down)
    refine refPost_mk (s := { s with files := put f.file s.files }) hbz (hoz.base_ HBB.out.size) (fun r hr => ?_) ?_
    ·have far : ∀ {G' : Nat → Prop}, RFok G' WZ r → RFok G' ((((WZ.setCell ⟨w.heap.size, 0, none⟩ (.slice A5 (insF f rs1).length c5)).setCell ⟨w.heap.size + 1 + 1, 0, none⟩ (.slice A5 (insF f rs1).length c5)).setCell ⟨w.heap.size + 1 + 1, 1, none⟩ (.bool s.down)).setCell ⟨w.heap.size + 1 + 1, 2, none⟩ (.int .i64 s.fuse)) r :=
      fun h => (((h.far HBDZ.out (by decide) 0 _).far k1 (by decide) 0 _).far k2 (by decide) 1 _).far k3 (by decide) 2 _
     rcases insF_mem hr with rfl | hr
     ·exact (far (HFFB.out.below HBZ.out)).mono (fun _ _ h => .inl h)
     ·exact (far ((HFB.out.2 r hr).below HBZ.out)).mono (fun _ _ h => h.elim .inl (fun h2 => .inr (Nat.le_trans HAB.out.size h2)))
    ·rw [insF_file, HM1.out]
     show ins f.file (del (sname ⟨f.file.name.toArray⟩) s.files) = _
     rw [sname_arr]; rfl
   ·have hins : wiList f rs1 k true = insF f rs1 := by unfold wiList; simp [hkk]
    have HINS := Lib.hid hins; clear hins hkk
    go_upto_region 13 with fail
    have HO := HOWN
    rw [HINS.out] at HO
    have HBZ := HBW
    clear HOWN HBW hbd hbf hbr b0 f0 f1 f2 HINS hwl
    obtain ⟨WZ, rfl⟩ : ∃ x : World, x = wr := ⟨_, rfl⟩
    have hbdZ := HBDB.out.below HBZ.out HBDB.out.lt
    have hbrZ := HBRB.out.below HBZ.out HBRB.out.lt
    have z0 : WZ.cell? ⟨w.heap.size, 0, none⟩ = some (.slice A1 rs1.length c1) := hbdZ.cell 0
    have z1 : WZ.cell? ⟨w.heap.size, 1, none⟩ = some (.bool s.down) := hbdZ.cell 1
    have z2 : WZ.cell? ⟨w.heap.size, 2, none⟩ = some (.int .i64 s.fuse) := hbdZ.cell 2
    have y0 := hbdZ.free 0
    have r0 : WZ.cell? ⟨w.heap.size + 1 + 1, 0, none⟩ = some (.slice none 0 0) := hbrZ.cell 0
    have r1 : WZ.cell? ⟨w.heap.size + 1 + 1, 1, none⟩ = some (.bool false) := hbrZ.cell 1
    have r2 : WZ.cell? ⟨w.heap.size + 1 + 1, 2, none⟩ = some (.int .i64 0) := hbrZ.cell 2
    have q0 := hbrZ.free 0
    have q1 := hbrZ.free 1
    have q2 := hbrZ.free 2
    have HBDZ := Lib.hid hbdZ; clear hbdZ
    have HBRZ := Lib.hid hbrZ; clear hbrZ
    obtain ⟨A5, c5, rfl⟩ := HO.out.form
    go_wp2_with fail
    have hbw1 : Below w.heap.size w WZ := HBB.out.trans (HBZ.out.mono HBB.out.size)
    refine bodyPost_ret (v := .agg #[.slice A5 (insF f rs1).length c5, .bool s.down, .int .i64 s.fuse]) (by simp [results, Tryz.results99, go_sem, r0, r1, r2]) rfl ?_
    have n1 : w.heap.size ≤ w.heap.size + 1 + 1 := by omega
    have n2 : w.heap.size < wB.heap.size := by omega
    have hbz := (((hbw1.setCell (p := ⟨w.heap.size, 0, none⟩) (Nat.le_refl _) (.slice A5 (insF f rs1).length c5)).setCell (p := ⟨w.heap.size + 1 + 1, 0, none⟩) n1 (.slice A5 (insF f rs1).length c5)).setCell (p := ⟨w.heap.size + 1 + 1, 1, none⟩) n1 (.bool s.down)).setCell (p := ⟨w.heap.size + 1 + 1, 2, none⟩) n1 (.int .i64 s.fuse)
    have hoz := (((HO.out.setLow (p := ⟨w.heap.size, 0, none⟩) n2 (.slice A5 (insF f rs1).length c5)).setLow (p := ⟨w.heap.size + 1 + 1, 0, none⟩) hlt1 (.slice A5 (insF f rs1).length c5)).setLow (p := ⟨w.heap.size + 1 + 1, 1, none⟩) hlt1 (.bool s.down)).setLow (p := ⟨w.heap.size + 1 + 1, 2, none⟩) hlt1 (.int .i64 s.fuse)
    have k1 := HBRZ.out.far (p := ⟨w.heap.size, 0, none⟩) (show w.heap.size + 1 + 1 ≠ w.heap.size by omega) (.slice A5 (insF f rs1).length c5)
    have k2 := k1.set_ 0 (.slice A5 (insF f rs1).length c5)
    have k3 := k2.set_ 1 (.bool s.down)
    refine refPost_mk (s := { s with files := put f.file s.files }) hbz (hoz.base_ HBB.out.size) (fun r hr => ?_) ?_
    ·have far : ∀ {G' : Nat → Prop}, RFok G' WZ r → RFok G' ((((WZ.setCell ⟨w.heap.size, 0, none⟩ (.slice A5 (insF f rs1).length c5)).setCell ⟨w.heap.size + 1 + 1, 0, none⟩ (.slice A5 (insF f rs1).length c5)).setCell ⟨w.heap.size + 1 + 1, 1, none⟩ (.bool s.down)).setCell ⟨w.heap.size + 1 + 1, 2, none⟩ (.int .i64 s.fuse)) r :=
      fun h => (((h.far HBDZ.out (by decide) 0 _).far k1 (by decide) 0 _).far k2 (by decide) 1 _).far k3 (by decide) 2 _
     rcases insF_mem hr with rfl | hr
     ·exact (far (HFFB.out.below HBZ.out)).mono (fun _ _ h => .inl h)
     ·exact (far ((HFB.out.2 r hr).below HBZ.out)).mono (fun _ _ h => h.elim .inl (fun h2 => .inr (Nat.le_trans HAB.out.size h2)))
    ·rw [insF_file, HM1.out]
     show ins f.file (del (sname ⟨f.file.name.toArray⟩) s.files) = _
     rw [sname_arr]; rfl
end Go.Proofs.YtfpomllhkbbipaaGreatDoor
namespace Go.Proofs.YtfpomllhkbbipaaGreatDoor
open Go.RowKit Go.Maps Mem Dsk
def StepRef (A : Option Addr) (n c : Nat) (s : S) (w : World) (e : Ending) (w' : World) : Prop :=
 e = .returned (.agg #[.slice A n c, .bool (Dsk.step s).down, .int .i64 (Dsk.step s).fuse]) ∧ Below w.heap.size w w'
set_option maxHeartbeats 1000000 in
theorem Step_any (A : Option Addr) (n c : Nat) (s : S) (hf : s.fuse ≤ 9223372036854775807) (w : World) :
 Calls Tryz.prog 97 #[.agg #[.slice A n c, .bool s.down, .int .i64 s.fuse]] w (StepRef A n c s w) := by
 obtain ⟨files, down, fuse⟩ := s
 simp only at hf
 by_cases h : 0 < fuse ∧ down = false
 ·obtain ⟨h1, rfl⟩ := h
  have hst := step_yes (s := ⟨files, false, fuse⟩) ⟨h1, rfl⟩
  have e1 : (Dsk.step ⟨files, false, fuse⟩).down = ((fuse : Int) - 1 == 0) := by rw [hst]; exact (fuse_test h1).symm
  have e2 : ((Dsk.step ⟨files, false, fuse⟩).fuse : Int) = (fuse : Int) - 1 := by rw [hst]; exact (fuse_pred h1).symm
  have t1 : ((fuse : Int) == 0) = false := by rw [beq_eq_false_iff_ne]; omega
  have E1 := Lib.hid e1; clear e1
  have E2 := Lib.hid e2; clear e2 hst
  go_enter Tryz.func97, Tryz.ntmps97
  go_wp2_with fail
  refine bodyPost_ret (v := .agg #[.slice A n c, .bool ((fuse : Int) - 1 == 0), .int .i64 ((fuse : Int) - 1)]) (by simp [results, Tryz.results97, go_sem]) rfl ?_
  exact ⟨by rw [E1.out, E2.out], ((Below.refl _ _).alloc (Nat.le_refl _) _).alloc (by simp) _⟩
 ·have hst := step_no (s := ⟨files, down, fuse⟩) h
  have HST := Lib.hid hst; clear hst
  by_cases hd : down = true
  ·subst hd
   clear h
   go_enter Tryz.func97, Tryz.ntmps97
   go_wp2_with fail
   refine bodyPost_ret (v := .agg #[.slice A n c, .bool true, .int .i64 fuse]) (by simp [results, Tryz.results97, go_sem]) rfl ?_
   exact ⟨by rw [HST.out], ((Below.refl _ _).alloc (Nat.le_refl _) _).alloc (by simp) _⟩
  ·have hd : down = false := by simpa using hd
   subst hd
   have h0 : fuse = 0 := Nat.eq_zero_of_not_pos (fun h1 => h ⟨h1, rfl⟩)
   subst h0
   clear h hd
   go_enter Tryz.func97, Tryz.ntmps97
   go_wp2_with fail
   refine bodyPost_ret (v := .agg #[.slice A n c, .bool false, .int .i64 0]) (by simp [results, Tryz.results97, go_sem]) rfl ?_
   exact ⟨by rw [HST.out]; rfl, ((Below.refl _ _).alloc (Nat.le_refl _) _).alloc (by simp) _⟩
end Go.Proofs.YtfpomllhkbbipaaGreatDoor
