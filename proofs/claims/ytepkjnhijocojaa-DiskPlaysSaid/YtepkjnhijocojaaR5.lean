/- Layer 5's document: a disk as a value; its walks. -/
import Derived.Test.YtepkjnhijocojaaRow
import Derived.Test.YtepkjnhijocojaaDskA
import Derived.Lib.Strings
namespace Go.Proofs.Ytepkjnhijocojaa
open Go.RowKit Go.Maps Mem Dsk

/-- a file of the document's, and where its bytes lie -/
structure RFile where
  file : File
  A : Option Addr
  c : Nat
  B : Option Addr
  d : Nat
def RFile.cells (r : RFile) : List Value := [.string ⟨r.file.name.toArray⟩, .slice r.A r.file.now.length r.c, .slice r.B r.file.safe.length r.d]
theorem rcells_len (r : RFile) : r.cells.length = 3 := rfl
theorem rcells_one (r : RFile) : ∀ y ∈ r.cells, y.oneCell' = true := by
  intro y hy
  simp [RFile.cells] at hy
  rcases hy with rfl | rfl | rfl <;> rfl
structure RFok (G : Nat → Prop) (w : World) (r : RFile) : Prop where
  now : SlB fB 5 G w r.A r.file.now
  safe : SlB fB 5 G w r.B r.file.safe
  sz : small r.file
def Files (G : Nat → Prop) (w : World) (A : Option Addr) (rs : List RFile) : Prop := SlK 3 RFile.cells 83 G w A rs ∧ ∀ r ∈ rs, RFok G w r
def RefV (A : Option Addr) (n c : Nat) (s : S) : Value := .agg #[.slice A n c, .bool s.down, .int .i64 s.fuse]
def RefAt (G : Nat → Prop) (w : World) (v : Value) (s : S) : Prop := ∃ A c rs, v = .agg #[.slice A rs.length c, .bool s.down, .int .i64 s.fuse] ∧ Files G w A rs ∧ rs.map RFile.file = s.files
section
variable {F G : Nat → Prop} {w w' : World} {A : Option Addr} {rs : List RFile} {r : RFile} {v : Value} {s : S}
theorem RFok.mono (h : RFok F w r) (hF : ∀ g, g < w.heap.size → F g → G g) : RFok G w r := ⟨h.now.mono hF, h.safe.mono hF, h.sz⟩
theorem RFok.frm (h : RFok F w r) (hf : Frm G w w') (hd : ∀ g, F g → ¬ G g) : RFok F w' r := ⟨h.now.frm hf hd, h.safe.frm hf hd, h.sz⟩
theorem RFok.below (h : RFok F w r) (hb : Below w.heap.size w w') : RFok F w' r := ⟨h.now.below hb, h.safe.below hb, h.sz⟩
theorem Files.mono (h : Files F w A rs) (hF : ∀ g, g < w.heap.size → F g → G g) : Files G w A rs := ⟨h.1.mono hF, fun r hr => (h.2 r hr).mono hF⟩
theorem Files.frm (h : Files F w A rs) (hf : Frm G w w') (hd : ∀ g, F g → ¬ G g) : Files F w' A rs := ⟨h.1.frm hf hd, fun r hr => (h.2 r hr).frm hf hd⟩
theorem Files.below (h : Files F w A rs) (hb : Below w.heap.size w w') : Files F w' A rs := ⟨h.1.below hb, fun r hr => (h.2 r hr).below hb⟩
theorem RefAt.mono (h : RefAt F w v s) (hF : ∀ g, g < w.heap.size → F g → G g) : RefAt G w v s := by
  obtain ⟨A, c, rs, e, h1, h2⟩ := h; exact ⟨A, c, rs, e, h1.mono hF, h2⟩
theorem RefAt.frm (h : RefAt F w v s) (hf : Frm G w w') (hd : ∀ g, F g → ¬ G g) : RefAt F w' v s := by
  obtain ⟨A, c, rs, e, h1, h2⟩ := h; exact ⟨A, c, rs, e, h1.frm hf hd, h2⟩
theorem RefAt.below (h : RefAt F w v s) (hb : Below w.heap.size w w') : RefAt F w' v s := by
  obtain ⟨A, c, rs, e, h1, h2⟩ := h; exact ⟨A, c, rs, e, h1.below hb, h2⟩
end
theorem sname_toList (s : ByteArray) : s.toList = sname s := Lib.toList_data s
theorem fileT : SliceTK Try.prog 50 83 (.agg #[.string ByteArray.empty, .slice none 0 0, .slice none 0 0]) 3 64 := sliceTK_mk Try.underlying50 rfl (by decide) (by kernel_rfl)
/-- is a text a name: the document's way -/
theorem rname_any (s : ByteArray) (hs : s.size ≤ maxLen) (w : World) :
    Calls Try.prog 38 #[.string s] w fun e w' => e = .returned (.bool (named (sname s))) ∧ w = w' := by
  have hn := named_eq s
  unfold maxLen at hs
  by_cases h1 : 1 ≤ s.size
  · have e : decide ((s.size : Int) ≤ 16) = named (sname s) := by rw [← hn, decide_eq_true (p := (1 : Int) ≤ s.size) (by omega)]; rfl
    have h2 : (0 : Int) < (s.size : Int) := by omega
    clear hn
    go_enter Try.func38, Try.ntmps38
    go_wp2_with fail
    go_ret
    exact ⟨rfl, rfl⟩
  · have e : named (sname s) = false := by rw [← hn]; simp; omega
    clear hn
    have h1 : s.size = 0 := by omega
    go_enter Try.func38, Try.ntmps38
    go_wp2_with fail
    go_ret
    exact ⟨ret_bool e.symm, rfl⟩
def FindPost (n : Name) (rs : List RFile) (w : World) (e : Ending) (w' : World) : Prop :=
  ∃ i : Int, e = .returned (.int .i64 i) ∧ Below w.heap.size w w' ∧ ((i = -1 ∧ ∀ r ∈ rs, r.file.name ≠ n) ∨ ∃ k : Nat, i = k ∧ ∃ h : k < rs.length, rs[k].file.name = n ∧ ∀ j (hj : j < k), (rs[j]'(by omega)).file.name ≠ n)
set_option maxHeartbeats 1000000 in
theorem Find_any {G : Nat → Prop} {w : World} (A : Option Addr) (c : Nat) (rs : List RFile) (h : Files G w A rs) (dn : Bool) (fu : Nat) (n : ByteArray) :
    Calls Try.prog 39 #[.agg #[.slice A rs.length c, .bool dn, .int .i64 fu], .string n] w (FindPost (sname n) rs w) := by
  have hl := h.1.len
  have HF := Lib.hid h; clear h
  go_enter Try.func39, Try.ntmps39
  go_wp2_with fail
  go_loop [5] (fun iv => ∃ k : Nat, k ≤ rs.length ∧ iv = .int .i64 k ∧ ∀ j (hj : j < rs.length), j < k → rs[j].file.name ≠ sname n) (fun iv => rs.length - (intOf iv).toNat)
  case atStart => exact ⟨0, Nat.zero_le _, rfl, fun j _ h => absurd h (Nat.not_lt_zero _)⟩
  case round =>
    obtain ⟨k, hk, rfl, hno⟩ := hrel
    have HNO := Lib.hid hno; clear hno
    have hab := (Below.refl w.heap.size w).alloc (Nat.le_refl _) (.cells #[.slice A rs.length c, .bool dn, .int .i64 fu] 52)
    by_cases hlt : k < rs.length
    · obtain ⟨b, o, rfl, _, _, hc⟩ := (HF.out.below hab).1.at hlt
      have c0 := hc 0 (by decide)
      have c0' : (w.alloc (.cells #[.slice (some ⟨b, o, none⟩) rs.length c, .bool dn, .int .i64 fu] 52)).cell? ⟨b, o + k * 3, none⟩ = some (.string ⟨rs[k].file.name.toArray⟩) := c0
      clear hc c0
      by_cases hn : rs[k].file.name = n.toList
      · have t1 : (rs[k].file.name == n.toList) = true := by simpa using hn
        have HN := Lib.hid hn; clear hn
        go_wp2_with fail
        go_ret
        refine ⟨k, rfl, hab, .inr ⟨k, rfl, hlt, by rw [HN.out, sname_toList], fun j hj => HNO.out j (by omega) hj⟩⟩
      · have t1 : (rs[k].file.name == n.toList) = false := by simpa using hn
        have HN := Lib.hid hn; clear hn
        go_wp2_with fail
        refine ⟨⟨k + 1, by omega, by go_num, fun j hj hjk => ?_⟩, by simp [intOf]; omega⟩
        by_cases e : j = k
        · subst e; rw [← sname_toList]; exact HN.out
        · exact HNO.out j hj (by omega)
    · go_wp2_with fail
      go_ret
      refine ⟨-1, rfl, hab, .inl ⟨rfl, fun r hr => ?_⟩⟩
      obtain ⟨j, hj, rfl⟩ := List.getElem_of_mem hr
      exact HNO.out j hj (by omega)
theorem Mem.OwnK.setLow {α : Type} {k : Nat} {f : α → List Value} {e : TypeId} {w : World} {v : Value} {xs : List α} {base : Nat} (ho : OwnK k f base e w v xs) {p : Addr} (hp : p.block < base) (u : Value) : OwnK k f base e (w.setCell p u) v xs := by
  obtain ⟨h1, h2⟩ := ho
  refine ⟨h1, ?_⟩
  rcases h2 with h2 | ⟨g, cap, cur, a, b, hh, c⟩
  · exact .inl h2
  · exact .inr ⟨g, cap, cur, a, b, (Below.heap_setCell w p u g (by omega)).trans hh, c⟩
def delF (n : Name) (rs : List RFile) : List RFile := rs.filter (fun r => !(r.file.name == n))
theorem delF_file (n : Name) (rs : List RFile) : (delF n rs).map RFile.file = del n (rs.map RFile.file) := by
  unfold delF del; rw [List.filter_map]; rfl
theorem delF_yes {n : Name} {rs : List RFile} {k : Nat} (h : k < rs.length) (hn : rs[k].file.name ≠ n) : delF n (rs.take (k + 1)) = delF n (rs.take k) ++ [rs[k]] := by
  unfold delF; rw [List.take_succ_eq_append_getElem h, List.filter_append]; simp [hn]
theorem delF_no {n : Name} {rs : List RFile} {k : Nat} (h : k < rs.length) (hn : rs[k].file.name = n) : delF n (rs.take (k + 1)) = delF n (rs.take k) := by
  unfold delF; rw [List.take_succ_eq_append_getElem h, List.filter_append]; simp [hn]
theorem delF_len (n : Name) (rs : List RFile) : (delF n rs).length ≤ rs.length := List.length_filter_le _ _
/-- the document's disk behind a call, made of old and new blocks -/
def RefPost (G : Nat → Prop) (s : S) (w : World) (e : Ending) (w' : World) : Prop :=
  ∃ v, e = .returned v ∧ RefAt (up G w) w' v s ∧ Below w.heap.size w w'
theorem refPost_mk {G : Nat → Prop} {w w' : World} {A : Option Addr} {c : Nat} {rs : List RFile} {s : S} (hb : Below w.heap.size w w') (ho : OwnK 3 RFile.cells w.heap.size 83 w' (.slice A rs.length c) rs)
    (hr : ∀ r ∈ rs, RFok (up G w) w' r) (hf : rs.map RFile.file = s.files) : RefPost G s w (.returned (.agg #[.slice A rs.length c, .bool s.down, .int .i64 s.fuse])) w' :=
  ⟨_, rfl, ⟨A, c, rs, rfl, ⟨(ho.slK rcells_len).2.mono (fun _ _ h => .inr h), hr⟩, hf⟩, hb⟩
def WoRel (w0 : World) (n : Name) (rs : List RFile) (ov iv : Value) (wr : World) : Prop :=
  ∃ k : Nat, k ≤ rs.length ∧ iv = .int .i64 k ∧ OwnK 3 RFile.cells w0.heap.size 83 wr ov (delF n (rs.take k)) ∧ Below w0.heap.size w0 wr
set_option maxHeartbeats 2000000 in
theorem Without_any {G : Nat → Prop} {w : World} (A : Option Addr) (c : Nat) (rs : List RFile) (h : Files G w A rs) (hct : rs.length ≤ 100000) (s : S) (hs : rs.map RFile.file = s.files) (n : ByteArray) :
    Calls Try.prog 41 #[.agg #[.slice A rs.length c, .bool s.down, .int .i64 s.fuse], .string n] w (RefPost G { s with files := del (sname n) s.files } w) := by
  have hl := h.1.len
  have HF := Lib.hid h; clear h
  have HS := Lib.hid hs; clear hs
  go_enter Try.func41, Try.ntmps41
  go_wp2_with fail
  obtain ⟨w0, hw0⟩ : ∃ w0, w0 = (w.alloc (.cells #[.slice A rs.length c, .bool s.down, .int .i64 s.fuse] 52)).alloc (.cells #[.slice none 0 0, .bool false, .int .i64 0] 52) := ⟨_, rfl⟩
  rw [← hw0]
  have hz : w0.heap.size = w.heap.size + 1 + 1 := by rw [hw0]; simp
  have hab : Below w.heap.size w w0 := by rw [hw0]; exact ((Below.refl _ _).alloc (Nat.le_refl _) _).alloc (by simp) _
  have hbx : Blk w0 w.heap.size 52 #[.slice A rs.length c, .bool s.down, .int .i64 s.fuse] := by rw [hw0]; exact (Blk.new_ w _ _).alloc _
  have hrs : Blk w0 (w.heap.size + 1) 52 #[.slice none 0 0, .bool false, .int .i64 0] := by
    have := Blk.new_ (w.alloc (.cells #[.slice A rs.length c, .bool s.down, .int .i64 s.fuse] 52)) 52 #[.slice none 0 0, .bool false, .int .i64 0]
    rw [World.size_alloc] at this; rw [hw0]; exact this
  have hst : OwnK 3 RFile.cells w0.heap.size 83 (w0.alloc (.cells #[] 83)) (.slice (some ⟨w.heap.size + 1 + 1, 0, none⟩) 0 0) ([] : List RFile) := by rw [← hz]; exact OwnK.mk_ (Nat.le_refl _)
  have HST := Lib.hid hst; clear hst
  have HZ := Lib.hid hz; clear hz hw0
  have HAB := Lib.hid hab; clear hab
  have HBX := Lib.hid hbx; clear hbx
  have HRS := Lib.hid hrs; clear hrs
  go_loopw [5, 6] (fun ov iv wr => WoRel w0 (sname n) rs ov iv wr) (fun _ iv _ => rs.length - (intOf iv).toNat)
  case atStart => exact ⟨0, Nat.zero_le _, rfl, HST.out, (Below.refl _ _).alloc (Nat.le_refl _) _⟩
  case round =>
    obtain ⟨k, hk, rfl, hown, hbw⟩ := hrel
    have HOWN := Lib.hid hown; clear hown
    have HBW := Lib.hid hbw; clear hbw
    have HBXr := Lib.hid (HBX.out.below HBW.out HBX.out.lt)
    have HRSr := Lib.hid (HRS.out.below HBW.out HRS.out.lt)
    have b0 : wr.cell? ⟨w.heap.size, 0, none⟩ = some (.slice A rs.length c) := HBXr.out.cell 0
    by_cases hlt : k < rs.length
    · obtain ⟨b, o, rfl, _, _, hc⟩ := ((HF.out.below HAB.out).below HBW.out).1.at hlt
      have c0 : wr.cell? ⟨b, o + k * 3, none⟩ = some (.string ⟨rs[k].file.name.toArray⟩) := hc 0 (by decide)
      have c1 : wr.cell? ⟨b, o + k * 3 + 1, none⟩ = some (.slice rs[k].A rs[k].file.now.length rs[k].c) := hc 1 (by decide)
      have c2 : wr.cell? ⟨b, o + k * 3 + 2, none⟩ = some (.slice rs[k].B rs[k].file.safe.length rs[k].d) := hc 2 (by decide)
      clear hc
      by_cases hn : rs[k].file.name = n.toList
      · have t1 : (rs[k].file.name == n.toList) = true := by simpa using hn
        have HN := Lib.hid (delF_no hlt (show rs[k].file.name = sname n by rw [hn, sname_toList])); clear hn
        go_wp2_with fail
        go_roundw
        case rel => exact ⟨k + 1, by omega, by go_num, by rw [HN.out]; exact HOWN.out, HBW.out⟩
        case measure => simp [intOf]; omega
      · have t1 : (rs[k].file.name == n.toList) = false := by simpa using hn
        have HN := Lib.hid (delF_yes hlt (show rs[k].file.name ≠ sname n by rw [← sname_toList]; exact hn)); clear hn
        have hdl : (delF (sname n) (rs.take k)).length ≤ k := Nat.le_trans (delF_len _ _) (List.length_take_le _ _)
        go_wp2_with (at_builtin; refine wpList_appendK1 (f := RFile.cells) rfl (.tmp 23) (.tmp 29) 50 rfl fileT rs[k] rfl (rcells_one _) rfl HOWN.out rfl rfl rfl (by unfold maxLen; omega) (by omega) HBW.out.size ?_; intro v7 w7 hown7 hg7)
        go_roundw
        case rel => exact ⟨k + 1, by omega, by go_num, by rw [HN.out]; exact hown7, (HBW.out.alloc HBW.out.size _).trans ((HOWN.out.alloc _).below_ (by rw [World.size_alloc]; exact Nat.le_succ_of_le HBW.out.size) hg7)⟩
        case measure => simp [intOf]; omega
    · have hkk : k = rs.length := by omega
      obtain ⟨X, hX⟩ : ∃ X, X = delF (sname n) (rs.take k) := ⟨_, rfl⟩
      rw [← hX] at HOWN
      rw [hkk, List.take_length] at hX
      have HX := Lib.hid hX; clear hX
      clear hkk
      obtain ⟨A5, c5, rfl⟩ := HOWN.out.form
      have b1 : wr.cell? ⟨w.heap.size, 1, none⟩ = some (.bool s.down) := HBXr.out.cell 1
      have b2 : wr.cell? ⟨w.heap.size, 2, none⟩ = some (.int .i64 s.fuse) := HBXr.out.cell 2
      have g0 := HBXr.out.free 0
      have r0 : wr.cell? ⟨w.heap.size + 1, 0, none⟩ = some (.slice none 0 0) := HRSr.out.cell 0
      have r1 : wr.cell? ⟨w.heap.size + 1, 1, none⟩ = some (.bool false) := HRSr.out.cell 1
      have r2 : wr.cell? ⟨w.heap.size + 1, 2, none⟩ = some (.int .i64 0) := HRSr.out.cell 2
      have q0 := HRSr.out.free 0
      have q1 := HRSr.out.free 1
      have q2 := HRSr.out.free 2
      go_wp2_with fail
      have hbw1 : Below w.heap.size w wr := HAB.out.trans (HBW.out.mono HAB.out.size)
      have hz := HZ.out
      refine bodyPost_ret (v := .agg #[.slice A5 X.length c5, .bool s.down, .int .i64 s.fuse]) (by simp [results, Try.results41, go_sem, r0, r1, r2, q0, q1, q2]) rfl ?_
      have hbz := (((hbw1.setCell (p := ⟨w.heap.size, 0, none⟩) (Nat.le_refl _) (.slice A5 X.length c5)).setCell (p := ⟨w.heap.size + 1, 0, none⟩) (Nat.le_succ _) (.slice A5 X.length c5)).setCell (p := ⟨w.heap.size + 1, 1, none⟩) (Nat.le_succ _) (.bool s.down)).setCell (p := ⟨w.heap.size + 1, 2, none⟩) (Nat.le_succ _) (.int .i64 s.fuse)
      have hoz := (((HOWN.out.setLow (p := ⟨w.heap.size, 0, none⟩) (by show w.heap.size < _; omega) (.slice A5 X.length c5)).setLow (p := ⟨w.heap.size + 1, 0, none⟩) (by show w.heap.size + 1 < _; omega) (.slice A5 X.length c5)).setLow (p := ⟨w.heap.size + 1, 1, none⟩) (by show w.heap.size + 1 < _; omega) (.bool s.down)).setLow (p := ⟨w.heap.size + 1, 2, none⟩) (by show w.heap.size + 1 < _; omega) (.int .i64 s.fuse)
      refine refPost_mk (s := { s with files := del (sname n) s.files }) hbz (hoz.base_ HAB.out.size) (fun r hr => ?_) (by rw [HX.out, delF_file, HS.out])
      have hr' : r ∈ rs := by rw [HX.out] at hr; exact (List.mem_filter.1 hr).1
      exact ((HF.out.2 r hr').below hbz).mono (fun _ _ h => .inl h)
end Go.Proofs.Ytepkjnhijocojaa
