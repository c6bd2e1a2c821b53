/- Layer 5's document: a file put into its place; a step counted. -/
import Derived.Test.YtepkjnhijocojaaR5
import Derived.Deep.DeepCutAuto
namespace Go.Proofs.Ytepkjnhijocojaa
open Go.RowKit Go.Maps Mem Dsk

theorem RFok.far {G : Nat → Prop} {w : World} {r : RFile} {g : Nat} {t : TypeId} {cs : Array Value} (h : RFok G w r) (hb : Blk w g t cs) (hne : 5 ≠ t) (i : Nat) (u : Value) : RFok G (w.setCell ⟨g, i, none⟩ u) r :=
  ⟨h.now.far hb hne i u, h.safe.far hb hne i u, h.sz⟩
theorem Files.far {G : Nat → Prop} {w : World} {A : Option Addr} {rs : List RFile} {g : Nat} {t : TypeId} {cs : Array Value} (h : Files G w A rs) (hb : Blk w g t cs) (hn1 : 83 ≠ t) (hne : 5 ≠ t) (i : Nat) (u : Value) : Files G (w.setCell ⟨g, i, none⟩ u) A rs :=
  ⟨h.1.far hb (.inl hn1) i u, fun r hr => (h.2 r hr).far hb hne i u⟩
theorem sname_arr (l : Name) : sname ⟨l.toArray⟩ = l := by unfold sname; simp
def insF (f : RFile) : List RFile → List RFile
  | [] => [f]
  | y :: r => if lt f.file.name y.file.name then f :: y :: r else y :: insF f r
theorem insF_file (f : RFile) (rs : List RFile) : (insF f rs).map RFile.file = ins f.file (rs.map RFile.file) := by
  induction rs with
  | nil => rfl
  | cons y r ih => unfold insF; rw [List.map_cons]; unfold ins; split <;> simp [ih]
theorem insF_none {f : RFile} {l : List RFile} (h : ∀ y ∈ l, lt f.file.name y.file.name = false) : insF f l = l ++ [f] := by
  induction l with
  | nil => rfl
  | cons y r ih => unfold insF; rw [h y (by simp)]; simp [ih (fun z hz => h z (by simp [hz]))]
theorem insF_here {f z : RFile} {l : List RFile} (h : ∀ y ∈ l, lt f.file.name y.file.name = false) (hz : lt f.file.name z.file.name = true) : insF f (l ++ [z]) = l ++ [f] ++ [z] := by
  induction l with
  | nil => show insF f [z] = _; unfold insF; rw [hz]; rfl
  | cons y r ih => rw [List.cons_append]; unfold insF; rw [h y (by simp)]; simp [ih (fun z hz => h z (by simp [hz]))]
theorem insF_done {f z : RFile} {l : List RFile} (h : ∃ y ∈ l, lt f.file.name y.file.name = true) : insF f (l ++ [z]) = insF f l ++ [z] := by
  induction l with
  | nil => obtain ⟨y, hy, _⟩ := h; cases hy
  | cons y r ih =>
    rw [List.cons_append]; unfold insF
    by_cases e : lt f.file.name y.file.name = true
    · rw [e]; rfl
    · have e : lt f.file.name y.file.name = false := by simpa using e
      rw [e]
      obtain ⟨q, hq, hl⟩ := h
      rcases List.mem_cons.1 hq with rfl | hq
      · rw [e] at hl; cases hl
      · simp [ih ⟨q, hq, hl⟩]
theorem insF_len (f : RFile) (l : List RFile) : (insF f l).length = l.length + 1 := by
  have := congrArg List.length (insF_file f l); rw [List.length_map, ins_len, List.length_map] at this; exact this
theorem insF_mem {f x : RFile} {l : List RFile} (h : x ∈ insF f l) : x = f ∨ x ∈ l := by
  induction l with
  | nil => simp [insF] at h; exact .inl h
  | cons y r ih =>
    unfold insF at h
    split at h
    · simp at h; rcases h with h | h | h
      · exact .inl h
      · exact .inr (by simp [h])
      · exact .inr (by simp [h])
    · simp at h; rcases h with h | h
      · exact .inr (by simp [h])
      · rcases ih h with h | h
        · exact .inl h
        · exact .inr (by simp [h])
/-- what has been written when k are done -/
def wiList (f : RFile) (rs : List RFile) (k : Nat) (dn : Bool) : List RFile := if dn then insF f (rs.take k) else rs.take k
def WiInv (f : RFile) (rs : List RFile) (k : Nat) (dn : Bool) : Prop := if dn then ∃ y ∈ rs.take k, lt f.file.name y.file.name = true else ∀ y ∈ rs.take k, lt f.file.name y.file.name = false
def WiRel (w0 : World) (f : RFile) (rs : List RFile) (ov dv iv : Value) (wr : World) : Prop :=
  ∃ (k : Nat) (dn : Bool), k ≤ rs.length ∧ iv = .int .i64 k ∧ dv = .bool dn ∧ WiInv f rs k dn ∧ OwnK 3 RFile.cells w0.heap.size 83 wr ov (wiList f rs k dn) ∧ Below w0.heap.size w0 wr
theorem wi_len (f : RFile) (rs : List RFile) (k : Nat) (dn : Bool) : (wiList f rs k dn).length ≤ k + 1 := by
  unfold wiList; split
  · rw [insF_len]; have := List.length_take_le k rs; omega
  · have := List.length_take_le k rs; omega
theorem wi_mid {f : RFile} {rs : List RFile} {k : Nat} (h : k < rs.length) (hi : WiInv f rs k false) (hz : lt f.file.name rs[k].file.name = true) : wiList f rs (k + 1) true = wiList f rs k false ++ [f] ++ [rs[k]] ∧ WiInv f rs (k + 1) true := by
  unfold wiList WiInv
  simp only [Bool.false_eq_true, if_false, if_true] at *
  unfold WiInv at hi; simp at hi
  rw [List.take_succ_eq_append_getElem h]
  exact ⟨insF_here hi hz, rs[k], List.mem_append_right _ (List.mem_singleton.2 rfl), hz⟩
theorem wi_not {f : RFile} {rs : List RFile} {k : Nat} (h : k < rs.length) (hi : WiInv f rs k false) (hz : lt f.file.name rs[k].file.name = false) : wiList f rs (k + 1) false = wiList f rs k false ++ [rs[k]] ∧ WiInv f rs (k + 1) false := by
  unfold wiList WiInv
  unfold WiInv at hi; simp at hi
  simp only [Bool.false_eq_true, if_false]
  rw [List.take_succ_eq_append_getElem h]
  refine ⟨rfl, fun y hy => ?_⟩
  rcases List.mem_append.1 hy with hy | hy
  · exact hi y hy
  · simp at hy; rw [hy]; exact hz
theorem wi_done {f : RFile} {rs : List RFile} {k : Nat} (h : k < rs.length) (hi : WiInv f rs k true) : wiList f rs (k + 1) true = wiList f rs k true ++ [rs[k]] ∧ WiInv f rs (k + 1) true := by
  unfold wiList WiInv
  unfold WiInv at hi; simp at hi
  simp only [if_true]
  rw [List.take_succ_eq_append_getElem h]
  obtain ⟨y, hy, hl⟩ := hi
  exact ⟨insF_done ⟨y, hy, hl⟩, y, List.mem_append_left _ hy, hl⟩
set_option maxHeartbeats 4000000 in
theorem With_any {G : Nat → Prop} {w : World} (A : Option Addr) (c : Nat) (rs : List RFile) (h : Files G w A rs) (hct : rs.length ≤ 100000) (s : S) (hs : rs.map RFile.file = s.files) (f : RFile) (hf : RFok G w f) :
    Calls Try.prog 40 #[.agg #[.slice A rs.length c, .bool s.down, .int .i64 s.fuse], .agg #[.string ⟨f.file.name.toArray⟩, .slice f.A f.file.now.length f.c, .slice f.B f.file.safe.length f.d]] w (RefPost G { s with files := put f.file s.files } w) := by
  have hl := h.1.len
  have HF := Lib.hid h; clear h
  have HS := Lib.hid hs; clear hs
  have HFF := Lib.hid hf; clear hf
  go_enter Try.func40, Try.ntmps40
  go_wp2_with fail
  obtain ⟨wa, hwa⟩ : ∃ wa, wa = ((w.alloc (.cells #[.slice A rs.length c, .bool s.down, .int .i64 s.fuse] 52)).alloc (.cells #[.string ⟨f.file.name.toArray⟩, .slice f.A f.file.now.length f.c, .slice f.B f.file.safe.length f.d] 83)).alloc (.cells #[.slice none 0 0, .bool false, .int .i64 0] 52) := ⟨_, rfl⟩
  rw [← hwa]
  have hz : wa.heap.size = w.heap.size + 1 + 1 + 1 := by rw [hwa]; simp
  have hab : Below w.heap.size w wa := by rw [hwa]; exact (((Below.refl _ _).alloc (Nat.le_refl _) _).alloc (by simp) _).alloc (by simp; omega) _
  have hbd : Blk wa w.heap.size 52 #[.slice A rs.length c, .bool s.down, .int .i64 s.fuse] := by rw [hwa]; exact ((Blk.new_ w _ _).alloc _).alloc _
  have hbf : Blk wa (w.heap.size + 1) 83 #[.string ⟨f.file.name.toArray⟩, .slice f.A f.file.now.length f.c, .slice f.B f.file.safe.length f.d] := by
    have := Blk.new_ (w.alloc (.cells #[.slice A rs.length c, .bool s.down, .int .i64 s.fuse] 52)) 83 #[.string ⟨f.file.name.toArray⟩, .slice f.A f.file.now.length f.c, .slice f.B f.file.safe.length f.d]
    rw [World.size_alloc] at this; rw [hwa]; exact this.alloc _
  have hbr : Blk wa (w.heap.size + 1 + 1) 52 #[.slice none 0 0, .bool false, .int .i64 0] := by
    have := Blk.new_ ((w.alloc (.cells #[.slice A rs.length c, .bool s.down, .int .i64 s.fuse] 52)).alloc (.cells #[.string ⟨f.file.name.toArray⟩, .slice f.A f.file.now.length f.c, .slice f.B f.file.safe.length f.d] 83)) 52 #[.slice none 0 0, .bool false, .int .i64 0]
    rw [World.size_alloc, World.size_alloc] at this; rw [hwa]; exact this
  have hwo := Without_any A c rs (HF.out.below hab) hct s HS.out ⟨f.file.name.toArray⟩
  have HZ := Lib.hid hz; clear hz hwa
  have HAB := Lib.hid hab; clear hab
  have HBD := Lib.hid hbd; clear hbd
  have HBF := Lib.hid hbf; clear hbf
  have HBR := Lib.hid hbr; clear hbr
  have HWO := Lib.hid hwo; clear hwo
  (with_reducible refine HWO.out.mono ?_); rintro e w1 ⟨v1, rfl, ⟨A1, c1, rs1, rfl, hf1, hm1⟩, hb1⟩
  have hbd1 := HBD.out.below hb1 HBD.out.lt
  have d0 : w1.cell? ⟨w.heap.size, 0, none⟩ = some (.slice A rs.length c) := hbd1.cell 0
  have d1 : w1.cell? ⟨w.heap.size, 1, none⟩ = some (.bool s.down) := hbd1.cell 1
  have d2 : w1.cell? ⟨w.heap.size, 2, none⟩ = some (.int .i64 s.fuse) := hbd1.cell 2
  have g0 := hbd1.free 0
  have g1 := hbd1.free 1
  have g2 := hbd1.free 2
  have HBD1 := Lib.hid hbd1; clear hbd1
  have HB1 := Lib.hid hb1; clear hb1
  have HF1 := Lib.hid hf1; clear hf1
  have HM1 := Lib.hid hm1; clear hm1 HWO
  go_wp2_with fail
  obtain ⟨wB, hwB⟩ : ∃ wB, wB = ((w1.setCell ⟨w.heap.size, 0, none⟩ (.slice A1 rs1.length c1)).setCell ⟨w.heap.size, 1, none⟩ (.bool s.down)).setCell ⟨w.heap.size, 2, none⟩ (.int .i64 s.fuse) := ⟨_, rfl⟩
  rw [← hwB]
  have hzB : wB.heap.size = w1.heap.size := by rw [hwB]; simp
  have hbB : Below w.heap.size w wB := by rw [hwB]; exact (((HAB.out.trans (HB1.out.mono HAB.out.size)).setCell (Nat.le_refl _) _).setCell (Nat.le_refl _) _).setCell (Nat.le_refl _) _
  have hbdB : Blk wB w.heap.size 52 #[.slice A1 rs1.length c1, .bool s.down, .int .i64 s.fuse] := by
    have := ((HBD1.out.set_ 0 (.slice A1 rs1.length c1)).set_ 1 (.bool s.down)).set_ 2 (.int .i64 s.fuse)
    rw [hwB]; exact this
  have hs1 := HBD1.out.set_ 0 (.slice A1 rs1.length c1)
  have hs2 := hs1.set_ 1 (.bool s.down)
  have hbf1 := HBF.out.below HB1.out HBF.out.lt
  have hbr1 := HBR.out.below HB1.out HBR.out.lt
  have hbfB : Blk wB (w.heap.size + 1) 83 #[.string ⟨f.file.name.toArray⟩, .slice f.A f.file.now.length f.c, .slice f.B f.file.safe.length f.d] := by
    rw [hwB]; exact ((hbf1.far (p := ⟨w.heap.size, 0, none⟩) (Nat.succ_ne_self _) _).far (p := ⟨w.heap.size, 1, none⟩) (Nat.succ_ne_self _) _).far (p := ⟨w.heap.size, 2, none⟩) (Nat.succ_ne_self _) _
  have hbrB : Blk wB (w.heap.size + 1 + 1) 52 #[.slice none 0 0, .bool false, .int .i64 0] := by
    rw [hwB]; exact ((hbr1.far (p := ⟨w.heap.size, 0, none⟩) (show w.heap.size + 1 + 1 ≠ w.heap.size by omega) _).far (p := ⟨w.heap.size, 1, none⟩) (show w.heap.size + 1 + 1 ≠ w.heap.size by omega) _).far (p := ⟨w.heap.size, 2, none⟩) (show w.heap.size + 1 + 1 ≠ w.heap.size by omega) _
  have hfB : Files (up G wa) wB A1 rs1 := by
    rw [hwB]; exact ((HF1.out.far HBD1.out (by decide) (by decide) 0 _).far hs1 (by decide) (by decide) 1 _).far hs2 (by decide) (by decide) 2 _
  have hffB : RFok G wB f := HFF.out.below hbB
  have hst : OwnK 3 RFile.cells wB.heap.size 83 (wB.alloc (.cells #[] 83)) (.slice (some ⟨w1.heap.size, 0, none⟩) 0 0) ([] : List RFile) := by rw [← hzB]; exact OwnK.mk_ (Nat.le_refl _)
  have hlt1 : w.heap.size + 1 + 1 < wB.heap.size := hbrB.lt
  have hl1 : rs1.length ≤ 100000 := by
    have := congrArg List.length HM1.out
    rw [List.length_map] at this
    have h2 := congrArg List.length HS.out
    rw [List.length_map] at h2
    have h3 := del_len_le (sname ⟨f.file.name.toArray⟩) s.files
    show rs1.length ≤ _
    rw [this]; show (del _ s.files).length ≤ _; omega
  clear hs1 hs2 hbf1 hbr1 d0 d1 d2 g0 g1 g2
  have HST := Lib.hid hst; clear hst
  have HZB := Lib.hid hzB; clear hzB hwB
  have HBB := Lib.hid hbB; clear hbB
  have HBDB := Lib.hid hbdB; clear hbdB
  have HBFB := Lib.hid hbfB; clear hbfB
  have HBRB := Lib.hid hbrB; clear hbrB
  have HFB := Lib.hid hfB; clear hfB
  have HFFB := Lib.hid hffB; clear hffB HB1 HBD HBF HBR HBD1 HF1 HF HFF
  go_loopw [5, 6, 7] (fun ov dv iv wr => WiRel wB f rs1 ov dv iv wr) (fun _ _ iv _ => rs1.length - (intOf iv).toNat)
  case atStart => exact ⟨0, false, Nat.zero_le _, rfl, rfl, by unfold WiInv; simp, HST.out, (Below.refl _ _).alloc (Nat.le_refl _) _⟩
  case round =>
    obtain ⟨k, dn, hk, rfl, rfl, hinv, hown, hbw⟩ := hrel
    have HOWN := Lib.hid hown; clear hown
    have HBW := Lib.hid hbw; clear hbw
    have HINV := Lib.hid hinv; clear hinv
    have hbd := HBDB.out.below HBW.out HBDB.out.lt
    have hbf := HBFB.out.below HBW.out HBFB.out.lt
    have hbr := HBRB.out.below HBW.out HBRB.out.lt
    have b0 : wr.cell? ⟨w.heap.size, 0, none⟩ = some (.slice A1 rs1.length c1) := hbd.cell 0
    have f0 : wr.cell? ⟨w.heap.size + 1, 0, none⟩ = some (.string ⟨f.file.name.toArray⟩) := hbf.cell 0
    have f1 : wr.cell? ⟨w.heap.size + 1, 1, none⟩ = some (.slice f.A f.file.now.length f.c) := hbf.cell 1
    have f2 : wr.cell? ⟨w.heap.size + 1, 2, none⟩ = some (.slice f.B f.file.safe.length f.d) := hbf.cell 2
    have hwl := wi_len f rs1 k dn
    by_cases hlt : k < rs1.length
    · obtain ⟨b, o, rfl, _, hbs, hc⟩ := HFB.out.1.at hlt
      have C0 : Hid (wB.cell? ⟨b, o + k * 3, none⟩ = some (.string ⟨rs1[k].file.name.toArray⟩)) := hc 0 (by decide)
      have C1 : Hid (wB.cell? ⟨b, o + k * 3 + 1, none⟩ = some (.slice rs1[k].A rs1[k].file.now.length rs1[k].c)) := hc 1 (by decide)
      have C2 : Hid (wB.cell? ⟨b, o + k * 3 + 2, none⟩ = some (.slice rs1[k].B rs1[k].file.safe.length rs1[k].d)) := hc 2 (by decide)
      have c0 := (HBW.out.cell (p := ⟨b, o + k * 3, none⟩) hbs).trans C0.out
      have c1' := (HBW.out.cell (p := ⟨b, o + k * 3 + 1, none⟩) hbs).trans C1.out
      have c2 := (HBW.out.cell (p := ⟨b, o + k * 3 + 2, none⟩) hbs).trans C2.out
      clear hc
      cases dn
      · cases hlt2 : lt f.file.name rs1[k].file.name
        · have t1 : Op.bytesLess f.file.name rs1[k].file.name = false := hlt2
          have HW := Lib.hid (wi_not hlt HINV.out hlt2); clear hlt2
          go_wp2_with fail
          go_quiet (fail)
          go_wp2_with (at_builtin; refine wpList_appendK1 (f := RFile.cells) rfl (.tmp 37) (.tmp 43) 50 rfl fileT rs1[k] rfl (rcells_one _) rfl (HOWN.out.drewN nq) rfl rfl rfl (by unfold maxLen; omega) (by omega) (below_drewN HBW.out nq).size ?_; intro v7 w7 hown7 hg7)
          go_roundw
          case rel => exact ⟨k + 1, false, by omega, by go_num, rfl, HW.out.2, by rw [HW.out.1]; exact hown7, ((below_drewN HBW.out nq).alloc (below_drewN HBW.out nq).size _).trans (((HOWN.out.drewN nq).alloc _).below_ (by rw [World.size_alloc]; exact Nat.le_succ_of_le (below_drewN HBW.out nq).size) hg7)⟩
          case measure => simp [intOf]; omega
        · have t1 : Op.bytesLess f.file.name rs1[k].file.name = true := hlt2
          have HW := Lib.hid (wi_mid hlt HINV.out hlt2); clear hlt2
          have hbd0 := HBDB.out.lt
          go_wp2_with fail
          go_quiet (fail)
          have hfc : (#[Value.string ⟨f.file.name.toArray⟩, .slice f.A f.file.now.length f.c, .slice f.B f.file.safe.length f.d] : Array Value) = f.cells.toArray := rfl
          have HFC := Lib.hid hfc; clear hfc
          go_wp2_with (first | (at_builtin; refine wpList_appendK1 (f := RFile.cells) rfl (.tmp 33) (.tmp 35) 50 rfl fileT f rfl (rcells_one _) rfl (HOWN.out.drewN nq) HFC.out rfl rfl (by unfold maxLen; omega) (by omega) (below_drewN HBW.out nq).size ?_; intro v6 w6 hown6 hg6; have hb6 := ((below_drewN HBW.out nq).alloc (below_drewN HBW.out nq).size _).trans (((HOWN.out.drewN nq).alloc _).below_ (by rw [World.size_alloc]; exact Nat.le_succ_of_le (below_drewN HBW.out nq).size) hg6); have b06 : w6.cell? ⟨w.heap.size, 0, none⟩ = some (.slice (some ⟨b, o, none⟩) rs1.length c1) := (HBDB.out.below hb6 hbd0).cell 0; have c06 := (hb6.cell (p := ⟨b, o + k * 3, none⟩) hbs).trans C0.out; have c16 := (hb6.cell (p := ⟨b, o + k * 3 + 1, none⟩) hbs).trans C1.out; have c26 := (hb6.cell (p := ⟨b, o + k * 3 + 2, none⟩) hbs).trans C2.out; have hl6 : (wiList f rs1 k false ++ [f]).length ≤ k + 2 := (by simp; omega)) | (at_builtin; refine wpList_appendK1 (f := RFile.cells) rfl (.tmp 37) (.tmp 43) 50 rfl fileT rs1[k] rfl (rcells_one _) rfl hown6 rfl rfl rfl (by unfold maxLen; omega) (by omega) hb6.size ?_; intro v7 w7 hown7 hg7))
          go_roundw
          case rel => exact ⟨k + 1, true, by omega, by go_num, rfl, HW.out.2, by rw [HW.out.1]; exact hown7, (hb6.alloc hb6.size _).trans ((hown6.alloc _).below_ (by rw [World.size_alloc]; exact Nat.le_succ_of_le hb6.size) hg7)⟩
          case measure => simp [intOf]; omega
      · have HW := Lib.hid (wi_done hlt HINV.out)
        go_wp2_with fail
        go_quiet (fail)
        go_wp2_with (at_builtin; refine wpList_appendK1 (f := RFile.cells) rfl (.tmp 37) (.tmp 43) 50 rfl fileT rs1[k] rfl (rcells_one _) rfl (HOWN.out.drewN nq) rfl rfl rfl (by unfold maxLen; omega) (by omega) (below_drewN HBW.out nq).size ?_; intro v7 w7 hown7 hg7)
        go_roundw
        case rel => exact ⟨k + 1, true, by omega, by go_num, rfl, HW.out.2, by rw [HW.out.1]; exact hown7, ((below_drewN HBW.out nq).alloc (below_drewN HBW.out nq).size _).trans (((HOWN.out.drewN nq).alloc _).below_ (by rw [World.size_alloc]; exact Nat.le_succ_of_le (below_drewN HBW.out nq).size) hg7)⟩
        case measure => simp [intOf]; omega
    · have hkk : k = rs1.length := by omega
      have hbd0 := HBDB.out.lt
      cases dn
      · have hins : wiList f rs1 k false ++ [f] = insF f rs1 := by
          have h1 := HINV.out; unfold WiInv at h1; simp only [Bool.false_eq_true, if_false] at h1
          rw [hkk, List.take_length] at h1
          rw [insF_none h1]; unfold wiList; simp [hkk]
        have HINS := Lib.hid hins; clear hins hkk
        have hfc : (#[Value.string ⟨f.file.name.toArray⟩, .slice f.A f.file.now.length f.c, .slice f.B f.file.safe.length f.d] : Array Value) = f.cells.toArray := rfl
        have HFC := Lib.hid hfc; clear hfc
        go_upto_region 13 with (at_builtin; refine wpList_appendK1 (f := RFile.cells) rfl (.tmp 47) (.tmp 49) 50 rfl fileT f rfl (rcells_one _) rfl HOWN.out HFC.out rfl rfl (by unfold maxLen; omega) (by omega) HBW.out.size ?_; intro v6 w6 hown6 hg6)
        rw [HINS.out] at hown6
        have HO := Lib.hid hown6
        have HBZ : Hid (Below wB.heap.size wB w6) := (HBW.out.alloc HBW.out.size _).trans ((HOWN.out.alloc _).below_ (by rw [World.size_alloc]; exact Nat.le_succ_of_le HBW.out.size) hg6)
        clear hown6 hg6 HOWN HBW hbd hbf hbr b0 f0 f1 f2 HFC HINS hwl
        obtain ⟨WZ, rfl⟩ : ∃ x : World, x = w6 := ⟨_, rfl⟩
        have hbdZ := HBDB.out.below HBZ.out HBDB.out.lt
        have hbrZ := HBRB.out.below HBZ.out HBRB.out.lt
        have z0 : WZ.cell? ⟨w.heap.size, 0, none⟩ = some (.slice A1 rs1.length c1) := hbdZ.cell 0
        have z1 : WZ.cell? ⟨w.heap.size, 1, none⟩ = some (.bool s.down) := hbdZ.cell 1
        have z2 : WZ.cell? ⟨w.heap.size, 2, none⟩ = some (.int .i64 s.fuse) := hbdZ.cell 2
        have y0 := hbdZ.free 0
        have r0 : WZ.cell? ⟨w.heap.size + 1 + 1, 0, none⟩ = some (.slice none 0 0) := hbrZ.cell 0
        have r1 : WZ.cell? ⟨w.heap.size + 1 + 1, 1, none⟩ = some (.bool false) := hbrZ.cell 1
        have r2 : WZ.cell? ⟨w.heap.size + 1 + 1, 2, none⟩ = some (.int .i64 0) := hbrZ.cell 2
        have q0 := hbrZ.free 0
        have q1 := hbrZ.free 1
        have q2 := hbrZ.free 2
        have HBDZ := Lib.hid hbdZ; clear hbdZ
        have HBRZ := Lib.hid hbrZ; clear hbrZ
        obtain ⟨A5, c5, rfl⟩ := HO.out.form
        go_wp2_with fail
        have hbw1 : Below w.heap.size w WZ := HBB.out.trans (HBZ.out.mono HBB.out.size)
        refine bodyPost_ret (v := .agg #[.slice A5 (insF f rs1).length c5, .bool s.down, .int .i64 s.fuse]) (by simp [results, Try.results40, go_sem, r0, r1, r2, q0, q1, q2]) rfl ?_
        have n1 : w.heap.size ≤ w.heap.size + 1 + 1 := by omega
        have n2 : w.heap.size < wB.heap.size := by omega
        have hbz := (((hbw1.setCell (p := ⟨w.heap.size, 0, none⟩) (Nat.le_refl _) (.slice A5 (insF f rs1).length c5)).setCell (p := ⟨w.heap.size + 1 + 1, 0, none⟩) n1 (.slice A5 (insF f rs1).length c5)).setCell (p := ⟨w.heap.size + 1 + 1, 1, none⟩) n1 (.bool s.down)).setCell (p := ⟨w.heap.size + 1 + 1, 2, none⟩) n1 (.int .i64 s.fuse)
        have hoz := (((HO.out.setLow (p := ⟨w.heap.size, 0, none⟩) n2 (.slice A5 (insF f rs1).length c5)).setLow (p := ⟨w.heap.size + 1 + 1, 0, none⟩) hlt1 (.slice A5 (insF f rs1).length c5)).setLow (p := ⟨w.heap.size + 1 + 1, 1, none⟩) hlt1 (.bool s.down)).setLow (p := ⟨w.heap.size + 1 + 1, 2, none⟩) hlt1 (.int .i64 s.fuse)
        have k1 := HBRZ.out.far (p := ⟨w.heap.size, 0, none⟩) (show w.heap.size + 1 + 1 ≠ w.heap.size by omega) (.slice A5 (insF f rs1).length c5)
        have k2 := k1.set_ 0 (.slice A5 (insF f rs1).length c5)
        have k3 := k2.set_ 1 (.bool s.down)
        refine refPost_mk (s := { s with files := put f.file s.files }) hbz (hoz.base_ HBB.out.size) (fun r hr => ?_) ?_
        · have far : ∀ {G' : Nat → Prop}, RFok G' WZ r → RFok G' ((((WZ.setCell ⟨w.heap.size, 0, none⟩ (.slice A5 (insF f rs1).length c5)).setCell ⟨w.heap.size + 1 + 1, 0, none⟩ (.slice A5 (insF f rs1).length c5)).setCell ⟨w.heap.size + 1 + 1, 1, none⟩ (.bool s.down)).setCell ⟨w.heap.size + 1 + 1, 2, none⟩ (.int .i64 s.fuse)) r :=
            fun h => (((h.far HBDZ.out (by decide) 0 _).far k1 (by decide) 0 _).far k2 (by decide) 1 _).far k3 (by decide) 2 _
          rcases insF_mem hr with rfl | hr
          · exact (far (HFFB.out.below HBZ.out)).mono (fun _ _ h => .inl h)
          · exact (far ((HFB.out.2 r hr).below HBZ.out)).mono (fun _ _ h => h.elim .inl (fun h2 => .inr (Nat.le_trans HAB.out.size h2)))
        · rw [insF_file, HM1.out]
          show ins f.file (del (sname ⟨f.file.name.toArray⟩) s.files) = _
          rw [sname_arr]; rfl
      · have hins : wiList f rs1 k true = insF f rs1 := by unfold wiList; simp [hkk]
        have HINS := Lib.hid hins; clear hins hkk
        go_upto_region 13 with fail
        have HO := HOWN
        rw [HINS.out] at HO
        have HBZ := HBW
        clear HOWN HBW hbd hbf hbr b0 f0 f1 f2 HINS hwl
        obtain ⟨WZ, rfl⟩ : ∃ x : World, x = wr := ⟨_, rfl⟩
        have hbdZ := HBDB.out.below HBZ.out HBDB.out.lt
        have hbrZ := HBRB.out.below HBZ.out HBRB.out.lt
        have z0 : WZ.cell? ⟨w.heap.size, 0, none⟩ = some (.slice A1 rs1.length c1) := hbdZ.cell 0
        have z1 : WZ.cell? ⟨w.heap.size, 1, none⟩ = some (.bool s.down) := hbdZ.cell 1
        have z2 : WZ.cell? ⟨w.heap.size, 2, none⟩ = some (.int .i64 s.fuse) := hbdZ.cell 2
        have y0 := hbdZ.free 0
        have r0 : WZ.cell? ⟨w.heap.size + 1 + 1, 0, none⟩ = some (.slice none 0 0) := hbrZ.cell 0
        have r1 : WZ.cell? ⟨w.heap.size + 1 + 1, 1, none⟩ = some (.bool false) := hbrZ.cell 1
        have r2 : WZ.cell? ⟨w.heap.size + 1 + 1, 2, none⟩ = some (.int .i64 0) := hbrZ.cell 2
        have q0 := hbrZ.free 0
        have q1 := hbrZ.free 1
        have q2 := hbrZ.free 2
        have HBDZ := Lib.hid hbdZ; clear hbdZ
        have HBRZ := Lib.hid hbrZ; clear hbrZ
        obtain ⟨A5, c5, rfl⟩ := HO.out.form
        go_wp2_with fail
        have hbw1 : Below w.heap.size w WZ := HBB.out.trans (HBZ.out.mono HBB.out.size)
        refine bodyPost_ret (v := .agg #[.slice A5 (insF f rs1).length c5, .bool s.down, .int .i64 s.fuse]) (by simp [results, Try.results40, go_sem, r0, r1, r2, q0, q1, q2]) rfl ?_
        have n1 : w.heap.size ≤ w.heap.size + 1 + 1 := by omega
        have n2 : w.heap.size < wB.heap.size := by omega
        have hbz := (((hbw1.setCell (p := ⟨w.heap.size, 0, none⟩) (Nat.le_refl _) (.slice A5 (insF f rs1).length c5)).setCell (p := ⟨w.heap.size + 1 + 1, 0, none⟩) n1 (.slice A5 (insF f rs1).length c5)).setCell (p := ⟨w.heap.size + 1 + 1, 1, none⟩) n1 (.bool s.down)).setCell (p := ⟨w.heap.size + 1 + 1, 2, none⟩) n1 (.int .i64 s.fuse)
        have hoz := (((HO.out.setLow (p := ⟨w.heap.size, 0, none⟩) n2 (.slice A5 (insF f rs1).length c5)).setLow (p := ⟨w.heap.size + 1 + 1, 0, none⟩) hlt1 (.slice A5 (insF f rs1).length c5)).setLow (p := ⟨w.heap.size + 1 + 1, 1, none⟩) hlt1 (.bool s.down)).setLow (p := ⟨w.heap.size + 1 + 1, 2, none⟩) hlt1 (.int .i64 s.fuse)
        have k1 := HBRZ.out.far (p := ⟨w.heap.size, 0, none⟩) (show w.heap.size + 1 + 1 ≠ w.heap.size by omega) (.slice A5 (insF f rs1).length c5)
        have k2 := k1.set_ 0 (.slice A5 (insF f rs1).length c5)
        have k3 := k2.set_ 1 (.bool s.down)
        refine refPost_mk (s := { s with files := put f.file s.files }) hbz (hoz.base_ HBB.out.size) (fun r hr => ?_) ?_
        · have far : ∀ {G' : Nat → Prop}, RFok G' WZ r → RFok G' ((((WZ.setCell ⟨w.heap.size, 0, none⟩ (.slice A5 (insF f rs1).length c5)).setCell ⟨w.heap.size + 1 + 1, 0, none⟩ (.slice A5 (insF f rs1).length c5)).setCell ⟨w.heap.size + 1 + 1, 1, none⟩ (.bool s.down)).setCell ⟨w.heap.size + 1 + 1, 2, none⟩ (.int .i64 s.fuse)) r :=
            fun h => (((h.far HBDZ.out (by decide) 0 _).far k1 (by decide) 0 _).far k2 (by decide) 1 _).far k3 (by decide) 2 _
          rcases insF_mem hr with rfl | hr
          · exact (far (HFFB.out.below HBZ.out)).mono (fun _ _ h => .inl h)
          · exact (far ((HFB.out.2 r hr).below HBZ.out)).mono (fun _ _ h => h.elim .inl (fun h2 => .inr (Nat.le_trans HAB.out.size h2)))
        · rw [insF_file, HM1.out]
          show ins f.file (del (sname ⟨f.file.name.toArray⟩) s.files) = _
          rw [sname_arr]; rfl
end Go.Proofs.Ytepkjnhijocojaa
