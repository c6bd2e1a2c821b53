/- Layer 5's document: a step of a disk, of every kind; Read. -/
import Derived.Test.YtepkjnhijocojaaR5e
import Derived.Test.YtepkjnhijocojaaDskT
namespace Go.Proofs.Ytepkjnhijocojaa
open Go.RowKit Go.Maps Mem Dsk

theorem Do_any {G : Nat → Prop} {w : World} (A : Option Addr) (c : Nat) (rs : List RFile) (h : Files G w A rs) (s : S) (hs : rs.map RFile.file = s.files) (hct : rs.length ≤ 256) (hfu : s.fuse ≤ 9223372036854775807) (hso : Sorted s.files)
    (a z : ByteArray) (ha : a.size ≤ maxLen) (hz : z.size ≤ maxLen) (num : Int) (hnum : (Lit.int .i64 num).wf = true) (C : Option Addr) (cc : Nat) (bs : List UInt8) (hbs : Sl fB w C bs) (kind : Int) (h1 : 1 ≤ kind) (h6 : kind ≤ 6) :
    Calls Try.prog 25 #[.agg #[.slice A rs.length c, .bool s.down, .int .i64 s.fuse], .agg #[.int .i64 kind, .string a, .string z, .int .i64 num, .slice C bs.length cc]] w (DoPost G (doStep s kind (sname a) (sname z) num bs) w) := by
  have hk : kind = 1 ∨ kind = 2 ∨ kind = 3 ∨ kind = 4 ∨ kind = 5 ∨ kind = 6 := by omega
  rcases hk with rfl | rfl | rfl | rfl | rfl | rfl
  · exact Do1_any A c rs h s hs hct hfu hso a z ha hz num hnum C cc bs hbs
  · exact Do2_any A c rs h s hs hct hfu hso a z ha hz num hnum C cc bs hbs
  · exact Do3_any A c rs h s hs hct hfu hso a z ha hz num hnum C cc bs hbs
  · exact Do4_any A c rs h s hs hct hfu hso a z ha hz num hnum C cc bs hbs
  · exact Do5_any A c rs h s hs hct hfu hso a z ha hz num hnum C cc bs hbs
  · exact Do6_any A c rs h s hs hct hfu hso a z ha hz num hnum C cc bs hbs
/-- the bytes that Read gives lie in the disk -/
def RReadPost (G : Nat → Prop) (res : List UInt8 × Nat) (w : World) (e : Ending) (w' : World) : Prop :=
  ∃ A c, e = .returned (.tuple #[.slice A res.1.length c, .int .i64 res.2]) ∧ SlB fB 5 G w' A res.1 ∧ Below w.heap.size w w'
set_option maxHeartbeats 2000000 in
theorem RRead_any {G : Nat → Prop} {w : World} (A : Option Addr) (c : Nat) (rs : List RFile) (h : Files G w A rs) (s : S) (hs : rs.map RFile.file = s.files) (a : ByteArray) (ha : a.size ≤ maxLen) :
    Calls Try.prog 26 #[.agg #[.slice A rs.length c, .bool s.down, .int .i64 s.fuse], .string a] w (RReadPost G (Dsk.read s (sname a)) w) := by
  have hl := h.1.len
  have HF := Lib.hid h; clear h
  have HS := Lib.hid hs; clear hs
  obtain ⟨fs, dn, fu⟩ := s
  simp only at HS ⊢
  have hnew := Blk.new_ w 52 #[.slice A rs.length c, .bool dn, .int .i64 fu]
  obtain ⟨wa, hwa⟩ : ∃ x, x = w.alloc (.cells #[.slice A rs.length c, .bool dn, .int .i64 fu] 52) := ⟨_, rfl⟩
  have hab : Below w.heap.size w wa := by rw [hwa]; exact (Below.refl _ _).alloc (Nat.le_refl _) _
  rw [← hwa] at hnew
  have HFA : Hid (Files G wa A rs) := HF.out.below hab
  have d0 : wa.cell? ⟨w.heap.size, 0, none⟩ = some (.slice A rs.length c) := hnew.cell 0
  have d1 : wa.cell? ⟨w.heap.size, 1, none⟩ = some (.bool dn) := hnew.cell 1
  have d2 : wa.cell? ⟨w.heap.size, 2, none⟩ = some (.int .i64 fu) := hnew.cell 2
  have HWA := Lib.hid hwa; clear hwa
  have HAB := Lib.hid hab; clear hab
  have HNEW := Lib.hid hnew; clear hnew
  go_enter Try.func26, Try.ntmps26
  go_upto_region 1 with fail
  rw [← HWA.out]
  cases dn
  · by_cases hn : named (sname a) = true
    · go_wp2_with fail
      (with_reducible refine (rname_any _ ha _).mono ?_); rintro e w' ⟨rfl, rfl⟩
      go_wp2_with fail
      (with_reducible refine (Find_any A c rs HFA.out false fu a).mono ?_); rintro e w2 ⟨i, rfl, hb2, hi⟩
      have HB2 := Lib.hid hb2
      have HF2 := Lib.hid (HFA.out.below hb2)
      have hn2 := HNEW.out.below hb2 HNEW.out.lt
      have k0 : w2.cell? ⟨w.heap.size, 0, none⟩ = some (.slice A rs.length c) := hn2.cell 0
      clear d0 d1 d2 hb2 hn2
      rcases hi with ⟨rfl, hnone⟩ | ⟨k, rfl, hk, hnk, hfirst⟩
      · have HRES : Hid (Dsk.read ⟨fs, false, fu⟩ (sname a) = ([], 4)) := by
          show _ = _
          have hfd : find (sname a) fs = none := by rw [← HS.out]; exact find_of_none hnone
          unfold Dsk.read; simp only [look_none (s := ⟨fs, false, fu⟩) rfl hn hfd]
        clear hnone
        go_wp2_with fail
        refine bodyPost_ret (v := .tuple #[.slice none 0 0, .int .i64 4]) (by simp [results, Try.results26, go_sem]) rfl ?_
        rw [HRES.out]
        exact ⟨none, 0, rfl, SlB.nil, HAB.out.trans (HB2.out.mono HAB.out.size)⟩
      · have HRES : Hid (Dsk.read ⟨fs, false, fu⟩ (sname a) = (rs[k].file.now, 0)) := by
          show _ = _
          have hfd : find (sname a) fs = some rs[k].file := by rw [← HS.out]; exact find_of_at hk hnk hfirst
          unfold Dsk.read; simp only [look_found (s := ⟨fs, false, fu⟩) rfl hn hfd]
        clear hnk hfirst
        obtain ⟨b, o, rfl, _, hbs, hc⟩ := HF2.out.1.at hk
        have c1 : w2.cell? ⟨b, o + k * 3 + 1, none⟩ = some (.slice rs[k].A rs[k].file.now.length rs[k].c) := hc 1 (by decide)
        have HOK : Hid (RFok G w2 rs[k]) := HF2.out.2 _ (List.getElem_mem hk)
        clear hc
        go_wp2_with fail
        refine bodyPost_ret (v := .tuple #[.slice rs[k].A rs[k].file.now.length rs[k].c, .int .i64 0]) (by simp [results, Try.results26, go_sem]) rfl ?_
        rw [HRES.out]
        exact ⟨_, _, rfl, HOK.out.now, HAB.out.trans (HB2.out.mono HAB.out.size)⟩
    · have hn : named (sname a) = false := by simpa using hn
      have HRES : Hid (Dsk.read ⟨fs, false, fu⟩ (sname a) = ([], 1)) := by
        show _ = _
        unfold Dsk.read
        have : Dsk.look ⟨fs, false, fu⟩ [sname a] = (none, 1) := by unfold Dsk.look; rw [if_neg (by simp), if_pos (by simp [hn])]
        rw [this]
      go_wp2_with fail
      (with_reducible refine (rname_any _ ha _).mono ?_); rintro e w' ⟨rfl, rfl⟩
      go_wp2_with fail
      refine bodyPost_ret (v := .tuple #[.slice none 0 0, .int .i64 1]) (by simp [results, Try.results26, go_sem]) rfl ?_
      rw [HRES.out]
      exact ⟨none, 0, rfl, SlB.nil, HAB.out⟩
  · have HRES : Hid (Dsk.read ⟨fs, true, fu⟩ (sname a) = ([], 50)) := by
      show _ = _
      unfold Dsk.read; rw [look_down rfl]
    go_wp2_with fail
    refine bodyPost_ret (v := .tuple #[.slice none 0 0, .int .i64 50]) (by simp [results, Try.results26, go_sem]) rfl ?_
    rw [HRES.out]
    exact ⟨none, 0, rfl, SlB.nil, HAB.out⟩
end Go.Proofs.Ytepkjnhijocojaa
