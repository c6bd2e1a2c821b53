/- Layer 5's document: a step of a disk. -/
import Derived.Test.YtfpomllhkbbipaaGreatR5
import Derived.Test.YtfpomllhkbbipaaGreatDskT
namespace Go.Proofs.YtfpomllhkbbipaaGreat
open Go.RowKit Go.Maps Mem Dsk

theorem arr_sname (n : ByteArray) : (⟨(sname n).toArray⟩ : ByteArray) = n := by unfold sname; simp
/-- the document's disk and the error's number behind a step -/
def DoPost (G : Nat → Prop) (res : S × Nat) (w : World) (e : Ending) (w' : World) : Prop :=
  ∃ v, e = .returned (.tuple #[v, .int .i64 res.2]) ∧ RefAt (up G w) w' v res.1 ∧ Below w.heap.size w w'
/-- the boxes of a call of Do: the disk's, the step's, the result's -/
structure DoBox (w : World) (A : Option Addr) (n c : Nat) (s : S) (kind : Int) (a z : ByteArray) (num : Int) (C : Option Addr) (cl cc : Nat) (W : World) : Prop where
  bel : Below w.heap.size w W
  dsk : Blk W w.heap.size 32 #[.slice A n c, .bool s.down, .int .i64 s.fuse]
  op : Blk W (w.heap.size + 1) 69 #[.int .i64 kind, .string a, .string z, .int .i64 num, .slice C cl cc]
  res : Blk W (w.heap.size + 1 + 1) 32 #[.slice none 0 0, .bool false, .int .i64 0]
theorem DoBox.below {w W W' : World} {A : Option Addr} {n c : Nat} {s : S} {kind : Int} {a z : ByteArray} {num : Int} {C : Option Addr} {cl cc : Nat} (h : DoBox w A n c s kind a z num C cl cc W) (hb : Below W.heap.size W W') : DoBox w A n c s kind a z num C cl cc W' :=
  ⟨h.bel.trans (hb.mono h.bel.size), h.dsk.below hb h.dsk.lt, h.op.below hb h.op.lt, h.res.below hb h.res.lt⟩
/-- the result is stored -/
theorem DoBox.out {w W : World} {A : Option Addr} {n c : Nat} {s : S} {kind : Int} {a z : ByteArray} {num : Int} {C : Option Addr} {cl cc : Nat} (h : DoBox w A n c s kind a z num C cl cc W)
    {G : Nat → Prop} {A1 : Option Addr} {c1 : Nat} {rs : List RFile} (hf : Files (up G w) W A1 rs) {res : S × Nat} (hr : rs.map RFile.file = res.1.files) {e : Ending} (he : e = .returned (.tuple #[.agg #[.slice A1 rs.length c1, .bool res.1.down, .int .i64 res.1.fuse], .int .i64 res.2])) (v0 v1 v2 : Value) :
    DoPost G res w e (((W.setCell ⟨w.heap.size + 1 + 1, 0, none⟩ v0).setCell ⟨w.heap.size + 1 + 1, 1, none⟩ v1).setCell ⟨w.heap.size + 1 + 1, 2, none⟩ v2) := by
  have n1 : w.heap.size ≤ w.heap.size + 1 + 1 := by omega
  have k1 := h.res.set_ 0 v0
  have k2 := k1.set_ 1 v1
  exact ⟨_, he, ⟨A1, c1, rs, rfl, ((hf.far h.res (by decide) (by decide) 0 v0).far k1 (by decide) (by decide) 1 v1).far k2 (by decide) (by decide) 2 v2, hr⟩,
    ((h.bel.setCell (p := ⟨w.heap.size + 1 + 1, 0, none⟩) n1 v0).setCell (p := ⟨w.heap.size + 1 + 1, 1, none⟩) n1 v1).setCell (p := ⟨w.heap.size + 1 + 1, 2, none⟩) n1 v2⟩
theorem find_of_none {rs : List RFile} {n : Name} (h : ∀ r ∈ rs, r.file.name ≠ n) : find n (rs.map RFile.file) = none := by
  rw [find_none]; intro f hf; obtain ⟨r, hr, rfl⟩ := List.mem_map.1 hf; exact h r hr
theorem find_of_at {rs : List RFile} {n : Name} {k : Nat} (hk : k < rs.length) (h1 : rs[k].file.name = n) (h2 : ∀ j (hj : j < k), (rs[j]'(by omega)).file.name ≠ n) : find n (rs.map RFile.file) = some rs[k].file := by
  induction rs generalizing k with
  | nil => simp at hk
  | cons r l ih =>
    unfold find at ih ⊢
    cases k with
    | zero => rw [List.map_cons, List.find?_cons_of_pos (by simpa using h1)]; rfl
    | succ k =>
      rw [List.map_cons, List.find?_cons_of_neg (by simpa using h2 0 (by omega))]
      exact ih (by simpa using hk) h1 (fun j hj => h2 (j + 1) (by omega))
theorem DoBox.setFar {w W : World} {A : Option Addr} {n c : Nat} {s : S} {kind : Int} {a z : ByteArray} {num : Int} {C : Option Addr} {cl cc : Nat} (h : DoBox w A n c s kind a z num C cl cc W) {p : Addr} (hp : w.heap.size + 1 + 1 < p.block) (u : Value) : DoBox w A n c s kind a z num C cl cc (W.setCell p u) :=
  ⟨h.bel.setCell (by omega) u, h.dsk.far (by omega) u, h.op.far (by omega) u, h.res.far (by omega) u⟩
theorem Files.farF {G : Nat → Prop} {w : World} {b o : Nat} {rs : List RFile} {g : Nat} {cs : Array Value} (h : Files G w (some ⟨b, o, none⟩) rs) (hb : Blk w g 51 cs) (hne : b ≠ g) (i : Nat) (u : Value) : Files G (w.setCell ⟨g, i, none⟩ u) (some ⟨b, o, none⟩) rs :=
  ⟨⟨h.1.1, fun hn => by
    obtain ⟨b', o', cur, fr, e1, hF, hb', hc⟩ := h.1.2 hn
    injection e1 with e1; injection e1 with e1 e2
    subst e1; subst e2
    exact ⟨b, o, cur, fr, rfl, hF, (Below.heap_setCell w _ u b hne).trans hb', hc⟩⟩, fun r hr => (h.2 r hr).far hb (by decide) i u⟩
--- WALKS
set_option maxRecDepth 100000 in
set_option maxHeartbeats 8000000 in
theorem Do1_any {G : Nat → Prop} {w : World} (A : Option Addr) (c : Nat) (rs : List RFile) (h : Files G w A rs) (s : S) (hs : rs.map RFile.file = s.files) (hct : rs.length ≤ 256) (hfu : s.fuse ≤ 9223372036854775807) (hso : Sorted s.files)
    (a z : ByteArray) (ha : a.size ≤ maxLen) (hz : z.size ≤ maxLen) (num : Int) (hnum : (Lit.int .i64 num).wf = true) (C : Option Addr) (cc : Nat) (bs : List UInt8) (hbs : Sl fB w C bs) :
    Calls Tryz.prog 23 #[.agg #[.slice A rs.length c, .bool s.down, .int .i64 s.fuse], .agg #[.int .i64 1, .string a, .string z, .int .i64 num, .slice C bs.length cc]] w (DoPost G (Dsk.create s (sname a)) w) := by
  have hl := h.1.len
  have hbl := hbs.len
  have HF := Lib.hid h; clear h
  have HS := Lib.hid hs; clear hs
  have HSO := Lib.hid hso; clear hso
  have HBS := Lib.hid hbs; clear hbs
  have HNUM := Lib.hid hnum; clear hnum
  rcases hst : Dsk.step s with ⟨fs1, dn, fu⟩
  have hfs : fs1 = s.files := by have := step_files s; rw [hst] at this; exact this
  have hstp : ∀ W, Calls Tryz.prog 53 #[.agg #[.slice A rs.length c, .bool s.down, .int .i64 s.fuse]] W fun e w' => e = .returned (.agg #[.slice A rs.length c, .bool dn, .int .i64 fu]) ∧ Below W.heap.size W w' :=
    fun W => (Step_any A rs.length c s hfu W).mono (by rintro e w' ⟨he, hb⟩; rw [hst] at he; exact ⟨he, hb⟩)
  have HSTP := Lib.hid hstp; clear hstp
  subst hfs
  have HST := Lib.hid hst; clear hst hfu
  go_enter Tryz.func23, Tryz.ntmps23
  go_wp2_with fail
  obtain ⟨wa, hwa⟩ : ∃ wa, wa = ((w.alloc (.cells #[.slice A rs.length c, .bool s.down, .int .i64 s.fuse] 32)).alloc (.cells #[.int .i64 1, .string a, .string z, .int .i64 num, .slice C bs.length cc] 69)).alloc (.cells #[.slice none 0 0, .bool false, .int .i64 0] 32) := ⟨_, rfl⟩
  rw [← hwa]
  have hbxa : DoBox w A rs.length c s 1 a z num C bs.length cc wa := by
    have b2 := Blk.new_ (w.alloc (.cells #[.slice A rs.length c, .bool s.down, .int .i64 s.fuse] 32)) 69 #[.int .i64 1, .string a, .string z, .int .i64 num, .slice C bs.length cc]
    rw [World.size_alloc] at b2
    have b3 := Blk.new_ ((w.alloc (.cells #[.slice A rs.length c, .bool s.down, .int .i64 s.fuse] 32)).alloc (.cells #[.int .i64 1, .string a, .string z, .int .i64 num, .slice C bs.length cc] 69)) 32 #[.slice none 0 0, .bool false, .int .i64 0]
    rw [World.size_alloc, World.size_alloc] at b3
    rw [hwa]
    exact ⟨(((Below.refl _ _).alloc (Nat.le_refl _) _).alloc (by simp) _).alloc (by simp; omega) _, ((Blk.new_ w _ _).alloc _).alloc _, b2.alloc _, b3⟩
  have HBXA := Lib.hid hbxa; clear hbxa hwa
  (with_reducible refine (HSTP.out wa).mono ?_); rintro e w1 ⟨rfl, hb1⟩
  have hbx1 := HBXA.out.below hb1
  have d0 : w1.cell? ⟨w.heap.size, 0, none⟩ = some (.slice A rs.length c) := hbx1.dsk.cell 0
  have d1 : w1.cell? ⟨w.heap.size, 1, none⟩ = some (.bool s.down) := hbx1.dsk.cell 1
  have d2 : w1.cell? ⟨w.heap.size, 2, none⟩ = some (.int .i64 s.fuse) := hbx1.dsk.cell 2
  have g0 := hbx1.dsk.free 0
  have g1 := hbx1.dsk.free 1
  have g2 := hbx1.dsk.free 2
  have HBX1 := Lib.hid hbx1; clear hbx1 hb1 HBXA HSTP
  go_upto_region 2 with fail
  obtain ⟨wB, hwB⟩ : ∃ wB, wB = ((w1.setCell ⟨w.heap.size, 0, none⟩ (.slice A rs.length c)).setCell ⟨w.heap.size, 1, none⟩ (.bool dn)).setCell ⟨w.heap.size, 2, none⟩ (.int .i64 fu) := ⟨_, rfl⟩
  rw [← hwB]
  have hbx : DoBox w A rs.length c ⟨s.files, dn, fu⟩ 1 a z num C bs.length cc wB := by
    have e1 : w.heap.size + 1 ≠ w.heap.size := by omega
    have e2 : w.heap.size + 1 + 1 ≠ w.heap.size := by omega
    rw [hwB]
    exact ⟨((HBX1.out.bel.setCell (p := ⟨w.heap.size, 0, none⟩) (Nat.le_refl _) _).setCell (p := ⟨w.heap.size, 1, none⟩) (Nat.le_refl _) _).setCell (p := ⟨w.heap.size, 2, none⟩) (Nat.le_refl _) _,
      ((HBX1.out.dsk.set_ 0 _).set_ 1 _).set_ 2 _, ((HBX1.out.op.far (p := ⟨w.heap.size, 0, none⟩) e1 _).far (p := ⟨w.heap.size, 1, none⟩) e1 _).far (p := ⟨w.heap.size, 2, none⟩) e1 _,
      ((HBX1.out.res.far (p := ⟨w.heap.size, 0, none⟩) e2 _).far (p := ⟨w.heap.size, 1, none⟩) e2 _).far (p := ⟨w.heap.size, 2, none⟩) e2 _⟩
  clear d0 d1 d2 g0 g1 g2 hwB HBX1
  have HFB : Hid (Files (up G w) wB A rs) := (HF.out.below hbx.bel).mono (fun _ _ h => .inl h)
  have HBX := Lib.hid hbx; clear hbx
  cases dn
  · skip
    have b0 : wB.cell? ⟨w.heap.size, 0, none⟩ = some (.slice A rs.length c) := HBX.out.dsk.cell 0
    have b1 : wB.cell? ⟨w.heap.size, 1, none⟩ = some (.bool false) := HBX.out.dsk.cell 1
    have b2 : wB.cell? ⟨w.heap.size, 2, none⟩ = some (.int .i64 fu) := HBX.out.dsk.cell 2
    have o0 : wB.cell? ⟨w.heap.size + 1, 0, none⟩ = some (.int .i64 1) := HBX.out.op.cell 0
    have o1 : wB.cell? ⟨w.heap.size + 1, 1, none⟩ = some (.string a) := HBX.out.op.cell 1
    have o2 : wB.cell? ⟨w.heap.size + 1, 2, none⟩ = some (.string z) := HBX.out.op.cell 2
    have o3 : wB.cell? ⟨w.heap.size + 1, 3, none⟩ = some (.int .i64 num) := HBX.out.op.cell 3
    have o4 : wB.cell? ⟨w.heap.size + 1, 4, none⟩ = some (.slice C bs.length cc) := HBX.out.op.cell 4
    have r0 : wB.cell? ⟨w.heap.size + 1 + 1, 0, none⟩ = some (.slice none 0 0) := HBX.out.res.cell 0
    have r1 : wB.cell? ⟨w.heap.size + 1 + 1, 1, none⟩ = some (.bool false) := HBX.out.res.cell 1
    have r2 : wB.cell? ⟨w.heap.size + 1 + 1, 2, none⟩ = some (.int .i64 0) := HBX.out.res.cell 2
    have q0 := HBX.out.res.free 0
    have q1 := HBX.out.res.free 1
    have q2 := HBX.out.res.free 2
    by_cases hn : named (sname a) = true
    · skip
      go_wp2_with fail
      (with_reducible refine (rname_any _ ha _).mono ?_); rintro e w' ⟨rfl, rfl⟩
      go_wp2_with fail
      (with_reducible refine (Find_any A c rs HFB.out false fu a).mono ?_); rintro e w2 ⟨i, rfl, hb2, hi⟩
      have HBX2 := Lib.hid (HBX.out.below hb2)
      have HFB2 := Lib.hid (HFB.out.below hb2)
      clear b0 b1 b2 o0 o1 o2 o3 o4 r0 r1 r2 q0 q1 q2 HBX HFB hb2
      obtain ⟨HBX, HFB⟩ := And.intro HBX2 HFB2
      clear HBX2 HFB2
      have b0 : w2.cell? ⟨w.heap.size, 0, none⟩ = some (.slice A rs.length c) := HBX.out.dsk.cell 0
      have b1 : w2.cell? ⟨w.heap.size, 1, none⟩ = some (.bool false) := HBX.out.dsk.cell 1
      have b2 : w2.cell? ⟨w.heap.size, 2, none⟩ = some (.int .i64 fu) := HBX.out.dsk.cell 2
      have o0 : w2.cell? ⟨w.heap.size + 1, 0, none⟩ = some (.int .i64 1) := HBX.out.op.cell 0
      have o1 : w2.cell? ⟨w.heap.size + 1, 1, none⟩ = some (.string a) := HBX.out.op.cell 1
      have o2 : w2.cell? ⟨w.heap.size + 1, 2, none⟩ = some (.string z) := HBX.out.op.cell 2
      have o3 : w2.cell? ⟨w.heap.size + 1, 3, none⟩ = some (.int .i64 num) := HBX.out.op.cell 3
      have o4 : w2.cell? ⟨w.heap.size + 1, 4, none⟩ = some (.slice C bs.length cc) := HBX.out.op.cell 4
      have r0 : w2.cell? ⟨w.heap.size + 1 + 1, 0, none⟩ = some (.slice none 0 0) := HBX.out.res.cell 0
      have r1 : w2.cell? ⟨w.heap.size + 1 + 1, 1, none⟩ = some (.bool false) := HBX.out.res.cell 1
      have r2 : w2.cell? ⟨w.heap.size + 1 + 1, 2, none⟩ = some (.int .i64 0) := HBX.out.res.cell 2
      have q0 := HBX.out.res.free 0
      have q1 := HBX.out.res.free 1
      have q2 := HBX.out.res.free 2
      rcases hi with ⟨rfl, hnone⟩ | ⟨k, rfl, hk, hnk, hfirst⟩
      · have hfd : find (sname a) s.files = none := by rw [← HS.out]; exact find_of_none hnone
        have HFD := Lib.hid hfd; clear hfd hnone
        by_cases h256 : rs.length = 256
        · have hle : (256 : Int) ≤ (rs.length : Int) := by omega
          have HRES : Hid (Dsk.create s (sname a) = (⟨s.files, false, fu⟩, 3)) := by
            show _ = _
            have hc : s.files.length = 256 := by rw [← HS.out, List.length_map]; exact h256
            unfold Dsk.create; rw [HST.out]; simp only [look_none (s := ⟨s.files, false, fu⟩) rfl hn HFD.out]
            simp [hc]
          have H256 := Lib.hid h256; clear h256
          go_wp2_with fail
          refine bodyPost_ret (v := .tuple #[.agg #[.slice A rs.length c, .bool false, .int .i64 fu], .int .i64 3]) (by simp [results, Tryz.results23, go_sem, r0, r1, r2, q0, q1, q2]) rfl ?_
          rw [HRES.out]
          exact HBX.out.out HFB.out HS.out rfl _ _ _
        · have hle : ¬ (256 : Int) ≤ (rs.length : Int) := by omega
          have HRES : Hid (Dsk.create s (sname a) = (⟨put ⟨sname a, [], []⟩ s.files, false, fu⟩, 0)) := by
            show _ = _
            have hc : ¬ s.files.length = 256 := by rw [← HS.out, List.length_map]; exact h256
            unfold Dsk.create; rw [HST.out]; simp only [look_none (s := ⟨s.files, false, fu⟩) rfl hn HFD.out]
            simp [hc]
          have hwi : Calls Tryz.prog 55 #[.agg #[.slice A rs.length c, .bool false, .int .i64 fu], .agg #[.string a, .slice none 0 0, .slice none 0 0]] w2 (RefPost (up G w) ⟨put ⟨sname a, [], []⟩ s.files, false, fu⟩ w2) := by
            have h9 := With_any A c rs HFB.out (by omega) ⟨s.files, false, fu⟩ HS.out ⟨⟨sname a, [], []⟩, none, 0, none, 0⟩ ⟨SlB.nil, SlB.nil, ⟨Nat.zero_le _, Nat.zero_le _, hn⟩, Nat.le_refl _, Nat.le_refl _⟩
            simp only [arr_sname] at h9
            exact h9
          have HWI := Lib.hid hwi; clear hwi h256
          go_wp2_with fail
          (with_reducible refine HWI.out.mono ?_)
          rintro e w5 ⟨v5, rfl, ⟨A5, c5, rs5, rfl, hf5, hm5⟩, hb5⟩
          have HBX5 := Lib.hid (HBX.out.below hb5)
          have HF5 : Hid (Files (up G w) w5 A5 rs5) := hf5.mono (fun _ _ h => h.elim id (fun h2 => .inr (Nat.le_trans HBX.out.bel.size h2)))
          have HM5 := Lib.hid hm5
          clear b0 b1 b2 o0 o1 o2 o3 o4 r0 r1 r2 q0 q1 q2 HBX hb5 hf5 hm5
          obtain ⟨HBX, _⟩ := And.intro HBX5 trivial
          clear HBX5
          have b0 : w5.cell? ⟨w.heap.size, 0, none⟩ = some (.slice A rs.length c) := HBX.out.dsk.cell 0
          have b1 : w5.cell? ⟨w.heap.size, 1, none⟩ = some (.bool false) := HBX.out.dsk.cell 1
          have b2 : w5.cell? ⟨w.heap.size, 2, none⟩ = some (.int .i64 fu) := HBX.out.dsk.cell 2
          have o0 : w5.cell? ⟨w.heap.size + 1, 0, none⟩ = some (.int .i64 1) := HBX.out.op.cell 0
          have o1 : w5.cell? ⟨w.heap.size + 1, 1, none⟩ = some (.string a) := HBX.out.op.cell 1
          have o2 : w5.cell? ⟨w.heap.size + 1, 2, none⟩ = some (.string z) := HBX.out.op.cell 2
          have o3 : w5.cell? ⟨w.heap.size + 1, 3, none⟩ = some (.int .i64 num) := HBX.out.op.cell 3
          have o4 : w5.cell? ⟨w.heap.size + 1, 4, none⟩ = some (.slice C bs.length cc) := HBX.out.op.cell 4
          have r0 : w5.cell? ⟨w.heap.size + 1 + 1, 0, none⟩ = some (.slice none 0 0) := HBX.out.res.cell 0
          have r1 : w5.cell? ⟨w.heap.size + 1 + 1, 1, none⟩ = some (.bool false) := HBX.out.res.cell 1
          have r2 : w5.cell? ⟨w.heap.size + 1 + 1, 2, none⟩ = some (.int .i64 0) := HBX.out.res.cell 2
          have q0 := HBX.out.res.free 0
          have q1 := HBX.out.res.free 1
          have q2 := HBX.out.res.free 2
          go_wp2_with fail
          refine bodyPost_ret (v := .tuple #[.agg #[.slice A5 rs5.length c5, .bool false, .int .i64 fu], .int .i64 0]) (by simp [results, Tryz.results23, go_sem, r0, r1, r2, q0, q1, q2]) rfl ?_
          rw [HRES.out]
          exact HBX.out.out HF5.out HM5.out rfl _ _ _
      · have hfd : find (sname a) s.files = some rs[k].file := by rw [← HS.out]; exact find_of_at hk hnk hfirst
        have HFD := Lib.hid hfd; clear hfd hfirst
        have HRES : Hid (Dsk.create s (sname a) = (⟨s.files, false, fu⟩, 5)) := by
          show _ = _
          unfold Dsk.create; rw [HST.out]; simp only [look_found (s := ⟨s.files, false, fu⟩) rfl hn HFD.out]
        have HNK := Lib.hid hnk; clear hnk
        go_wp2_with fail
        refine bodyPost_ret (v := .tuple #[.agg #[.slice A rs.length c, .bool false, .int .i64 fu], .int .i64 5]) (by simp [results, Tryz.results23, go_sem, r0, r1, r2, q0, q1, q2]) rfl ?_
        rw [HRES.out]
        exact HBX.out.out HFB.out HS.out rfl _ _ _
    · have hn : named (sname a) = false := by simpa using hn
      have HRES : Hid (Dsk.create s (sname a) = (⟨s.files, false, fu⟩, 1)) := by
        show _ = _
        unfold Dsk.create; rw [HST.out]; simp only
        have : Dsk.look ⟨s.files, false, fu⟩ [sname a] = (none, 1) := by unfold Dsk.look; rw [if_neg (by simp), if_pos (by simp [hn])]
        rw [this]
        rfl
      go_wp2_with fail
      (with_reducible refine (rname_any _ ha _).mono ?_); rintro e w' ⟨rfl, rfl⟩
      go_wp2_with fail
      refine bodyPost_ret (v := .tuple #[.agg #[.slice A rs.length c, .bool false, .int .i64 fu], .int .i64 1]) (by simp [results, Tryz.results23, go_sem, r0, r1, r2, q0, q1, q2]) rfl ?_
      rw [HRES.out]
      exact HBX.out.out HFB.out HS.out rfl _ _ _
  · skip
    have b0 : wB.cell? ⟨w.heap.size, 0, none⟩ = some (.slice A rs.length c) := HBX.out.dsk.cell 0
    have b1 : wB.cell? ⟨w.heap.size, 1, none⟩ = some (.bool true) := HBX.out.dsk.cell 1
    have b2 : wB.cell? ⟨w.heap.size, 2, none⟩ = some (.int .i64 fu) := HBX.out.dsk.cell 2
    have o0 : wB.cell? ⟨w.heap.size + 1, 0, none⟩ = some (.int .i64 1) := HBX.out.op.cell 0
    have o1 : wB.cell? ⟨w.heap.size + 1, 1, none⟩ = some (.string a) := HBX.out.op.cell 1
    have o2 : wB.cell? ⟨w.heap.size + 1, 2, none⟩ = some (.string z) := HBX.out.op.cell 2
    have o3 : wB.cell? ⟨w.heap.size + 1, 3, none⟩ = some (.int .i64 num) := HBX.out.op.cell 3
    have o4 : wB.cell? ⟨w.heap.size + 1, 4, none⟩ = some (.slice C bs.length cc) := HBX.out.op.cell 4
    have r0 : wB.cell? ⟨w.heap.size + 1 + 1, 0, none⟩ = some (.slice none 0 0) := HBX.out.res.cell 0
    have r1 : wB.cell? ⟨w.heap.size + 1 + 1, 1, none⟩ = some (.bool false) := HBX.out.res.cell 1
    have r2 : wB.cell? ⟨w.heap.size + 1 + 1, 2, none⟩ = some (.int .i64 0) := HBX.out.res.cell 2
    have q0 := HBX.out.res.free 0
    have q1 := HBX.out.res.free 1
    have q2 := HBX.out.res.free 2
    have HRES : Hid (Dsk.create s (sname a) = (⟨s.files, true, fu⟩, 50)) := by
      show _ = _
      unfold Dsk.create; rw [HST.out]; simp only
      rw [look_down rfl]
      rfl
    go_wp2_with fail
    refine bodyPost_ret (v := .tuple #[.agg #[.slice A rs.length c, .bool true, .int .i64 fu], .int .i64 50]) (by simp [results, Tryz.results23, go_sem, r0, r1, r2, q0, q1, q2]) rfl ?_
    rw [HRES.out]
    exact HBX.out.out HFB.out HS.out rfl _ _ _
set_option maxRecDepth 100000 in
set_option maxHeartbeats 8000000 in
theorem Do2_any {G : Nat → Prop} {w : World} (A : Option Addr) (c : Nat) (rs : List RFile) (h : Files G w A rs) (s : S) (hs : rs.map RFile.file = s.files) (hct : rs.length ≤ 256) (hfu : s.fuse ≤ 9223372036854775807) (hso : Sorted s.files)
    (a z : ByteArray) (ha : a.size ≤ maxLen) (hz : z.size ≤ maxLen) (num : Int) (hnum : (Lit.int .i64 num).wf = true) (C : Option Addr) (cc : Nat) (bs : List UInt8) (hbs : Sl fB w C bs) :
    Calls Tryz.prog 23 #[.agg #[.slice A rs.length c, .bool s.down, .int .i64 s.fuse], .agg #[.int .i64 2, .string a, .string z, .int .i64 num, .slice C bs.length cc]] w (DoPost G (Dsk.remove s (sname a)) w) := by
  have hl := h.1.len
  have hbl := hbs.len
  have HF := Lib.hid h; clear h
  have HS := Lib.hid hs; clear hs
  have HSO := Lib.hid hso; clear hso
  have HBS := Lib.hid hbs; clear hbs
  have HNUM := Lib.hid hnum; clear hnum
  rcases hst : Dsk.step s with ⟨fs1, dn, fu⟩
  have hfs : fs1 = s.files := by have := step_files s; rw [hst] at this; exact this
  have hstp : ∀ W, Calls Tryz.prog 53 #[.agg #[.slice A rs.length c, .bool s.down, .int .i64 s.fuse]] W fun e w' => e = .returned (.agg #[.slice A rs.length c, .bool dn, .int .i64 fu]) ∧ Below W.heap.size W w' :=
    fun W => (Step_any A rs.length c s hfu W).mono (by rintro e w' ⟨he, hb⟩; rw [hst] at he; exact ⟨he, hb⟩)
  have HSTP := Lib.hid hstp; clear hstp
  subst hfs
  have HST := Lib.hid hst; clear hst hfu
  go_enter Tryz.func23, Tryz.ntmps23
  go_wp2_with fail
  obtain ⟨wa, hwa⟩ : ∃ wa, wa = ((w.alloc (.cells #[.slice A rs.length c, .bool s.down, .int .i64 s.fuse] 32)).alloc (.cells #[.int .i64 2, .string a, .string z, .int .i64 num, .slice C bs.length cc] 69)).alloc (.cells #[.slice none 0 0, .bool false, .int .i64 0] 32) := ⟨_, rfl⟩
  rw [← hwa]
  have hbxa : DoBox w A rs.length c s 2 a z num C bs.length cc wa := by
    have b2 := Blk.new_ (w.alloc (.cells #[.slice A rs.length c, .bool s.down, .int .i64 s.fuse] 32)) 69 #[.int .i64 2, .string a, .string z, .int .i64 num, .slice C bs.length cc]
    rw [World.size_alloc] at b2
    have b3 := Blk.new_ ((w.alloc (.cells #[.slice A rs.length c, .bool s.down, .int .i64 s.fuse] 32)).alloc (.cells #[.int .i64 2, .string a, .string z, .int .i64 num, .slice C bs.length cc] 69)) 32 #[.slice none 0 0, .bool false, .int .i64 0]
    rw [World.size_alloc, World.size_alloc] at b3
    rw [hwa]
    exact ⟨(((Below.refl _ _).alloc (Nat.le_refl _) _).alloc (by simp) _).alloc (by simp; omega) _, ((Blk.new_ w _ _).alloc _).alloc _, b2.alloc _, b3⟩
  have HBXA := Lib.hid hbxa; clear hbxa hwa
  (with_reducible refine (HSTP.out wa).mono ?_); rintro e w1 ⟨rfl, hb1⟩
  have hbx1 := HBXA.out.below hb1
  have d0 : w1.cell? ⟨w.heap.size, 0, none⟩ = some (.slice A rs.length c) := hbx1.dsk.cell 0
  have d1 : w1.cell? ⟨w.heap.size, 1, none⟩ = some (.bool s.down) := hbx1.dsk.cell 1
  have d2 : w1.cell? ⟨w.heap.size, 2, none⟩ = some (.int .i64 s.fuse) := hbx1.dsk.cell 2
  have g0 := hbx1.dsk.free 0
  have g1 := hbx1.dsk.free 1
  have g2 := hbx1.dsk.free 2
  have HBX1 := Lib.hid hbx1; clear hbx1 hb1 HBXA HSTP
  go_upto_region 2 with fail
  obtain ⟨wB, hwB⟩ : ∃ wB, wB = ((w1.setCell ⟨w.heap.size, 0, none⟩ (.slice A rs.length c)).setCell ⟨w.heap.size, 1, none⟩ (.bool dn)).setCell ⟨w.heap.size, 2, none⟩ (.int .i64 fu) := ⟨_, rfl⟩
  rw [← hwB]
  have hbx : DoBox w A rs.length c ⟨s.files, dn, fu⟩ 2 a z num C bs.length cc wB := by
    have e1 : w.heap.size + 1 ≠ w.heap.size := by omega
    have e2 : w.heap.size + 1 + 1 ≠ w.heap.size := by omega
    rw [hwB]
    exact ⟨((HBX1.out.bel.setCell (p := ⟨w.heap.size, 0, none⟩) (Nat.le_refl _) _).setCell (p := ⟨w.heap.size, 1, none⟩) (Nat.le_refl _) _).setCell (p := ⟨w.heap.size, 2, none⟩) (Nat.le_refl _) _,
      ((HBX1.out.dsk.set_ 0 _).set_ 1 _).set_ 2 _, ((HBX1.out.op.far (p := ⟨w.heap.size, 0, none⟩) e1 _).far (p := ⟨w.heap.size, 1, none⟩) e1 _).far (p := ⟨w.heap.size, 2, none⟩) e1 _,
      ((HBX1.out.res.far (p := ⟨w.heap.size, 0, none⟩) e2 _).far (p := ⟨w.heap.size, 1, none⟩) e2 _).far (p := ⟨w.heap.size, 2, none⟩) e2 _⟩
  clear d0 d1 d2 g0 g1 g2 hwB HBX1
  have HFB : Hid (Files (up G w) wB A rs) := (HF.out.below hbx.bel).mono (fun _ _ h => .inl h)
  have HBX := Lib.hid hbx; clear hbx
  cases dn
  · skip
    have b0 : wB.cell? ⟨w.heap.size, 0, none⟩ = some (.slice A rs.length c) := HBX.out.dsk.cell 0
    have b1 : wB.cell? ⟨w.heap.size, 1, none⟩ = some (.bool false) := HBX.out.dsk.cell 1
    have b2 : wB.cell? ⟨w.heap.size, 2, none⟩ = some (.int .i64 fu) := HBX.out.dsk.cell 2
    have o0 : wB.cell? ⟨w.heap.size + 1, 0, none⟩ = some (.int .i64 2) := HBX.out.op.cell 0
    have o1 : wB.cell? ⟨w.heap.size + 1, 1, none⟩ = some (.string a) := HBX.out.op.cell 1
    have o2 : wB.cell? ⟨w.heap.size + 1, 2, none⟩ = some (.string z) := HBX.out.op.cell 2
    have o3 : wB.cell? ⟨w.heap.size + 1, 3, none⟩ = some (.int .i64 num) := HBX.out.op.cell 3
    have o4 : wB.cell? ⟨w.heap.size + 1, 4, none⟩ = some (.slice C bs.length cc) := HBX.out.op.cell 4
    have r0 : wB.cell? ⟨w.heap.size + 1 + 1, 0, none⟩ = some (.slice none 0 0) := HBX.out.res.cell 0
    have r1 : wB.cell? ⟨w.heap.size + 1 + 1, 1, none⟩ = some (.bool false) := HBX.out.res.cell 1
    have r2 : wB.cell? ⟨w.heap.size + 1 + 1, 2, none⟩ = some (.int .i64 0) := HBX.out.res.cell 2
    have q0 := HBX.out.res.free 0
    have q1 := HBX.out.res.free 1
    have q2 := HBX.out.res.free 2
    by_cases hn : named (sname a) = true
    · skip
      go_wp2_with fail
      (with_reducible refine (rname_any _ ha _).mono ?_); rintro e w' ⟨rfl, rfl⟩
      go_wp2_with fail
      (with_reducible refine (Find_any A c rs HFB.out false fu a).mono ?_); rintro e w2 ⟨i, rfl, hb2, hi⟩
      have HBX2 := Lib.hid (HBX.out.below hb2)
      have HFB2 := Lib.hid (HFB.out.below hb2)
      clear b0 b1 b2 o0 o1 o2 o3 o4 r0 r1 r2 q0 q1 q2 HBX HFB hb2
      obtain ⟨HBX, HFB⟩ := And.intro HBX2 HFB2
      clear HBX2 HFB2
      have b0 : w2.cell? ⟨w.heap.size, 0, none⟩ = some (.slice A rs.length c) := HBX.out.dsk.cell 0
      have b1 : w2.cell? ⟨w.heap.size, 1, none⟩ = some (.bool false) := HBX.out.dsk.cell 1
      have b2 : w2.cell? ⟨w.heap.size, 2, none⟩ = some (.int .i64 fu) := HBX.out.dsk.cell 2
      have o0 : w2.cell? ⟨w.heap.size + 1, 0, none⟩ = some (.int .i64 2) := HBX.out.op.cell 0
      have o1 : w2.cell? ⟨w.heap.size + 1, 1, none⟩ = some (.string a) := HBX.out.op.cell 1
      have o2 : w2.cell? ⟨w.heap.size + 1, 2, none⟩ = some (.string z) := HBX.out.op.cell 2
      have o3 : w2.cell? ⟨w.heap.size + 1, 3, none⟩ = some (.int .i64 num) := HBX.out.op.cell 3
      have o4 : w2.cell? ⟨w.heap.size + 1, 4, none⟩ = some (.slice C bs.length cc) := HBX.out.op.cell 4
      have r0 : w2.cell? ⟨w.heap.size + 1 + 1, 0, none⟩ = some (.slice none 0 0) := HBX.out.res.cell 0
      have r1 : w2.cell? ⟨w.heap.size + 1 + 1, 1, none⟩ = some (.bool false) := HBX.out.res.cell 1
      have r2 : w2.cell? ⟨w.heap.size + 1 + 1, 2, none⟩ = some (.int .i64 0) := HBX.out.res.cell 2
      have q0 := HBX.out.res.free 0
      have q1 := HBX.out.res.free 1
      have q2 := HBX.out.res.free 2
      rcases hi with ⟨rfl, hnone⟩ | ⟨k, rfl, hk, hnk, hfirst⟩
      · have hfd : find (sname a) s.files = none := by rw [← HS.out]; exact find_of_none hnone
        have HFD := Lib.hid hfd; clear hfd hnone
        have HRES : Hid (Dsk.remove s (sname a) = (⟨s.files, false, fu⟩, 4)) := by
          show _ = _
          unfold Dsk.remove; rw [HST.out]
          simp only [look_none (s := ⟨s.files, false, fu⟩) rfl hn HFD.out]
        go_wp2_with fail
        refine bodyPost_ret (v := .tuple #[.agg #[.slice A rs.length c, .bool false, .int .i64 fu], .int .i64 4]) (by simp [results, Tryz.results23, go_sem, r0, r1, r2, q0, q1, q2]) rfl ?_
        rw [HRES.out]
        exact HBX.out.out HFB.out HS.out rfl _ _ _
      · have hfd : find (sname a) s.files = some rs[k].file := by rw [← HS.out]; exact find_of_at hk hnk hfirst
        have HFD := Lib.hid hfd; clear hfd hfirst
        obtain ⟨r, hr⟩ : ∃ r, r = rs[k] := ⟨_, rfl⟩
        obtain ⟨b, o, rfl, _, hbs, hc⟩ := HFB.out.1.at hk
        have c0 : w2.cell? ⟨b, o + k * 3, none⟩ = some (.string ⟨r.file.name.toArray⟩) := by rw [hr]; exact hc 0 (by decide)
        have c1 : w2.cell? ⟨b, o + k * 3 + 1, none⟩ = some (.slice r.A r.file.now.length r.c) := by rw [hr]; exact hc 1 (by decide)
        have c2 : w2.cell? ⟨b, o + k * 3 + 2, none⟩ = some (.slice r.B r.file.safe.length r.d) := by rw [hr]; exact hc 2 (by decide)
        have HOKr : Hid (RFok (up G w) w2 r) := by rw [hr]; exact HFB.out.2 _ (List.getElem_mem hk)
        rw [← hr] at HFD hnk
        have HNK := Lib.hid hnk
        clear hc hr hnk
        go_upto_region 16 with fail
        obtain ⟨w3, hw3⟩ : ∃ w3, w3 = w2.alloc (.cells #[.string ⟨r.file.name.toArray⟩, .slice r.A r.file.now.length r.c, .slice r.B r.file.safe.length r.d] 51) := ⟨_, rfl⟩
        rw [← hw3]
        have hab3 : Below w2.heap.size w2 w3 := by rw [hw3]; exact (Below.refl _ _).alloc (Nat.le_refl _) _
        have HFX : Hid (Blk w3 w2.heap.size 51 #[.string ⟨r.file.name.toArray⟩, .slice r.A r.file.now.length r.c, .slice r.B r.file.safe.length r.d]) := by rw [hw3]; exact Blk.new_ w2 _ _
        have HBX3 := Lib.hid (HBX.out.below hab3)
        have HFB3 := Lib.hid (HFB.out.below hab3)
        have HOK3 := Lib.hid (HOKr.out.below hab3)
        have hw2l : w.heap.size + 1 + 1 < w2.heap.size := HBX.out.res.lt
        clear b0 b1 b2 o0 o1 o2 o3 o4 r0 r1 r2 q0 q1 q2 c0 c1 c2 HBX HFB HOKr hw3 hab3
        obtain ⟨HBX, HFB, HOKr⟩ := And.intro HBX3 (And.intro HFB3 HOK3)
        clear HBX3 HFB3 HOK3
        have b0 : w3.cell? ⟨w.heap.size, 0, none⟩ = some (.slice (some ⟨b, o, none⟩) rs.length c) := HBX.out.dsk.cell 0
        have b1 : w3.cell? ⟨w.heap.size, 1, none⟩ = some (.bool false) := HBX.out.dsk.cell 1
        have b2 : w3.cell? ⟨w.heap.size, 2, none⟩ = some (.int .i64 fu) := HBX.out.dsk.cell 2
        have o0 : w3.cell? ⟨w.heap.size + 1, 0, none⟩ = some (.int .i64 2) := HBX.out.op.cell 0
        have o1 : w3.cell? ⟨w.heap.size + 1, 1, none⟩ = some (.string a) := HBX.out.op.cell 1
        have o2 : w3.cell? ⟨w.heap.size + 1, 2, none⟩ = some (.string z) := HBX.out.op.cell 2
        have o3 : w3.cell? ⟨w.heap.size + 1, 3, none⟩ = some (.int .i64 num) := HBX.out.op.cell 3
        have o4 : w3.cell? ⟨w.heap.size + 1, 4, none⟩ = some (.slice C bs.length cc) := HBX.out.op.cell 4
        have r0 : w3.cell? ⟨w.heap.size + 1 + 1, 0, none⟩ = some (.slice none 0 0) := HBX.out.res.cell 0
        have r1 : w3.cell? ⟨w.heap.size + 1 + 1, 1, none⟩ = some (.bool false) := HBX.out.res.cell 1
        have r2 : w3.cell? ⟨w.heap.size + 1 + 1, 2, none⟩ = some (.int .i64 0) := HBX.out.res.cell 2
        have q0 := HBX.out.res.free 0
        have q1 := HBX.out.res.free 1
        have q2 := HBX.out.res.free 2
        have f0 : w3.cell? ⟨w2.heap.size, 0, none⟩ = some (.string ⟨r.file.name.toArray⟩) := HFX.out.cell 0
        have f1 : w3.cell? ⟨w2.heap.size, 1, none⟩ = some (.slice r.A r.file.now.length r.c) := HFX.out.cell 1
        have f2 : w3.cell? ⟨w2.heap.size, 2, none⟩ = some (.slice r.B r.file.safe.length r.d) := HFX.out.cell 2
        have p0 := HFX.out.free 0
        have p1 := HFX.out.free 1
        have p2 := HFX.out.free 2
        have HRES : Hid (Dsk.remove s (sname a) = (⟨del (sname a) s.files, false, fu⟩, 0)) := by
          show _ = _
          unfold Dsk.remove; rw [HST.out]; simp only [look_found (s := ⟨s.files, false, fu⟩) rfl hn HFD.out]
        have hwo : Calls Tryz.prog 56 #[.agg #[.slice (some ⟨b, o, none⟩) rs.length c, .bool false, .int .i64 fu], .string a] w3 (RefPost (up G w) ⟨del (sname a) s.files, false, fu⟩ w3) := Without_any _ c rs HFB.out (by omega) ⟨s.files, false, fu⟩ HS.out a
        have HWO := Lib.hid hwo; clear hwo
        go_wp2_with fail
        (with_reducible refine HWO.out.mono ?_)
        clear f0 f1 f2 p0 p1 p2
        rintro e w5 ⟨v5, rfl, ⟨A5, c5, rs5, rfl, hf5, hm5⟩, hb5⟩
        have HBX5 := Lib.hid (HBX.out.below hb5)
        have HF5 : Hid (Files (up G w) w5 A5 rs5) := hf5.mono (fun _ _ h => h.elim id (fun h2 => .inr (Nat.le_trans HBX.out.bel.size h2)))
        have HM5 := Lib.hid hm5
        clear b0 b1 b2 o0 o1 o2 o3 o4 r0 r1 r2 q0 q1 q2 HBX hb5 hf5 hm5
        obtain ⟨HBX, _⟩ := And.intro HBX5 trivial
        clear HBX5
        have b0 : w5.cell? ⟨w.heap.size, 0, none⟩ = some (.slice (some ⟨b, o, none⟩) rs.length c) := HBX.out.dsk.cell 0
        have b1 : w5.cell? ⟨w.heap.size, 1, none⟩ = some (.bool false) := HBX.out.dsk.cell 1
        have b2 : w5.cell? ⟨w.heap.size, 2, none⟩ = some (.int .i64 fu) := HBX.out.dsk.cell 2
        have o0 : w5.cell? ⟨w.heap.size + 1, 0, none⟩ = some (.int .i64 2) := HBX.out.op.cell 0
        have o1 : w5.cell? ⟨w.heap.size + 1, 1, none⟩ = some (.string a) := HBX.out.op.cell 1
        have o2 : w5.cell? ⟨w.heap.size + 1, 2, none⟩ = some (.string z) := HBX.out.op.cell 2
        have o3 : w5.cell? ⟨w.heap.size + 1, 3, none⟩ = some (.int .i64 num) := HBX.out.op.cell 3
        have o4 : w5.cell? ⟨w.heap.size + 1, 4, none⟩ = some (.slice C bs.length cc) := HBX.out.op.cell 4
        have r0 : w5.cell? ⟨w.heap.size + 1 + 1, 0, none⟩ = some (.slice none 0 0) := HBX.out.res.cell 0
        have r1 : w5.cell? ⟨w.heap.size + 1 + 1, 1, none⟩ = some (.bool false) := HBX.out.res.cell 1
        have r2 : w5.cell? ⟨w.heap.size + 1 + 1, 2, none⟩ = some (.int .i64 0) := HBX.out.res.cell 2
        have q0 := HBX.out.res.free 0
        have q1 := HBX.out.res.free 1
        have q2 := HBX.out.res.free 2
        go_wp2_with fail
        refine bodyPost_ret (v := .tuple #[.agg #[.slice A5 rs5.length c5, .bool false, .int .i64 fu], .int .i64 0]) (by simp [results, Tryz.results23, go_sem, r0, r1, r2, q0, q1, q2]) rfl ?_
        rw [HRES.out]
        exact HBX.out.out HF5.out HM5.out rfl _ _ _
    · have hn : named (sname a) = false := by simpa using hn
      have HRES : Hid (Dsk.remove s (sname a) = (⟨s.files, false, fu⟩, 1)) := by
        show _ = _
        unfold Dsk.remove; rw [HST.out]; simp only
        have : Dsk.look ⟨s.files, false, fu⟩ [sname a] = (none, 1) := by unfold Dsk.look; rw [if_neg (by simp), if_pos (by simp [hn])]
        rw [this]
      go_wp2_with fail
      (with_reducible refine (rname_any _ ha _).mono ?_); rintro e w' ⟨rfl, rfl⟩
      go_wp2_with fail
      refine bodyPost_ret (v := .tuple #[.agg #[.slice A rs.length c, .bool false, .int .i64 fu], .int .i64 1]) (by simp [results, Tryz.results23, go_sem, r0, r1, r2, q0, q1, q2]) rfl ?_
      rw [HRES.out]
      exact HBX.out.out HFB.out HS.out rfl _ _ _
  · skip
    have b0 : wB.cell? ⟨w.heap.size, 0, none⟩ = some (.slice A rs.length c) := HBX.out.dsk.cell 0
    have b1 : wB.cell? ⟨w.heap.size, 1, none⟩ = some (.bool true) := HBX.out.dsk.cell 1
    have b2 : wB.cell? ⟨w.heap.size, 2, none⟩ = some (.int .i64 fu) := HBX.out.dsk.cell 2
    have o0 : wB.cell? ⟨w.heap.size + 1, 0, none⟩ = some (.int .i64 2) := HBX.out.op.cell 0
    have o1 : wB.cell? ⟨w.heap.size + 1, 1, none⟩ = some (.string a) := HBX.out.op.cell 1
    have o2 : wB.cell? ⟨w.heap.size + 1, 2, none⟩ = some (.string z) := HBX.out.op.cell 2
    have o3 : wB.cell? ⟨w.heap.size + 1, 3, none⟩ = some (.int .i64 num) := HBX.out.op.cell 3
    have o4 : wB.cell? ⟨w.heap.size + 1, 4, none⟩ = some (.slice C bs.length cc) := HBX.out.op.cell 4
    have r0 : wB.cell? ⟨w.heap.size + 1 + 1, 0, none⟩ = some (.slice none 0 0) := HBX.out.res.cell 0
    have r1 : wB.cell? ⟨w.heap.size + 1 + 1, 1, none⟩ = some (.bool false) := HBX.out.res.cell 1
    have r2 : wB.cell? ⟨w.heap.size + 1 + 1, 2, none⟩ = some (.int .i64 0) := HBX.out.res.cell 2
    have q0 := HBX.out.res.free 0
    have q1 := HBX.out.res.free 1
    have q2 := HBX.out.res.free 2
    have HRES : Hid (Dsk.remove s (sname a) = (⟨s.files, true, fu⟩, 50)) := by
      show _ = _
      unfold Dsk.remove; rw [HST.out]; simp only
      rw [look_down rfl]
    go_wp2_with fail
    refine bodyPost_ret (v := .tuple #[.agg #[.slice A rs.length c, .bool true, .int .i64 fu], .int .i64 50]) (by simp [results, Tryz.results23, go_sem, r0, r1, r2, q0, q1, q2]) rfl ?_
    rw [HRES.out]
    exact HBX.out.out HFB.out HS.out rfl _ _ _
set_option maxRecDepth 100000 in
set_option maxHeartbeats 8000000 in
theorem Do3_any {G : Nat → Prop} {w : World} (A : Option Addr) (c : Nat) (rs : List RFile) (h : Files G w A rs) (s : S) (hs : rs.map RFile.file = s.files) (hct : rs.length ≤ 256) (hfu : s.fuse ≤ 9223372036854775807) (hso : Sorted s.files)
    (a z : ByteArray) (ha : a.size ≤ maxLen) (hz : z.size ≤ maxLen) (num : Int) (hnum : (Lit.int .i64 num).wf = true) (C : Option Addr) (cc : Nat) (bs : List UInt8) (hbs : Sl fB w C bs) :
    Calls Tryz.prog 23 #[.agg #[.slice A rs.length c, .bool s.down, .int .i64 s.fuse], .agg #[.int .i64 3, .string a, .string z, .int .i64 num, .slice C bs.length cc]] w (DoPost G (Dsk.rename s (sname a) (sname z)) w) := by
  have hl := h.1.len
  have hbl := hbs.len
  have HF := Lib.hid h; clear h
  have HS := Lib.hid hs; clear hs
  have HSO := Lib.hid hso; clear hso
  have HBS := Lib.hid hbs; clear hbs
  have HNUM := Lib.hid hnum; clear hnum
  rcases hst : Dsk.step s with ⟨fs1, dn, fu⟩
  have hfs : fs1 = s.files := by have := step_files s; rw [hst] at this; exact this
  have hstp : ∀ W, Calls Tryz.prog 53 #[.agg #[.slice A rs.length c, .bool s.down, .int .i64 s.fuse]] W fun e w' => e = .returned (.agg #[.slice A rs.length c, .bool dn, .int .i64 fu]) ∧ Below W.heap.size W w' :=
    fun W => (Step_any A rs.length c s hfu W).mono (by rintro e w' ⟨he, hb⟩; rw [hst] at he; exact ⟨he, hb⟩)
  have HSTP := Lib.hid hstp; clear hstp
  subst hfs
  have HST := Lib.hid hst; clear hst hfu
  go_enter Tryz.func23, Tryz.ntmps23
  go_wp2_with fail
  obtain ⟨wa, hwa⟩ : ∃ wa, wa = ((w.alloc (.cells #[.slice A rs.length c, .bool s.down, .int .i64 s.fuse] 32)).alloc (.cells #[.int .i64 3, .string a, .string z, .int .i64 num, .slice C bs.length cc] 69)).alloc (.cells #[.slice none 0 0, .bool false, .int .i64 0] 32) := ⟨_, rfl⟩
  rw [← hwa]
  have hbxa : DoBox w A rs.length c s 3 a z num C bs.length cc wa := by
    have b2 := Blk.new_ (w.alloc (.cells #[.slice A rs.length c, .bool s.down, .int .i64 s.fuse] 32)) 69 #[.int .i64 3, .string a, .string z, .int .i64 num, .slice C bs.length cc]
    rw [World.size_alloc] at b2
    have b3 := Blk.new_ ((w.alloc (.cells #[.slice A rs.length c, .bool s.down, .int .i64 s.fuse] 32)).alloc (.cells #[.int .i64 3, .string a, .string z, .int .i64 num, .slice C bs.length cc] 69)) 32 #[.slice none 0 0, .bool false, .int .i64 0]
    rw [World.size_alloc, World.size_alloc] at b3
    rw [hwa]
    exact ⟨(((Below.refl _ _).alloc (Nat.le_refl _) _).alloc (by simp) _).alloc (by simp; omega) _, ((Blk.new_ w _ _).alloc _).alloc _, b2.alloc _, b3⟩
  have HBXA := Lib.hid hbxa; clear hbxa hwa
  (with_reducible refine (HSTP.out wa).mono ?_); rintro e w1 ⟨rfl, hb1⟩
  have hbx1 := HBXA.out.below hb1
  have d0 : w1.cell? ⟨w.heap.size, 0, none⟩ = some (.slice A rs.length c) := hbx1.dsk.cell 0
  have d1 : w1.cell? ⟨w.heap.size, 1, none⟩ = some (.bool s.down) := hbx1.dsk.cell 1
  have d2 : w1.cell? ⟨w.heap.size, 2, none⟩ = some (.int .i64 s.fuse) := hbx1.dsk.cell 2
  have g0 := hbx1.dsk.free 0
  have g1 := hbx1.dsk.free 1
  have g2 := hbx1.dsk.free 2
  have HBX1 := Lib.hid hbx1; clear hbx1 hb1 HBXA HSTP
  go_upto_region 2 with fail
  obtain ⟨wB, hwB⟩ : ∃ wB, wB = ((w1.setCell ⟨w.heap.size, 0, none⟩ (.slice A rs.length c)).setCell ⟨w.heap.size, 1, none⟩ (.bool dn)).setCell ⟨w.heap.size, 2, none⟩ (.int .i64 fu) := ⟨_, rfl⟩
  rw [← hwB]
  have hbx : DoBox w A rs.length c ⟨s.files, dn, fu⟩ 3 a z num C bs.length cc wB := by
    have e1 : w.heap.size + 1 ≠ w.heap.size := by omega
    have e2 : w.heap.size + 1 + 1 ≠ w.heap.size := by omega
    rw [hwB]
    exact ⟨((HBX1.out.bel.setCell (p := ⟨w.heap.size, 0, none⟩) (Nat.le_refl _) _).setCell (p := ⟨w.heap.size, 1, none⟩) (Nat.le_refl _) _).setCell (p := ⟨w.heap.size, 2, none⟩) (Nat.le_refl _) _,
      ((HBX1.out.dsk.set_ 0 _).set_ 1 _).set_ 2 _, ((HBX1.out.op.far (p := ⟨w.heap.size, 0, none⟩) e1 _).far (p := ⟨w.heap.size, 1, none⟩) e1 _).far (p := ⟨w.heap.size, 2, none⟩) e1 _,
      ((HBX1.out.res.far (p := ⟨w.heap.size, 0, none⟩) e2 _).far (p := ⟨w.heap.size, 1, none⟩) e2 _).far (p := ⟨w.heap.size, 2, none⟩) e2 _⟩
  clear d0 d1 d2 g0 g1 g2 hwB HBX1
  have HFB : Hid (Files (up G w) wB A rs) := (HF.out.below hbx.bel).mono (fun _ _ h => .inl h)
  have HBX := Lib.hid hbx; clear hbx
  cases dn
  · skip
    have b0 : wB.cell? ⟨w.heap.size, 0, none⟩ = some (.slice A rs.length c) := HBX.out.dsk.cell 0
    have b1 : wB.cell? ⟨w.heap.size, 1, none⟩ = some (.bool false) := HBX.out.dsk.cell 1
    have b2 : wB.cell? ⟨w.heap.size, 2, none⟩ = some (.int .i64 fu) := HBX.out.dsk.cell 2
    have o0 : wB.cell? ⟨w.heap.size + 1, 0, none⟩ = some (.int .i64 3) := HBX.out.op.cell 0
    have o1 : wB.cell? ⟨w.heap.size + 1, 1, none⟩ = some (.string a) := HBX.out.op.cell 1
    have o2 : wB.cell? ⟨w.heap.size + 1, 2, none⟩ = some (.string z) := HBX.out.op.cell 2
    have o3 : wB.cell? ⟨w.heap.size + 1, 3, none⟩ = some (.int .i64 num) := HBX.out.op.cell 3
    have o4 : wB.cell? ⟨w.heap.size + 1, 4, none⟩ = some (.slice C bs.length cc) := HBX.out.op.cell 4
    have r0 : wB.cell? ⟨w.heap.size + 1 + 1, 0, none⟩ = some (.slice none 0 0) := HBX.out.res.cell 0
    have r1 : wB.cell? ⟨w.heap.size + 1 + 1, 1, none⟩ = some (.bool false) := HBX.out.res.cell 1
    have r2 : wB.cell? ⟨w.heap.size + 1 + 1, 2, none⟩ = some (.int .i64 0) := HBX.out.res.cell 2
    have q0 := HBX.out.res.free 0
    have q1 := HBX.out.res.free 1
    have q2 := HBX.out.res.free 2
    by_cases hn : named (sname a) = true
    · skip
      by_cases hn2 : named (sname z) = true
      · skip
        go_wp2_with fail
        (with_reducible refine (rname_any _ ha _).mono ?_); rintro e w' ⟨rfl, rfl⟩
        go_wp2_with fail
        (with_reducible refine (rname_any _ hz _).mono ?_); rintro e w' ⟨rfl, rfl⟩
        go_wp2_with fail
        (with_reducible refine (Find_any A c rs HFB.out false fu a).mono ?_); rintro e w2 ⟨i, rfl, hb2, hi⟩
        have HBX2 := Lib.hid (HBX.out.below hb2)
        have HFB2 := Lib.hid (HFB.out.below hb2)
        clear b0 b1 b2 o0 o1 o2 o3 o4 r0 r1 r2 q0 q1 q2 HBX HFB hb2
        obtain ⟨HBX, HFB⟩ := And.intro HBX2 HFB2
        clear HBX2 HFB2
        have b0 : w2.cell? ⟨w.heap.size, 0, none⟩ = some (.slice A rs.length c) := HBX.out.dsk.cell 0
        have b1 : w2.cell? ⟨w.heap.size, 1, none⟩ = some (.bool false) := HBX.out.dsk.cell 1
        have b2 : w2.cell? ⟨w.heap.size, 2, none⟩ = some (.int .i64 fu) := HBX.out.dsk.cell 2
        have o0 : w2.cell? ⟨w.heap.size + 1, 0, none⟩ = some (.int .i64 3) := HBX.out.op.cell 0
        have o1 : w2.cell? ⟨w.heap.size + 1, 1, none⟩ = some (.string a) := HBX.out.op.cell 1
        have o2 : w2.cell? ⟨w.heap.size + 1, 2, none⟩ = some (.string z) := HBX.out.op.cell 2
        have o3 : w2.cell? ⟨w.heap.size + 1, 3, none⟩ = some (.int .i64 num) := HBX.out.op.cell 3
        have o4 : w2.cell? ⟨w.heap.size + 1, 4, none⟩ = some (.slice C bs.length cc) := HBX.out.op.cell 4
        have r0 : w2.cell? ⟨w.heap.size + 1 + 1, 0, none⟩ = some (.slice none 0 0) := HBX.out.res.cell 0
        have r1 : w2.cell? ⟨w.heap.size + 1 + 1, 1, none⟩ = some (.bool false) := HBX.out.res.cell 1
        have r2 : w2.cell? ⟨w.heap.size + 1 + 1, 2, none⟩ = some (.int .i64 0) := HBX.out.res.cell 2
        have q0 := HBX.out.res.free 0
        have q1 := HBX.out.res.free 1
        have q2 := HBX.out.res.free 2
        rcases hi with ⟨rfl, hnone⟩ | ⟨k, rfl, hk, hnk, hfirst⟩
        · have hfd : find (sname a) s.files = none := by rw [← HS.out]; exact find_of_none hnone
          have HFD := Lib.hid hfd; clear hfd hnone
          have HRES : Hid (Dsk.rename s (sname a) (sname z) = (⟨s.files, false, fu⟩, 4)) := by
            show _ = _
            unfold Dsk.rename; rw [HST.out]
            have : Dsk.look ⟨s.files, false, fu⟩ [sname a, sname z] = (none, 4) := by unfold Dsk.look; rw [if_neg (by simp), if_neg (by simp [hn, hn2])]; show (match find (sname a) s.files with | some f => (some f, 0) | none => (none, 4)) = _; rw [HFD.out]
            simp only [this]
          go_wp2_with fail
          refine bodyPost_ret (v := .tuple #[.agg #[.slice A rs.length c, .bool false, .int .i64 fu], .int .i64 4]) (by simp [results, Tryz.results23, go_sem, r0, r1, r2, q0, q1, q2]) rfl ?_
          rw [HRES.out]
          exact HBX.out.out HFB.out HS.out rfl _ _ _
        · have hfd : find (sname a) s.files = some rs[k].file := by rw [← HS.out]; exact find_of_at hk hnk hfirst
          have HFD := Lib.hid hfd; clear hfd hfirst
          have HFBn : Hid (Files (fun g => up G w g ∧ g ≠ w2.heap.size) w2 A rs) := HFB.out.mono (fun g hg h => ⟨h, Nat.ne_of_lt hg⟩)
          clear HFB; obtain ⟨HFB, _⟩ := And.intro HFBn trivial; clear HFBn
          obtain ⟨r, hr⟩ : ∃ r, r = rs[k] := ⟨_, rfl⟩
          obtain ⟨b, o, rfl, _, hbs, hc⟩ := HFB.out.1.at hk
          have c0 : w2.cell? ⟨b, o + k * 3, none⟩ = some (.string ⟨r.file.name.toArray⟩) := by rw [hr]; exact hc 0 (by decide)
          have c1 : w2.cell? ⟨b, o + k * 3 + 1, none⟩ = some (.slice r.A r.file.now.length r.c) := by rw [hr]; exact hc 1 (by decide)
          have c2 : w2.cell? ⟨b, o + k * 3 + 2, none⟩ = some (.slice r.B r.file.safe.length r.d) := by rw [hr]; exact hc 2 (by decide)
          have HOKr : Hid (RFok (fun g => up G w g ∧ g ≠ w2.heap.size) w2 r) := by rw [hr]; exact HFB.out.2 _ (List.getElem_mem hk)
          rw [← hr] at HFD hnk
          have HNK := Lib.hid hnk
          clear hc hr hnk
          go_upto_region 16 with fail
          obtain ⟨w3, hw3⟩ : ∃ w3, w3 = w2.alloc (.cells #[.string ⟨r.file.name.toArray⟩, .slice r.A r.file.now.length r.c, .slice r.B r.file.safe.length r.d] 51) := ⟨_, rfl⟩
          rw [← hw3]
          have hab3 : Below w2.heap.size w2 w3 := by rw [hw3]; exact (Below.refl _ _).alloc (Nat.le_refl _) _
          have HFX : Hid (Blk w3 w2.heap.size 51 #[.string ⟨r.file.name.toArray⟩, .slice r.A r.file.now.length r.c, .slice r.B r.file.safe.length r.d]) := by rw [hw3]; exact Blk.new_ w2 _ _
          have HBX3 := Lib.hid (HBX.out.below hab3)
          have HFB3 := Lib.hid (HFB.out.below hab3)
          have HOK3 := Lib.hid (HOKr.out.below hab3)
          have hw2l : w.heap.size + 1 + 1 < w2.heap.size := HBX.out.res.lt
          clear b0 b1 b2 o0 o1 o2 o3 o4 r0 r1 r2 q0 q1 q2 c0 c1 c2 HBX HFB HOKr hw3 hab3
          obtain ⟨HBX, HFB, HOKr⟩ := And.intro HBX3 (And.intro HFB3 HOK3)
          clear HBX3 HFB3 HOK3
          have b0 : w3.cell? ⟨w.heap.size, 0, none⟩ = some (.slice (some ⟨b, o, none⟩) rs.length c) := HBX.out.dsk.cell 0
          have b1 : w3.cell? ⟨w.heap.size, 1, none⟩ = some (.bool false) := HBX.out.dsk.cell 1
          have b2 : w3.cell? ⟨w.heap.size, 2, none⟩ = some (.int .i64 fu) := HBX.out.dsk.cell 2
          have o0 : w3.cell? ⟨w.heap.size + 1, 0, none⟩ = some (.int .i64 3) := HBX.out.op.cell 0
          have o1 : w3.cell? ⟨w.heap.size + 1, 1, none⟩ = some (.string a) := HBX.out.op.cell 1
          have o2 : w3.cell? ⟨w.heap.size + 1, 2, none⟩ = some (.string z) := HBX.out.op.cell 2
          have o3 : w3.cell? ⟨w.heap.size + 1, 3, none⟩ = some (.int .i64 num) := HBX.out.op.cell 3
          have o4 : w3.cell? ⟨w.heap.size + 1, 4, none⟩ = some (.slice C bs.length cc) := HBX.out.op.cell 4
          have r0 : w3.cell? ⟨w.heap.size + 1 + 1, 0, none⟩ = some (.slice none 0 0) := HBX.out.res.cell 0
          have r1 : w3.cell? ⟨w.heap.size + 1 + 1, 1, none⟩ = some (.bool false) := HBX.out.res.cell 1
          have r2 : w3.cell? ⟨w.heap.size + 1 + 1, 2, none⟩ = some (.int .i64 0) := HBX.out.res.cell 2
          have q0 := HBX.out.res.free 0
          have q1 := HBX.out.res.free 1
          have q2 := HBX.out.res.free 2
          have f0 : w3.cell? ⟨w2.heap.size, 0, none⟩ = some (.string ⟨r.file.name.toArray⟩) := HFX.out.cell 0
          have f1 : w3.cell? ⟨w2.heap.size, 1, none⟩ = some (.slice r.A r.file.now.length r.c) := HFX.out.cell 1
          have f2 : w3.cell? ⟨w2.heap.size, 2, none⟩ = some (.slice r.B r.file.safe.length r.d) := HFX.out.cell 2
          have p0 := HFX.out.free 0
          have p1 := HFX.out.free 1
          have p2 := HFX.out.free 2
          have HRES : Hid (Dsk.rename s (sname a) (sname z) = (⟨put { r.file with name := sname z } (del (sname a) s.files), false, fu⟩, 0)) := by
            show _ = _
            unfold Dsk.rename; rw [HST.out]
            have : Dsk.look ⟨s.files, false, fu⟩ [sname a, sname z] = (some r.file, 0) := by unfold Dsk.look; rw [if_neg (by simp), if_neg (by simp [hn, hn2])]; show (match find (sname a) s.files with | some f => (some f, 0) | none => (none, 4)) = _; rw [HFD.out]
            simp only [this]
          have hwo : Calls Tryz.prog 56 #[.agg #[.slice (some ⟨b, o, none⟩) rs.length c, .bool false, .int .i64 fu], .string a] w3 (RefPost (fun g => up G w g ∧ g ≠ w2.heap.size) ⟨del (sname a) s.files, false, fu⟩ w3) := Without_any _ c rs HFB.out (by omega) ⟨s.files, false, fu⟩ HS.out a
          have HWO := Lib.hid hwo; clear hwo
          go_wp2_with fail
          (with_reducible refine HWO.out.mono ?_)
          rintro e w6 ⟨v6, rfl, ⟨A6, c6, rs6, rfl, hf6, hm6⟩, hb6⟩
          have hl6 := hf6.1.len
          have HM6 := Lib.hid hm6
          have HF6 := Lib.hid hf6
          clear hm6 hf6
          have hct6 : rs6.length ≤ 256 := by
            have h1 : rs6.length = (rs6.map RFile.file).length := by simp
            have h2 : (del (sname a) s.files).length ≤ s.files.length := List.length_filter_le _ _
            have h3 : s.files.length = rs.length := by rw [← HS.out, List.length_map]
            rw [h1, HM6.out]; exact Nat.le_trans h2 (by omega)
          have HSZ3 : Hid (w2.heap.size < w3.heap.size) := HFX.out.lt
          have HBXs := Lib.hid (HBX.out.below hb6)
          have HFBs := Lib.hid (HFB.out.below hb6)
          have HOKs := Lib.hid (HOKr.out.below hb6)
          have HFXs := Lib.hid (HFX.out.below hb6 HFX.out.lt)
          have HW3 : Hid (w.heap.size ≤ w3.heap.size) := HBX.out.bel.size
          clear b0 b1 b2 o0 o1 o2 o3 o4 r0 r1 r2 q0 q1 q2 f0 f1 f2 p0 p1 p2 HBX HFB HOKr HFX hb6
          obtain ⟨HBX, HFB, HOKr, HFX⟩ := And.intro HBXs (And.intro HFBs (And.intro HOKs HFXs))
          clear HBXs HFBs HOKs HFXs
          have b0 : w6.cell? ⟨w.heap.size, 0, none⟩ = some (.slice (some ⟨b, o, none⟩) rs.length c) := HBX.out.dsk.cell 0
          have b1 : w6.cell? ⟨w.heap.size, 1, none⟩ = some (.bool false) := HBX.out.dsk.cell 1
          have b2 : w6.cell? ⟨w.heap.size, 2, none⟩ = some (.int .i64 fu) := HBX.out.dsk.cell 2
          have o0 : w6.cell? ⟨w.heap.size + 1, 0, none⟩ = some (.int .i64 3) := HBX.out.op.cell 0
          have o1 : w6.cell? ⟨w.heap.size + 1, 1, none⟩ = some (.string a) := HBX.out.op.cell 1
          have o2 : w6.cell? ⟨w.heap.size + 1, 2, none⟩ = some (.string z) := HBX.out.op.cell 2
          have o3 : w6.cell? ⟨w.heap.size + 1, 3, none⟩ = some (.int .i64 num) := HBX.out.op.cell 3
          have o4 : w6.cell? ⟨w.heap.size + 1, 4, none⟩ = some (.slice C bs.length cc) := HBX.out.op.cell 4
          have r0 : w6.cell? ⟨w.heap.size + 1 + 1, 0, none⟩ = some (.slice none 0 0) := HBX.out.res.cell 0
          have r1 : w6.cell? ⟨w.heap.size + 1 + 1, 1, none⟩ = some (.bool false) := HBX.out.res.cell 1
          have r2 : w6.cell? ⟨w.heap.size + 1 + 1, 2, none⟩ = some (.int .i64 0) := HBX.out.res.cell 2
          have q0 := HBX.out.res.free 0
          have q1 := HBX.out.res.free 1
          have q2 := HBX.out.res.free 2
          have f0 : w6.cell? ⟨w2.heap.size, 0, none⟩ = some (.string ⟨r.file.name.toArray⟩) := HFX.out.cell 0
          have f1 : w6.cell? ⟨w2.heap.size, 1, none⟩ = some (.slice r.A r.file.now.length r.c) := HFX.out.cell 1
          have f2 : w6.cell? ⟨w2.heap.size, 2, none⟩ = some (.slice r.B r.file.safe.length r.d) := HFX.out.cell 2
          have p0 := HFX.out.free 0
          have p1 := HFX.out.free 1
          have p2 := HFX.out.free 2
          have g0 := HBX.out.dsk.free 0
          have g1 := HBX.out.dsk.free 1
          have g2 := HBX.out.dsk.free 2
          go_upto_region 35 with fail
          obtain ⟨w4, hw4⟩ : ∃ x, x = (((w6.setCell ⟨w.heap.size, 0, none⟩ (.slice A6 rs6.length c6)).setCell ⟨w.heap.size, 1, none⟩ (.bool false)).setCell ⟨w.heap.size, 2, none⟩ (.int .i64 fu)).setCell ⟨w2.heap.size, 0, none⟩ (.string z) := ⟨_, rfl⟩
          rw [← hw4]
          have e1 : w.heap.size + 1 ≠ w.heap.size := by omega
          have e2 : w.heap.size + 1 + 1 ≠ w.heap.size := by omega
          have e3 : w2.heap.size ≠ w.heap.size := by omega
          have HBX4 : Hid (DoBox w A6 rs6.length c6 ⟨del (sname a) s.files, false, fu⟩ 3 a z num C bs.length cc w4) := by
            rw [hw4]
            exact DoBox.setFar ⟨((HBX.out.bel.setCell (p := ⟨w.heap.size, 0, none⟩) (Nat.le_refl _) _).setCell (p := ⟨w.heap.size, 1, none⟩) (Nat.le_refl _) _).setCell (p := ⟨w.heap.size, 2, none⟩) (Nat.le_refl _) _,
              ((HBX.out.dsk.set_ 0 _).set_ 1 _).set_ 2 _, ((HBX.out.op.far (p := ⟨w.heap.size, 0, none⟩) e1 _).far (p := ⟨w.heap.size, 1, none⟩) e1 _).far (p := ⟨w.heap.size, 2, none⟩) e1 _,
              ((HBX.out.res.far (p := ⟨w.heap.size, 0, none⟩) e2 _).far (p := ⟨w.heap.size, 1, none⟩) e2 _).far (p := ⟨w.heap.size, 2, none⟩) e2 _⟩ (p := ⟨w2.heap.size, 0, none⟩) hw2l _
          have HFX4 : Hid (Blk w4 w2.heap.size 51 #[.string z, .slice r.A r.file.now.length r.c, .slice r.B r.file.safe.length r.d]) := by
            rw [hw4]; exact (((HFX.out.far (p := ⟨w.heap.size, 0, none⟩) e3 _).far (p := ⟨w.heap.size, 1, none⟩) e3 _).far (p := ⟨w.heap.size, 2, none⟩) e3 _).set_ 0 _
          have hk1 := HBX.out.dsk
          have hk2 := hk1.set_ 0 (.slice A6 rs6.length c6)
          have hk3 := hk2.set_ 1 (.bool false)
          have hfx3 := ((HFX.out.far (p := ⟨w.heap.size, 0, none⟩) e3 (.slice A6 rs6.length c6)).far (p := ⟨w.heap.size, 1, none⟩) e3 (.bool false)).far (p := ⟨w.heap.size, 2, none⟩) e3 (.int .i64 fu)
          have HOK4 : Hid (RFok (up G w) w4 r) := by rw [hw4]; exact ((((HOKr.out.far hk1 (by decide) 0 _).far hk2 (by decide) 1 _).far hk3 (by decide) 2 _).far hfx3 (by decide) 0 _).mono (fun _ _ h => h.1)
          have HF4 : Hid (Files (up G w) w4 A6 rs6) := by
            rw [hw4]
            refine Files.mono (F := up (fun g => up G w g ∧ g ≠ w2.heap.size) w3) ?_ (fun g _ h => h.elim (fun h => h.1) (fun h => .inr (Nat.le_trans HW3.out h)))
            refine Files.frm (((HF6.out.far hk1 (by decide) (by decide) 0 _).far hk2 (by decide) (by decide) 1 _).far hk3 (by decide) (by decide) 2 _) ((Frm.refl (fun g => g = w2.heap.size) _).setCell (fun _ => rfl) _) ?_
            intro g h e
            rcases h with h | h
            · exact h.2 e
            · have := HSZ3.out; have h' : w2.heap.size < w3.heap.size := this; have e' : g = w2.heap.size := e; omega
          clear b0 b1 b2 o0 o1 o2 o3 o4 r0 r1 r2 q0 q1 q2 f0 f1 f2 p0 p1 p2 g0 g1 g2 HBX HFB HOKr HFX HF6 hk1 hk2 hk3 hfx3 hw4 e1 e2 e3
          obtain ⟨HBX, HFB, HOKr, HFX⟩ := And.intro HBX4 (And.intro HF4 (And.intro HOK4 HFX4))
          clear HBX4 HF4 HOK4 HFX4
          have b0 : w4.cell? ⟨w.heap.size, 0, none⟩ = some (.slice A6 rs6.length c6) := HBX.out.dsk.cell 0
          have b1 : w4.cell? ⟨w.heap.size, 1, none⟩ = some (.bool false) := HBX.out.dsk.cell 1
          have b2 : w4.cell? ⟨w.heap.size, 2, none⟩ = some (.int .i64 fu) := HBX.out.dsk.cell 2
          have o0 : w4.cell? ⟨w.heap.size + 1, 0, none⟩ = some (.int .i64 3) := HBX.out.op.cell 0
          have o1 : w4.cell? ⟨w.heap.size + 1, 1, none⟩ = some (.string a) := HBX.out.op.cell 1
          have o2 : w4.cell? ⟨w.heap.size + 1, 2, none⟩ = some (.string z) := HBX.out.op.cell 2
          have o3 : w4.cell? ⟨w.heap.size + 1, 3, none⟩ = some (.int .i64 num) := HBX.out.op.cell 3
          have o4 : w4.cell? ⟨w.heap.size + 1, 4, none⟩ = some (.slice C bs.length cc) := HBX.out.op.cell 4
          have r0 : w4.cell? ⟨w.heap.size + 1 + 1, 0, none⟩ = some (.slice none 0 0) := HBX.out.res.cell 0
          have r1 : w4.cell? ⟨w.heap.size + 1 + 1, 1, none⟩ = some (.bool false) := HBX.out.res.cell 1
          have r2 : w4.cell? ⟨w.heap.size + 1 + 1, 2, none⟩ = some (.int .i64 0) := HBX.out.res.cell 2
          have q0 := HBX.out.res.free 0
          have q1 := HBX.out.res.free 1
          have q2 := HBX.out.res.free 2
          have f0 : w4.cell? ⟨w2.heap.size, 0, none⟩ = some (.string z) := HFX.out.cell 0
          have f1 : w4.cell? ⟨w2.heap.size, 1, none⟩ = some (.slice r.A r.file.now.length r.c) := HFX.out.cell 1
          have f2 : w4.cell? ⟨w2.heap.size, 2, none⟩ = some (.slice r.B r.file.safe.length r.d) := HFX.out.cell 2
          have hwi : Calls Tryz.prog 55 #[.agg #[.slice A6 rs6.length c6, .bool false, .int .i64 fu], .agg #[.string z, .slice r.A r.file.now.length r.c, .slice r.B r.file.safe.length r.d]] w4 (RefPost (up G w) ⟨put { r.file with name := sname z } (del (sname a) s.files), false, fu⟩ w4) := by
            have h9 := With_any A6 c6 rs6 HFB.out (by omega) ⟨del (sname a) s.files, false, fu⟩ HM6.out { r with file := { r.file with name := sname z } } ⟨HOKr.out.now, HOKr.out.safe, ⟨HOKr.out.sz.1, HOKr.out.sz.2.1, hn2⟩, HOKr.out.cn, HOKr.out.cs⟩
            simp only [arr_sname] at h9
            exact h9
          have HWI := Lib.hid hwi; clear hwi
          go_wp2_with fail
          (with_reducible refine HWI.out.mono ?_)
          clear f0 f1 f2
          rintro e w5 ⟨v5, rfl, ⟨A5, c5, rs5, rfl, hf5, hm5⟩, hb5⟩
          have HBX5 := Lib.hid (HBX.out.below hb5)
          have HF5 : Hid (Files (up G w) w5 A5 rs5) := hf5.mono (fun _ _ h => h.elim id (fun h2 => .inr (Nat.le_trans HBX.out.bel.size h2)))
          have HM5 := Lib.hid hm5
          clear b0 b1 b2 o0 o1 o2 o3 o4 r0 r1 r2 q0 q1 q2 HBX hb5 hf5 hm5
          obtain ⟨HBX, _⟩ := And.intro HBX5 trivial
          clear HBX5
          have b0 : w5.cell? ⟨w.heap.size, 0, none⟩ = some (.slice A6 rs6.length c6) := HBX.out.dsk.cell 0
          have b1 : w5.cell? ⟨w.heap.size, 1, none⟩ = some (.bool false) := HBX.out.dsk.cell 1
          have b2 : w5.cell? ⟨w.heap.size, 2, none⟩ = some (.int .i64 fu) := HBX.out.dsk.cell 2
          have o0 : w5.cell? ⟨w.heap.size + 1, 0, none⟩ = some (.int .i64 3) := HBX.out.op.cell 0
          have o1 : w5.cell? ⟨w.heap.size + 1, 1, none⟩ = some (.string a) := HBX.out.op.cell 1
          have o2 : w5.cell? ⟨w.heap.size + 1, 2, none⟩ = some (.string z) := HBX.out.op.cell 2
          have o3 : w5.cell? ⟨w.heap.size + 1, 3, none⟩ = some (.int .i64 num) := HBX.out.op.cell 3
          have o4 : w5.cell? ⟨w.heap.size + 1, 4, none⟩ = some (.slice C bs.length cc) := HBX.out.op.cell 4
          have r0 : w5.cell? ⟨w.heap.size + 1 + 1, 0, none⟩ = some (.slice none 0 0) := HBX.out.res.cell 0
          have r1 : w5.cell? ⟨w.heap.size + 1 + 1, 1, none⟩ = some (.bool false) := HBX.out.res.cell 1
          have r2 : w5.cell? ⟨w.heap.size + 1 + 1, 2, none⟩ = some (.int .i64 0) := HBX.out.res.cell 2
          have q0 := HBX.out.res.free 0
          have q1 := HBX.out.res.free 1
          have q2 := HBX.out.res.free 2
          go_wp2_with fail
          refine bodyPost_ret (v := .tuple #[.agg #[.slice A5 rs5.length c5, .bool false, .int .i64 fu], .int .i64 0]) (by simp [results, Tryz.results23, go_sem, r0, r1, r2, q0, q1, q2]) rfl ?_
          rw [HRES.out]
          exact HBX.out.out HF5.out HM5.out rfl _ _ _
      · have hn2 : named (sname z) = false := by simpa using hn2
        have HRES : Hid (Dsk.rename s (sname a) (sname z) = (⟨s.files, false, fu⟩, 1)) := by
          show _ = _
          unfold Dsk.rename; rw [HST.out]; simp only
          have : Dsk.look ⟨s.files, false, fu⟩ [sname a, sname z] = (none, 1) := by unfold Dsk.look; rw [if_neg (by simp), if_pos (by simp [hn, hn2])]
          rw [this]
        go_wp2_with fail
        (with_reducible refine (rname_any _ ha _).mono ?_); rintro e w' ⟨rfl, rfl⟩
        go_wp2_with fail
        (with_reducible refine (rname_any _ hz _).mono ?_); rintro e w' ⟨rfl, rfl⟩
        go_wp2_with fail
        refine bodyPost_ret (v := .tuple #[.agg #[.slice A rs.length c, .bool false, .int .i64 fu], .int .i64 1]) (by simp [results, Tryz.results23, go_sem, r0, r1, r2, q0, q1, q2]) rfl ?_
        rw [HRES.out]
        exact HBX.out.out HFB.out HS.out rfl _ _ _
    · have hn : named (sname a) = false := by simpa using hn
      have HRES : Hid (Dsk.rename s (sname a) (sname z) = (⟨s.files, false, fu⟩, 1)) := by
        show _ = _
        unfold Dsk.rename; rw [HST.out]; simp only
        have : Dsk.look ⟨s.files, false, fu⟩ [sname a, sname z] = (none, 1) := by unfold Dsk.look; rw [if_neg (by simp), if_pos (by simp [hn])]
        rw [this]
      go_wp2_with fail
      (with_reducible refine (rname_any _ ha _).mono ?_); rintro e w' ⟨rfl, rfl⟩
      go_wp2_with fail
      refine bodyPost_ret (v := .tuple #[.agg #[.slice A rs.length c, .bool false, .int .i64 fu], .int .i64 1]) (by simp [results, Tryz.results23, go_sem, r0, r1, r2, q0, q1, q2]) rfl ?_
      rw [HRES.out]
      exact HBX.out.out HFB.out HS.out rfl _ _ _
  · skip
    have b0 : wB.cell? ⟨w.heap.size, 0, none⟩ = some (.slice A rs.length c) := HBX.out.dsk.cell 0
    have b1 : wB.cell? ⟨w.heap.size, 1, none⟩ = some (.bool true) := HBX.out.dsk.cell 1
    have b2 : wB.cell? ⟨w.heap.size, 2, none⟩ = some (.int .i64 fu) := HBX.out.dsk.cell 2
    have o0 : wB.cell? ⟨w.heap.size + 1, 0, none⟩ = some (.int .i64 3) := HBX.out.op.cell 0
    have o1 : wB.cell? ⟨w.heap.size + 1, 1, none⟩ = some (.string a) := HBX.out.op.cell 1
    have o2 : wB.cell? ⟨w.heap.size + 1, 2, none⟩ = some (.string z) := HBX.out.op.cell 2
    have o3 : wB.cell? ⟨w.heap.size + 1, 3, none⟩ = some (.int .i64 num) := HBX.out.op.cell 3
    have o4 : wB.cell? ⟨w.heap.size + 1, 4, none⟩ = some (.slice C bs.length cc) := HBX.out.op.cell 4
    have r0 : wB.cell? ⟨w.heap.size + 1 + 1, 0, none⟩ = some (.slice none 0 0) := HBX.out.res.cell 0
    have r1 : wB.cell? ⟨w.heap.size + 1 + 1, 1, none⟩ = some (.bool false) := HBX.out.res.cell 1
    have r2 : wB.cell? ⟨w.heap.size + 1 + 1, 2, none⟩ = some (.int .i64 0) := HBX.out.res.cell 2
    have q0 := HBX.out.res.free 0
    have q1 := HBX.out.res.free 1
    have q2 := HBX.out.res.free 2
    have HRES : Hid (Dsk.rename s (sname a) (sname z) = (⟨s.files, true, fu⟩, 50)) := by
      show _ = _
      unfold Dsk.rename; rw [HST.out]; simp only
      rw [look_down rfl]
    go_wp2_with fail
    refine bodyPost_ret (v := .tuple #[.agg #[.slice A rs.length c, .bool true, .int .i64 fu], .int .i64 50]) (by simp [results, Tryz.results23, go_sem, r0, r1, r2, q0, q1, q2]) rfl ?_
    rw [HRES.out]
    exact HBX.out.out HFB.out HS.out rfl _ _ _
set_option maxRecDepth 100000 in
set_option maxHeartbeats 8000000 in
theorem Do4_any {G : Nat → Prop} {w : World} (A : Option Addr) (c : Nat) (rs : List RFile) (h : Files G w A rs) (s : S) (hs : rs.map RFile.file = s.files) (hct : rs.length ≤ 256) (hfu : s.fuse ≤ 9223372036854775807) (hso : Sorted s.files)
    (a z : ByteArray) (ha : a.size ≤ maxLen) (hz : z.size ≤ maxLen) (num : Int) (hnum : (Lit.int .i64 num).wf = true) (C : Option Addr) (cc : Nat) (bs : List UInt8) (hbs : Sl fB w C bs) :
    Calls Tryz.prog 23 #[.agg #[.slice A rs.length c, .bool s.down, .int .i64 s.fuse], .agg #[.int .i64 4, .string a, .string z, .int .i64 num, .slice C bs.length cc]] w (DoPost G (Dsk.write s (sname a) num bs) w) := by
  have hl := h.1.len
  have hbl := hbs.len
  have HF := Lib.hid h; clear h
  have HS := Lib.hid hs; clear hs
  have HSO := Lib.hid hso; clear hso
  have HBS := Lib.hid hbs; clear hbs
  have HNUM := Lib.hid hnum; clear hnum
  rcases hst : Dsk.step s with ⟨fs1, dn, fu⟩
  have hfs : fs1 = s.files := by have := step_files s; rw [hst] at this; exact this
  have hstp : ∀ W, Calls Tryz.prog 53 #[.agg #[.slice A rs.length c, .bool s.down, .int .i64 s.fuse]] W fun e w' => e = .returned (.agg #[.slice A rs.length c, .bool dn, .int .i64 fu]) ∧ Below W.heap.size W w' :=
    fun W => (Step_any A rs.length c s hfu W).mono (by rintro e w' ⟨he, hb⟩; rw [hst] at he; exact ⟨he, hb⟩)
  have HSTP := Lib.hid hstp; clear hstp
  subst hfs
  have HST := Lib.hid hst; clear hst hfu
  go_enter Tryz.func23, Tryz.ntmps23
  go_wp2_with fail
  obtain ⟨wa, hwa⟩ : ∃ wa, wa = ((w.alloc (.cells #[.slice A rs.length c, .bool s.down, .int .i64 s.fuse] 32)).alloc (.cells #[.int .i64 4, .string a, .string z, .int .i64 num, .slice C bs.length cc] 69)).alloc (.cells #[.slice none 0 0, .bool false, .int .i64 0] 32) := ⟨_, rfl⟩
  rw [← hwa]
  have hbxa : DoBox w A rs.length c s 4 a z num C bs.length cc wa := by
    have b2 := Blk.new_ (w.alloc (.cells #[.slice A rs.length c, .bool s.down, .int .i64 s.fuse] 32)) 69 #[.int .i64 4, .string a, .string z, .int .i64 num, .slice C bs.length cc]
    rw [World.size_alloc] at b2
    have b3 := Blk.new_ ((w.alloc (.cells #[.slice A rs.length c, .bool s.down, .int .i64 s.fuse] 32)).alloc (.cells #[.int .i64 4, .string a, .string z, .int .i64 num, .slice C bs.length cc] 69)) 32 #[.slice none 0 0, .bool false, .int .i64 0]
    rw [World.size_alloc, World.size_alloc] at b3
    rw [hwa]
    exact ⟨(((Below.refl _ _).alloc (Nat.le_refl _) _).alloc (by simp) _).alloc (by simp; omega) _, ((Blk.new_ w _ _).alloc _).alloc _, b2.alloc _, b3⟩
  have HBXA := Lib.hid hbxa; clear hbxa hwa
  (with_reducible refine (HSTP.out wa).mono ?_); rintro e w1 ⟨rfl, hb1⟩
  have hbx1 := HBXA.out.below hb1
  have d0 : w1.cell? ⟨w.heap.size, 0, none⟩ = some (.slice A rs.length c) := hbx1.dsk.cell 0
  have d1 : w1.cell? ⟨w.heap.size, 1, none⟩ = some (.bool s.down) := hbx1.dsk.cell 1
  have d2 : w1.cell? ⟨w.heap.size, 2, none⟩ = some (.int .i64 s.fuse) := hbx1.dsk.cell 2
  have g0 := hbx1.dsk.free 0
  have g1 := hbx1.dsk.free 1
  have g2 := hbx1.dsk.free 2
  have HBX1 := Lib.hid hbx1; clear hbx1 hb1 HBXA HSTP
  go_upto_region 2 with fail
  obtain ⟨wB, hwB⟩ : ∃ wB, wB = ((w1.setCell ⟨w.heap.size, 0, none⟩ (.slice A rs.length c)).setCell ⟨w.heap.size, 1, none⟩ (.bool dn)).setCell ⟨w.heap.size, 2, none⟩ (.int .i64 fu) := ⟨_, rfl⟩
  rw [← hwB]
  have hbx : DoBox w A rs.length c ⟨s.files, dn, fu⟩ 4 a z num C bs.length cc wB := by
    have e1 : w.heap.size + 1 ≠ w.heap.size := by omega
    have e2 : w.heap.size + 1 + 1 ≠ w.heap.size := by omega
    rw [hwB]
    exact ⟨((HBX1.out.bel.setCell (p := ⟨w.heap.size, 0, none⟩) (Nat.le_refl _) _).setCell (p := ⟨w.heap.size, 1, none⟩) (Nat.le_refl _) _).setCell (p := ⟨w.heap.size, 2, none⟩) (Nat.le_refl _) _,
      ((HBX1.out.dsk.set_ 0 _).set_ 1 _).set_ 2 _, ((HBX1.out.op.far (p := ⟨w.heap.size, 0, none⟩) e1 _).far (p := ⟨w.heap.size, 1, none⟩) e1 _).far (p := ⟨w.heap.size, 2, none⟩) e1 _,
      ((HBX1.out.res.far (p := ⟨w.heap.size, 0, none⟩) e2 _).far (p := ⟨w.heap.size, 1, none⟩) e2 _).far (p := ⟨w.heap.size, 2, none⟩) e2 _⟩
  clear d0 d1 d2 g0 g1 g2 hwB HBX1
  have HFB : Hid (Files (up G w) wB A rs) := (HF.out.below hbx.bel).mono (fun _ _ h => .inl h)
  have HBX := Lib.hid hbx; clear hbx
  cases dn
  · skip
    have b0 : wB.cell? ⟨w.heap.size, 0, none⟩ = some (.slice A rs.length c) := HBX.out.dsk.cell 0
    have b1 : wB.cell? ⟨w.heap.size, 1, none⟩ = some (.bool false) := HBX.out.dsk.cell 1
    have b2 : wB.cell? ⟨w.heap.size, 2, none⟩ = some (.int .i64 fu) := HBX.out.dsk.cell 2
    have o0 : wB.cell? ⟨w.heap.size + 1, 0, none⟩ = some (.int .i64 4) := HBX.out.op.cell 0
    have o1 : wB.cell? ⟨w.heap.size + 1, 1, none⟩ = some (.string a) := HBX.out.op.cell 1
    have o2 : wB.cell? ⟨w.heap.size + 1, 2, none⟩ = some (.string z) := HBX.out.op.cell 2
    have o3 : wB.cell? ⟨w.heap.size + 1, 3, none⟩ = some (.int .i64 num) := HBX.out.op.cell 3
    have o4 : wB.cell? ⟨w.heap.size + 1, 4, none⟩ = some (.slice C bs.length cc) := HBX.out.op.cell 4
    have r0 : wB.cell? ⟨w.heap.size + 1 + 1, 0, none⟩ = some (.slice none 0 0) := HBX.out.res.cell 0
    have r1 : wB.cell? ⟨w.heap.size + 1 + 1, 1, none⟩ = some (.bool false) := HBX.out.res.cell 1
    have r2 : wB.cell? ⟨w.heap.size + 1 + 1, 2, none⟩ = some (.int .i64 0) := HBX.out.res.cell 2
    have q0 := HBX.out.res.free 0
    have q1 := HBX.out.res.free 1
    have q2 := HBX.out.res.free 2
    by_cases hn : named (sname a) = true
    · skip
      go_wp2_with fail
      (with_reducible refine (rname_any _ ha _).mono ?_); rintro e w' ⟨rfl, rfl⟩
      go_wp2_with fail
      (with_reducible refine (Find_any A c rs HFB.out false fu a).mono ?_); rintro e w2 ⟨i, rfl, hb2, hi⟩
      have HBX2 := Lib.hid (HBX.out.below hb2)
      have HFB2 := Lib.hid (HFB.out.below hb2)
      clear b0 b1 b2 o0 o1 o2 o3 o4 r0 r1 r2 q0 q1 q2 HBX HFB hb2
      obtain ⟨HBX, HFB⟩ := And.intro HBX2 HFB2
      clear HBX2 HFB2
      have b0 : w2.cell? ⟨w.heap.size, 0, none⟩ = some (.slice A rs.length c) := HBX.out.dsk.cell 0
      have b1 : w2.cell? ⟨w.heap.size, 1, none⟩ = some (.bool false) := HBX.out.dsk.cell 1
      have b2 : w2.cell? ⟨w.heap.size, 2, none⟩ = some (.int .i64 fu) := HBX.out.dsk.cell 2
      have o0 : w2.cell? ⟨w.heap.size + 1, 0, none⟩ = some (.int .i64 4) := HBX.out.op.cell 0
      have o1 : w2.cell? ⟨w.heap.size + 1, 1, none⟩ = some (.string a) := HBX.out.op.cell 1
      have o2 : w2.cell? ⟨w.heap.size + 1, 2, none⟩ = some (.string z) := HBX.out.op.cell 2
      have o3 : w2.cell? ⟨w.heap.size + 1, 3, none⟩ = some (.int .i64 num) := HBX.out.op.cell 3
      have o4 : w2.cell? ⟨w.heap.size + 1, 4, none⟩ = some (.slice C bs.length cc) := HBX.out.op.cell 4
      have r0 : w2.cell? ⟨w.heap.size + 1 + 1, 0, none⟩ = some (.slice none 0 0) := HBX.out.res.cell 0
      have r1 : w2.cell? ⟨w.heap.size + 1 + 1, 1, none⟩ = some (.bool false) := HBX.out.res.cell 1
      have r2 : w2.cell? ⟨w.heap.size + 1 + 1, 2, none⟩ = some (.int .i64 0) := HBX.out.res.cell 2
      have q0 := HBX.out.res.free 0
      have q1 := HBX.out.res.free 1
      have q2 := HBX.out.res.free 2
      rcases hi with ⟨rfl, hnone⟩ | ⟨k, rfl, hk, hnk, hfirst⟩
      · have hfd : find (sname a) s.files = none := by rw [← HS.out]; exact find_of_none hnone
        have HFD := Lib.hid hfd; clear hfd hnone
        have HRES : Hid (Dsk.write s (sname a) num bs = (⟨s.files, false, fu⟩, 4)) := by
          show _ = _
          unfold Dsk.write; rw [HST.out]
          simp only [look_none (s := ⟨s.files, false, fu⟩) rfl hn HFD.out]
        go_wp2_with fail
        refine bodyPost_ret (v := .tuple #[.agg #[.slice A rs.length c, .bool false, .int .i64 fu], .int .i64 4]) (by simp [results, Tryz.results23, go_sem, r0, r1, r2, q0, q1, q2]) rfl ?_
        rw [HRES.out]
        exact HBX.out.out HFB.out HS.out rfl _ _ _
      · have hfd : find (sname a) s.files = some rs[k].file := by rw [← HS.out]; exact find_of_at hk hnk hfirst
        have HFD := Lib.hid hfd; clear hfd hfirst
        obtain ⟨r, hr⟩ : ∃ r, r = rs[k] := ⟨_, rfl⟩
        obtain ⟨b, o, rfl, _, hbs, hc⟩ := HFB.out.1.at hk
        have c0 : w2.cell? ⟨b, o + k * 3, none⟩ = some (.string ⟨r.file.name.toArray⟩) := by rw [hr]; exact hc 0 (by decide)
        have c1 : w2.cell? ⟨b, o + k * 3 + 1, none⟩ = some (.slice r.A r.file.now.length r.c) := by rw [hr]; exact hc 1 (by decide)
        have c2 : w2.cell? ⟨b, o + k * 3 + 2, none⟩ = some (.slice r.B r.file.safe.length r.d) := by rw [hr]; exact hc 2 (by decide)
        have HOKr : Hid (RFok (up G w) w2 r) := by rw [hr]; exact HFB.out.2 _ (List.getElem_mem hk)
        rw [← hr] at HFD hnk
        have HNK := Lib.hid hnk
        clear hc hr hnk
        go_upto_region 16 with fail
        obtain ⟨w3, hw3⟩ : ∃ w3, w3 = w2.alloc (.cells #[.string ⟨r.file.name.toArray⟩, .slice r.A r.file.now.length r.c, .slice r.B r.file.safe.length r.d] 51) := ⟨_, rfl⟩
        rw [← hw3]
        have hab3 : Below w2.heap.size w2 w3 := by rw [hw3]; exact (Below.refl _ _).alloc (Nat.le_refl _) _
        have HFX : Hid (Blk w3 w2.heap.size 51 #[.string ⟨r.file.name.toArray⟩, .slice r.A r.file.now.length r.c, .slice r.B r.file.safe.length r.d]) := by rw [hw3]; exact Blk.new_ w2 _ _
        have HBX3 := Lib.hid (HBX.out.below hab3)
        have HFB3 := Lib.hid (HFB.out.below hab3)
        have HOK3 := Lib.hid (HOKr.out.below hab3)
        have hw2l : w.heap.size + 1 + 1 < w2.heap.size := HBX.out.res.lt
        clear b0 b1 b2 o0 o1 o2 o3 o4 r0 r1 r2 q0 q1 q2 c0 c1 c2 HBX HFB HOKr hw3 hab3
        obtain ⟨HBX, HFB, HOKr⟩ := And.intro HBX3 (And.intro HFB3 HOK3)
        clear HBX3 HFB3 HOK3
        have b0 : w3.cell? ⟨w.heap.size, 0, none⟩ = some (.slice (some ⟨b, o, none⟩) rs.length c) := HBX.out.dsk.cell 0
        have b1 : w3.cell? ⟨w.heap.size, 1, none⟩ = some (.bool false) := HBX.out.dsk.cell 1
        have b2 : w3.cell? ⟨w.heap.size, 2, none⟩ = some (.int .i64 fu) := HBX.out.dsk.cell 2
        have o0 : w3.cell? ⟨w.heap.size + 1, 0, none⟩ = some (.int .i64 4) := HBX.out.op.cell 0
        have o1 : w3.cell? ⟨w.heap.size + 1, 1, none⟩ = some (.string a) := HBX.out.op.cell 1
        have o2 : w3.cell? ⟨w.heap.size + 1, 2, none⟩ = some (.string z) := HBX.out.op.cell 2
        have o3 : w3.cell? ⟨w.heap.size + 1, 3, none⟩ = some (.int .i64 num) := HBX.out.op.cell 3
        have o4 : w3.cell? ⟨w.heap.size + 1, 4, none⟩ = some (.slice C bs.length cc) := HBX.out.op.cell 4
        have r0 : w3.cell? ⟨w.heap.size + 1 + 1, 0, none⟩ = some (.slice none 0 0) := HBX.out.res.cell 0
        have r1 : w3.cell? ⟨w.heap.size + 1 + 1, 1, none⟩ = some (.bool false) := HBX.out.res.cell 1
        have r2 : w3.cell? ⟨w.heap.size + 1 + 1, 2, none⟩ = some (.int .i64 0) := HBX.out.res.cell 2
        have q0 := HBX.out.res.free 0
        have q1 := HBX.out.res.free 1
        have q2 := HBX.out.res.free 2
        have f0 : w3.cell? ⟨w2.heap.size, 0, none⟩ = some (.string ⟨r.file.name.toArray⟩) := HFX.out.cell 0
        have f1 : w3.cell? ⟨w2.heap.size, 1, none⟩ = some (.slice r.A r.file.now.length r.c) := HFX.out.cell 1
        have f2 : w3.cell? ⟨w2.heap.size, 2, none⟩ = some (.slice r.B r.file.safe.length r.d) := HFX.out.cell 2
        have p0 := HFX.out.free 0
        have p1 := HFX.out.free 1
        have p2 := HFX.out.free 2
        by_cases hneg : num < 0
        · skip
          have HRES : Hid (Dsk.write s (sname a) num bs = (⟨s.files, false, fu⟩, 1)) := by
            show _ = _
            unfold Dsk.write; rw [HST.out]; simp only [look_found (s := ⟨s.files, false, fu⟩) rfl hn HFD.out]
            rw [if_pos (by omega)]
          go_wp2_with fail
          refine bodyPost_ret (v := .tuple #[.agg #[.slice (some ⟨b, o, none⟩) rs.length c, .bool false, .int .i64 fu], .int .i64 1]) (by simp [results, Tryz.results23, go_sem, r0, r1, r2, q0, q1, q2]) rfl ?_
          rw [HRES.out]
          exact HBX.out.out HFB.out HS.out rfl _ _ _
        by_cases hbig : (r.file.now.length : Int) < num
        · skip
          have HRES : Hid (Dsk.write s (sname a) num bs = (⟨s.files, false, fu⟩, 1)) := by
            show _ = _
            unfold Dsk.write; rw [HST.out]; simp only [look_found (s := ⟨s.files, false, fu⟩) rfl hn HFD.out]
            rw [if_pos (by omega)]
          go_wp2_with fail
          refine bodyPost_ret (v := .tuple #[.agg #[.slice (some ⟨b, o, none⟩) rs.length c, .bool false, .int .i64 fu], .int .i64 1]) (by simp [results, Tryz.results23, go_sem, r0, r1, r2, q0, q1, q2]) rfl ?_
          rw [HRES.out]
          exact HBX.out.out HFB.out HS.out rfl _ _ _
        obtain ⟨m, rfl⟩ := Int.eq_ofNat_of_zero_le (Int.not_lt.1 hneg)
        have hmle : m ≤ r.file.now.length := by omega
        have hm16 : (m : Int) ≤ 65536 := by have := HOKr.out.sz.1; have h2 : r.file.now.length ≤ 65536 := this; omega
        have twr : RowKit.wrap64 (65536 - (m : Int)) = 65536 - (m : Int) := by unfold RowKit.wrap64; omega
        by_cases hlong : 65536 - (m : Int) < (bs.length : Int)
        · skip
          have HRES : Hid (Dsk.write s (sname a) (m : Int) bs = (⟨s.files, false, fu⟩, 51)) := by
            show _ = _
            unfold Dsk.write; rw [HST.out]; simp only [look_found (s := ⟨s.files, false, fu⟩) rfl hn HFD.out]
            rw [if_neg (by omega), if_pos hlong]
          go_wp2_with fail
          refine bodyPost_ret (v := .tuple #[.agg #[.slice (some ⟨b, o, none⟩) rs.length c, .bool false, .int .i64 fu], .int .i64 51]) (by simp [results, Tryz.results23, go_sem, r0, r1, r2, q0, q1, q2]) rfl ?_
          rw [HRES.out]
          exact HBX.out.out HFB.out HS.out rfl _ _ _
        have HRES : Hid (Dsk.write s (sname a) (m : Int) bs = (⟨upd (sname a) (fun f => { f with now := over f.now m bs }) s.files, false, fu⟩, 0)) := by
          show _ = _
          unfold Dsk.write; rw [HST.out]; simp only [look_found (s := ⟨s.files, false, fu⟩) rfl hn HFD.out]
          rw [if_neg (by omega), if_neg hlong]; rfl
        have hsz := HOKr.out.sz
        have hs1 : r.file.now.length ≤ 65536 := hsz.1
        have hov := rover_any r.A r.c r.file.now (m : Int) m rfl (by omega) C cc bs w3 HOKr.out.now.sl (HBS.out.below HBX.out.bel) (by omega) (by omega)
        rw [overZ_in hmle] at hov
        have HOV := Lib.hid hov; clear hov
        have HSZ := Lib.hid hsz; clear hsz
        have HOL : Hid ((over r.file.now m bs).length ≤ 65536) := by show _ ≤ _; rw [over_length hmle]; omega
        go_wp2_with fail
        (with_reducible refine HOV.out.mono ?_); rintro e w6 ⟨⟨A6, c6, rfl, hs6, hcp6⟩, hb6⟩; have HCP6 := Lib.hid hcp6; clear hcp6
        have HBXs := Lib.hid (HBX.out.below hb6)
        have HFBs := Lib.hid (HFB.out.below hb6)
        have HOKs := Lib.hid (HOKr.out.below hb6)
        have HFXs := Lib.hid (HFX.out.below hb6 HFX.out.lt)
        have HW3 : Hid (w.heap.size ≤ w3.heap.size) := HBX.out.bel.size
        clear b0 b1 b2 o0 o1 o2 o3 o4 r0 r1 r2 q0 q1 q2 f0 f1 f2 p0 p1 p2 HBX HFB HOKr HFX hb6
        obtain ⟨HBX, HFB, HOKr, HFX⟩ := And.intro HBXs (And.intro HFBs (And.intro HOKs HFXs))
        clear HBXs HFBs HOKs HFXs
        have b0 : w6.cell? ⟨w.heap.size, 0, none⟩ = some (.slice (some ⟨b, o, none⟩) rs.length c) := HBX.out.dsk.cell 0
        have b1 : w6.cell? ⟨w.heap.size, 1, none⟩ = some (.bool false) := HBX.out.dsk.cell 1
        have b2 : w6.cell? ⟨w.heap.size, 2, none⟩ = some (.int .i64 fu) := HBX.out.dsk.cell 2
        have o0 : w6.cell? ⟨w.heap.size + 1, 0, none⟩ = some (.int .i64 4) := HBX.out.op.cell 0
        have o1 : w6.cell? ⟨w.heap.size + 1, 1, none⟩ = some (.string a) := HBX.out.op.cell 1
        have o2 : w6.cell? ⟨w.heap.size + 1, 2, none⟩ = some (.string z) := HBX.out.op.cell 2
        have o3 : w6.cell? ⟨w.heap.size + 1, 3, none⟩ = some (.int .i64 (m : Int)) := HBX.out.op.cell 3
        have o4 : w6.cell? ⟨w.heap.size + 1, 4, none⟩ = some (.slice C bs.length cc) := HBX.out.op.cell 4
        have r0 : w6.cell? ⟨w.heap.size + 1 + 1, 0, none⟩ = some (.slice none 0 0) := HBX.out.res.cell 0
        have r1 : w6.cell? ⟨w.heap.size + 1 + 1, 1, none⟩ = some (.bool false) := HBX.out.res.cell 1
        have r2 : w6.cell? ⟨w.heap.size + 1 + 1, 2, none⟩ = some (.int .i64 0) := HBX.out.res.cell 2
        have q0 := HBX.out.res.free 0
        have q1 := HBX.out.res.free 1
        have q2 := HBX.out.res.free 2
        have f0 : w6.cell? ⟨w2.heap.size, 0, none⟩ = some (.string ⟨r.file.name.toArray⟩) := HFX.out.cell 0
        have f1 : w6.cell? ⟨w2.heap.size, 1, none⟩ = some (.slice r.A r.file.now.length r.c) := HFX.out.cell 1
        have f2 : w6.cell? ⟨w2.heap.size, 2, none⟩ = some (.slice r.B r.file.safe.length r.d) := HFX.out.cell 2
        have p0 := HFX.out.free 0
        have p1 := HFX.out.free 1
        have p2 := HFX.out.free 2
        have HS6 := Lib.hid hs6; clear hs6
        go_upto_region 35 with fail
        obtain ⟨w4, hw4⟩ : ∃ x, x = (w6).setCell ⟨w2.heap.size, 1, none⟩ (.slice A6 (over r.file.now m bs).length c6) := ⟨_, rfl⟩
        rw [← hw4]
        have hbne : b ≠ w2.heap.size := Nat.ne_of_lt hbs
        have HBX4 : Hid (DoBox w (some ⟨b, o, none⟩) rs.length c ⟨s.files, false, fu⟩ 4 a z (m : Int) C bs.length cc w4) := by rw [hw4]; exact (HBX.out).setFar (p := ⟨w2.heap.size, 1, none⟩) hw2l (.slice A6 (over r.file.now m bs).length c6)
        have HFB4 : Hid (Files (up G w) w4 (some ⟨b, o, none⟩) rs) := by rw [hw4]; exact (HFB.out).farF (HFX.out) hbne 1 (.slice A6 (over r.file.now m bs).length c6)
        have HOK4 : Hid (RFok (up G w) w4 r) := by rw [hw4]; exact (HOKr.out).far (HFX.out) (by decide) 1 (.slice A6 (over r.file.now m bs).length c6)
        have HS64 : Hid (SlB fB 5 (fun g => w3.heap.size ≤ g) w4 A6 (over r.file.now m bs)) := by rw [hw4]; exact HS6.out.far HFX.out (by decide) 1 _
        clear b0 b1 b2 o0 o1 o2 o3 o4 r0 r1 r2 q0 q1 q2 f0 f1 f2 p0 p1 p2 HBX HFB HOKr
        have HFX4 : Hid (Blk w4 w2.heap.size 51 #[.string ⟨r.file.name.toArray⟩, .slice A6 (over r.file.now m bs).length c6, .slice r.B r.file.safe.length r.d]) := by rw [hw4]; exact (HFX.out).set_ 1 (.slice A6 (over r.file.now m bs).length c6)
        clear HFX hw4
        obtain ⟨HBX, HFB, HOKr⟩ := And.intro HBX4 (And.intro HFB4 HOK4)
        clear HBX4 HFB4 HOK4
        have b0 : w4.cell? ⟨w.heap.size, 0, none⟩ = some (.slice (some ⟨b, o, none⟩) rs.length c) := HBX.out.dsk.cell 0
        have b1 : w4.cell? ⟨w.heap.size, 1, none⟩ = some (.bool false) := HBX.out.dsk.cell 1
        have b2 : w4.cell? ⟨w.heap.size, 2, none⟩ = some (.int .i64 fu) := HBX.out.dsk.cell 2
        have o0 : w4.cell? ⟨w.heap.size + 1, 0, none⟩ = some (.int .i64 4) := HBX.out.op.cell 0
        have o1 : w4.cell? ⟨w.heap.size + 1, 1, none⟩ = some (.string a) := HBX.out.op.cell 1
        have o2 : w4.cell? ⟨w.heap.size + 1, 2, none⟩ = some (.string z) := HBX.out.op.cell 2
        have o3 : w4.cell? ⟨w.heap.size + 1, 3, none⟩ = some (.int .i64 (m : Int)) := HBX.out.op.cell 3
        have o4 : w4.cell? ⟨w.heap.size + 1, 4, none⟩ = some (.slice C bs.length cc) := HBX.out.op.cell 4
        have r0 : w4.cell? ⟨w.heap.size + 1 + 1, 0, none⟩ = some (.slice none 0 0) := HBX.out.res.cell 0
        have r1 : w4.cell? ⟨w.heap.size + 1 + 1, 1, none⟩ = some (.bool false) := HBX.out.res.cell 1
        have r2 : w4.cell? ⟨w.heap.size + 1 + 1, 2, none⟩ = some (.int .i64 0) := HBX.out.res.cell 2
        have q0 := HBX.out.res.free 0
        have q1 := HBX.out.res.free 1
        have q2 := HBX.out.res.free 2
        have f0 : w4.cell? ⟨w2.heap.size, 0, none⟩ = some (.string ⟨r.file.name.toArray⟩) := HFX4.out.cell 0
        have f1 : w4.cell? ⟨w2.heap.size, 1, none⟩ = some (.slice A6 (over r.file.now m bs).length c6) := HFX4.out.cell 1
        have f2 : w4.cell? ⟨w2.heap.size, 2, none⟩ = some (.slice r.B r.file.safe.length r.d) := HFX4.out.cell 2
        have hput : put ({ r with file := { r.file with now := over r.file.now m bs }, A := A6, c := c6 } : RFile).file s.files = upd (sname a) (fun f => { f with now := over f.now m bs }) s.files := put_upd (g := fun f => { f with now := over f.now m bs }) HSO.out HFD.out HNK.out
        have hwi : Calls Tryz.prog 55 #[.agg #[.slice (some ⟨b, o, none⟩) rs.length c, .bool false, .int .i64 fu], .agg #[.string ⟨r.file.name.toArray⟩, .slice A6 (over r.file.now m bs).length c6, .slice r.B r.file.safe.length r.d]] w4 (RefPost (up G w) ⟨upd (sname a) (fun f => { f with now := over f.now m bs }) s.files, false, fu⟩ w4) := by
          have h9 := With_any _ c rs HFB.out (by omega) ⟨s.files, false, fu⟩ HS.out { r with file := { r.file with now := over r.file.now m bs }, A := A6, c := c6 } ⟨HS64.out.mono (fun _ _ h => .inr (Nat.le_trans HW3.out h)), HOKr.out.safe, ⟨HOL.out, HOKr.out.sz.2.1, HOKr.out.sz.2.2⟩, HCP6.out, HOKr.out.cs⟩
          rw [hput] at h9
          exact h9
        have HWI := Lib.hid hwi; clear hwi hput
        go_wp2_with fail
        (with_reducible refine HWI.out.mono ?_)
        clear f0 f1 f2
        rintro e w5 ⟨v5, rfl, ⟨A5, c5, rs5, rfl, hf5, hm5⟩, hb5⟩
        have HBX5 := Lib.hid (HBX.out.below hb5)
        have HF5 : Hid (Files (up G w) w5 A5 rs5) := hf5.mono (fun _ _ h => h.elim id (fun h2 => .inr (Nat.le_trans HBX.out.bel.size h2)))
        have HM5 := Lib.hid hm5
        clear b0 b1 b2 o0 o1 o2 o3 o4 r0 r1 r2 q0 q1 q2 HBX hb5 hf5 hm5
        obtain ⟨HBX, _⟩ := And.intro HBX5 trivial
        clear HBX5
        have b0 : w5.cell? ⟨w.heap.size, 0, none⟩ = some (.slice (some ⟨b, o, none⟩) rs.length c) := HBX.out.dsk.cell 0
        have b1 : w5.cell? ⟨w.heap.size, 1, none⟩ = some (.bool false) := HBX.out.dsk.cell 1
        have b2 : w5.cell? ⟨w.heap.size, 2, none⟩ = some (.int .i64 fu) := HBX.out.dsk.cell 2
        have o0 : w5.cell? ⟨w.heap.size + 1, 0, none⟩ = some (.int .i64 4) := HBX.out.op.cell 0
        have o1 : w5.cell? ⟨w.heap.size + 1, 1, none⟩ = some (.string a) := HBX.out.op.cell 1
        have o2 : w5.cell? ⟨w.heap.size + 1, 2, none⟩ = some (.string z) := HBX.out.op.cell 2
        have o3 : w5.cell? ⟨w.heap.size + 1, 3, none⟩ = some (.int .i64 (m : Int)) := HBX.out.op.cell 3
        have o4 : w5.cell? ⟨w.heap.size + 1, 4, none⟩ = some (.slice C bs.length cc) := HBX.out.op.cell 4
        have r0 : w5.cell? ⟨w.heap.size + 1 + 1, 0, none⟩ = some (.slice none 0 0) := HBX.out.res.cell 0
        have r1 : w5.cell? ⟨w.heap.size + 1 + 1, 1, none⟩ = some (.bool false) := HBX.out.res.cell 1
        have r2 : w5.cell? ⟨w.heap.size + 1 + 1, 2, none⟩ = some (.int .i64 0) := HBX.out.res.cell 2
        have q0 := HBX.out.res.free 0
        have q1 := HBX.out.res.free 1
        have q2 := HBX.out.res.free 2
        go_wp2_with fail
        refine bodyPost_ret (v := .tuple #[.agg #[.slice A5 rs5.length c5, .bool false, .int .i64 fu], .int .i64 0]) (by simp [results, Tryz.results23, go_sem, r0, r1, r2, q0, q1, q2]) rfl ?_
        rw [HRES.out]
        exact HBX.out.out HF5.out HM5.out rfl _ _ _
    · have hn : named (sname a) = false := by simpa using hn
      have HRES : Hid (Dsk.write s (sname a) num bs = (⟨s.files, false, fu⟩, 1)) := by
        show _ = _
        unfold Dsk.write; rw [HST.out]; simp only
        have : Dsk.look ⟨s.files, false, fu⟩ [sname a] = (none, 1) := by unfold Dsk.look; rw [if_neg (by simp), if_pos (by simp [hn])]
        rw [this]
      go_wp2_with fail
      (with_reducible refine (rname_any _ ha _).mono ?_); rintro e w' ⟨rfl, rfl⟩
      go_wp2_with fail
      refine bodyPost_ret (v := .tuple #[.agg #[.slice A rs.length c, .bool false, .int .i64 fu], .int .i64 1]) (by simp [results, Tryz.results23, go_sem, r0, r1, r2, q0, q1, q2]) rfl ?_
      rw [HRES.out]
      exact HBX.out.out HFB.out HS.out rfl _ _ _
  · skip
    have b0 : wB.cell? ⟨w.heap.size, 0, none⟩ = some (.slice A rs.length c) := HBX.out.dsk.cell 0
    have b1 : wB.cell? ⟨w.heap.size, 1, none⟩ = some (.bool true) := HBX.out.dsk.cell 1
    have b2 : wB.cell? ⟨w.heap.size, 2, none⟩ = some (.int .i64 fu) := HBX.out.dsk.cell 2
    have o0 : wB.cell? ⟨w.heap.size + 1, 0, none⟩ = some (.int .i64 4) := HBX.out.op.cell 0
    have o1 : wB.cell? ⟨w.heap.size + 1, 1, none⟩ = some (.string a) := HBX.out.op.cell 1
    have o2 : wB.cell? ⟨w.heap.size + 1, 2, none⟩ = some (.string z) := HBX.out.op.cell 2
    have o3 : wB.cell? ⟨w.heap.size + 1, 3, none⟩ = some (.int .i64 num) := HBX.out.op.cell 3
    have o4 : wB.cell? ⟨w.heap.size + 1, 4, none⟩ = some (.slice C bs.length cc) := HBX.out.op.cell 4
    have r0 : wB.cell? ⟨w.heap.size + 1 + 1, 0, none⟩ = some (.slice none 0 0) := HBX.out.res.cell 0
    have r1 : wB.cell? ⟨w.heap.size + 1 + 1, 1, none⟩ = some (.bool false) := HBX.out.res.cell 1
    have r2 : wB.cell? ⟨w.heap.size + 1 + 1, 2, none⟩ = some (.int .i64 0) := HBX.out.res.cell 2
    have q0 := HBX.out.res.free 0
    have q1 := HBX.out.res.free 1
    have q2 := HBX.out.res.free 2
    have HRES : Hid (Dsk.write s (sname a) num bs = (⟨s.files, true, fu⟩, 50)) := by
      show _ = _
      unfold Dsk.write; rw [HST.out]; simp only
      rw [look_down rfl]
    go_wp2_with fail
    refine bodyPost_ret (v := .tuple #[.agg #[.slice A rs.length c, .bool true, .int .i64 fu], .int .i64 50]) (by simp [results, Tryz.results23, go_sem, r0, r1, r2, q0, q1, q2]) rfl ?_
    rw [HRES.out]
    exact HBX.out.out HFB.out HS.out rfl _ _ _
set_option maxRecDepth 100000 in
set_option maxHeartbeats 8000000 in
theorem Do5_any {G : Nat → Prop} {w : World} (A : Option Addr) (c : Nat) (rs : List RFile) (h : Files G w A rs) (s : S) (hs : rs.map RFile.file = s.files) (hct : rs.length ≤ 256) (hfu : s.fuse ≤ 9223372036854775807) (hso : Sorted s.files)
    (a z : ByteArray) (ha : a.size ≤ maxLen) (hz : z.size ≤ maxLen) (num : Int) (hnum : (Lit.int .i64 num).wf = true) (C : Option Addr) (cc : Nat) (bs : List UInt8) (hbs : Sl fB w C bs) :
    Calls Tryz.prog 23 #[.agg #[.slice A rs.length c, .bool s.down, .int .i64 s.fuse], .agg #[.int .i64 5, .string a, .string z, .int .i64 num, .slice C bs.length cc]] w (DoPost G (Dsk.cut s (sname a) num) w) := by
  have hl := h.1.len
  have hbl := hbs.len
  have HF := Lib.hid h; clear h
  have HS := Lib.hid hs; clear hs
  have HSO := Lib.hid hso; clear hso
  have HBS := Lib.hid hbs; clear hbs
  have HNUM := Lib.hid hnum; clear hnum
  rcases hst : Dsk.step s with ⟨fs1, dn, fu⟩
  have hfs : fs1 = s.files := by have := step_files s; rw [hst] at this; exact this
  have hstp : ∀ W, Calls Tryz.prog 53 #[.agg #[.slice A rs.length c, .bool s.down, .int .i64 s.fuse]] W fun e w' => e = .returned (.agg #[.slice A rs.length c, .bool dn, .int .i64 fu]) ∧ Below W.heap.size W w' :=
    fun W => (Step_any A rs.length c s hfu W).mono (by rintro e w' ⟨he, hb⟩; rw [hst] at he; exact ⟨he, hb⟩)
  have HSTP := Lib.hid hstp; clear hstp
  subst hfs
  have HST := Lib.hid hst; clear hst hfu
  go_enter Tryz.func23, Tryz.ntmps23
  go_wp2_with fail
  obtain ⟨wa, hwa⟩ : ∃ wa, wa = ((w.alloc (.cells #[.slice A rs.length c, .bool s.down, .int .i64 s.fuse] 32)).alloc (.cells #[.int .i64 5, .string a, .string z, .int .i64 num, .slice C bs.length cc] 69)).alloc (.cells #[.slice none 0 0, .bool false, .int .i64 0] 32) := ⟨_, rfl⟩
  rw [← hwa]
  have hbxa : DoBox w A rs.length c s 5 a z num C bs.length cc wa := by
    have b2 := Blk.new_ (w.alloc (.cells #[.slice A rs.length c, .bool s.down, .int .i64 s.fuse] 32)) 69 #[.int .i64 5, .string a, .string z, .int .i64 num, .slice C bs.length cc]
    rw [World.size_alloc] at b2
    have b3 := Blk.new_ ((w.alloc (.cells #[.slice A rs.length c, .bool s.down, .int .i64 s.fuse] 32)).alloc (.cells #[.int .i64 5, .string a, .string z, .int .i64 num, .slice C bs.length cc] 69)) 32 #[.slice none 0 0, .bool false, .int .i64 0]
    rw [World.size_alloc, World.size_alloc] at b3
    rw [hwa]
    exact ⟨(((Below.refl _ _).alloc (Nat.le_refl _) _).alloc (by simp) _).alloc (by simp; omega) _, ((Blk.new_ w _ _).alloc _).alloc _, b2.alloc _, b3⟩
  have HBXA := Lib.hid hbxa; clear hbxa hwa
  (with_reducible refine (HSTP.out wa).mono ?_); rintro e w1 ⟨rfl, hb1⟩
  have hbx1 := HBXA.out.below hb1
  have d0 : w1.cell? ⟨w.heap.size, 0, none⟩ = some (.slice A rs.length c) := hbx1.dsk.cell 0
  have d1 : w1.cell? ⟨w.heap.size, 1, none⟩ = some (.bool s.down) := hbx1.dsk.cell 1
  have d2 : w1.cell? ⟨w.heap.size, 2, none⟩ = some (.int .i64 s.fuse) := hbx1.dsk.cell 2
  have g0 := hbx1.dsk.free 0
  have g1 := hbx1.dsk.free 1
  have g2 := hbx1.dsk.free 2
  have HBX1 := Lib.hid hbx1; clear hbx1 hb1 HBXA HSTP
  go_upto_region 2 with fail
  obtain ⟨wB, hwB⟩ : ∃ wB, wB = ((w1.setCell ⟨w.heap.size, 0, none⟩ (.slice A rs.length c)).setCell ⟨w.heap.size, 1, none⟩ (.bool dn)).setCell ⟨w.heap.size, 2, none⟩ (.int .i64 fu) := ⟨_, rfl⟩
  rw [← hwB]
  have hbx : DoBox w A rs.length c ⟨s.files, dn, fu⟩ 5 a z num C bs.length cc wB := by
    have e1 : w.heap.size + 1 ≠ w.heap.size := by omega
    have e2 : w.heap.size + 1 + 1 ≠ w.heap.size := by omega
    rw [hwB]
    exact ⟨((HBX1.out.bel.setCell (p := ⟨w.heap.size, 0, none⟩) (Nat.le_refl _) _).setCell (p := ⟨w.heap.size, 1, none⟩) (Nat.le_refl _) _).setCell (p := ⟨w.heap.size, 2, none⟩) (Nat.le_refl _) _,
      ((HBX1.out.dsk.set_ 0 _).set_ 1 _).set_ 2 _, ((HBX1.out.op.far (p := ⟨w.heap.size, 0, none⟩) e1 _).far (p := ⟨w.heap.size, 1, none⟩) e1 _).far (p := ⟨w.heap.size, 2, none⟩) e1 _,
      ((HBX1.out.res.far (p := ⟨w.heap.size, 0, none⟩) e2 _).far (p := ⟨w.heap.size, 1, none⟩) e2 _).far (p := ⟨w.heap.size, 2, none⟩) e2 _⟩
  clear d0 d1 d2 g0 g1 g2 hwB HBX1
  have HFB : Hid (Files (up G w) wB A rs) := (HF.out.below hbx.bel).mono (fun _ _ h => .inl h)
  have HBX := Lib.hid hbx; clear hbx
  cases dn
  · skip
    have b0 : wB.cell? ⟨w.heap.size, 0, none⟩ = some (.slice A rs.length c) := HBX.out.dsk.cell 0
    have b1 : wB.cell? ⟨w.heap.size, 1, none⟩ = some (.bool false) := HBX.out.dsk.cell 1
    have b2 : wB.cell? ⟨w.heap.size, 2, none⟩ = some (.int .i64 fu) := HBX.out.dsk.cell 2
    have o0 : wB.cell? ⟨w.heap.size + 1, 0, none⟩ = some (.int .i64 5) := HBX.out.op.cell 0
    have o1 : wB.cell? ⟨w.heap.size + 1, 1, none⟩ = some (.string a) := HBX.out.op.cell 1
    have o2 : wB.cell? ⟨w.heap.size + 1, 2, none⟩ = some (.string z) := HBX.out.op.cell 2
    have o3 : wB.cell? ⟨w.heap.size + 1, 3, none⟩ = some (.int .i64 num) := HBX.out.op.cell 3
    have o4 : wB.cell? ⟨w.heap.size + 1, 4, none⟩ = some (.slice C bs.length cc) := HBX.out.op.cell 4
    have r0 : wB.cell? ⟨w.heap.size + 1 + 1, 0, none⟩ = some (.slice none 0 0) := HBX.out.res.cell 0
    have r1 : wB.cell? ⟨w.heap.size + 1 + 1, 1, none⟩ = some (.bool false) := HBX.out.res.cell 1
    have r2 : wB.cell? ⟨w.heap.size + 1 + 1, 2, none⟩ = some (.int .i64 0) := HBX.out.res.cell 2
    have q0 := HBX.out.res.free 0
    have q1 := HBX.out.res.free 1
    have q2 := HBX.out.res.free 2
    by_cases hn : named (sname a) = true
    · skip
      go_wp2_with fail
      (with_reducible refine (rname_any _ ha _).mono ?_); rintro e w' ⟨rfl, rfl⟩
      go_wp2_with fail
      (with_reducible refine (Find_any A c rs HFB.out false fu a).mono ?_); rintro e w2 ⟨i, rfl, hb2, hi⟩
      have HBX2 := Lib.hid (HBX.out.below hb2)
      have HFB2 := Lib.hid (HFB.out.below hb2)
      clear b0 b1 b2 o0 o1 o2 o3 o4 r0 r1 r2 q0 q1 q2 HBX HFB hb2
      obtain ⟨HBX, HFB⟩ := And.intro HBX2 HFB2
      clear HBX2 HFB2
      have b0 : w2.cell? ⟨w.heap.size, 0, none⟩ = some (.slice A rs.length c) := HBX.out.dsk.cell 0
      have b1 : w2.cell? ⟨w.heap.size, 1, none⟩ = some (.bool false) := HBX.out.dsk.cell 1
      have b2 : w2.cell? ⟨w.heap.size, 2, none⟩ = some (.int .i64 fu) := HBX.out.dsk.cell 2
      have o0 : w2.cell? ⟨w.heap.size + 1, 0, none⟩ = some (.int .i64 5) := HBX.out.op.cell 0
      have o1 : w2.cell? ⟨w.heap.size + 1, 1, none⟩ = some (.string a) := HBX.out.op.cell 1
      have o2 : w2.cell? ⟨w.heap.size + 1, 2, none⟩ = some (.string z) := HBX.out.op.cell 2
      have o3 : w2.cell? ⟨w.heap.size + 1, 3, none⟩ = some (.int .i64 num) := HBX.out.op.cell 3
      have o4 : w2.cell? ⟨w.heap.size + 1, 4, none⟩ = some (.slice C bs.length cc) := HBX.out.op.cell 4
      have r0 : w2.cell? ⟨w.heap.size + 1 + 1, 0, none⟩ = some (.slice none 0 0) := HBX.out.res.cell 0
      have r1 : w2.cell? ⟨w.heap.size + 1 + 1, 1, none⟩ = some (.bool false) := HBX.out.res.cell 1
      have r2 : w2.cell? ⟨w.heap.size + 1 + 1, 2, none⟩ = some (.int .i64 0) := HBX.out.res.cell 2
      have q0 := HBX.out.res.free 0
      have q1 := HBX.out.res.free 1
      have q2 := HBX.out.res.free 2
      rcases hi with ⟨rfl, hnone⟩ | ⟨k, rfl, hk, hnk, hfirst⟩
      · have hfd : find (sname a) s.files = none := by rw [← HS.out]; exact find_of_none hnone
        have HFD := Lib.hid hfd; clear hfd hnone
        have HRES : Hid (Dsk.cut s (sname a) num = (⟨s.files, false, fu⟩, 4)) := by
          show _ = _
          unfold Dsk.cut; rw [HST.out]
          simp only [look_none (s := ⟨s.files, false, fu⟩) rfl hn HFD.out]
        go_wp2_with fail
        refine bodyPost_ret (v := .tuple #[.agg #[.slice A rs.length c, .bool false, .int .i64 fu], .int .i64 4]) (by simp [results, Tryz.results23, go_sem, r0, r1, r2, q0, q1, q2]) rfl ?_
        rw [HRES.out]
        exact HBX.out.out HFB.out HS.out rfl _ _ _
      · have hfd : find (sname a) s.files = some rs[k].file := by rw [← HS.out]; exact find_of_at hk hnk hfirst
        have HFD := Lib.hid hfd; clear hfd hfirst
        obtain ⟨r, hr⟩ : ∃ r, r = rs[k] := ⟨_, rfl⟩
        obtain ⟨b, o, rfl, _, hbs, hc⟩ := HFB.out.1.at hk
        have c0 : w2.cell? ⟨b, o + k * 3, none⟩ = some (.string ⟨r.file.name.toArray⟩) := by rw [hr]; exact hc 0 (by decide)
        have c1 : w2.cell? ⟨b, o + k * 3 + 1, none⟩ = some (.slice r.A r.file.now.length r.c) := by rw [hr]; exact hc 1 (by decide)
        have c2 : w2.cell? ⟨b, o + k * 3 + 2, none⟩ = some (.slice r.B r.file.safe.length r.d) := by rw [hr]; exact hc 2 (by decide)
        have HOKr : Hid (RFok (up G w) w2 r) := by rw [hr]; exact HFB.out.2 _ (List.getElem_mem hk)
        rw [← hr] at HFD hnk
        have HNK := Lib.hid hnk
        clear hc hr hnk
        go_upto_region 16 with fail
        obtain ⟨w3, hw3⟩ : ∃ w3, w3 = w2.alloc (.cells #[.string ⟨r.file.name.toArray⟩, .slice r.A r.file.now.length r.c, .slice r.B r.file.safe.length r.d] 51) := ⟨_, rfl⟩
        rw [← hw3]
        have hab3 : Below w2.heap.size w2 w3 := by rw [hw3]; exact (Below.refl _ _).alloc (Nat.le_refl _) _
        have HFX : Hid (Blk w3 w2.heap.size 51 #[.string ⟨r.file.name.toArray⟩, .slice r.A r.file.now.length r.c, .slice r.B r.file.safe.length r.d]) := by rw [hw3]; exact Blk.new_ w2 _ _
        have HBX3 := Lib.hid (HBX.out.below hab3)
        have HFB3 := Lib.hid (HFB.out.below hab3)
        have HOK3 := Lib.hid (HOKr.out.below hab3)
        have hw2l : w.heap.size + 1 + 1 < w2.heap.size := HBX.out.res.lt
        clear b0 b1 b2 o0 o1 o2 o3 o4 r0 r1 r2 q0 q1 q2 c0 c1 c2 HBX HFB HOKr hw3 hab3
        obtain ⟨HBX, HFB, HOKr⟩ := And.intro HBX3 (And.intro HFB3 HOK3)
        clear HBX3 HFB3 HOK3
        have b0 : w3.cell? ⟨w.heap.size, 0, none⟩ = some (.slice (some ⟨b, o, none⟩) rs.length c) := HBX.out.dsk.cell 0
        have b1 : w3.cell? ⟨w.heap.size, 1, none⟩ = some (.bool false) := HBX.out.dsk.cell 1
        have b2 : w3.cell? ⟨w.heap.size, 2, none⟩ = some (.int .i64 fu) := HBX.out.dsk.cell 2
        have o0 : w3.cell? ⟨w.heap.size + 1, 0, none⟩ = some (.int .i64 5) := HBX.out.op.cell 0
        have o1 : w3.cell? ⟨w.heap.size + 1, 1, none⟩ = some (.string a) := HBX.out.op.cell 1
        have o2 : w3.cell? ⟨w.heap.size + 1, 2, none⟩ = some (.string z) := HBX.out.op.cell 2
        have o3 : w3.cell? ⟨w.heap.size + 1, 3, none⟩ = some (.int .i64 num) := HBX.out.op.cell 3
        have o4 : w3.cell? ⟨w.heap.size + 1, 4, none⟩ = some (.slice C bs.length cc) := HBX.out.op.cell 4
        have r0 : w3.cell? ⟨w.heap.size + 1 + 1, 0, none⟩ = some (.slice none 0 0) := HBX.out.res.cell 0
        have r1 : w3.cell? ⟨w.heap.size + 1 + 1, 1, none⟩ = some (.bool false) := HBX.out.res.cell 1
        have r2 : w3.cell? ⟨w.heap.size + 1 + 1, 2, none⟩ = some (.int .i64 0) := HBX.out.res.cell 2
        have q0 := HBX.out.res.free 0
        have q1 := HBX.out.res.free 1
        have q2 := HBX.out.res.free 2
        have f0 : w3.cell? ⟨w2.heap.size, 0, none⟩ = some (.string ⟨r.file.name.toArray⟩) := HFX.out.cell 0
        have f1 : w3.cell? ⟨w2.heap.size, 1, none⟩ = some (.slice r.A r.file.now.length r.c) := HFX.out.cell 1
        have f2 : w3.cell? ⟨w2.heap.size, 2, none⟩ = some (.slice r.B r.file.safe.length r.d) := HFX.out.cell 2
        have p0 := HFX.out.free 0
        have p1 := HFX.out.free 1
        have p2 := HFX.out.free 2
        by_cases hneg : num < 0
        · skip
          have HRES : Hid (Dsk.cut s (sname a) num = (⟨s.files, false, fu⟩, 1)) := by
            show _ = _
            unfold Dsk.cut; rw [HST.out]; simp only [look_found (s := ⟨s.files, false, fu⟩) rfl hn HFD.out]
            rw [if_pos (by omega)]
          go_wp2_with fail
          refine bodyPost_ret (v := .tuple #[.agg #[.slice (some ⟨b, o, none⟩) rs.length c, .bool false, .int .i64 fu], .int .i64 1]) (by simp [results, Tryz.results23, go_sem, r0, r1, r2, q0, q1, q2]) rfl ?_
          rw [HRES.out]
          exact HBX.out.out HFB.out HS.out rfl _ _ _
        by_cases hbig : (r.file.now.length : Int) < num
        · skip
          have HRES : Hid (Dsk.cut s (sname a) num = (⟨s.files, false, fu⟩, 1)) := by
            show _ = _
            unfold Dsk.cut; rw [HST.out]; simp only [look_found (s := ⟨s.files, false, fu⟩) rfl hn HFD.out]
            rw [if_pos (by omega)]
          go_wp2_with fail
          refine bodyPost_ret (v := .tuple #[.agg #[.slice (some ⟨b, o, none⟩) rs.length c, .bool false, .int .i64 fu], .int .i64 1]) (by simp [results, Tryz.results23, go_sem, r0, r1, r2, q0, q1, q2]) rfl ?_
          rw [HRES.out]
          exact HBX.out.out HFB.out HS.out rfl _ _ _
        obtain ⟨m, rfl⟩ := Int.eq_ofNat_of_zero_le (Int.not_lt.1 hneg)
        have hmle : m ≤ r.file.now.length := by omega
        have hm16 : m ≤ 65536 := by have := HOKr.out.sz.1; have h2 : r.file.now.length ≤ 65536 := this; omega
        have HRES : Hid (Dsk.cut s (sname a) (m : Int) = (⟨upd (sname a) (fun f => { f with now := f.now.take m, safe := f.safe.take m }) s.files, false, fu⟩, 0)) := by
          show _ = _
          unfold Dsk.cut; rw [HST.out]; simp only [look_found (s := ⟨s.files, false, fu⟩) rfl hn HFD.out]
          rw [if_neg (by omega)]; rfl
        obtain ⟨xa, hxa⟩ : ∃ x, x = r.file.now.take m := ⟨_, rfl⟩
        obtain ⟨xb, hxb⟩ : ∃ x, x = r.file.safe.take m := ⟨_, rfl⟩
        have HLA : Hid (xa.length ≤ 65536) := by show _ ≤ _; rw [hxa, List.length_take]; omega
        have HLB : Hid (xb.length ≤ 65536) := by show _ ≤ _; rw [hxb, List.length_take]; omega
        have hs1 : r.file.now.length ≤ 65536 := HOKr.out.sz.1
        have hs2 : r.file.safe.length ≤ 65536 := HOKr.out.sz.2.1
        have hov := rpart_any r.A r.c r.file.now 0 (m : Int) 0 m rfl rfl (by omega) (by omega) w3 HOKr.out.now.sl (by omega)
        rw [piece_take, ← hxa] at hov
        have hov2 : ∀ W, Sl fB W r.B r.file.safe → _ := fun W h => rpart_any r.B r.d r.file.safe 0 (m : Int) 0 m rfl rfl (by omega) (by omega) W h (by omega)
        simp only [piece_take, ← hxb] at hov2
        have HOV := Lib.hid hov; clear hov
        have HOV2 := Lib.hid hov2; clear hov2
        have HXA := Lib.hid hxa; clear hxa
        have HXB := Lib.hid hxb; clear hxb
        go_wp2_with fail
        (with_reducible refine HOV.out.mono ?_); rintro e w6 ⟨⟨A6, c6, rfl, hs6, hcp6⟩, hb6⟩; have HCP6 := Lib.hid hcp6; clear hcp6
        have HBXs := Lib.hid (HBX.out.below hb6)
        have HFBs := Lib.hid (HFB.out.below hb6)
        have HOKs := Lib.hid (HOKr.out.below hb6)
        have HFXs := Lib.hid (HFX.out.below hb6 HFX.out.lt)
        have HW3 : Hid (w.heap.size ≤ w3.heap.size) := HBX.out.bel.size
        clear b0 b1 b2 o0 o1 o2 o3 o4 r0 r1 r2 q0 q1 q2 f0 f1 f2 p0 p1 p2 HBX HFB HOKr HFX hb6
        obtain ⟨HBX, HFB, HOKr, HFX⟩ := And.intro HBXs (And.intro HFBs (And.intro HOKs HFXs))
        clear HBXs HFBs HOKs HFXs
        have b0 : w6.cell? ⟨w.heap.size, 0, none⟩ = some (.slice (some ⟨b, o, none⟩) rs.length c) := HBX.out.dsk.cell 0
        have b1 : w6.cell? ⟨w.heap.size, 1, none⟩ = some (.bool false) := HBX.out.dsk.cell 1
        have b2 : w6.cell? ⟨w.heap.size, 2, none⟩ = some (.int .i64 fu) := HBX.out.dsk.cell 2
        have o0 : w6.cell? ⟨w.heap.size + 1, 0, none⟩ = some (.int .i64 5) := HBX.out.op.cell 0
        have o1 : w6.cell? ⟨w.heap.size + 1, 1, none⟩ = some (.string a) := HBX.out.op.cell 1
        have o2 : w6.cell? ⟨w.heap.size + 1, 2, none⟩ = some (.string z) := HBX.out.op.cell 2
        have o3 : w6.cell? ⟨w.heap.size + 1, 3, none⟩ = some (.int .i64 (m : Int)) := HBX.out.op.cell 3
        have o4 : w6.cell? ⟨w.heap.size + 1, 4, none⟩ = some (.slice C bs.length cc) := HBX.out.op.cell 4
        have r0 : w6.cell? ⟨w.heap.size + 1 + 1, 0, none⟩ = some (.slice none 0 0) := HBX.out.res.cell 0
        have r1 : w6.cell? ⟨w.heap.size + 1 + 1, 1, none⟩ = some (.bool false) := HBX.out.res.cell 1
        have r2 : w6.cell? ⟨w.heap.size + 1 + 1, 2, none⟩ = some (.int .i64 0) := HBX.out.res.cell 2
        have q0 := HBX.out.res.free 0
        have q1 := HBX.out.res.free 1
        have q2 := HBX.out.res.free 2
        have f0 : w6.cell? ⟨w2.heap.size, 0, none⟩ = some (.string ⟨r.file.name.toArray⟩) := HFX.out.cell 0
        have f1 : w6.cell? ⟨w2.heap.size, 1, none⟩ = some (.slice r.A r.file.now.length r.c) := HFX.out.cell 1
        have f2 : w6.cell? ⟨w2.heap.size, 2, none⟩ = some (.slice r.B r.file.safe.length r.d) := HFX.out.cell 2
        have p0 := HFX.out.free 0
        have p1 := HFX.out.free 1
        have p2 := HFX.out.free 2
        have HS6 := Lib.hid hs6; clear hs6
        go_upto_region 32 with fail
        obtain ⟨w4, hw4⟩ : ∃ x, x = (w6).setCell ⟨w2.heap.size, 1, none⟩ (.slice A6 xa.length c6) := ⟨_, rfl⟩
        rw [← hw4]
        have hbne : b ≠ w2.heap.size := Nat.ne_of_lt hbs
        have HBX4 : Hid (DoBox w (some ⟨b, o, none⟩) rs.length c ⟨s.files, false, fu⟩ 5 a z (m : Int) C bs.length cc w4) := by rw [hw4]; exact (HBX.out).setFar (p := ⟨w2.heap.size, 1, none⟩) hw2l (.slice A6 xa.length c6)
        have HFB4 : Hid (Files (up G w) w4 (some ⟨b, o, none⟩) rs) := by rw [hw4]; exact (HFB.out).farF (HFX.out) hbne 1 (.slice A6 xa.length c6)
        have HOK4 : Hid (RFok (up G w) w4 r) := by rw [hw4]; exact (HOKr.out).far (HFX.out) (by decide) 1 (.slice A6 xa.length c6)
        have HS64 : Hid (SlB fB 5 (fun g => w3.heap.size ≤ g) w4 A6 xa) := by rw [hw4]; exact HS6.out.far HFX.out (by decide) 1 _
        clear b0 b1 b2 o0 o1 o2 o3 o4 r0 r1 r2 q0 q1 q2 f0 f1 f2 p0 p1 p2 HBX HFB HOKr
        have HFX4 : Hid (Blk w4 w2.heap.size 51 #[.string ⟨r.file.name.toArray⟩, .slice A6 xa.length c6, .slice r.B r.file.safe.length r.d]) := by rw [hw4]; exact (HFX.out).set_ 1 (.slice A6 xa.length c6)
        clear HFX hw4
        obtain ⟨HBX, HFB, HOKr⟩ := And.intro HBX4 (And.intro HFB4 HOK4)
        clear HBX4 HFB4 HOK4
        have b0 : w4.cell? ⟨w.heap.size, 0, none⟩ = some (.slice (some ⟨b, o, none⟩) rs.length c) := HBX.out.dsk.cell 0
        have b1 : w4.cell? ⟨w.heap.size, 1, none⟩ = some (.bool false) := HBX.out.dsk.cell 1
        have b2 : w4.cell? ⟨w.heap.size, 2, none⟩ = some (.int .i64 fu) := HBX.out.dsk.cell 2
        have o0 : w4.cell? ⟨w.heap.size + 1, 0, none⟩ = some (.int .i64 5) := HBX.out.op.cell 0
        have o1 : w4.cell? ⟨w.heap.size + 1, 1, none⟩ = some (.string a) := HBX.out.op.cell 1
        have o2 : w4.cell? ⟨w.heap.size + 1, 2, none⟩ = some (.string z) := HBX.out.op.cell 2
        have o3 : w4.cell? ⟨w.heap.size + 1, 3, none⟩ = some (.int .i64 (m : Int)) := HBX.out.op.cell 3
        have o4 : w4.cell? ⟨w.heap.size + 1, 4, none⟩ = some (.slice C bs.length cc) := HBX.out.op.cell 4
        have r0 : w4.cell? ⟨w.heap.size + 1 + 1, 0, none⟩ = some (.slice none 0 0) := HBX.out.res.cell 0
        have r1 : w4.cell? ⟨w.heap.size + 1 + 1, 1, none⟩ = some (.bool false) := HBX.out.res.cell 1
        have r2 : w4.cell? ⟨w.heap.size + 1 + 1, 2, none⟩ = some (.int .i64 0) := HBX.out.res.cell 2
        have q0 := HBX.out.res.free 0
        have q1 := HBX.out.res.free 1
        have q2 := HBX.out.res.free 2
        have f0 : w4.cell? ⟨w2.heap.size, 0, none⟩ = some (.string ⟨r.file.name.toArray⟩) := HFX4.out.cell 0
        have f1 : w4.cell? ⟨w2.heap.size, 1, none⟩ = some (.slice A6 xa.length c6) := HFX4.out.cell 1
        have f2 : w4.cell? ⟨w2.heap.size, 2, none⟩ = some (.slice r.B r.file.safe.length r.d) := HFX4.out.cell 2
        obtain ⟨HFX, _⟩ := And.intro HFX4 trivial
        clear HFX4 HS6
        have p0 := HFX.out.free 0
        have p1 := HFX.out.free 1
        have p2 := HFX.out.free 2
        go_wp2_with fail
        (with_reducible refine (HOV2.out _ HOKr.out.safe.sl).mono ?_); rintro e w7 ⟨⟨A7, c7, rfl, hs7, hcp7⟩, hb6⟩; have HCP7 := Lib.hid hcp7; clear hcp7
        have HBXs := Lib.hid (HBX.out.below hb6)
        have HFBs := Lib.hid (HFB.out.below hb6)
        have HOKs := Lib.hid (HOKr.out.below hb6)
        have HFXs := Lib.hid (HFX.out.below hb6 HFX.out.lt)
        have HW4 : Hid (w.heap.size ≤ w4.heap.size) := HBX.out.bel.size
        have HS64s := Lib.hid (HS64.out.below hb6)
        clear b0 b1 b2 o0 o1 o2 o3 o4 r0 r1 r2 q0 q1 q2 f0 f1 f2 p0 p1 p2 HBX HFB HOKr HFX hb6 HS64
        obtain ⟨HBX, HFB, HOKr, HFX⟩ := And.intro HBXs (And.intro HFBs (And.intro HOKs HFXs))
        clear HBXs HFBs HOKs HFXs
        obtain ⟨HS64, _⟩ := And.intro HS64s trivial
        clear HS64s
        have b0 : w7.cell? ⟨w.heap.size, 0, none⟩ = some (.slice (some ⟨b, o, none⟩) rs.length c) := HBX.out.dsk.cell 0
        have b1 : w7.cell? ⟨w.heap.size, 1, none⟩ = some (.bool false) := HBX.out.dsk.cell 1
        have b2 : w7.cell? ⟨w.heap.size, 2, none⟩ = some (.int .i64 fu) := HBX.out.dsk.cell 2
        have o0 : w7.cell? ⟨w.heap.size + 1, 0, none⟩ = some (.int .i64 5) := HBX.out.op.cell 0
        have o1 : w7.cell? ⟨w.heap.size + 1, 1, none⟩ = some (.string a) := HBX.out.op.cell 1
        have o2 : w7.cell? ⟨w.heap.size + 1, 2, none⟩ = some (.string z) := HBX.out.op.cell 2
        have o3 : w7.cell? ⟨w.heap.size + 1, 3, none⟩ = some (.int .i64 (m : Int)) := HBX.out.op.cell 3
        have o4 : w7.cell? ⟨w.heap.size + 1, 4, none⟩ = some (.slice C bs.length cc) := HBX.out.op.cell 4
        have r0 : w7.cell? ⟨w.heap.size + 1 + 1, 0, none⟩ = some (.slice none 0 0) := HBX.out.res.cell 0
        have r1 : w7.cell? ⟨w.heap.size + 1 + 1, 1, none⟩ = some (.bool false) := HBX.out.res.cell 1
        have r2 : w7.cell? ⟨w.heap.size + 1 + 1, 2, none⟩ = some (.int .i64 0) := HBX.out.res.cell 2
        have q0 := HBX.out.res.free 0
        have q1 := HBX.out.res.free 1
        have q2 := HBX.out.res.free 2
        have f0 : w7.cell? ⟨w2.heap.size, 0, none⟩ = some (.string ⟨r.file.name.toArray⟩) := HFX.out.cell 0
        have f1 : w7.cell? ⟨w2.heap.size, 1, none⟩ = some (.slice A6 xa.length c6) := HFX.out.cell 1
        have f2 : w7.cell? ⟨w2.heap.size, 2, none⟩ = some (.slice r.B r.file.safe.length r.d) := HFX.out.cell 2
        have p0 := HFX.out.free 0
        have p1 := HFX.out.free 1
        have p2 := HFX.out.free 2
        have HS7 := Lib.hid hs7; clear hs7
        go_upto_region 35 with fail
        obtain ⟨w8, hw4⟩ : ∃ x, x = (w7).setCell ⟨w2.heap.size, 2, none⟩ (.slice A7 xb.length c7) := ⟨_, rfl⟩
        rw [← hw4]
        have hbne : b ≠ w2.heap.size := Nat.ne_of_lt hbs
        have HBX4 : Hid (DoBox w (some ⟨b, o, none⟩) rs.length c ⟨s.files, false, fu⟩ 5 a z (m : Int) C bs.length cc w8) := by rw [hw4]; exact (HBX.out).setFar (p := ⟨w2.heap.size, 2, none⟩) hw2l (.slice A7 xb.length c7)
        have HFB4 : Hid (Files (up G w) w8 (some ⟨b, o, none⟩) rs) := by rw [hw4]; exact (HFB.out).farF (HFX.out) hbne 2 (.slice A7 xb.length c7)
        have HOK4 : Hid (RFok (up G w) w8 r) := by rw [hw4]; exact (HOKr.out).far (HFX.out) (by decide) 2 (.slice A7 xb.length c7)
        have HS68 : Hid (SlB fB 5 (fun g => w3.heap.size ≤ g) w8 A6 xa) := by rw [hw4]; exact HS64.out.far HFX.out (by decide) 2 _
        have HS78 : Hid (SlB fB 5 (fun g => w4.heap.size ≤ g) w8 A7 xb) := by rw [hw4]; exact HS7.out.far HFX.out (by decide) 2 _
        clear b0 b1 b2 o0 o1 o2 o3 o4 r0 r1 r2 q0 q1 q2 f0 f1 f2 p0 p1 p2 HBX HFB HOKr
        have HFX4 : Hid (Blk w8 w2.heap.size 51 #[.string ⟨r.file.name.toArray⟩, .slice A6 xa.length c6, .slice A7 xb.length c7]) := by rw [hw4]; exact (HFX.out).set_ 2 (.slice A7 xb.length c7)
        clear HFX hw4
        obtain ⟨HBX, HFB, HOKr⟩ := And.intro HBX4 (And.intro HFB4 HOK4)
        clear HBX4 HFB4 HOK4
        have b0 : w8.cell? ⟨w.heap.size, 0, none⟩ = some (.slice (some ⟨b, o, none⟩) rs.length c) := HBX.out.dsk.cell 0
        have b1 : w8.cell? ⟨w.heap.size, 1, none⟩ = some (.bool false) := HBX.out.dsk.cell 1
        have b2 : w8.cell? ⟨w.heap.size, 2, none⟩ = some (.int .i64 fu) := HBX.out.dsk.cell 2
        have o0 : w8.cell? ⟨w.heap.size + 1, 0, none⟩ = some (.int .i64 5) := HBX.out.op.cell 0
        have o1 : w8.cell? ⟨w.heap.size + 1, 1, none⟩ = some (.string a) := HBX.out.op.cell 1
        have o2 : w8.cell? ⟨w.heap.size + 1, 2, none⟩ = some (.string z) := HBX.out.op.cell 2
        have o3 : w8.cell? ⟨w.heap.size + 1, 3, none⟩ = some (.int .i64 (m : Int)) := HBX.out.op.cell 3
        have o4 : w8.cell? ⟨w.heap.size + 1, 4, none⟩ = some (.slice C bs.length cc) := HBX.out.op.cell 4
        have r0 : w8.cell? ⟨w.heap.size + 1 + 1, 0, none⟩ = some (.slice none 0 0) := HBX.out.res.cell 0
        have r1 : w8.cell? ⟨w.heap.size + 1 + 1, 1, none⟩ = some (.bool false) := HBX.out.res.cell 1
        have r2 : w8.cell? ⟨w.heap.size + 1 + 1, 2, none⟩ = some (.int .i64 0) := HBX.out.res.cell 2
        have q0 := HBX.out.res.free 0
        have q1 := HBX.out.res.free 1
        have q2 := HBX.out.res.free 2
        have f0 : w8.cell? ⟨w2.heap.size, 0, none⟩ = some (.string ⟨r.file.name.toArray⟩) := HFX4.out.cell 0
        have f1 : w8.cell? ⟨w2.heap.size, 1, none⟩ = some (.slice A6 xa.length c6) := HFX4.out.cell 1
        have f2 : w8.cell? ⟨w2.heap.size, 2, none⟩ = some (.slice A7 xb.length c7) := HFX4.out.cell 2
        have hput : put ({ r with file := { r.file with now := xa, safe := xb }, A := A6, c := c6, B := A7, d := c7 } : RFile).file s.files = upd (sname a) (fun f => { f with now := f.now.take m, safe := f.safe.take m }) s.files := by rw [HXA.out, HXB.out]; exact put_upd (g := fun f => { f with now := f.now.take m, safe := f.safe.take m }) HSO.out HFD.out HNK.out
        have hwi : Calls Tryz.prog 55 #[.agg #[.slice (some ⟨b, o, none⟩) rs.length c, .bool false, .int .i64 fu], .agg #[.string ⟨r.file.name.toArray⟩, .slice A6 xa.length c6, .slice A7 xb.length c7]] w8 (RefPost (up G w) ⟨upd (sname a) (fun f => { f with now := f.now.take m, safe := f.safe.take m }) s.files, false, fu⟩ w8) := by
          have h9 := With_any _ c rs HFB.out (by omega) ⟨s.files, false, fu⟩ HS.out { r with file := { r.file with now := xa, safe := xb }, A := A6, c := c6, B := A7, d := c7 } ⟨HS68.out.mono (fun _ _ h => .inr (Nat.le_trans HW3.out h)), HS78.out.mono (fun _ _ h => .inr (Nat.le_trans HW4.out h)), ⟨HLA.out, HLB.out, HOKr.out.sz.2.2⟩, HCP6.out, HCP7.out⟩
          rw [hput] at h9
          exact h9
        have HWI := Lib.hid hwi; clear hwi hput
        go_wp2_with fail
        (with_reducible refine HWI.out.mono ?_)
        clear f0 f1 f2
        rintro e w5 ⟨v5, rfl, ⟨A5, c5, rs5, rfl, hf5, hm5⟩, hb5⟩
        have HBX5 := Lib.hid (HBX.out.below hb5)
        have HF5 : Hid (Files (up G w) w5 A5 rs5) := hf5.mono (fun _ _ h => h.elim id (fun h2 => .inr (Nat.le_trans HBX.out.bel.size h2)))
        have HM5 := Lib.hid hm5
        clear b0 b1 b2 o0 o1 o2 o3 o4 r0 r1 r2 q0 q1 q2 HBX hb5 hf5 hm5
        obtain ⟨HBX, _⟩ := And.intro HBX5 trivial
        clear HBX5
        have b0 : w5.cell? ⟨w.heap.size, 0, none⟩ = some (.slice (some ⟨b, o, none⟩) rs.length c) := HBX.out.dsk.cell 0
        have b1 : w5.cell? ⟨w.heap.size, 1, none⟩ = some (.bool false) := HBX.out.dsk.cell 1
        have b2 : w5.cell? ⟨w.heap.size, 2, none⟩ = some (.int .i64 fu) := HBX.out.dsk.cell 2
        have o0 : w5.cell? ⟨w.heap.size + 1, 0, none⟩ = some (.int .i64 5) := HBX.out.op.cell 0
        have o1 : w5.cell? ⟨w.heap.size + 1, 1, none⟩ = some (.string a) := HBX.out.op.cell 1
        have o2 : w5.cell? ⟨w.heap.size + 1, 2, none⟩ = some (.string z) := HBX.out.op.cell 2
        have o3 : w5.cell? ⟨w.heap.size + 1, 3, none⟩ = some (.int .i64 (m : Int)) := HBX.out.op.cell 3
        have o4 : w5.cell? ⟨w.heap.size + 1, 4, none⟩ = some (.slice C bs.length cc) := HBX.out.op.cell 4
        have r0 : w5.cell? ⟨w.heap.size + 1 + 1, 0, none⟩ = some (.slice none 0 0) := HBX.out.res.cell 0
        have r1 : w5.cell? ⟨w.heap.size + 1 + 1, 1, none⟩ = some (.bool false) := HBX.out.res.cell 1
        have r2 : w5.cell? ⟨w.heap.size + 1 + 1, 2, none⟩ = some (.int .i64 0) := HBX.out.res.cell 2
        have q0 := HBX.out.res.free 0
        have q1 := HBX.out.res.free 1
        have q2 := HBX.out.res.free 2
        go_wp2_with fail
        refine bodyPost_ret (v := .tuple #[.agg #[.slice A5 rs5.length c5, .bool false, .int .i64 fu], .int .i64 0]) (by simp [results, Tryz.results23, go_sem, r0, r1, r2, q0, q1, q2]) rfl ?_
        rw [HRES.out]
        exact HBX.out.out HF5.out HM5.out rfl _ _ _
    · have hn : named (sname a) = false := by simpa using hn
      have HRES : Hid (Dsk.cut s (sname a) num = (⟨s.files, false, fu⟩, 1)) := by
        show _ = _
        unfold Dsk.cut; rw [HST.out]; simp only
        have : Dsk.look ⟨s.files, false, fu⟩ [sname a] = (none, 1) := by unfold Dsk.look; rw [if_neg (by simp), if_pos (by simp [hn])]
        rw [this]
      go_wp2_with fail
      (with_reducible refine (rname_any _ ha _).mono ?_); rintro e w' ⟨rfl, rfl⟩
      go_wp2_with fail
      refine bodyPost_ret (v := .tuple #[.agg #[.slice A rs.length c, .bool false, .int .i64 fu], .int .i64 1]) (by simp [results, Tryz.results23, go_sem, r0, r1, r2, q0, q1, q2]) rfl ?_
      rw [HRES.out]
      exact HBX.out.out HFB.out HS.out rfl _ _ _
  · skip
    have b0 : wB.cell? ⟨w.heap.size, 0, none⟩ = some (.slice A rs.length c) := HBX.out.dsk.cell 0
    have b1 : wB.cell? ⟨w.heap.size, 1, none⟩ = some (.bool true) := HBX.out.dsk.cell 1
    have b2 : wB.cell? ⟨w.heap.size, 2, none⟩ = some (.int .i64 fu) := HBX.out.dsk.cell 2
    have o0 : wB.cell? ⟨w.heap.size + 1, 0, none⟩ = some (.int .i64 5) := HBX.out.op.cell 0
    have o1 : wB.cell? ⟨w.heap.size + 1, 1, none⟩ = some (.string a) := HBX.out.op.cell 1
    have o2 : wB.cell? ⟨w.heap.size + 1, 2, none⟩ = some (.string z) := HBX.out.op.cell 2
    have o3 : wB.cell? ⟨w.heap.size + 1, 3, none⟩ = some (.int .i64 num) := HBX.out.op.cell 3
    have o4 : wB.cell? ⟨w.heap.size + 1, 4, none⟩ = some (.slice C bs.length cc) := HBX.out.op.cell 4
    have r0 : wB.cell? ⟨w.heap.size + 1 + 1, 0, none⟩ = some (.slice none 0 0) := HBX.out.res.cell 0
    have r1 : wB.cell? ⟨w.heap.size + 1 + 1, 1, none⟩ = some (.bool false) := HBX.out.res.cell 1
    have r2 : wB.cell? ⟨w.heap.size + 1 + 1, 2, none⟩ = some (.int .i64 0) := HBX.out.res.cell 2
    have q0 := HBX.out.res.free 0
    have q1 := HBX.out.res.free 1
    have q2 := HBX.out.res.free 2
    have HRES : Hid (Dsk.cut s (sname a) num = (⟨s.files, true, fu⟩, 50)) := by
      show _ = _
      unfold Dsk.cut; rw [HST.out]; simp only
      rw [look_down rfl]
    go_wp2_with fail
    refine bodyPost_ret (v := .tuple #[.agg #[.slice A rs.length c, .bool true, .int .i64 fu], .int .i64 50]) (by simp [results, Tryz.results23, go_sem, r0, r1, r2, q0, q1, q2]) rfl ?_
    rw [HRES.out]
    exact HBX.out.out HFB.out HS.out rfl _ _ _
set_option maxRecDepth 100000 in
set_option maxHeartbeats 8000000 in
theorem Do6_any {G : Nat → Prop} {w : World} (A : Option Addr) (c : Nat) (rs : List RFile) (h : Files G w A rs) (s : S) (hs : rs.map RFile.file = s.files) (hct : rs.length ≤ 256) (hfu : s.fuse ≤ 9223372036854775807) (hso : Sorted s.files)
    (a z : ByteArray) (ha : a.size ≤ maxLen) (hz : z.size ≤ maxLen) (num : Int) (hnum : (Lit.int .i64 num).wf = true) (C : Option Addr) (cc : Nat) (bs : List UInt8) (hbs : Sl fB w C bs) :
    Calls Tryz.prog 23 #[.agg #[.slice A rs.length c, .bool s.down, .int .i64 s.fuse], .agg #[.int .i64 6, .string a, .string z, .int .i64 num, .slice C bs.length cc]] w (DoPost G (Dsk.sync s (sname a)) w) := by
  have hl := h.1.len
  have hbl := hbs.len
  have HF := Lib.hid h; clear h
  have HS := Lib.hid hs; clear hs
  have HSO := Lib.hid hso; clear hso
  have HBS := Lib.hid hbs; clear hbs
  have HNUM := Lib.hid hnum; clear hnum
  rcases hst : Dsk.step s with ⟨fs1, dn, fu⟩
  have hfs : fs1 = s.files := by have := step_files s; rw [hst] at this; exact this
  have hstp : ∀ W, Calls Tryz.prog 53 #[.agg #[.slice A rs.length c, .bool s.down, .int .i64 s.fuse]] W fun e w' => e = .returned (.agg #[.slice A rs.length c, .bool dn, .int .i64 fu]) ∧ Below W.heap.size W w' :=
    fun W => (Step_any A rs.length c s hfu W).mono (by rintro e w' ⟨he, hb⟩; rw [hst] at he; exact ⟨he, hb⟩)
  have HSTP := Lib.hid hstp; clear hstp
  subst hfs
  have HST := Lib.hid hst; clear hst hfu
  go_enter Tryz.func23, Tryz.ntmps23
  go_wp2_with fail
  obtain ⟨wa, hwa⟩ : ∃ wa, wa = ((w.alloc (.cells #[.slice A rs.length c, .bool s.down, .int .i64 s.fuse] 32)).alloc (.cells #[.int .i64 6, .string a, .string z, .int .i64 num, .slice C bs.length cc] 69)).alloc (.cells #[.slice none 0 0, .bool false, .int .i64 0] 32) := ⟨_, rfl⟩
  rw [← hwa]
  have hbxa : DoBox w A rs.length c s 6 a z num C bs.length cc wa := by
    have b2 := Blk.new_ (w.alloc (.cells #[.slice A rs.length c, .bool s.down, .int .i64 s.fuse] 32)) 69 #[.int .i64 6, .string a, .string z, .int .i64 num, .slice C bs.length cc]
    rw [World.size_alloc] at b2
    have b3 := Blk.new_ ((w.alloc (.cells #[.slice A rs.length c, .bool s.down, .int .i64 s.fuse] 32)).alloc (.cells #[.int .i64 6, .string a, .string z, .int .i64 num, .slice C bs.length cc] 69)) 32 #[.slice none 0 0, .bool false, .int .i64 0]
    rw [World.size_alloc, World.size_alloc] at b3
    rw [hwa]
    exact ⟨(((Below.refl _ _).alloc (Nat.le_refl _) _).alloc (by simp) _).alloc (by simp; omega) _, ((Blk.new_ w _ _).alloc _).alloc _, b2.alloc _, b3⟩
  have HBXA := Lib.hid hbxa; clear hbxa hwa
  (with_reducible refine (HSTP.out wa).mono ?_); rintro e w1 ⟨rfl, hb1⟩
  have hbx1 := HBXA.out.below hb1
  have d0 : w1.cell? ⟨w.heap.size, 0, none⟩ = some (.slice A rs.length c) := hbx1.dsk.cell 0
  have d1 : w1.cell? ⟨w.heap.size, 1, none⟩ = some (.bool s.down) := hbx1.dsk.cell 1
  have d2 : w1.cell? ⟨w.heap.size, 2, none⟩ = some (.int .i64 s.fuse) := hbx1.dsk.cell 2
  have g0 := hbx1.dsk.free 0
  have g1 := hbx1.dsk.free 1
  have g2 := hbx1.dsk.free 2
  have HBX1 := Lib.hid hbx1; clear hbx1 hb1 HBXA HSTP
  go_upto_region 2 with fail
  obtain ⟨wB, hwB⟩ : ∃ wB, wB = ((w1.setCell ⟨w.heap.size, 0, none⟩ (.slice A rs.length c)).setCell ⟨w.heap.size, 1, none⟩ (.bool dn)).setCell ⟨w.heap.size, 2, none⟩ (.int .i64 fu) := ⟨_, rfl⟩
  rw [← hwB]
  have hbx : DoBox w A rs.length c ⟨s.files, dn, fu⟩ 6 a z num C bs.length cc wB := by
    have e1 : w.heap.size + 1 ≠ w.heap.size := by omega
    have e2 : w.heap.size + 1 + 1 ≠ w.heap.size := by omega
    rw [hwB]
    exact ⟨((HBX1.out.bel.setCell (p := ⟨w.heap.size, 0, none⟩) (Nat.le_refl _) _).setCell (p := ⟨w.heap.size, 1, none⟩) (Nat.le_refl _) _).setCell (p := ⟨w.heap.size, 2, none⟩) (Nat.le_refl _) _,
      ((HBX1.out.dsk.set_ 0 _).set_ 1 _).set_ 2 _, ((HBX1.out.op.far (p := ⟨w.heap.size, 0, none⟩) e1 _).far (p := ⟨w.heap.size, 1, none⟩) e1 _).far (p := ⟨w.heap.size, 2, none⟩) e1 _,
      ((HBX1.out.res.far (p := ⟨w.heap.size, 0, none⟩) e2 _).far (p := ⟨w.heap.size, 1, none⟩) e2 _).far (p := ⟨w.heap.size, 2, none⟩) e2 _⟩
  clear d0 d1 d2 g0 g1 g2 hwB HBX1
  have HFB : Hid (Files (up G w) wB A rs) := (HF.out.below hbx.bel).mono (fun _ _ h => .inl h)
  have HBX := Lib.hid hbx; clear hbx
  cases dn
  · skip
    have b0 : wB.cell? ⟨w.heap.size, 0, none⟩ = some (.slice A rs.length c) := HBX.out.dsk.cell 0
    have b1 : wB.cell? ⟨w.heap.size, 1, none⟩ = some (.bool false) := HBX.out.dsk.cell 1
    have b2 : wB.cell? ⟨w.heap.size, 2, none⟩ = some (.int .i64 fu) := HBX.out.dsk.cell 2
    have o0 : wB.cell? ⟨w.heap.size + 1, 0, none⟩ = some (.int .i64 6) := HBX.out.op.cell 0
    have o1 : wB.cell? ⟨w.heap.size + 1, 1, none⟩ = some (.string a) := HBX.out.op.cell 1
    have o2 : wB.cell? ⟨w.heap.size + 1, 2, none⟩ = some (.string z) := HBX.out.op.cell 2
    have o3 : wB.cell? ⟨w.heap.size + 1, 3, none⟩ = some (.int .i64 num) := HBX.out.op.cell 3
    have o4 : wB.cell? ⟨w.heap.size + 1, 4, none⟩ = some (.slice C bs.length cc) := HBX.out.op.cell 4
    have r0 : wB.cell? ⟨w.heap.size + 1 + 1, 0, none⟩ = some (.slice none 0 0) := HBX.out.res.cell 0
    have r1 : wB.cell? ⟨w.heap.size + 1 + 1, 1, none⟩ = some (.bool false) := HBX.out.res.cell 1
    have r2 : wB.cell? ⟨w.heap.size + 1 + 1, 2, none⟩ = some (.int .i64 0) := HBX.out.res.cell 2
    have q0 := HBX.out.res.free 0
    have q1 := HBX.out.res.free 1
    have q2 := HBX.out.res.free 2
    by_cases hn : named (sname a) = true
    · skip
      go_wp2_with fail
      (with_reducible refine (rname_any _ ha _).mono ?_); rintro e w' ⟨rfl, rfl⟩
      go_wp2_with fail
      (with_reducible refine (Find_any A c rs HFB.out false fu a).mono ?_); rintro e w2 ⟨i, rfl, hb2, hi⟩
      have HBX2 := Lib.hid (HBX.out.below hb2)
      have HFB2 := Lib.hid (HFB.out.below hb2)
      clear b0 b1 b2 o0 o1 o2 o3 o4 r0 r1 r2 q0 q1 q2 HBX HFB hb2
      obtain ⟨HBX, HFB⟩ := And.intro HBX2 HFB2
      clear HBX2 HFB2
      have b0 : w2.cell? ⟨w.heap.size, 0, none⟩ = some (.slice A rs.length c) := HBX.out.dsk.cell 0
      have b1 : w2.cell? ⟨w.heap.size, 1, none⟩ = some (.bool false) := HBX.out.dsk.cell 1
      have b2 : w2.cell? ⟨w.heap.size, 2, none⟩ = some (.int .i64 fu) := HBX.out.dsk.cell 2
      have o0 : w2.cell? ⟨w.heap.size + 1, 0, none⟩ = some (.int .i64 6) := HBX.out.op.cell 0
      have o1 : w2.cell? ⟨w.heap.size + 1, 1, none⟩ = some (.string a) := HBX.out.op.cell 1
      have o2 : w2.cell? ⟨w.heap.size + 1, 2, none⟩ = some (.string z) := HBX.out.op.cell 2
      have o3 : w2.cell? ⟨w.heap.size + 1, 3, none⟩ = some (.int .i64 num) := HBX.out.op.cell 3
      have o4 : w2.cell? ⟨w.heap.size + 1, 4, none⟩ = some (.slice C bs.length cc) := HBX.out.op.cell 4
      have r0 : w2.cell? ⟨w.heap.size + 1 + 1, 0, none⟩ = some (.slice none 0 0) := HBX.out.res.cell 0
      have r1 : w2.cell? ⟨w.heap.size + 1 + 1, 1, none⟩ = some (.bool false) := HBX.out.res.cell 1
      have r2 : w2.cell? ⟨w.heap.size + 1 + 1, 2, none⟩ = some (.int .i64 0) := HBX.out.res.cell 2
      have q0 := HBX.out.res.free 0
      have q1 := HBX.out.res.free 1
      have q2 := HBX.out.res.free 2
      rcases hi with ⟨rfl, hnone⟩ | ⟨k, rfl, hk, hnk, hfirst⟩
      · have hfd : find (sname a) s.files = none := by rw [← HS.out]; exact find_of_none hnone
        have HFD := Lib.hid hfd; clear hfd hnone
        have HRES : Hid (Dsk.sync s (sname a) = (⟨s.files, false, fu⟩, 4)) := by
          show _ = _
          unfold Dsk.sync; rw [HST.out]
          simp only [look_none (s := ⟨s.files, false, fu⟩) rfl hn HFD.out]
        go_wp2_with fail
        refine bodyPost_ret (v := .tuple #[.agg #[.slice A rs.length c, .bool false, .int .i64 fu], .int .i64 4]) (by simp [results, Tryz.results23, go_sem, r0, r1, r2, q0, q1, q2]) rfl ?_
        rw [HRES.out]
        exact HBX.out.out HFB.out HS.out rfl _ _ _
      · have hfd : find (sname a) s.files = some rs[k].file := by rw [← HS.out]; exact find_of_at hk hnk hfirst
        have HFD := Lib.hid hfd; clear hfd hfirst
        obtain ⟨r, hr⟩ : ∃ r, r = rs[k] := ⟨_, rfl⟩
        obtain ⟨b, o, rfl, _, hbs, hc⟩ := HFB.out.1.at hk
        have c0 : w2.cell? ⟨b, o + k * 3, none⟩ = some (.string ⟨r.file.name.toArray⟩) := by rw [hr]; exact hc 0 (by decide)
        have c1 : w2.cell? ⟨b, o + k * 3 + 1, none⟩ = some (.slice r.A r.file.now.length r.c) := by rw [hr]; exact hc 1 (by decide)
        have c2 : w2.cell? ⟨b, o + k * 3 + 2, none⟩ = some (.slice r.B r.file.safe.length r.d) := by rw [hr]; exact hc 2 (by decide)
        have HOKr : Hid (RFok (up G w) w2 r) := by rw [hr]; exact HFB.out.2 _ (List.getElem_mem hk)
        rw [← hr] at HFD hnk
        have HNK := Lib.hid hnk
        clear hc hr hnk
        go_upto_region 16 with fail
        obtain ⟨w3, hw3⟩ : ∃ w3, w3 = w2.alloc (.cells #[.string ⟨r.file.name.toArray⟩, .slice r.A r.file.now.length r.c, .slice r.B r.file.safe.length r.d] 51) := ⟨_, rfl⟩
        rw [← hw3]
        have hab3 : Below w2.heap.size w2 w3 := by rw [hw3]; exact (Below.refl _ _).alloc (Nat.le_refl _) _
        have HFX : Hid (Blk w3 w2.heap.size 51 #[.string ⟨r.file.name.toArray⟩, .slice r.A r.file.now.length r.c, .slice r.B r.file.safe.length r.d]) := by rw [hw3]; exact Blk.new_ w2 _ _
        have HBX3 := Lib.hid (HBX.out.below hab3)
        have HFB3 := Lib.hid (HFB.out.below hab3)
        have HOK3 := Lib.hid (HOKr.out.below hab3)
        have hw2l : w.heap.size + 1 + 1 < w2.heap.size := HBX.out.res.lt
        clear b0 b1 b2 o0 o1 o2 o3 o4 r0 r1 r2 q0 q1 q2 c0 c1 c2 HBX HFB HOKr hw3 hab3
        obtain ⟨HBX, HFB, HOKr⟩ := And.intro HBX3 (And.intro HFB3 HOK3)
        clear HBX3 HFB3 HOK3
        have b0 : w3.cell? ⟨w.heap.size, 0, none⟩ = some (.slice (some ⟨b, o, none⟩) rs.length c) := HBX.out.dsk.cell 0
        have b1 : w3.cell? ⟨w.heap.size, 1, none⟩ = some (.bool false) := HBX.out.dsk.cell 1
        have b2 : w3.cell? ⟨w.heap.size, 2, none⟩ = some (.int .i64 fu) := HBX.out.dsk.cell 2
        have o0 : w3.cell? ⟨w.heap.size + 1, 0, none⟩ = some (.int .i64 6) := HBX.out.op.cell 0
        have o1 : w3.cell? ⟨w.heap.size + 1, 1, none⟩ = some (.string a) := HBX.out.op.cell 1
        have o2 : w3.cell? ⟨w.heap.size + 1, 2, none⟩ = some (.string z) := HBX.out.op.cell 2
        have o3 : w3.cell? ⟨w.heap.size + 1, 3, none⟩ = some (.int .i64 num) := HBX.out.op.cell 3
        have o4 : w3.cell? ⟨w.heap.size + 1, 4, none⟩ = some (.slice C bs.length cc) := HBX.out.op.cell 4
        have r0 : w3.cell? ⟨w.heap.size + 1 + 1, 0, none⟩ = some (.slice none 0 0) := HBX.out.res.cell 0
        have r1 : w3.cell? ⟨w.heap.size + 1 + 1, 1, none⟩ = some (.bool false) := HBX.out.res.cell 1
        have r2 : w3.cell? ⟨w.heap.size + 1 + 1, 2, none⟩ = some (.int .i64 0) := HBX.out.res.cell 2
        have q0 := HBX.out.res.free 0
        have q1 := HBX.out.res.free 1
        have q2 := HBX.out.res.free 2
        have f0 : w3.cell? ⟨w2.heap.size, 0, none⟩ = some (.string ⟨r.file.name.toArray⟩) := HFX.out.cell 0
        have f1 : w3.cell? ⟨w2.heap.size, 1, none⟩ = some (.slice r.A r.file.now.length r.c) := HFX.out.cell 1
        have f2 : w3.cell? ⟨w2.heap.size, 2, none⟩ = some (.slice r.B r.file.safe.length r.d) := HFX.out.cell 2
        have p0 := HFX.out.free 0
        have p1 := HFX.out.free 1
        have p2 := HFX.out.free 2
        have HRES : Hid (Dsk.sync s (sname a) = (⟨upd (sname a) (fun f => { f with safe := f.now }) s.files, false, fu⟩, 0)) := by
          show _ = _
          unfold Dsk.sync; rw [HST.out]; simp only [look_found (s := ⟨s.files, false, fu⟩) rfl hn HFD.out]
        go_upto_region 35 with fail
        obtain ⟨w4, hw4⟩ : ∃ x, x = (w3).setCell ⟨w2.heap.size, 2, none⟩ (.slice r.A r.file.now.length r.c) := ⟨_, rfl⟩
        rw [← hw4]
        have hbne : b ≠ w2.heap.size := Nat.ne_of_lt hbs
        have HBX4 : Hid (DoBox w (some ⟨b, o, none⟩) rs.length c ⟨s.files, false, fu⟩ 6 a z num C bs.length cc w4) := by rw [hw4]; exact (HBX.out).setFar (p := ⟨w2.heap.size, 2, none⟩) hw2l (.slice r.A r.file.now.length r.c)
        have HFB4 : Hid (Files (up G w) w4 (some ⟨b, o, none⟩) rs) := by rw [hw4]; exact (HFB.out).farF (HFX.out) hbne 2 (.slice r.A r.file.now.length r.c)
        have HOK4 : Hid (RFok (up G w) w4 r) := by rw [hw4]; exact (HOKr.out).far (HFX.out) (by decide) 2 (.slice r.A r.file.now.length r.c)
        clear b0 b1 b2 o0 o1 o2 o3 o4 r0 r1 r2 q0 q1 q2 f0 f1 f2 p0 p1 p2 HBX HFB HOKr
        have HFX4 : Hid (Blk w4 w2.heap.size 51 #[.string ⟨r.file.name.toArray⟩, .slice r.A r.file.now.length r.c, .slice r.A r.file.now.length r.c]) := by rw [hw4]; exact (HFX.out).set_ 2 (.slice r.A r.file.now.length r.c)
        clear HFX hw4
        obtain ⟨HBX, HFB, HOKr⟩ := And.intro HBX4 (And.intro HFB4 HOK4)
        clear HBX4 HFB4 HOK4
        have b0 : w4.cell? ⟨w.heap.size, 0, none⟩ = some (.slice (some ⟨b, o, none⟩) rs.length c) := HBX.out.dsk.cell 0
        have b1 : w4.cell? ⟨w.heap.size, 1, none⟩ = some (.bool false) := HBX.out.dsk.cell 1
        have b2 : w4.cell? ⟨w.heap.size, 2, none⟩ = some (.int .i64 fu) := HBX.out.dsk.cell 2
        have o0 : w4.cell? ⟨w.heap.size + 1, 0, none⟩ = some (.int .i64 6) := HBX.out.op.cell 0
        have o1 : w4.cell? ⟨w.heap.size + 1, 1, none⟩ = some (.string a) := HBX.out.op.cell 1
        have o2 : w4.cell? ⟨w.heap.size + 1, 2, none⟩ = some (.string z) := HBX.out.op.cell 2
        have o3 : w4.cell? ⟨w.heap.size + 1, 3, none⟩ = some (.int .i64 num) := HBX.out.op.cell 3
        have o4 : w4.cell? ⟨w.heap.size + 1, 4, none⟩ = some (.slice C bs.length cc) := HBX.out.op.cell 4
        have r0 : w4.cell? ⟨w.heap.size + 1 + 1, 0, none⟩ = some (.slice none 0 0) := HBX.out.res.cell 0
        have r1 : w4.cell? ⟨w.heap.size + 1 + 1, 1, none⟩ = some (.bool false) := HBX.out.res.cell 1
        have r2 : w4.cell? ⟨w.heap.size + 1 + 1, 2, none⟩ = some (.int .i64 0) := HBX.out.res.cell 2
        have q0 := HBX.out.res.free 0
        have q1 := HBX.out.res.free 1
        have q2 := HBX.out.res.free 2
        have f0 : w4.cell? ⟨w2.heap.size, 0, none⟩ = some (.string ⟨r.file.name.toArray⟩) := HFX4.out.cell 0
        have f1 : w4.cell? ⟨w2.heap.size, 1, none⟩ = some (.slice r.A r.file.now.length r.c) := HFX4.out.cell 1
        have f2 : w4.cell? ⟨w2.heap.size, 2, none⟩ = some (.slice r.A r.file.now.length r.c) := HFX4.out.cell 2
        have hput : put ({ r with file := { r.file with safe := r.file.now }, B := r.A, d := r.c } : RFile).file s.files = upd (sname a) (fun f => { f with safe := f.now }) s.files := put_upd (g := fun f => { f with safe := f.now }) HSO.out HFD.out HNK.out
        have hwi : Calls Tryz.prog 55 #[.agg #[.slice (some ⟨b, o, none⟩) rs.length c, .bool false, .int .i64 fu], .agg #[.string ⟨r.file.name.toArray⟩, .slice r.A r.file.now.length r.c, .slice r.A r.file.now.length r.c]] w4 (RefPost (up G w) ⟨upd (sname a) (fun f => { f with safe := f.now }) s.files, false, fu⟩ w4) := by
          have h9 := With_any _ c rs HFB.out (by omega) ⟨s.files, false, fu⟩ HS.out { r with file := { r.file with safe := r.file.now }, B := r.A, d := r.c } ⟨HOKr.out.now, HOKr.out.now, ⟨HOKr.out.sz.1, HOKr.out.sz.1, HOKr.out.sz.2.2⟩, HOKr.out.cn, HOKr.out.cn⟩
          rw [hput] at h9
          exact h9
        have HWI := Lib.hid hwi; clear hwi hput
        go_wp2_with fail
        (with_reducible refine HWI.out.mono ?_)
        clear f0 f1 f2
        rintro e w5 ⟨v5, rfl, ⟨A5, c5, rs5, rfl, hf5, hm5⟩, hb5⟩
        have HBX5 := Lib.hid (HBX.out.below hb5)
        have HF5 : Hid (Files (up G w) w5 A5 rs5) := hf5.mono (fun _ _ h => h.elim id (fun h2 => .inr (Nat.le_trans HBX.out.bel.size h2)))
        have HM5 := Lib.hid hm5
        clear b0 b1 b2 o0 o1 o2 o3 o4 r0 r1 r2 q0 q1 q2 HBX hb5 hf5 hm5
        obtain ⟨HBX, _⟩ := And.intro HBX5 trivial
        clear HBX5
        have b0 : w5.cell? ⟨w.heap.size, 0, none⟩ = some (.slice (some ⟨b, o, none⟩) rs.length c) := HBX.out.dsk.cell 0
        have b1 : w5.cell? ⟨w.heap.size, 1, none⟩ = some (.bool false) := HBX.out.dsk.cell 1
        have b2 : w5.cell? ⟨w.heap.size, 2, none⟩ = some (.int .i64 fu) := HBX.out.dsk.cell 2
        have o0 : w5.cell? ⟨w.heap.size + 1, 0, none⟩ = some (.int .i64 6) := HBX.out.op.cell 0
        have o1 : w5.cell? ⟨w.heap.size + 1, 1, none⟩ = some (.string a) := HBX.out.op.cell 1
        have o2 : w5.cell? ⟨w.heap.size + 1, 2, none⟩ = some (.string z) := HBX.out.op.cell 2
        have o3 : w5.cell? ⟨w.heap.size + 1, 3, none⟩ = some (.int .i64 num) := HBX.out.op.cell 3
        have o4 : w5.cell? ⟨w.heap.size + 1, 4, none⟩ = some (.slice C bs.length cc) := HBX.out.op.cell 4
        have r0 : w5.cell? ⟨w.heap.size + 1 + 1, 0, none⟩ = some (.slice none 0 0) := HBX.out.res.cell 0
        have r1 : w5.cell? ⟨w.heap.size + 1 + 1, 1, none⟩ = some (.bool false) := HBX.out.res.cell 1
        have r2 : w5.cell? ⟨w.heap.size + 1 + 1, 2, none⟩ = some (.int .i64 0) := HBX.out.res.cell 2
        have q0 := HBX.out.res.free 0
        have q1 := HBX.out.res.free 1
        have q2 := HBX.out.res.free 2
        go_wp2_with fail
        refine bodyPost_ret (v := .tuple #[.agg #[.slice A5 rs5.length c5, .bool false, .int .i64 fu], .int .i64 0]) (by simp [results, Tryz.results23, go_sem, r0, r1, r2, q0, q1, q2]) rfl ?_
        rw [HRES.out]
        exact HBX.out.out HF5.out HM5.out rfl _ _ _
    · have hn : named (sname a) = false := by simpa using hn
      have HRES : Hid (Dsk.sync s (sname a) = (⟨s.files, false, fu⟩, 1)) := by
        show _ = _
        unfold Dsk.sync; rw [HST.out]; simp only
        have : Dsk.look ⟨s.files, false, fu⟩ [sname a] = (none, 1) := by unfold Dsk.look; rw [if_neg (by simp), if_pos (by simp [hn])]
        rw [this]
      go_wp2_with fail
      (with_reducible refine (rname_any _ ha _).mono ?_); rintro e w' ⟨rfl, rfl⟩
      go_wp2_with fail
      refine bodyPost_ret (v := .tuple #[.agg #[.slice A rs.length c, .bool false, .int .i64 fu], .int .i64 1]) (by simp [results, Tryz.results23, go_sem, r0, r1, r2, q0, q1, q2]) rfl ?_
      rw [HRES.out]
      exact HBX.out.out HFB.out HS.out rfl _ _ _
  · skip
    have b0 : wB.cell? ⟨w.heap.size, 0, none⟩ = some (.slice A rs.length c) := HBX.out.dsk.cell 0
    have b1 : wB.cell? ⟨w.heap.size, 1, none⟩ = some (.bool true) := HBX.out.dsk.cell 1
    have b2 : wB.cell? ⟨w.heap.size, 2, none⟩ = some (.int .i64 fu) := HBX.out.dsk.cell 2
    have o0 : wB.cell? ⟨w.heap.size + 1, 0, none⟩ = some (.int .i64 6) := HBX.out.op.cell 0
    have o1 : wB.cell? ⟨w.heap.size + 1, 1, none⟩ = some (.string a) := HBX.out.op.cell 1
    have o2 : wB.cell? ⟨w.heap.size + 1, 2, none⟩ = some (.string z) := HBX.out.op.cell 2
    have o3 : wB.cell? ⟨w.heap.size + 1, 3, none⟩ = some (.int .i64 num) := HBX.out.op.cell 3
    have o4 : wB.cell? ⟨w.heap.size + 1, 4, none⟩ = some (.slice C bs.length cc) := HBX.out.op.cell 4
    have r0 : wB.cell? ⟨w.heap.size + 1 + 1, 0, none⟩ = some (.slice none 0 0) := HBX.out.res.cell 0
    have r1 : wB.cell? ⟨w.heap.size + 1 + 1, 1, none⟩ = some (.bool false) := HBX.out.res.cell 1
    have r2 : wB.cell? ⟨w.heap.size + 1 + 1, 2, none⟩ = some (.int .i64 0) := HBX.out.res.cell 2
    have q0 := HBX.out.res.free 0
    have q1 := HBX.out.res.free 1
    have q2 := HBX.out.res.free 2
    have HRES : Hid (Dsk.sync s (sname a) = (⟨s.files, true, fu⟩, 50)) := by
      show _ = _
      unfold Dsk.sync; rw [HST.out]; simp only
      rw [look_down rfl]
    go_wp2_with fail
    refine bodyPost_ret (v := .tuple #[.agg #[.slice A rs.length c, .bool true, .int .i64 fu], .int .i64 50]) (by simp [results, Tryz.results23, go_sem, r0, r1, r2, q0, q1, q2]) rfl ?_
    rw [HRES.out]
    exact HBX.out.out HFB.out HS.out rfl _ _ _
end Go.Proofs.YtfpomllhkbbipaaGreat
namespace Go.Proofs.YtfpomllhkbbipaaGreat
open Go.RowKit Go.Maps Mem Dsk

theorem Do_any {G : Nat → Prop} {w : World} (A : Option Addr) (c : Nat) (rs : List RFile) (h : Files G w A rs) (s : S) (hs : rs.map RFile.file = s.files) (hct : rs.length ≤ 256) (hfu : s.fuse ≤ 9223372036854775807) (hso : Sorted s.files)
    (a z : ByteArray) (ha : a.size ≤ maxLen) (hz : z.size ≤ maxLen) (num : Int) (hnum : (Lit.int .i64 num).wf = true) (C : Option Addr) (cc : Nat) (bs : List UInt8) (hbs : Sl fB w C bs) (kind : Int) (h1 : 1 ≤ kind) (h6 : kind ≤ 6) :
    Calls Tryz.prog 23 #[.agg #[.slice A rs.length c, .bool s.down, .int .i64 s.fuse], .agg #[.int .i64 kind, .string a, .string z, .int .i64 num, .slice C bs.length cc]] w (DoPost G (doStep s kind (sname a) (sname z) num bs) w) := by
  have hk : kind = 1 ∨ kind = 2 ∨ kind = 3 ∨ kind = 4 ∨ kind = 5 ∨ kind = 6 := by omega
  rcases hk with rfl | rfl | rfl | rfl | rfl | rfl
  · exact Do1_any A c rs h s hs hct hfu hso a z ha hz num hnum C cc bs hbs
  · exact Do2_any A c rs h s hs hct hfu hso a z ha hz num hnum C cc bs hbs
  · exact Do3_any A c rs h s hs hct hfu hso a z ha hz num hnum C cc bs hbs
  · exact Do4_any A c rs h s hs hct hfu hso a z ha hz num hnum C cc bs hbs
  · exact Do5_any A c rs h s hs hct hfu hso a z ha hz num hnum C cc bs hbs
  · exact Do6_any A c rs h s hs hct hfu hso a z ha hz num hnum C cc bs hbs
/-- the bytes that Read gives lie in the disk -/
def RReadPost (G : Nat → Prop) (res : List UInt8 × Nat) (w : World) (e : Ending) (w' : World) : Prop :=
  ∃ A c, e = .returned (.tuple #[.slice A res.1.length c, .int .i64 res.2]) ∧ SlB fB 5 G w' A res.1 ∧ res.1.length ≤ c ∧ Below w.heap.size w w'
set_option maxHeartbeats 2000000 in
theorem RRead_any {G : Nat → Prop} {w : World} (A : Option Addr) (c : Nat) (rs : List RFile) (h : Files G w A rs) (s : S) (hs : rs.map RFile.file = s.files) (a : ByteArray) (ha : a.size ≤ maxLen) :
    Calls Tryz.prog 24 #[.agg #[.slice A rs.length c, .bool s.down, .int .i64 s.fuse], .string a] w (RReadPost G (Dsk.read s (sname a)) w) := by
  have hl := h.1.len
  have HF := Lib.hid h; clear h
  have HS := Lib.hid hs; clear hs
  obtain ⟨fs, dn, fu⟩ := s
  simp only at HS ⊢
  have hnew := Blk.new_ w 32 #[.slice A rs.length c, .bool dn, .int .i64 fu]
  obtain ⟨wa, hwa⟩ : ∃ x, x = w.alloc (.cells #[.slice A rs.length c, .bool dn, .int .i64 fu] 32) := ⟨_, rfl⟩
  have hab : Below w.heap.size w wa := by rw [hwa]; exact (Below.refl _ _).alloc (Nat.le_refl _) _
  rw [← hwa] at hnew
  have HFA : Hid (Files G wa A rs) := HF.out.below hab
  have d0 : wa.cell? ⟨w.heap.size, 0, none⟩ = some (.slice A rs.length c) := hnew.cell 0
  have d1 : wa.cell? ⟨w.heap.size, 1, none⟩ = some (.bool dn) := hnew.cell 1
  have d2 : wa.cell? ⟨w.heap.size, 2, none⟩ = some (.int .i64 fu) := hnew.cell 2
  have HWA := Lib.hid hwa; clear hwa
  have HAB := Lib.hid hab; clear hab
  have HNEW := Lib.hid hnew; clear hnew
  go_enter Tryz.func24, Tryz.ntmps24
  go_upto_region 1 with fail
  rw [← HWA.out]
  cases dn
  · by_cases hn : named (sname a) = true
    · go_wp2_with fail
      (with_reducible refine (rname_any _ ha _).mono ?_); rintro e w' ⟨rfl, rfl⟩
      go_wp2_with fail
      (with_reducible refine (Find_any A c rs HFA.out false fu a).mono ?_); rintro e w2 ⟨i, rfl, hb2, hi⟩
      have HB2 := Lib.hid hb2
      have HF2 := Lib.hid (HFA.out.below hb2)
      have hn2 := HNEW.out.below hb2 HNEW.out.lt
      have k0 : w2.cell? ⟨w.heap.size, 0, none⟩ = some (.slice A rs.length c) := hn2.cell 0
      clear d0 d1 d2 hb2 hn2
      rcases hi with ⟨rfl, hnone⟩ | ⟨k, rfl, hk, hnk, hfirst⟩
      · have HRES : Hid (Dsk.read ⟨fs, false, fu⟩ (sname a) = ([], 4)) := by
          show _ = _
          have hfd : find (sname a) fs = none := by rw [← HS.out]; exact find_of_none hnone
          unfold Dsk.read; simp only [look_none (s := ⟨fs, false, fu⟩) rfl hn hfd]
        clear hnone
        go_wp2_with fail
        refine bodyPost_ret (v := .tuple #[.slice none 0 0, .int .i64 4]) (by simp [results, Tryz.results24, go_sem]) rfl ?_
        rw [HRES.out]
        exact ⟨none, 0, rfl, SlB.nil, Nat.le_refl _, HAB.out.trans (HB2.out.mono HAB.out.size)⟩
      · have HRES : Hid (Dsk.read ⟨fs, false, fu⟩ (sname a) = (rs[k].file.now, 0)) := by
          show _ = _
          have hfd : find (sname a) fs = some rs[k].file := by rw [← HS.out]; exact find_of_at hk hnk hfirst
          unfold Dsk.read; simp only [look_found (s := ⟨fs, false, fu⟩) rfl hn hfd]
        clear hnk hfirst
        obtain ⟨b, o, rfl, _, hbs, hc⟩ := HF2.out.1.at hk
        have c1 : w2.cell? ⟨b, o + k * 3 + 1, none⟩ = some (.slice rs[k].A rs[k].file.now.length rs[k].c) := hc 1 (by decide)
        have HOK : Hid (RFok G w2 rs[k]) := HF2.out.2 _ (List.getElem_mem hk)
        clear hc
        go_wp2_with fail
        refine bodyPost_ret (v := .tuple #[.slice rs[k].A rs[k].file.now.length rs[k].c, .int .i64 0]) (by simp [results, Tryz.results24, go_sem]) rfl ?_
        rw [HRES.out]
        exact ⟨_, _, rfl, HOK.out.now, HOK.out.cn, HAB.out.trans (HB2.out.mono HAB.out.size)⟩
    · have hn : named (sname a) = false := by simpa using hn
      have HRES : Hid (Dsk.read ⟨fs, false, fu⟩ (sname a) = ([], 1)) := by
        show _ = _
        unfold Dsk.read
        have : Dsk.look ⟨fs, false, fu⟩ [sname a] = (none, 1) := by unfold Dsk.look; rw [if_neg (by simp), if_pos (by simp [hn])]
        rw [this]
      go_wp2_with fail
      (with_reducible refine (rname_any _ ha _).mono ?_); rintro e w' ⟨rfl, rfl⟩
      go_wp2_with fail
      refine bodyPost_ret (v := .tuple #[.slice none 0 0, .int .i64 1]) (by simp [results, Tryz.results24, go_sem]) rfl ?_
      rw [HRES.out]
      exact ⟨none, 0, rfl, SlB.nil, Nat.le_refl _, HAB.out⟩
  · have HRES : Hid (Dsk.read ⟨fs, true, fu⟩ (sname a) = ([], 50)) := by
      show _ = _
      unfold Dsk.read; rw [look_down rfl]
    go_wp2_with fail
    refine bodyPost_ret (v := .tuple #[.slice none 0 0, .int .i64 50]) (by simp [results, Tryz.results24, go_sem]) rfl ?_
    rw [HRES.out]
    exact ⟨none, 0, rfl, SlB.nil, Nat.le_refl _, HAB.out⟩
end Go.Proofs.YtfpomllhkbbipaaGreat
