/- Layer 5's document: a step of a disk. -/
import Derived.Deep.RegionHeld3
import Derived.BigQuiet
import Derived.Test.YtfpomllhkbbipaaGreatDoorGAz
import Derived.Test.YtfpomllhkbbipaaGreatDoorGBb
import Derived.Test.YtfpomllhkbbipaaGreatDoorGAe
import Derived.Test.YtfpomllhkbbipaaGreatDoorGAx
import Derived.Test.YtfpomllhkbbipaaGreatDoorGAk
namespace Go.Proofs.YtfpomllhkbbipaaGreatDoor
open Go.RowKit Go.Maps Mem Dsk
theorem arr_sname (n : ByteArray) : (⟨(sname n).toArray⟩ : ByteArray) = n := by unfold sname; simp
def DoPost (G : Nat → Prop) (res : S × Nat) (w : World) (e : Ending) (w' : World) : Prop :=
 ∃ v, e = .returned (.tuple #[v, .int .i64 res.2]) ∧ RefAt (up G w) w' v res.1 ∧ Below w.heap.size w w'
structure DoBox (w : World) (A : Option Addr) (n c : Nat) (s : S) (kind : Int) (a z : ByteArray) (num : Int) (C : Option Addr) (cl cc : Nat) (W : World) : Prop where
 bel : Below w.heap.size w W
 dsk : Blk W w.heap.size 32 #[.slice A n c, .bool s.down, .int .i64 s.fuse]
 op : Blk W (w.heap.size + 1) 87 #[.int .i64 kind, .string a, .string z, .int .i64 num, .slice C cl cc]
 res : Blk W (w.heap.size + 1 + 1) 32 #[.slice none 0 0, .bool false, .int .i64 0]
theorem DoBox.below {w W W' : World} {A : Option Addr} {n c : Nat} {s : S} {kind : Int} {a z : ByteArray} {num : Int} {C : Option Addr} {cl cc : Nat} (h : DoBox w A n c s kind a z num C cl cc W) (hb : Below W.heap.size W W') : DoBox w A n c s kind a z num C cl cc W' :=
 ⟨h.bel.trans (hb.mono h.bel.size), h.dsk.below hb h.dsk.lt, h.op.below hb h.op.lt, h.res.below hb h.res.lt⟩
theorem DoBox.out {w W : World} {A : Option Addr} {n c : Nat} {s : S} {kind : Int} {a z : ByteArray} {num : Int} {C : Option Addr} {cl cc : Nat} (h : DoBox w A n c s kind a z num C cl cc W)
 {G : Nat → Prop} {A1 : Option Addr} {c1 : Nat} {rs : List RFile} (hf : Files (up G w) W A1 rs) {res : S × Nat} (hr : rs.map RFile.file = res.1.files) {e : Ending} (he : e = .returned (.tuple #[.agg #[.slice A1 rs.length c1, .bool res.1.down, .int .i64 res.1.fuse], .int .i64 res.2])) (v0 v1 v2 : Value) :
 DoPost G res w e (((W.setCell ⟨w.heap.size + 1 + 1, 0, none⟩ v0).setCell ⟨w.heap.size + 1 + 1, 1, none⟩ v1).setCell ⟨w.heap.size + 1 + 1, 2, none⟩ v2) := by
 have n1 : w.heap.size ≤ w.heap.size + 1 + 1 := by omega
 have k1 := h.res.set_ 0 v0
 have k2 := k1.set_ 1 v1
 exact ⟨_, he, ⟨A1, c1, rs, rfl, ((hf.far h.res (by decide) (by decide) 0 v0).far k1 (by decide) (by decide) 1 v1).far k2 (by decide) (by decide) 2 v2, hr⟩,
  ((h.bel.setCell (p := ⟨w.heap.size + 1 + 1, 0, none⟩) n1 v0).setCell (p := ⟨w.heap.size + 1 + 1, 1, none⟩) n1 v1).setCell (p := ⟨w.heap.size + 1 + 1, 2, none⟩) n1 v2⟩
theorem find_of_none {rs : List RFile} {n : Name} (h : ∀ r ∈ rs, r.file.name ≠ n) : find n (rs.map RFile.file) = none := by
 rw [find_none]; intro f hf; obtain ⟨r, hr, rfl⟩ := List.mem_map.1 hf; exact h r hr
theorem find_of_at {rs : List RFile} {n : Name} {k : Nat} (hk : k < rs.length) (h1 : rs[k].file.name = n) (h2 : ∀ j (hj : j < k), (rs[j]'(by omega)).file.name ≠ n) : find n (rs.map RFile.file) = some rs[k].file := by
 induction rs generalizing k with
 | nil => simp at hk
 | cons r l ih =>
   unfold find at ih ⊢
   cases k with
   | zero => rw [List.map_cons, List.find?_cons_of_pos (by simpa using h1)]; rfl
   | succ k =>
     rw [List.map_cons, List.find?_cons_of_neg (by simpa using h2 0 (by omega))]
     exact ih (by simpa using hk) h1 (fun j hj => h2 (j + 1) (by omega))
theorem DoBox.setFar {w W : World} {A : Option Addr} {n c : Nat} {s : S} {kind : Int} {a z : ByteArray} {num : Int} {C : Option Addr} {cl cc : Nat} (h : DoBox w A n c s kind a z num C cl cc W) {p : Addr} (hp : w.heap.size + 1 + 1 < p.block) (u : Value) : DoBox w A n c s kind a z num C cl cc (W.setCell p u) :=
 ⟨h.bel.setCell (by omega) u, h.dsk.far (by omega) u, h.op.far (by omega) u, h.res.far (by omega) u⟩
theorem Files.farF {G : Nat → Prop} {w : World} {b o : Nat} {rs : List RFile} {g : Nat} {cs : Array Value} (h : Files G w (some ⟨b, o, none⟩) rs) (hb : Blk w g 59 cs) (hne : b ≠ g) (i : Nat) (u : Value) : Files G (w.setCell ⟨g, i, none⟩ u) (some ⟨b, o, none⟩) rs :=
 ⟨⟨h.1.1, fun hn => by
   obtain ⟨b', o', cur, fr, e1, hF, hb', hc⟩ := h.1.2 hn
   injection e1 with e1; injection e1 with e1 e2
   subst e1; subst e2
   exact ⟨b, o, cur, fr, rfl, hF, (Below.heap_setCell w _ u b hne).trans hb', hc⟩⟩, fun r hr => (h.2 r hr).far hb (by decide) i u⟩
set_option maxRecDepth 100000 in
set_option maxHeartbeats 8000000 in
theorem Do1_any {G : Nat → Prop} {w : World} (A : Option Addr) (c : Nat) (rs : List RFile) (h : Files G w A rs) (s : S) (hs : rs.map RFile.file = s.files) (hct : rs.length ≤ 256) (hfu : s.fuse ≤ 9223372036854775807) (hso : Sorted s.files)
 (a z : ByteArray) (ha : a.size ≤ maxLen) (_hz : z.size ≤ maxLen) (num : Int) (hnum : (Lit.int .i64 num).wf = true) (C : Option Addr) (cc : Nat) (bs : List UInt8) (hbs : Sl fB w C bs) :
 Calls Tryz.prog 63 #[.agg #[.slice A rs.length c, .bool s.down, .int .i64 s.fuse], .agg #[.int .i64 1, .string a, .string z, .int .i64 num, .slice C bs.length cc]] w (DoPost G (Dsk.create s (sname a)) w) := by
 have hl := h.1.len
 have hbl := hbs.len
 have HF := Lib.hid h; clear h
 have HS := Lib.hid hs; clear hs
 have HSO := Lib.hid hso; clear hso
 have HBS := Lib.hid hbs; clear hbs
 have HNUM := Lib.hid hnum; clear hnum
 rcases hst : Dsk.step s with ⟨fs1, dn, fu⟩
 have hfs : fs1 = s.files := by have := step_files s; rw [hst] at this; exact this
 have hstp : ∀ W, Calls Tryz.prog 97 #[.agg #[.slice A rs.length c, .bool s.down, .int .i64 s.fuse]] W fun e w' => e = .returned (.agg #[.slice A rs.length c, .bool dn, .int .i64 fu]) ∧ Below W.heap.size W w' :=
  fun W => (Step_any A rs.length c s hfu W).mono (by rintro e w' ⟨he, hb⟩; rw [hst] at he; exact ⟨he, hb⟩)
 have HSTP := Lib.hid hstp; clear hstp
 subst hfs
 have HST := Lib.hid hst; clear hst hfu
 go_enter Tryz.func63, Tryz.ntmps63
 go_wp2_with fail
 obtain ⟨wa, hwa⟩ : ∃ wa, wa = ((w.alloc (.cells #[.slice A rs.length c, .bool s.down, .int .i64 s.fuse] 32)).alloc (.cells #[.int .i64 1, .string a, .string z, .int .i64 num, .slice C bs.length cc] 87)).alloc (.cells #[.slice none 0 0, .bool false, .int .i64 0] 32) := ⟨_, rfl⟩
 rw [← hwa]
 have hbxa : DoBox w A rs.length c s 1 a z num C bs.length cc wa := by
  have b2 := Blk.new_ (w.alloc (.cells #[.slice A rs.length c, .bool s.down, .int .i64 s.fuse] 32)) 87 #[.int .i64 1, .string a, .string z, .int .i64 num, .slice C bs.length cc]
  rw [World.size_alloc] at b2
  have b3 := Blk.new_ ((w.alloc (.cells #[.slice A rs.length c, .bool s.down, .int .i64 s.fuse] 32)).alloc (.cells #[.int .i64 1, .string a, .string z, .int .i64 num, .slice C bs.length cc] 87)) 32 #[.slice none 0 0, .bool false, .int .i64 0]
  rw [World.size_alloc, World.size_alloc] at b3
  rw [hwa]
  exact ⟨(((Below.refl _ _).alloc (Nat.le_refl _) _).alloc (by simp) _).alloc (by simp; omega) _, ((Blk.new_ w _ _).alloc _).alloc _, b2.alloc _, b3⟩
 have HBXA := Lib.hid hbxa; clear hbxa hwa
 (with_reducible refine (HSTP.out wa).mono ?_); rintro e w1 ⟨rfl, hb1⟩
 have hbx1 := HBXA.out.below hb1
 have d0 : w1.cell? ⟨w.heap.size, 0, none⟩ = some (.slice A rs.length c) := hbx1.dsk.cell 0
 have d1 : w1.cell? ⟨w.heap.size, 1, none⟩ = some (.bool s.down) := hbx1.dsk.cell 1
 have d2 : w1.cell? ⟨w.heap.size, 2, none⟩ = some (.int .i64 s.fuse) := hbx1.dsk.cell 2
 have g0 := hbx1.dsk.free 0
 have g1 := hbx1.dsk.free 1
 have g2 := hbx1.dsk.free 2
 have HBX1 := Lib.hid hbx1; clear hbx1 hb1 HBXA HSTP
 go_upto_region 2 with fail
 obtain ⟨wB, hwB⟩ : ∃ wB, wB = ((w1.setCell ⟨w.heap.size, 0, none⟩ (.slice A rs.length c)).setCell ⟨w.heap.size, 1, none⟩ (.bool dn)).setCell ⟨w.heap.size, 2, none⟩ (.int .i64 fu) := ⟨_, rfl⟩
 rw [← hwB]
 have hbx : DoBox w A rs.length c ⟨s.files, dn, fu⟩ 1 a z num C bs.length cc wB := by
  have e1 : w.heap.size + 1 ≠ w.heap.size := by omega
  have e2 : w.heap.size + 1 + 1 ≠ w.heap.size := by omega
  rw [hwB]
  exact ⟨((HBX1.out.bel.setCell (p := ⟨w.heap.size, 0, none⟩) (Nat.le_refl _) _).setCell (p := ⟨w.heap.size, 1, none⟩) (Nat.le_refl _) _).setCell (p := ⟨w.heap.size, 2, none⟩) (Nat.le_refl _) _,
   ((HBX1.out.dsk.set_ 0 _).set_ 1 _).set_ 2 _, ((HBX1.out.op.far (p := ⟨w.heap.size, 0, none⟩) e1 _).far (p := ⟨w.heap.size, 1, none⟩) e1 _).far (p := ⟨w.heap.size, 2, none⟩) e1 _,
   ((HBX1.out.res.far (p := ⟨w.heap.size, 0, none⟩) e2 _).far (p := ⟨w.heap.size, 1, none⟩) e2 _).far (p := ⟨w.heap.size, 2, none⟩) e2 _⟩
 clear d0 d1 d2 g0 g1 g2 hwB HBX1
 have HFB : Hid (Files (up G w) wB A rs) := (HF.out.below hbx.bel).mono (fun _ _ h => .inl h)
 have HBX := Lib.hid hbx; clear hbx
 cases dn
 ·skip
  have b0 : wB.cell? ⟨w.heap.size, 0, none⟩ = some (.slice A rs.length c) := HBX.out.dsk.cell 0
  have b1 : wB.cell? ⟨w.heap.size, 1, none⟩ = some (.bool false) := HBX.out.dsk.cell 1
  have b2 : wB.cell? ⟨w.heap.size, 2, none⟩ = some (.int .i64 fu) := HBX.out.dsk.cell 2
  have o0 : wB.cell? ⟨w.heap.size + 1, 0, none⟩ = some (.int .i64 1) := HBX.out.op.cell 0
  have o1 : wB.cell? ⟨w.heap.size + 1, 1, none⟩ = some (.string a) := HBX.out.op.cell 1
  have o2 : wB.cell? ⟨w.heap.size + 1, 2, none⟩ = some (.string z) := HBX.out.op.cell 2
  have o3 : wB.cell? ⟨w.heap.size + 1, 3, none⟩ = some (.int .i64 num) := HBX.out.op.cell 3
  have o4 : wB.cell? ⟨w.heap.size + 1, 4, none⟩ = some (.slice C bs.length cc) := HBX.out.op.cell 4
  have r0 : wB.cell? ⟨w.heap.size + 1 + 1, 0, none⟩ = some (.slice none 0 0) := HBX.out.res.cell 0
  have r1 : wB.cell? ⟨w.heap.size + 1 + 1, 1, none⟩ = some (.bool false) := HBX.out.res.cell 1
  have r2 : wB.cell? ⟨w.heap.size + 1 + 1, 2, none⟩ = some (.int .i64 0) := HBX.out.res.cell 2
  have q0 := HBX.out.res.free 0
  have q1 := HBX.out.res.free 1
  have q2 := HBX.out.res.free 2
  by_cases hn : named (sname a) = true
  ·skip
   go_wp2_with fail
   (with_reducible refine (rname_any _ ha _).mono ?_); rintro e w' ⟨rfl, rfl⟩
   go_wp2_with fail
   (with_reducible refine (Find_any A c rs HFB.out false fu a).mono ?_); rintro e w2 ⟨i, rfl, hb2, hi⟩
   have HBX2 := Lib.hid (HBX.out.below hb2)
   have HFB2 := Lib.hid (HFB.out.below hb2)
   clear b0 b1 b2 o0 o1 o2 o3 o4 r0 r1 r2 q0 q1 q2 HBX HFB hb2
   obtain ⟨HBX, HFB⟩ := And.intro HBX2 HFB2
   clear HBX2 HFB2
   have b0 : w2.cell? ⟨w.heap.size, 0, none⟩ = some (.slice A rs.length c) := HBX.out.dsk.cell 0
   have b1 : w2.cell? ⟨w.heap.size, 1, none⟩ = some (.bool false) := HBX.out.dsk.cell 1
   have b2 : w2.cell? ⟨w.heap.size, 2, none⟩ = some (.int .i64 fu) := HBX.out.dsk.cell 2
   have o0 : w2.cell? ⟨w.heap.size + 1, 0, none⟩ = some (.int .i64 1) := HBX.out.op.cell 0
   have o1 : w2.cell? ⟨w.heap.size + 1, 1, none⟩ = some (.string a) := HBX.out.op.cell 1
   have o2 : w2.cell? ⟨w.heap.size + 1, 2, none⟩ = some (.string z) := HBX.out.op.cell 2
   have o3 : w2.cell? ⟨w.heap.size + 1, 3, none⟩ = some (.int .i64 num) := HBX.out.op.cell 3
   have o4 : w2.cell? ⟨w.heap.size + 1, 4, none⟩ = some (.slice C bs.length cc) := HBX.out.op.cell 4
   have r0 : w2.cell? ⟨w.heap.size + 1 + 1, 0, none⟩ = some (.slice none 0 0) := HBX.out.res.cell 0
   have r1 : w2.cell? ⟨w.heap.size + 1 + 1, 1, none⟩ = some (.bool false) := HBX.out.res.cell 1
   have r2 : w2.cell? ⟨w.heap.size + 1 + 1, 2, none⟩ = some (.int .i64 0) := HBX.out.res.cell 2
   have q0 := HBX.out.res.free 0
   have q1 := HBX.out.res.free 1
   have q2 := HBX.out.res.free 2
   rcases hi with ⟨rfl, hnone⟩ | ⟨k, rfl, hk, hnk, hfirst⟩
   ·have hfd : find (sname a) s.files = none := by rw [← HS.out]; exact find_of_none hnone
    have HFD := Lib.hid hfd; clear hfd hnone
    by_cases h256 : rs.length = 256
    ·have hle : (256 : Int) ≤ (rs.length : Int) := by omega
     have HRES : Hid (Dsk.create s (sname a) = (⟨s.files, false, fu⟩, 3)) := by
      show _ = _
      have hc : s.files.length = 256 := by rw [← HS.out, List.length_map]; exact h256
      unfold Dsk.create; rw [HST.out]; simp only [look_none (s := ⟨s.files, false, fu⟩) rfl hn HFD.out]
      simp [hc]
     have H256 := Lib.hid h256; clear h256
     go_wp2_with fail
     refine bodyPost_ret (v := .tuple #[.agg #[.slice A rs.length c, .bool false, .int .i64 fu], .int .i64 3]) (by simp [results, Tryz.results63, go_sem, r0, r1, r2]) rfl ?_
     rw [HRES.out]
     exact HBX.out.out HFB.out HS.out rfl _ _ _
    ·have hle : ¬ (256 : Int) ≤ (rs.length : Int) := by omega
     have HRES : Hid (Dsk.create s (sname a) = (⟨put ⟨sname a, [], []⟩ s.files, false, fu⟩, 0)) := by
      show _ = _
      have hc : ¬ s.files.length = 256 := by rw [← HS.out, List.length_map]; exact h256
      unfold Dsk.create; rw [HST.out]; simp only [look_none (s := ⟨s.files, false, fu⟩) rfl hn HFD.out]
      simp [hc]
     have hwi : Calls Tryz.prog 99 #[.agg #[.slice A rs.length c, .bool false, .int .i64 fu], .agg #[.string a, .slice none 0 0, .slice none 0 0]] w2 (RefPost (up G w) ⟨put ⟨sname a, [], []⟩ s.files, false, fu⟩ w2) := by
      have h9 := With_any A c rs HFB.out (by omega) ⟨s.files, false, fu⟩ HS.out ⟨⟨sname a, [], []⟩, none, 0, none, 0⟩ ⟨SlB.nil, SlB.nil, ⟨Nat.zero_le _, Nat.zero_le _, hn⟩, Nat.le_refl _, Nat.le_refl _⟩
      simp only [arr_sname] at h9
      exact h9
     have HWI := Lib.hid hwi; clear hwi h256
     go_wp2_with fail
     (with_reducible refine HWI.out.mono ?_)
     rintro e w5 ⟨v5, rfl, ⟨A5, c5, rs5, rfl, hf5, hm5⟩, hb5⟩
     have HBX5 := Lib.hid (HBX.out.below hb5)
     have HF5 : Hid (Files (up G w) w5 A5 rs5) := hf5.mono (fun _ _ h => h.elim id (fun h2 => .inr (Nat.le_trans HBX.out.bel.size h2)))
     have HM5 := Lib.hid hm5
     clear b0 b1 b2 o0 o1 o2 o3 o4 r0 r1 r2 q0 q1 q2 HBX hb5 hf5 hm5
     obtain ⟨HBX, _⟩ := And.intro HBX5 trivial
     clear HBX5
     have b0 : w5.cell? ⟨w.heap.size, 0, none⟩ = some (.slice A rs.length c) := HBX.out.dsk.cell 0
     have b1 : w5.cell? ⟨w.heap.size, 1, none⟩ = some (.bool false) := HBX.out.dsk.cell 1
     have b2 : w5.cell? ⟨w.heap.size, 2, none⟩ = some (.int .i64 fu) := HBX.out.dsk.cell 2
     have o0 : w5.cell? ⟨w.heap.size + 1, 0, none⟩ = some (.int .i64 1) := HBX.out.op.cell 0
     have o1 : w5.cell? ⟨w.heap.size + 1, 1, none⟩ = some (.string a) := HBX.out.op.cell 1
     have o2 : w5.cell? ⟨w.heap.size + 1, 2, none⟩ = some (.string z) := HBX.out.op.cell 2
     have o3 : w5.cell? ⟨w.heap.size + 1, 3, none⟩ = some (.int .i64 num) := HBX.out.op.cell 3
     have o4 : w5.cell? ⟨w.heap.size + 1, 4, none⟩ = some (.slice C bs.length cc) := HBX.out.op.cell 4
     have r0 : w5.cell? ⟨w.heap.size + 1 + 1, 0, none⟩ = some (.slice none 0 0) := HBX.out.res.cell 0
     have r1 : w5.cell? ⟨w.heap.size + 1 + 1, 1, none⟩ = some (.bool false) := HBX.out.res.cell 1
     have r2 : w5.cell? ⟨w.heap.size + 1 + 1, 2, none⟩ = some (.int .i64 0) := HBX.out.res.cell 2
     have q0 := HBX.out.res.free 0
     have q1 := HBX.out.res.free 1
     have q2 := HBX.out.res.free 2
     go_wp2_with fail
     refine bodyPost_ret (v := .tuple #[.agg #[.slice A5 rs5.length c5, .bool false, .int .i64 fu], .int .i64 0]) (by simp [results, Tryz.results63, go_sem, r0, r1, r2]) rfl ?_
     rw [HRES.out]
     exact HBX.out.out HF5.out HM5.out rfl _ _ _
   ·have hfd : find (sname a) s.files = some rs[k].file := by rw [← HS.out]; exact find_of_at hk hnk hfirst
    have HFD := Lib.hid hfd; clear hfd hfirst
    have HRES : Hid (Dsk.create s (sname a) = (⟨s.files, false, fu⟩, 5)) := by
     show _ = _
     unfold Dsk.create; rw [HST.out]; simp only [look_found (s := ⟨s.files, false, fu⟩) rfl hn HFD.out]
    have HNK := Lib.hid hnk; clear hnk
    go_wp2_with fail
    refine bodyPost_ret (v := .tuple #[.agg #[.slice A rs.length c, .bool false, .int .i64 fu], .int .i64 5]) (by simp [results, Tryz.results63, go_sem, r0, r1, r2]) rfl ?_
    rw [HRES.out]
    exact HBX.out.out HFB.out HS.out rfl _ _ _
  ·have hn : named (sname a) = false := by simpa using hn
   have HRES : Hid (Dsk.create s (sname a) = (⟨s.files, false, fu⟩, 1)) := by
    show _ = _
    unfold Dsk.create; rw [HST.out]; simp only
    have : Dsk.look ⟨s.files, false, fu⟩ [sname a] = (none, 1) := by unfold Dsk.look; rw [if_neg (by simp), if_pos (by simp [hn])]
    rw [this]
    rfl
   go_wp2_with fail
   (with_reducible refine (rname_any _ ha _).mono ?_); rintro e w' ⟨rfl, rfl⟩
   go_wp2_with fail
   refine bodyPost_ret (v := .tuple #[.agg #[.slice A rs.length c, .bool false, .int .i64 fu], .int .i64 1]) (by simp [results, Tryz.results63, go_sem, r0, r1, r2]) rfl ?_
   rw [HRES.out]
   exact HBX.out.out HFB.out HS.out rfl _ _ _
 ·skip
  have b0 : wB.cell? ⟨w.heap.size, 0, none⟩ = some (.slice A rs.length c) := HBX.out.dsk.cell 0
  have b1 : wB.cell? ⟨w.heap.size, 1, none⟩ = some (.bool true) := HBX.out.dsk.cell 1
  have b2 : wB.cell? ⟨w.heap.size, 2, none⟩ = some (.int .i64 fu) := HBX.out.dsk.cell 2
  have o0 : wB.cell? ⟨w.heap.size + 1, 0, none⟩ = some (.int .i64 1) := HBX.out.op.cell 0
  have o1 : wB.cell? ⟨w.heap.size + 1, 1, none⟩ = some (.string a) := HBX.out.op.cell 1
  have o2 : wB.cell? ⟨w.heap.size + 1, 2, none⟩ = some (.string z) := HBX.out.op.cell 2
  have o3 : wB.cell? ⟨w.heap.size + 1, 3, none⟩ = some (.int .i64 num) := HBX.out.op.cell 3
  have o4 : wB.cell? ⟨w.heap.size + 1, 4, none⟩ = some (.slice C bs.length cc) := HBX.out.op.cell 4
  have r0 : wB.cell? ⟨w.heap.size + 1 + 1, 0, none⟩ = some (.slice none 0 0) := HBX.out.res.cell 0
  have r1 : wB.cell? ⟨w.heap.size + 1 + 1, 1, none⟩ = some (.bool false) := HBX.out.res.cell 1
  have r2 : wB.cell? ⟨w.heap.size + 1 + 1, 2, none⟩ = some (.int .i64 0) := HBX.out.res.cell 2
  have q0 := HBX.out.res.free 0
  have q1 := HBX.out.res.free 1
  have q2 := HBX.out.res.free 2
  have HRES : Hid (Dsk.create s (sname a) = (⟨s.files, true, fu⟩, 50)) := by
   show _ = _
   unfold Dsk.create; rw [HST.out]; simp only
   rw [look_down rfl]
   rfl
  go_wp2_with fail
  refine bodyPost_ret (v := .tuple #[.agg #[.slice A rs.length c, .bool true, .int .i64 fu], .int .i64 50]) (by simp [results, Tryz.results63, go_sem, r0, r1, r2]) rfl ?_
  rw [HRES.out]
  exact HBX.out.out HFB.out HS.out rfl _ _ _
set_option maxRecDepth 100000 in
set_option maxHeartbeats 8000000 in
theorem Do2_any {G : Nat → Prop} {w : World} (A : Option Addr) (c : Nat) (rs : List RFile) (h : Files G w A rs) (s : S) (hs : rs.map RFile.file = s.files) (hct : rs.length ≤ 256) (hfu : s.fuse ≤ 9223372036854775807) (hso : Sorted s.files)
 (a z : ByteArray) (ha : a.size ≤ maxLen) (_hz : z.size ≤ maxLen) (num : Int) (hnum : (Lit.int .i64 num).wf = true) (C : Option Addr) (cc : Nat) (bs : List UInt8) (hbs : Sl fB w C bs) :
 Calls Tryz.prog 63 #[.agg #[.slice A rs.length c, .bool s.down, .int .i64 s.fuse], .agg #[.int .i64 2, .string a, .string z, .int .i64 num, .slice C bs.length cc]] w (DoPost G (Dsk.remove s (sname a)) w) := by
 have hl := h.1.len
 have hbl := hbs.len
 have HF := Lib.hid h; clear h
 have HS := Lib.hid hs; clear hs
 have HSO := Lib.hid hso; clear hso
 have HBS := Lib.hid hbs; clear hbs
 have HNUM := Lib.hid hnum; clear hnum
 rcases hst : Dsk.step s with ⟨fs1, dn, fu⟩
 have hfs : fs1 = s.files := by have := step_files s; rw [hst] at this; exact this
 have hstp : ∀ W, Calls Tryz.prog 97 #[.agg #[.slice A rs.length c, .bool s.down, .int .i64 s.fuse]] W fun e w' => e = .returned (.agg #[.slice A rs.length c, .bool dn, .int .i64 fu]) ∧ Below W.heap.size W w' :=
  fun W => (Step_any A rs.length c s hfu W).mono (by rintro e w' ⟨he, hb⟩; rw [hst] at he; exact ⟨he, hb⟩)
 have HSTP := Lib.hid hstp; clear hstp
 subst hfs
 have HST := Lib.hid hst; clear hst hfu
 go_enter Tryz.func63, Tryz.ntmps63
 go_wp2_with fail
 obtain ⟨wa, hwa⟩ : ∃ wa, wa = ((w.alloc (.cells #[.slice A rs.length c, .bool s.down, .int .i64 s.fuse] 32)).alloc (.cells #[.int .i64 2, .string a, .string z, .int .i64 num, .slice C bs.length cc] 87)).alloc (.cells #[.slice none 0 0, .bool false, .int .i64 0] 32) := ⟨_, rfl⟩
 rw [← hwa]
 have hbxa : DoBox w A rs.length c s 2 a z num C bs.length cc wa := by
  have b2 := Blk.new_ (w.alloc (.cells #[.slice A rs.length c, .bool s.down, .int .i64 s.fuse] 32)) 87 #[.int .i64 2, .string a, .string z, .int .i64 num, .slice C bs.length cc]
  rw [World.size_alloc] at b2
  have b3 := Blk.new_ ((w.alloc (.cells #[.slice A rs.length c, .bool s.down, .int .i64 s.fuse] 32)).alloc (.cells #[.int .i64 2, .string a, .string z, .int .i64 num, .slice C bs.length cc] 87)) 32 #[.slice none 0 0, .bool false, .int .i64 0]
  rw [World.size_alloc, World.size_alloc] at b3
  rw [hwa]
  exact ⟨(((Below.refl _ _).alloc (Nat.le_refl _) _).alloc (by simp) _).alloc (by simp; omega) _, ((Blk.new_ w _ _).alloc _).alloc _, b2.alloc _, b3⟩
 have HBXA := Lib.hid hbxa; clear hbxa hwa
 (with_reducible refine (HSTP.out wa).mono ?_); rintro e w1 ⟨rfl, hb1⟩
 have hbx1 := HBXA.out.below hb1
 have d0 : w1.cell? ⟨w.heap.size, 0, none⟩ = some (.slice A rs.length c) := hbx1.dsk.cell 0
 have d1 : w1.cell? ⟨w.heap.size, 1, none⟩ = some (.bool s.down) := hbx1.dsk.cell 1
 have d2 : w1.cell? ⟨w.heap.size, 2, none⟩ = some (.int .i64 s.fuse) := hbx1.dsk.cell 2
 have g0 := hbx1.dsk.free 0
 have g1 := hbx1.dsk.free 1
 have g2 := hbx1.dsk.free 2
 have HBX1 := Lib.hid hbx1; clear hbx1 hb1 HBXA HSTP
 go_upto_region 2 with fail
 obtain ⟨wB, hwB⟩ : ∃ wB, wB = ((w1.setCell ⟨w.heap.size, 0, none⟩ (.slice A rs.length c)).setCell ⟨w.heap.size, 1, none⟩ (.bool dn)).setCell ⟨w.heap.size, 2, none⟩ (.int .i64 fu) := ⟨_, rfl⟩
 rw [← hwB]
 have hbx : DoBox w A rs.length c ⟨s.files, dn, fu⟩ 2 a z num C bs.length cc wB := by
  have e1 : w.heap.size + 1 ≠ w.heap.size := by omega
  have e2 : w.heap.size + 1 + 1 ≠ w.heap.size := by omega
  rw [hwB]
  exact ⟨((HBX1.out.bel.setCell (p := ⟨w.heap.size, 0, none⟩) (Nat.le_refl _) _).setCell (p := ⟨w.heap.size, 1, none⟩) (Nat.le_refl _) _).setCell (p := ⟨w.heap.size, 2, none⟩) (Nat.le_refl _) _,
   ((HBX1.out.dsk.set_ 0 _).set_ 1 _).set_ 2 _, ((HBX1.out.op.far (p := ⟨w.heap.size, 0, none⟩) e1 _).far (p := ⟨w.heap.size, 1, none⟩) e1 _).far (p := ⟨w.heap.size, 2, none⟩) e1 _,
   ((HBX1.out.res.far (p := ⟨w.heap.size, 0, none⟩) e2 _).far (p := ⟨w.heap.size, 1, none⟩) e2 _).far (p := ⟨w.heap.size, 2, none⟩) e2 _⟩
 clear d0 d1 d2 g0 g1 g2 hwB HBX1
 have HFB : Hid (Files (up G w) wB A rs) := (HF.out.below hbx.bel).mono (fun _ _ h => .inl h)
 have HBX := Lib.hid hbx; clear hbx
 cases dn
 ·skip
  have b0 : wB.cell? ⟨w.heap.size, 0, none⟩ = some (.slice A rs.length c) := HBX.out.dsk.cell 0
  have b1 : wB.cell? ⟨w.heap.size, 1, none⟩ = some (.bool false) := HBX.out.dsk.cell 1
  have b2 : wB.cell? ⟨w.heap.size, 2, none⟩ = some (.int .i64 fu) := HBX.out.dsk.cell 2
  have o0 : wB.cell? ⟨w.heap.size + 1, 0, none⟩ = some (.int .i64 2) := HBX.out.op.cell 0
  have o1 : wB.cell? ⟨w.heap.size + 1, 1, none⟩ = some (.string a) := HBX.out.op.cell 1
  have o2 : wB.cell? ⟨w.heap.size + 1, 2, none⟩ = some (.string z) := HBX.out.op.cell 2
  have o3 : wB.cell? ⟨w.heap.size + 1, 3, none⟩ = some (.int .i64 num) := HBX.out.op.cell 3
  have o4 : wB.cell? ⟨w.heap.size + 1, 4, none⟩ = some (.slice C bs.length cc) := HBX.out.op.cell 4
  have r0 : wB.cell? ⟨w.heap.size + 1 + 1, 0, none⟩ = some (.slice none 0 0) := HBX.out.res.cell 0
  have r1 : wB.cell? ⟨w.heap.size + 1 + 1, 1, none⟩ = some (.bool false) := HBX.out.res.cell 1
  have r2 : wB.cell? ⟨w.heap.size + 1 + 1, 2, none⟩ = some (.int .i64 0) := HBX.out.res.cell 2
  have q0 := HBX.out.res.free 0
  have q1 := HBX.out.res.free 1
  have q2 := HBX.out.res.free 2
  by_cases hn : named (sname a) = true
  ·skip
   go_wp2_with fail
   (with_reducible refine (rname_any _ ha _).mono ?_); rintro e w' ⟨rfl, rfl⟩
   go_wp2_with fail
   (with_reducible refine (Find_any A c rs HFB.out false fu a).mono ?_); rintro e w2 ⟨i, rfl, hb2, hi⟩
   have HBX2 := Lib.hid (HBX.out.below hb2)
   have HFB2 := Lib.hid (HFB.out.below hb2)
   clear b0 b1 b2 o0 o1 o2 o3 o4 r0 r1 r2 q0 q1 q2 HBX HFB hb2
   obtain ⟨HBX, HFB⟩ := And.intro HBX2 HFB2
   clear HBX2 HFB2
   have b0 : w2.cell? ⟨w.heap.size, 0, none⟩ = some (.slice A rs.length c) := HBX.out.dsk.cell 0
   have b1 : w2.cell? ⟨w.heap.size, 1, none⟩ = some (.bool false) := HBX.out.dsk.cell 1
   have b2 : w2.cell? ⟨w.heap.size, 2, none⟩ = some (.int .i64 fu) := HBX.out.dsk.cell 2
   have o0 : w2.cell? ⟨w.heap.size + 1, 0, none⟩ = some (.int .i64 2) := HBX.out.op.cell 0
   have o1 : w2.cell? ⟨w.heap.size + 1, 1, none⟩ = some (.string a) := HBX.out.op.cell 1
   have o2 : w2.cell? ⟨w.heap.size + 1, 2, none⟩ = some (.string z) := HBX.out.op.cell 2
   have o3 : w2.cell? ⟨w.heap.size + 1, 3, none⟩ = some (.int .i64 num) := HBX.out.op.cell 3
   have o4 : w2.cell? ⟨w.heap.size + 1, 4, none⟩ = some (.slice C bs.length cc) := HBX.out.op.cell 4
   have r0 : w2.cell? ⟨w.heap.size + 1 + 1, 0, none⟩ = some (.slice none 0 0) := HBX.out.res.cell 0
   have r1 : w2.cell? ⟨w.heap.size + 1 + 1, 1, none⟩ = some (.bool false) := HBX.out.res.cell 1
   have r2 : w2.cell? ⟨w.heap.size + 1 + 1, 2, none⟩ = some (.int .i64 0) := HBX.out.res.cell 2
   have q0 := HBX.out.res.free 0
   have q1 := HBX.out.res.free 1
   have q2 := HBX.out.res.free 2
   rcases hi with ⟨rfl, hnone⟩ | ⟨k, rfl, hk, hnk, hfirst⟩
   ·have hfd : find (sname a) s.files = none := by rw [← HS.out]; exact find_of_none hnone
    have HFD := Lib.hid hfd; clear hfd hnone
    have HRES : Hid (Dsk.remove s (sname a) = (⟨s.files, false, fu⟩, 4)) := by
     show _ = _
     unfold Dsk.remove; rw [HST.out]
     simp only [look_none (s := ⟨s.files, false, fu⟩) rfl hn HFD.out]
    go_wp2_with fail
    refine bodyPost_ret (v := .tuple #[.agg #[.slice A rs.length c, .bool false, .int .i64 fu], .int .i64 4]) (by simp [results, Tryz.results63, go_sem, r0, r1, r2]) rfl ?_
    rw [HRES.out]
    exact HBX.out.out HFB.out HS.out rfl _ _ _
   ·have hfd : find (sname a) s.files = some rs[k].file := by rw [← HS.out]; exact find_of_at hk hnk hfirst
    have HFD := Lib.hid hfd; clear hfd hfirst
    obtain ⟨r, hr⟩ : ∃ r, r = rs[k] := ⟨_, rfl⟩
    obtain ⟨b, o, rfl, _, hbs, hc⟩ := HFB.out.1.at hk
    have c0 : w2.cell? ⟨b, o + k * 3, none⟩ = some (.string ⟨r.file.name.toArray⟩) := by rw [hr]; exact hc 0 (by decide)
    have c1 : w2.cell? ⟨b, o + k * 3 + 1, none⟩ = some (.slice r.A r.file.now.length r.c) := by rw [hr]; exact hc 1 (by decide)
    have c2 : w2.cell? ⟨b, o + k * 3 + 2, none⟩ = some (.slice r.B r.file.safe.length r.d) := by rw [hr]; exact hc 2 (by decide)
    have HOKr : Hid (RFok (up G w) w2 r) := by rw [hr]; exact HFB.out.2 _ (List.getElem_mem hk)
    rw [← hr] at HFD hnk
    have HNK := Lib.hid hnk
    clear hc hr hnk
    go_upto_region 16 with fail
    obtain ⟨w3, hw3⟩ : ∃ w3, w3 = w2.alloc (.cells #[.string ⟨r.file.name.toArray⟩, .slice r.A r.file.now.length r.c, .slice r.B r.file.safe.length r.d] 59) := ⟨_, rfl⟩
    rw [← hw3]
    have hab3 : Below w2.heap.size w2 w3 := by rw [hw3]; exact (Below.refl _ _).alloc (Nat.le_refl _) _
    have HFX : Hid (Blk w3 w2.heap.size 59 #[.string ⟨r.file.name.toArray⟩, .slice r.A r.file.now.length r.c, .slice r.B r.file.safe.length r.d]) := by rw [hw3]; exact Blk.new_ w2 _ _
    have HBX3 := Lib.hid (HBX.out.below hab3)
    have HFB3 := Lib.hid (HFB.out.below hab3)
    have HOK3 := Lib.hid (HOKr.out.below hab3)
    have hw2l : w.heap.size + 1 + 1 < w2.heap.size := HBX.out.res.lt
    clear b0 b1 b2 o0 o1 o2 o3 o4 r0 r1 r2 q0 q1 q2 c0 c1 c2 HBX HFB HOKr hw3 hab3
    obtain ⟨HBX, HFB, HOKr⟩ := And.intro HBX3 (And.intro HFB3 HOK3)
    clear HBX3 HFB3 HOK3
    have b0 : w3.cell? ⟨w.heap.size, 0, none⟩ = some (.slice (some ⟨b, o, none⟩) rs.length c) := HBX.out.dsk.cell 0
    have b1 : w3.cell? ⟨w.heap.size, 1, none⟩ = some (.bool false) := HBX.out.dsk.cell 1
    have b2 : w3.cell? ⟨w.heap.size, 2, none⟩ = some (.int .i64 fu) := HBX.out.dsk.cell 2
    have o0 : w3.cell? ⟨w.heap.size + 1, 0, none⟩ = some (.int .i64 2) := HBX.out.op.cell 0
    have o1 : w3.cell? ⟨w.heap.size + 1, 1, none⟩ = some (.string a) := HBX.out.op.cell 1
    have o2 : w3.cell? ⟨w.heap.size + 1, 2, none⟩ = some (.string z) := HBX.out.op.cell 2
    have o3 : w3.cell? ⟨w.heap.size + 1, 3, none⟩ = some (.int .i64 num) := HBX.out.op.cell 3
    have o4 : w3.cell? ⟨w.heap.size + 1, 4, none⟩ = some (.slice C bs.length cc) := HBX.out.op.cell 4
    have r0 : w3.cell? ⟨w.heap.size + 1 + 1, 0, none⟩ = some (.slice none 0 0) := HBX.out.res.cell 0
    have r1 : w3.cell? ⟨w.heap.size + 1 + 1, 1, none⟩ = some (.bool false) := HBX.out.res.cell 1
    have r2 : w3.cell? ⟨w.heap.size + 1 + 1, 2, none⟩ = some (.int .i64 0) := HBX.out.res.cell 2
    have q0 := HBX.out.res.free 0
    have q1 := HBX.out.res.free 1
    have q2 := HBX.out.res.free 2
    have f0 : w3.cell? ⟨w2.heap.size, 0, none⟩ = some (.string ⟨r.file.name.toArray⟩) := HFX.out.cell 0
    have f1 : w3.cell? ⟨w2.heap.size, 1, none⟩ = some (.slice r.A r.file.now.length r.c) := HFX.out.cell 1
    have f2 : w3.cell? ⟨w2.heap.size, 2, none⟩ = some (.slice r.B r.file.safe.length r.d) := HFX.out.cell 2
    have p0 := HFX.out.free 0
    have p1 := HFX.out.free 1
    have p2 := HFX.out.free 2
    have HRES : Hid (Dsk.remove s (sname a) = (⟨del (sname a) s.files, false, fu⟩, 0)) := by
     show _ = _
     unfold Dsk.remove; rw [HST.out]; simp only [look_found (s := ⟨s.files, false, fu⟩) rfl hn HFD.out]
    have hwo : Calls Tryz.prog 100 #[.agg #[.slice (some ⟨b, o, none⟩) rs.length c, .bool false, .int .i64 fu], .string a] w3 (RefPost (up G w) ⟨del (sname a) s.files, false, fu⟩ w3) := Without_any _ c rs HFB.out (by omega) ⟨s.files, false, fu⟩ HS.out a
    have HWO := Lib.hid hwo; clear hwo
    go_wp2_with fail
    (with_reducible refine HWO.out.mono ?_)
    clear f0 f1 f2 p0 p1 p2
    rintro e w5 ⟨v5, rfl, ⟨A5, c5, rs5, rfl, hf5, hm5⟩, hb5⟩
    have HBX5 := Lib.hid (HBX.out.below hb5)
    have HF5 : Hid (Files (up G w) w5 A5 rs5) := hf5.mono (fun _ _ h => h.elim id (fun h2 => .inr (Nat.le_trans HBX.out.bel.size h2)))
    have HM5 := Lib.hid hm5
    clear b0 b1 b2 o0 o1 o2 o3 o4 r0 r1 r2 q0 q1 q2 HBX hb5 hf5 hm5
    obtain ⟨HBX, _⟩ := And.intro HBX5 trivial
    clear HBX5
    have b0 : w5.cell? ⟨w.heap.size, 0, none⟩ = some (.slice (some ⟨b, o, none⟩) rs.length c) := HBX.out.dsk.cell 0
    have b1 : w5.cell? ⟨w.heap.size, 1, none⟩ = some (.bool false) := HBX.out.dsk.cell 1
    have b2 : w5.cell? ⟨w.heap.size, 2, none⟩ = some (.int .i64 fu) := HBX.out.dsk.cell 2
    have o0 : w5.cell? ⟨w.heap.size + 1, 0, none⟩ = some (.int .i64 2) := HBX.out.op.cell 0
    have o1 : w5.cell? ⟨w.heap.size + 1, 1, none⟩ = some (.string a) := HBX.out.op.cell 1
    have o2 : w5.cell? ⟨w.heap.size + 1, 2, none⟩ = some (.string z) := HBX.out.op.cell 2
    have o3 : w5.cell? ⟨w.heap.size + 1, 3, none⟩ = some (.int .i64 num) := HBX.out.op.cell 3
    have o4 : w5.cell? ⟨w.heap.size + 1, 4, none⟩ = some (.slice C bs.length cc) := HBX.out.op.cell 4
    have r0 : w5.cell? ⟨w.heap.size + 1 + 1, 0, none⟩ = some (.slice none 0 0) := HBX.out.res.cell 0
    have r1 : w5.cell? ⟨w.heap.size + 1 + 1, 1, none⟩ = some (.bool false) := HBX.out.res.cell 1
    have r2 : w5.cell? ⟨w.heap.size + 1 + 1, 2, none⟩ = some (.int .i64 0) := HBX.out.res.cell 2
    have q0 := HBX.out.res.free 0
    have q1 := HBX.out.res.free 1
    have q2 := HBX.out.res.free 2
    go_wp2_with fail
    refine bodyPost_ret (v := .tuple #[.agg #[.slice A5 rs5.length c5, .bool false, .int .i64 fu], .int .i64 0]) (by simp [results, Tryz.results63, go_sem, r0, r1, r2]) rfl ?_
    rw [HRES.out]
    exact HBX.out.out HF5.out HM5.out rfl _ _ _
  ·have hn : named (sname a) = false := by simpa using hn
   have HRES : Hid (Dsk.remove s (sname a) = (⟨s.files, false, fu⟩, 1)) := by
    show _ = _
    unfold Dsk.remove; rw [HST.out]; simp only
    have : Dsk.look ⟨s.files, false, fu⟩ [sname a] = (none, 1) := by unfold Dsk.look; rw [if_neg (by simp), if_pos (by simp [hn])]
    rw [this]
   go_wp2_with fail
   (with_reducible refine (rname_any _ ha _).mono ?_); rintro e w' ⟨rfl, rfl⟩
   go_wp2_with fail
   refine bodyPost_ret (v := .tuple #[.agg #[.slice A rs.length c, .bool false, .int .i64 fu], .int .i64 1]) (by simp [results, Tryz.results63, go_sem, r0, r1, r2]) rfl ?_
   rw [HRES.out]
   exact HBX.out.out HFB.out HS.out rfl _ _ _
 ·skip
  have b0 : wB.cell? ⟨w.heap.size, 0, none⟩ = some (.slice A rs.length c) := HBX.out.dsk.cell 0
  have b1 : wB.cell? ⟨w.heap.size, 1, none⟩ = some (.bool true) := HBX.out.dsk.cell 1
  have b2 : wB.cell? ⟨w.heap.size, 2, none⟩ = some (.int .i64 fu) := HBX.out.dsk.cell 2
  have o0 : wB.cell? ⟨w.heap.size + 1, 0, none⟩ = some (.int .i64 2) := HBX.out.op.cell 0
  have o1 : wB.cell? ⟨w.heap.size + 1, 1, none⟩ = some (.string a) := HBX.out.op.cell 1
  have o2 : wB.cell? ⟨w.heap.size + 1, 2, none⟩ = some (.string z) := HBX.out.op.cell 2
  have o3 : wB.cell? ⟨w.heap.size + 1, 3, none⟩ = some (.int .i64 num) := HBX.out.op.cell 3
  have o4 : wB.cell? ⟨w.heap.size + 1, 4, none⟩ = some (.slice C bs.length cc) := HBX.out.op.cell 4
  have r0 : wB.cell? ⟨w.heap.size + 1 + 1, 0, none⟩ = some (.slice none 0 0) := HBX.out.res.cell 0
  have r1 : wB.cell? ⟨w.heap.size + 1 + 1, 1, none⟩ = some (.bool false) := HBX.out.res.cell 1
  have r2 : wB.cell? ⟨w.heap.size + 1 + 1, 2, none⟩ = some (.int .i64 0) := HBX.out.res.cell 2
  have q0 := HBX.out.res.free 0
  have q1 := HBX.out.res.free 1
  have q2 := HBX.out.res.free 2
  have HRES : Hid (Dsk.remove s (sname a) = (⟨s.files, true, fu⟩, 50)) := by
   show _ = _
   unfold Dsk.remove; rw [HST.out]; simp only
   rw [look_down rfl]
  go_wp2_with fail
  refine bodyPost_ret (v := .tuple #[.agg #[.slice A rs.length c, .bool true, .int .i64 fu], .int .i64 50]) (by simp [results, Tryz.results63, go_sem, r0, r1, r2]) rfl ?_
  rw [HRES.out]
  exact HBX.out.out HFB.out HS.out rfl _ _ _
set_option maxRecDepth 100000 in
set_option maxHeartbeats 8000000 in
theorem Do3_any {G : Nat → Prop} {w : World} (A : Option Addr) (c : Nat) (rs : List RFile) (h : Files G w A rs) (s : S) (hs : rs.map RFile.file = s.files) (hct : rs.length ≤ 256) (hfu : s.fuse ≤ 9223372036854775807) (hso : Sorted s.files)
 (a z : ByteArray) (ha : a.size ≤ maxLen) (hz : z.size ≤ maxLen) (num : Int) (hnum : (Lit.int .i64 num).wf = true) (C : Option Addr) (cc : Nat) (bs : List UInt8) (hbs : Sl fB w C bs) :
 Calls Tryz.prog 63 #[.agg #[.slice A rs.length c, .bool s.down, .int .i64 s.fuse], .agg #[.int .i64 3, .string a, .string z, .int .i64 num, .slice C bs.length cc]] w (DoPost G (Dsk.rename s (sname a) (sname z)) w) := by
 have hl := h.1.len
 have hbl := hbs.len
 have HF := Lib.hid h; clear h
 have HS := Lib.hid hs; clear hs
 have HSO := Lib.hid hso; clear hso
 have HBS := Lib.hid hbs; clear hbs
 have HNUM := Lib.hid hnum; clear hnum
 rcases hst : Dsk.step s with ⟨fs1, dn, fu⟩
 have hfs : fs1 = s.files := by have := step_files s; rw [hst] at this; exact this
 have hstp : ∀ W, Calls Tryz.prog 97 #[.agg #[.slice A rs.length c, .bool s.down, .int .i64 s.fuse]] W fun e w' => e = .returned (.agg #[.slice A rs.length c, .bool dn, .int .i64 fu]) ∧ Below W.heap.size W w' :=
  fun W => (Step_any A rs.length c s hfu W).mono (by rintro e w' ⟨he, hb⟩; rw [hst] at he; exact ⟨he, hb⟩)
 have HSTP := Lib.hid hstp; clear hstp
 subst hfs
 have HST := Lib.hid hst; clear hst hfu
 go_enter Tryz.func63, Tryz.ntmps63
 go_wp2_with fail
 obtain ⟨wa, hwa⟩ : ∃ wa, wa = ((w.alloc (.cells #[.slice A rs.length c, .bool s.down, .int .i64 s.fuse] 32)).alloc (.cells #[.int .i64 3, .string a, .string z, .int .i64 num, .slice C bs.length cc] 87)).alloc (.cells #[.slice none 0 0, .bool false, .int .i64 0] 32) := ⟨_, rfl⟩
 rw [← hwa]
 have hbxa : DoBox w A rs.length c s 3 a z num C bs.length cc wa := by
  have b2 := Blk.new_ (w.alloc (.cells #[.slice A rs.length c, .bool s.down, .int .i64 s.fuse] 32)) 87 #[.int .i64 3, .string a, .string z, .int .i64 num, .slice C bs.length cc]
  rw [World.size_alloc] at b2
  have b3 := Blk.new_ ((w.alloc (.cells #[.slice A rs.length c, .bool s.down, .int .i64 s.fuse] 32)).alloc (.cells #[.int .i64 3, .string a, .string z, .int .i64 num, .slice C bs.length cc] 87)) 32 #[.slice none 0 0, .bool false, .int .i64 0]
  rw [World.size_alloc, World.size_alloc] at b3
  rw [hwa]
  exact ⟨(((Below.refl _ _).alloc (Nat.le_refl _) _).alloc (by simp) _).alloc (by simp; omega) _, ((Blk.new_ w _ _).alloc _).alloc _, b2.alloc _, b3⟩
 have HBXA := Lib.hid hbxa; clear hbxa hwa
 (with_reducible refine (HSTP.out wa).mono ?_); rintro e w1 ⟨rfl, hb1⟩
 have hbx1 := HBXA.out.below hb1
 have d0 : w1.cell? ⟨w.heap.size, 0, none⟩ = some (.slice A rs.length c) := hbx1.dsk.cell 0
 have d1 : w1.cell? ⟨w.heap.size, 1, none⟩ = some (.bool s.down) := hbx1.dsk.cell 1
 have d2 : w1.cell? ⟨w.heap.size, 2, none⟩ = some (.int .i64 s.fuse) := hbx1.dsk.cell 2
 have g0 := hbx1.dsk.free 0
 have g1 := hbx1.dsk.free 1
 have g2 := hbx1.dsk.free 2
 have HBX1 := Lib.hid hbx1; clear hbx1 hb1 HBXA HSTP
 go_upto_region 2 with fail
 obtain ⟨wB, hwB⟩ : ∃ wB, wB = ((w1.setCell ⟨w.heap.size, 0, none⟩ (.slice A rs.length c)).setCell ⟨w.heap.size, 1, none⟩ (.bool dn)).setCell ⟨w.heap.size, 2, none⟩ (.int .i64 fu) := ⟨_, rfl⟩
 rw [← hwB]
 have hbx : DoBox w A rs.length c ⟨s.files, dn, fu⟩ 3 a z num C bs.length cc wB := by
  have e1 : w.heap.size + 1 ≠ w.heap.size := by omega
  have e2 : w.heap.size + 1 + 1 ≠ w.heap.size := by omega
  rw [hwB]
  exact ⟨((HBX1.out.bel.setCell (p := ⟨w.heap.size, 0, none⟩) (Nat.le_refl _) _).setCell (p := ⟨w.heap.size, 1, none⟩) (Nat.le_refl _) _).setCell (p := ⟨w.heap.size, 2, none⟩) (Nat.le_refl _) _,
   ((HBX1.out.dsk.set_ 0 _).set_ 1 _).set_ 2 _, ((HBX1.out.op.far (p := ⟨w.heap.size, 0, none⟩) e1 _).far (p := ⟨w.heap.size, 1, none⟩) e1 _).far (p := ⟨w.heap.size, 2, none⟩) e1 _,
   ((HBX1.out.res.far (p := ⟨w.heap.size, 0, none⟩) e2 _).far (p := ⟨w.heap.size, 1, none⟩) e2 _).far (p := ⟨w.heap.size, 2, none⟩) e2 _⟩
 clear d0 d1 d2 g0 g1 g2 hwB HBX1
 have HFB : Hid (Files (up G w) wB A rs) := (HF.out.below hbx.bel).mono (fun _ _ h => .inl h)
 have HBX := Lib.hid hbx; clear hbx
 cases dn
 ·skip
  have b0 : wB.cell? ⟨w.heap.size, 0, none⟩ = some (.slice A rs.length c) := HBX.out.dsk.cell 0
  have b1 : wB.cell? ⟨w.heap.size, 1, none⟩ = some (.bool false) := HBX.out.dsk.cell 1
  have b2 : wB.cell? ⟨w.heap.size, 2, none⟩ = some (.int .i64 fu) := HBX.out.dsk.cell 2
  have o0 : wB.cell? ⟨w.heap.size + 1, 0, none⟩ = some (.int .i64 3) := HBX.out.op.cell 0
  have o1 : wB.cell? ⟨w.heap.size + 1, 1, none⟩ = some (.string a) := HBX.out.op.cell 1
  have o2 : wB.cell? ⟨w.heap.size + 1, 2, none⟩ = some (.string z) := HBX.out.op.cell 2
  have o3 : wB.cell? ⟨w.heap.size + 1, 3, none⟩ = some (.int .i64 num) := HBX.out.op.cell 3
  have o4 : wB.cell? ⟨w.heap.size + 1, 4, none⟩ = some (.slice C bs.length cc) := HBX.out.op.cell 4
  have r0 : wB.cell? ⟨w.heap.size + 1 + 1, 0, none⟩ = some (.slice none 0 0) := HBX.out.res.cell 0
  have r1 : wB.cell? ⟨w.heap.size + 1 + 1, 1, none⟩ = some (.bool false) := HBX.out.res.cell 1
  have r2 : wB.cell? ⟨w.heap.size + 1 + 1, 2, none⟩ = some (.int .i64 0) := HBX.out.res.cell 2
  have q0 := HBX.out.res.free 0
  have q1 := HBX.out.res.free 1
  have q2 := HBX.out.res.free 2
  by_cases hn : named (sname a) = true
  ·skip
   by_cases hn2 : named (sname z) = true
   ·skip
    go_wp2_with fail
    (with_reducible refine (rname_any _ ha _).mono ?_); rintro e w' ⟨rfl, rfl⟩
    go_wp2_with fail
    (with_reducible refine (rname_any _ hz _).mono ?_); rintro e w' ⟨rfl, rfl⟩
    go_wp2_with fail
    (with_reducible refine (Find_any A c rs HFB.out false fu a).mono ?_); rintro e w2 ⟨i, rfl, hb2, hi⟩
    have HBX2 := Lib.hid (HBX.out.below hb2)
    have HFB2 := Lib.hid (HFB.out.below hb2)
    clear b0 b1 b2 o0 o1 o2 o3 o4 r0 r1 r2 q0 q1 q2 HBX HFB hb2
    obtain ⟨HBX, HFB⟩ := And.intro HBX2 HFB2
    clear HBX2 HFB2
    have b0 : w2.cell? ⟨w.heap.size, 0, none⟩ = some (.slice A rs.length c) := HBX.out.dsk.cell 0
    have b1 : w2.cell? ⟨w.heap.size, 1, none⟩ = some (.bool false) := HBX.out.dsk.cell 1
    have b2 : w2.cell? ⟨w.heap.size, 2, none⟩ = some (.int .i64 fu) := HBX.out.dsk.cell 2
    have o0 : w2.cell? ⟨w.heap.size + 1, 0, none⟩ = some (.int .i64 3) := HBX.out.op.cell 0
    have o1 : w2.cell? ⟨w.heap.size + 1, 1, none⟩ = some (.string a) := HBX.out.op.cell 1
    have o2 : w2.cell? ⟨w.heap.size + 1, 2, none⟩ = some (.string z) := HBX.out.op.cell 2
    have o3 : w2.cell? ⟨w.heap.size + 1, 3, none⟩ = some (.int .i64 num) := HBX.out.op.cell 3
    have o4 : w2.cell? ⟨w.heap.size + 1, 4, none⟩ = some (.slice C bs.length cc) := HBX.out.op.cell 4
    have r0 : w2.cell? ⟨w.heap.size + 1 + 1, 0, none⟩ = some (.slice none 0 0) := HBX.out.res.cell 0
    have r1 : w2.cell? ⟨w.heap.size + 1 + 1, 1, none⟩ = some (.bool false) := HBX.out.res.cell 1
    have r2 : w2.cell? ⟨w.heap.size + 1 + 1, 2, none⟩ = some (.int .i64 0) := HBX.out.res.cell 2
    have q0 := HBX.out.res.free 0
    have q1 := HBX.out.res.free 1
    have q2 := HBX.out.res.free 2
    rcases hi with ⟨rfl, hnone⟩ | ⟨k, rfl, hk, hnk, hfirst⟩
    ·have hfd : find (sname a) s.files = none := by rw [← HS.out]; exact find_of_none hnone
     have HFD := Lib.hid hfd; clear hfd hnone
     have HRES : Hid (Dsk.rename s (sname a) (sname z) = (⟨s.files, false, fu⟩, 4)) := by
      show _ = _
      unfold Dsk.rename; rw [HST.out]
      have : Dsk.look ⟨s.files, false, fu⟩ [sname a, sname z] = (none, 4) := by unfold Dsk.look; rw [if_neg (by simp), if_neg (by simp [hn, hn2])]; show (match find (sname a) s.files with | some f => (some f, 0) | none => (none, 4)) = _; rw [HFD.out]
      simp only [this]
     go_wp2_with fail
     refine bodyPost_ret (v := .tuple #[.agg #[.slice A rs.length c, .bool false, .int .i64 fu], .int .i64 4]) (by simp [results, Tryz.results63, go_sem, r0, r1, r2]) rfl ?_
     rw [HRES.out]
     exact HBX.out.out HFB.out HS.out rfl _ _ _
    ·have hfd : find (sname a) s.files = some rs[k].file := by rw [← HS.out]; exact find_of_at hk hnk hfirst
     have HFD := Lib.hid hfd; clear hfd hfirst
     have HFBn : Hid (Files (fun g => up G w g ∧ g ≠ w2.heap.size) w2 A rs) := HFB.out.mono (fun g hg h => ⟨h, Nat.ne_of_lt hg⟩)
     clear HFB; obtain ⟨HFB, _⟩ := And.intro HFBn trivial; clear HFBn
     obtain ⟨r, hr⟩ : ∃ r, r = rs[k] := ⟨_, rfl⟩
     obtain ⟨b, o, rfl, _, hbs, hc⟩ := HFB.out.1.at hk
     have c0 : w2.cell? ⟨b, o + k * 3, none⟩ = some (.string ⟨r.file.name.toArray⟩) := by rw [hr]; exact hc 0 (by decide)
     have c1 : w2.cell? ⟨b, o + k * 3 + 1, none⟩ = some (.slice r.A r.file.now.length r.c) := by rw [hr]; exact hc 1 (by decide)
     have c2 : w2.cell? ⟨b, o + k * 3 + 2, none⟩ = some (.slice r.B r.file.safe.length r.d) := by rw [hr]; exact hc 2 (by decide)
     have HOKr : Hid (RFok (fun g => up G w g ∧ g ≠ w2.heap.size) w2 r) := by rw [hr]; exact HFB.out.2 _ (List.getElem_mem hk)
     rw [← hr] at HFD hnk
     have HNK := Lib.hid hnk
     clear hc hr hnk
     go_upto_region 16 with fail
     obtain ⟨w3, hw3⟩ : ∃ w3, w3 = w2.alloc (.cells #[.string ⟨r.file.name.toArray⟩, .slice r.A r.file.now.length r.c, .slice r.B r.file.safe.length r.d] 59) := ⟨_, rfl⟩
     rw [← hw3]
     have hab3 : Below w2.heap.size w2 w3 := by rw [hw3]; exact (Below.refl _ _).alloc (Nat.le_refl _) _
     have HFX : Hid (Blk w3 w2.heap.size 59 #[.string ⟨r.file.name.toArray⟩, .slice r.A r.file.now.length r.c, .slice r.B r.file.safe.length r.d]) := by rw [hw3]; exact Blk.new_ w2 _ _
     have HBX3 := Lib.hid (HBX.out.below hab3)
     have HFB3 := Lib.hid (HFB.out.below hab3)
     have HOK3 := Lib.hid (HOKr.out.below hab3)
     have hw2l : w.heap.size + 1 + 1 < w2.heap.size := HBX.out.res.lt
     clear b0 b1 b2 o0 o1 o2 o3 o4 r0 r1 r2 q0 q1 q2 c0 c1 c2 HBX HFB HOKr hw3 hab3
     obtain ⟨HBX, HFB, HOKr⟩ := And.intro HBX3 (And.intro HFB3 HOK3)
     clear HBX3 HFB3 HOK3
     have b0 : w3.cell? ⟨w.heap.size, 0, none⟩ = some (.slice (some ⟨b, o, none⟩) rs.length c) := HBX.out.dsk.cell 0
     have b1 : w3.cell? ⟨w.heap.size, 1, none⟩ = some (.bool false) := HBX.out.dsk.cell 1
     have b2 : w3.cell? ⟨w.heap.size, 2, none⟩ = some (.int .i64 fu) := HBX.out.dsk.cell 2
     have o0 : w3.cell? ⟨w.heap.size + 1, 0, none⟩ = some (.int .i64 3) := HBX.out.op.cell 0
     have o1 : w3.cell? ⟨w.heap.size + 1, 1, none⟩ = some (.string a) := HBX.out.op.cell 1
     have o2 : w3.cell? ⟨w.heap.size + 1, 2, none⟩ = some (.string z) := HBX.out.op.cell 2
     have o3 : w3.cell? ⟨w.heap.size + 1, 3, none⟩ = some (.int .i64 num) := HBX.out.op.cell 3
     have o4 : w3.cell? ⟨w.heap.size + 1, 4, none⟩ = some (.slice C bs.length cc) := HBX.out.op.cell 4
     have r0 : w3.cell? ⟨w.heap.size + 1 + 1, 0, none⟩ = some (.slice none 0 0) := HBX.out.res.cell 0
     have r1 : w3.cell? ⟨w.heap.size + 1 + 1, 1, none⟩ = some (.bool false) := HBX.out.res.cell 1
     have r2 : w3.cell? ⟨w.heap.size + 1 + 1, 2, none⟩ = some (.int .i64 0) := HBX.out.res.cell 2
     have q0 := HBX.out.res.free 0
     have q1 := HBX.out.res.free 1
     have q2 := HBX.out.res.free 2
     have f0 : w3.cell? ⟨w2.heap.size, 0, none⟩ = some (.string ⟨r.file.name.toArray⟩) := HFX.out.cell 0
     have f1 : w3.cell? ⟨w2.heap.size, 1, none⟩ = some (.slice r.A r.file.now.length r.c) := HFX.out.cell 1
     have f2 : w3.cell? ⟨w2.heap.size, 2, none⟩ = some (.slice r.B r.file.safe.length r.d) := HFX.out.cell 2
     have p0 := HFX.out.free 0
     have p1 := HFX.out.free 1
     have p2 := HFX.out.free 2
     have HRES : Hid (Dsk.rename s (sname a) (sname z) = (⟨put { r.file with name := sname z } (del (sname a) s.files), false, fu⟩, 0)) := by
      show _ = _
      unfold Dsk.rename; rw [HST.out]
      have : Dsk.look ⟨s.files, false, fu⟩ [sname a, sname z] = (some r.file, 0) := by unfold Dsk.look; rw [if_neg (by simp), if_neg (by simp [hn, hn2])]; show (match find (sname a) s.files with | some f => (some f, 0) | none => (none, 4)) = _; rw [HFD.out]
      simp only [this]
     have hwo : Calls Tryz.prog 100 #[.agg #[.slice (some ⟨b, o, none⟩) rs.length c, .bool false, .int .i64 fu], .string a] w3 (RefPost (fun g => up G w g ∧ g ≠ w2.heap.size) ⟨del (sname a) s.files, false, fu⟩ w3) := Without_any _ c rs HFB.out (by omega) ⟨s.files, false, fu⟩ HS.out a
     have HWO := Lib.hid hwo; clear hwo
     go_wp2_with fail
     (with_reducible refine HWO.out.mono ?_)
     rintro e w6 ⟨v6, rfl, ⟨A6, c6, rs6, rfl, hf6, hm6⟩, hb6⟩
     have hl6 := hf6.1.len
     have HM6 := Lib.hid hm6
     have HF6 := Lib.hid hf6
     clear hm6 hf6
     have hct6 : rs6.length ≤ 256 := by
      have h1 : rs6.length = (rs6.map RFile.file).length := by simp
      have h2 : (del (sname a) s.files).length ≤ s.files.length := List.length_filter_le _ _
      have h3 : s.files.length = rs.length := by rw [← HS.out, List.length_map]
      rw [h1, HM6.out]; exact Nat.le_trans h2 (by omega)
     have HSZ3 : Hid (w2.heap.size < w3.heap.size) := HFX.out.lt
     have HBXs := Lib.hid (HBX.out.below hb6)
     have HFBs := Lib.hid (HFB.out.below hb6)
     have HOKs := Lib.hid (HOKr.out.below hb6)
     have HFXs := Lib.hid (HFX.out.below hb6 HFX.out.lt)
     have HW3 : Hid (w.heap.size ≤ w3.heap.size) := HBX.out.bel.size
     clear b0 b1 b2 o0 o1 o2 o3 o4 r0 r1 r2 q0 q1 q2 f0 f1 f2 p0 p1 p2 HBX HFB HOKr HFX hb6
     obtain ⟨HBX, HFB, HOKr, HFX⟩ := And.intro HBXs (And.intro HFBs (And.intro HOKs HFXs))
     clear HBXs HFBs HOKs HFXs
     have b0 : w6.cell? ⟨w.heap.size, 0, none⟩ = some (.slice (some ⟨b, o, none⟩) rs.length c) := HBX.out.dsk.cell 0
     have b1 : w6.cell? ⟨w.heap.size, 1, none⟩ = some (.bool false) := HBX.out.dsk.cell 1
     have b2 : w6.cell? ⟨w.heap.size, 2, none⟩ = some (.int .i64 fu) := HBX.out.dsk.cell 2
     have o0 : w6.cell? ⟨w.heap.size + 1, 0, none⟩ = some (.int .i64 3) := HBX.out.op.cell 0
     have o1 : w6.cell? ⟨w.heap.size + 1, 1, none⟩ = some (.string a) := HBX.out.op.cell 1
     have o2 : w6.cell? ⟨w.heap.size + 1, 2, none⟩ = some (.string z) := HBX.out.op.cell 2
     have o3 : w6.cell? ⟨w.heap.size + 1, 3, none⟩ = some (.int .i64 num) := HBX.out.op.cell 3
     have o4 : w6.cell? ⟨w.heap.size + 1, 4, none⟩ = some (.slice C bs.length cc) := HBX.out.op.cell 4
     have r0 : w6.cell? ⟨w.heap.size + 1 + 1, 0, none⟩ = some (.slice none 0 0) := HBX.out.res.cell 0
     have r1 : w6.cell? ⟨w.heap.size + 1 + 1, 1, none⟩ = some (.bool false) := HBX.out.res.cell 1
     have r2 : w6.cell? ⟨w.heap.size + 1 + 1, 2, none⟩ = some (.int .i64 0) := HBX.out.res.cell 2
     have q0 := HBX.out.res.free 0
     have q1 := HBX.out.res.free 1
     have q2 := HBX.out.res.free 2
     have f0 : w6.cell? ⟨w2.heap.size, 0, none⟩ = some (.string ⟨r.file.name.toArray⟩) := HFX.out.cell 0
     have f1 : w6.cell? ⟨w2.heap.size, 1, none⟩ = some (.slice r.A r.file.now.length r.c) := HFX.out.cell 1
     have f2 : w6.cell? ⟨w2.heap.size, 2, none⟩ = some (.slice r.B r.file.safe.length r.d) := HFX.out.cell 2
     have p0 := HFX.out.free 0
     have p1 := HFX.out.free 1
     have p2 := HFX.out.free 2
     have g0 := HBX.out.dsk.free 0
     have g1 := HBX.out.dsk.free 1
     have g2 := HBX.out.dsk.free 2
     go_upto_region 35 with fail
     obtain ⟨w4, hw4⟩ : ∃ x, x = (((w6.setCell ⟨w.heap.size, 0, none⟩ (.slice A6 rs6.length c6)).setCell ⟨w.heap.size, 1, none⟩ (.bool false)).setCell ⟨w.heap.size, 2, none⟩ (.int .i64 fu)).setCell ⟨w2.heap.size, 0, none⟩ (.string z) := ⟨_, rfl⟩
     rw [← hw4]
     have e1 : w.heap.size + 1 ≠ w.heap.size := by omega
     have e2 : w.heap.size + 1 + 1 ≠ w.heap.size := by omega
     have e3 : w2.heap.size ≠ w.heap.size := by omega
     have HBX4 : Hid (DoBox w A6 rs6.length c6 ⟨del (sname a) s.files, false, fu⟩ 3 a z num C bs.length cc w4) := by
      rw [hw4]
      exact DoBox.setFar ⟨((HBX.out.bel.setCell (p := ⟨w.heap.size, 0, none⟩) (Nat.le_refl _) _).setCell (p := ⟨w.heap.size, 1, none⟩) (Nat.le_refl _) _).setCell (p := ⟨w.heap.size, 2, none⟩) (Nat.le_refl _) _,
       ((HBX.out.dsk.set_ 0 _).set_ 1 _).set_ 2 _, ((HBX.out.op.far (p := ⟨w.heap.size, 0, none⟩) e1 _).far (p := ⟨w.heap.size, 1, none⟩) e1 _).far (p := ⟨w.heap.size, 2, none⟩) e1 _,
       ((HBX.out.res.far (p := ⟨w.heap.size, 0, none⟩) e2 _).far (p := ⟨w.heap.size, 1, none⟩) e2 _).far (p := ⟨w.heap.size, 2, none⟩) e2 _⟩ (p := ⟨w2.heap.size, 0, none⟩) hw2l _
     have HFX4 : Hid (Blk w4 w2.heap.size 59 #[.string z, .slice r.A r.file.now.length r.c, .slice r.B r.file.safe.length r.d]) := by
      rw [hw4]; exact (((HFX.out.far (p := ⟨w.heap.size, 0, none⟩) e3 _).far (p := ⟨w.heap.size, 1, none⟩) e3 _).far (p := ⟨w.heap.size, 2, none⟩) e3 _).set_ 0 _
     have hk1 := HBX.out.dsk
     have hk2 := hk1.set_ 0 (.slice A6 rs6.length c6)
     have hk3 := hk2.set_ 1 (.bool false)
     have hfx3 := ((HFX.out.far (p := ⟨w.heap.size, 0, none⟩) e3 (.slice A6 rs6.length c6)).far (p := ⟨w.heap.size, 1, none⟩) e3 (.bool false)).far (p := ⟨w.heap.size, 2, none⟩) e3 (.int .i64 fu)
     have HOK4 : Hid (RFok (up G w) w4 r) := by rw [hw4]; exact ((((HOKr.out.far hk1 (by decide) 0 _).far hk2 (by decide) 1 _).far hk3 (by decide) 2 _).far hfx3 (by decide) 0 _).mono (fun _ _ h => h.1)
     have HF4 : Hid (Files (up G w) w4 A6 rs6) := by
      rw [hw4]
      refine Files.mono (F := up (fun g => up G w g ∧ g ≠ w2.heap.size) w3) ?_ (fun g _ h => h.elim (fun h => h.1) (fun h => .inr (Nat.le_trans HW3.out h)))
      refine Files.frm (((HF6.out.far hk1 (by decide) (by decide) 0 _).far hk2 (by decide) (by decide) 1 _).far hk3 (by decide) (by decide) 2 _) ((Frm.refl (fun g => g = w2.heap.size) _).setCell (fun _ => rfl) _) ?_
      intro g h e
      rcases h with h | h
      ·exact h.2 e
      ·have := HSZ3.out; have h' : w2.heap.size < w3.heap.size := this; have e' : g = w2.heap.size := e; omega
     clear b0 b1 b2 o0 o1 o2 o3 o4 r0 r1 r2 q0 q1 q2 f0 f1 f2 p0 p1 p2 g0 g1 g2 HBX HFB HOKr HFX HF6 hk1 hk2 hk3 hfx3 hw4 e1 e2 e3
     obtain ⟨HBX, HFB, HOKr, HFX⟩ := And.intro HBX4 (And.intro HF4 (And.intro HOK4 HFX4))
     clear HBX4 HF4 HOK4 HFX4
     have b0 : w4.cell? ⟨w.heap.size, 0, none⟩ = some (.slice A6 rs6.length c6) := HBX.out.dsk.cell 0
     have b1 : w4.cell? ⟨w.heap.size, 1, none⟩ = some (.bool false) := HBX.out.dsk.cell 1
     have b2 : w4.cell? ⟨w.heap.size, 2, none⟩ = some (.int .i64 fu) := HBX.out.dsk.cell 2
     have o0 : w4.cell? ⟨w.heap.size + 1, 0, none⟩ = some (.int .i64 3) := HBX.out.op.cell 0
     have o1 : w4.cell? ⟨w.heap.size + 1, 1, none⟩ = some (.string a) := HBX.out.op.cell 1
     have o2 : w4.cell? ⟨w.heap.size + 1, 2, none⟩ = some (.string z) := HBX.out.op.cell 2
     have o3 : w4.cell? ⟨w.heap.size + 1, 3, none⟩ = some (.int .i64 num) := HBX.out.op.cell 3
     have o4 : w4.cell? ⟨w.heap.size + 1, 4, none⟩ = some (.slice C bs.length cc) := HBX.out.op.cell 4
     have r0 : w4.cell? ⟨w.heap.size + 1 + 1, 0, none⟩ = some (.slice none 0 0) := HBX.out.res.cell 0
     have r1 : w4.cell? ⟨w.heap.size + 1 + 1, 1, none⟩ = some (.bool false) := HBX.out.res.cell 1
     have r2 : w4.cell? ⟨w.heap.size + 1 + 1, 2, none⟩ = some (.int .i64 0) := HBX.out.res.cell 2
     have q0 := HBX.out.res.free 0
     have q1 := HBX.out.res.free 1
     have q2 := HBX.out.res.free 2
     have f0 : w4.cell? ⟨w2.heap.size, 0, none⟩ = some (.string z) := HFX.out.cell 0
     have f1 : w4.cell? ⟨w2.heap.size, 1, none⟩ = some (.slice r.A r.file.now.length r.c) := HFX.out.cell 1
     have f2 : w4.cell? ⟨w2.heap.size, 2, none⟩ = some (.slice r.B r.file.safe.length r.d) := HFX.out.cell 2
     have hwi : Calls Tryz.prog 99 #[.agg #[.slice A6 rs6.length c6, .bool false, .int .i64 fu], .agg #[.string z, .slice r.A r.file.now.length r.c, .slice r.B r.file.safe.length r.d]] w4 (RefPost (up G w) ⟨put { r.file with name := sname z } (del (sname a) s.files), false, fu⟩ w4) := by
      have h9 := With_any A6 c6 rs6 HFB.out (by omega) ⟨del (sname a) s.files, false, fu⟩ HM6.out { r with file := { r.file with name := sname z } } ⟨HOKr.out.now, HOKr.out.safe, ⟨HOKr.out.sz.1, HOKr.out.sz.2.1, hn2⟩, HOKr.out.cn, HOKr.out.cs⟩
      simp only [arr_sname] at h9
      exact h9
     have HWI := Lib.hid hwi; clear hwi
     go_wp2_with fail
     (with_reducible refine HWI.out.mono ?_)
     clear f0 f1 f2
     rintro e w5 ⟨v5, rfl, ⟨A5, c5, rs5, rfl, hf5, hm5⟩, hb5⟩
     have HBX5 := Lib.hid (HBX.out.below hb5)
     have HF5 : Hid (Files (up G w) w5 A5 rs5) := hf5.mono (fun _ _ h => h.elim id (fun h2 => .inr (Nat.le_trans HBX.out.bel.size h2)))
     have HM5 := Lib.hid hm5
     clear b0 b1 b2 o0 o1 o2 o3 o4 r0 r1 r2 q0 q1 q2 HBX hb5 hf5 hm5
     obtain ⟨HBX, _⟩ := And.intro HBX5 trivial
     clear HBX5
     have b0 : w5.cell? ⟨w.heap.size, 0, none⟩ = some (.slice A6 rs6.length c6) := HBX.out.dsk.cell 0
     have b1 : w5.cell? ⟨w.heap.size, 1, none⟩ = some (.bool false) := HBX.out.dsk.cell 1
     have b2 : w5.cell? ⟨w.heap.size, 2, none⟩ = some (.int .i64 fu) := HBX.out.dsk.cell 2
     have o0 : w5.cell? ⟨w.heap.size + 1, 0, none⟩ = some (.int .i64 3) := HBX.out.op.cell 0
     have o1 : w5.cell? ⟨w.heap.size + 1, 1, none⟩ = some (.string a) := HBX.out.op.cell 1
     have o2 : w5.cell? ⟨w.heap.size + 1, 2, none⟩ = some (.string z) := HBX.out.op.cell 2
     have o3 : w5.cell? ⟨w.heap.size + 1, 3, none⟩ = some (.int .i64 num) := HBX.out.op.cell 3
     have o4 : w5.cell? ⟨w.heap.size + 1, 4, none⟩ = some (.slice C bs.length cc) := HBX.out.op.cell 4
     have r0 : w5.cell? ⟨w.heap.size + 1 + 1, 0, none⟩ = some (.slice none 0 0) := HBX.out.res.cell 0
     have r1 : w5.cell? ⟨w.heap.size + 1 + 1, 1, none⟩ = some (.bool false) := HBX.out.res.cell 1
     have r2 : w5.cell? ⟨w.heap.size + 1 + 1, 2, none⟩ = some (.int .i64 0) := HBX.out.res.cell 2
     have q0 := HBX.out.res.free 0
     have q1 := HBX.out.res.free 1
     have q2 := HBX.out.res.free 2
     go_wp2_with fail
     refine bodyPost_ret (v := .tuple #[.agg #[.slice A5 rs5.length c5, .bool false, .int .i64 fu], .int .i64 0]) (by simp [results, Tryz.results63, go_sem, r0, r1, r2]) rfl ?_
     rw [HRES.out]
     exact HBX.out.out HF5.out HM5.out rfl _ _ _
   ·have hn2 : named (sname z) = false := by simpa using hn2
    have HRES : Hid (Dsk.rename s (sname a) (sname z) = (⟨s.files, false, fu⟩, 1)) := by
     show _ = _
     unfold Dsk.rename; rw [HST.out]; simp only
     have : Dsk.look ⟨s.files, false, fu⟩ [sname a, sname z] = (none, 1) := by unfold Dsk.look; rw [if_neg (by simp), if_pos (by simp [hn, hn2])]
     rw [this]
    go_wp2_with fail
    (with_reducible refine (rname_any _ ha _).mono ?_); rintro e w' ⟨rfl, rfl⟩
    go_wp2_with fail
    (with_reducible refine (rname_any _ hz _).mono ?_); rintro e w' ⟨rfl, rfl⟩
    go_wp2_with fail
    refine bodyPost_ret (v := .tuple #[.agg #[.slice A rs.length c, .bool false, .int .i64 fu], .int .i64 1]) (by simp [results, Tryz.results63, go_sem, r0, r1, r2]) rfl ?_
    rw [HRES.out]
    exact HBX.out.out HFB.out HS.out rfl _ _ _
  ·have hn : named (sname a) = false := by simpa using hn
   have HRES : Hid (Dsk.rename s (sname a) (sname z) = (⟨s.files, false, fu⟩, 1)) := by
    show _ = _
    unfold Dsk.rename; rw [HST.out]; simp only
    have : Dsk.look ⟨s.files, false, fu⟩ [sname a, sname z] = (none, 1) := by unfold Dsk.look; rw [if_neg (by simp), if_pos (by simp [hn])]
    rw [this]
   go_wp2_with fail
   (with_reducible refine (rname_any _ ha _).mono ?_); rintro e w' ⟨rfl, rfl⟩
   go_wp2_with fail
   refine bodyPost_ret (v := .tuple #[.agg #[.slice A rs.length c, .bool false, .int .i64 fu], .int .i64 1]) (by simp [results, Tryz.results63, go_sem, r0, r1, r2]) rfl ?_
   rw [HRES.out]
   exact HBX.out.out HFB.out HS.out rfl _ _ _
 ·skip
  have b0 : wB.cell? ⟨w.heap.size, 0, none⟩ = some (.slice A rs.length c) := HBX.out.dsk.cell 0
  have b1 : wB.cell? ⟨w.heap.size, 1, none⟩ = some (.bool true) := HBX.out.dsk.cell 1
  have b2 : wB.cell? ⟨w.heap.size, 2, none⟩ = some (.int .i64 fu) := HBX.out.dsk.cell 2
  have o0 : wB.cell? ⟨w.heap.size + 1, 0, none⟩ = some (.int .i64 3) := HBX.out.op.cell 0
  have o1 : wB.cell? ⟨w.heap.size + 1, 1, none⟩ = some (.string a) := HBX.out.op.cell 1
  have o2 : wB.cell? ⟨w.heap.size + 1, 2, none⟩ = some (.string z) := HBX.out.op.cell 2
  have o3 : wB.cell? ⟨w.heap.size + 1, 3, none⟩ = some (.int .i64 num) := HBX.out.op.cell 3
  have o4 : wB.cell? ⟨w.heap.size + 1, 4, none⟩ = some (.slice C bs.length cc) := HBX.out.op.cell 4
  have r0 : wB.cell? ⟨w.heap.size + 1 + 1, 0, none⟩ = some (.slice none 0 0) := HBX.out.res.cell 0
  have r1 : wB.cell? ⟨w.heap.size + 1 + 1, 1, none⟩ = some (.bool false) := HBX.out.res.cell 1
  have r2 : wB.cell? ⟨w.heap.size + 1 + 1, 2, none⟩ = some (.int .i64 0) := HBX.out.res.cell 2
  have q0 := HBX.out.res.free 0
  have q1 := HBX.out.res.free 1
  have q2 := HBX.out.res.free 2
  have HRES : Hid (Dsk.rename s (sname a) (sname z) = (⟨s.files, true, fu⟩, 50)) := by
   show _ = _
   unfold Dsk.rename; rw [HST.out]; simp only
   rw [look_down rfl]
  go_wp2_with fail
  refine bodyPost_ret (v := .tuple #[.agg #[.slice A rs.length c, .bool true, .int .i64 fu], .int .i64 50]) (by simp [results, Tryz.results63, go_sem, r0, r1, r2]) rfl ?_
  rw [HRES.out]
  exact HBX.out.out HFB.out HS.out rfl _ _ _
set_option maxRecDepth 100000 in
set_option maxHeartbeats 8000000 in
theorem Do4_any {G : Nat → Prop} {w : World} (A : Option Addr) (c : Nat) (rs : List RFile) (h : Files G w A rs) (s : S) (hs : rs.map RFile.file = s.files) (hct : rs.length ≤ 256) (hfu : s.fuse ≤ 9223372036854775807) (hso : Sorted s.files)
 (a z : ByteArray) (ha : a.size ≤ maxLen) (_hz : z.size ≤ maxLen) (num : Int) (hnum : (Lit.int .i64 num).wf = true) (C : Option Addr) (cc : Nat) (bs : List UInt8) (hbs : Sl fB w C bs) :
 Calls Tryz.prog 63 #[.agg #[.slice A rs.length c, .bool s.down, .int .i64 s.fuse], .agg #[.int .i64 4, .string a, .string z, .int .i64 num, .slice C bs.length cc]] w (DoPost G (Dsk.write s (sname a) num bs) w) := by
 have hl := h.1.len
 have hbl := hbs.len
 have HF := Lib.hid h; clear h
 have HS := Lib.hid hs; clear hs
 have HSO := Lib.hid hso; clear hso
 have HBS := Lib.hid hbs; clear hbs
 have HNUM := Lib.hid hnum; clear hnum
 rcases hst : Dsk.step s with ⟨fs1, dn, fu⟩
 have hfs : fs1 = s.files := by have := step_files s; rw [hst] at this; exact this
 have hstp : ∀ W, Calls Tryz.prog 97 #[.agg #[.slice A rs.length c, .bool s.down, .int .i64 s.fuse]] W fun e w' => e = .returned (.agg #[.slice A rs.length c, .bool dn, .int .i64 fu]) ∧ Below W.heap.size W w' :=
  fun W => (Step_any A rs.length c s hfu W).mono (by rintro e w' ⟨he, hb⟩; rw [hst] at he; exact ⟨he, hb⟩)
 have HSTP := Lib.hid hstp; clear hstp
 subst hfs
 have HST := Lib.hid hst; clear hst hfu
 go_enter Tryz.func63, Tryz.ntmps63
 go_wp2_with fail
 obtain ⟨wa, hwa⟩ : ∃ wa, wa = ((w.alloc (.cells #[.slice A rs.length c, .bool s.down, .int .i64 s.fuse] 32)).alloc (.cells #[.int .i64 4, .string a, .string z, .int .i64 num, .slice C bs.length cc] 87)).alloc (.cells #[.slice none 0 0, .bool false, .int .i64 0] 32) := ⟨_, rfl⟩
 rw [← hwa]
 have hbxa : DoBox w A rs.length c s 4 a z num C bs.length cc wa := by
  have b2 := Blk.new_ (w.alloc (.cells #[.slice A rs.length c, .bool s.down, .int .i64 s.fuse] 32)) 87 #[.int .i64 4, .string a, .string z, .int .i64 num, .slice C bs.length cc]
  rw [World.size_alloc] at b2
  have b3 := Blk.new_ ((w.alloc (.cells #[.slice A rs.length c, .bool s.down, .int .i64 s.fuse] 32)).alloc (.cells #[.int .i64 4, .string a, .string z, .int .i64 num, .slice C bs.length cc] 87)) 32 #[.slice none 0 0, .bool false, .int .i64 0]
  rw [World.size_alloc, World.size_alloc] at b3
  rw [hwa]
  exact ⟨(((Below.refl _ _).alloc (Nat.le_refl _) _).alloc (by simp) _).alloc (by simp; omega) _, ((Blk.new_ w _ _).alloc _).alloc _, b2.alloc _, b3⟩
 have HBXA := Lib.hid hbxa; clear hbxa hwa
 (with_reducible refine (HSTP.out wa).mono ?_); rintro e w1 ⟨rfl, hb1⟩
 have hbx1 := HBXA.out.below hb1
 have d0 : w1.cell? ⟨w.heap.size, 0, none⟩ = some (.slice A rs.length c) := hbx1.dsk.cell 0
 have d1 : w1.cell? ⟨w.heap.size, 1, none⟩ = some (.bool s.down) := hbx1.dsk.cell 1
 have d2 : w1.cell? ⟨w.heap.size, 2, none⟩ = some (.int .i64 s.fuse) := hbx1.dsk.cell 2
 have g0 := hbx1.dsk.free 0
 have g1 := hbx1.dsk.free 1
 have g2 := hbx1.dsk.free 2
 have HBX1 := Lib.hid hbx1; clear hbx1 hb1 HBXA HSTP
 go_upto_region 2 with fail
 obtain ⟨wB, hwB⟩ : ∃ wB, wB = ((w1.setCell ⟨w.heap.size, 0, none⟩ (.slice A rs.length c)).setCell ⟨w.heap.size, 1, none⟩ (.bool dn)).setCell ⟨w.heap.size, 2, none⟩ (.int .i64 fu) := ⟨_, rfl⟩
 rw [← hwB]
 have hbx : DoBox w A rs.length c ⟨s.files, dn, fu⟩ 4 a z num C bs.length cc wB := by
  have e1 : w.heap.size + 1 ≠ w.heap.size := by omega
  have e2 : w.heap.size + 1 + 1 ≠ w.heap.size := by omega
  rw [hwB]
  exact ⟨((HBX1.out.bel.setCell (p := ⟨w.heap.size, 0, none⟩) (Nat.le_refl _) _).setCell (p := ⟨w.heap.size, 1, none⟩) (Nat.le_refl _) _).setCell (p := ⟨w.heap.size, 2, none⟩) (Nat.le_refl _) _,
   ((HBX1.out.dsk.set_ 0 _).set_ 1 _).set_ 2 _, ((HBX1.out.op.far (p := ⟨w.heap.size, 0, none⟩) e1 _).far (p := ⟨w.heap.size, 1, none⟩) e1 _).far (p := ⟨w.heap.size, 2, none⟩) e1 _,
   ((HBX1.out.res.far (p := ⟨w.heap.size, 0, none⟩) e2 _).far (p := ⟨w.heap.size, 1, none⟩) e2 _).far (p := ⟨w.heap.size, 2, none⟩) e2 _⟩
 clear d0 d1 d2 g0 g1 g2 hwB HBX1
 have HFB : Hid (Files (up G w) wB A rs) := (HF.out.below hbx.bel).mono (fun _ _ h => .inl h)
 have HBX := Lib.hid hbx; clear hbx
 cases dn
 ·skip
  have b0 : wB.cell? ⟨w.heap.size, 0, none⟩ = some (.slice A rs.length c) := HBX.out.dsk.cell 0
  have b1 : wB.cell? ⟨w.heap.size, 1, none⟩ = some (.bool false) := HBX.out.dsk.cell 1
  have b2 : wB.cell? ⟨w.heap.size, 2, none⟩ = some (.int .i64 fu) := HBX.out.dsk.cell 2
  have o0 : wB.cell? ⟨w.heap.size + 1, 0, none⟩ = some (.int .i64 4) := HBX.out.op.cell 0
  have o1 : wB.cell? ⟨w.heap.size + 1, 1, none⟩ = some (.string a) := HBX.out.op.cell 1
  have o2 : wB.cell? ⟨w.heap.size + 1, 2, none⟩ = some (.string z) := HBX.out.op.cell 2
  have o3 : wB.cell? ⟨w.heap.size + 1, 3, none⟩ = some (.int .i64 num) := HBX.out.op.cell 3
  have o4 : wB.cell? ⟨w.heap.size + 1, 4, none⟩ = some (.slice C bs.length cc) := HBX.out.op.cell 4
  have r0 : wB.cell? ⟨w.heap.size + 1 + 1, 0, none⟩ = some (.slice none 0 0) := HBX.out.res.cell 0
  have r1 : wB.cell? ⟨w.heap.size + 1 + 1, 1, none⟩ = some (.bool false) := HBX.out.res.cell 1
  have r2 : wB.cell? ⟨w.heap.size + 1 + 1, 2, none⟩ = some (.int .i64 0) := HBX.out.res.cell 2
  have q0 := HBX.out.res.free 0
  have q1 := HBX.out.res.free 1
  have q2 := HBX.out.res.free 2
  by_cases hn : named (sname a) = true
  ·skip
   go_wp2_with fail
   (with_reducible refine (rname_any _ ha _).mono ?_); rintro e w' ⟨rfl, rfl⟩
   go_wp2_with fail
   (with_reducible refine (Find_any A c rs HFB.out false fu a).mono ?_); rintro e w2 ⟨i, rfl, hb2, hi⟩
   have HBX2 := Lib.hid (HBX.out.below hb2)
   have HFB2 := Lib.hid (HFB.out.below hb2)
   clear b0 b1 b2 o0 o1 o2 o3 o4 r0 r1 r2 q0 q1 q2 HBX HFB hb2
   obtain ⟨HBX, HFB⟩ := And.intro HBX2 HFB2
   clear HBX2 HFB2
   have b0 : w2.cell? ⟨w.heap.size, 0, none⟩ = some (.slice A rs.length c) := HBX.out.dsk.cell 0
   have b1 : w2.cell? ⟨w.heap.size, 1, none⟩ = some (.bool false) := HBX.out.dsk.cell 1
   have b2 : w2.cell? ⟨w.heap.size, 2, none⟩ = some (.int .i64 fu) := HBX.out.dsk.cell 2
   have o0 : w2.cell? ⟨w.heap.size + 1, 0, none⟩ = some (.int .i64 4) := HBX.out.op.cell 0
   have o1 : w2.cell? ⟨w.heap.size + 1, 1, none⟩ = some (.string a) := HBX.out.op.cell 1
   have o2 : w2.cell? ⟨w.heap.size + 1, 2, none⟩ = some (.string z) := HBX.out.op.cell 2
   have o3 : w2.cell? ⟨w.heap.size + 1, 3, none⟩ = some (.int .i64 num) := HBX.out.op.cell 3
   have o4 : w2.cell? ⟨w.heap.size + 1, 4, none⟩ = some (.slice C bs.length cc) := HBX.out.op.cell 4
   have r0 : w2.cell? ⟨w.heap.size + 1 + 1, 0, none⟩ = some (.slice none 0 0) := HBX.out.res.cell 0
   have r1 : w2.cell? ⟨w.heap.size + 1 + 1, 1, none⟩ = some (.bool false) := HBX.out.res.cell 1
   have r2 : w2.cell? ⟨w.heap.size + 1 + 1, 2, none⟩ = some (.int .i64 0) := HBX.out.res.cell 2
   have q0 := HBX.out.res.free 0
   have q1 := HBX.out.res.free 1
   have q2 := HBX.out.res.free 2
   rcases hi with ⟨rfl, hnone⟩ | ⟨k, rfl, hk, hnk, hfirst⟩
   ·have hfd : find (sname a) s.files = none := by rw [← HS.out]; exact find_of_none hnone
    have HFD := Lib.hid hfd; clear hfd hnone
    have HRES : Hid (Dsk.write s (sname a) num bs = (⟨s.files, false, fu⟩, 4)) := by
     show _ = _
     unfold Dsk.write; rw [HST.out]
     simp only [look_none (s := ⟨s.files, false, fu⟩) rfl hn HFD.out]
    go_wp2_with fail
    refine bodyPost_ret (v := .tuple #[.agg #[.slice A rs.length c, .bool false, .int .i64 fu], .int .i64 4]) (by simp [results, Tryz.results63, go_sem, r0, r1, r2]) rfl ?_
    rw [HRES.out]
    exact HBX.out.out HFB.out HS.out rfl _ _ _
   ·have hfd : find (sname a) s.files = some rs[k].file := by rw [← HS.out]; exact find_of_at hk hnk hfirst
    have HFD := Lib.hid hfd; clear hfd hfirst
    obtain ⟨r, hr⟩ : ∃ r, r = rs[k] := ⟨_, rfl⟩
    obtain ⟨b, o, rfl, _, hbs, hc⟩ := HFB.out.1.at hk
    have c0 : w2.cell? ⟨b, o + k * 3, none⟩ = some (.string ⟨r.file.name.toArray⟩) := by rw [hr]; exact hc 0 (by decide)
    have c1 : w2.cell? ⟨b, o + k * 3 + 1, none⟩ = some (.slice r.A r.file.now.length r.c) := by rw [hr]; exact hc 1 (by decide)
    have c2 : w2.cell? ⟨b, o + k * 3 + 2, none⟩ = some (.slice r.B r.file.safe.length r.d) := by rw [hr]; exact hc 2 (by decide)
    have HOKr : Hid (RFok (up G w) w2 r) := by rw [hr]; exact HFB.out.2 _ (List.getElem_mem hk)
    rw [← hr] at HFD hnk
    have HNK := Lib.hid hnk
    clear hc hr hnk
    go_upto_region 16 with fail
    obtain ⟨w3, hw3⟩ : ∃ w3, w3 = w2.alloc (.cells #[.string ⟨r.file.name.toArray⟩, .slice r.A r.file.now.length r.c, .slice r.B r.file.safe.length r.d] 59) := ⟨_, rfl⟩
    rw [← hw3]
    have hab3 : Below w2.heap.size w2 w3 := by rw [hw3]; exact (Below.refl _ _).alloc (Nat.le_refl _) _
    have HFX : Hid (Blk w3 w2.heap.size 59 #[.string ⟨r.file.name.toArray⟩, .slice r.A r.file.now.length r.c, .slice r.B r.file.safe.length r.d]) := by rw [hw3]; exact Blk.new_ w2 _ _
    have HBX3 := Lib.hid (HBX.out.below hab3)
    have HFB3 := Lib.hid (HFB.out.below hab3)
    have HOK3 := Lib.hid (HOKr.out.below hab3)
    have hw2l : w.heap.size + 1 + 1 < w2.heap.size := HBX.out.res.lt
    clear b0 b1 b2 o0 o1 o2 o3 o4 r0 r1 r2 q0 q1 q2 c0 c1 c2 HBX HFB HOKr hw3 hab3
    obtain ⟨HBX, HFB, HOKr⟩ := And.intro HBX3 (And.intro HFB3 HOK3)
    clear HBX3 HFB3 HOK3
    have b0 : w3.cell? ⟨w.heap.size, 0, none⟩ = some (.slice (some ⟨b, o, none⟩) rs.length c) := HBX.out.dsk.cell 0
    have b1 : w3.cell? ⟨w.heap.size, 1, none⟩ = some (.bool false) := HBX.out.dsk.cell 1
    have b2 : w3.cell? ⟨w.heap.size, 2, none⟩ = some (.int .i64 fu) := HBX.out.dsk.cell 2
    have o0 : w3.cell? ⟨w.heap.size + 1, 0, none⟩ = some (.int .i64 4) := HBX.out.op.cell 0
    have o1 : w3.cell? ⟨w.heap.size + 1, 1, none⟩ = some (.string a) := HBX.out.op.cell 1
    have o2 : w3.cell? ⟨w.heap.size + 1, 2, none⟩ = some (.string z) := HBX.out.op.cell 2
    have o3 : w3.cell? ⟨w.heap.size + 1, 3, none⟩ = some (.int .i64 num) := HBX.out.op.cell 3
    have o4 : w3.cell? ⟨w.heap.size + 1, 4, none⟩ = some (.slice C bs.length cc) := HBX.out.op.cell 4
    have r0 : w3.cell? ⟨w.heap.size + 1 + 1, 0, none⟩ = some (.slice none 0 0) := HBX.out.res.cell 0
    have r1 : w3.cell? ⟨w.heap.size + 1 + 1, 1, none⟩ = some (.bool false) := HBX.out.res.cell 1
    have r2 : w3.cell? ⟨w.heap.size + 1 + 1, 2, none⟩ = some (.int .i64 0) := HBX.out.res.cell 2
    have q0 := HBX.out.res.free 0
    have q1 := HBX.out.res.free 1
    have q2 := HBX.out.res.free 2
    have f0 : w3.cell? ⟨w2.heap.size, 0, none⟩ = some (.string ⟨r.file.name.toArray⟩) := HFX.out.cell 0
    have f1 : w3.cell? ⟨w2.heap.size, 1, none⟩ = some (.slice r.A r.file.now.length r.c) := HFX.out.cell 1
    have f2 : w3.cell? ⟨w2.heap.size, 2, none⟩ = some (.slice r.B r.file.safe.length r.d) := HFX.out.cell 2
    have p0 := HFX.out.free 0
    have p1 := HFX.out.free 1
    have p2 := HFX.out.free 2
    by_cases hneg : num < 0
    ·skip
     have HRES : Hid (Dsk.write s (sname a) num bs = (⟨s.files, false, fu⟩, 1)) := by
      show _ = _
      unfold Dsk.write; rw [HST.out]; simp only [look_found (s := ⟨s.files, false, fu⟩) rfl hn HFD.out]
      rw [if_pos (by omega)]
     go_wp2_with fail
     refine bodyPost_ret (v := .tuple #[.agg #[.slice (some ⟨b, o, none⟩) rs.length c, .bool false, .int .i64 fu], .int .i64 1]) (by simp [results, Tryz.results63, go_sem, r0, r1, r2]) rfl ?_
     rw [HRES.out]
     exact HBX.out.out HFB.out HS.out rfl _ _ _
    by_cases hbig : (r.file.now.length : Int) < num
    ·skip
     have HRES : Hid (Dsk.write s (sname a) num bs = (⟨s.files, false, fu⟩, 1)) := by
      show _ = _
      unfold Dsk.write; rw [HST.out]; simp only [look_found (s := ⟨s.files, false, fu⟩) rfl hn HFD.out]
      rw [if_pos (by omega)]
     go_wp2_with fail
     refine bodyPost_ret (v := .tuple #[.agg #[.slice (some ⟨b, o, none⟩) rs.length c, .bool false, .int .i64 fu], .int .i64 1]) (by simp [results, Tryz.results63, go_sem, r0, r1, r2]) rfl ?_
     rw [HRES.out]
     exact HBX.out.out HFB.out HS.out rfl _ _ _
    obtain ⟨m, rfl⟩ := Int.eq_ofNat_of_zero_le (Int.not_lt.1 hneg)
    have hmle : m ≤ r.file.now.length := by omega
    have hm16 : (m : Int) ≤ 65536 := by have := HOKr.out.sz.1; have h2 : r.file.now.length ≤ 65536 := this; omega
    have twr : RowKit.wrap64 (65536 - (m : Int)) = 65536 - (m : Int) := by unfold RowKit.wrap64; omega
    by_cases hlong : 65536 - (m : Int) < (bs.length : Int)
    ·skip
     have HRES : Hid (Dsk.write s (sname a) (m : Int) bs = (⟨s.files, false, fu⟩, 51)) := by
      show _ = _
      unfold Dsk.write; rw [HST.out]; simp only [look_found (s := ⟨s.files, false, fu⟩) rfl hn HFD.out]
      rw [if_neg (by omega), if_pos hlong]
     go_wp2_with fail
     refine bodyPost_ret (v := .tuple #[.agg #[.slice (some ⟨b, o, none⟩) rs.length c, .bool false, .int .i64 fu], .int .i64 51]) (by simp [results, Tryz.results63, go_sem, r0, r1, r2]) rfl ?_
     rw [HRES.out]
     exact HBX.out.out HFB.out HS.out rfl _ _ _
    have HRES : Hid (Dsk.write s (sname a) (m : Int) bs = (⟨upd (sname a) (fun f => { f with now := over f.now m bs }) s.files, false, fu⟩, 0)) := by
     show _ = _
     unfold Dsk.write; rw [HST.out]; simp only [look_found (s := ⟨s.files, false, fu⟩) rfl hn HFD.out]
     rw [if_neg (by omega), if_neg hlong]; rfl
    have hsz := HOKr.out.sz
    have hs1 : r.file.now.length ≤ 65536 := hsz.1
    have hov := rover_any r.A r.c r.file.now (m : Int) m rfl (by omega) C cc bs w3 HOKr.out.now.sl (HBS.out.below HBX.out.bel) (by omega) (by omega)
    rw [overZ_in hmle] at hov
    have HOV := Lib.hid hov; clear hov
    have HSZ := Lib.hid hsz; clear hsz
    have HOL : Hid ((over r.file.now m bs).length ≤ 65536) := by show _ ≤ _; rw [over_length hmle]; omega
    go_wp2_with fail
    (with_reducible refine HOV.out.mono ?_); rintro e w6 ⟨⟨A6, c6, rfl, hs6, hcp6⟩, hb6⟩; have HCP6 := Lib.hid hcp6; clear hcp6
    have HBXs := Lib.hid (HBX.out.below hb6)
    have HFBs := Lib.hid (HFB.out.below hb6)
    have HOKs := Lib.hid (HOKr.out.below hb6)
    have HFXs := Lib.hid (HFX.out.below hb6 HFX.out.lt)
    have HW3 : Hid (w.heap.size ≤ w3.heap.size) := HBX.out.bel.size
    clear b0 b1 b2 o0 o1 o2 o3 o4 r0 r1 r2 q0 q1 q2 f0 f1 f2 p0 p1 p2 HBX HFB HOKr HFX hb6
    obtain ⟨HBX, HFB, HOKr, HFX⟩ := And.intro HBXs (And.intro HFBs (And.intro HOKs HFXs))
    clear HBXs HFBs HOKs HFXs
    have b0 : w6.cell? ⟨w.heap.size, 0, none⟩ = some (.slice (some ⟨b, o, none⟩) rs.length c) := HBX.out.dsk.cell 0
    have b1 : w6.cell? ⟨w.heap.size, 1, none⟩ = some (.bool false) := HBX.out.dsk.cell 1
    have b2 : w6.cell? ⟨w.heap.size, 2, none⟩ = some (.int .i64 fu) := HBX.out.dsk.cell 2
    have o0 : w6.cell? ⟨w.heap.size + 1, 0, none⟩ = some (.int .i64 4) := HBX.out.op.cell 0
    have o1 : w6.cell? ⟨w.heap.size + 1, 1, none⟩ = some (.string a) := HBX.out.op.cell 1
    have o2 : w6.cell? ⟨w.heap.size + 1, 2, none⟩ = some (.string z) := HBX.out.op.cell 2
    have o3 : w6.cell? ⟨w.heap.size + 1, 3, none⟩ = some (.int .i64 (m : Int)) := HBX.out.op.cell 3
    have o4 : w6.cell? ⟨w.heap.size + 1, 4, none⟩ = some (.slice C bs.length cc) := HBX.out.op.cell 4
    have r0 : w6.cell? ⟨w.heap.size + 1 + 1, 0, none⟩ = some (.slice none 0 0) := HBX.out.res.cell 0
    have r1 : w6.cell? ⟨w.heap.size + 1 + 1, 1, none⟩ = some (.bool false) := HBX.out.res.cell 1
    have r2 : w6.cell? ⟨w.heap.size + 1 + 1, 2, none⟩ = some (.int .i64 0) := HBX.out.res.cell 2
    have q0 := HBX.out.res.free 0
    have q1 := HBX.out.res.free 1
    have q2 := HBX.out.res.free 2
    have f0 : w6.cell? ⟨w2.heap.size, 0, none⟩ = some (.string ⟨r.file.name.toArray⟩) := HFX.out.cell 0
    have f1 : w6.cell? ⟨w2.heap.size, 1, none⟩ = some (.slice r.A r.file.now.length r.c) := HFX.out.cell 1
    have f2 : w6.cell? ⟨w2.heap.size, 2, none⟩ = some (.slice r.B r.file.safe.length r.d) := HFX.out.cell 2
    have p0 := HFX.out.free 0
    have p1 := HFX.out.free 1
    have p2 := HFX.out.free 2
    have HS6 := Lib.hid hs6; clear hs6
    go_upto_region 35 with fail
    obtain ⟨w4, hw4⟩ : ∃ x, x = (w6).setCell ⟨w2.heap.size, 1, none⟩ (.slice A6 (over r.file.now m bs).length c6) := ⟨_, rfl⟩
    rw [← hw4]
    have hbne : b ≠ w2.heap.size := Nat.ne_of_lt hbs
    have HBX4 : Hid (DoBox w (some ⟨b, o, none⟩) rs.length c ⟨s.files, false, fu⟩ 4 a z (m : Int) C bs.length cc w4) := by rw [hw4]; exact (HBX.out).setFar (p := ⟨w2.heap.size, 1, none⟩) hw2l (.slice A6 (over r.file.now m bs).length c6)
    have HFB4 : Hid (Files (up G w) w4 (some ⟨b, o, none⟩) rs) := by rw [hw4]; exact (HFB.out).farF (HFX.out) hbne 1 (.slice A6 (over r.file.now m bs).length c6)
    have HOK4 : Hid (RFok (up G w) w4 r) := by rw [hw4]; exact (HOKr.out).far (HFX.out) (by decide) 1 (.slice A6 (over r.file.now m bs).length c6)
    have HS64 : Hid (SlB fB 5 (fun g => w3.heap.size ≤ g) w4 A6 (over r.file.now m bs)) := by rw [hw4]; exact HS6.out.far HFX.out (by decide) 1 _
    clear b0 b1 b2 o0 o1 o2 o3 o4 r0 r1 r2 q0 q1 q2 f0 f1 f2 p0 p1 p2 HBX HFB HOKr
    have HFX4 : Hid (Blk w4 w2.heap.size 59 #[.string ⟨r.file.name.toArray⟩, .slice A6 (over r.file.now m bs).length c6, .slice r.B r.file.safe.length r.d]) := by rw [hw4]; exact (HFX.out).set_ 1 (.slice A6 (over r.file.now m bs).length c6)
    clear HFX hw4
    obtain ⟨HBX, HFB, HOKr⟩ := And.intro HBX4 (And.intro HFB4 HOK4)
    clear HBX4 HFB4 HOK4
    have b0 : w4.cell? ⟨w.heap.size, 0, none⟩ = some (.slice (some ⟨b, o, none⟩) rs.length c) := HBX.out.dsk.cell 0
    have b1 : w4.cell? ⟨w.heap.size, 1, none⟩ = some (.bool false) := HBX.out.dsk.cell 1
    have b2 : w4.cell? ⟨w.heap.size, 2, none⟩ = some (.int .i64 fu) := HBX.out.dsk.cell 2
    have o0 : w4.cell? ⟨w.heap.size + 1, 0, none⟩ = some (.int .i64 4) := HBX.out.op.cell 0
    have o1 : w4.cell? ⟨w.heap.size + 1, 1, none⟩ = some (.string a) := HBX.out.op.cell 1
    have o2 : w4.cell? ⟨w.heap.size + 1, 2, none⟩ = some (.string z) := HBX.out.op.cell 2
    have o3 : w4.cell? ⟨w.heap.size + 1, 3, none⟩ = some (.int .i64 (m : Int)) := HBX.out.op.cell 3
    have o4 : w4.cell? ⟨w.heap.size + 1, 4, none⟩ = some (.slice C bs.length cc) := HBX.out.op.cell 4
    have r0 : w4.cell? ⟨w.heap.size + 1 + 1, 0, none⟩ = some (.slice none 0 0) := HBX.out.res.cell 0
    have r1 : w4.cell? ⟨w.heap.size + 1 + 1, 1, none⟩ = some (.bool false) := HBX.out.res.cell 1
    have r2 : w4.cell? ⟨w.heap.size + 1 + 1, 2, none⟩ = some (.int .i64 0) := HBX.out.res.cell 2
    have q0 := HBX.out.res.free 0
    have q1 := HBX.out.res.free 1
    have q2 := HBX.out.res.free 2
    have f0 : w4.cell? ⟨w2.heap.size, 0, none⟩ = some (.string ⟨r.file.name.toArray⟩) := HFX4.out.cell 0
    have f1 : w4.cell? ⟨w2.heap.size, 1, none⟩ = some (.slice A6 (over r.file.now m bs).length c6) := HFX4.out.cell 1
    have f2 : w4.cell? ⟨w2.heap.size, 2, none⟩ = some (.slice r.B r.file.safe.length r.d) := HFX4.out.cell 2
    have hput : put ({ r with file := { r.file with now := over r.file.now m bs }, A := A6, c := c6 } : RFile).file s.files = upd (sname a) (fun f => { f with now := over f.now m bs }) s.files := put_upd (g := fun f => { f with now := over f.now m bs }) HSO.out HFD.out HNK.out
    have hwi : Calls Tryz.prog 99 #[.agg #[.slice (some ⟨b, o, none⟩) rs.length c, .bool false, .int .i64 fu], .agg #[.string ⟨r.file.name.toArray⟩, .slice A6 (over r.file.now m bs).length c6, .slice r.B r.file.safe.length r.d]] w4 (RefPost (up G w) ⟨upd (sname a) (fun f => { f with now := over f.now m bs }) s.files, false, fu⟩ w4) := by
     have h9 := With_any _ c rs HFB.out (by omega) ⟨s.files, false, fu⟩ HS.out { r with file := { r.file with now := over r.file.now m bs }, A := A6, c := c6 } ⟨HS64.out.mono (fun _ _ h => .inr (Nat.le_trans HW3.out h)), HOKr.out.safe, ⟨HOL.out, HOKr.out.sz.2.1, HOKr.out.sz.2.2⟩, HCP6.out, HOKr.out.cs⟩
     rw [hput] at h9
     exact h9
    have HWI := Lib.hid hwi; clear hwi hput
    go_wp2_with fail
    (with_reducible refine HWI.out.mono ?_)
    clear f0 f1 f2
    rintro e w5 ⟨v5, rfl, ⟨A5, c5, rs5, rfl, hf5, hm5⟩, hb5⟩
    have HBX5 := Lib.hid (HBX.out.below hb5)
    have HF5 : Hid (Files (up G w) w5 A5 rs5) := hf5.mono (fun _ _ h => h.elim id (fun h2 => .inr (Nat.le_trans HBX.out.bel.size h2)))
    have HM5 := Lib.hid hm5
    clear b0 b1 b2 o0 o1 o2 o3 o4 r0 r1 r2 q0 q1 q2 HBX hb5 hf5 hm5
    obtain ⟨HBX, _⟩ := And.intro HBX5 trivial
    clear HBX5
    have b0 : w5.cell? ⟨w.heap.size, 0, none⟩ = some (.slice (some ⟨b, o, none⟩) rs.length c) := HBX.out.dsk.cell 0
    have b1 : w5.cell? ⟨w.heap.size, 1, none⟩ = some (.bool false) := HBX.out.dsk.cell 1
    have b2 : w5.cell? ⟨w.heap.size, 2, none⟩ = some (.int .i64 fu) := HBX.out.dsk.cell 2
    have o0 : w5.cell? ⟨w.heap.size + 1, 0, none⟩ = some (.int .i64 4) := HBX.out.op.cell 0
    have o1 : w5.cell? ⟨w.heap.size + 1, 1, none⟩ = some (.string a) := HBX.out.op.cell 1
    have o2 : w5.cell? ⟨w.heap.size + 1, 2, none⟩ = some (.string z) := HBX.out.op.cell 2
    have o3 : w5.cell? ⟨w.heap.size + 1, 3, none⟩ = some (.int .i64 (m : Int)) := HBX.out.op.cell 3
    have o4 : w5.cell? ⟨w.heap.size + 1, 4, none⟩ = some (.slice C bs.length cc) := HBX.out.op.cell 4
    have r0 : w5.cell? ⟨w.heap.size + 1 + 1, 0, none⟩ = some (.slice none 0 0) := HBX.out.res.cell 0
    have r1 : w5.cell? ⟨w.heap.size + 1 + 1, 1, none⟩ = some (.bool false) := HBX.out.res.cell 1
    have r2 : w5.cell? ⟨w.heap.size + 1 + 1, 2, none⟩ = some (.int .i64 0) := HBX.out.res.cell 2
    have q0 := HBX.out.res.free 0
    have q1 := HBX.out.res.free 1
    have q2 := HBX.out.res.free 2
    go_wp2_with fail
    refine bodyPost_ret (v := .tuple #[.agg #[.slice A5 rs5.length c5, .bool false, .int .i64 fu], .int .i64 0]) (by simp [results, Tryz.results63, go_sem, r0, r1, r2]) rfl ?_
    rw [HRES.out]
    exact HBX.out.out HF5.out HM5.out rfl _ _ _
  ·have hn : named (sname a) = false := by simpa using hn
   have HRES : Hid (Dsk.write s (sname a) num bs = (⟨s.files, false, fu⟩, 1)) := by
    show _ = _
    unfold Dsk.write; rw [HST.out]; simp only
    have : Dsk.look ⟨s.files, false, fu⟩ [sname a] = (none, 1) := by unfold Dsk.look; rw [if_neg (by simp), if_pos (by simp [hn])]
    rw [this]
   go_wp2_with fail
   (with_reducible refine (rname_any _ ha _).mono ?_); rintro e w' ⟨rfl, rfl⟩
   go_wp2_with fail
   refine bodyPost_ret (v := .tuple #[.agg #[.slice A rs.length c, .bool false, .int .i64 fu], .int .i64 1]) (by simp [results, Tryz.results63, go_sem, r0, r1, r2]) rfl ?_
   rw [HRES.out]
   exact HBX.out.out HFB.out HS.out rfl _ _ _
 ·skip
  have b0 : wB.cell? ⟨w.heap.size, 0, none⟩ = some (.slice A rs.length c) := HBX.out.dsk.cell 0
  have b1 : wB.cell? ⟨w.heap.size, 1, none⟩ = some (.bool true) := HBX.out.dsk.cell 1
  have b2 : wB.cell? ⟨w.heap.size, 2, none⟩ = some (.int .i64 fu) := HBX.out.dsk.cell 2
  have o0 : wB.cell? ⟨w.heap.size + 1, 0, none⟩ = some (.int .i64 4) := HBX.out.op.cell 0
  have o1 : wB.cell? ⟨w.heap.size + 1, 1, none⟩ = some (.string a) := HBX.out.op.cell 1
  have o2 : wB.cell? ⟨w.heap.size + 1, 2, none⟩ = some (.string z) := HBX.out.op.cell 2
  have o3 : wB.cell? ⟨w.heap.size + 1, 3, none⟩ = some (.int .i64 num) := HBX.out.op.cell 3
  have o4 : wB.cell? ⟨w.heap.size + 1, 4, none⟩ = some (.slice C bs.length cc) := HBX.out.op.cell 4
  have r0 : wB.cell? ⟨w.heap.size + 1 + 1, 0, none⟩ = some (.slice none 0 0) := HBX.out.res.cell 0
  have r1 : wB.cell? ⟨w.heap.size + 1 + 1, 1, none⟩ = some (.bool false) := HBX.out.res.cell 1
  have r2 : wB.cell? ⟨w.heap.size + 1 + 1, 2, none⟩ = some (.int .i64 0) := HBX.out.res.cell 2
  have q0 := HBX.out.res.free 0
  have q1 := HBX.out.res.free 1
  have q2 := HBX.out.res.free 2
  have HRES : Hid (Dsk.write s (sname a) num bs = (⟨s.files, true, fu⟩, 50)) := by
   show _ = _
   unfold Dsk.write; rw [HST.out]; simp only
   rw [look_down rfl]
  go_wp2_with fail
  refine bodyPost_ret (v := .tuple #[.agg #[.slice A rs.length c, .bool true, .int .i64 fu], .int .i64 50]) (by simp [results, Tryz.results63, go_sem, r0, r1, r2]) rfl ?_
  rw [HRES.out]
  exact HBX.out.out HFB.out HS.out rfl _ _ _
set_option maxRecDepth 100000 in
set_option maxHeartbeats 8000000 in
theorem Do5_any {G : Nat → Prop} {w : World} (A : Option Addr) (c : Nat) (rs : List RFile) (h : Files G w A rs) (s : S) (hs : rs.map RFile.file = s.files) (hct : rs.length ≤ 256) (hfu : s.fuse ≤ 9223372036854775807) (hso : Sorted s.files)
 (a z : ByteArray) (ha : a.size ≤ maxLen) (_hz : z.size ≤ maxLen) (num : Int) (hnum : (Lit.int .i64 num).wf = true) (C : Option Addr) (cc : Nat) (bs : List UInt8) (hbs : Sl fB w C bs) :
 Calls Tryz.prog 63 #[.agg #[.slice A rs.length c, .bool s.down, .int .i64 s.fuse], .agg #[.int .i64 5, .string a, .string z, .int .i64 num, .slice C bs.length cc]] w (DoPost G (Dsk.cut s (sname a) num) w) := by
 have hl := h.1.len
 have hbl := hbs.len
 have HF := Lib.hid h; clear h
 have HS := Lib.hid hs; clear hs
 have HSO := Lib.hid hso; clear hso
 have HBS := Lib.hid hbs; clear hbs
 have HNUM := Lib.hid hnum; clear hnum
 rcases hst : Dsk.step s with ⟨fs1, dn, fu⟩
 have hfs : fs1 = s.files := by have := step_files s; rw [hst] at this; exact this
 have hstp : ∀ W, Calls Tryz.prog 97 #[.agg #[.slice A rs.length c, .bool s.down, .int .i64 s.fuse]] W fun e w' => e = .returned (.agg #[.slice A rs.length c, .bool dn, .int .i64 fu]) ∧ Below W.heap.size W w' :=
  fun W => (Step_any A rs.length c s hfu W).mono (by rintro e w' ⟨he, hb⟩; rw [hst] at he; exact ⟨he, hb⟩)
 have HSTP := Lib.hid hstp; clear hstp
 subst hfs
 have HST := Lib.hid hst; clear hst hfu
 go_enter Tryz.func63, Tryz.ntmps63
 go_wp2_with fail
 obtain ⟨wa, hwa⟩ : ∃ wa, wa = ((w.alloc (.cells #[.slice A rs.length c, .bool s.down, .int .i64 s.fuse] 32)).alloc (.cells #[.int .i64 5, .string a, .string z, .int .i64 num, .slice C bs.length cc] 87)).alloc (.cells #[.slice none 0 0, .bool false, .int .i64 0] 32) := ⟨_, rfl⟩
 rw [← hwa]
 have hbxa : DoBox w A rs.length c s 5 a z num C bs.length cc wa := by
  have b2 := Blk.new_ (w.alloc (.cells #[.slice A rs.length c, .bool s.down, .int .i64 s.fuse] 32)) 87 #[.int .i64 5, .string a, .string z, .int .i64 num, .slice C bs.length cc]
  rw [World.size_alloc] at b2
  have b3 := Blk.new_ ((w.alloc (.cells #[.slice A rs.length c, .bool s.down, .int .i64 s.fuse] 32)).alloc (.cells #[.int .i64 5, .string a, .string z, .int .i64 num, .slice C bs.length cc] 87)) 32 #[.slice none 0 0, .bool false, .int .i64 0]
  rw [World.size_alloc, World.size_alloc] at b3
  rw [hwa]
  exact ⟨(((Below.refl _ _).alloc (Nat.le_refl _) _).alloc (by simp) _).alloc (by simp; omega) _, ((Blk.new_ w _ _).alloc _).alloc _, b2.alloc _, b3⟩
 have HBXA := Lib.hid hbxa; clear hbxa hwa
 (with_reducible refine (HSTP.out wa).mono ?_); rintro e w1 ⟨rfl, hb1⟩
 have hbx1 := HBXA.out.below hb1
 have d0 : w1.cell? ⟨w.heap.size, 0, none⟩ = some (.slice A rs.length c) := hbx1.dsk.cell 0
 have d1 : w1.cell? ⟨w.heap.size, 1, none⟩ = some (.bool s.down) := hbx1.dsk.cell 1
 have d2 : w1.cell? ⟨w.heap.size, 2, none⟩ = some (.int .i64 s.fuse) := hbx1.dsk.cell 2
 have g0 := hbx1.dsk.free 0
 have g1 := hbx1.dsk.free 1
 have g2 := hbx1.dsk.free 2
 have HBX1 := Lib.hid hbx1; clear hbx1 hb1 HBXA HSTP
 go_upto_region 2 with fail
 obtain ⟨wB, hwB⟩ : ∃ wB, wB = ((w1.setCell ⟨w.heap.size, 0, none⟩ (.slice A rs.length c)).setCell ⟨w.heap.size, 1, none⟩ (.bool dn)).setCell ⟨w.heap.size, 2, none⟩ (.int .i64 fu) := ⟨_, rfl⟩
 rw [← hwB]
 have hbx : DoBox w A rs.length c ⟨s.files, dn, fu⟩ 5 a z num C bs.length cc wB := by
  have e1 : w.heap.size + 1 ≠ w.heap.size := by omega
  have e2 : w.heap.size + 1 + 1 ≠ w.heap.size := by omega
  rw [hwB]
  exact ⟨((HBX1.out.bel.setCell (p := ⟨w.heap.size, 0, none⟩) (Nat.le_refl _) _).setCell (p := ⟨w.heap.size, 1, none⟩) (Nat.le_refl _) _).setCell (p := ⟨w.heap.size, 2, none⟩) (Nat.le_refl _) _,
   ((HBX1.out.dsk.set_ 0 _).set_ 1 _).set_ 2 _, ((HBX1.out.op.far (p := ⟨w.heap.size, 0, none⟩) e1 _).far (p := ⟨w.heap.size, 1, none⟩) e1 _).far (p := ⟨w.heap.size, 2, none⟩) e1 _,
   ((HBX1.out.res.far (p := ⟨w.heap.size, 0, none⟩) e2 _).far (p := ⟨w.heap.size, 1, none⟩) e2 _).far (p := ⟨w.heap.size, 2, none⟩) e2 _⟩
 clear d0 d1 d2 g0 g1 g2 hwB HBX1
 have HFB : Hid (Files (up G w) wB A rs) := (HF.out.below hbx.bel).mono (fun _ _ h => .inl h)
 have HBX := Lib.hid hbx; clear hbx
 cases dn
 ·skip
  have b0 : wB.cell? ⟨w.heap.size, 0, none⟩ = some (.slice A rs.length c) := HBX.out.dsk.cell 0
  have b1 : wB.cell? ⟨w.heap.size, 1, none⟩ = some (.bool false) := HBX.out.dsk.cell 1
  have b2 : wB.cell? ⟨w.heap.size, 2, none⟩ = some (.int .i64 fu) := HBX.out.dsk.cell 2
  have o0 : wB.cell? ⟨w.heap.size + 1, 0, none⟩ = some (.int .i64 5) := HBX.out.op.cell 0
  have o1 : wB.cell? ⟨w.heap.size + 1, 1, none⟩ = some (.string a) := HBX.out.op.cell 1
  have o2 : wB.cell? ⟨w.heap.size + 1, 2, none⟩ = some (.string z) := HBX.out.op.cell 2
  have o3 : wB.cell? ⟨w.heap.size + 1, 3, none⟩ = some (.int .i64 num) := HBX.out.op.cell 3
  have o4 : wB.cell? ⟨w.heap.size + 1, 4, none⟩ = some (.slice C bs.length cc) := HBX.out.op.cell 4
  have r0 : wB.cell? ⟨w.heap.size + 1 + 1, 0, none⟩ = some (.slice none 0 0) := HBX.out.res.cell 0
  have r1 : wB.cell? ⟨w.heap.size + 1 + 1, 1, none⟩ = some (.bool false) := HBX.out.res.cell 1
  have r2 : wB.cell? ⟨w.heap.size + 1 + 1, 2, none⟩ = some (.int .i64 0) := HBX.out.res.cell 2
  have q0 := HBX.out.res.free 0
  have q1 := HBX.out.res.free 1
  have q2 := HBX.out.res.free 2
  by_cases hn : named (sname a) = true
  ·skip
   go_wp2_with fail
   (with_reducible refine (rname_any _ ha _).mono ?_); rintro e w' ⟨rfl, rfl⟩
   go_wp2_with fail
   (with_reducible refine (Find_any A c rs HFB.out false fu a).mono ?_); rintro e w2 ⟨i, rfl, hb2, hi⟩
   have HBX2 := Lib.hid (HBX.out.below hb2)
   have HFB2 := Lib.hid (HFB.out.below hb2)
   clear b0 b1 b2 o0 o1 o2 o3 o4 r0 r1 r2 q0 q1 q2 HBX HFB hb2
   obtain ⟨HBX, HFB⟩ := And.intro HBX2 HFB2
   clear HBX2 HFB2
   have b0 : w2.cell? ⟨w.heap.size, 0, none⟩ = some (.slice A rs.length c) := HBX.out.dsk.cell 0
   have b1 : w2.cell? ⟨w.heap.size, 1, none⟩ = some (.bool false) := HBX.out.dsk.cell 1
   have b2 : w2.cell? ⟨w.heap.size, 2, none⟩ = some (.int .i64 fu) := HBX.out.dsk.cell 2
   have o0 : w2.cell? ⟨w.heap.size + 1, 0, none⟩ = some (.int .i64 5) := HBX.out.op.cell 0
   have o1 : w2.cell? ⟨w.heap.size + 1, 1, none⟩ = some (.string a) := HBX.out.op.cell 1
   have o2 : w2.cell? ⟨w.heap.size + 1, 2, none⟩ = some (.string z) := HBX.out.op.cell 2
   have o3 : w2.cell? ⟨w.heap.size + 1, 3, none⟩ = some (.int .i64 num) := HBX.out.op.cell 3
   have o4 : w2.cell? ⟨w.heap.size + 1, 4, none⟩ = some (.slice C bs.length cc) := HBX.out.op.cell 4
   have r0 : w2.cell? ⟨w.heap.size + 1 + 1, 0, none⟩ = some (.slice none 0 0) := HBX.out.res.cell 0
   have r1 : w2.cell? ⟨w.heap.size + 1 + 1, 1, none⟩ = some (.bool false) := HBX.out.res.cell 1
   have r2 : w2.cell? ⟨w.heap.size + 1 + 1, 2, none⟩ = some (.int .i64 0) := HBX.out.res.cell 2
   have q0 := HBX.out.res.free 0
   have q1 := HBX.out.res.free 1
   have q2 := HBX.out.res.free 2
   rcases hi with ⟨rfl, hnone⟩ | ⟨k, rfl, hk, hnk, hfirst⟩
   ·have hfd : find (sname a) s.files = none := by rw [← HS.out]; exact find_of_none hnone
    have HFD := Lib.hid hfd; clear hfd hnone
    have HRES : Hid (Dsk.cut s (sname a) num = (⟨s.files, false, fu⟩, 4)) := by
     show _ = _
     unfold Dsk.cut; rw [HST.out]
     simp only [look_none (s := ⟨s.files, false, fu⟩) rfl hn HFD.out]
    go_wp2_with fail
    refine bodyPost_ret (v := .tuple #[.agg #[.slice A rs.length c, .bool false, .int .i64 fu], .int .i64 4]) (by simp [results, Tryz.results63, go_sem, r0, r1, r2]) rfl ?_
    rw [HRES.out]
    exact HBX.out.out HFB.out HS.out rfl _ _ _
   ·have hfd : find (sname a) s.files = some rs[k].file := by rw [← HS.out]; exact find_of_at hk hnk hfirst
    have HFD := Lib.hid hfd; clear hfd hfirst
    obtain ⟨r, hr⟩ : ∃ r, r = rs[k] := ⟨_, rfl⟩
    obtain ⟨b, o, rfl, _, hbs, hc⟩ := HFB.out.1.at hk
    have c0 : w2.cell? ⟨b, o + k * 3, none⟩ = some (.string ⟨r.file.name.toArray⟩) := by rw [hr]; exact hc 0 (by decide)
    have c1 : w2.cell? ⟨b, o + k * 3 + 1, none⟩ = some (.slice r.A r.file.now.length r.c) := by rw [hr]; exact hc 1 (by decide)
    have c2 : w2.cell? ⟨b, o + k * 3 + 2, none⟩ = some (.slice r.B r.file.safe.length r.d) := by rw [hr]; exact hc 2 (by decide)
    have HOKr : Hid (RFok (up G w) w2 r) := by rw [hr]; exact HFB.out.2 _ (List.getElem_mem hk)
    rw [← hr] at HFD hnk
    have HNK := Lib.hid hnk
    clear hc hr hnk
    go_upto_region 16 with fail
    obtain ⟨w3, hw3⟩ : ∃ w3, w3 = w2.alloc (.cells #[.string ⟨r.file.name.toArray⟩, .slice r.A r.file.now.length r.c, .slice r.B r.file.safe.length r.d] 59) := ⟨_, rfl⟩
    rw [← hw3]
    have hab3 : Below w2.heap.size w2 w3 := by rw [hw3]; exact (Below.refl _ _).alloc (Nat.le_refl _) _
    have HFX : Hid (Blk w3 w2.heap.size 59 #[.string ⟨r.file.name.toArray⟩, .slice r.A r.file.now.length r.c, .slice r.B r.file.safe.length r.d]) := by rw [hw3]; exact Blk.new_ w2 _ _
    have HBX3 := Lib.hid (HBX.out.below hab3)
    have HFB3 := Lib.hid (HFB.out.below hab3)
    have HOK3 := Lib.hid (HOKr.out.below hab3)
    have hw2l : w.heap.size + 1 + 1 < w2.heap.size := HBX.out.res.lt
    clear b0 b1 b2 o0 o1 o2 o3 o4 r0 r1 r2 q0 q1 q2 c0 c1 c2 HBX HFB HOKr hw3 hab3
    obtain ⟨HBX, HFB, HOKr⟩ := And.intro HBX3 (And.intro HFB3 HOK3)
    clear HBX3 HFB3 HOK3
    have b0 : w3.cell? ⟨w.heap.size, 0, none⟩ = some (.slice (some ⟨b, o, none⟩) rs.length c) := HBX.out.dsk.cell 0
    have b1 : w3.cell? ⟨w.heap.size, 1, none⟩ = some (.bool false) := HBX.out.dsk.cell 1
    have b2 : w3.cell? ⟨w.heap.size, 2, none⟩ = some (.int .i64 fu) := HBX.out.dsk.cell 2
    have o0 : w3.cell? ⟨w.heap.size + 1, 0, none⟩ = some (.int .i64 5) := HBX.out.op.cell 0
    have o1 : w3.cell? ⟨w.heap.size + 1, 1, none⟩ = some (.string a) := HBX.out.op.cell 1
    have o2 : w3.cell? ⟨w.heap.size + 1, 2, none⟩ = some (.string z) := HBX.out.op.cell 2
    have o3 : w3.cell? ⟨w.heap.size + 1, 3, none⟩ = some (.int .i64 num) := HBX.out.op.cell 3
    have o4 : w3.cell? ⟨w.heap.size + 1, 4, none⟩ = some (.slice C bs.length cc) := HBX.out.op.cell 4
    have r0 : w3.cell? ⟨w.heap.size + 1 + 1, 0, none⟩ = some (.slice none 0 0) := HBX.out.res.cell 0
    have r1 : w3.cell? ⟨w.heap.size + 1 + 1, 1, none⟩ = some (.bool false) := HBX.out.res.cell 1
    have r2 : w3.cell? ⟨w.heap.size + 1 + 1, 2, none⟩ = some (.int .i64 0) := HBX.out.res.cell 2
    have q0 := HBX.out.res.free 0
    have q1 := HBX.out.res.free 1
    have q2 := HBX.out.res.free 2
    have f0 : w3.cell? ⟨w2.heap.size, 0, none⟩ = some (.string ⟨r.file.name.toArray⟩) := HFX.out.cell 0
    have f1 : w3.cell? ⟨w2.heap.size, 1, none⟩ = some (.slice r.A r.file.now.length r.c) := HFX.out.cell 1
    have f2 : w3.cell? ⟨w2.heap.size, 2, none⟩ = some (.slice r.B r.file.safe.length r.d) := HFX.out.cell 2
    have p0 := HFX.out.free 0
    have p1 := HFX.out.free 1
    have p2 := HFX.out.free 2
    by_cases hneg : num < 0
    ·skip
     have HRES : Hid (Dsk.cut s (sname a) num = (⟨s.files, false, fu⟩, 1)) := by
      show _ = _
      unfold Dsk.cut; rw [HST.out]; simp only [look_found (s := ⟨s.files, false, fu⟩) rfl hn HFD.out]
      rw [if_pos (by omega)]
     go_wp2_with fail
     refine bodyPost_ret (v := .tuple #[.agg #[.slice (some ⟨b, o, none⟩) rs.length c, .bool false, .int .i64 fu], .int .i64 1]) (by simp [results, Tryz.results63, go_sem, r0, r1, r2]) rfl ?_
     rw [HRES.out]
     exact HBX.out.out HFB.out HS.out rfl _ _ _
    by_cases hbig : (r.file.now.length : Int) < num
    ·skip
     have HRES : Hid (Dsk.cut s (sname a) num = (⟨s.files, false, fu⟩, 1)) := by
      show _ = _
      unfold Dsk.cut; rw [HST.out]; simp only [look_found (s := ⟨s.files, false, fu⟩) rfl hn HFD.out]
      rw [if_pos (by omega)]
     go_wp2_with fail
     refine bodyPost_ret (v := .tuple #[.agg #[.slice (some ⟨b, o, none⟩) rs.length c, .bool false, .int .i64 fu], .int .i64 1]) (by simp [results, Tryz.results63, go_sem, r0, r1, r2]) rfl ?_
     rw [HRES.out]
     exact HBX.out.out HFB.out HS.out rfl _ _ _
    obtain ⟨m, rfl⟩ := Int.eq_ofNat_of_zero_le (Int.not_lt.1 hneg)
    have hmle : m ≤ r.file.now.length := by omega
    have hm16 : m ≤ 65536 := by have := HOKr.out.sz.1; have h2 : r.file.now.length ≤ 65536 := this; omega
    have HRES : Hid (Dsk.cut s (sname a) (m : Int) = (⟨upd (sname a) (fun f => { f with now := f.now.take m, safe := f.safe.take m }) s.files, false, fu⟩, 0)) := by
     show _ = _
     unfold Dsk.cut; rw [HST.out]; simp only [look_found (s := ⟨s.files, false, fu⟩) rfl hn HFD.out]
     rw [if_neg (by omega)]; rfl
    obtain ⟨xa, hxa⟩ : ∃ x, x = r.file.now.take m := ⟨_, rfl⟩
    obtain ⟨xb, hxb⟩ : ∃ x, x = r.file.safe.take m := ⟨_, rfl⟩
    have HLA : Hid (xa.length ≤ 65536) := by show _ ≤ _; rw [hxa, List.length_take]; omega
    have HLB : Hid (xb.length ≤ 65536) := by show _ ≤ _; rw [hxb, List.length_take]; omega
    have hs1 : r.file.now.length ≤ 65536 := HOKr.out.sz.1
    have hs2 : r.file.safe.length ≤ 65536 := HOKr.out.sz.2.1
    have hov := rpart_any r.A r.c r.file.now 0 (m : Int) 0 m rfl rfl (by omega) (by omega) w3 HOKr.out.now.sl (by omega)
    rw [pieceD_take, ← hxa] at hov
    have hov2 : ∀ W, Sl fB W r.B r.file.safe → _ := fun W h => rpart_any r.B r.d r.file.safe 0 (m : Int) 0 m rfl rfl (by omega) (by omega) W h (by omega)
    simp only [pieceD_take, ← hxb] at hov2
    have HOV := Lib.hid hov; clear hov
    have HOV2 := Lib.hid hov2; clear hov2
    have HXA := Lib.hid hxa; clear hxa
    have HXB := Lib.hid hxb; clear hxb
    go_wp2_with fail
    (with_reducible refine HOV.out.mono ?_); rintro e w6 ⟨⟨A6, c6, rfl, hs6, hcp6⟩, hb6⟩; have HCP6 := Lib.hid hcp6; clear hcp6
    have HBXs := Lib.hid (HBX.out.below hb6)
    have HFBs := Lib.hid (HFB.out.below hb6)
    have HOKs := Lib.hid (HOKr.out.below hb6)
    have HFXs := Lib.hid (HFX.out.below hb6 HFX.out.lt)
    have HW3 : Hid (w.heap.size ≤ w3.heap.size) := HBX.out.bel.size
    clear b0 b1 b2 o0 o1 o2 o3 o4 r0 r1 r2 q0 q1 q2 f0 f1 f2 p0 p1 p2 HBX HFB HOKr HFX hb6
    obtain ⟨HBX, HFB, HOKr, HFX⟩ := And.intro HBXs (And.intro HFBs (And.intro HOKs HFXs))
    clear HBXs HFBs HOKs HFXs
    have b0 : w6.cell? ⟨w.heap.size, 0, none⟩ = some (.slice (some ⟨b, o, none⟩) rs.length c) := HBX.out.dsk.cell 0
    have b1 : w6.cell? ⟨w.heap.size, 1, none⟩ = some (.bool false) := HBX.out.dsk.cell 1
    have b2 : w6.cell? ⟨w.heap.size, 2, none⟩ = some (.int .i64 fu) := HBX.out.dsk.cell 2
    have o0 : w6.cell? ⟨w.heap.size + 1, 0, none⟩ = some (.int .i64 5) := HBX.out.op.cell 0
    have o1 : w6.cell? ⟨w.heap.size + 1, 1, none⟩ = some (.string a) := HBX.out.op.cell 1
    have o2 : w6.cell? ⟨w.heap.size + 1, 2, none⟩ = some (.string z) := HBX.out.op.cell 2
    have o3 : w6.cell? ⟨w.heap.size + 1, 3, none⟩ = some (.int .i64 (m : Int)) := HBX.out.op.cell 3
    have o4 : w6.cell? ⟨w.heap.size + 1, 4, none⟩ = some (.slice C bs.length cc) := HBX.out.op.cell 4
    have r0 : w6.cell? ⟨w.heap.size + 1 + 1, 0, none⟩ = some (.slice none 0 0) := HBX.out.res.cell 0
    have r1 : w6.cell? ⟨w.heap.size + 1 + 1, 1, none⟩ = some (.bool false) := HBX.out.res.cell 1
    have r2 : w6.cell? ⟨w.heap.size + 1 + 1, 2, none⟩ = some (.int .i64 0) := HBX.out.res.cell 2
    have q0 := HBX.out.res.free 0
    have q1 := HBX.out.res.free 1
    have q2 := HBX.out.res.free 2
    have f0 : w6.cell? ⟨w2.heap.size, 0, none⟩ = some (.string ⟨r.file.name.toArray⟩) := HFX.out.cell 0
    have f1 : w6.cell? ⟨w2.heap.size, 1, none⟩ = some (.slice r.A r.file.now.length r.c) := HFX.out.cell 1
    have f2 : w6.cell? ⟨w2.heap.size, 2, none⟩ = some (.slice r.B r.file.safe.length r.d) := HFX.out.cell 2
    have p0 := HFX.out.free 0
    have p1 := HFX.out.free 1
    have p2 := HFX.out.free 2
    have HS6 := Lib.hid hs6; clear hs6
    go_upto_region 32 with fail
    obtain ⟨w4, hw4⟩ : ∃ x, x = (w6).setCell ⟨w2.heap.size, 1, none⟩ (.slice A6 xa.length c6) := ⟨_, rfl⟩
    rw [← hw4]
    have hbne : b ≠ w2.heap.size := Nat.ne_of_lt hbs
    have HBX4 : Hid (DoBox w (some ⟨b, o, none⟩) rs.length c ⟨s.files, false, fu⟩ 5 a z (m : Int) C bs.length cc w4) := by rw [hw4]; exact (HBX.out).setFar (p := ⟨w2.heap.size, 1, none⟩) hw2l (.slice A6 xa.length c6)
    have HFB4 : Hid (Files (up G w) w4 (some ⟨b, o, none⟩) rs) := by rw [hw4]; exact (HFB.out).farF (HFX.out) hbne 1 (.slice A6 xa.length c6)
    have HOK4 : Hid (RFok (up G w) w4 r) := by rw [hw4]; exact (HOKr.out).far (HFX.out) (by decide) 1 (.slice A6 xa.length c6)
    have HS64 : Hid (SlB fB 5 (fun g => w3.heap.size ≤ g) w4 A6 xa) := by rw [hw4]; exact HS6.out.far HFX.out (by decide) 1 _
    clear b0 b1 b2 o0 o1 o2 o3 o4 r0 r1 r2 q0 q1 q2 f0 f1 f2 p0 p1 p2 HBX HFB HOKr
    have HFX4 : Hid (Blk w4 w2.heap.size 59 #[.string ⟨r.file.name.toArray⟩, .slice A6 xa.length c6, .slice r.B r.file.safe.length r.d]) := by rw [hw4]; exact (HFX.out).set_ 1 (.slice A6 xa.length c6)
    clear HFX hw4
    obtain ⟨HBX, HFB, HOKr⟩ := And.intro HBX4 (And.intro HFB4 HOK4)
    clear HBX4 HFB4 HOK4
    have b0 : w4.cell? ⟨w.heap.size, 0, none⟩ = some (.slice (some ⟨b, o, none⟩) rs.length c) := HBX.out.dsk.cell 0
    have b1 : w4.cell? ⟨w.heap.size, 1, none⟩ = some (.bool false) := HBX.out.dsk.cell 1
    have b2 : w4.cell? ⟨w.heap.size, 2, none⟩ = some (.int .i64 fu) := HBX.out.dsk.cell 2
    have o0 : w4.cell? ⟨w.heap.size + 1, 0, none⟩ = some (.int .i64 5) := HBX.out.op.cell 0
    have o1 : w4.cell? ⟨w.heap.size + 1, 1, none⟩ = some (.string a) := HBX.out.op.cell 1
    have o2 : w4.cell? ⟨w.heap.size + 1, 2, none⟩ = some (.string z) := HBX.out.op.cell 2
    have o3 : w4.cell? ⟨w.heap.size + 1, 3, none⟩ = some (.int .i64 (m : Int)) := HBX.out.op.cell 3
    have o4 : w4.cell? ⟨w.heap.size + 1, 4, none⟩ = some (.slice C bs.length cc) := HBX.out.op.cell 4
    have r0 : w4.cell? ⟨w.heap.size + 1 + 1, 0, none⟩ = some (.slice none 0 0) := HBX.out.res.cell 0
    have r1 : w4.cell? ⟨w.heap.size + 1 + 1, 1, none⟩ = some (.bool false) := HBX.out.res.cell 1
    have r2 : w4.cell? ⟨w.heap.size + 1 + 1, 2, none⟩ = some (.int .i64 0) := HBX.out.res.cell 2
    have q0 := HBX.out.res.free 0
    have q1 := HBX.out.res.free 1
    have q2 := HBX.out.res.free 2
    have f0 : w4.cell? ⟨w2.heap.size, 0, none⟩ = some (.string ⟨r.file.name.toArray⟩) := HFX4.out.cell 0
    have f1 : w4.cell? ⟨w2.heap.size, 1, none⟩ = some (.slice A6 xa.length c6) := HFX4.out.cell 1
    have f2 : w4.cell? ⟨w2.heap.size, 2, none⟩ = some (.slice r.B r.file.safe.length r.d) := HFX4.out.cell 2
    obtain ⟨HFX, _⟩ := And.intro HFX4 trivial
    clear HFX4 HS6
    have p0 := HFX.out.free 0
    have p1 := HFX.out.free 1
    have p2 := HFX.out.free 2
    go_wp2_with fail
    (with_reducible refine (HOV2.out _ HOKr.out.safe.sl).mono ?_); rintro e w7 ⟨⟨A7, c7, rfl, hs7, hcp7⟩, hb6⟩; have HCP7 := Lib.hid hcp7; clear hcp7
    have HBXs := Lib.hid (HBX.out.below hb6)
    have HFBs := Lib.hid (HFB.out.below hb6)
    have HOKs := Lib.hid (HOKr.out.below hb6)
    have HFXs := Lib.hid (HFX.out.below hb6 HFX.out.lt)
    have HW4 : Hid (w.heap.size ≤ w4.heap.size) := HBX.out.bel.size
    have HS64s := Lib.hid (HS64.out.below hb6)
    clear b0 b1 b2 o0 o1 o2 o3 o4 r0 r1 r2 q0 q1 q2 f0 f1 f2 p0 p1 p2 HBX HFB HOKr HFX hb6 HS64
    obtain ⟨HBX, HFB, HOKr, HFX⟩ := And.intro HBXs (And.intro HFBs (And.intro HOKs HFXs))
    clear HBXs HFBs HOKs HFXs
    obtain ⟨HS64, _⟩ := And.intro HS64s trivial
    clear HS64s
    have b0 : w7.cell? ⟨w.heap.size, 0, none⟩ = some (.slice (some ⟨b, o, none⟩) rs.length c) := HBX.out.dsk.cell 0
    have b1 : w7.cell? ⟨w.heap.size, 1, none⟩ = some (.bool false) := HBX.out.dsk.cell 1
    have b2 : w7.cell? ⟨w.heap.size, 2, none⟩ = some (.int .i64 fu) := HBX.out.dsk.cell 2
    have o0 : w7.cell? ⟨w.heap.size + 1, 0, none⟩ = some (.int .i64 5) := HBX.out.op.cell 0
    have o1 : w7.cell? ⟨w.heap.size + 1, 1, none⟩ = some (.string a) := HBX.out.op.cell 1
    have o2 : w7.cell? ⟨w.heap.size + 1, 2, none⟩ = some (.string z) := HBX.out.op.cell 2
    have o3 : w7.cell? ⟨w.heap.size + 1, 3, none⟩ = some (.int .i64 (m : Int)) := HBX.out.op.cell 3
    have o4 : w7.cell? ⟨w.heap.size + 1, 4, none⟩ = some (.slice C bs.length cc) := HBX.out.op.cell 4
    have r0 : w7.cell? ⟨w.heap.size + 1 + 1, 0, none⟩ = some (.slice none 0 0) := HBX.out.res.cell 0
    have r1 : w7.cell? ⟨w.heap.size + 1 + 1, 1, none⟩ = some (.bool false) := HBX.out.res.cell 1
    have r2 : w7.cell? ⟨w.heap.size + 1 + 1, 2, none⟩ = some (.int .i64 0) := HBX.out.res.cell 2
    have q0 := HBX.out.res.free 0
    have q1 := HBX.out.res.free 1
    have q2 := HBX.out.res.free 2
    have f0 : w7.cell? ⟨w2.heap.size, 0, none⟩ = some (.string ⟨r.file.name.toArray⟩) := HFX.out.cell 0
    have f1 : w7.cell? ⟨w2.heap.size, 1, none⟩ = some (.slice A6 xa.length c6) := HFX.out.cell 1
    have f2 : w7.cell? ⟨w2.heap.size, 2, none⟩ = some (.slice r.B r.file.safe.length r.d) := HFX.out.cell 2
    have p0 := HFX.out.free 0
    have p1 := HFX.out.free 1
    have p2 := HFX.out.free 2
    have HS7 := Lib.hid hs7; clear hs7
    go_upto_region 35 with fail
    obtain ⟨w8, hw4⟩ : ∃ x, x = (w7).setCell ⟨w2.heap.size, 2, none⟩ (.slice A7 xb.length c7) := ⟨_, rfl⟩
    rw [← hw4]
    have hbne : b ≠ w2.heap.size := Nat.ne_of_lt hbs
    have HBX4 : Hid (DoBox w (some ⟨b, o, none⟩) rs.length c ⟨s.files, false, fu⟩ 5 a z (m : Int) C bs.length cc w8) := by rw [hw4]; exact (HBX.out).setFar (p := ⟨w2.heap.size, 2, none⟩) hw2l (.slice A7 xb.length c7)
    have HFB4 : Hid (Files (up G w) w8 (some ⟨b, o, none⟩) rs) := by rw [hw4]; exact (HFB.out).farF (HFX.out) hbne 2 (.slice A7 xb.length c7)
    have HOK4 : Hid (RFok (up G w) w8 r) := by rw [hw4]; exact (HOKr.out).far (HFX.out) (by decide) 2 (.slice A7 xb.length c7)
    have HS68 : Hid (SlB fB 5 (fun g => w3.heap.size ≤ g) w8 A6 xa) := by rw [hw4]; exact HS64.out.far HFX.out (by decide) 2 _
    have HS78 : Hid (SlB fB 5 (fun g => w4.heap.size ≤ g) w8 A7 xb) := by rw [hw4]; exact HS7.out.far HFX.out (by decide) 2 _
    clear b0 b1 b2 o0 o1 o2 o3 o4 r0 r1 r2 q0 q1 q2 f0 f1 f2 p0 p1 p2 HBX HFB HOKr
    have HFX4 : Hid (Blk w8 w2.heap.size 59 #[.string ⟨r.file.name.toArray⟩, .slice A6 xa.length c6, .slice A7 xb.length c7]) := by rw [hw4]; exact (HFX.out).set_ 2 (.slice A7 xb.length c7)
    clear HFX hw4
    obtain ⟨HBX, HFB, HOKr⟩ := And.intro HBX4 (And.intro HFB4 HOK4)
    clear HBX4 HFB4 HOK4
    have b0 : w8.cell? ⟨w.heap.size, 0, none⟩ = some (.slice (some ⟨b, o, none⟩) rs.length c) := HBX.out.dsk.cell 0
    have b1 : w8.cell? ⟨w.heap.size, 1, none⟩ = some (.bool false) := HBX.out.dsk.cell 1
    have b2 : w8.cell? ⟨w.heap.size, 2, none⟩ = some (.int .i64 fu) := HBX.out.dsk.cell 2
    have o0 : w8.cell? ⟨w.heap.size + 1, 0, none⟩ = some (.int .i64 5) := HBX.out.op.cell 0
    have o1 : w8.cell? ⟨w.heap.size + 1, 1, none⟩ = some (.string a) := HBX.out.op.cell 1
    have o2 : w8.cell? ⟨w.heap.size + 1, 2, none⟩ = some (.string z) := HBX.out.op.cell 2
    have o3 : w8.cell? ⟨w.heap.size + 1, 3, none⟩ = some (.int .i64 (m : Int)) := HBX.out.op.cell 3
    have o4 : w8.cell? ⟨w.heap.size + 1, 4, none⟩ = some (.slice C bs.length cc) := HBX.out.op.cell 4
    have r0 : w8.cell? ⟨w.heap.size + 1 + 1, 0, none⟩ = some (.slice none 0 0) := HBX.out.res.cell 0
    have r1 : w8.cell? ⟨w.heap.size + 1 + 1, 1, none⟩ = some (.bool false) := HBX.out.res.cell 1
    have r2 : w8.cell? ⟨w.heap.size + 1 + 1, 2, none⟩ = some (.int .i64 0) := HBX.out.res.cell 2
    have q0 := HBX.out.res.free 0
    have q1 := HBX.out.res.free 1
    have q2 := HBX.out.res.free 2
    have f0 : w8.cell? ⟨w2.heap.size, 0, none⟩ = some (.string ⟨r.file.name.toArray⟩) := HFX4.out.cell 0
    have f1 : w8.cell? ⟨w2.heap.size, 1, none⟩ = some (.slice A6 xa.length c6) := HFX4.out.cell 1
    have f2 : w8.cell? ⟨w2.heap.size, 2, none⟩ = some (.slice A7 xb.length c7) := HFX4.out.cell 2
    have hput : put ({ r with file := { r.file with now := xa, safe := xb }, A := A6, c := c6, B := A7, d := c7 } : RFile).file s.files = upd (sname a) (fun f => { f with now := f.now.take m, safe := f.safe.take m }) s.files := by rw [HXA.out, HXB.out]; exact put_upd (g := fun f => { f with now := f.now.take m, safe := f.safe.take m }) HSO.out HFD.out HNK.out
    have hwi : Calls Tryz.prog 99 #[.agg #[.slice (some ⟨b, o, none⟩) rs.length c, .bool false, .int .i64 fu], .agg #[.string ⟨r.file.name.toArray⟩, .slice A6 xa.length c6, .slice A7 xb.length c7]] w8 (RefPost (up G w) ⟨upd (sname a) (fun f => { f with now := f.now.take m, safe := f.safe.take m }) s.files, false, fu⟩ w8) := by
     have h9 := With_any _ c rs HFB.out (by omega) ⟨s.files, false, fu⟩ HS.out { r with file := { r.file with now := xa, safe := xb }, A := A6, c := c6, B := A7, d := c7 } ⟨HS68.out.mono (fun _ _ h => .inr (Nat.le_trans HW3.out h)), HS78.out.mono (fun _ _ h => .inr (Nat.le_trans HW4.out h)), ⟨HLA.out, HLB.out, HOKr.out.sz.2.2⟩, HCP6.out, HCP7.out⟩
     rw [hput] at h9
     exact h9
    have HWI := Lib.hid hwi; clear hwi hput
    go_wp2_with fail
    (with_reducible refine HWI.out.mono ?_)
    clear f0 f1 f2
    rintro e w5 ⟨v5, rfl, ⟨A5, c5, rs5, rfl, hf5, hm5⟩, hb5⟩
    have HBX5 := Lib.hid (HBX.out.below hb5)
    have HF5 : Hid (Files (up G w) w5 A5 rs5) := hf5.mono (fun _ _ h => h.elim id (fun h2 => .inr (Nat.le_trans HBX.out.bel.size h2)))
    have HM5 := Lib.hid hm5
    clear b0 b1 b2 o0 o1 o2 o3 o4 r0 r1 r2 q0 q1 q2 HBX hb5 hf5 hm5
    obtain ⟨HBX, _⟩ := And.intro HBX5 trivial
    clear HBX5
    have b0 : w5.cell? ⟨w.heap.size, 0, none⟩ = some (.slice (some ⟨b, o, none⟩) rs.length c) := HBX.out.dsk.cell 0
    have b1 : w5.cell? ⟨w.heap.size, 1, none⟩ = some (.bool false) := HBX.out.dsk.cell 1
    have b2 : w5.cell? ⟨w.heap.size, 2, none⟩ = some (.int .i64 fu) := HBX.out.dsk.cell 2
    have o0 : w5.cell? ⟨w.heap.size + 1, 0, none⟩ = some (.int .i64 5) := HBX.out.op.cell 0
    have o1 : w5.cell? ⟨w.heap.size + 1, 1, none⟩ = some (.string a) := HBX.out.op.cell 1
    have o2 : w5.cell? ⟨w.heap.size + 1, 2, none⟩ = some (.string z) := HBX.out.op.cell 2
    have o3 : w5.cell? ⟨w.heap.size + 1, 3, none⟩ = some (.int .i64 (m : Int)) := HBX.out.op.cell 3
    have o4 : w5.cell? ⟨w.heap.size + 1, 4, none⟩ = some (.slice C bs.length cc) := HBX.out.op.cell 4
    have r0 : w5.cell? ⟨w.heap.size + 1 + 1, 0, none⟩ = some (.slice none 0 0) := HBX.out.res.cell 0
    have r1 : w5.cell? ⟨w.heap.size + 1 + 1, 1, none⟩ = some (.bool false) := HBX.out.res.cell 1
    have r2 : w5.cell? ⟨w.heap.size + 1 + 1, 2, none⟩ = some (.int .i64 0) := HBX.out.res.cell 2
    have q0 := HBX.out.res.free 0
    have q1 := HBX.out.res.free 1
    have q2 := HBX.out.res.free 2
    go_wp2_with fail
    refine bodyPost_ret (v := .tuple #[.agg #[.slice A5 rs5.length c5, .bool false, .int .i64 fu], .int .i64 0]) (by simp [results, Tryz.results63, go_sem, r0, r1, r2]) rfl ?_
    rw [HRES.out]
    exact HBX.out.out HF5.out HM5.out rfl _ _ _
  ·have hn : named (sname a) = false := by simpa using hn
   have HRES : Hid (Dsk.cut s (sname a) num = (⟨s.files, false, fu⟩, 1)) := by
    show _ = _
    unfold Dsk.cut; rw [HST.out]; simp only
    have : Dsk.look ⟨s.files, false, fu⟩ [sname a] = (none, 1) := by unfold Dsk.look; rw [if_neg (by simp), if_pos (by simp [hn])]
    rw [this]
   go_wp2_with fail
   (with_reducible refine (rname_any _ ha _).mono ?_); rintro e w' ⟨rfl, rfl⟩
   go_wp2_with fail
   refine bodyPost_ret (v := .tuple #[.agg #[.slice A rs.length c, .bool false, .int .i64 fu], .int .i64 1]) (by simp [results, Tryz.results63, go_sem, r0, r1, r2]) rfl ?_
   rw [HRES.out]
   exact HBX.out.out HFB.out HS.out rfl _ _ _
 ·skip
  have b0 : wB.cell? ⟨w.heap.size, 0, none⟩ = some (.slice A rs.length c) := HBX.out.dsk.cell 0
  have b1 : wB.cell? ⟨w.heap.size, 1, none⟩ = some (.bool true) := HBX.out.dsk.cell 1
  have b2 : wB.cell? ⟨w.heap.size, 2, none⟩ = some (.int .i64 fu) := HBX.out.dsk.cell 2
  have o0 : wB.cell? ⟨w.heap.size + 1, 0, none⟩ = some (.int .i64 5) := HBX.out.op.cell 0
  have o1 : wB.cell? ⟨w.heap.size + 1, 1, none⟩ = some (.string a) := HBX.out.op.cell 1
  have o2 : wB.cell? ⟨w.heap.size + 1, 2, none⟩ = some (.string z) := HBX.out.op.cell 2
  have o3 : wB.cell? ⟨w.heap.size + 1, 3, none⟩ = some (.int .i64 num) := HBX.out.op.cell 3
  have o4 : wB.cell? ⟨w.heap.size + 1, 4, none⟩ = some (.slice C bs.length cc) := HBX.out.op.cell 4
  have r0 : wB.cell? ⟨w.heap.size + 1 + 1, 0, none⟩ = some (.slice none 0 0) := HBX.out.res.cell 0
  have r1 : wB.cell? ⟨w.heap.size + 1 + 1, 1, none⟩ = some (.bool false) := HBX.out.res.cell 1
  have r2 : wB.cell? ⟨w.heap.size + 1 + 1, 2, none⟩ = some (.int .i64 0) := HBX.out.res.cell 2
  have q0 := HBX.out.res.free 0
  have q1 := HBX.out.res.free 1
  have q2 := HBX.out.res.free 2
  have HRES : Hid (Dsk.cut s (sname a) num = (⟨s.files, true, fu⟩, 50)) := by
   show _ = _
   unfold Dsk.cut; rw [HST.out]; simp only
   rw [look_down rfl]
  go_wp2_with fail
  refine bodyPost_ret (v := .tuple #[.agg #[.slice A rs.length c, .bool true, .int .i64 fu], .int .i64 50]) (by simp [results, Tryz.results63, go_sem, r0, r1, r2]) rfl ?_
  rw [HRES.out]
  exact HBX.out.out HFB.out HS.out rfl _ _ _
set_option maxRecDepth 100000 in
set_option maxHeartbeats 8000000 in
theorem Do6_any {G : Nat → Prop} {w : World} (A : Option Addr) (c : Nat) (rs : List RFile) (h : Files G w A rs) (s : S) (hs : rs.map RFile.file = s.files) (hct : rs.length ≤ 256) (hfu : s.fuse ≤ 9223372036854775807) (hso : Sorted s.files)
 (a z : ByteArray) (ha : a.size ≤ maxLen) (_hz : z.size ≤ maxLen) (num : Int) (hnum : (Lit.int .i64 num).wf = true) (C : Option Addr) (cc : Nat) (bs : List UInt8) (hbs : Sl fB w C bs) :
 Calls Tryz.prog 63 #[.agg #[.slice A rs.length c, .bool s.down, .int .i64 s.fuse], .agg #[.int .i64 6, .string a, .string z, .int .i64 num, .slice C bs.length cc]] w (DoPost G (Dsk.sync s (sname a)) w) := by
 have hl := h.1.len
 have hbl := hbs.len
 have HF := Lib.hid h; clear h
 have HS := Lib.hid hs; clear hs
 have HSO := Lib.hid hso; clear hso
 have HBS := Lib.hid hbs; clear hbs
 have HNUM := Lib.hid hnum; clear hnum
 rcases hst : Dsk.step s with ⟨fs1, dn, fu⟩
 have hfs : fs1 = s.files := by have := step_files s; rw [hst] at this; exact this
 have hstp : ∀ W, Calls Tryz.prog 97 #[.agg #[.slice A rs.length c, .bool s.down, .int .i64 s.fuse]] W fun e w' => e = .returned (.agg #[.slice A rs.length c, .bool dn, .int .i64 fu]) ∧ Below W.heap.size W w' :=
  fun W => (Step_any A rs.length c s hfu W).mono (by rintro e w' ⟨he, hb⟩; rw [hst] at he; exact ⟨he, hb⟩)
 have HSTP := Lib.hid hstp; clear hstp
 subst hfs
 have HST := Lib.hid hst; clear hst hfu
 go_enter Tryz.func63, Tryz.ntmps63
 go_wp2_with fail
 obtain ⟨wa, hwa⟩ : ∃ wa, wa = ((w.alloc (.cells #[.slice A rs.length c, .bool s.down, .int .i64 s.fuse] 32)).alloc (.cells #[.int .i64 6, .string a, .string z, .int .i64 num, .slice C bs.length cc] 87)).alloc (.cells #[.slice none 0 0, .bool false, .int .i64 0] 32) := ⟨_, rfl⟩
 rw [← hwa]
 have hbxa : DoBox w A rs.length c s 6 a z num C bs.length cc wa := by
  have b2 := Blk.new_ (w.alloc (.cells #[.slice A rs.length c, .bool s.down, .int .i64 s.fuse] 32)) 87 #[.int .i64 6, .string a, .string z, .int .i64 num, .slice C bs.length cc]
  rw [World.size_alloc] at b2
  have b3 := Blk.new_ ((w.alloc (.cells #[.slice A rs.length c, .bool s.down, .int .i64 s.fuse] 32)).alloc (.cells #[.int .i64 6, .string a, .string z, .int .i64 num, .slice C bs.length cc] 87)) 32 #[.slice none 0 0, .bool false, .int .i64 0]
  rw [World.size_alloc, World.size_alloc] at b3
  rw [hwa]
  exact ⟨(((Below.refl _ _).alloc (Nat.le_refl _) _).alloc (by simp) _).alloc (by simp; omega) _, ((Blk.new_ w _ _).alloc _).alloc _, b2.alloc _, b3⟩
 have HBXA := Lib.hid hbxa; clear hbxa hwa
 (with_reducible refine (HSTP.out wa).mono ?_); rintro e w1 ⟨rfl, hb1⟩
 have hbx1 := HBXA.out.below hb1
 have d0 : w1.cell? ⟨w.heap.size, 0, none⟩ = some (.slice A rs.length c) := hbx1.dsk.cell 0
 have d1 : w1.cell? ⟨w.heap.size, 1, none⟩ = some (.bool s.down) := hbx1.dsk.cell 1
 have d2 : w1.cell? ⟨w.heap.size, 2, none⟩ = some (.int .i64 s.fuse) := hbx1.dsk.cell 2
 have g0 := hbx1.dsk.free 0
 have g1 := hbx1.dsk.free 1
 have g2 := hbx1.dsk.free 2
 have HBX1 := Lib.hid hbx1; clear hbx1 hb1 HBXA HSTP
 go_upto_region 2 with fail
 obtain ⟨wB, hwB⟩ : ∃ wB, wB = ((w1.setCell ⟨w.heap.size, 0, none⟩ (.slice A rs.length c)).setCell ⟨w.heap.size, 1, none⟩ (.bool dn)).setCell ⟨w.heap.size, 2, none⟩ (.int .i64 fu) := ⟨_, rfl⟩
 rw [← hwB]
 have hbx : DoBox w A rs.length c ⟨s.files, dn, fu⟩ 6 a z num C bs.length cc wB := by
  have e1 : w.heap.size + 1 ≠ w.heap.size := by omega
  have e2 : w.heap.size + 1 + 1 ≠ w.heap.size := by omega
  rw [hwB]
  exact ⟨((HBX1.out.bel.setCell (p := ⟨w.heap.size, 0, none⟩) (Nat.le_refl _) _).setCell (p := ⟨w.heap.size, 1, none⟩) (Nat.le_refl _) _).setCell (p := ⟨w.heap.size, 2, none⟩) (Nat.le_refl _) _,
   ((HBX1.out.dsk.set_ 0 _).set_ 1 _).set_ 2 _, ((HBX1.out.op.far (p := ⟨w.heap.size, 0, none⟩) e1 _).far (p := ⟨w.heap.size, 1, none⟩) e1 _).far (p := ⟨w.heap.size, 2, none⟩) e1 _,
   ((HBX1.out.res.far (p := ⟨w.heap.size, 0, none⟩) e2 _).far (p := ⟨w.heap.size, 1, none⟩) e2 _).far (p := ⟨w.heap.size, 2, none⟩) e2 _⟩
 clear d0 d1 d2 g0 g1 g2 hwB HBX1
 have HFB : Hid (Files (up G w) wB A rs) := (HF.out.below hbx.bel).mono (fun _ _ h => .inl h)
 have HBX := Lib.hid hbx; clear hbx
 cases dn
 ·skip
  have b0 : wB.cell? ⟨w.heap.size, 0, none⟩ = some (.slice A rs.length c) := HBX.out.dsk.cell 0
  have b1 : wB.cell? ⟨w.heap.size, 1, none⟩ = some (.bool false) := HBX.out.dsk.cell 1
  have b2 : wB.cell? ⟨w.heap.size, 2, none⟩ = some (.int .i64 fu) := HBX.out.dsk.cell 2
  have o0 : wB.cell? ⟨w.heap.size + 1, 0, none⟩ = some (.int .i64 6) := HBX.out.op.cell 0
  have o1 : wB.cell? ⟨w.heap.size + 1, 1, none⟩ = some (.string a) := HBX.out.op.cell 1
  have o2 : wB.cell? ⟨w.heap.size + 1, 2, none⟩ = some (.string z) := HBX.out.op.cell 2
  have o3 : wB.cell? ⟨w.heap.size + 1, 3, none⟩ = some (.int .i64 num) := HBX.out.op.cell 3
  have o4 : wB.cell? ⟨w.heap.size + 1, 4, none⟩ = some (.slice C bs.length cc) := HBX.out.op.cell 4
  have r0 : wB.cell? ⟨w.heap.size + 1 + 1, 0, none⟩ = some (.slice none 0 0) := HBX.out.res.cell 0
  have r1 : wB.cell? ⟨w.heap.size + 1 + 1, 1, none⟩ = some (.bool false) := HBX.out.res.cell 1
  have r2 : wB.cell? ⟨w.heap.size + 1 + 1, 2, none⟩ = some (.int .i64 0) := HBX.out.res.cell 2
  have q0 := HBX.out.res.free 0
  have q1 := HBX.out.res.free 1
  have q2 := HBX.out.res.free 2
  by_cases hn : named (sname a) = true
  ·skip
   go_wp2_with fail
   (with_reducible refine (rname_any _ ha _).mono ?_); rintro e w' ⟨rfl, rfl⟩
   go_wp2_with fail
   (with_reducible refine (Find_any A c rs HFB.out false fu a).mono ?_); rintro e w2 ⟨i, rfl, hb2, hi⟩
   have HBX2 := Lib.hid (HBX.out.below hb2)
   have HFB2 := Lib.hid (HFB.out.below hb2)
   clear b0 b1 b2 o0 o1 o2 o3 o4 r0 r1 r2 q0 q1 q2 HBX HFB hb2
   obtain ⟨HBX, HFB⟩ := And.intro HBX2 HFB2
   clear HBX2 HFB2
   have b0 : w2.cell? ⟨w.heap.size, 0, none⟩ = some (.slice A rs.length c) := HBX.out.dsk.cell 0
   have b1 : w2.cell? ⟨w.heap.size, 1, none⟩ = some (.bool false) := HBX.out.dsk.cell 1
   have b2 : w2.cell? ⟨w.heap.size, 2, none⟩ = some (.int .i64 fu) := HBX.out.dsk.cell 2
   have o0 : w2.cell? ⟨w.heap.size + 1, 0, none⟩ = some (.int .i64 6) := HBX.out.op.cell 0
   have o1 : w2.cell? ⟨w.heap.size + 1, 1, none⟩ = some (.string a) := HBX.out.op.cell 1
   have o2 : w2.cell? ⟨w.heap.size + 1, 2, none⟩ = some (.string z) := HBX.out.op.cell 2
   have o3 : w2.cell? ⟨w.heap.size + 1, 3, none⟩ = some (.int .i64 num) := HBX.out.op.cell 3
   have o4 : w2.cell? ⟨w.heap.size + 1, 4, none⟩ = some (.slice C bs.length cc) := HBX.out.op.cell 4
   have r0 : w2.cell? ⟨w.heap.size + 1 + 1, 0, none⟩ = some (.slice none 0 0) := HBX.out.res.cell 0
   have r1 : w2.cell? ⟨w.heap.size + 1 + 1, 1, none⟩ = some (.bool false) := HBX.out.res.cell 1
   have r2 : w2.cell? ⟨w.heap.size + 1 + 1, 2, none⟩ = some (.int .i64 0) := HBX.out.res.cell 2
   have q0 := HBX.out.res.free 0
   have q1 := HBX.out.res.free 1
   have q2 := HBX.out.res.free 2
   rcases hi with ⟨rfl, hnone⟩ | ⟨k, rfl, hk, hnk, hfirst⟩
   ·have hfd : find (sname a) s.files = none := by rw [← HS.out]; exact find_of_none hnone
    have HFD := Lib.hid hfd; clear hfd hnone
    have HRES : Hid (Dsk.sync s (sname a) = (⟨s.files, false, fu⟩, 4)) := by
     show _ = _
     unfold Dsk.sync; rw [HST.out]
     simp only [look_none (s := ⟨s.files, false, fu⟩) rfl hn HFD.out]
    go_wp2_with fail
    refine bodyPost_ret (v := .tuple #[.agg #[.slice A rs.length c, .bool false, .int .i64 fu], .int .i64 4]) (by simp [results, Tryz.results63, go_sem, r0, r1, r2]) rfl ?_
    rw [HRES.out]
    exact HBX.out.out HFB.out HS.out rfl _ _ _
   ·have hfd : find (sname a) s.files = some rs[k].file := by rw [← HS.out]; exact find_of_at hk hnk hfirst
    have HFD := Lib.hid hfd; clear hfd hfirst
    obtain ⟨r, hr⟩ : ∃ r, r = rs[k] := ⟨_, rfl⟩
    obtain ⟨b, o, rfl, _, hbs, hc⟩ := HFB.out.1.at hk
    have c0 : w2.cell? ⟨b, o + k * 3, none⟩ = some (.string ⟨r.file.name.toArray⟩) := by rw [hr]; exact hc 0 (by decide)
    have c1 : w2.cell? ⟨b, o + k * 3 + 1, none⟩ = some (.slice r.A r.file.now.length r.c) := by rw [hr]; exact hc 1 (by decide)
    have c2 : w2.cell? ⟨b, o + k * 3 + 2, none⟩ = some (.slice r.B r.file.safe.length r.d) := by rw [hr]; exact hc 2 (by decide)
    have HOKr : Hid (RFok (up G w) w2 r) := by rw [hr]; exact HFB.out.2 _ (List.getElem_mem hk)
    rw [← hr] at HFD hnk
    have HNK := Lib.hid hnk
    clear hc hr hnk
    go_upto_region 16 with fail
    obtain ⟨w3, hw3⟩ : ∃ w3, w3 = w2.alloc (.cells #[.string ⟨r.file.name.toArray⟩, .slice r.A r.file.now.length r.c, .slice r.B r.file.safe.length r.d] 59) := ⟨_, rfl⟩
    rw [← hw3]
    have hab3 : Below w2.heap.size w2 w3 := by rw [hw3]; exact (Below.refl _ _).alloc (Nat.le_refl _) _
    have HFX : Hid (Blk w3 w2.heap.size 59 #[.string ⟨r.file.name.toArray⟩, .slice r.A r.file.now.length r.c, .slice r.B r.file.safe.length r.d]) := by rw [hw3]; exact Blk.new_ w2 _ _
    have HBX3 := Lib.hid (HBX.out.below hab3)
    have HFB3 := Lib.hid (HFB.out.below hab3)
    have HOK3 := Lib.hid (HOKr.out.below hab3)
    have hw2l : w.heap.size + 1 + 1 < w2.heap.size := HBX.out.res.lt
    clear b0 b1 b2 o0 o1 o2 o3 o4 r0 r1 r2 q0 q1 q2 c0 c1 c2 HBX HFB HOKr hw3 hab3
    obtain ⟨HBX, HFB, HOKr⟩ := And.intro HBX3 (And.intro HFB3 HOK3)
    clear HBX3 HFB3 HOK3
    have b0 : w3.cell? ⟨w.heap.size, 0, none⟩ = some (.slice (some ⟨b, o, none⟩) rs.length c) := HBX.out.dsk.cell 0
    have b1 : w3.cell? ⟨w.heap.size, 1, none⟩ = some (.bool false) := HBX.out.dsk.cell 1
    have b2 : w3.cell? ⟨w.heap.size, 2, none⟩ = some (.int .i64 fu) := HBX.out.dsk.cell 2
    have o0 : w3.cell? ⟨w.heap.size + 1, 0, none⟩ = some (.int .i64 6) := HBX.out.op.cell 0
    have o1 : w3.cell? ⟨w.heap.size + 1, 1, none⟩ = some (.string a) := HBX.out.op.cell 1
    have o2 : w3.cell? ⟨w.heap.size + 1, 2, none⟩ = some (.string z) := HBX.out.op.cell 2
    have o3 : w3.cell? ⟨w.heap.size + 1, 3, none⟩ = some (.int .i64 num) := HBX.out.op.cell 3
    have o4 : w3.cell? ⟨w.heap.size + 1, 4, none⟩ = some (.slice C bs.length cc) := HBX.out.op.cell 4
    have r0 : w3.cell? ⟨w.heap.size + 1 + 1, 0, none⟩ = some (.slice none 0 0) := HBX.out.res.cell 0
    have r1 : w3.cell? ⟨w.heap.size + 1 + 1, 1, none⟩ = some (.bool false) := HBX.out.res.cell 1
    have r2 : w3.cell? ⟨w.heap.size + 1 + 1, 2, none⟩ = some (.int .i64 0) := HBX.out.res.cell 2
    have q0 := HBX.out.res.free 0
    have q1 := HBX.out.res.free 1
    have q2 := HBX.out.res.free 2
    have f0 : w3.cell? ⟨w2.heap.size, 0, none⟩ = some (.string ⟨r.file.name.toArray⟩) := HFX.out.cell 0
    have f1 : w3.cell? ⟨w2.heap.size, 1, none⟩ = some (.slice r.A r.file.now.length r.c) := HFX.out.cell 1
    have f2 : w3.cell? ⟨w2.heap.size, 2, none⟩ = some (.slice r.B r.file.safe.length r.d) := HFX.out.cell 2
    have p0 := HFX.out.free 0
    have p1 := HFX.out.free 1
    have p2 := HFX.out.free 2
    have HRES : Hid (Dsk.sync s (sname a) = (⟨upd (sname a) (fun f => { f with safe := f.now }) s.files, false, fu⟩, 0)) := by
     show _ = _
     unfold Dsk.sync; rw [HST.out]; simp only [look_found (s := ⟨s.files, false, fu⟩) rfl hn HFD.out]
    go_upto_region 35 with fail
    obtain ⟨w4, hw4⟩ : ∃ x, x = (w3).setCell ⟨w2.heap.size, 2, none⟩ (.slice r.A r.file.now.length r.c) := ⟨_, rfl⟩
    rw [← hw4]
    have hbne : b ≠ w2.heap.size := Nat.ne_of_lt hbs
    have HBX4 : Hid (DoBox w (some ⟨b, o, none⟩) rs.length c ⟨s.files, false, fu⟩ 6 a z num C bs.length cc w4) := by rw [hw4]; exact (HBX.out).setFar (p := ⟨w2.heap.size, 2, none⟩) hw2l (.slice r.A r.file.now.length r.c)
    have HFB4 : Hid (Files (up G w) w4 (some ⟨b, o, none⟩) rs) := by rw [hw4]; exact (HFB.out).farF (HFX.out) hbne 2 (.slice r.A r.file.now.length r.c)
    have HOK4 : Hid (RFok (up G w) w4 r) := by rw [hw4]; exact (HOKr.out).far (HFX.out) (by decide) 2 (.slice r.A r.file.now.length r.c)
    clear b0 b1 b2 o0 o1 o2 o3 o4 r0 r1 r2 q0 q1 q2 f0 f1 f2 p0 p1 p2 HBX HFB HOKr
    have HFX4 : Hid (Blk w4 w2.heap.size 59 #[.string ⟨r.file.name.toArray⟩, .slice r.A r.file.now.length r.c, .slice r.A r.file.now.length r.c]) := by rw [hw4]; exact (HFX.out).set_ 2 (.slice r.A r.file.now.length r.c)
    clear HFX hw4
    obtain ⟨HBX, HFB, HOKr⟩ := And.intro HBX4 (And.intro HFB4 HOK4)
    clear HBX4 HFB4 HOK4
    have b0 : w4.cell? ⟨w.heap.size, 0, none⟩ = some (.slice (some ⟨b, o, none⟩) rs.length c) := HBX.out.dsk.cell 0
    have b1 : w4.cell? ⟨w.heap.size, 1, none⟩ = some (.bool false) := HBX.out.dsk.cell 1
    have b2 : w4.cell? ⟨w.heap.size, 2, none⟩ = some (.int .i64 fu) := HBX.out.dsk.cell 2
    have o0 : w4.cell? ⟨w.heap.size + 1, 0, none⟩ = some (.int .i64 6) := HBX.out.op.cell 0
    have o1 : w4.cell? ⟨w.heap.size + 1, 1, none⟩ = some (.string a) := HBX.out.op.cell 1
    have o2 : w4.cell? ⟨w.heap.size + 1, 2, none⟩ = some (.string z) := HBX.out.op.cell 2
    have o3 : w4.cell? ⟨w.heap.size + 1, 3, none⟩ = some (.int .i64 num) := HBX.out.op.cell 3
    have o4 : w4.cell? ⟨w.heap.size + 1, 4, none⟩ = some (.slice C bs.length cc) := HBX.out.op.cell 4
    have r0 : w4.cell? ⟨w.heap.size + 1 + 1, 0, none⟩ = some (.slice none 0 0) := HBX.out.res.cell 0
    have r1 : w4.cell? ⟨w.heap.size + 1 + 1, 1, none⟩ = some (.bool false) := HBX.out.res.cell 1
    have r2 : w4.cell? ⟨w.heap.size + 1 + 1, 2, none⟩ = some (.int .i64 0) := HBX.out.res.cell 2
    have q0 := HBX.out.res.free 0
    have q1 := HBX.out.res.free 1
    have q2 := HBX.out.res.free 2
    have f0 : w4.cell? ⟨w2.heap.size, 0, none⟩ = some (.string ⟨r.file.name.toArray⟩) := HFX4.out.cell 0
    have f1 : w4.cell? ⟨w2.heap.size, 1, none⟩ = some (.slice r.A r.file.now.length r.c) := HFX4.out.cell 1
    have f2 : w4.cell? ⟨w2.heap.size, 2, none⟩ = some (.slice r.A r.file.now.length r.c) := HFX4.out.cell 2
    have hput : put ({ r with file := { r.file with safe := r.file.now }, B := r.A, d := r.c } : RFile).file s.files = upd (sname a) (fun f => { f with safe := f.now }) s.files := put_upd (g := fun f => { f with safe := f.now }) HSO.out HFD.out HNK.out
    have hwi : Calls Tryz.prog 99 #[.agg #[.slice (some ⟨b, o, none⟩) rs.length c, .bool false, .int .i64 fu], .agg #[.string ⟨r.file.name.toArray⟩, .slice r.A r.file.now.length r.c, .slice r.A r.file.now.length r.c]] w4 (RefPost (up G w) ⟨upd (sname a) (fun f => { f with safe := f.now }) s.files, false, fu⟩ w4) := by
     have h9 := With_any _ c rs HFB.out (by omega) ⟨s.files, false, fu⟩ HS.out { r with file := { r.file with safe := r.file.now }, B := r.A, d := r.c } ⟨HOKr.out.now, HOKr.out.now, ⟨HOKr.out.sz.1, HOKr.out.sz.1, HOKr.out.sz.2.2⟩, HOKr.out.cn, HOKr.out.cn⟩
     rw [hput] at h9
     exact h9
    have HWI := Lib.hid hwi; clear hwi hput
    go_wp2_with fail
    (with_reducible refine HWI.out.mono ?_)
    clear f0 f1 f2
    rintro e w5 ⟨v5, rfl, ⟨A5, c5, rs5, rfl, hf5, hm5⟩, hb5⟩
    have HBX5 := Lib.hid (HBX.out.below hb5)
    have HF5 : Hid (Files (up G w) w5 A5 rs5) := hf5.mono (fun _ _ h => h.elim id (fun h2 => .inr (Nat.le_trans HBX.out.bel.size h2)))
    have HM5 := Lib.hid hm5
    clear b0 b1 b2 o0 o1 o2 o3 o4 r0 r1 r2 q0 q1 q2 HBX hb5 hf5 hm5
    obtain ⟨HBX, _⟩ := And.intro HBX5 trivial
    clear HBX5
    have b0 : w5.cell? ⟨w.heap.size, 0, none⟩ = some (.slice (some ⟨b, o, none⟩) rs.length c) := HBX.out.dsk.cell 0
    have b1 : w5.cell? ⟨w.heap.size, 1, none⟩ = some (.bool false) := HBX.out.dsk.cell 1
    have b2 : w5.cell? ⟨w.heap.size, 2, none⟩ = some (.int .i64 fu) := HBX.out.dsk.cell 2
    have o0 : w5.cell? ⟨w.heap.size + 1, 0, none⟩ = some (.int .i64 6) := HBX.out.op.cell 0
    have o1 : w5.cell? ⟨w.heap.size + 1, 1, none⟩ = some (.string a) := HBX.out.op.cell 1
    have o2 : w5.cell? ⟨w.heap.size + 1, 2, none⟩ = some (.string z) := HBX.out.op.cell 2
    have o3 : w5.cell? ⟨w.heap.size + 1, 3, none⟩ = some (.int .i64 num) := HBX.out.op.cell 3
    have o4 : w5.cell? ⟨w.heap.size + 1, 4, none⟩ = some (.slice C bs.length cc) := HBX.out.op.cell 4
    have r0 : w5.cell? ⟨w.heap.size + 1 + 1, 0, none⟩ = some (.slice none 0 0) := HBX.out.res.cell 0
    have r1 : w5.cell? ⟨w.heap.size + 1 + 1, 1, none⟩ = some (.bool false) := HBX.out.res.cell 1
    have r2 : w5.cell? ⟨w.heap.size + 1 + 1, 2, none⟩ = some (.int .i64 0) := HBX.out.res.cell 2
    have q0 := HBX.out.res.free 0
    have q1 := HBX.out.res.free 1
    have q2 := HBX.out.res.free 2
    go_wp2_with fail
    refine bodyPost_ret (v := .tuple #[.agg #[.slice A5 rs5.length c5, .bool false, .int .i64 fu], .int .i64 0]) (by simp [results, Tryz.results63, go_sem, r0, r1, r2]) rfl ?_
    rw [HRES.out]
    exact HBX.out.out HF5.out HM5.out rfl _ _ _
  ·have hn : named (sname a) = false := by simpa using hn
   have HRES : Hid (Dsk.sync s (sname a) = (⟨s.files, false, fu⟩, 1)) := by
    show _ = _
    unfold Dsk.sync; rw [HST.out]; simp only
    have : Dsk.look ⟨s.files, false, fu⟩ [sname a] = (none, 1) := by unfold Dsk.look; rw [if_neg (by simp), if_pos (by simp [hn])]
    rw [this]
   go_wp2_with fail
   (with_reducible refine (rname_any _ ha _).mono ?_); rintro e w' ⟨rfl, rfl⟩
   go_wp2_with fail
   refine bodyPost_ret (v := .tuple #[.agg #[.slice A rs.length c, .bool false, .int .i64 fu], .int .i64 1]) (by simp [results, Tryz.results63, go_sem, r0, r1, r2]) rfl ?_
   rw [HRES.out]
   exact HBX.out.out HFB.out HS.out rfl _ _ _
 ·skip
  have b0 : wB.cell? ⟨w.heap.size, 0, none⟩ = some (.slice A rs.length c) := HBX.out.dsk.cell 0
  have b1 : wB.cell? ⟨w.heap.size, 1, none⟩ = some (.bool true) := HBX.out.dsk.cell 1
  have b2 : wB.cell? ⟨w.heap.size, 2, none⟩ = some (.int .i64 fu) := HBX.out.dsk.cell 2
  have o0 : wB.cell? ⟨w.heap.size + 1, 0, none⟩ = some (.int .i64 6) := HBX.out.op.cell 0
  have o1 : wB.cell? ⟨w.heap.size + 1, 1, none⟩ = some (.string a) := HBX.out.op.cell 1
  have o2 : wB.cell? ⟨w.heap.size + 1, 2, none⟩ = some (.string z) := HBX.out.op.cell 2
  have o3 : wB.cell? ⟨w.heap.size + 1, 3, none⟩ = some (.int .i64 num) := HBX.out.op.cell 3
  have o4 : wB.cell? ⟨w.heap.size + 1, 4, none⟩ = some (.slice C bs.length cc) := HBX.out.op.cell 4
  have r0 : wB.cell? ⟨w.heap.size + 1 + 1, 0, none⟩ = some (.slice none 0 0) := HBX.out.res.cell 0
  have r1 : wB.cell? ⟨w.heap.size + 1 + 1, 1, none⟩ = some (.bool false) := HBX.out.res.cell 1
  have r2 : wB.cell? ⟨w.heap.size + 1 + 1, 2, none⟩ = some (.int .i64 0) := HBX.out.res.cell 2
  have q0 := HBX.out.res.free 0
  have q1 := HBX.out.res.free 1
  have q2 := HBX.out.res.free 2
  have HRES : Hid (Dsk.sync s (sname a) = (⟨s.files, true, fu⟩, 50)) := by
   show _ = _
   unfold Dsk.sync; rw [HST.out]; simp only
   rw [look_down rfl]
  go_wp2_with fail
  refine bodyPost_ret (v := .tuple #[.agg #[.slice A rs.length c, .bool true, .int .i64 fu], .int .i64 50]) (by simp [results, Tryz.results63, go_sem, r0, r1, r2]) rfl ?_
  rw [HRES.out]
  exact HBX.out.out HFB.out HS.out rfl _ _ _
end Go.Proofs.YtfpomllhkbbipaaGreatDoor
namespace Go.Proofs.YtfpomllhkbbipaaGreatDoor
open Go.RowKit Go.Maps Mem Dsk
theorem Do_any {G : Nat → Prop} {w : World} (A : Option Addr) (c : Nat) (rs : List RFile) (h : Files G w A rs) (s : S) (hs : rs.map RFile.file = s.files) (hct : rs.length ≤ 256) (hfu : s.fuse ≤ 9223372036854775807) (hso : Sorted s.files)
 (a z : ByteArray) (ha : a.size ≤ maxLen) (hz : z.size ≤ maxLen) (num : Int) (hnum : (Lit.int .i64 num).wf = true) (C : Option Addr) (cc : Nat) (bs : List UInt8) (hbs : Sl fB w C bs) (kind : Int) (h1 : 1 ≤ kind) (h6 : kind ≤ 6) :
 Calls Tryz.prog 63 #[.agg #[.slice A rs.length c, .bool s.down, .int .i64 s.fuse], .agg #[.int .i64 kind, .string a, .string z, .int .i64 num, .slice C bs.length cc]] w (DoPost G (doStep s kind (sname a) (sname z) num bs) w) := by
 have hk : kind = 1 ∨ kind = 2 ∨ kind = 3 ∨ kind = 4 ∨ kind = 5 ∨ kind = 6 := by omega
 rcases hk with rfl | rfl | rfl | rfl | rfl | rfl
 ·exact Do1_any A c rs h s hs hct hfu hso a z ha hz num hnum C cc bs hbs
 ·exact Do2_any A c rs h s hs hct hfu hso a z ha hz num hnum C cc bs hbs
 ·exact Do3_any A c rs h s hs hct hfu hso a z ha hz num hnum C cc bs hbs
 ·exact Do4_any A c rs h s hs hct hfu hso a z ha hz num hnum C cc bs hbs
 ·exact Do5_any A c rs h s hs hct hfu hso a z ha hz num hnum C cc bs hbs
 ·exact Do6_any A c rs h s hs hct hfu hso a z ha hz num hnum C cc bs hbs
end Go.Proofs.YtfpomllhkbbipaaGreatDoor
namespace Go.Proofs.YtfpomllhkbbipaaGreatDoor
open Go.RowKit Go.Maps Mem Dsk
theorem below_drew (w : World) : Below w.heap.size w w.drew := ⟨rfl, rfl, rfl, Nat.le_refl _, fun _ _ => rfl⟩
theorem held_mk {wr W : World} {g : Nat} {t : TypeId} {v0 v1 v2 : Value} (h : Blk wr g t #[v0, v1, v2]) (hb : Below wr.heap.size wr W) : W.cell? ⟨g, 1, none⟩ = some v1 ∧ W.cell? ⟨g, 2, none⟩ = some v2 ∧ Below wr.heap.size wr W :=
 ⟨(h.below hb h.lt).cell 1, (h.below hb h.lt).cell 2, hb⟩
set_option maxRecDepth 100000 in
set_option maxHeartbeats 2000000 in
theorem rLoose_any {G : Nat → Prop} {w : World} (r : RFile) (h : RFok G w r) :
 Calls Tryz.prog 44 #[.agg #[.string ⟨r.file.name.toArray⟩, .slice r.A r.file.now.length r.c, .slice r.B r.file.safe.length r.d]] w fun e w' => ∃ A c, e = .returned (.slice A (loose r.file).length c) ∧ Mem.Own fN w.heap.size 3 w' (.slice A (loose r.file).length c) (loose r.file) ∧ Below w.heap.size w w' := by
 have hlen : r.file.now.length ≤ 65536 := h.sz.1
 have hlen2 : r.file.safe.length ≤ 65536 := h.sz.2.1
 have H := Lib.hid h; clear h
 have hnew := Blk.new_ w 59 #[.string ⟨r.file.name.toArray⟩, .slice r.A r.file.now.length r.c, .slice r.B r.file.safe.length r.d]
 obtain ⟨wa, hwa⟩ : ∃ x, x = w.alloc (.cells #[.string ⟨r.file.name.toArray⟩, .slice r.A r.file.now.length r.c, .slice r.B r.file.safe.length r.d] 59) := ⟨_, rfl⟩
 have hab : Below w.heap.size w wa := by rw [hwa]; exact (Below.refl _ _).alloc (Nat.le_refl _) _
 rw [← hwa] at hnew
 have HA : Hid (RFok G wa r) := H.out.below hab
 have HWA := Lib.hid hwa; clear hwa
 have HAB := Lib.hid hab; clear hab
 have HNEW := Lib.hid hnew; clear hnew
 have HL := Lib.hid hlen; clear hlen
 have HL2 := Lib.hid hlen2; clear hlen2
 go_enter Tryz.func44, Tryz.ntmps44
 go_upto_region 1 with fail
 rw [← HWA.out]
 go_wp2_with fail
 go_loopw [3, 4] (fun ov iv wr => LooseRel r.file wa wa.heap.size ov iv wr) (fun _ iv _ => (r.file.now.length + 31) / 32 - (intOf iv).toNat)
 case atStart => exact ⟨0, Nat.zero_le _, rfl, Own.mk_ (Nat.le_refl _), (Below.refl _ _).alloc (Nat.le_refl _) _⟩
 case round =>
  obtain ⟨k, hk, rfl, hown, hbw⟩ := hrel
  have hbk := HNEW.out.below hbw HNEW.out.lt
  have c1 : wr.cell? ⟨w.heap.size, 1, none⟩ = some (.slice r.A r.file.now.length r.c) := hbk.cell 1
  have c2 : wr.cell? ⟨w.heap.size, 2, none⟩ = some (.slice r.B r.file.safe.length r.d) := hbk.cell 2
  have hA := HA.out.below hbw
  have HR := Lib.hid hA; clear hA
  have hk3 : k ≤ 2048 := by have := HL.out; omega
  have HBK := Lib.hid hbk; clear hbk
  have HOWN := Lib.hid hown; clear hown
  have HBW := Lib.hid hbw; clear hbw
  by_cases hlt : k * 32 < r.file.now.length
  ·have hlt' : (k : Int) * 32 < (r.file.now.length : Int) := by omega
   have hP1 : ∀ W, Below wr.heap.size wr W → Calls Tryz.prog 46 #[.slice r.A r.file.now.length r.c, .int .i64 ((k : Int) * 32), .int .i64 ((k : Int) * 32 + 32)] W fun e w' => Made W.heap.size (sector r.file.now k) e w' ∧ Below W.heap.size W w' ∧ Below wr.heap.size wr w' := by
    intro W hb
    have := rpart_any r.A r.c r.file.now ((k : Int) * 32) ((k : Int) * 32 + 32) (k * 32) (k * 32 + 32) (by omega) (by omega) (by omega) (by omega) W (HR.out.below hb).now.sl (by have := HL.out; have h2 : r.file.now.length ≤ 65536 := this; omega)
    rw [pieceD_sector] at this; exact this.mono (fun e w' h => ⟨h.1, h.2, hb.trans (h.2.mono hb.size)⟩)
   have hP2 : ∀ W, Below wr.heap.size wr W → Calls Tryz.prog 46 #[.slice r.B r.file.safe.length r.d, .int .i64 ((k : Int) * 32), .int .i64 ((k : Int) * 32 + 32)] W fun e w' => Made W.heap.size (sector r.file.safe k) e w' ∧ Below W.heap.size W w' ∧ Below wr.heap.size wr w' := by
    intro W hb
    have := rpart_any r.B r.d r.file.safe ((k : Int) * 32) ((k : Int) * 32 + 32) (k * 32) (k * 32 + 32) (by omega) (by omega) (by omega) (by omega) W (HR.out.below hb).safe.sl (by have := HL2.out; have h2 : r.file.safe.length ≤ 65536 := this; omega)
    rw [pieceD_sector] at this; exact this.mono (fun e w' h => ⟨h.1, h.2, hb.trans (h.2.mono hb.size)⟩)
   have HP1 := Lib.hid hP1; clear hP1
   have HP2 := Lib.hid hP2; clear hP2
   have s1 : IntKind.i64.wrap ((k : Int) * 32) = (k : Int) * 32 := IntWalk.i64_in _ (by omega)
   have s2 : IntKind.i64.wrap ((k : Int) * 32 + 32) = (k : Int) * 32 + 32 := IntWalk.i64_in _ (by omega)
   obtain ⟨xs, hxs⟩ : ∃ x, x = sector r.file.now k := ⟨_, rfl⟩
   obtain ⟨ys, hys⟩ : ∃ x, x = sector r.file.safe k := ⟨_, rfl⟩
   rw [← hxs] at HP1
   rw [← hys] at HP2
   obtain ⟨q, hq⟩ : ∃ q, q = decide (xs = ys) := ⟨_, rfl⟩
   have hil : isLoose r.file k = !q := by rw [hq, hxs, hys]; unfold isLoose; by_cases e : sector r.file.now k = sector r.file.safe k <;> simp [e]
   have hsb : ∀ (A : Option Addr) (c : Nat) (B : Option Addr) (d : Nat) (W : World), Sl fB W A xs → Sl fB W B ys → Calls Tryz.prog 21 #[.slice A xs.length c, .slice B ys.length d] W (Quiet (.bool q) W) := fun A c B d W h1 h2 => by rw [hq]; exact SameBytes_any A B c d xs ys W h1 h2
   have HIL := Lib.hid hil
   have HSB := Lib.hid hsb
   clear hxs hys hil hsb hq
   go_upto_region 5 with fail
   have hdr := below_drew wr
   go_region_held3 (fun W => W.cell? ⟨w.heap.size, 1, none⟩ = some (.slice r.A r.file.now.length r.c) ∧ W.cell? ⟨w.heap.size, 2, none⟩ = some (.slice r.B r.file.safe.length r.d) ∧ Below wr.heap.size wr W) (first | exact held_mk HBK.out (by assumption) | exact held_mk HBK.out (below_drewN (by assumption) _))
    (first | (go_at_call 46; (with_reducible refine (HP1.out _ ?_).mono ?_); (assumption); rintro e wN ⟨⟨AN, cN, rfl, hsN, -⟩, hbN, hBN⟩)
           | (go_at_call 46; (with_reducible refine (HP2.out _ ?_).mono ?_); (assumption); rintro e wS ⟨⟨AS, cS, rfl, hsS, -⟩, hbS, hBS⟩)
           | (go_at_call 21; (with_reducible refine (HSB.out AN cN AS cS _ ?_ ?_).mono ?_); exact (hsN.below hbS).sl; exact hsS.sl; rintro e wq ⟨rfl, nq, rfl⟩)
           | (go_at_call 21; (with_reducible refine (HSB.out AN cN AS cS _ ?_ ?_).mono ?_); exact hsN.sl; exact (hsS.below hbN).sl; rintro e wq ⟨rfl, nq, rfl⟩))
   ·have hbf := below_drewN hBS nq
    obtain ⟨wF, hwF⟩ : ∃ x, x = wS.drewN nq := ⟨_, rfl⟩
    rw [← hwF] at hbf ⊢
    have HF := Lib.hid hbf
    clear hbf hwF hbN hbS hBN hBS hsN hsS hdr c1 c2
    have HOWF := Lib.hid (Own.below HOWN.out HF.out)
    have HBF := Lib.hid (HBW.out.trans (HF.out.mono HBW.out.size))
    cases q
    ·have HLP := Lib.hid (loosePre_yes HIL.out)
     have hpl := loosePre_len r.file k
     go_wp2_with (at_builtin; refine wpList_append1 (f := fN) rfl _ _ _ rfl intT k (fN_one k) rfl HOWF.out rfl rfl (by unfold maxLen; omega) (by omega) HBF.out.size ?_; intro v2 w2 hown2 hb2)
     go_roundw
     case rel => exact ⟨k + 1, by omega, by go_num, by rw [HLP.out]; exact hown2, HBF.out.trans hb2⟩
     case measure => simp [intOf]; omega
    ·have HLP := Lib.hid (loosePre_no HIL.out)
     go_wp2_with fail
     go_roundw
     case rel => exact ⟨k + 1, by omega, by go_num, by rw [HLP.out]; exact HOWF.out, HBF.out⟩
     case measure => simp [intOf]; omega
  ·have hlt' : ¬ (k : Int) * 32 < (r.file.now.length : Int) := by omega
   have hkk : k = (r.file.now.length + 31) / 32 := by omega
   have HKK := Lib.hid hkk; clear hkk
   obtain ⟨A1, c2, rfl⟩ := HOWN.out.form
   go_wp2_with fail
   go_ret
   have ho := HOWN.out
   have e := loosePre_all r.file
   rw [← HKK.out] at e
   rw [e] at ho
   exact ⟨A1, c2, by rw [e]; rfl, ho.base HAB.out.size, HAB.out.trans (HBW.out.mono HAB.out.size)⟩
end Go.Proofs.YtfpomllhkbbipaaGreatDoor
namespace Go.Proofs.YtfpomllhkbbipaaGreatDoor
open Go.RowKit Go.Maps Mem Dsk
theorem Mem.SlB.apartK {α β : Type} {k : Nat} {f : α → List Value} {f' : β → Value} {e e' : TypeId} {G : Nat → Prop} {w w' : World} {v : Value} {A : Option Addr} {xs : List α} {ys : List β} {base : Nat} (h : SlB f' e' G w A ys) (ho : OwnK k f base e w v xs) (hne : e' ≠ e) (hg : w.grownBy w' v.ownBlock) : SlB f' e' G w' A ys :=
 h.keep fun g cur fr _ hgb => hg.block g (by
  rcases Nat.lt_or_ge g w.heap.size with hl | hl
  ·exact hl
  ·rw [Array.getElem?_eq_none hl] at hgb; cases hgb) (fun hk => by
   rcases ho.2 with ⟨hv, _⟩ | ⟨g', cap, cur', hv, _, hh, _⟩
   ·rw [hv] at hk; simp [Value.ownBlock] at hk
   ·rw [hv] at hk; simp [Value.ownBlock] at hk
    subst hk
    rw [hh] at hgb
    injection hgb with h1; injection h1 with _ h2
    exact hne h2.symm)
theorem RFok.apartK {k : Nat} {f : RFile → List Value} {G : Nat → Prop} {w w' : World} {v : Value} {xs : List RFile} {base : Nat} {r : RFile} (h : RFok G w r) (ho : OwnK k f base 59 w v xs) (hg : w.grownBy w' v.ownBlock) : RFok G w' r :=
 ⟨h.now.apartK ho (by decide) hg, h.safe.apartK ho (by decide) hg, h.sz, h.cn, h.cs⟩
def CrRel (F : Nat → Prop) (w0 : World) (s : S) (keep : List Bool) (nv ov iv : Value) (wr : World) : Prop :=
 ∃ (k : Nat) (out : List RFile), k ≤ s.files.length ∧ iv = .int .i64 k ∧ nv = .int .i64 (crashN keep s.files k) ∧ crashN keep s.files k ≤ k * 2048 ∧ out.map RFile.file = (crashGo keep (s.files.take k) 0).1 ∧
   OwnK 3 RFile.cells w0.heap.size 59 wr ov out ∧ (∀ r ∈ out, RFok F wr r) ∧ Below w0.heap.size w0 wr
def CrIn (F : Nat → Prop) (f : File) (keep : List Bool) (n : Nat) (w1 : World) (nv ov jv : Value) (wi : World) : Prop :=
 ∃ j m : Nat, j ≤ (loose f).length ∧ jv = .int .i64 j ∧ nv = .int .i64 m ∧ m = n + j ∧ (∃ A c, ov = .slice A (keptTo f keep n j).1.length c ∧ SlB fB 5 F wi A (keptTo f keep n j).1 ∧ (keptTo f keep n j).1.length ≤ c) ∧ Below w1.heap.size w1 wi
set_option maxRecDepth 100000 in
set_option maxHeartbeats 4000000 in
theorem RCrash_any {G : Nat → Prop} {w : World} (A : Option Addr) (c : Nat) (rs : List RFile) (h : Files G w A rs) (hct : rs.length ≤ 256) (s : S) (hs : rs.map RFile.file = s.files) (K : Option Addr) (kc : Nat) (keep : List Bool) (hkeep : Sl fBool w K keep) :
 Calls Tryz.prog 16 #[.agg #[.slice A rs.length c, .bool s.down, .int .i64 s.fuse], .slice K keep.length kc] w (RefPost G (Dsk.crash s keep) w) := by
 have hl := h.1.len
 have hkl := hkeep.len
 have hfl : s.files.length = rs.length := by rw [← hs, List.length_map]
 have HFL := Lib.hid hfl; clear hfl
 have HF := Lib.hid h; clear h
 have HS := Lib.hid hs; clear hs
 have HKEEP := Lib.hid hkeep; clear hkeep
 go_enter Tryz.func16, Tryz.ntmps16
 go_wp2_with fail
 obtain ⟨w0, hw0⟩ : ∃ w0, w0 = (w.alloc (.cells #[.slice A rs.length c, .bool s.down, .int .i64 s.fuse] 32)).alloc (.cells #[.slice none 0 0, .bool false, .int .i64 0] 32) := ⟨_, rfl⟩
 rw [← hw0]
 have hz : w0.heap.size = w.heap.size + 1 + 1 := by rw [hw0]; simp
 have hab : Below w.heap.size w w0 := by rw [hw0]; exact ((Below.refl _ _).alloc (Nat.le_refl _) _).alloc (by simp) _
 have hbx : Blk w0 w.heap.size 32 #[.slice A rs.length c, .bool s.down, .int .i64 s.fuse] := by rw [hw0]; exact (Blk.new_ w _ _).alloc _
 have hrs : Blk w0 (w.heap.size + 1) 32 #[.slice none 0 0, .bool false, .int .i64 0] := by
  have := Blk.new_ (w.alloc (.cells #[.slice A rs.length c, .bool s.down, .int .i64 s.fuse] 32)) 32 #[.slice none 0 0, .bool false, .int .i64 0]
  rw [World.size_alloc] at this; rw [hw0]; exact this
 have hst : OwnK 3 RFile.cells w0.heap.size 59 (w0.alloc (.cells #[] 59)) (.slice (some ⟨w.heap.size + 1 + 1, 0, none⟩) 0 0) ([] : List RFile) := by rw [← hz]; exact OwnK.mk_ (Nat.le_refl _)
 have HST := Lib.hid hst; clear hst
 have HZ := Lib.hid hz; clear hz hw0
 have HAB := Lib.hid hab; clear hab
 have HBX := Lib.hid hbx; clear hbx
 have HRS := Lib.hid hrs; clear hrs
 go_loopw [5, 6, 7] (fun nv ov iv wr => CrRel (up G w) w0 s keep nv ov iv wr) (fun _ _ iv _ => rs.length - (intOf iv).toNat)
 case atStart => exact ⟨0, [], Nat.zero_le _, rfl, rfl, Nat.zero_le _, rfl, HST.out, (fun _ h => by cases h), (Below.refl _ _).alloc (Nat.le_refl _) _⟩
 case round =>
  obtain ⟨k, out, hk, rfl, rfl, hnk, hof, hown, hoks, hbw⟩ := hrel
  have HOF := Lib.hid hof; clear hof
  have HOWN := Lib.hid hown; clear hown
  have HOKS := Lib.hid hoks; clear hoks
  have HBW := Lib.hid hbw; clear hbw
  have HNK := Lib.hid hnk; clear hnk
  have HBXr := Lib.hid (HBX.out.below HBW.out HBX.out.lt)
  have HRSr := Lib.hid (HRS.out.below HBW.out HRS.out.lt)
  have b0 : wr.cell? ⟨w.heap.size, 0, none⟩ = some (.slice A rs.length c) := HBXr.out.cell 0
  by_cases hlt : k < rs.length
  ·obtain ⟨b, o, rfl, _, _, hc⟩ := ((HF.out.below HAB.out).below HBW.out).1.at hlt
   obtain ⟨r, hr⟩ : ∃ r, r = rs[k] := ⟨_, rfl⟩
   have c0 : wr.cell? ⟨b, o + k * 3, none⟩ = some (.string ⟨r.file.name.toArray⟩) := by rw [hr]; exact hc 0 (by decide)
   have c1 : wr.cell? ⟨b, o + k * 3 + 1, none⟩ = some (.slice r.A r.file.now.length r.c) := by rw [hr]; exact hc 1 (by decide)
   have c2 : wr.cell? ⟨b, o + k * 3 + 2, none⟩ = some (.slice r.B r.file.safe.length r.d) := by rw [hr]; exact hc 2 (by decide)
   clear hc
   have HOKr : Hid (RFok G wr r) := by rw [hr]; exact ((HF.out.below HAB.out).below HBW.out).2 _ (List.getElem_mem hlt)
   have HRK := Lib.hid hr; clear hr
   go_upto_region 7 with fail
   obtain ⟨w1, hw1⟩ : ∃ x, x = wr.alloc (.cells #[.string ⟨r.file.name.toArray⟩, .slice r.A r.file.now.length r.c, .slice r.B r.file.safe.length r.d] 59) := ⟨_, rfl⟩
   rw [← hw1]
   have hab1 : Below wr.heap.size wr w1 := by rw [hw1]; exact (Below.refl _ _).alloc (Nat.le_refl _) _
   have HFX : Hid (Blk w1 wr.heap.size 59 #[.string ⟨r.file.name.toArray⟩, .slice r.A r.file.now.length r.c, .slice r.B r.file.safe.length r.d]) := by rw [hw1]; exact Blk.new_ wr _ _
   have HOK1 := Lib.hid (HOKr.out.below hab1)
   have HAB1 := Lib.hid hab1; clear hab1 hw1 c0 c1 c2 b0
   have f0 : w1.cell? ⟨wr.heap.size, 0, none⟩ = some (.string ⟨r.file.name.toArray⟩) := HFX.out.cell 0
   have f1 : w1.cell? ⟨wr.heap.size, 1, none⟩ = some (.slice r.A r.file.now.length r.c) := HFX.out.cell 1
   have f2 : w1.cell? ⟨wr.heap.size, 2, none⟩ = some (.slice r.B r.file.safe.length r.d) := HFX.out.cell 2
   go_wp2_with fail
   (with_reducible refine (rLoose_any r HOK1.out).mono ?_); rintro e w2 ⟨AL, cL, rfl, hownL, hb2⟩
   have hLL : SlB fN 3 (fun _ => True) w2 AL (loose r.file) := (SlB.of_own hownL).2.mono (fun _ _ _ => trivial)
   have HLL := Lib.hid hLL; clear hLL hownL
   have HB2 := Lib.hid hb2; clear hb2
   have HFX2 := Lib.hid (HFX.out.below HB2.out HFX.out.lt)
   have HOK2 := Lib.hid (HOK1.out.below HB2.out)
   clear f0 f1 f2
   have hlc := loose_count HOK2.out.sz.1
   have hnk2 : crashN keep s.files k ≤ 524288 := by have := HNK.out; have h2 : crashN keep s.files k ≤ k * 2048 := this; omega
   have hn1 : r.file.now.length ≤ 65536 := HOK2.out.sz.1
   have hn2 : r.file.safe.length ≤ 65536 := HOK2.out.sz.2.1
   have HN1 := Lib.hid hn1; clear hn1
   have HN2 := Lib.hid hn2; clear hn2
   have hwz : w.heap.size ≤ w2.heap.size := Nat.le_trans HAB.out.size (Nat.le_trans HBW.out.size (Nat.le_trans HAB1.out.size HB2.out.size))
   have HWZ := Lib.hid hwz; clear hwz
   obtain ⟨n, hn⟩ : ∃ n, n = crashN keep s.files k := ⟨_, rfl⟩
   rw [← hn] at hnk2 ⊢
   have HNN := Lib.hid hn; clear hn
   obtain ⟨wo, rfl⟩ : ∃ wo : World, wo = wr := ⟨_, rfl⟩
   go_wp2_with fail
   go_loopw [5, 9, 11] (fun nv ov jv wi => CrIn (up G w) r.file keep n w2 nv ov jv wi) (fun _ _ jv _ => (loose r.file).length - (intOf jv).toNat)
   case atStart => exact ⟨0, n, Nat.zero_le _, rfl, rfl, rfl, ⟨r.B, r.d, by rw [keptTo_zero], by rw [keptTo_zero]; exact HOK2.out.safe.mono (fun _ _ h => .inl h), by rw [keptTo_zero]; exact HOK2.out.cs⟩, Below.refl _ _⟩
   case round =>
    obtain ⟨j, m, hj, rfl, rfl, hm, ⟨A3, c3, rfl, hs3, hcp3⟩, hb⟩ := hrel; have HCP3 := Lib.hid hcp3; clear hcp3
    have hm2 : m ≤ 600000 := by omega
    have HM := Lib.hid hm; clear hm
    have HS3 := Lib.hid hs3; clear hs3
    have HB := Lib.hid hb; clear hb
    have HFXi := Lib.hid (HFX2.out.below HB.out HFX2.out.lt)
    have HOKi := Lib.hid (HOK2.out.below HB.out)
    by_cases hjl : j < (loose r.file).length
    ·obtain ⟨bl, ol, rfl, hcl⟩ := (HLL.out.below HB.out).at hjl
     have hil := loose_lt (List.getElem_mem hjl)
     unfold fN at hcl
     have f1 : wr.cell? ⟨wo.heap.size, 1, none⟩ = some (.slice r.A r.file.now.length r.c) := HFXi.out.cell 1
     by_cases hky : m < keep.length ∧ keep.getD m false = true
     ·obtain ⟨hky1, hky2⟩ := hky
      obtain ⟨bk, ok, rfl, _, hck⟩ := ((((HKEEP.out.below HAB.out).below HBW.out).below HAB1.out).below HB2.out |>.below HB.out).at hky1
      replace hck := hck m hky1
      have hkv : keep[m] = true := by rw [List.getD_eq_getElem?_getD, List.getElem?_eq_getElem hky1] at hky2; exact hky2
      rw [hkv] at hck; unfold fBool at hck
      clear hkv
      have HKY : Hid (keep.getD m false = true) := hky2
      clear hky2
      obtain ⟨i, hi⟩ : ∃ i, i = (loose r.file)[j] := ⟨_, rfl⟩
      rw [← hi] at hcl hil
      obtain ⟨ot, hot⟩ : ∃ ot, ot = (keptTo r.file keep n j).1 := ⟨_, rfl⟩
      rw [← hot] at HS3 HCP3 ⊢
      have hol : ot.length ≤ 65536 := by rw [hot]; exact Nat.le_trans (keptTo_len hj) (by have h1 := HN1.out; have h2 := HN2.out; have h3 : r.file.now.length ≤ 65536 := h1; have h4 : r.file.safe.length ≤ 65536 := h2; omega)
      have HSTEP : Hid ((keptTo r.file keep n (j + 1)).1 = overZ ot (i * 32) (sector r.file.now i)) := by
       show _ = _; rw [keptTo_step_yes hjl (by rw [← HM.out]; exact HKY.out), ← hi, ← hot]; rfl
      have hi2 : i ≤ 2048 := by have h1 := HN1.out; have h3 : r.file.now.length ≤ 65536 := h1; omega
      obtain ⟨sec, hsec⟩ : ∃ x, x = sector r.file.now i := ⟨_, rfl⟩
      rw [← hsec] at HSTEP
      have hsl : sec.length ≤ 1000000 := by rw [hsec]; have h1 := HN1.out; have h3 : r.file.now.length ≤ 65536 := h1; have := sector_len_le r.file.now i hil; omega
      have hP := rpart_any r.A r.c r.file.now ((i : Int) * 32) ((i : Int) * 32 + 32) (i * 32) (i * 32 + 32) (by omega) (by omega) (by omega) (by omega) wr HOKi.out.now.sl (by have h1 := HN1.out; have h3 : r.file.now.length ≤ 65536 := h1; omega)
      rw [pieceD_sector, ← hsec] at hP
      have hO : ∀ W, Sl fB W A3 ot → ∀ A5 c5, Sl fB W A5 sec → Calls Tryz.prog 45 #[.slice A3 ot.length c3, .int .i64 ((i : Int) * 32), .slice A5 sec.length c5] W fun e w' => Made W.heap.size (overZ ot (i * 32) sec) e w' ∧ Below W.heap.size W w' :=
       fun W h1 A5 c5 h2 => rover_any A3 c3 ot ((i : Int) * 32) (i * 32) (by omega) (by omega) A5 c5 sec W h1 h2 (by omega) hsl
      have HP := Lib.hid hP; clear hP
      have HO := Lib.hid hO; clear hO
      clear hi hot hsec
      go_wp2_with fail
      (with_reducible refine HP.out.mono ?_); rintro e w5 ⟨⟨A5, c5, rfl, hs5, -⟩, hb5⟩
      have HS5 := Lib.hid hs5; clear hs5
      have HB5 := Lib.hid hb5; clear hb5
      go_wp2_with fail
      (with_reducible refine (HO.out _ (HS3.out.below HB5.out).sl _ _ HS5.out.sl).mono ?_); rintro e w6 ⟨⟨A6, c6, rfl, hs6, hcp6⟩, hb6⟩; have HCP6 := Lib.hid hcp6; clear hcp6
      have HS6 := Lib.hid hs6; clear hs6
      have HB6 := Lib.hid hb6; clear hb6
      have hz5 : w.heap.size ≤ w5.heap.size := Nat.le_trans HWZ.out (Nat.le_trans HB.out.size HB5.out.size)
      have HZ5 := Lib.hid hz5; clear hz5
      go_wp2_with fail
      go_roundw
      case rel => exact ⟨j + 1, m + 1, by omega, by go_num, by go_num, by have := HM.out; omega, ⟨A6, c6, by rw [HSTEP.out], by rw [HSTEP.out]; exact HS6.out.mono (fun _ _ h => .inr (Nat.le_trans HZ5.out h)), by rw [HSTEP.out]; exact HCP6.out⟩, (HB.out.trans (HB5.out.mono HB.out.size)).trans (HB6.out.mono (Nat.le_trans HB.out.size HB5.out.size))⟩
      case measure => simp [intOf]; omega
     ·have HNO : Hid (keep.getD m false = false) := by
       by_cases h1 : m < keep.length
       ·have : ¬ keep.getD m false = true := fun h2 => hky ⟨h1, h2⟩
        show _ = _; simpa using this
       ·show _ = _; rw [List.getD_eq_getElem?_getD, List.getElem?_eq_none (by omega)]; rfl
      have HST2 : Hid ((keptTo r.file keep n (j + 1)).1 = (keptTo r.file keep n j).1) := keptTo_step_no hjl (by rw [← HM.out]; exact HNO.out)
      by_cases hky1 : m < keep.length
      ·obtain ⟨bk, ok, rfl, _, hck⟩ := ((((HKEEP.out.below HAB.out).below HBW.out).below HAB1.out).below HB2.out |>.below HB.out).at hky1
       replace hck := hck m hky1
       have hkv : keep[m] = false := by
        have := HNO.out
        rw [List.getD_eq_getElem?_getD, List.getElem?_eq_getElem hky1] at this; exact this
       rw [hkv] at hck; unfold fBool at hck
       clear hkv hky
       go_wp2_with fail
       go_roundw
       case rel => exact ⟨j + 1, m + 1, by omega, by go_num, by go_num, by have := HM.out; omega, ⟨A3, c3, by rw [HST2.out], by rw [HST2.out]; exact HS3.out, by rw [HST2.out]; exact HCP3.out⟩, HB.out⟩
       case measure => simp [intOf]; omega
      ·clear hky
       go_wp2_with fail
       go_roundw
       case rel => exact ⟨j + 1, m + 1, by omega, by go_num, by go_num, by have := HM.out; omega, ⟨A3, c3, by rw [HST2.out], by rw [HST2.out]; exact HS3.out, by rw [HST2.out]; exact HCP3.out⟩, HB.out⟩
       case measure => simp [intOf]; omega
    ·have hjj : j = (loose r.file).length := by omega
     have hsk : k < s.files.length := by have := HFL.out; have h2 : s.files.length = rs.length := this; omega
     have hrf : s.files[k] = r.file := by rw [HRK.out]; simp only [← HS.out, List.getElem_map]
     obtain ⟨ot, hot⟩ : ∃ ot, ot = (keptTo r.file keep n j).1 := ⟨_, rfl⟩
     rw [← hot] at HS3 HCP3 ⊢
     have hol : ot.length ≤ 65536 := by rw [hot]; exact Nat.le_trans (keptTo_len hj) (by have h1 := HN1.out; have h2 := HN2.out; have h3 : r.file.now.length ≤ 65536 := h1; have h4 : r.file.safe.length ≤ 65536 := h2; omega)
     have HKB : Hid (ot = (keptBytes r.file keep n).1) := by show _ = _; rw [hot, hjj, keptTo_all]
     have HNX : Hid (crashN keep s.files (k + 1) = m) := by show _ = _; rw [crashN_succ hsk, keptBytes_snd, HM.out, hjj, HNN.out, hrf]
     have hbd : m ≤ (k + 1) * 2048 := by have h1 := HM.out; have h2 : m = n + j := h1; have h3 := HNK.out; rw [← HNN.out] at h3; have h4 : n ≤ k * 2048 := h3; omega
     have HBD := Lib.hid hbd; clear hbd
     have HJ := Lib.hid hjj; clear hjj hot
     have hlo : out.length ≤ k := by
      have h1 : (out.map RFile.file).length = ((crashGo keep (s.files.take k) 0).1.map File.name).length := by rw [HOF.out, List.length_map]
      rw [crashGo_names, List.length_map, List.length_map] at h1
      rw [h1]; exact List.length_take_le _ _
     have HMAP : Hid ((out ++ [(⟨⟨r.file.name, ot, ot⟩, A3, c3, A3, c3⟩ : RFile)]).map RFile.file = (crashGo keep (s.files.take (k + 1)) 0).1) := by
      show _ = _
      rw [List.take_succ_eq_append_getElem hsk, crashGo_snoc, List.map_append, HOF.out, hrf, HKB.out, HNN.out]; rfl
     have HSK := Lib.hid hsk; clear hsk hrf
     have HOWNi := Lib.hid (((HOWN.out.below HAB1.out).below HB2.out).below HB.out)
     have hbwi : Below w0.heap.size w0 wr := ((HBW.out.trans (HAB1.out.mono HBW.out.size)).trans (HB2.out.mono (Nat.le_trans HBW.out.size HAB1.out.size))).trans (HB.out.mono (Nat.le_trans HBW.out.size (Nat.le_trans HAB1.out.size HB2.out.size)))
     have HBWi := Lib.hid hbwi; clear hbwi
     have HOKSi : Hid (∀ r' ∈ out, RFok (up G w) wr r') := fun r' h => (((HOKS.out r' h).below HAB1.out).below HB2.out).below HB.out
     have f0 : wr.cell? ⟨wo.heap.size, 0, none⟩ = some (.string ⟨r.file.name.toArray⟩) := HFXi.out.cell 0
     go_wp2_with (at_builtin; refine wpList_appendK1 (f := RFile.cells) rfl (.tmp 62) (.tmp 68) 30 rfl fileT (⟨⟨r.file.name, ot, ot⟩, A3, c3, A3, c3⟩ : RFile) rfl (rcells_one _) rfl HOWNi.out rfl rfl rfl (by unfold maxLen; omega) (by omega) HBWi.out.size ?_; intro v7 w7 hown7 hg7)
     go_roundw
     case rel =>
      have hap := HOWNi.out.alloc (.cells #[.string ⟨r.file.name.toArray⟩, .slice A3 ot.length c3, .slice A3 ot.length c3] 59)
      refine ⟨k + 1, _, HSK.out, by go_num, by rw [HNX.out], by rw [HNX.out]; exact HBD.out, HMAP.out, hown7, ?_, (HBWi.out.alloc HBWi.out.size _).trans (hap.below_ (by rw [World.size_alloc]; exact Nat.le_succ_of_le HBWi.out.size) hg7)⟩
      intro r' hr'
      rcases List.mem_append.1 hr' with h | h
      ·exact ((HOKSi.out r' h).below ((Below.refl _ _).alloc (Nat.le_refl _) _)).apartK hap hg7
      ·rw [List.mem_singleton] at h
       subst h
       have h3 := (HS3.out.below ((Below.refl _ _).alloc (Nat.le_refl _) _)).apartK hap (by decide) hg7
       exact ⟨h3, h3, ⟨hol, hol, HOK2.out.sz.2.2⟩, HCP3.out, HCP3.out⟩
     case measure => simp [intOf]; omega
  ·have hkk : k = s.files.length := by have := HFL.out; have h2 : s.files.length = rs.length := this; omega
   have HKK := Lib.hid hkk; clear hkk
   have r0 : wr.cell? ⟨w.heap.size + 1, 0, none⟩ = some (.slice none 0 0) := HRSr.out.cell 0
   have r1 : wr.cell? ⟨w.heap.size + 1, 1, none⟩ = some (.bool false) := HRSr.out.cell 1
   have r2 : wr.cell? ⟨w.heap.size + 1, 2, none⟩ = some (.int .i64 0) := HRSr.out.cell 2
   have q0 := HRSr.out.free 0
   have q1 := HRSr.out.free 1
   have q2 := HRSr.out.free 2
   obtain ⟨A1, c1, rfl⟩ := HOWN.out.form
   go_wp2_with fail
   have hbw1 : Below w.heap.size w wr := HAB.out.trans (HBW.out.mono HAB.out.size)
   have hz := HZ.out
   refine bodyPost_ret (v := .agg #[.slice A1 out.length c1, .bool false, .int .i64 0]) (by simp [results, Tryz.results16, go_sem, r0, r1, r2, q2]) rfl ?_
   have hbz := ((hbw1.setCell (p := ⟨w.heap.size + 1, 0, none⟩) (Nat.le_succ _) (.slice A1 out.length c1)).setCell (p := ⟨w.heap.size + 1, 1, none⟩) (Nat.le_succ _) (.bool false)).setCell (p := ⟨w.heap.size + 1, 2, none⟩) (Nat.le_succ _) (.int .i64 0)
   have hoz := ((HOWN.out.setLow (p := ⟨w.heap.size + 1, 0, none⟩) (by show w.heap.size + 1 < _; omega) (.slice A1 out.length c1)).setLow (p := ⟨w.heap.size + 1, 1, none⟩) (by show w.heap.size + 1 < _; omega) (.bool false)).setLow (p := ⟨w.heap.size + 1, 2, none⟩) (by show w.heap.size + 1 < _; omega) (.int .i64 0)
   have hk1 := HRSr.out
   have hk2 := hk1.set_ 0 (.slice A1 out.length c1)
   have hk3 := hk2.set_ 1 (.bool false)
   refine refPost_mk (s := Dsk.crash s keep) hbz (hoz.base_ HAB.out.size) (fun r hr => (((HOKS.out r hr).far hk1 (by decide) 0 _).far hk2 (by decide) 1 _).far hk3 (by decide) 2 _) ?_
   have h1 := HOF.out
   rw [HKK.out, List.take_length, crashGo_files] at h1
   exact h1
end Go.Proofs.YtfpomllhkbbipaaGreatDoor
namespace Go.Proofs.YtfpomllhkbbipaaGreatDoor
open Go.RowKit Go.Maps Mem Dsk
section
variable {G : Nat → Prop} {B p bm : Nat} {s t s' t' : S} {w w' : World}
theorem DX.setIn (h : DX G B p s w) {q : Addr} (hq : G q.block) (u : Value) : DX G B p s (w.setCell q u) := by
 obtain ⟨mb, rs, h0⟩ := h.at_
 exact ⟨⟨mb, rs, h0.frm (G := fun g => g = q.block) ((Frm.refl (fun g => g = q.block) w).setCell (p := q) (fun _ => rfl) u) (fun g hg e => hg.2 (e ▸ hq))⟩, by rw [World.size_setCell]; exact h.le, fun g hg => by rw [World.size_setCell]; exact h.old g hg⟩
structure Pl (G : Nat → Prop) (B p bm : Nat) (s t : S) (w : World) : Prop where
 dx : DX G B p s w
 box : G bm
 big : B ≤ bm
 ref : ∃ A c rs, Blk w bm 32 #[.slice A rs.length c, .bool t.down, .int .i64 t.fuse] ∧ Files G w A rs ∧ rs.map RFile.file = t.files
def nextG (G : Nat → Prop) (w w' : World) : Nat → Prop := fun g => up G w g ∧ g < w'.heap.size
end
end Go.Proofs.YtfpomllhkbbipaaGreatDoor
namespace Go.Proofs.YtfpomllhkbbipaaGreatDoor
open Go Go.RowKit Go.Maps Go.Lib Mem Pk Cf Dsk
theorem Files.farN {G : Nat → Prop} {A : Option Addr} {rs : List RFile} {g : Nat} {t : TypeId} (hn1 : 59 ≠ t) (hne : 5 ≠ t) : ∀ (us : List (Nat × Value)) {W : World} {cs : Array Value}, Files G W A rs → Blk W g t cs → Files G (us.foldl (fun W u => W.setCell ⟨g, u.1, none⟩ u.2) W) A rs
 | [], _, _, h, _ => h
 | u :: us, W, cs, h, hb => Files.farN hn1 hne us (h.far hb hn1 hne u.1 u.2) (hb.set_ u.1 u.2)
theorem below_setN {B g : Nat} {w : World} (hg : B ≤ g) : ∀ (us : List (Nat × Value)) {W : World}, Below B w W → Below B w (us.foldl (fun W u => W.setCell ⟨g, u.1, none⟩ u.2) W)
 | [], _, h => h
 | u :: us, _, h => below_setN hg us (h.setCell (p := ⟨g, u.1, none⟩) hg u.2)
theorem Blk.setN {g : Nat} {t : TypeId} : ∀ (us : List (Nat × Value)) {W : World} {cs : Array Value}, Blk W g t cs → Blk (us.foldl (fun W u => W.setCell ⟨g, u.1, none⟩ u.2) W) g t (us.foldl (fun cs u => cs.setIfInBounds u.1 u.2) cs)
 | [], _, _, h => h
 | u :: us, _, _, h => Blk.setN us (h.set_ u.1 u.2)
theorem Blk.farN {g g' : Nat} {t : TypeId} {cs : Array Value} (hne : g ≠ g') : ∀ (us : List (Nat × Value)) {W : World}, Blk W g t cs → Blk (us.foldl (fun W u => W.setCell ⟨g', u.1, none⟩ u.2) W) g t cs
 | [], _, h => h
 | u :: us, _, h => Blk.farN hne us (h.far (p := ⟨g', u.1, none⟩) hne u.2)
def Do8P (G : Nat → Prop) (res : S × Nat) (x t : Int) (V : Option Addr) (vn a : Nat) (C : Option Addr) (cn b : Nat) (D : Option Addr) (dn d : Nat) (q : Bool) (w : World) (e : Ending) (w' : World) : Prop :=
 ∃ A c rs, e = .returned (.tuple #[.agg #[.slice A rs.length c, .bool res.1.down, .int .i64 res.1.fuse, .int .i64 x, .int .i64 t, .slice V vn a, .slice C cn b, .slice D dn d, .bool q], .int .i64 res.2]) ∧ Files (up G w) w' A rs ∧ rs.map RFile.file = res.1.files ∧ Below w.heap.size w w'
set_option maxRecDepth 100000 in
set_option maxHeartbeats 8000000 in
theorem do8_any {G : Nat → Prop} {w : World} (A : Option Addr) (c : Nat) (rs : List RFile) (h : Files G w A rs) (s : S) (hs : rs.map RFile.file = s.files) (hct : rs.length ≤ 256) (hfu : s.fuse ≤ 9223372036854775807) (hso : Sorted s.files)
 (x t : Int) (V : Option Addr) (vn a : Nat) (C : Option Addr) (cn b : Nat) (D : Option Addr) (dn d : Nat) (q : Bool)
 (nm z : ByteArray) (ha : nm.size ≤ maxLen) (hz : z.size ≤ maxLen) (num : Int) (hnum : (Lit.int .i64 num).wf = true) (E : Option Addr) (ec : Nat) (bs : List UInt8) (hbs : Sl fB w E bs) (kind : Int) (h1 : 1 ≤ kind) (h6 : kind ≤ 6) :
 Calls Tryz.prog 35 #[.agg #[.slice A rs.length c, .bool s.down, .int .i64 s.fuse, .int .i64 x, .int .i64 t, .slice V vn a, .slice C cn b, .slice D dn d, .bool q], .agg #[.int .i64 kind, .string nm, .string z, .int .i64 num, .slice E bs.length ec]] w (Do8P G (doStep s kind (sname nm) (sname z) num bs) x t V vn a C cn b D dn d q w) := by
 obtain ⟨w3, hw3⟩ : ∃ z', z' = ((w.alloc (.cells #[.slice A rs.length c, .bool s.down, .int .i64 s.fuse, .int .i64 x, .int .i64 t, .slice V vn a, .slice C cn b, .slice D dn d, .bool q] 40)).alloc (.cells #[.int .i64 kind, .string nm, .string z, .int .i64 num, .slice E bs.length ec] 87)).alloc (.cells #[.slice none 0 0, .bool false, .int .i64 0, .int .i64 0, .int .i64 0, .slice none 0 0, .slice none 0 0, .slice none 0 0, .bool false] 40) := ⟨_, rfl⟩
 have hz3 : w3.heap.size = w.heap.size + 3 := by rw [hw3]; simp [World.size_alloc]
 have hb3 : Below w.heap.size w w3 := by rw [hw3]; exact (((Below.refl _ _).alloc (Nat.le_refl _) _).alloc (by rw [World.size_alloc]; omega) _).alloc (by rw [World.size_alloc, World.size_alloc]; omega) _
 have hx0 : Blk w3 w.heap.size 40 #[.slice A rs.length c, .bool s.down, .int .i64 s.fuse, .int .i64 x, .int .i64 t, .slice V vn a, .slice C cn b, .slice D dn d, .bool q] := by rw [hw3]; exact ((Blk.new_ w _ _).alloc _).alloc _
 have hx1 : Blk w3 (w.heap.size + 1) 87 #[.int .i64 kind, .string nm, .string z, .int .i64 num, .slice E bs.length ec] := by
  have := (Blk.new_ (w.alloc (.cells #[.slice A rs.length c, .bool s.down, .int .i64 s.fuse, .int .i64 x, .int .i64 t, .slice V vn a, .slice C cn b, .slice D dn d, .bool q] 40)) 87 #[.int .i64 kind, .string nm, .string z, .int .i64 num, .slice E bs.length ec]).alloc (.cells #[.slice none 0 0, .bool false, .int .i64 0, .int .i64 0, .int .i64 0, .slice none 0 0, .slice none 0 0, .slice none 0 0, .bool false] 40)
  rw [World.size_alloc] at this; rw [hw3]; exact this
 have hx2 : Blk w3 (w.heap.size + 2) 40 #[.slice none 0 0, .bool false, .int .i64 0, .int .i64 0, .int .i64 0, .slice none 0 0, .slice none 0 0, .slice none 0 0, .bool false] := by
  have := Blk.new_ ((w.alloc (.cells #[.slice A rs.length c, .bool s.down, .int .i64 s.fuse, .int .i64 x, .int .i64 t, .slice V vn a, .slice C cn b, .slice D dn d, .bool q] 40)).alloc (.cells #[.int .i64 kind, .string nm, .string z, .int .i64 num, .slice E bs.length ec] 87)) 40 #[.slice none 0 0, .bool false, .int .i64 0, .int .i64 0, .int .i64 0, .slice none 0 0, .slice none 0 0, .slice none 0 0, .bool false]
  rw [World.size_alloc, World.size_alloc] at this; rw [hw3]; exact this
 obtain ⟨res, hres⟩ : ∃ r, r = doStep s kind (sname nm) (sname z) num bs := ⟨_, rfl⟩
 have hdo := Do_any A c rs (h.below hb3) s hs hct hfu hso nm z ha hz num hnum E ec bs (hbs.below hb3) kind h1 h6
 rw [← hres] at hdo ⊢
 have HDO := Lib.hid hdo
 have HB3 := Lib.hid hb3
 have HX0 := Lib.hid hx0
 have HX2 := Lib.hid hx2
 have HZ3 := Lib.hid hz3
 have p0 : w3.cell? ⟨w.heap.size, 0, none⟩ = some (.slice A rs.length c) := hx0.cell 0
 have p1 : w3.cell? ⟨w.heap.size, 1, none⟩ = some (.bool s.down) := hx0.cell 1
 have p2 : w3.cell? ⟨w.heap.size, 2, none⟩ = some (.int .i64 s.fuse) := hx0.cell 2
 have p3 : w3.cell? ⟨w.heap.size, 3, none⟩ = some (.int .i64 x) := hx0.cell 3
 have p4 : w3.cell? ⟨w.heap.size, 4, none⟩ = some (.int .i64 t) := hx0.cell 4
 have p5 : w3.cell? ⟨w.heap.size, 5, none⟩ = some (.slice V vn a) := hx0.cell 5
 have p6 : w3.cell? ⟨w.heap.size, 6, none⟩ = some (.slice C cn b) := hx0.cell 6
 have p7 : w3.cell? ⟨w.heap.size, 7, none⟩ = some (.slice D dn d) := hx0.cell 7
 have p8 : w3.cell? ⟨w.heap.size, 8, none⟩ = some (.bool q) := hx0.cell 8
 have o0 : w3.cell? ⟨w.heap.size + 1, 0, none⟩ = some (.int .i64 kind) := hx1.cell 0
 have o1 : w3.cell? ⟨w.heap.size + 1, 1, none⟩ = some (.string nm) := hx1.cell 1
 have o2 : w3.cell? ⟨w.heap.size + 1, 2, none⟩ = some (.string z) := hx1.cell 2
 have o3 : w3.cell? ⟨w.heap.size + 1, 3, none⟩ = some (.int .i64 num) := hx1.cell 3
 have o4 : w3.cell? ⟨w.heap.size + 1, 4, none⟩ = some (.slice E bs.length ec) := hx1.cell 4
 have HW3 := Lib.hid hw3
 clear h hs hct hfu hso hbs hres hdo hb3 hx0 hx1 hx2 hz3 hw3 h1 h6 hnum ha hz
 go_enter Tryz.func35, Tryz.ntmps35
 go_upto_region 1 with fail
 rw [← HW3.out]
 clear HW3
 go_wp2_with fail
 (with_reducible refine HDO.out.mono ?_); rintro e w4 ⟨v4, rfl, ⟨A4, c4, rs4, rfl, hf4, hm4⟩, hb4⟩
 have HF4 := Lib.hid hf4
 have HM4 := Lib.hid hm4
 have HY0 := Lib.hid (HX0.out.below hb4 HX0.out.lt)
 have HY2 := Lib.hid (HX2.out.below hb4 HX2.out.lt)
 have HB4 : Hid (Below w.heap.size w w4) := Lib.hid (HB3.out.trans (hb4.mono HB3.out.size))
 have HZ4 : Hid (w.heap.size + 3 ≤ w4.heap.size) := Lib.hid (by have := HZ3.out; have := hb4.size; omega)
 clear hf4 hm4 hb4 HDO HX0 HX2 HB3 p0 p1 p2 p3 p4 p5 p6 p7 p8 o0 o1 o2 o3 o4
 go_upto_region 2 with fail
 obtain ⟨w5, hw5⟩ : ∃ z', z' = w4.alloc (.cells #[.slice A4 rs4.length c4, .bool res.1.down, .int .i64 res.1.fuse] 32) := ⟨_, rfl⟩
 rw [← hw5]
 have hb5 : Below w4.heap.size w4 w5 := by rw [hw5]; exact (Below.refl _ _).alloc (Nat.le_refl _) _
 have HN5 : Hid (Blk w5 w4.heap.size 32 #[.slice A4 rs4.length c4, .bool res.1.down, .int .i64 res.1.fuse]) := Lib.hid (by rw [hw5]; exact Blk.new_ w4 _ _)
 have HU0 := Lib.hid (HY0.out.below hb5 HY0.out.lt)
 have HU2 := Lib.hid (HY2.out.below hb5 HY2.out.lt)
 have HF5 := Lib.hid (HF4.out.below hb5)
 have HB5 : Hid (Below w.heap.size w w5) := Lib.hid (HB4.out.trans (hb5.mono HB4.out.size))
 clear hw5 hb5 HY0 HY2 HF4 HB4
 have n0 : w5.cell? ⟨w4.heap.size, 0, none⟩ = some (.slice A4 rs4.length c4) := HN5.out.cell 0
 have n1 : w5.cell? ⟨w4.heap.size, 1, none⟩ = some (.bool res.1.down) := HN5.out.cell 1
 have n2 : w5.cell? ⟨w4.heap.size, 2, none⟩ = some (.int .i64 res.1.fuse) := HN5.out.cell 2
 have f0 := HU0.out.free 0
 have f1 := HU0.out.free 1
 have f2 := HU0.out.free 2
 have p0 : w5.cell? ⟨w.heap.size, 0, none⟩ = some (.slice A rs.length c) := HU0.out.cell 0
 have p1 : w5.cell? ⟨w.heap.size, 1, none⟩ = some (.bool s.down) := HU0.out.cell 1
 have p2 : w5.cell? ⟨w.heap.size, 2, none⟩ = some (.int .i64 s.fuse) := HU0.out.cell 2
 have p3 : w5.cell? ⟨w.heap.size, 3, none⟩ = some (.int .i64 x) := HU0.out.cell 3
 have p4 : w5.cell? ⟨w.heap.size, 4, none⟩ = some (.int .i64 t) := HU0.out.cell 4
 have p5 : w5.cell? ⟨w.heap.size, 5, none⟩ = some (.slice V vn a) := HU0.out.cell 5
 have p6 : w5.cell? ⟨w.heap.size, 6, none⟩ = some (.slice C cn b) := HU0.out.cell 6
 have p7 : w5.cell? ⟨w.heap.size, 7, none⟩ = some (.slice D dn d) := HU0.out.cell 7
 have p8 : w5.cell? ⟨w.heap.size, 8, none⟩ = some (.bool q) := HU0.out.cell 8
 go_upto_region 3 with fail
 obtain ⟨w6, hw6⟩ : ∃ z', z' = (((w5.setCell ⟨w.heap.size, 0, none⟩ (.slice A4 rs4.length c4)).setCell ⟨w.heap.size, 1, none⟩ (.bool res.1.down)).setCell ⟨w.heap.size, 2, none⟩ (.int .i64 res.1.fuse)) := ⟨_, rfl⟩
 rw [← hw6]
 have hT0 : Blk w6 w.heap.size 40 #[.slice A4 rs4.length c4, .bool res.1.down, .int .i64 res.1.fuse, .int .i64 x, .int .i64 t, .slice V vn a, .slice C cn b, .slice D dn d, .bool q] := by rw [hw6]; exact Blk.setN [(0, (.slice A4 rs4.length c4)), (1, (.bool res.1.down)), (2, (.int .i64 res.1.fuse))] HU0.out
 have hT2 : Blk w6 (w.heap.size + 2) 40 #[.slice none 0 0, .bool false, .int .i64 0, .int .i64 0, .int .i64 0, .slice none 0 0, .slice none 0 0, .slice none 0 0, .bool false] := by rw [hw6]; exact Blk.farN (by omega) [(0, (.slice A4 rs4.length c4)), (1, (.bool res.1.down)), (2, (.int .i64 res.1.fuse))] HU2.out
 have HF6 : Hid (Files (up (up G w3) w3) w6 A4 rs4) := Lib.hid (by rw [hw6]; exact Files.farN (by decide) (by decide) [(0, (.slice A4 rs4.length c4)), (1, (.bool res.1.down)), (2, (.int .i64 res.1.fuse))] (HF5.out.mono fun _ _ h => .inl h) HU0.out)
 have HB6 : Hid (Below w.heap.size w w6) := Lib.hid (by rw [hw6]; exact below_setN (Nat.le_refl _) [(0, (.slice A4 rs4.length c4)), (1, (.bool res.1.down)), (2, (.int .i64 res.1.fuse))] HB5.out)
 have HT2 := Lib.hid hT2
 clear hw6 HF5 HB5 HU0 HU2 HN5 n0 n1 n2 f0 f1 f2 p0 p1 p2 p3 p4 p5 p6 p7 p8
 have p0 : w6.cell? ⟨w.heap.size, 0, none⟩ = some (.slice A4 rs4.length c4) := hT0.cell 0
 have p1 : w6.cell? ⟨w.heap.size, 1, none⟩ = some (.bool res.1.down) := hT0.cell 1
 have p2 : w6.cell? ⟨w.heap.size, 2, none⟩ = some (.int .i64 res.1.fuse) := hT0.cell 2
 have p3 : w6.cell? ⟨w.heap.size, 3, none⟩ = some (.int .i64 x) := hT0.cell 3
 have p4 : w6.cell? ⟨w.heap.size, 4, none⟩ = some (.int .i64 t) := hT0.cell 4
 have p5 : w6.cell? ⟨w.heap.size, 5, none⟩ = some (.slice V vn a) := hT0.cell 5
 have p6 : w6.cell? ⟨w.heap.size, 6, none⟩ = some (.slice C cn b) := hT0.cell 6
 have p7 : w6.cell? ⟨w.heap.size, 7, none⟩ = some (.slice D dn d) := hT0.cell 7
 have p8 : w6.cell? ⟨w.heap.size, 8, none⟩ = some (.bool q) := hT0.cell 8
 have r0 : w6.cell? ⟨w.heap.size + 2, 0, none⟩ = some (.slice none 0 0) := hT2.cell 0
 have r1 : w6.cell? ⟨w.heap.size + 2, 1, none⟩ = some (.bool false) := hT2.cell 1
 have r2 : w6.cell? ⟨w.heap.size + 2, 2, none⟩ = some (.int .i64 0) := hT2.cell 2
 have r3 : w6.cell? ⟨w.heap.size + 2, 3, none⟩ = some (.int .i64 0) := hT2.cell 3
 have r4 : w6.cell? ⟨w.heap.size + 2, 4, none⟩ = some (.int .i64 0) := hT2.cell 4
 have r5 : w6.cell? ⟨w.heap.size + 2, 5, none⟩ = some (.slice none 0 0) := hT2.cell 5
 have r6 : w6.cell? ⟨w.heap.size + 2, 6, none⟩ = some (.slice none 0 0) := hT2.cell 6
 have r7 : w6.cell? ⟨w.heap.size + 2, 7, none⟩ = some (.slice none 0 0) := hT2.cell 7
 have r8 : w6.cell? ⟨w.heap.size + 2, 8, none⟩ = some (.bool false) := hT2.cell 8
 have f0 := hT2.free 0
 have f1 := hT2.free 1
 have f2 := hT2.free 2
 have f3 := hT2.free 3
 have f4 := hT2.free 4
 have f5 := hT2.free 5
 have f6 := hT2.free 6
 have f7 := hT2.free 7
 have f8 := hT2.free 8
 clear hT0 hT2
 go_wp2_with fail
 refine bodyPost_ret (v := .tuple #[.agg #[.slice A4 rs4.length c4, .bool res.1.down, .int .i64 res.1.fuse, .int .i64 x, .int .i64 t, .slice V vn a, .slice C cn b, .slice D dn d, .bool q], .int .i64 res.2]) (by simp [results, Tryz.results35, go_sem, r0, r1, r2, r3, r4, r5, r6, r7, r8]) rfl ?_
 refine ⟨A4, c4, rs4, rfl, ?_, HM4.out, ?_⟩
 ·exact (Files.farN (by decide) (by decide) [(0, (.slice A4 rs4.length c4)), (1, (.bool res.1.down)), (2, (.int .i64 res.1.fuse)), (3, (.int .i64 x)), (4, (.int .i64 t)), (5, (.slice V vn a)), (6, (.slice C cn b)), (7, (.slice D dn d)), (8, (.bool q))] HF6.out HT2.out).mono (fun g _ hg => by
   rcases hg with (hg | hg) | hg
   ·exact .inl hg
   ·exact .inr (by have := HZ3.out; omega)
   ·exact .inr (by have := HZ3.out; omega))
 ·exact below_setN (by omega) [(0, (.slice A4 rs4.length c4)), (1, (.bool res.1.down)), (2, (.int .i64 res.1.fuse)), (3, (.int .i64 x)), (4, (.int .i64 t)), (5, (.slice V vn a)), (6, (.slice C cn b)), (7, (.slice D dn d)), (8, (.bool q))] HB6.out
end Go.Proofs.YtfpomllhkbbipaaGreatDoor
