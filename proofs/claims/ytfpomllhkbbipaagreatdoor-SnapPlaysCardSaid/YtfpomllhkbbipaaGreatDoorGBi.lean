/- Layer 8: the document's store: Open. -/
import Derived.Shelf.Abstract
import Derived.Test.YtfpomllhkbbipaaGreatDoorGAw
import Derived.Test.YtfpomllhkbbipaaGreatDoorGBc
import Derived.Test.YtfpomllhkbbipaaGreatDoorGBh
import Derived.Test.YtfpomllhkbbipaaGreatDoorGAo
import Derived.Test.YtfpomllhkbbipaaGreatDoorGBd
namespace Go.Proofs.YtfpomllhkbbipaaGreatDoor
open Go Go.RowKit Go.Shelf Go.Sort Go.Maps Go.Lib Mem Pk Cf Dsk Go.Proofs.YtfpomllhkbbipaaGreatDoor.Nm Sto
def R8P (G R : Nat → Prop) (r : S × Option SnT × Nat) (w : World) (e : Ending) (w' : World) : Prop :=
 ∃ A c rs V C D a b d, e = .returned (.tuple #[.agg #[.slice A rs.length c, .bool r.1.down, .int .i64 r.1.fuse, .int .i64 (r.2.1.getD zS).x, .int .i64 (r.2.1.getD zS).t, .slice V (r.2.1.getD zS).vs.length a, .slice C (r.2.1.getD zS).ls.length b, .slice D (r.2.1.getD zS).ds.length d, .bool r.2.1.isSome], .int .i64 r.2.2]) ∧ Files (up G w) w' A rs ∧ rs.map RFile.file = r.1.files ∧ ArgAt R w' (r.2.1.getD zS) V C D ∧ Below w.heap.size w w'
def O1Rel (_G : Nat → Prop) (A : Option Addr) (c : Nat) (rs : List RFile) (s : S) (w w3 : World) (iv : Value) (wr : World) : Prop :=
 ∃ (k : Nat) (l : Option SnT) (V C D : Option Addr) (a b d : Nat), k ≤ rs.length ∧ iv = .int .i64 (k : Int) ∧ lastN s (s.files.take k) = l ∧ Blk wr (w.heap.size + 1 + 1) 40 #[.slice A rs.length c, .bool false, .int .i64 0, .int .i64 (l.getD zS).x, .int .i64 (l.getD zS).t, .slice V (l.getD zS).vs.length a, .slice C (l.getD zS).ls.length b, .slice D (l.getD zS).ds.length d, .bool l.isSome] ∧ ArgAt (fun g => w3.heap.size ≤ g) wr (l.getD zS) V C D ∧ Frm (fun g => g = w.heap.size + 1 + 1) w3 wr
def O2Rel (f : Option SnT) (g0 : List Name) (fs : List File) (n : Nat) (wG : World) (gv iv : Value) (W : World) : Prop :=
 ∃ k : Nat, k ≤ n ∧ iv = .int .i64 (k : Int) ∧ Mem.Own encStr wG.heap.size 9 W gv (goneN f g0 (fs.take k)) ∧ Below wG.heap.size wG W
theorem take_file {rs : List RFile} {fs : List File} (h : rs.map RFile.file = fs) {k : Nat} (hk : k < rs.length) : fs.take (k + 1) = fs.take k ++ [rs[k].file] := by
 subst h
 rw [List.take_succ_eq_append_getElem (by rw [List.length_map]; exact hk), List.getElem_map]
theorem read_at {s : S} (hso : Sorted s.files) (hd : s.down = false) {f : File} (hf : f ∈ s.files) (hn : named f.name = true) : (Dsk.read s f.name).1 = f.now := by
 unfold Dsk.read
 rw [look_found hd hn (find_uniq hso hf)]
def O3Cut (G : Nat → Prop) (r : S × Nat) (x t : Int) (V : Option Addr) (vn a : Nat) (C : Option Addr) (cn b : Nat) (D : Option Addr) (dn d : Nat) (q : Bool) (wr : World) (s15 s16 : Value) (wx : World) : Prop :=
 ∃ (N : Nat) (A : Option Addr) (c : Nat) (rs : List RFile), s15 = .pointer (some ⟨N, 0, none⟩) ∧ s16 = .int .i64 r.2 ∧ wr.heap.size ≤ N ∧ Blk wx N 40 #[.slice A rs.length c, .bool r.1.down, .int .i64 r.1.fuse, .int .i64 x, .int .i64 t, .slice V vn a, .slice C cn b, .slice D dn d, .bool q] ∧
   Files (up G wr) wx A rs ∧ rs.map RFile.file = r.1.files ∧ Below wr.heap.size wr wx
def O3Rel (G : Nat → Prop) (s : S) (gs : List Name) (x t : Int) (V : Option Addr) (vn a : Nat) (C : Option Addr) (cn b : Nat) (D : Option Addr) (dn d : Nat) (q : Bool) (sb : Nat) (w wL : World) (iv : Value) (wr : World) : Prop :=
 ∃ (j : Nat) (sk : S) (A : Option Addr) (c : Nat) (rs : List RFile), j ≤ gs.length ∧ iv = .int .i64 (j : Int) ∧ Hid (rmAll s gs = rmAll sk (gs.drop j)) ∧ InvS sk ∧ Blk wr sb 40 #[.slice A rs.length c, .bool sk.down, .int .i64 sk.fuse, .int .i64 x, .int .i64 t, .slice V vn a, .slice C cn b, .slice D dn d, .bool q] ∧
   Files (up G w) wr A rs ∧ rs.map RFile.file = sk.files ∧ Frm (fun g => g = sb) wL wr
theorem newBx9 {wq W : World} (_ : Below wq.heap.size wq W) (ty : TypeId) (cs : Array Value) : Blk (W.alloc (.cells cs ty)) W.heap.size ty cs := Blk.new_ W ty cs
theorem ArgAt.mono {F G : Nat → Prop} {w : World} {x : SnT} {A C D : Option Addr} (h : ArgAt F w x A C D) (hF : ∀ g, g < w.heap.size → F g → G g) : ArgAt G w x A C D := ⟨h.v.imp fun _ h => h.mono hF, h.l.imp fun _ h => h.mono hF, h.d.imp fun _ h => h.mono hF⟩
theorem ArgAt.setN {F : Nat → Prop} {x : SnT} {A C D : Option Addr} {g : Nat} (hg : ∀ k, F k → k ≠ g) : ∀ (us : List (Nat × Value)) {W : World}, ArgAt F W x A C D → ArgAt F (us.foldl (fun W u => W.setCell ⟨g, u.1, none⟩ u.2) W) x A C D
 | [], _, h => h
 | u :: us, W, h => ArgAt.setN hg us (h.same (fun k hk hF => ((Frm.refl (fun k => k = g) W).setCell (p := ⟨g, u.1, none⟩) (fun _ => rfl) u.2).block k hk (hg k hF)))
theorem R8P.mk {G R : Nat → Prop} {s : S} {gs : List Name} (sk : S) (l : Option SnT) (k : Nat) {X T : Int} {vn cn dn : Nat} {q : Bool} {w W : World} {A V C D : Option Addr} {c a b d : Nat} {rs : List RFile} (ho : openS s = ((rmAll s gs).1, l, (rmAll s gs).2)) (hr : rmAll s gs = (sk, k)) (he : X = (l.getD zS).x ∧ T = (l.getD zS).t ∧ vn = (l.getD zS).vs.length ∧ cn = (l.getD zS).ls.length ∧ dn = (l.getD zS).ds.length ∧ q = l.isSome)
 (hf : Files (up G w) W A rs) (hm : rs.map RFile.file = sk.files) (ha : ArgAt R W (l.getD zS) V C D) (hb : Below w.heap.size w W) :
 R8P G R (openS s) w (.returned (.tuple #[.agg #[.slice A rs.length c, .bool sk.down, .int .i64 sk.fuse, .int .i64 X, .int .i64 T, .slice V vn a, .slice C cn b, .slice D dn d, .bool q], .int .i64 (k : Int)])) W := by
 obtain ⟨rfl, rfl, rfl, rfl, rfl, rfl⟩ := he
 rw [ho, hr]
 exact ⟨A, c, rs, V, C, D, a, b, d, rfl, hf, hm, ha, hb⟩
theorem Blk.put9 {W : World} {g : Nat} {t : TypeId} {c0 c1 c2 c3 c4 c5 c6 c7 c8 : Value} (h : Blk W g t #[c0, c1, c2, c3, c4, c5, c6, c7, c8]) (v0 v1 v2 v3 v4 v5 v6 v7 v8 : Value) : Blk (((((((((W.setCell ⟨g, 0, none⟩ v0).setCell ⟨g, 1, none⟩ v1).setCell ⟨g, 2, none⟩ v2).setCell ⟨g, 3, none⟩ v3).setCell ⟨g, 4, none⟩ v4).setCell ⟨g, 5, none⟩ v5).setCell ⟨g, 6, none⟩ v6).setCell ⟨g, 7, none⟩ v7).setCell ⟨g, 8, none⟩ v8) g t #[v0, v1, v2, v3, v4, v5, v6, v7, v8] := by
 have h0 : Blk (W.setCell ⟨g, 0, none⟩ v0) g t #[v0, c1, c2, c3, c4, c5, c6, c7, c8] := h.set_ 0 v0
 have h1 : Blk ((W.setCell ⟨g, 0, none⟩ v0).setCell ⟨g, 1, none⟩ v1) g t #[v0, v1, c2, c3, c4, c5, c6, c7, c8] := h0.set_ 1 v1
 have h2 : Blk (((W.setCell ⟨g, 0, none⟩ v0).setCell ⟨g, 1, none⟩ v1).setCell ⟨g, 2, none⟩ v2) g t #[v0, v1, v2, c3, c4, c5, c6, c7, c8] := h1.set_ 2 v2
 have h3 : Blk ((((W.setCell ⟨g, 0, none⟩ v0).setCell ⟨g, 1, none⟩ v1).setCell ⟨g, 2, none⟩ v2).setCell ⟨g, 3, none⟩ v3) g t #[v0, v1, v2, v3, c4, c5, c6, c7, c8] := h2.set_ 3 v3
 have h4 : Blk (((((W.setCell ⟨g, 0, none⟩ v0).setCell ⟨g, 1, none⟩ v1).setCell ⟨g, 2, none⟩ v2).setCell ⟨g, 3, none⟩ v3).setCell ⟨g, 4, none⟩ v4) g t #[v0, v1, v2, v3, v4, c5, c6, c7, c8] := h3.set_ 4 v4
 have h5 : Blk ((((((W.setCell ⟨g, 0, none⟩ v0).setCell ⟨g, 1, none⟩ v1).setCell ⟨g, 2, none⟩ v2).setCell ⟨g, 3, none⟩ v3).setCell ⟨g, 4, none⟩ v4).setCell ⟨g, 5, none⟩ v5) g t #[v0, v1, v2, v3, v4, v5, c6, c7, c8] := h4.set_ 5 v5
 have h6 : Blk (((((((W.setCell ⟨g, 0, none⟩ v0).setCell ⟨g, 1, none⟩ v1).setCell ⟨g, 2, none⟩ v2).setCell ⟨g, 3, none⟩ v3).setCell ⟨g, 4, none⟩ v4).setCell ⟨g, 5, none⟩ v5).setCell ⟨g, 6, none⟩ v6) g t #[v0, v1, v2, v3, v4, v5, v6, c7, c8] := h5.set_ 6 v6
 have h7 : Blk ((((((((W.setCell ⟨g, 0, none⟩ v0).setCell ⟨g, 1, none⟩ v1).setCell ⟨g, 2, none⟩ v2).setCell ⟨g, 3, none⟩ v3).setCell ⟨g, 4, none⟩ v4).setCell ⟨g, 5, none⟩ v5).setCell ⟨g, 6, none⟩ v6).setCell ⟨g, 7, none⟩ v7) g t #[v0, v1, v2, v3, v4, v5, v6, v7, c8] := h6.set_ 7 v7
 have h8 : Blk (((((((((W.setCell ⟨g, 0, none⟩ v0).setCell ⟨g, 1, none⟩ v1).setCell ⟨g, 2, none⟩ v2).setCell ⟨g, 3, none⟩ v3).setCell ⟨g, 4, none⟩ v4).setCell ⟨g, 5, none⟩ v5).setCell ⟨g, 6, none⟩ v6).setCell ⟨g, 7, none⟩ v7).setCell ⟨g, 8, none⟩ v8) g t #[v0, v1, v2, v3, v4, v5, v6, v7, v8] := h7.set_ 8 v8
 exact h8
theorem Files.put9 {F : Nat → Prop} {W : World} {A : Option Addr} {rs : List RFile} {g : Nat} {t : TypeId} {cs : Array Value} (hn1 : 59 ≠ t) (hne : 5 ≠ t) (h : Files F W A rs) (hb : Blk W g t cs) (v0 v1 v2 v3 v4 v5 v6 v7 v8 : Value) : Files F (((((((((W.setCell ⟨g, 0, none⟩ v0).setCell ⟨g, 1, none⟩ v1).setCell ⟨g, 2, none⟩ v2).setCell ⟨g, 3, none⟩ v3).setCell ⟨g, 4, none⟩ v4).setCell ⟨g, 5, none⟩ v5).setCell ⟨g, 6, none⟩ v6).setCell ⟨g, 7, none⟩ v7).setCell ⟨g, 8, none⟩ v8) A rs :=
 Files.farN hn1 hne [(0, v0), (1, v1), (2, v2), (3, v3), (4, v4), (5, v5), (6, v6), (7, v7), (8, v8)] h hb
theorem Below.put9 {B g : Nat} {w W : World} (hg : B ≤ g) (h : Below B w W) (v0 v1 v2 v3 v4 v5 v6 v7 v8 : Value) : Below B w (((((((((W.setCell ⟨g, 0, none⟩ v0).setCell ⟨g, 1, none⟩ v1).setCell ⟨g, 2, none⟩ v2).setCell ⟨g, 3, none⟩ v3).setCell ⟨g, 4, none⟩ v4).setCell ⟨g, 5, none⟩ v5).setCell ⟨g, 6, none⟩ v6).setCell ⟨g, 7, none⟩ v7).setCell ⟨g, 8, none⟩ v8) :=
 below_setN hg [(0, v0), (1, v1), (2, v2), (3, v3), (4, v4), (5, v5), (6, v6), (7, v7), (8, v8)] h
theorem Mem.Frm.put9 {g : Nat} {w W : World} (h : Frm (fun k => k = g) w W) (v0 v1 v2 v3 v4 v5 v6 v7 v8 : Value) : Frm (fun k => k = g) w (((((((((W.setCell ⟨g, 0, none⟩ v0).setCell ⟨g, 1, none⟩ v1).setCell ⟨g, 2, none⟩ v2).setCell ⟨g, 3, none⟩ v3).setCell ⟨g, 4, none⟩ v4).setCell ⟨g, 5, none⟩ v5).setCell ⟨g, 6, none⟩ v6).setCell ⟨g, 7, none⟩ v7).setCell ⟨g, 8, none⟩ v8) :=
 (((((((((h.setCell (p := ⟨g, 0, none⟩) (fun _ => rfl) v0).setCell (p := ⟨g, 1, none⟩) (fun _ => rfl) v1).setCell (p := ⟨g, 2, none⟩) (fun _ => rfl) v2).setCell (p := ⟨g, 3, none⟩) (fun _ => rfl) v3).setCell (p := ⟨g, 4, none⟩) (fun _ => rfl) v4).setCell (p := ⟨g, 5, none⟩) (fun _ => rfl) v5).setCell (p := ⟨g, 6, none⟩) (fun _ => rfl) v6).setCell (p := ⟨g, 7, none⟩) (fun _ => rfl) v7).setCell (p := ⟨g, 8, none⟩) (fun _ => rfl) v8)
theorem ArgAt.put9 {F : Nat → Prop} {x : SnT} {A C D : Option Addr} {g : Nat} {W : World} (hg : ∀ k, F k → k ≠ g) (h : ArgAt F W x A C D) (v0 v1 v2 v3 v4 v5 v6 v7 v8 : Value) : ArgAt F (((((((((W.setCell ⟨g, 0, none⟩ v0).setCell ⟨g, 1, none⟩ v1).setCell ⟨g, 2, none⟩ v2).setCell ⟨g, 3, none⟩ v3).setCell ⟨g, 4, none⟩ v4).setCell ⟨g, 5, none⟩ v5).setCell ⟨g, 6, none⟩ v6).setCell ⟨g, 7, none⟩ v7).setCell ⟨g, 8, none⟩ v8) x A C D :=
 ArgAt.setN hg [(0, v0), (1, v1), (2, v2), (3, v3), (4, v4), (5, v5), (6, v6), (7, v7), (8, v8)] h
set_option maxRecDepth 100000 in
set_option maxHeartbeats 16000000 in
theorem ROpen8_any {G : Nat → Prop} {w : World} (A : Option Addr) (c : Nat) (rs : List RFile) (h : Files G w A rs) (s : S) (hs : rs.map RFile.file = s.files) (hiv : InvS s) (hd : s.down = false) (hf : s.fuse = 0) :
 Calls Tryz.prog 10 #[.agg #[.slice A rs.length c, .bool false, .int .i64 0]] w (R8P G (fun g => w.heap.size ≤ g) (openS s) w) := by
 have hlr : rs.length ≤ 256 := by rw [← List.length_map (f := RFile.file), hs]; exact hiv.count
 have hnm : ∀ g ∈ s.files, named g.name = true := by
  rw [← hs]
  intro g hg
  obtain ⟨r, hr, rfl⟩ := List.mem_map.1 hg
  exact (h.2 r hr).sz.2.2
 have HF := Lib.hid (h.mono (G := fun g => G g ∧ g < w.heap.size) (fun g hl hg => ⟨hg, hl⟩))
 have HS := Lib.hid hs
 have HIV := Lib.hid hiv
 have HNMD := Lib.hid hnm
 have HUP := Lib.hid (And.intro hd hf)
 clear h hs hiv hnm hd hf
 go_enter Tryz.func10, Tryz.ntmps10
 go_upto_region 4 with fail
 obtain ⟨w3, hw3⟩ : ∃ z, z = ((w.alloc (.cells #[.slice A rs.length c, .bool false, .int .i64 0] 32)).alloc (.cells #[.slice none 0 0, .bool false, .int .i64 0, .int .i64 0, .int .i64 0, .slice none 0 0, .slice none 0 0, .slice none 0 0, .bool false] 40)).alloc (.cells #[.slice A rs.length c, .bool false, .int .i64 0, .int .i64 0, .int .i64 0, .slice none 0 0, .slice none 0 0, .slice none 0 0, .bool false] 40) := ⟨_, rfl⟩
 rw [← hw3]
 have hz3 : w3.heap.size = w.heap.size + 3 := by rw [hw3]; simp [World.size_alloc]
 have hb3 : Below w.heap.size w w3 := by
  rw [hw3]; exact (((Below.refl _ _).alloc (Nat.le_refl _) _).alloc (by simp) _).alloc (by simp; omega) _
 have hx0 : Blk w3 w.heap.size 32 #[.slice A rs.length c, .bool false, .int .i64 0] := by rw [hw3]; exact ((Blk.new_ w _ _).alloc _).alloc _
 have hx1 : Blk w3 (w.heap.size + 1) 40 #[.slice none 0 0, .bool false, .int .i64 0, .int .i64 0, .int .i64 0, .slice none 0 0, .slice none 0 0, .slice none 0 0, .bool false] := by
  have := (Blk.new_ (w.alloc (.cells #[.slice A rs.length c, .bool false, .int .i64 0] 32)) 40 #[.slice none 0 0, .bool false, .int .i64 0, .int .i64 0, .int .i64 0, .slice none 0 0, .slice none 0 0, .slice none 0 0, .bool false]).alloc (.cells #[.slice A rs.length c, .bool false, .int .i64 0, .int .i64 0, .int .i64 0, .slice none 0 0, .slice none 0 0, .slice none 0 0, .bool false] 40)
  rw [World.size_alloc] at this; rw [hw3]; exact this
 have hx2 : Blk w3 (w.heap.size + 1 + 1) 40 #[.slice A rs.length c, .bool false, .int .i64 0, .int .i64 0, .int .i64 0, .slice none 0 0, .slice none 0 0, .slice none 0 0, .bool false] := by
  have := Blk.new_ ((w.alloc (.cells #[.slice A rs.length c, .bool false, .int .i64 0] 32)).alloc (.cells #[.slice none 0 0, .bool false, .int .i64 0, .int .i64 0, .int .i64 0, .slice none 0 0, .slice none 0 0, .slice none 0 0, .bool false] 40)) 40 #[.slice A rs.length c, .bool false, .int .i64 0, .int .i64 0, .int .i64 0, .slice none 0 0, .slice none 0 0, .slice none 0 0, .bool false]
  rw [World.size_alloc, World.size_alloc] at this; rw [hw3]; exact this
 have HZ3 := Lib.hid hz3
 have HB3 := Lib.hid hb3
 have HX0 := Lib.hid hx0
 have HX1 := Lib.hid hx1
 have HX2 := Lib.hid hx2
 have HF3 : Hid (Files (fun g => G g ∧ g < w.heap.size) w3 A rs) := Lib.hid (HF.out.below hb3)
 clear hw3 hz3 hb3 hx0 hx1 hx2 HF
 go_wp2_with fail
 go_loopw [5] (fun iv wr => O1Rel G A c rs s w w3 iv wr) (fun iv _ => rs.length - (intOf iv).toNat)
 case atStart => exact ⟨0, none, none, none, none, 0, 0, 0, Nat.zero_le _, rfl, rfl, HX2.out, ⟨⟨_, SlB.nil (e := 3)⟩, ⟨_, SlB.nil (e := 3)⟩, ⟨_, SlB.nil (e := 5)⟩⟩, Frm.refl _ _⟩
 case round =>
  obtain ⟨k, l, V, C, D, a, b, d, hk, rfl, hl, hbox, harg, hfr⟩ := hrel
  have HL := Lib.hid hl
  have HBOX := Lib.hid hbox
  have HARG := Lib.hid harg
  have HFR := Lib.hid hfr
  have HFI := Lib.hid (HF3.out.frm hfr (fun g hg e => by have := hg.2; omega))
  have HD0 : Hid (Blk wr w.heap.size 32 #[.slice A rs.length c, .bool false, .int .i64 0]) := Lib.hid (HX0.out.frm hfr (by omega))
  have HZR : Hid (w.heap.size + 3 ≤ wr.heap.size) := Lib.hid (by have h1 := hfr.size; have h2 := HZ3.out; omega)
  clear hl hbox harg hfr
  have d0 : wr.cell? ⟨w.heap.size, 0, none⟩ = some (.slice A rs.length c) := HD0.out.cell 0
  by_cases hlt : k < rs.length
  ·have HLT := Lib.hid hlt
   --SKIP
   obtain ⟨bw, ow, rfl, -, -, hc9⟩ := HFI.out.1.at hlt
   obtain ⟨r, hr⟩ : ∃ z, z = rs[k] := ⟨_, rfl⟩
   have c0 : wr.cell? ⟨bw, ow + k * 3, none⟩ = some (.string ⟨r.file.name.toArray⟩) := by rw [hr]; exact hc9 0 (by decide)
   have c1 : wr.cell? ⟨bw, ow + k * 3 + 1, none⟩ = some (.slice r.A r.file.now.length r.c) := by rw [hr]; exact hc9 1 (by decide)
   have HROK : Hid (RFok (fun g => G g ∧ g < w.heap.size) wr r) := Lib.hid (by rw [hr]; exact HFI.out.2 _ (List.getElem_mem hlt))
   have htk : s.files.take (k + 1) = s.files.take k ++ [r.file] := by rw [hr]; exact take_file HS.out hlt
   have hmem : r.file ∈ s.files := by rw [← HS.out, hr]; exact List.mem_map.2 ⟨_, List.getElem_mem hlt, rfl⟩
   have hn16 := HNMD.out _ hmem
   have hrd := read_at HIV.out.sorted HUP.out.1 hmem hn16
   have HTK := Lib.hid htk
   have HRD := Lib.hid hrd
   have HIX := Lib.hid (RIx8_any (w := wr) r.file.name (by unfold named at hn16; simp at hn16; unfold maxLen; omega))
   unfold IxP at HIX
   have hk0 : (0 : Int) ≤ (k : Int) := by omega
   have hk1 : (k : Int) < (rs.length : Int) := by omega
   clear hr hc9 htk hmem hn16 hrd hlt
   cases hi : idxN 115 r.file.name with
   | none =>
     have HL2 : Hid (lastN s (s.files.take (k + 1)) = l) := Lib.hid (by rw [HTK.out, lastN_not hi]; exact HL.out)
     rw [hi] at HIX
     change Hid (Calls _ _ _ _ fun e w' => e = .returned (.tuple #[.int .i64 0, .bool false]) ∧ w' = wr) at HIX
     clear hi
     go_wp2_with fail
     (with_reducible refine HIX.out.mono ?_); rintro e w' ⟨rfl, hw'⟩; have hw' := hw'.symm; subst hw'
     go_wp2_with fail
     go_roundw
     case rel => exact ⟨k + 1, l, V, C, D, a, b, d, HLT.out, by go_num, HL2.out, HBOX.out, HARG.out, HFR.out⟩
     case measure => simp [intOf]; have := HLT.out; omega
   | some i =>
     have hli := lastN_is (s := s) (fs := s.files.take k) (f := r.file) (i := i) hi HRD.out
     rw [← HTK.out, HL.out] at hli
     rw [hi] at HIX
     change Hid (Calls _ _ _ _ fun e w' => e = .returned (.tuple #[.int .i64 (i : Int), .bool true]) ∧ w' = wr) at HIX
     have HRR := Lib.hid (RRead_any (w := wr) (A := r.A) (c := r.c) (bs := r.file.now) HROK.out.now.sl HROK.out.cn (by have := HROK.out.sz.1; omega))
     clear hi
     go_wp2_with fail
     (with_reducible refine HIX.out.mono ?_); rintro e w' ⟨rfl, hw'⟩; have hw' := hw'.symm; subst hw'
     go_wp2_with fail
     (with_reducible refine HRR.out.mono ?_); rintro e w4 ⟨hb4, hno, hyes⟩
     have HB4 := Lib.hid hb4
     clear hb4 HRR HIX
     cases hx : readS r.file.now with
     | none =>
       rw [hx] at hli
       have HL2 : Hid (lastN s (s.files.take (k + 1)) = l) := Lib.hid hli
       obtain rfl := hno hx
       unfold zeroSn
       clear hno hyes hx hli
       go_upto_region 10 with fail
       obtain ⟨w5, hw5⟩ : ∃ z, z = w4.alloc (.cells #[.int .i64 0, .int .i64 0, .slice none 0 0, .slice none 0 0, .slice none 0 0] 38) := ⟨_, rfl⟩
       rw [← hw5]
       have hb5 : Below wr.heap.size wr w5 := by rw [hw5]; exact HB4.out.alloc HB4.out.size _
       have HB5 := Lib.hid hb5
       clear hw5 hb5
       go_wp2_with fail
       go_roundw
       case rel => exact ⟨k + 1, l, V, C, D, a, b, d, HLT.out, by go_num, HL2.out, HBOX.out.below HB5.out HBOX.out.lt, HARG.out.below HB5.out, HFR.out.trans (Frm.below HB5.out)⟩
       case measure => simp [intOf]; have := HLT.out; omega
     | some x =>
       rw [hx] at hli
       simp only at hli
       obtain ⟨A2, C2, D2, a2, c2, d2, rfl, -, -, o1, o2, o3⟩ := hyes x hx
       have HR4 : Hid (ArgAt (fun g => wr.heap.size ≤ g) w4 x A2 C2 D2) := Lib.hid ⟨⟨_, o1⟩, ⟨_, o2⟩, ⟨_, o3⟩⟩
       clear hno hyes hx o1 o2 o3
       go_upto_region 10 with fail
       obtain ⟨w5, hw5⟩ : ∃ z, z = w4.alloc (.cells #[.int .i64 x.x, .int .i64 x.t, .slice A2 x.vs.length a2, .slice C2 x.ls.length c2, .slice D2 x.ds.length d2] 38) := ⟨_, rfl⟩
       rw [← hw5]
       have hb45 : Below w4.heap.size w4 w5 := by rw [hw5]; exact (Below.refl _ _).alloc (Nat.le_refl _) _
       have hb5 : Below wr.heap.size wr w5 := HB4.out.trans (hb45.mono HB4.out.size)
       have hx5 : Blk w5 w4.heap.size 38 #[.int .i64 x.x, .int .i64 x.t, .slice A2 x.vs.length a2, .slice C2 x.ls.length c2, .slice D2 x.ds.length d2] := by rw [hw5]; exact Blk.new_ w4 _ _
       have HB5 := Lib.hid hb5
       have HX5 := Lib.hid hx5
       have HR5 := Lib.hid (HR4.out.below hb45)
       have HBX5 := Lib.hid (HBOX.out.below hb5 HBOX.out.lt)
       obtain ⟨xb, hxb⟩ : ∃ z, z = w4.heap.size := ⟨_, rfl⟩
       rw [← hxb] at hx5 HX5 ⊢
       have x0 : w5.cell? ⟨xb, 0, none⟩ = some (.int .i64 x.x) := hx5.cell 0
       have x1 : w5.cell? ⟨xb, 1, none⟩ = some (.int .i64 x.t) := hx5.cell 1
       have x2 : w5.cell? ⟨xb, 2, none⟩ = some (.slice A2 x.vs.length a2) := hx5.cell 2
       have x3 : w5.cell? ⟨xb, 3, none⟩ = some (.slice C2 x.ls.length c2) := hx5.cell 3
       have x4 : w5.cell? ⟨xb, 4, none⟩ = some (.slice D2 x.ds.length d2) := hx5.cell 4
       have fb3 := HBX5.out.free 3
       have fb4 := HBX5.out.free 4
       have fb5 := HBX5.out.free 5
       have fb6 := HBX5.out.free 6
       have fb7 := HBX5.out.free 7
       have fb8 := HBX5.out.free 8
       have sc3 : w5.cell? ⟨w.heap.size + 1 + 1, 3, none⟩ = some (.int .i64 (l.getD zS).x) := HBX5.out.cell 3
       have sc4 : w5.cell? ⟨w.heap.size + 1 + 1, 4, none⟩ = some (.int .i64 (l.getD zS).t) := HBX5.out.cell 4
       have sc5 : w5.cell? ⟨w.heap.size + 1 + 1, 5, none⟩ = some (.slice V (l.getD zS).vs.length a) := HBX5.out.cell 5
       have sc6 : w5.cell? ⟨w.heap.size + 1 + 1, 6, none⟩ = some (.slice C (l.getD zS).ls.length b) := HBX5.out.cell 6
       have sc7 : w5.cell? ⟨w.heap.size + 1 + 1, 7, none⟩ = some (.slice D (l.getD zS).ds.length d) := HBX5.out.cell 7
       have sc8 : w5.cell? ⟨w.heap.size + 1 + 1, 8, none⟩ = some (.bool l.isSome) := HBX5.out.cell 8
       clear hw5 hb45 hb5 hx5 hxb
       by_cases hxi : x.x = (i : Int)
       ·rw [if_pos hxi] at hli
        have HL2 : Hid (lastN s (s.files.take (k + 1)) = some x) := Lib.hid hli
        have t1 : (x.x == (i : Int)) = true := by rw [beq_iff_eq]; exact hxi
        clear hxi hli
        go_wp2_with fail
        obtain ⟨W, hW⟩ : ∃ z, z = ((((((w5.setCell ⟨w.heap.size + 1 + 1, 3, none⟩ (.int .i64 x.x)).setCell ⟨w.heap.size + 1 + 1, 4, none⟩ (.int .i64 x.t)).setCell ⟨w.heap.size + 1 + 1, 5, none⟩ (.slice A2 x.vs.length a2)).setCell ⟨w.heap.size + 1 + 1, 6, none⟩ (.slice C2 x.ls.length c2)).setCell ⟨w.heap.size + 1 + 1, 7, none⟩ (.slice D2 x.ds.length d2)).setCell ⟨w.heap.size + 1 + 1, 8, none⟩ (.bool true)) := ⟨_, rfl⟩
        rw [← hW]
        have hset : Frm (fun g => g = w.heap.size + 1 + 1) w5 W := by
         rw [hW]; exact ((((((Frm.refl (fun g => g = w.heap.size + 1 + 1) w5).setCell (p := ⟨w.heap.size + 1 + 1, 3, none⟩) (fun _ => rfl) _).setCell (p := ⟨w.heap.size + 1 + 1, 4, none⟩) (fun _ => rfl) _).setCell (p := ⟨w.heap.size + 1 + 1, 5, none⟩) (fun _ => rfl) _).setCell (p := ⟨w.heap.size + 1 + 1, 6, none⟩) (fun _ => rfl) _).setCell (p := ⟨w.heap.size + 1 + 1, 7, none⟩) (fun _ => rfl) _).setCell (p := ⟨w.heap.size + 1 + 1, 8, none⟩) (fun _ => rfl) _
        have HBW : Hid (Blk W (w.heap.size + 1 + 1) 40 #[.slice (some ⟨bw, ow, none⟩) rs.length c, .bool false, .int .i64 0, .int .i64 x.x, .int .i64 x.t, .slice A2 x.vs.length a2, .slice C2 x.ls.length c2, .slice D2 x.ds.length d2, .bool true]) := Lib.hid (by rw [hW]; exact Blk.setN [(3, (.int .i64 x.x)), (4, (.int .i64 x.t)), (5, (.slice A2 x.vs.length a2)), (6, (.slice C2 x.ls.length c2)), (7, (.slice D2 x.ds.length d2)), (8, (.bool true))] HBX5.out)
        have HSET := Lib.hid hset
        clear hW hset
        go_roundw
        case rel => exact ⟨k + 1, some x, A2, C2, D2, a2, c2, d2, HLT.out, by go_num, HL2.out, HBW.out, (HR5.out.same (fun g hl hg => HSET.out.block g hl (fun e => by have := HZR.out; omega))).mono (fun g _ hg => by have h1 := HFR.out.size; have h2 : wr.heap.size ≤ g := hg; show w3.heap.size ≤ g; omega), (HFR.out.trans (Frm.below HB5.out)).trans HSET.out⟩
        case measure => simp [intOf]; have := HLT.out; omega
       ·rw [if_neg hxi] at hli
        have HL2 : Hid (lastN s (s.files.take (k + 1)) = l) := Lib.hid hli
        have t1 : (x.x == (i : Int)) = false := by rw [beq_eq_false_iff_ne]; exact hxi
        clear hxi hli
        go_wp2_with fail
        go_roundw
        case rel => exact ⟨k + 1, l, V, C, D, a, b, d, HLT.out, by go_num, HL2.out, HBX5.out, HARG.out.below HB5.out, HFR.out.trans (Frm.below HB5.out)⟩
        case measure => simp [intOf]; have := HLT.out; omega
   --KEEP
  ·have hke : k = rs.length := by omega
   have hk1 : ¬ (k : Int) < (rs.length : Int) := by omega
   have HFF : Hid (findS s (namesS s).reverse = l) := Lib.hid (by
    rw [← lastN_all]
    have h1 := HL.out
    rw [hke, ← List.length_map (f := RFile.file), HS.out, List.take_length] at h1
    exact h1)
   clear hlt hk hke HL
   obtain ⟨wG, hwG⟩ : ∃ z, z = wr := ⟨_, rfl⟩
   subst hwG
   obtain ⟨g0, hg0⟩ : ∃ z : List Name, z = if nmT ∈ snames s then [nmT] else [] := ⟨_, rfl⟩
   have HG0 := Lib.hid hg0
   have HG1 : Hid (g0.length ≤ 1) := Lib.hid (by rw [hg0]; split <;> simp)
   clear hg0
   go_upto_region 14 with fail
   clear d0 hk1
   obtain ⟨wA, hwA⟩ : ∃ z, z = wG.alloc (.cells #[] 9) := ⟨_, rfl⟩
   rw [← hwA]
   have hbA : Below wG.heap.size wG wA := by rw [hwA]; exact (Below.refl _ _).alloc (Nat.le_refl _) _
   have HOA : Hid (Mem.Own encStr wG.heap.size 9 wA (.slice (some ⟨wG.heap.size, 0, none⟩) 0 0) ([] : List Name)) := Lib.hid (by rw [hwA]; exact Own.mk_ (Nat.le_refl _))
   have hfi := Find_any A c rs (HFI.out.below hbA) false 0 ⟨#[115, 110, 97, 112, 46, 116, 109, 112]⟩
   rw [show ((0 : Nat) : Int) = 0 from rfl] at hfi
   have HFD := Lib.hid hfi
   have hdA := HD0.out.below hbA HD0.out.lt
   have HBA := Lib.hid hbA
   have p0 : wA.cell? ⟨w.heap.size, 0, none⟩ = some (.slice A rs.length c) := hdA.cell 0
   have p1 : wA.cell? ⟨w.heap.size, 1, none⟩ = some (.bool false) := hdA.cell 1
   have p2 : wA.cell? ⟨w.heap.size, 2, none⟩ = some (.int .i64 0) := hdA.cell 2
   clear hwA hbA hfi hdA
   go_wp2_with fail
   (with_reducible refine HFD.out.mono ?_); rintro e w6 ⟨i, rfl, hb6, hfind⟩
   have HB6 : Hid (Below wG.heap.size wG w6) := Lib.hid (HBA.out.trans (hb6.mono HBA.out.size))
   have HO6 := Lib.hid (HOA.out.below hb6)
   clear hb6 HFD HOA p0 p1 p2
   go_upto_if 64 with fail
   go_cut [10] (fun gv W => Mem.Own encStr wG.heap.size 9 W gv g0 ∧ Below wG.heap.size wG W)
   case first =>
    have hz6 := HB6.out.size
    rcases hfind with ⟨rfl, hnone⟩ | ⟨k', rfl, hk', hkn, -⟩
    ·have hg : g0 = [] := by
      rw [HG0.out, if_neg]
      intro hm
      unfold snames at hm
      rw [← HS.out, List.map_map] at hm
      obtain ⟨r, hr, e⟩ := List.mem_map.1 hm
      exact hnone r hr e
     clear hnone
     go_wp2_with fail
     go_meet
     exact ⟨by rw [hg]; exact HO6.out, HB6.out⟩
    ·have hg : g0 = [nmT] := by
      rw [HG0.out, if_pos]
      unfold snames
      rw [← HS.out, List.map_map]
      exact List.mem_map.2 ⟨rs[k'], List.getElem_mem hk', hkn⟩
     have tk : (0 : Int) ≤ (k' : Int) := by omega
     clear hkn
     go_wp2_with (at_builtin; refine wpList_append1 (f := encStr) (base := wG.heap.size) (xs := []) rfl (.tmp 65) (.tmp 66) 55 rfl strTS nmT rfl rfl HO6.out rfl rfl (by unfold maxLen; decide) (by decide) hz6 ?_; intro v4 w4 ho4 hb4)
     go_meet
     exact ⟨by rw [hg]; exact ho4, HB6.out.trans hb4⟩
   case rest =>
    obtain ⟨hog, hbg⟩ := hcut
    have HOG := Lib.hid hog
    have HBG := Lib.hid hbg
    clear hog hbg hfind HO6 HB6
    go_wp2_with fail
    go_loopw [10, 11] (fun gv iv W => O2Rel l g0 s.files rs.length wG gv iv W) (fun _ iv _ => rs.length - (intOf iv).toNat)
    case atStart => exact ⟨0, Nat.zero_le _, rfl, by rw [List.take_zero, show goneN l g0 [] = g0 by unfold goneN; simp]; exact HOG.out, HBG.out⟩
    case round =>
     obtain ⟨k, hk, rfl, hown, hbw⟩ := hrel
     have HOWN := Lib.hid hown
     have HBW := Lib.hid hbw
     clear hown hbw
     have hdw := HD0.out.below HBW.out HD0.out.lt
     have hsw := HBOX.out.below HBW.out HBOX.out.lt
     have d0 : wr.cell? ⟨w.heap.size, 0, none⟩ = some (.slice A rs.length c) := hdw.cell 0
     by_cases hlt : k < rs.length
     ·have HLT := Lib.hid hlt
      --SKIP
      have b3 : wr.cell? ⟨w.heap.size + 1 + 1, 3, none⟩ = some (.int .i64 (l.getD zS).x) := hsw.cell 3
      have b8 : wr.cell? ⟨w.heap.size + 1 + 1, 8, none⟩ = some (.bool l.isSome) := hsw.cell 8
      obtain ⟨bw, ow, rfl, -, -, hc9⟩ := (HFI.out.below HBW.out).1.at hlt
      obtain ⟨r, hr⟩ : ∃ z, z = rs[k] := ⟨_, rfl⟩
      have c0 : wr.cell? ⟨bw, ow + k * 3, none⟩ = some (.string ⟨r.file.name.toArray⟩) := by rw [hr]; exact hc9 0 (by decide)
      have htk : s.files.take (k + 1) = s.files.take k ++ [r.file] := by rw [hr]; exact take_file HS.out hlt
      have hmem : r.file ∈ s.files := by rw [← HS.out, hr]; exact List.mem_map.2 ⟨_, List.getElem_mem hlt, rfl⟩
      have hn16 := HNMD.out _ hmem
      have hgn := goneN_snoc l g0 (s.files.take k) r.file
      rw [← htk] at hgn
      have hgl : (goneN l g0 (s.files.take k)).length ≤ 257 := by
       have h1 := goneN_len l g0 (s.files.take k)
       have h2 := HG1.out
       rw [List.length_take] at h1
       omega
      have HGL := Lib.hid hgl
      obtain ⟨n, hn⟩ : ∃ z, z = r.file.name := ⟨_, rfl⟩
      rw [← hn] at c0 hn16 hgn
      have HIX := Lib.hid (RIx8_any (w := wr) n (by unfold named at hn16; simp at hn16; unfold maxLen; omega))
      unfold IxP at HIX
      have hk0 : (0 : Int) ≤ (k : Int) := by omega
      have hk1 : (k : Int) < (rs.length : Int) := by omega
      have hzw := HBW.out.size
      clear hr hc9 htk hmem hn16 hlt hdw hsw hgl hn
      cases hi : idxN 115 n with
      | none =>
        have HGN : Hid (goneN l g0 (s.files.take (k + 1)) = goneN l g0 (s.files.take k)) := Lib.hid (by rw [hgn, show isNm n = false by unfold isNm; rw [show idxS n = none from hi]; rfl]; simp)
        rw [hi] at HIX
        change Hid (Calls _ _ _ _ fun e w' => e = .returned (.tuple #[.int .i64 0, .bool false]) ∧ w' = wr) at HIX
        clear hi hgn
        go_wp2_with fail
        (with_reducible refine HIX.out.mono ?_); rintro e w' ⟨rfl, hw'⟩; have hw' := hw'.symm; subst hw'
        go_wp2_with fail
        go_roundw
        case rel => exact ⟨k + 1, HLT.out, by go_num, by rw [HGN.out]; exact HOWN.out, HBW.out⟩
        case measure => simp [intOf]; have := HLT.out; omega
      | some i =>
        rw [hi] at HIX
        change Hid (Calls _ _ _ _ fun e w' => e = .returned (.tuple #[.int .i64 (i : Int), .bool true]) ∧ w' = wr) at HIX
        have hnm1 : isNm n = true := by unfold isNm; rw [show idxS n = some i from hi]; rfl
        have hoth : other l n = (!l.isSome || ((i : Int) != (l.getD zS).x)) := other_idx hi
        rw [hnm1, Bool.true_and] at hgn
        obtain ⟨q2, hq2⟩ : ∃ z, z = other l n := ⟨_, rfl⟩
        rw [← hq2] at hgn hoth
        have HGN := Lib.hid hgn
        clear hi hgn hnm1 hq2
        go_wp2_with fail
        (with_reducible refine HIX.out.mono ?_); rintro e w' ⟨rfl, hw'⟩; have hw' := hw'.symm; subst hw'
        clear HIX
        rcases Bool.eq_false_or_eq_true l.isSome with hb | hb
        ·rw [hb] at b8 hoth
         have h9 : q2 = ((i : Int) != (l.getD zS).x) := hoth
         clear hb hoth
         cases q2 with
         | true =>
           have t1 : ((i : Int) != (l.getD zS).x) = true := h9.symm
           clear h9
           go_wp2_with (at_builtin; refine wpList_append1 (f := encStr) rfl (.tmp 98) (.tmp 105) 55 rfl strTS n rfl rfl HOWN.out rfl rfl (by have h9 := HGL.out; unfold maxLen; exact Nat.le_trans (Nat.succ_le_succ h9) (by decide)) (by have h9 := HGL.out; omega) hzw ?_; intro v4 w4 ho4 hb4)
           go_roundw
           case rel => exact ⟨k + 1, HLT.out, by go_num, by rw [HGN.out]; exact ho4, HBW.out.trans hb4⟩
           case measure => simp [intOf]; have := HLT.out; omega
         | false =>
           have t1 : ((i : Int) != (l.getD zS).x) = false := h9.symm
           clear h9
           go_wp2_with fail
           go_roundw
           case rel => exact ⟨k + 1, HLT.out, by go_num, by rw [HGN.out, show (if false = true then [n] else []) = ([] : List Name) from rfl, List.append_nil]; exact HOWN.out, HBW.out⟩
           case measure => simp [intOf]; have := HLT.out; omega
        ·rw [hb] at b8 hoth
         have h9 : q2 = true := hoth
         subst h9
         clear hb hoth
         go_wp2_with (at_builtin; refine wpList_append1 (f := encStr) rfl (.tmp 98) (.tmp 105) 55 rfl strTS n rfl rfl HOWN.out rfl rfl (by have h9 := HGL.out; unfold maxLen; exact Nat.le_trans (Nat.succ_le_succ h9) (by decide)) (by have h9 := HGL.out; omega) hzw ?_; intro v4 w4 ho4 hb4)
         go_roundw
         case rel => exact ⟨k + 1, HLT.out, by go_num, by rw [HGN.out]; exact ho4, HBW.out.trans hb4⟩
         case measure => simp [intOf]; have := HLT.out; omega
      --KEEP
     ·have hke : k = rs.length := by omega
      have hk1 : ¬ (k : Int) < (rs.length : Int) := by omega
      have hgs : goneN l g0 (s.files.take k) = goneS s l := by
       rw [hke, ← List.length_map (f := RFile.file), HS.out, List.take_length, HG0.out]
       exact goneN_all s l
      rw [hgs] at HOWN
      have HSB2 := Lib.hid hsw
      clear hk hlt hke hgs hdw hsw
      obtain ⟨AG, cG, rfl⟩ := HOWN.out.form
      obtain ⟨wL, hwL⟩ : ∃ z, z = wr := ⟨_, rfl⟩
      subst hwL
      obtain ⟨gs, hgs⟩ : ∃ z, z = goneS s l := ⟨_, rfl⟩
      rw [← hgs] at HOWN ⊢
      have HGS : Hid (openS s = ((rmAll s gs).1, l, (rmAll s gs).2)) := Lib.hid (by
       unfold openS
       rw [if_neg (by rw [HUP.out.1]; decide), HFF.out, hgs])
      have hg16 : ∀ n ∈ gs, n.length ≤ 16 := by
       intro n hn
       rw [hgs] at hn
       have h1 := (gone_mem.1 hn).1
       unfold snames at h1
       obtain ⟨g, hg, e⟩ := List.mem_map.1 h1
       have h2 := HNMD.out g hg
       rw [e] at h2
       unfold named at h2; simp at h2; omega
      have hgl : gs.length ≤ 257 := by
       rw [hgs, ← goneN_all]
       have h1 := goneN_len l (if nmT ∈ snames s then [nmT] else []) s.files
       have h2 := HIV.out.count
       have h3 : (if nmT ∈ snames s then [nmT] else []).length ≤ 1 := by split <;> simp
       omega
      have HG16 := Lib.hid hg16
      have HGSL : Hid (SlB encStr 9 (fun g => wG.heap.size ≤ g) wL AG gs) := Lib.hid (SlB.of_own HOWN.out).2
      have HZL : Hid (w.heap.size + 3 ≤ wG.heap.size ∧ wG.heap.size ≤ wL.heap.size) := Lib.hid ⟨HZR.out, HBW.out.size⟩
      have HFL : Hid (Files (up G w) wL A rs) := Lib.hid ((HFI.out.below HBW.out).mono (fun g _ hg => .inl hg.1))
      have HRL : Hid (ArgAt (fun g => w3.heap.size ≤ g) wL (l.getD zS) V C D) := Lib.hid (HARG.out.below HBW.out)
      have HYL : Hid (Blk wL (w.heap.size + 1) 40 #[.slice none 0 0, .bool false, .int .i64 0, .int .i64 0, .int .i64 0, .slice none 0 0, .slice none 0 0, .slice none 0 0, .bool false]) := Lib.hid ((HX1.out.frm HFR.out (by omega)).below HBW.out (HX1.out.frm HFR.out (by omega)).lt)
      have HBL : Hid (Below w.heap.size w wL) := Lib.hid ((HB3.out.trans (HFR.out.to_below (fun k hk h1 h => by omega) HB3.out.size)).trans (HBW.out.mono (by have := HZR.out; omega)))
      obtain ⟨X, hX⟩ : ∃ z, z = (l.getD zS).x := ⟨_, rfl⟩
      obtain ⟨T, hT⟩ : ∃ z, z = (l.getD zS).t := ⟨_, rfl⟩
      obtain ⟨vn, hvn⟩ : ∃ z, z = (l.getD zS).vs.length := ⟨_, rfl⟩
      obtain ⟨cn, hcn⟩ : ∃ z, z = (l.getD zS).ls.length := ⟨_, rfl⟩
      obtain ⟨dn, hdn⟩ : ∃ z, z = (l.getD zS).ds.length := ⟨_, rfl⟩
      obtain ⟨q, hq⟩ : ∃ z, z = l.isSome := ⟨_, rfl⟩
      rw [← hX, ← hT, ← hvn, ← hcn, ← hdn, ← hq] at HSB2
      have HEQ := Lib.hid (And.intro hX (And.intro hT (And.intro hvn (And.intro hcn (And.intro hdn hq)))))
      have hsb : w.heap.size + 1 + 1 < wG.heap.size := by have := HZR.out; omega
      obtain ⟨sb, hsbe⟩ : ∃ z, z = w.heap.size + 1 + 1 := ⟨_, rfl⟩
      rw [← hsbe] at HSB2 ⊢
      have HSBE := Lib.hid hsbe
      have hsb1 : w.heap.size + 1 < sb := by omega
      have hsb3 : sb < wG.heap.size := by omega
      have HSB3 := Lib.hid hsb3
      have HSB1 := Lib.hid hsb1
      clear hgs hg16 hX hT hvn hcn hdn hq hsb hsbe hsb1 hsb3 HBOX HARG HFI HD0 HOWN HBW
      go_wp2_with fail
      clear d0 hk1
      go_loopw [14] (fun iv W => O3Rel G s gs X T V vn a C cn b D dn d q sb w wL iv W) (fun iv _ => gs.length - (intOf iv).toNat)
      case atStart => exact ⟨0, s, A, c, rs, Nat.zero_le _, rfl, Lib.hid rfl, HIV.out, by rw [HUP.out.1, HUP.out.2]; exact HSB2.out, HFL.out, HS.out, Frm.refl _ _⟩
      case round =>
       obtain ⟨j, sk, A1, c1, rs1, hj, rfl, HRA, hiv, hbox, hfl, hmp, hfr⟩ := hrel
       have HIK := Lib.hid hiv
       have HBX1 := Lib.hid hbox
       have HFK := Lib.hid hfl
       have HMK := Lib.hid hmp
       have HFRK := Lib.hid hfr
       have hzr := hfr.size
       have HZW : Hid (wL.heap.size ≤ wr.heap.size) := Lib.hid hzr
       have HYR : Hid (Blk wr (w.heap.size + 1) 40 #[.slice none 0 0, .bool false, .int .i64 0, .int .i64 0, .int .i64 0, .slice none 0 0, .slice none 0 0, .slice none 0 0, .bool false]) := Lib.hid (HYL.out.frm hfr (by have := HSB1.out; omega))
       clear hiv hfl hmp hfr hzr HSB2 HFL
       by_cases hlt : j < gs.length
       ·have HLT := Lib.hid hlt
        obtain ⟨n, hn⟩ : ∃ z, z = gs[j] := ⟨_, rfl⟩
        have hnl := HG16.out gs[j] (List.getElem_mem hlt)
        rw [← hn] at hnl
        have hdr : gs.drop j = n :: gs.drop (j + 1) := by rw [hn]; exact List.drop_eq_getElem_cons hlt
        have HRD : Hid (rmAll s gs = rmAll sk (n :: gs.drop (j + 1))) := Lib.hid (by rw [← hdr]; exact HRA.out)
        obtain ⟨bg, og, rfl, hbg, hcg⟩ := (HGSL.out.frm HFRK.out (fun g hg e => by have h1 := HSB3.out; have h2 : wG.heap.size ≤ g := hg; omega)).sl.at hlt
        have hcn1 : wr.cell? ⟨bg, og + j, none⟩ = some (.string ⟨n.toArray⟩) := by rw [hn]; exact hcg j hlt
        obtain ⟨nb, hnb⟩ : ∃ z : ByteArray, z = ⟨n.toArray⟩ := ⟨_, rfl⟩
        have hsn : sname nb = n := by rw [hnb]; unfold sname; simp
        have hnsz : nb.size ≤ maxLen := by
         rw [hnb]; show n.toArray.size ≤ maxLen
         rw [List.size_toArray]; unfold maxLen; omega
        obtain ⟨res, hres⟩ : ∃ z, z = remove sk n := ⟨_, rfl⟩
        have HRES := Lib.hid hres
        have HDO : Hid (∀ W, Below wr.heap.size wr W → Calls Tryz.prog 35 #[.agg #[.slice A1 rs1.length c1, .bool sk.down, .int .i64 sk.fuse, .int .i64 X, .int .i64 T, .slice V vn a, .slice C cn b, .slice D dn d, .bool q], .agg #[.int .i64 2, .string nb, .string ⟨#[]⟩, .int .i64 0, .slice none 0 0]] W (Do8P (up G w) res X T V vn a C cn b D dn d q W)) := Lib.hid fun W hW => by
         have h1 := do8_any A1 c1 rs1 (HFK.out.below hW) sk HMK.out (by rw [← List.length_map (f := RFile.file), HMK.out]; exact HIK.out.count) HIK.out.fuse HIK.out.sorted X T V vn a C cn b D dn d q nb ⟨#[]⟩ hnsz (by decide) 0 (by decide) none 0 [] Sl.nil 2 (by decide) (by decide)
         rw [hsn, doStep2, ← HRES.out] at h1
         exact h1
        obtain ⟨⟨fs, dw, fu⟩, ke⟩ := res
        have HPK : Hid (∀ W, Below wr.heap.size wr W → W.cell? ⟨sb, 0, none⟩ = some (.slice A1 rs1.length c1) ∧ W.cell? ⟨sb, 1, none⟩ = some (.bool sk.down) ∧ W.cell? ⟨sb, 2, none⟩ = some (.int .i64 sk.fuse) ∧ W.cell? ⟨sb, 3, none⟩ = some (.int .i64 X) ∧ W.cell? ⟨sb, 4, none⟩ = some (.int .i64 T) ∧ W.cell? ⟨sb, 5, none⟩ = some (.slice V vn a) ∧ W.cell? ⟨sb, 6, none⟩ = some (.slice C cn b) ∧ W.cell? ⟨sb, 7, none⟩ = some (.slice D dn d) ∧ W.cell? ⟨sb, 8, none⟩ = some (.bool q) ∧ W.cell? ⟨bg, og + j, none⟩ = some (.string nb)) := Lib.hid fun W hW => by
         have h1 := HBX1.out.below hW HBX1.out.lt
         exact ⟨h1.cell 0, h1.cell 1, h1.cell 2, h1.cell 3, h1.cell 4, h1.cell 5, h1.cell 6, h1.cell 7, h1.cell 8, by rw [hnb]; exact (hW.cell (p := ⟨bg, og + j, none⟩) hbg).trans hcn1⟩
        have HBX : Hid (Below wr.heap.size wr wr.drew) := Lib.hid (Below.refl wr.heap.size wr).drew
        have hj0 : (0 : Int) ≤ (j : Int) := by omega
        have hj1 : (j : Int) < (gs.length : Int) := by omega
        clear hn hnl hdr hlt hcg hcn1 hnb hsn hnsz hres hbox HRA
        go_upto_region 25 with fail
        go_cut [15, 16] (fun s15 s16 wx => O3Cut (up G w) (⟨fs, dw, fu⟩, ke) X T V vn a C cn b D dn d q wr s15 s16 wx)
        case first =>
         refine AnyZ.start (S := (fun W => W.cell? ⟨sb, 0, none⟩ = some (.slice A1 rs1.length c1) ∧ W.cell? ⟨sb, 1, none⟩ = some (.bool sk.down) ∧ W.cell? ⟨sb, 2, none⟩ = some (.int .i64 sk.fuse) ∧ W.cell? ⟨sb, 3, none⟩ = some (.int .i64 X) ∧ W.cell? ⟨sb, 4, none⟩ = some (.int .i64 T) ∧ W.cell? ⟨sb, 5, none⟩ = some (.slice V vn a) ∧ W.cell? ⟨sb, 6, none⟩ = some (.slice C cn b) ∧ W.cell? ⟨sb, 7, none⟩ = some (.slice D dn d) ∧ W.cell? ⟨sb, 8, none⟩ = some (.bool q) ∧ W.cell? ⟨bg, og + j, none⟩ = some (.string nb))) (z := 1013) (by kernel_rfl) ?_ (fun hHeld => ?_)
         ·exact HPK.out _ HBX.out
         refine AnyZ.take (i := 0) (v := ?_) rfl (by kernel_rfl) (by kernel_rfl) (by kernel_rfl) (by kernel_rfl) (fun _ _ _ h => h) (Or.inl ⟨by kernel_rfl, ?_⟩) (by assumption) ?_
         rotate_left
         ·intro w hSw; (try dsimp only at hSw); go_simp; try with_reducible rfl
         try simp only [Act.put, List.getElem_toArray, List.getElem_cons_zero, List.setIfInBounds_toArray, List.set_cons_zero, List.set_cons_succ]
         refine AnyZ.take (i := 1) (v := ?_) rfl (by kernel_rfl) (by kernel_rfl) (by kernel_rfl) (by kernel_rfl) (fun _ _ _ h => h) (Or.inl ⟨by kernel_rfl, ?_⟩) (by assumption) ?_
         rotate_left
         ·intro w hSw; (try dsimp only at hSw); go_simp; try with_reducible rfl
         try simp only [Act.put, List.getElem_toArray, List.getElem_cons_succ, List.getElem_cons_zero, List.setIfInBounds_toArray, List.set_cons_zero, List.set_cons_succ]
         refine AnyZ.take (i := 2) (v := ?_) rfl (by kernel_rfl) (by kernel_rfl) (by kernel_rfl) (by kernel_rfl) (fun _ _ _ h => h) (Or.inl ⟨by kernel_rfl, ?_⟩) (by assumption) ?_
         rotate_left
         ·intro w hSw; (try dsimp only at hSw); go_simp; try with_reducible rfl
         try simp only [Act.put, List.getElem_toArray, List.getElem_cons_succ, List.getElem_cons_zero, List.setIfInBounds_toArray, List.set_cons_zero, List.set_cons_succ]
         refine AnyZ.take (i := 3) (v := ?_) rfl (by kernel_rfl) (by kernel_rfl) (by kernel_rfl) (by kernel_rfl) (fun _ _ _ h => h) (Or.inl ⟨by kernel_rfl, ?_⟩) (by assumption) ?_
         rotate_left
         ·intro w hSw; (try dsimp only at hSw); go_simp; try with_reducible rfl
         try simp only [Act.put, List.getElem_toArray, List.getElem_cons_succ, List.getElem_cons_zero, List.setIfInBounds_toArray, List.set_cons_zero, List.set_cons_succ]
         refine AnyZ.take (i := 4) (v := ?_) rfl (by kernel_rfl) (by kernel_rfl) (by kernel_rfl) (by kernel_rfl) (fun _ _ _ h => h) (Or.inl ⟨by kernel_rfl, ?_⟩) (by assumption) ?_
         rotate_left
         ·intro w hSw; (try dsimp only at hSw); go_simp; try with_reducible rfl
         try simp only [Act.put, List.getElem_toArray, List.getElem_cons_succ, List.getElem_cons_zero, List.setIfInBounds_toArray, List.set_cons_zero, List.set_cons_succ]
         refine AnyZ.take (i := 5) (v := ?_) rfl (by kernel_rfl) (by kernel_rfl) (by kernel_rfl) (by kernel_rfl) (fun _ _ _ h => h) (Or.inl ⟨by kernel_rfl, ?_⟩) (by assumption) ?_
         rotate_left
         ·intro w hSw; (try dsimp only at hSw); go_simp; try with_reducible rfl
         try simp only [Act.put, List.getElem_toArray, List.getElem_cons_succ, List.getElem_cons_zero, List.setIfInBounds_toArray, List.set_cons_zero, List.set_cons_succ]
         refine AnyZ.ready (rs := [6, 10]) (by kernel_rfl) (by simp) ?_
         refine AllZ.cons rfl (fun K hK => ?_) (AllZ.cons rfl (fun K hK => ?_) AllZ.nil)
         ·go_simp
          (with_reducible refine (HDO.out _ HBX.out).mono ?_); rintro e wj ⟨A2, c2, rs2, rfl, hf2, hm2, hbj⟩
          have HF2 : Hid (Files (up (up G w) wr) wj A2 rs2) := Lib.hid (hf2.mono (fun g _ hg => hg.elim .inl (fun h => .inr (Nat.le_trans HBX.out.size h))))
          have HM2 := Lib.hid hm2
          try (replace HNB := Lib.hid (HNB.out.below hbj HNB.out.lt)); have n0 : wj.cell? ⟨wr.heap.size, 0, none⟩ = some (.slice none 0 0) := HNB.out.cell 0; have n1 : wj.cell? ⟨wr.heap.size, 1, none⟩ = some (.bool false) := HNB.out.cell 1; have n2 : wj.cell? ⟨wr.heap.size, 2, none⟩ = some (.int .i64 0) := HNB.out.cell 2; have n3 : wj.cell? ⟨wr.heap.size, 3, none⟩ = some (.int .i64 0) := HNB.out.cell 3; have n4 : wj.cell? ⟨wr.heap.size, 4, none⟩ = some (.int .i64 0) := HNB.out.cell 4; have n5 : wj.cell? ⟨wr.heap.size, 5, none⟩ = some (.slice none 0 0) := HNB.out.cell 5; have n6 : wj.cell? ⟨wr.heap.size, 6, none⟩ = some (.slice none 0 0) := HNB.out.cell 6; have n7 : wj.cell? ⟨wr.heap.size, 7, none⟩ = some (.slice none 0 0) := HNB.out.cell 7; have n8 : wj.cell? ⟨wr.heap.size, 8, none⟩ = some (.bool false) := HNB.out.cell 8; have nf0 := HNB.out.free 0; have nf1 := HNB.out.free 1; have nf2 := HNB.out.free 2; have nf3 := HNB.out.free 3; have nf4 := HNB.out.free 4; have nf5 := HNB.out.free 5; have nf6 := HNB.out.free 6; have nf7 := HNB.out.free 7; have nf8 := HNB.out.free 8
          replace HBX := Lib.hid (HBX.out.trans (hbj.mono HBX.out.size))
          clear hf2 hm2 hbj
          refine hK.out _ _ ?_ (fun hHeld => ?_)
          ·exact HPK.out _ HBX.out
          clear hK K
          try simp only []
          refine AnyZ.take (i := 7) (v := ?_) rfl (by kernel_rfl) (by kernel_rfl) (by kernel_rfl) (by kernel_rfl) (fun _ _ _ h => h) (Or.inl ⟨by kernel_rfl, ?_⟩) (by assumption) ?_
          rotate_left
          ·intro w hSw; (try dsimp only at hSw); go_simp; try with_reducible rfl
          try simp only [Act.put, List.getElem_toArray, List.getElem_cons_succ, List.getElem_cons_zero, List.setIfInBounds_toArray, List.set_cons_zero, List.set_cons_succ]
          refine AnyZ.take (i := 8) (v := ?_) rfl (by kernel_rfl) (by kernel_rfl) (by kernel_rfl) (by kernel_rfl) (fun _ _ _ h => h) (Or.inl ⟨by kernel_rfl, ?_⟩) (by assumption) ?_
          rotate_left
          ·intro w hSw; (try dsimp only at hSw); go_simp; try with_reducible rfl
          try simp only [Act.put, List.getElem_toArray, List.getElem_cons_succ, List.getElem_cons_zero, List.setIfInBounds_toArray, List.set_cons_zero, List.set_cons_succ]
          refine AnyZ.take (i := 9) (v := ?_) rfl (by kernel_rfl) (by kernel_rfl) (by kernel_rfl) (by kernel_rfl) (fun _ _ _ h => h) (Or.inl ⟨by kernel_rfl, ?_⟩) (by assumption) ?_
          rotate_left
          ·intro w hSw; (try dsimp only at hSw); go_simp; try with_reducible rfl
          try simp only [Act.put, List.getElem_toArray, List.getElem_cons_succ, List.getElem_cons_zero, List.setIfInBounds_toArray, List.set_cons_zero, List.set_cons_succ]
          refine AnyZ.ready (rs := [10]) (by kernel_rfl) (by simp) ?_
          refine AllZ.cons rfl (fun K hK => ?_) AllZ.nil
          go_simp
          have HNG := Lib.hid HBX.out.size
          have HNB := Lib.hid (newBx9 HBX.out 40 #[.slice none 0 0, .bool false, .int .i64 0, .int .i64 0, .int .i64 0, .slice none 0 0, .slice none 0 0, .slice none 0 0, .bool false])
          try have HBXF := Lib.hid (HBX.out.alloc HBX.out.size (.cells #[.slice A2 rs2.length c2, .bool dw, .int .i64 fu, .int .i64 X, .int .i64 T, .slice V vn a, .slice C cn b, .slice D dn d, .bool q] 40))
          try have HNBF := Lib.hid (newBx9 HBX.out 40 #[.slice A2 rs2.length c2, .bool dw, .int .i64 fu, .int .i64 X, .int .i64 T, .slice V vn a, .slice C cn b, .slice D dn d, .bool q])
          try have HF2F := Lib.hid (HF2.out.below ((Below.refl _ _).alloc (Nat.le_refl _) (.cells #[.slice A2 rs2.length c2, .bool dw, .int .i64 fu, .int .i64 X, .int .i64 T, .slice V vn a, .slice C cn b, .slice D dn d, .bool q] 40)))
          try replace HF2 := Lib.hid (HF2.out.below ((Below.refl _ _).alloc (Nat.le_refl _) (.cells #[.slice none 0 0, .bool false, .int .i64 0, .int .i64 0, .int .i64 0, .slice none 0 0, .slice none 0 0, .slice none 0 0, .bool false] 40)))
          replace HBX := Lib.hid (HBX.out.alloc HBX.out.size (.cells #[.slice none 0 0, .bool false, .int .i64 0, .int .i64 0, .int .i64 0, .slice none 0 0, .slice none 0 0, .slice none 0 0, .bool false] 40))
          try change Hid (Below wr.heap.size wr (wr.alloc (.cells #[.slice none 0 0, .bool false, .int .i64 0, .int .i64 0, .int .i64 0, .slice none 0 0, .slice none 0 0, .slice none 0 0, .bool false] 40)).drew) at HBX
          try change Hid (Blk (wr.alloc (.cells #[.slice none 0 0, .bool false, .int .i64 0, .int .i64 0, .int .i64 0, .slice none 0 0, .slice none 0 0, .slice none 0 0, .bool false] 40)).drew wr.heap.size 40 #[.slice none 0 0, .bool false, .int .i64 0, .int .i64 0, .int .i64 0, .slice none 0 0, .slice none 0 0, .slice none 0 0, .bool false]) at HNB
          refine hK.out _ _ ?_ (fun hHeld => ?_)
          ·exact HPK.out _ HBX.out
          clear hK K
          try simp only [Act.put, List.getElem_toArray, List.getElem_cons_succ, List.getElem_cons_zero, List.setIfInBounds_toArray, List.set_cons_zero, List.set_cons_succ]
          refine AnyZ.ready (rs := [11]) (by kernel_rfl) (by simp) ?_
          refine AllZ.cons rfl (fun K hK => ?_) AllZ.nil
          go_simp
          first
           | (replace HBX := HBXF; replace HF2 := HF2F; replace HNB := HNBF; clear HBXF HF2F HNBF)
           | (replace HBX := Lib.hid (Below.put9 HNG.out HBX.out (.slice A2 rs2.length c2) (.bool dw) (.int .i64 fu) (.int .i64 X) (.int .i64 T) (.slice V vn a) (.slice C cn b) (.slice D dn d) (.bool q)); replace HF2 := Lib.hid (Files.put9 (by decide) (by decide) HF2.out HNB.out (.slice A2 rs2.length c2) (.bool dw) (.int .i64 fu) (.int .i64 X) (.int .i64 T) (.slice V vn a) (.slice C cn b) (.slice D dn d) (.bool q)); replace HNB := Lib.hid (Blk.put9 HNB.out (.slice A2 rs2.length c2) (.bool dw) (.int .i64 fu) (.int .i64 X) (.int .i64 T) (.slice V vn a) (.slice C cn b) (.slice D dn d) (.bool q)))
          refine hK.out _ _ ?_ (fun hHeld => ?_)
          ·exact HPK.out _ HBX.out
          clear hK K
          try simp only [Act.put, List.getElem_toArray, List.getElem_cons_succ, List.getElem_cons_zero, List.setIfInBounds_toArray, List.set_cons_zero, List.set_cons_succ]
          refine AnyZ.take (i := 12) (v := ?_) rfl (by kernel_rfl) (by kernel_rfl) (by kernel_rfl) (by kernel_rfl) (fun _ _ _ h => h) (Or.inl ⟨by kernel_rfl, ?_⟩) (by assumption) ?_
          rotate_left
          ·intro w hSw; (try dsimp only at hSw); go_simp; try with_reducible rfl
          try simp only [Act.put, List.getElem_toArray, List.getElem_cons_succ, List.getElem_cons_zero, List.setIfInBounds_toArray, List.set_cons_zero, List.set_cons_succ]
          refine AnyZ.done (by kernel_rfl) ?_ _
          go_wp2_with fail
          go_meet
          exact ⟨_, A2, c2, rs2, rfl, rfl, HNG.out, HNB.out, HF2.out, HM2.out, HBX.out⟩
         ·go_simp
          have HNG := Lib.hid HBX.out.size
          have HNB := Lib.hid (newBx9 HBX.out 40 #[.slice none 0 0, .bool false, .int .i64 0, .int .i64 0, .int .i64 0, .slice none 0 0, .slice none 0 0, .slice none 0 0, .bool false])
          try have HBXF := Lib.hid (HBX.out.alloc HBX.out.size (.cells #[.slice A2 rs2.length c2, .bool dw, .int .i64 fu, .int .i64 X, .int .i64 T, .slice V vn a, .slice C cn b, .slice D dn d, .bool q] 40))
          try have HNBF := Lib.hid (newBx9 HBX.out 40 #[.slice A2 rs2.length c2, .bool dw, .int .i64 fu, .int .i64 X, .int .i64 T, .slice V vn a, .slice C cn b, .slice D dn d, .bool q])
          try have HF2F := Lib.hid (HF2.out.below ((Below.refl _ _).alloc (Nat.le_refl _) (.cells #[.slice A2 rs2.length c2, .bool dw, .int .i64 fu, .int .i64 X, .int .i64 T, .slice V vn a, .slice C cn b, .slice D dn d, .bool q] 40)))
          try replace HF2 := Lib.hid (HF2.out.below ((Below.refl _ _).alloc (Nat.le_refl _) (.cells #[.slice none 0 0, .bool false, .int .i64 0, .int .i64 0, .int .i64 0, .slice none 0 0, .slice none 0 0, .slice none 0 0, .bool false] 40)))
          replace HBX := Lib.hid (HBX.out.alloc HBX.out.size (.cells #[.slice none 0 0, .bool false, .int .i64 0, .int .i64 0, .int .i64 0, .slice none 0 0, .slice none 0 0, .slice none 0 0, .bool false] 40))
          try change Hid (Below wr.heap.size wr (wr.alloc (.cells #[.slice none 0 0, .bool false, .int .i64 0, .int .i64 0, .int .i64 0, .slice none 0 0, .slice none 0 0, .slice none 0 0, .bool false] 40)).drew) at HBX
          try change Hid (Blk (wr.alloc (.cells #[.slice none 0 0, .bool false, .int .i64 0, .int .i64 0, .int .i64 0, .slice none 0 0, .slice none 0 0, .slice none 0 0, .bool false] 40)).drew wr.heap.size 40 #[.slice none 0 0, .bool false, .int .i64 0, .int .i64 0, .int .i64 0, .slice none 0 0, .slice none 0 0, .slice none 0 0, .bool false]) at HNB
          refine hK.out _ _ ?_ (fun hHeld => ?_)
          ·exact HPK.out _ HBX.out
          clear hK K
          try simp only [Act.put, List.getElem_toArray, List.getElem_cons_succ, List.getElem_cons_zero, List.setIfInBounds_toArray, List.set_cons_zero, List.set_cons_succ]
          refine AnyZ.ready (rs := [6]) (by kernel_rfl) (by simp) ?_
          refine AllZ.cons rfl (fun K hK => ?_) AllZ.nil
          go_simp
          (with_reducible refine (HDO.out _ HBX.out).mono ?_); rintro e wj ⟨A2, c2, rs2, rfl, hf2, hm2, hbj⟩
          have HF2 : Hid (Files (up (up G w) wr) wj A2 rs2) := Lib.hid (hf2.mono (fun g _ hg => hg.elim .inl (fun h => .inr (Nat.le_trans HBX.out.size h))))
          have HM2 := Lib.hid hm2
          try (replace HNB := Lib.hid (HNB.out.below hbj HNB.out.lt)); have n0 : wj.cell? ⟨wr.heap.size, 0, none⟩ = some (.slice none 0 0) := HNB.out.cell 0; have n1 : wj.cell? ⟨wr.heap.size, 1, none⟩ = some (.bool false) := HNB.out.cell 1; have n2 : wj.cell? ⟨wr.heap.size, 2, none⟩ = some (.int .i64 0) := HNB.out.cell 2; have n3 : wj.cell? ⟨wr.heap.size, 3, none⟩ = some (.int .i64 0) := HNB.out.cell 3; have n4 : wj.cell? ⟨wr.heap.size, 4, none⟩ = some (.int .i64 0) := HNB.out.cell 4; have n5 : wj.cell? ⟨wr.heap.size, 5, none⟩ = some (.slice none 0 0) := HNB.out.cell 5; have n6 : wj.cell? ⟨wr.heap.size, 6, none⟩ = some (.slice none 0 0) := HNB.out.cell 6; have n7 : wj.cell? ⟨wr.heap.size, 7, none⟩ = some (.slice none 0 0) := HNB.out.cell 7; have n8 : wj.cell? ⟨wr.heap.size, 8, none⟩ = some (.bool false) := HNB.out.cell 8; have nf0 := HNB.out.free 0; have nf1 := HNB.out.free 1; have nf2 := HNB.out.free 2; have nf3 := HNB.out.free 3; have nf4 := HNB.out.free 4; have nf5 := HNB.out.free 5; have nf6 := HNB.out.free 6; have nf7 := HNB.out.free 7; have nf8 := HNB.out.free 8
          replace HBX := Lib.hid (HBX.out.trans (hbj.mono HBX.out.size))
          clear hf2 hm2 hbj
          refine hK.out _ _ ?_ (fun hHeld => ?_)
          ·exact HPK.out _ HBX.out
          clear hK K
          try simp only []
          refine AnyZ.take (i := 7) (v := ?_) rfl (by kernel_rfl) (by kernel_rfl) (by kernel_rfl) (by kernel_rfl) (fun _ _ _ h => h) (Or.inl ⟨by kernel_rfl, ?_⟩) (by assumption) ?_
          rotate_left
          ·intro w hSw; (try dsimp only at hSw); go_simp; try with_reducible rfl
          try simp only [Act.put, List.getElem_toArray, List.getElem_cons_succ, List.getElem_cons_zero, List.setIfInBounds_toArray, List.set_cons_zero, List.set_cons_succ]
          refine AnyZ.take (i := 8) (v := ?_) rfl (by kernel_rfl) (by kernel_rfl) (by kernel_rfl) (by kernel_rfl) (fun _ _ _ h => h) (Or.inl ⟨by kernel_rfl, ?_⟩) (by assumption) ?_
          rotate_left
          ·intro w hSw; (try dsimp only at hSw); go_simp; try with_reducible rfl
          try simp only [Act.put, List.getElem_toArray, List.getElem_cons_succ, List.getElem_cons_zero, List.setIfInBounds_toArray, List.set_cons_zero, List.set_cons_succ]
          refine AnyZ.take (i := 9) (v := ?_) rfl (by kernel_rfl) (by kernel_rfl) (by kernel_rfl) (by kernel_rfl) (fun _ _ _ h => h) (Or.inl ⟨by kernel_rfl, ?_⟩) (by assumption) ?_
          rotate_left
          ·intro w hSw; (try dsimp only at hSw); go_simp; try with_reducible rfl
          try simp only [Act.put, List.getElem_toArray, List.getElem_cons_succ, List.getElem_cons_zero, List.setIfInBounds_toArray, List.set_cons_zero, List.set_cons_succ]
          refine AnyZ.ready (rs := [11]) (by kernel_rfl) (by simp) ?_
          refine AllZ.cons rfl (fun K hK => ?_) AllZ.nil
          go_simp
          first
           | (replace HBX := HBXF; replace HF2 := HF2F; replace HNB := HNBF; clear HBXF HF2F HNBF)
           | (replace HBX := Lib.hid (Below.put9 HNG.out HBX.out (.slice A2 rs2.length c2) (.bool dw) (.int .i64 fu) (.int .i64 X) (.int .i64 T) (.slice V vn a) (.slice C cn b) (.slice D dn d) (.bool q)); replace HF2 := Lib.hid (Files.put9 (by decide) (by decide) HF2.out HNB.out (.slice A2 rs2.length c2) (.bool dw) (.int .i64 fu) (.int .i64 X) (.int .i64 T) (.slice V vn a) (.slice C cn b) (.slice D dn d) (.bool q)); replace HNB := Lib.hid (Blk.put9 HNB.out (.slice A2 rs2.length c2) (.bool dw) (.int .i64 fu) (.int .i64 X) (.int .i64 T) (.slice V vn a) (.slice C cn b) (.slice D dn d) (.bool q)))
          refine hK.out _ _ ?_ (fun hHeld => ?_)
          ·exact HPK.out _ HBX.out
          clear hK K
          try simp only [Act.put, List.getElem_toArray, List.getElem_cons_succ, List.getElem_cons_zero, List.setIfInBounds_toArray, List.set_cons_zero, List.set_cons_succ]
          refine AnyZ.take (i := 12) (v := ?_) rfl (by kernel_rfl) (by kernel_rfl) (by kernel_rfl) (by kernel_rfl) (fun _ _ _ h => h) (Or.inl ⟨by kernel_rfl, ?_⟩) (by assumption) ?_
          rotate_left
          ·intro w hSw; (try dsimp only at hSw); go_simp; try with_reducible rfl
          try simp only [Act.put, List.getElem_toArray, List.getElem_cons_succ, List.getElem_cons_zero, List.setIfInBounds_toArray, List.set_cons_zero, List.set_cons_succ]
          refine AnyZ.done (by kernel_rfl) ?_ _
          go_wp2_with fail
          go_meet
          exact ⟨_, A2, c2, rs2, rfl, rfl, HNG.out, HNB.out, HF2.out, HM2.out, HBX.out⟩
        case rest =>
         --X
         obtain ⟨N, A2, c2, rs2, rfl, rfl, hN, hbk, hf2, hm2, hb2⟩ := hcut
         have HBK := Lib.hid hbk
         have HF2 := Lib.hid hf2
         have HM2 := Lib.hid hm2
         have HB2 := Lib.hid hb2
         have HBX2 := Lib.hid (HBX1.out.below hb2 HBX1.out.lt)
         have e0 : wc.cell? ⟨N, 0, none⟩ = some (.slice A2 rs2.length c2) := HBK.out.cell 0
         have e1 : wc.cell? ⟨N, 1, none⟩ = some (.bool dw) := HBK.out.cell 1
         have e2 : wc.cell? ⟨N, 2, none⟩ = some (.int .i64 fu) := HBK.out.cell 2
         have e3 : wc.cell? ⟨N, 3, none⟩ = some (.int .i64 X) := HBK.out.cell 3
         have e4 : wc.cell? ⟨N, 4, none⟩ = some (.int .i64 T) := HBK.out.cell 4
         have e5 : wc.cell? ⟨N, 5, none⟩ = some (.slice V vn a) := HBK.out.cell 5
         have e6 : wc.cell? ⟨N, 6, none⟩ = some (.slice C cn b) := HBK.out.cell 6
         have e7 : wc.cell? ⟨N, 7, none⟩ = some (.slice D dn d) := HBK.out.cell 7
         have e8 : wc.cell? ⟨N, 8, none⟩ = some (.bool q) := HBK.out.cell 8
         have r0 : wc.cell? ⟨sb, 0, none⟩ = some (.slice A1 rs1.length c1) := HBX2.out.cell 0
         have r1 : wc.cell? ⟨sb, 1, none⟩ = some (.bool sk.down) := HBX2.out.cell 1
         have r2 : wc.cell? ⟨sb, 2, none⟩ = some (.int .i64 sk.fuse) := HBX2.out.cell 2
         have r3 : wc.cell? ⟨sb, 3, none⟩ = some (.int .i64 X) := HBX2.out.cell 3
         have r4 : wc.cell? ⟨sb, 4, none⟩ = some (.int .i64 T) := HBX2.out.cell 4
         have r5 : wc.cell? ⟨sb, 5, none⟩ = some (.slice V vn a) := HBX2.out.cell 5
         have r6 : wc.cell? ⟨sb, 6, none⟩ = some (.slice C cn b) := HBX2.out.cell 6
         have r7 : wc.cell? ⟨sb, 7, none⟩ = some (.slice D dn d) := HBX2.out.cell 7
         have r8 : wc.cell? ⟨sb, 8, none⟩ = some (.bool q) := HBX2.out.cell 8
         have g0 := HBX2.out.free 0
         have g1 := HBX2.out.free 1
         have g2 := HBX2.out.free 2
         have g3 := HBX2.out.free 3
         have g4 := HBX2.out.free 4
         have g5 := HBX2.out.free 5
         have g6 := HBX2.out.free 6
         have g7 := HBX2.out.free 7
         have g8 := HBX2.out.free 8
         clear hbk hf2 hm2 hb2 hN HBX HPK HDO
         go_upto_region 27 with fail
         obtain ⟨W, hW⟩ : ∃ z, z = (((((((((wc.setCell ⟨sb, 0, none⟩ (.slice A2 rs2.length c2)).setCell ⟨sb, 1, none⟩ (.bool dw)).setCell ⟨sb, 2, none⟩ (.int .i64 fu)).setCell ⟨sb, 3, none⟩ (.int .i64 X)).setCell ⟨sb, 4, none⟩ (.int .i64 T)).setCell ⟨sb, 5, none⟩ (.slice V vn a)).setCell ⟨sb, 6, none⟩ (.slice C cn b)).setCell ⟨sb, 7, none⟩ (.slice D dn d)).setCell ⟨sb, 8, none⟩ (.bool q)) := ⟨_, rfl⟩
         rw [← hW]
         have HBW2 : Hid (Blk W sb 40 #[.slice A2 rs2.length c2, .bool dw, .int .i64 fu, .int .i64 X, .int .i64 T, .slice V vn a, .slice C cn b, .slice D dn d, .bool q]) := Lib.hid (by rw [hW]; exact Blk.put9 HBX2.out _ _ _ _ _ _ _ _ _)
         have hset : Frm (fun g => g = sb) wc W := by
          rw [hW]; exact (Frm.refl (fun g => g = sb) wc).put9 _ _ _ _ _ _ _ _ _
         have HFW : Hid (Files (up G w) W A2 rs2) := Lib.hid (by rw [hW]; exact (Files.put9 (by decide) (by decide) HF2.out HBX2.out _ _ _ _ _ _ _ _ _).mono (fun g _ hg => hg.elim id (fun h => .inr (by have h1 := HZW.out; have h2 := HBL.out.size; omega))))
         have HFRW : Hid (Frm (fun g => g = sb) wL W) := Lib.hid ((HFRK.out.trans (Frm.below HB2.out)).trans hset)
         have HYW : Hid (Blk W (w.heap.size + 1) 40 #[.slice none 0 0, .bool false, .int .i64 0, .int .i64 0, .int .i64 0, .slice none 0 0, .slice none 0 0, .slice none 0 0, .bool false]) := Lib.hid ((HYR.out.below HB2.out HYR.out.lt).frm hset (by have := HSB1.out; omega))
         have HIW : Hid (InvS ⟨fs, dw, fu⟩) := Lib.hid (by have h1 := inv_remove (n := n) HIK.out; rw [← HRES.out] at h1; exact h1)
         clear hW hset e0 e1 e2 e3 e4 e5 e6 e7 e8 r0 r1 r2 r3 r4 r5 r6 r7 r8 g0 g1 g2 g3 g4 g5 g6 g7 g8
         by_cases hbad : ke = 0
         ·subst hbad
          have HRN : Hid (rmAll s gs = rmAll ⟨fs, dw, fu⟩ (gs.drop (j + 1))) := Lib.hid (by
           rw [HRD.out, rmAll, ← HRES.out, if_pos rfl])
          have t1 : (((0 : Nat) : Int) != 0) = false := rfl
          go_wp2_with fail
          go_roundw
          case rel => exact ⟨j + 1, ⟨fs, dw, fu⟩, A2, c2, rs2, HLT.out, by go_num, HRN.out, HIW.out, HBW2.out, HFW.out, HM2.out, HFRW.out⟩
          case measure => simp [intOf]; have := HLT.out; omega
         ·have HRN : Hid (rmAll s gs = (⟨fs, dw, fu⟩, ke)) := Lib.hid (by
           rw [HRD.out, rmAll, ← HRES.out, if_neg hbad])
          have t1 : ((ke : Int) != 0) = true := by rw [bne_iff_ne]; omega
          have a0 : W.cell? ⟨w.heap.size + 1, 0, none⟩ = some (.slice none 0 0) := HYW.out.cell 0
          have a1 : W.cell? ⟨w.heap.size + 1, 1, none⟩ = some (.bool false) := HYW.out.cell 1
          have a2 : W.cell? ⟨w.heap.size + 1, 2, none⟩ = some (.int .i64 0) := HYW.out.cell 2
          have a3 : W.cell? ⟨w.heap.size + 1, 3, none⟩ = some (.int .i64 0) := HYW.out.cell 3
          have a4 : W.cell? ⟨w.heap.size + 1, 4, none⟩ = some (.int .i64 0) := HYW.out.cell 4
          have a5 : W.cell? ⟨w.heap.size + 1, 5, none⟩ = some (.slice none 0 0) := HYW.out.cell 5
          have a6 : W.cell? ⟨w.heap.size + 1, 6, none⟩ = some (.slice none 0 0) := HYW.out.cell 6
          have a7 : W.cell? ⟨w.heap.size + 1, 7, none⟩ = some (.slice none 0 0) := HYW.out.cell 7
          have a8 : W.cell? ⟨w.heap.size + 1, 8, none⟩ = some (.bool false) := HYW.out.cell 8
          have b0 : W.cell? ⟨sb, 0, none⟩ = some (.slice A2 rs2.length c2) := HBW2.out.cell 0
          have b1 : W.cell? ⟨sb, 1, none⟩ = some (.bool dw) := HBW2.out.cell 1
          have b2 : W.cell? ⟨sb, 2, none⟩ = some (.int .i64 fu) := HBW2.out.cell 2
          have b3 : W.cell? ⟨sb, 3, none⟩ = some (.int .i64 X) := HBW2.out.cell 3
          have b4 : W.cell? ⟨sb, 4, none⟩ = some (.int .i64 T) := HBW2.out.cell 4
          have b5 : W.cell? ⟨sb, 5, none⟩ = some (.slice V vn a) := HBW2.out.cell 5
          have b6 : W.cell? ⟨sb, 6, none⟩ = some (.slice C cn b) := HBW2.out.cell 6
          have b7 : W.cell? ⟨sb, 7, none⟩ = some (.slice D dn d) := HBW2.out.cell 7
          have b8 : W.cell? ⟨sb, 8, none⟩ = some (.bool q) := HBW2.out.cell 8
          have fa0 := HYW.out.free 0
          have fa1 := HYW.out.free 1
          have fa2 := HYW.out.free 2
          have fa3 := HYW.out.free 3
          have fa4 := HYW.out.free 4
          have fa5 := HYW.out.free 5
          have fa6 := HYW.out.free 6
          have fa7 := HYW.out.free 7
          have fa8 := HYW.out.free 8
          clear hbad
          go_wp2_with fail
          refine bodyPost_ret (v := .tuple #[.agg #[.slice A2 rs2.length c2, .bool dw, .int .i64 fu, .int .i64 X, .int .i64 T, .slice V vn a, .slice C cn b, .slice D dn d, .bool q], .int .i64 (ke : Int)]) (by simp [results, Tryz.results10, go_sem, a0, a1, a2, a3, a4, a5, a6, a7, a8]) rfl ?_
          refine R8P.mk ⟨fs, dw, fu⟩ l ke HGS.out HRN.out HEQ.out (Files.put9 (by decide) (by decide) HFW.out HYW.out _ _ _ _ _ _ _ _ _) HM2.out ?_ ?_
          ·exact (ArgAt.put9 (g := w.heap.size + 1) (fun g hg e => by have h2 := HZ3.out; have h4 : w3.heap.size ≤ g := hg; omega) (HRL.out.same (fun g hl hg => HFRW.out.block g hl (fun e => by have h1 := HSB3.out; have h2 := HZ3.out; have h3 := HSBE.out; have h4 : w3.heap.size ≤ g := hg; omega))) _ _ _ _ _ _ _ _ _).mono (fun g _ hg => by have h2 := HZ3.out; have h4 : w3.heap.size ≤ g := hg; omega)
          ·exact Below.put9 (Nat.le_succ _) (HBL.out.trans (HFRW.out.to_below (fun k hk h1 h => by have := HSB1.out; omega) HBL.out.size)) _ _ _ _ _ _ _ _ _
         --Y
       ·have hje : j = gs.length := by omega
        have hj1 : ¬ (j : Int) < (gs.length : Int) := by omega
        have HRN : Hid (rmAll s gs = (sk, 0)) := Lib.hid (by rw [HRA.out, hje, List.drop_length]; rfl)
        have r0 : wr.cell? ⟨sb, 0, none⟩ = some (.slice A1 rs1.length c1) := HBX1.out.cell 0
        have r1 : wr.cell? ⟨sb, 1, none⟩ = some (.bool sk.down) := HBX1.out.cell 1
        have r2 : wr.cell? ⟨sb, 2, none⟩ = some (.int .i64 sk.fuse) := HBX1.out.cell 2
        have r3 : wr.cell? ⟨sb, 3, none⟩ = some (.int .i64 X) := HBX1.out.cell 3
        have r4 : wr.cell? ⟨sb, 4, none⟩ = some (.int .i64 T) := HBX1.out.cell 4
        have r5 : wr.cell? ⟨sb, 5, none⟩ = some (.slice V vn a) := HBX1.out.cell 5
        have r6 : wr.cell? ⟨sb, 6, none⟩ = some (.slice C cn b) := HBX1.out.cell 6
        have r7 : wr.cell? ⟨sb, 7, none⟩ = some (.slice D dn d) := HBX1.out.cell 7
        have r8 : wr.cell? ⟨sb, 8, none⟩ = some (.bool q) := HBX1.out.cell 8
        have y0 : wr.cell? ⟨w.heap.size + 1, 0, none⟩ = some (.slice none 0 0) := HYR.out.cell 0
        have y1 : wr.cell? ⟨w.heap.size + 1, 1, none⟩ = some (.bool false) := HYR.out.cell 1
        have y2 : wr.cell? ⟨w.heap.size + 1, 2, none⟩ = some (.int .i64 0) := HYR.out.cell 2
        have y3 : wr.cell? ⟨w.heap.size + 1, 3, none⟩ = some (.int .i64 0) := HYR.out.cell 3
        have y4 : wr.cell? ⟨w.heap.size + 1, 4, none⟩ = some (.int .i64 0) := HYR.out.cell 4
        have y5 : wr.cell? ⟨w.heap.size + 1, 5, none⟩ = some (.slice none 0 0) := HYR.out.cell 5
        have y6 : wr.cell? ⟨w.heap.size + 1, 6, none⟩ = some (.slice none 0 0) := HYR.out.cell 6
        have y7 : wr.cell? ⟨w.heap.size + 1, 7, none⟩ = some (.slice none 0 0) := HYR.out.cell 7
        have y8 : wr.cell? ⟨w.heap.size + 1, 8, none⟩ = some (.bool false) := HYR.out.cell 8
        have fy0 := HYR.out.free 0
        have fy1 := HYR.out.free 1
        have fy2 := HYR.out.free 2
        have fy3 := HYR.out.free 3
        have fy4 := HYR.out.free 4
        have fy5 := HYR.out.free 5
        have fy6 := HYR.out.free 6
        have fy7 := HYR.out.free 7
        have fy8 := HYR.out.free 8
        clear hlt hje hbox HRA hj
        go_wp2_with fail
        refine bodyPost_ret (v := .tuple #[.agg #[.slice A1 rs1.length c1, .bool sk.down, .int .i64 sk.fuse, .int .i64 X, .int .i64 T, .slice V vn a, .slice C cn b, .slice D dn d, .bool q], .int .i64 0]) (by simp [results, Tryz.results10, go_sem, y0, y1, y2, y3, y4, y5, y6, y7, y8]) rfl ?_
        refine R8P.mk sk l 0 HGS.out HRN.out HEQ.out (Files.put9 (by decide) (by decide) HFK.out HYR.out _ _ _ _ _ _ _ _ _) HMK.out ?_ ?_
        ·exact (ArgAt.put9 (g := w.heap.size + 1) (fun g hg e => by have h2 := HZ3.out; have h4 : w3.heap.size ≤ g := hg; omega) (HRL.out.same (fun g hl hg => HFRK.out.block g hl (fun e => by have h1 := HSB3.out; have h2 := HZ3.out; have h3 := HSBE.out; have h4 : w3.heap.size ≤ g := hg; omega))) _ _ _ _ _ _ _ _ _).mono (fun g _ hg => by have h2 := HZ3.out; have h4 : w3.heap.size ≤ g := hg; omega)
        ·exact Below.put9 (Nat.le_succ _) (HBL.out.trans (HFRK.out.to_below (fun k hk h1 h => by have := HSB1.out; omega) HBL.out.size)) _ _ _ _ _ _ _ _ _
end Go.Proofs.YtfpomllhkbbipaaGreatDoor
namespace Go.Proofs.YtfpomllhkbbipaaGreatDoor
open Go Go.RowKit Go.Shelf Go.Sort Go.Maps Go.Lib Mem Pk Cf Dsk Go.Proofs.YtfpomllhkbbipaaGreatDoor.Nm Sto
theorem wpList_appendKM {P : Program} {α : Type} {k : Nat} {f : α → List Value} {ops : Array Oper} {rest : List Oper} {o : Oper} {a : Act} {Q : Exit → Act → World → Prop} {w : World} (hgd : o.guard = none) (s x : Operand) (t : TypeId)
 (ho : o.op = .call { callee := .builtin .append, args := #[s, x], argTypes := #[t, t] })
 {base : Nat} {e : TypeId} {z : Value} {bytes : Nat} (ht : SliceTK P t e z k bytes)
 {v : Value} {xs : List α} (us : List α) (hk : ∀ u, (f u).length = k) (h1 : ∀ u, ∀ y ∈ f u, y.oneCell' = true) (hs : a.eval s = v) (hown : OwnK k f base e w v xs)
 {ad : Addr} {c : Nat} {F : Nat → Prop} {e' : TypeId} (hx : a.eval x = .slice (some ad) us.length c) (hsl : SlK k f e' F w (some ad) us)
 (h63 : xs.length + us.length ≤ maxLen) (hbytes : (xs.length + us.length) * bytes ≤ 140737488355328) (hbase : base ≤ w.heap.size)
 (h : ∀ v' w', OwnK k f base e w' v' (xs ++ us) → w.grownBy w' v.ownBlock → (v' = .slice none 0 0 ↔ v = .slice none 0 0 ∧ us.length = 0) → wpList P ops Q rest (a.put o.dst v') w') : wpList P ops Q (o :: rest) a w := by
 obtain ⟨ht, hz1, hk0, i, hi, hz, hsz, hby⟩ := ht
 refine wpList_append_own (P := P) _ hgd s x t ho base e i z k bytes ht hi hz hsz hby hz1 hk0 v xs.length (xs.flatMap f) hs hown ad us.length c (us.flatMap f) hx (flatMap_len hk us) ?_ ?_ h63 hbytes hbase ?_
 ·intro j u hj
  have hjl : j < us.length * k := by
   rw [← flatMap_len hk us]
   exact (List.getElem?_eq_some_iff.1 hj).1
  have hq : j / k < us.length := by rw [Nat.div_lt_iff_lt_mul hk0]; exact hjl
  obtain ⟨b, o', hA, -, -, hc⟩ := hsl.at hq
  injection hA with hA
  have hm : j % k < k := Nat.mod_lt _ hk0
  have h2 := hc (j % k) hm
  have hj2 : j / k * k + j % k = j := Nat.div_add_mod' j k
  rw [← flatMap_get hk us hq hm, hj2] at h2
  rw [hA]
  have e2 : (⟨b, o', none⟩ : Addr).add j = ⟨b, o' + j, none⟩ := by
   unfold Addr.add; split
   ·rename_i h0; subst h0; rfl
   ·simp
  rw [e2, ← hj, ← h2]
  congr 2
  omega
 ·intro u hu
  obtain ⟨y, -, hy⟩ := List.mem_flatMap.1 hu
  exact h1 y u hy
 ·intro v' w' ho' hgr hn
  refine h v' w' ?_ hgr hn
  unfold OwnK; rw [List.length_append, List.flatMap_append]; exact ho'
structure OpM where
 o : OpT
 A : Option Addr
 c : Nat
def OpM.cells (y : OpM) : List Value := [.int .i64 y.o.k, .string ⟨y.o.a.toArray⟩, .string ⟨y.o.z.toArray⟩, .int .i64 y.o.n, .slice y.A y.o.b.length y.c]
theorem ocells_len (y : OpM) : y.cells.length = 5 := rfl
theorem ocells_one (u : OpM) : ∀ y ∈ u.cells, y.oneCell' = true := by
 intro y hy
 simp [OpM.cells] at hy
 rcases hy with rfl | rfl | rfl | rfl | rfl <;> rfl
theorem opTK : SliceTK Tryz.prog 92 87 (.agg #[.int .i64 0, .string ByteArray.empty, .string ByteArray.empty, .int .i64 0, .slice none 0 0]) 5 72 := sliceTK_mk Tryz.underlying92 rfl (by decide) (by kernel_rfl)
theorem OwnK.fresh {α : Type} {k : Nat} {f : α → List Value} {base : Nat} {e : TypeId} {w : World} {us : List α} (hf : ∀ u, (f u).length = k) (hl : us.length ≤ maxLen) (hb : base ≤ w.heap.size) : OwnK k f base e (w.alloc (.cells (us.flatMap f).toArray e)) (.slice (some ⟨w.heap.size, 0, none⟩) us.length us.length) us :=
 ⟨by rw [flatMap_len hf], .inr ⟨w.heap.size, us.length, (us.flatMap f).toArray, rfl, hb, heap_alloc_new w _, Nat.le_refl _, hl, by rw [List.size_toArray, flatMap_len hf], by rw [← flatMap_len hf, List.take_length]⟩⟩
structure OpOk (L : Nat) (w : World) (y : OpM) : Prop where
 b : ∀ W, Frm (fun g => g < L) w W → Sl fB W y.A y.o.b
 n : (Lit.int .i64 y.o.n).wf = true
 lo : 1 ≤ y.o.k
 hi : y.o.k ≤ 6
 a : y.o.a.length ≤ 16
 z : y.o.z.length ≤ 16
theorem ok_cr {L : Nat} {w : World} : OpOk L w ⟨crOp, none, 0⟩ := ⟨fun _ _ => Sl.nil, (by decide), (by decide), (by decide), (by decide), (by decide)⟩
theorem ok_sy {L : Nat} {w : World} : OpOk L w ⟨syOp, none, 0⟩ := ⟨fun _ _ => Sl.nil, (by decide), (by decide), (by decide), (by decide), (by decide)⟩
theorem ok_rn {L : Nat} {w : World} {i : Int} : OpOk L w ⟨rnOp (nmS i), none, 0⟩ := ⟨fun _ _ => Sl.nil, (by show (Lit.int .i64 0).wf = true; decide), (by show (1 : Int) ≤ 3; decide), (by show (3 : Int) ≤ 6; decide), (by show nmT.length ≤ 16; decide), (by show (nmOf 115 i.toNat).length ≤ 16; rw [nmOf_len]; decide)⟩
theorem ok_rm {L : Nat} {w : World} {i : Int} : OpOk L w ⟨rmOp (nmS i), none, 0⟩ := ⟨fun _ _ => Sl.nil, (by show (Lit.int .i64 0).wf = true; decide), (by show (1 : Int) ≤ 2; decide), (by show (2 : Int) ≤ 6; decide), (by show (nmOf 115 i.toNat).length ≤ 16; rw [nmOf_len]; decide), (by show ([] : Name).length ≤ 16; decide)⟩
theorem wf_small8 {z : Int} (h0 : 0 ≤ z) (h1 : z ≤ 9223372036854775807) : (Lit.int .i64 z).wf = true := by
 have e3 : IntKind.i64.min = -9223372036854775808 := rfl
 have e4 : IntKind.i64.max = 9223372036854775807 := rfl
 simp [Lit.wf, e3, e4]; omega
theorem ok_wr {L : Nat} {w : World} {A : Option Addr} {c : Nat} {bs : List UInt8} {te : TypeId} (h : SlB fB te (fun g => L ≤ g) w A bs) (hc : bs.length ≤ c) (hl : bs.length ≤ 65536) {j : Nat} (hj : j * 256 < bs.length) : OpOk L w ⟨wrOp bs j, partA A c (j * 256), c - j * 256⟩ :=
 ⟨(fun W hW => by
   have h1 := (h.frm hW (fun g h1 h2 => by omega)).sl.part (c := c) (k := j * 256) (m := min 256 (bs.length - j * 256)) (by omega) hc
   rw [← List.length_drop, take_min_len] at h1
   exact h1), wf_small8 (by show (0 : Int) ≤ ((j * 256 : Nat) : Int); omega) (by show ((j * 256 : Nat) : Int) ≤ _; omega), (by show (1 : Int) ≤ 4; decide), (by show (4 : Int) ≤ 6; decide), (by show nmT.length ≤ 16; decide), (by show ([] : Name).length ≤ 16; decide)⟩
def Lst (L : Nat) (wB : World) (os : List OpT) (v : Value) (W : World) : Prop := ∃ xs : List OpM, OwnK 5 OpM.cells wB.heap.size 87 W v xs ∧ xs.map OpM.o = os ∧ (∀ y ∈ xs, OpOk L wB y) ∧ Below wB.heap.size wB W
theorem Blk.put6 {W : World} {g : Nat} {t : TypeId} {c0 c1 c2 c3 c4 c5 c6 c7 c8 : Value} (h : Blk W g t #[c0, c1, c2, c3, c4, c5, c6, c7, c8]) (v0 v1 v2 v3 v4 v5 : Value) : Blk ((((((W.setCell ⟨g, 3, none⟩ v0).setCell ⟨g, 4, none⟩ v1).setCell ⟨g, 5, none⟩ v2).setCell ⟨g, 6, none⟩ v3).setCell ⟨g, 7, none⟩ v4).setCell ⟨g, 8, none⟩ v5) g t #[c0, c1, c2, v0, v1, v2, v3, v4, v5] := by
 have h0 : Blk (W.setCell ⟨g, 3, none⟩ v0) g t #[c0, c1, c2, v0, c4, c5, c6, c7, c8] := h.set_ 3 v0
 have h1 : Blk ((W.setCell ⟨g, 3, none⟩ v0).setCell ⟨g, 4, none⟩ v1) g t #[c0, c1, c2, v0, v1, c5, c6, c7, c8] := h0.set_ 4 v1
 have h2 : Blk (((W.setCell ⟨g, 3, none⟩ v0).setCell ⟨g, 4, none⟩ v1).setCell ⟨g, 5, none⟩ v2) g t #[c0, c1, c2, v0, v1, v2, c6, c7, c8] := h1.set_ 5 v2
 have h3 : Blk ((((W.setCell ⟨g, 3, none⟩ v0).setCell ⟨g, 4, none⟩ v1).setCell ⟨g, 5, none⟩ v2).setCell ⟨g, 6, none⟩ v3) g t #[c0, c1, c2, v0, v1, v2, v3, c7, c8] := h2.set_ 6 v3
 have h4 : Blk (((((W.setCell ⟨g, 3, none⟩ v0).setCell ⟨g, 4, none⟩ v1).setCell ⟨g, 5, none⟩ v2).setCell ⟨g, 6, none⟩ v3).setCell ⟨g, 7, none⟩ v4) g t #[c0, c1, c2, v0, v1, v2, v3, v4, c8] := h3.set_ 7 v4
 have h5 : Blk ((((((W.setCell ⟨g, 3, none⟩ v0).setCell ⟨g, 4, none⟩ v1).setCell ⟨g, 5, none⟩ v2).setCell ⟨g, 6, none⟩ v3).setCell ⟨g, 7, none⟩ v4).setCell ⟨g, 8, none⟩ v5) g t #[c0, c1, c2, v0, v1, v2, v3, v4, v5] := h4.set_ 8 v5
 exact h5
theorem Files.put6 {F : Nat → Prop} {W : World} {A : Option Addr} {rs : List RFile} {g : Nat} {t : TypeId} {cs : Array Value} (hn1 : 59 ≠ t) (hne : 5 ≠ t) (h : Files F W A rs) (hb : Blk W g t cs) (v0 v1 v2 v3 v4 v5 : Value) : Files F ((((((W.setCell ⟨g, 3, none⟩ v0).setCell ⟨g, 4, none⟩ v1).setCell ⟨g, 5, none⟩ v2).setCell ⟨g, 6, none⟩ v3).setCell ⟨g, 7, none⟩ v4).setCell ⟨g, 8, none⟩ v5) A rs :=
 Files.farN hn1 hne [(3, v0), (4, v1), (5, v2), (6, v3), (7, v4), (8, v5)] h hb
theorem Mem.Frm.put6 {g : Nat} {w W : World} (h : Frm (fun k => k = g) w W) (v0 v1 v2 v3 v4 v5 : Value) : Frm (fun k => k = g) w ((((((W.setCell ⟨g, 3, none⟩ v0).setCell ⟨g, 4, none⟩ v1).setCell ⟨g, 5, none⟩ v2).setCell ⟨g, 6, none⟩ v3).setCell ⟨g, 7, none⟩ v4).setCell ⟨g, 8, none⟩ v5) :=
 ((((((h.setCell (p := ⟨g, 3, none⟩) (fun _ => rfl) v0).setCell (p := ⟨g, 4, none⟩) (fun _ => rfl) v1).setCell (p := ⟨g, 5, none⟩) (fun _ => rfl) v2).setCell (p := ⟨g, 6, none⟩) (fun _ => rfl) v3).setCell (p := ⟨g, 7, none⟩) (fun _ => rfl) v4).setCell (p := ⟨g, 8, none⟩) (fun _ => rfl) v5)
theorem opsO_len (l : Option SnT) {x : SnT} (h : (snOf x).length ≤ 65536) : (opsO l x).length ≤ 100000 := by
 unfold opsO fileO partsN
 cases l <;> simp only [List.length_append, List.length_cons, List.length_map, List.length_range', List.length_nil] <;> omega
def Q1Rel (bs : List UInt8) (m : Nat) (L : Nat) (wB : World) (ov iv : Value) (W : World) : Prop :=
 ∃ j : Nat, j ≤ m ∧ iv = .int .i64 ((j * 256 : Nat) : Int) ∧ Lst L wB (crOp :: (List.range' 0 j).map (wrOp bs)) ov W
def Q3Rel (G : Nat → Prop) (s : S) (os : List OpT) (x t : Int) (V : Option Addr) (vn a : Nat) (C : Option Addr) (cn b : Nat) (D : Option Addr) (dn d : Nat) (q : Bool) (w wL : World) (iv : Value) (wr : World) : Prop :=
 ∃ (j : Nat) (sk : S) (A : Option Addr) (c : Nat) (rs : List RFile), j ≤ os.length ∧ iv = .int .i64 (j : Int) ∧ Hid (runO s (os.take j) = (sk, 0)) ∧ InvS sk ∧ Blk wr w.heap.size 40 #[.slice A rs.length c, .bool sk.down, .int .i64 sk.fuse, .int .i64 x, .int .i64 t, .slice V vn a, .slice C cn b, .slice D dn d, .bool q] ∧
   Files (up G w) wr A rs ∧ rs.map RFile.file = sk.files ∧ Frm (fun g => g = w.heap.size) wL wr
theorem R8P.put {G R : Nat → Prop} (r : S × Option SnT × Nat) (sk : S) (y : SnT) (k : Nat) (q : Bool) (hr : r = (sk, if q then some y else none, k)) (hy : q = false → y = zS) {w W : World} {A V C D : Option Addr} {c a b d : Nat} {rs : List RFile}
 (hf : Files (up G w) W A rs) (hm : rs.map RFile.file = sk.files) (ha : ArgAt R W y V C D) (hb : Below w.heap.size w W) :
 R8P G R r w (.returned (.tuple #[.agg #[.slice A rs.length c, .bool sk.down, .int .i64 sk.fuse, .int .i64 y.x, .int .i64 y.t, .slice V y.vs.length a, .slice C y.ls.length b, .slice D y.ds.length d, .bool q], .int .i64 (k : Int)])) W := by
 subst hr
 cases q with
 | true => exact ⟨A, c, rs, V, C, D, a, b, d, rfl, hf, hm, ha, hb⟩
 | false =>
   have := hy rfl
   subst this
   exact ⟨A, c, rs, V, C, D, a, b, d, rfl, hf, hm, ha, hb⟩
theorem opt_getD (l : Option SnT) : l = if l.isSome then some (l.getD zS) else none := by cases l <;> rfl
theorem opt_zero {l : Option SnT} (h : l.isSome = false) : l.getD zS = zS := by cases l <;> first | rfl | cases h
set_option maxRecDepth 100000 in
set_option maxHeartbeats 16000000 in
theorem RPut8_any {G R F : Nat → Prop} {w : World} (A : Option Addr) (c : Nat) (rs : List RFile) (h : Files G w A rs) (s : S) (hs : rs.map RFile.file = s.files) (hiv : InvS s) (l : Option SnT) (hly : ∀ y, l = some y → rightS y = true) (V C D : Option Addr) (a b d : Nat) (hla : ArgAt R w (l.getD zS) V C D)
 (x : SnT) (A' C' D' : Option Addr) (a' c' d' : Nat) (hxa : ArgAt F w x A' C' D') (hxd : x.ds.length ≤ d') :
 Calls Tryz.prog 12 #[.agg #[.slice A rs.length c, .bool s.down, .int .i64 s.fuse, .int .i64 (l.getD zS).x, .int .i64 (l.getD zS).t, .slice V (l.getD zS).vs.length a, .slice C (l.getD zS).ls.length b, .slice D (l.getD zS).ds.length d, .bool l.isSome], .agg #[.int .i64 x.x, .int .i64 x.t, .slice A' x.vs.length a', .slice C' x.ls.length c', .slice D' x.ds.length d']] w (R8P G (fun g => R g ∨ F g) (putS s l x) w) := by
 have hlr : rs.length ≤ 256 := by rw [← List.length_map (f := RFile.file), hs]; exact hiv.count
 have HF := Lib.hid (h.mono (G := fun g => G g ∧ g < w.heap.size) (fun g hl hg => ⟨hg, hl⟩))
 have HS := Lib.hid hs
 have HIV := Lib.hid hiv
 have HLA := Lib.hid (hla.mono (G := fun g => (R g ∨ F g) ∧ g < w.heap.size) (fun g hl hg => ⟨.inl hg, hl⟩))
 have HXA := Lib.hid (hxa.mono (G := fun g => (R g ∨ F g) ∧ g < w.heap.size) (fun g hl hg => ⟨.inr hg, hl⟩))
 have HLY := Lib.hid hly
 have HLG := Lib.hid (opt_getD l)
 have HLZ : Hid (l.isSome = false → l.getD zS = zS) := Lib.hid opt_zero
 clear h hs hiv hla hxa hly
 obtain ⟨y, hy⟩ : ∃ z, z = l.getD zS := ⟨_, rfl⟩
 obtain ⟨q, hq⟩ : ∃ z, z = l.isSome := ⟨_, rfl⟩
 rw [← hy, ← hq] at HLG HLZ ⊢
 rw [← hy] at HLA
 have HYQ := Lib.hid (And.intro hy hq)
 clear hy hq
 obtain ⟨w3, hw3⟩ : ∃ z, z = ((w.alloc (.cells #[.slice A rs.length c, .bool s.down, .int .i64 s.fuse, .int .i64 y.x, .int .i64 y.t, .slice V y.vs.length a, .slice C y.ls.length b, .slice D y.ds.length d, .bool q] 40)).alloc (.cells #[.int .i64 x.x, .int .i64 x.t, .slice A' x.vs.length a', .slice C' x.ls.length c', .slice D' x.ds.length d'] 38)).alloc (.cells #[.slice none 0 0, .bool false, .int .i64 0, .int .i64 0, .int .i64 0, .slice none 0 0, .slice none 0 0, .slice none 0 0, .bool false] 40) := ⟨_, rfl⟩
 have hz3 : w3.heap.size = w.heap.size + 3 := by rw [hw3]; simp [World.size_alloc]
 have hb3 : Below w.heap.size w w3 := by
  rw [hw3]; exact (((Below.refl _ _).alloc (Nat.le_refl _) _).alloc (by simp) _).alloc (by simp; omega) _
 have hx0 : Blk w3 w.heap.size 40 #[.slice A rs.length c, .bool s.down, .int .i64 s.fuse, .int .i64 y.x, .int .i64 y.t, .slice V y.vs.length a, .slice C y.ls.length b, .slice D y.ds.length d, .bool q] := by rw [hw3]; exact ((Blk.new_ w _ _).alloc _).alloc _
 have hx1 : Blk w3 (w.heap.size + 1) 38 #[.int .i64 x.x, .int .i64 x.t, .slice A' x.vs.length a', .slice C' x.ls.length c', .slice D' x.ds.length d'] := by
  have := (Blk.new_ (w.alloc (.cells #[.slice A rs.length c, .bool s.down, .int .i64 s.fuse, .int .i64 y.x, .int .i64 y.t, .slice V y.vs.length a, .slice C y.ls.length b, .slice D y.ds.length d, .bool q] 40)) 38 #[.int .i64 x.x, .int .i64 x.t, .slice A' x.vs.length a', .slice C' x.ls.length c', .slice D' x.ds.length d']).alloc (.cells #[.slice none 0 0, .bool false, .int .i64 0, .int .i64 0, .int .i64 0, .slice none 0 0, .slice none 0 0, .slice none 0 0, .bool false] 40)
  rw [World.size_alloc] at this; rw [hw3]; exact this
 have hx2 : Blk w3 (w.heap.size + 1 + 1) 40 #[.slice none 0 0, .bool false, .int .i64 0, .int .i64 0, .int .i64 0, .slice none 0 0, .slice none 0 0, .slice none 0 0, .bool false] := by
  have := Blk.new_ ((w.alloc (.cells #[.slice A rs.length c, .bool s.down, .int .i64 s.fuse, .int .i64 y.x, .int .i64 y.t, .slice V y.vs.length a, .slice C y.ls.length b, .slice D y.ds.length d, .bool q] 40)).alloc (.cells #[.int .i64 x.x, .int .i64 x.t, .slice A' x.vs.length a', .slice C' x.ls.length c', .slice D' x.ds.length d'] 38)) 40 #[.slice none 0 0, .bool false, .int .i64 0, .int .i64 0, .int .i64 0, .slice none 0 0, .slice none 0 0, .slice none 0 0, .bool false]
  rw [World.size_alloc, World.size_alloc] at this; rw [hw3]; exact this
 have HZ3 := Lib.hid hz3
 have HB3 := Lib.hid hb3
 have HX0 := Lib.hid hx0
 have HX1 := Lib.hid hx1
 have HX2 := Lib.hid hx2
 have HF3 : Hid (Files (fun g => G g ∧ g < w.heap.size) w3 A rs) := Lib.hid (HF.out.below hb3)
 have HL3 := Lib.hid (HLA.out.below hb3)
 have HX3 := Lib.hid (HXA.out.below hb3)
 have HRT := Lib.hid (RSnRight_any (x := x.x) (t := x.t) (a := a') (b := c') (d := d') HX3.out.inn)
 obtain ⟨rx, hrx⟩ : ∃ z, z = rightS x := ⟨_, rfl⟩
 change Hid (Calls _ _ _ _ (BoolB (rightS x) w3)) at HRT
 rw [← hrx] at HRT
 have HRX := Lib.hid hrx
 have HW3 := Lib.hid hw3
 have x0 : w3.cell? ⟨w.heap.size + 1, 0, none⟩ = some (.int .i64 x.x) := hx1.cell 0
 have x1 : w3.cell? ⟨w.heap.size + 1, 1, none⟩ = some (.int .i64 x.t) := hx1.cell 1
 have x2 : w3.cell? ⟨w.heap.size + 1, 2, none⟩ = some (.slice A' x.vs.length a') := hx1.cell 2
 have x3 : w3.cell? ⟨w.heap.size + 1, 3, none⟩ = some (.slice C' x.ls.length c') := hx1.cell 3
 have x4 : w3.cell? ⟨w.heap.size + 1, 4, none⟩ = some (.slice D' x.ds.length d') := hx1.cell 4
 clear hw3 hz3 hb3 hx0 hx1 hx2 HF HLA HXA hrx
 go_enter Tryz.func12, Tryz.ntmps12
 go_upto_region 1 with fail
 rw [← HW3.out]
 clear HW3
 go_wp2_with fail
 (with_reducible refine HRT.out.mono ?_); rintro e w4 ⟨rfl, hb4⟩
 have HB4 := Lib.hid hb4
 have HY0 := Lib.hid (HX0.out.below hb4 HX0.out.lt)
 have HY1 := Lib.hid (HX1.out.below hb4 HX1.out.lt)
 have HY2 := Lib.hid (HX2.out.below hb4 HX2.out.lt)
 have HF4 := Lib.hid (HF3.out.below hb4)
 have HL4 := Lib.hid (HL3.out.below hb4)
 have HX4 := Lib.hid (HX3.out.below hb4)
 have HBW4 : Hid (Below w.heap.size w w4) := Lib.hid (HB3.out.trans (hb4.mono HB3.out.size))
 have HZ4 : Hid (w.heap.size + 3 ≤ w4.heap.size) := Lib.hid (by have h1 := hb4.size; have h2 := HZ3.out; omega)
 clear hb4 HRT HX0 HX1 HX2 HF3 HL3 HX3 x0 x1 x2 x3 x4
 have s0 : w4.cell? ⟨w.heap.size, 0, none⟩ = some (.slice A rs.length c) := HY0.out.cell 0
 have s1 : w4.cell? ⟨w.heap.size, 1, none⟩ = some (.bool s.down) := HY0.out.cell 1
 have s2 : w4.cell? ⟨w.heap.size, 2, none⟩ = some (.int .i64 s.fuse) := HY0.out.cell 2
 have s3 : w4.cell? ⟨w.heap.size, 3, none⟩ = some (.int .i64 y.x) := HY0.out.cell 3
 have s4 : w4.cell? ⟨w.heap.size, 4, none⟩ = some (.int .i64 y.t) := HY0.out.cell 4
 have s5 : w4.cell? ⟨w.heap.size, 5, none⟩ = some (.slice V y.vs.length a) := HY0.out.cell 5
 have s6 : w4.cell? ⟨w.heap.size, 6, none⟩ = some (.slice C y.ls.length b) := HY0.out.cell 6
 have s7 : w4.cell? ⟨w.heap.size, 7, none⟩ = some (.slice D y.ds.length d) := HY0.out.cell 7
 have s8 : w4.cell? ⟨w.heap.size, 8, none⟩ = some (.bool q) := HY0.out.cell 8
 have x0 : w4.cell? ⟨w.heap.size + 1, 0, none⟩ = some (.int .i64 x.x) := HY1.out.cell 0
 have x1 : w4.cell? ⟨w.heap.size + 1, 1, none⟩ = some (.int .i64 x.t) := HY1.out.cell 1
 have x2 : w4.cell? ⟨w.heap.size + 1, 2, none⟩ = some (.slice A' x.vs.length a') := HY1.out.cell 2
 have x3 : w4.cell? ⟨w.heap.size + 1, 3, none⟩ = some (.slice C' x.ls.length c') := HY1.out.cell 3
 have x4 : w4.cell? ⟨w.heap.size + 1, 4, none⟩ = some (.slice D' x.ds.length d') := HY1.out.cell 4
 have z0 : w4.cell? ⟨w.heap.size + 1 + 1, 0, none⟩ = some (.slice none 0 0) := HY2.out.cell 0
 have z1 : w4.cell? ⟨w.heap.size + 1 + 1, 1, none⟩ = some (.bool false) := HY2.out.cell 1
 have z2 : w4.cell? ⟨w.heap.size + 1 + 1, 2, none⟩ = some (.int .i64 0) := HY2.out.cell 2
 have z3 : w4.cell? ⟨w.heap.size + 1 + 1, 3, none⟩ = some (.int .i64 0) := HY2.out.cell 3
 have z4 : w4.cell? ⟨w.heap.size + 1 + 1, 4, none⟩ = some (.int .i64 0) := HY2.out.cell 4
 have z5 : w4.cell? ⟨w.heap.size + 1 + 1, 5, none⟩ = some (.slice none 0 0) := HY2.out.cell 5
 have z6 : w4.cell? ⟨w.heap.size + 1 + 1, 6, none⟩ = some (.slice none 0 0) := HY2.out.cell 6
 have z7 : w4.cell? ⟨w.heap.size + 1 + 1, 7, none⟩ = some (.slice none 0 0) := HY2.out.cell 7
 have z8 : w4.cell? ⟨w.heap.size + 1 + 1, 8, none⟩ = some (.bool false) := HY2.out.cell 8
 have fz0 := HY2.out.free 0
 have fz1 := HY2.out.free 1
 have fz2 := HY2.out.free 2
 have fz3 := HY2.out.free 3
 have fz4 := HY2.out.free 4
 have fz5 := HY2.out.free 5
 have fz6 := HY2.out.free 6
 have fz7 := HY2.out.free 7
 have fz8 := HY2.out.free 8
 cases rx with
 | false =>
   have HPS := Lib.hid (putS_no (s := s) (l := l) HRX.out.symm)
   go_wp2_with fail
   refine bodyPost_ret (v := .tuple #[.agg #[.slice A rs.length c, .bool s.down, .int .i64 s.fuse, .int .i64 y.x, .int .i64 y.t, .slice V y.vs.length a, .slice C y.ls.length b, .slice D y.ds.length d, .bool q], .int .i64 1]) (by simp [results, Tryz.results12, go_sem, z0, z1, z2, z3, z4, z5, z6, z7, z8]) rfl ?_
   rw [HPS.out]
   refine R8P.put _ s y 1 q (by rw [← HLG.out]) HLZ.out (Files.put9 (by decide) (by decide) (HF4.out.mono (fun g _ hg => .inl hg.1)) HY2.out _ _ _ _ _ _ _ _ _) HS.out (ArgAt.put9 (g := w.heap.size + 1 + 1) (fun g hg e => by have := hg.2; omega) HL4.out _ _ _ _ _ _ _ _ _ |>.mono (fun g _ hg => hg.1)) (Below.put9 (by omega) HBW4.out _ _ _ _ _ _ _ _ _)
 | true =>
   go_upto_region 3 with fail
   go_cut [26] (fun b9 W => W = w4 ∧ b9 = .bool (oldB l x))
   case first =>
    cases l with
    | none =>
      obtain ⟨rfl, rfl⟩ := HYQ.out
      go_wp2_with fail
      go_meet
      exact ⟨rfl, rfl⟩
    | some y' =>
      obtain ⟨hy9, hq9⟩ := HYQ.out
      simp only [Option.getD_some, Option.isSome_some] at hy9 hq9
      subst hy9; subst hq9
      go_wp2_with fail
      go_meet
      exact ⟨rfl, rfl⟩
   case rest =>
    obtain ⟨hwc, rfl⟩ := hcut
    have hwc := hwc.symm
    subst hwc
    obtain ⟨ob, hob⟩ : ∃ z, z = oldB l x := ⟨_, rfl⟩
    rw [← hob]
    cases ob with
    | true =>
      have HPS : Hid (putS s l x = (s, l, 110)) := Lib.hid (by
       cases l with
       | none => cases hob
       | some y' => exact putS_old HRX.out.symm (of_decide_eq_true hob.symm))
      clear hob
      go_wp2_with fail
      refine bodyPost_ret (v := .tuple #[.agg #[.slice A rs.length c, .bool s.down, .int .i64 s.fuse, .int .i64 y.x, .int .i64 y.t, .slice V y.vs.length a, .slice C y.ls.length b, .slice D y.ds.length d, .bool q], .int .i64 110]) (by simp [results, Tryz.results12, go_sem, z0, z1, z2, z3, z4, z5, z6, z7, z8]) rfl ?_
      rw [HPS.out]
      refine R8P.put _ s y 110 q (by rw [← HLG.out]) HLZ.out (Files.put9 (by decide) (by decide) (HF4.out.mono (fun g _ hg => .inl hg.1)) HY2.out _ _ _ _ _ _ _ _ _) HS.out (ArgAt.put9 (g := w.heap.size + 1 + 1) (fun g hg e => by have := hg.2; omega) HL4.out _ _ _ _ _ _ _ _ _ |>.mono (fun g _ hg => hg.1)) (Below.put9 (by omega) HBW4.out _ _ _ _ _ _ _ _ _)
    | false =>
      have hnl : ∀ y', l = some y' → ¬ x.x ≤ y'.x := by
       intro y' e
       subst e
       have h9 : decide (x.x ≤ y'.x) = false := hob.symm
       simpa using h9
      have HPS := Lib.hid (putS_run (s := s) HRX.out.symm hnl)
      clear hob hnl
      obtain ⟨hx1, hx2, hxc, hxl⟩ := snap_parts HRX.out.symm
      obtain ⟨hxv, hxl2⟩ := rconf_rise hxc
      have hxt := hx2
      have hsl := snOf_len HRX.out.symm
      have HBY := Lib.hid (RSnBytes_any (x := x.x) (t := x.t) (a := a') (b := c') HX4.out.inn hxd (by omega) (by omega) (rise_small hxv) (rise_small hxl2) (fun n hn => by have := rise_mem hxv hn; omega) (fun n hn => by have := rise_mem hxl2 hn; omega) hxl)
      change Hid (Calls _ _ _ _ (AppPost w4.heap.size (snOf x) w4)) at HBY
      obtain ⟨bs, hbs⟩ : ∃ z, z = snOf x := ⟨_, rfl⟩
      rw [← hbs] at HBY hsl
      have HBS := Lib.hid hbs
      have HXX : Hid (1 ≤ x.x ∧ x.x ≤ 1099511627776) := Lib.hid (right_x HRX.out.symm)
      clear hx1 hx2 hxc hxl hxv hxl2 hxt hbs s0 s1 s2 s3 s4 s5 s6 s7 s8 z0 z1 z2 z3 z4 z5 z6 z7 z8 fz0 fz1 fz2 fz3 fz4 fz5 fz6 fz7 fz8
      go_wp2_with fail
      (with_reducible refine HBY.out.mono ?_); rintro e w5 ⟨v5, rfl, ho5, hb5⟩
      obtain ⟨A5, c5, rfl⟩ := ho5.form
      have HB5 := Lib.hid hb5
      have HSB := Lib.hid (SlB.of_own ho5).2
      have HC5 := Lib.hid ho5.cap.1
      clear ho5 hb5 HBY
      go_upto_region 7 with fail
      obtain ⟨w6, hw6⟩ : ∃ z, z = w5.alloc (.cells #[.int .i64 1, .string ⟨#[115, 110, 97, 112, 46, 116, 109, 112]⟩, .string ⟨#[]⟩, .int .i64 0, .slice none 0 0] 87) := ⟨_, rfl⟩
      rw [← hw6]
      have HL6 : Hid (Lst w4.heap.size w5 [crOp] (.slice (some ⟨w5.heap.size, 0, none⟩) 1 1) w6) := Lib.hid (by
       rw [hw6]
       exact ⟨[⟨crOp, none, 0⟩], OwnK.fresh (us := [(⟨crOp, none, 0⟩ : OpM)]) ocells_len (by unfold maxLen; decide) (Nat.le_refl _), rfl, fun y hy => by rw [List.mem_singleton] at hy; subst hy; exact ok_cr, (Below.refl _ _).alloc (Nat.le_refl _) _⟩)
      obtain ⟨m, hm⟩ : ∃ z, z = partsN bs.length := ⟨_, rfl⟩
      have hm2 : m = (bs.length + 255) / 256 := hm
      have HM := Lib.hid hm
      clear hw6 hm
      go_wp2_with fail
      go_loopw [7, 8] (fun ov iv W => Q1Rel bs m w4.heap.size w5 ov iv W) (fun _ iv _ => m * 256 - (intOf iv).toNat)
      case atStart => exact ⟨0, Nat.zero_le _, rfl, HL6.out⟩
      case round =>
       obtain ⟨j, hj, rfl, xs, hown, hxo, hok, hbw⟩ := hrel
       have HOWN := Lib.hid hown
       have HXO := Lib.hid hxo
       have HOK := Lib.hid hok
       have HBW := Lib.hid hbw
       have hxlen : xs.length = j + 1 := by rw [← List.length_map (f := OpM.o), hxo]; simp
       have HXL := Lib.hid hxlen
       clear hown hxo hok hbw hxlen HL6
       obtain ⟨J, hJ⟩ : ∃ z, z = j * 256 := ⟨_, rfl⟩
       rw [← hJ]
       have HJ := Lib.hid hJ
       have hJ6 : J ≤ 65536 + 256 := by omega
       by_cases hlt : J < bs.length
       ·--SKIP
        have hlt1 : (J : Int) < (bs.length : Int) := by omega
        obtain ⟨K, hK⟩ : ∃ z, z = J + 256 := ⟨_, rfl⟩
        have eK : (J : Int) + 256 = (K : Int) := by omega
        have HK := Lib.hid hK
        have hjm : j < m := by omega
        have HJM := Lib.hid hjm
        have hpl : (partS bs j).length = min 256 (bs.length - J) := by unfold partS; rw [List.length_take, List.length_drop, hJ]
        have hc5 := HC5.out
        have HOW := Lib.hid (ok_wr (L := w4.heap.size) (w := w5) (A := A5) (c := c5) HSB.out HC5.out hsl (j := j) (by omega))
        have hwo : wrOp bs j = ⟨4, nmT, [], (J : Int), partS bs j⟩ := by unfold wrOp; rw [hJ]
        rw [hwo] at HOW
        have HTK : Hid (crOp :: (List.range' 0 (j + 1)).map (wrOp bs) = (crOp :: (List.range' 0 j).map (wrOp bs)) ++ [⟨4, nmT, [], (J : Int), partS bs j⟩]) := Lib.hid (by
         rw [← hwo, List.range'_concat, List.map_append]; simp)
        obtain ⟨AP, hAP⟩ : ∃ z, z = partA A5 c5 (j * 256) := ⟨_, rfl⟩
        obtain ⟨cp, hcp⟩ : ∃ z, z = c5 - j * 256 := ⟨_, rfl⟩
        rw [← hAP, ← hcp] at HOW
        obtain ⟨pt, hpt⟩ : ∃ z, z = partS bs j := ⟨_, rfl⟩
        rw [← hpt] at HOW HTK hpl
        have ksl : ∀ (h : Nat), J ≤ h → h ≤ bs.length → h - J = pt.length → ∀ W : World, (Instr.slice 36 (.slice A5 bs.length c5) (some (.int .i64 (J : Int))) (some (.int .i64 (h : Int))) none).run Tryz.prog W = .ok (.slice AP pt.length cp) W := fun h h1 h2 h3 W => by
         have h4 := cut_lh Tryz.underlying36 sizeU8 A5 bs.length c5 J h (J : Int) (h : Int) rfl rfl h1 (by omega) W
         rw [h3] at h4
         rw [hAP, hcp, ← hJ]
         exact h4
        have hxl2 : xs.length ≤ 1000 := by have := HXL.out; omega
        have hzw := HBW.out.size
        by_cases hgt : bs.length < K
        ·have t1 : (bs.length : Int) < (K : Int) := by omega
         have k1 := ksl bs.length (by omega) (Nat.le_refl _) (by omega)
         clear ksl hgt hK hjm hpl hwo hAP hcp hpt hJ hlt hc5
         go_wp2_with (at_builtin; refine wpList_appendK1 (f := OpM.cells) rfl (.tmp 46) (.tmp 53) 92 rfl opTK ⟨⟨4, nmT, [], (J : Int), pt⟩, AP, cp⟩ rfl (ocells_one _) rfl HOWN.out rfl rfl rfl (by unfold maxLen; omega) (by omega) hzw ?_; intro v7 w7 hown7 hg7)
         go_roundw
         case rel => exact ⟨j + 1, HJM.out, by rw [show (j + 1) * 256 = K by have := HJ.out; have := HK.out; omega], xs ++ [⟨⟨4, nmT, [], (J : Int), pt⟩, AP, cp⟩], hown7, by rw [List.map_append, HXO.out, HTK.out]; rfl, fun y hy => by
          rcases List.mem_append.1 hy with hy | hy
          ·exact HOK.out y hy
          ·rw [List.mem_singleton] at hy; subst hy; exact HOW.out, (HBW.out.alloc HBW.out.size _).trans ((HOWN.out.alloc _).below_ (by rw [World.size_alloc]; exact Nat.le_succ_of_le HBW.out.size) hg7)⟩
         case measure => simp [intOf]; have := HJM.out; have := HJ.out; have := HK.out; omega
        ·have t1 : ¬ (bs.length : Int) < (K : Int) := by omega
         have k1 := ksl K (by omega) (by omega) (by omega)
         clear ksl hgt hK hjm hpl hwo hAP hcp hpt hJ hlt hc5
         go_wp2_with (at_builtin; refine wpList_appendK1 (f := OpM.cells) rfl (.tmp 46) (.tmp 53) 92 rfl opTK ⟨⟨4, nmT, [], (J : Int), pt⟩, AP, cp⟩ rfl (ocells_one _) rfl HOWN.out rfl rfl rfl (by unfold maxLen; omega) (by omega) hzw ?_; intro v7 w7 hown7 hg7)
         go_roundw
         case rel => exact ⟨j + 1, HJM.out, by rw [show (j + 1) * 256 = K by have := HJ.out; have := HK.out; omega], xs ++ [⟨⟨4, nmT, [], (J : Int), pt⟩, AP, cp⟩], hown7, by rw [List.map_append, HXO.out, HTK.out]; rfl, fun y hy => by
          rcases List.mem_append.1 hy with hy | hy
          ·exact HOK.out y hy
          ·rw [List.mem_singleton] at hy; subst hy; exact HOW.out, (HBW.out.alloc HBW.out.size _).trans ((HOWN.out.alloc _).below_ (by rw [World.size_alloc]; exact Nat.le_succ_of_le HBW.out.size) hg7)⟩
         case measure => simp [intOf]; have := HJM.out; have := HJ.out; have := HK.out; omega
        --KEEP
       ·have hjm : j = m := by omega
        have hlt1 : ¬ (J : Int) < (bs.length : Int) := by omega
        have HXO2 : Hid (xs.map OpM.o = crOp :: (List.range' 0 (partsN bs.length)).map (wrOp bs)) := Lib.hid (by rw [HXO.out, hjm, HM.out])
        obtain ⟨u, hu⟩ : ∃ u : Nat, x.x = (u : Int) := ⟨x.x.toNat, by have := HXX.out; omega⟩
        have hul : u ≤ 1099511627776 := by have := HXX.out; omega
        have hnu : nmS x.x = nmOf 115 u := by unfold nmS; rw [hu]; rfl
        obtain ⟨nb, hnb⟩ : ∃ z : ByteArray, z = ⟨(nmOf 115 u).toArray⟩ := ⟨_, rfl⟩
        have HNA := Lib.hid (fun W => RName8_any (w := W) u (by omega))
        rw [← hnb] at HNA
        have HNB : Hid (nb = ⟨(nmS x.x).toArray⟩) := Lib.hid (by rw [hnb, hnu])
        have hx1w : Blk wr (w.heap.size + 1) 38 #[.int .i64 x.x, .int .i64 x.t, .slice A' x.vs.length a', .slice C' x.ls.length c', .slice D' x.ds.length d'] := HY1.out.below (HB5.out.trans (HBW.out.mono HB5.out.size)) HY1.out.lt
        have x0 : wr.cell? ⟨w.heap.size + 1, 0, none⟩ = some (.int .i64 (u : Int)) := by have h9 := hx1w.cell 0; rw [hu] at h9; exact h9
        have hxl2 : xs.length ≤ 1000 := by have := HXL.out; omega
        have HXL2 := Lib.hid hxl2
        have HUU := Lib.hid hu
        clear hjm hJ hlt hnb hnu hx1w hu
        go_wp2_with fail
        (with_reducible refine (HNA.out _).mono ?_); rintro e w7 ⟨rfl, hb7⟩
        have HB7 : Hid (Below w5.heap.size w5 w7) := Lib.hid (HBW.out.trans (hb7.mono HBW.out.size))
        have HO7 := Lib.hid (HOWN.out.below hb7)
        have hy7 : Blk w7 w.heap.size 40 #[.slice A rs.length c, .bool s.down, .int .i64 s.fuse, .int .i64 y.x, .int .i64 y.t, .slice V y.vs.length a, .slice C y.ls.length b, .slice D y.ds.length d, .bool q] := HY0.out.below (HB5.out.trans (HB7.out.mono HB5.out.size)) HY0.out.lt
        have HY7 := Lib.hid hy7
        have hxl2 := HXL2.out
        have hz7 := HB7.out.size
        clear hb7 HOWN HBW hlt1 x0
        have hnb9 := HNB.out
        subst hnb9
        go_upto_region 15 with (at_builtin; refine wpList_appendKM (f := OpM.cells) rfl (.tmp 55) (.tmp 61) 92 rfl opTK [⟨syOp, none, 0⟩, ⟨rnOp (nmS x.x), none, 0⟩] ocells_len ocells_one rfl (HO7.out.alloc _) rfl (OwnK.slK ocells_len (OwnK.fresh (us := [(⟨syOp, none, 0⟩ : OpM), ⟨rnOp (nmS x.x), none, 0⟩]) ocells_len (by show 2 ≤ maxLen; unfold maxLen; decide) (Nat.le_refl _))).2 (by simp only [List.length_cons, List.length_nil]; unfold maxLen; omega) (by simp only [List.length_cons, List.length_nil]; omega) (by rw [World.size_alloc]; omega) ?_; intro v8 w8 ho8 hg8 hn8)
        have HL8 : Hid (Lst w4.heap.size w5 (fileO (nmS x.x) bs) v8 w8) := Lib.hid ⟨_, ho8, (by rw [List.map_append, HXO2.out]; rfl), fun y hy => by
         rcases List.mem_append.1 hy with hy | hy
         ·exact HOK.out y hy
         ·rcases List.mem_cons.1 hy with rfl | hy
          ·exact ok_sy
          ·rw [List.mem_singleton] at hy; subst hy; exact ok_rn, (HB7.out.alloc hz7 _).trans ((HO7.out.alloc _).below_ (by rw [World.size_alloc]; omega) hg8)⟩
        clear ho8 hg8 hn8 HO7 HXO HXO2 HOK HB7 hy7 HY7 hz7 hxl2
        have HB8 : Hid (Below w5.heap.size w5 w8) := Lib.hid (by obtain ⟨-, -, -, -, h9⟩ := HL8.out; exact h9)
        have hy8 : Blk w8 w.heap.size 40 #[.slice A rs.length c, .bool s.down, .int .i64 s.fuse, .int .i64 y.x, .int .i64 y.t, .slice V y.vs.length a, .slice C y.ls.length b, .slice D y.ds.length d, .bool q] := HY0.out.below (HB5.out.trans (HB8.out.mono HB5.out.size)) HY0.out.lt
        have s3 : w8.cell? ⟨w.heap.size, 3, none⟩ = some (.int .i64 y.x) := hy8.cell 3
        have s8 : w8.cell? ⟨w.heap.size, 8, none⟩ = some (.bool q) := hy8.cell 8
        clear hy8
        go_upto_if 64 with fail
        go_cut [7] (fun ov W => Lst w4.heap.size w5 (opsO l x) ov W)
        case first =>
         cases q with
         | false =>
           have hl0 : l = none := by have h9 := HLG.out; simpa using h9
           go_wp2_with fail
           go_meet
           have h9 := HL8.out
           rw [hl0]
           unfold opsO
           rw [← HBS.out]
           simpa using h9
         | true =>
           have hl1 : l = some y := by have h9 := HLG.out; simpa using h9
           have hry := right_x (HLY.out y hl1)
           obtain ⟨u2, hu2⟩ : ∃ u : Nat, y.x = (u : Int) := ⟨y.x.toNat, by omega⟩
           have HNA2 := Lib.hid (fun W => RName8_any (w := W) u2 (by omega))
           have hnm2 : nmS y.x = nmOf 115 u2 := by unfold nmS; rw [hu2]; rfl
           rw [← hnm2] at HNA2
           obtain ⟨xs2, hown2, hxo2, hok2, hbw2⟩ := HL8.out
           have HO2 := Lib.hid hown2
           have HXO2 := Lib.hid hxo2
           have HOK2 := Lib.hid hok2
           have HYX := Lib.hid hu2
           have HL1 := Lib.hid hl1
           have hxl3 : xs2.length ≤ 1000 := by
            rw [← List.length_map (f := OpM.o), hxo2]
            unfold fileO
            simp only [List.length_cons, List.length_append, List.length_map, List.length_range', List.length_nil]
            unfold partsN; omega
           have HXL3 := Lib.hid hxl3
           clear hown2 hxo2 hok2 hbw2 hnm2 hry hl1
           rw [hu2] at s3
           clear hu2
           go_wp2_with fail
           (with_reducible refine (HNA2.out _).mono ?_); rintro e w9 ⟨rfl, hb9⟩
           have HB9 : Hid (Below w5.heap.size w5 w9) := Lib.hid (HB8.out.trans (hb9.mono HB8.out.size))
           have HO9 := Lib.hid (HO2.out.below hb9)
           have hz9 := HB9.out.size
           have hxl3 := HXL3.out
           clear hb9 HO2 s3 s8
           go_wp2_with (at_builtin; refine wpList_appendK1 (f := OpM.cells) rfl (.tmp 65) (.tmp 71) 92 rfl opTK ⟨rmOp (nmS y.x), none, 0⟩ rfl (ocells_one _) rfl HO9.out rfl rfl rfl (by unfold maxLen; omega) (by omega) hz9 ?_; intro v7 w7 hown7 hg7)
           go_meet
           refine ⟨_, hown7, ?_, fun z hz => ?_, (HB9.out.alloc hz9 _).trans ((HO9.out.alloc _).below_ (by rw [World.size_alloc]; omega) hg7)⟩
           ·rw [List.map_append, HXO2.out, HL1.out]; unfold opsO; rw [← HBS.out]; rfl
           ·rcases List.mem_append.1 hz with hz | hz
            ·exact HOK2.out z hz
            ·rw [List.mem_singleton] at hz; subst hz; exact ok_rm
        case rest =>
         obtain ⟨xs9, hown9, hxo9, hok9, hbw9⟩ := hcut
         obtain ⟨A9, c9, rfl⟩ := hown9.form
         obtain ⟨os, hos⟩ : ∃ z, z = opsO l x := ⟨_, rfl⟩
         rw [← hos] at hxo9 HPS
         obtain ⟨wL, hwL⟩ : ∃ z, z = wc := ⟨_, rfl⟩
         subst hwL
         have HSK := Lib.hid (OwnK.slK ocells_len hown9).2
         have hlen9 : xs9.length = os.length := by rw [← hxo9, List.length_map]
         have HLEN := Lib.hid hlen9
         have HXO9 := Lib.hid hxo9
         have HOK9 := Lib.hid hok9
         have HBW9 := Lib.hid hbw9
         have hb49 : Below w4.heap.size w4 wL := HB5.out.trans (hbw9.mono HB5.out.size)
         have HL0 := Lib.hid (HY0.out.below hb49 HY0.out.lt)
         have HL1 := Lib.hid (HY1.out.below hb49 HY1.out.lt)
         have HL2 := Lib.hid (HY2.out.below hb49 HY2.out.lt)
         have HFL : Hid (Files (up G w) wL A rs) := Lib.hid ((HF4.out.below hb49).mono (fun g _ hg => .inl hg.1))
         have HLL := Lib.hid (HL4.out.below hb49)
         have HXL := Lib.hid (HX4.out.below hb49)
         have HBL : Hid (Below w.heap.size w wL) := Lib.hid (HBW4.out.trans (hb49.mono HBW4.out.size))
         have hzL : w.heap.size + 3 ≤ wL.heap.size := by have h1 := HZ4.out; have h2 := hb49.size; omega
         have HZL := Lib.hid hzL
         have hosl : os.length ≤ 100000 := by rw [hos]; exact opsO_len l (by rw [← HBS.out]; omega)
         clear hlen9 hown9 hxo9 hok9 hbw9 hb49 hzL HL8 HB8 HL4 HX4 HF4 HBW4 hos s3
         go_wp2_with fail
         clear s8
         go_loopw [10] (fun iv W => Q3Rel G s os y.x y.t V y.vs.length a C y.ls.length b D y.ds.length d q w wL iv W) (fun iv _ => os.length - (intOf iv).toNat)
         case atStart => exact ⟨0, s, A, c, rs, Nat.zero_le _, rfl, Lib.hid rfl, HIV.out, HL0.out, HFL.out, HS.out, Frm.refl _ _⟩
         case round =>
          obtain ⟨j, sk, A1, c1, rs1, hj, rfl, HRA, hiv, hbox, hfl, hmp, hfr⟩ := hrel
          have HIK := Lib.hid hiv
          have HBX1 := Lib.hid hbox
          have HFK := Lib.hid hfl
          have HMK := Lib.hid hmp
          have HFRK := Lib.hid hfr
          have HZW : Hid (wL.heap.size ≤ wr.heap.size) := Lib.hid hfr.size
          have HYR : Hid (Blk wr (w.heap.size + 1 + 1) 40 #[.slice none 0 0, .bool false, .int .i64 0, .int .i64 0, .int .i64 0, .slice none 0 0, .slice none 0 0, .slice none 0 0, .bool false]) := Lib.hid (HL2.out.frm hfr (by omega))
          have HYX : Hid (Blk wr (w.heap.size + 1) 38 #[.int .i64 x.x, .int .i64 x.t, .slice A' x.vs.length a', .slice C' x.ls.length c', .slice D' x.ds.length d']) := Lib.hid (HL1.out.frm hfr (by omega))
          clear hiv hfl hmp hfr
          by_cases hlt : j < os.length
          ·have HLT := Lib.hid hlt
           have hlt9 : j < xs9.length := by rw [HLEN.out]; exact hlt
           obtain ⟨y9, hy9⟩ : ∃ z, z = xs9[j] := ⟨_, rfl⟩
           have hok := HOK9.out xs9[j] (List.getElem_mem hlt9)
           rw [← hy9] at hok
           have hoj : os[j] = y9.o := by
            have h1 : (xs9.map OpM.o)[j]? = os[j]? := by rw [HXO9.out]
            rw [List.getElem?_map, List.getElem?_eq_getElem hlt9, List.getElem?_eq_getElem hlt, ← hy9] at h1
            injection h1 with h1
            exact h1.symm
           have hsn : runO s (os.take (j + 1)) = opD sk y9.o := by
            have h1 := runO_snoc hlt (by rw [HRA.out])
            rw [HRA.out] at h1
            rw [← hoj]; exact h1
           have HSN := Lib.hid hsn
           obtain ⟨bo, oo, rfl, -, hbo, hco⟩ := (HSK.out.frm HFRK.out (fun g hg e => by have h1 := HZ4.out; have h2 := HB5.out.size; have h3 : w5.heap.size ≤ g := hg; omega)).at hlt9
           rw [← hy9] at hco
           obtain ⟨⟨ok, oa, oz, on, ob⟩, OA, oc⟩ := y9
           obtain ⟨nb, hnb⟩ : ∃ z : ByteArray, z = ⟨oa.toArray⟩ := ⟨_, rfl⟩
           obtain ⟨zb, hzb⟩ : ∃ z : ByteArray, z = ⟨oz.toArray⟩ := ⟨_, rfl⟩
           have hc0 : wr.cell? ⟨bo, oo + j * 5, none⟩ = some (.int .i64 ok) := hco 0 (by decide)
           have hc1 : wr.cell? ⟨bo, oo + j * 5 + 1, none⟩ = some (.string nb) := by rw [hnb]; exact hco 1 (by decide)
           have hc2 : wr.cell? ⟨bo, oo + j * 5 + 2, none⟩ = some (.string zb) := by rw [hzb]; exact hco 2 (by decide)
           have hc3 : wr.cell? ⟨bo, oo + j * 5 + 3, none⟩ = some (.int .i64 on) := hco 3 (by decide)
           have hc4 : wr.cell? ⟨bo, oo + j * 5 + 4, none⟩ = some (.slice OA ob.length oc) := hco 4 (by decide)
           obtain ⟨res, hres⟩ : ∃ z, z = opD sk ⟨ok, oa, oz, on, ob⟩ := ⟨_, rfl⟩
           have HRES := Lib.hid hres
           have HDO : Hid (∀ W, Below wr.heap.size wr W → Calls Tryz.prog 35 #[.agg #[.slice A1 rs1.length c1, .bool sk.down, .int .i64 sk.fuse, .int .i64 y.x, .int .i64 y.t, .slice V y.vs.length a, .slice C y.ls.length b, .slice D y.ds.length d, .bool q], .agg #[.int .i64 ok, .string nb, .string zb, .int .i64 on, .slice OA ob.length oc]] W (Do8P (up G w) res y.x y.t V y.vs.length a C y.ls.length b D y.ds.length d q W)) := Lib.hid fun W hW => by
            have hsb : Sl fB W OA ob := hok.b W (((Frm.below HBW9.out).trans (HFRK.out.mono (fun k _ e => by have := HZ4.out; omega))).trans (Frm.below hW))
            have h1 := do8_any A1 c1 rs1 (HFK.out.below hW) sk HMK.out (by rw [← List.length_map (f := RFile.file), HMK.out]; exact HIK.out.count) HIK.out.fuse HIK.out.sorted y.x y.t V y.vs.length a C y.ls.length b D y.ds.length d q nb zb
             (by rw [hnb]; show oa.toArray.size ≤ maxLen; rw [List.size_toArray]; have h9 : oa.length ≤ 16 := hok.a; unfold maxLen; omega) (by rw [hzb]; show oz.toArray.size ≤ maxLen; rw [List.size_toArray]; have h9 : oz.length ≤ 16 := hok.z; unfold maxLen; omega) on hok.n OA oc ob hsb ok hok.lo hok.hi
            rw [hnb, hzb, sname_arr, sname_arr] at h1
            rw [hnb, hzb, HRES.out]
            exact h1
           obtain ⟨⟨fs, dw, fu⟩, ke⟩ := res
           have HPK : Hid (∀ W, Below wr.heap.size wr W → W.cell? ⟨w.heap.size, 0, none⟩ = some (.slice A1 rs1.length c1) ∧ W.cell? ⟨w.heap.size, 1, none⟩ = some (.bool sk.down) ∧ W.cell? ⟨w.heap.size, 2, none⟩ = some (.int .i64 sk.fuse) ∧ W.cell? ⟨w.heap.size, 3, none⟩ = some (.int .i64 y.x) ∧ W.cell? ⟨w.heap.size, 4, none⟩ = some (.int .i64 y.t) ∧ W.cell? ⟨w.heap.size, 5, none⟩ = some (.slice V y.vs.length a) ∧ W.cell? ⟨w.heap.size, 6, none⟩ = some (.slice C y.ls.length b) ∧ W.cell? ⟨w.heap.size, 7, none⟩ = some (.slice D y.ds.length d) ∧ W.cell? ⟨w.heap.size, 8, none⟩ = some (.bool q) ∧
            W.cell? ⟨bo, oo + j * 5, none⟩ = some (.int .i64 ok) ∧ W.cell? ⟨bo, oo + j * 5 + 1, none⟩ = some (.string nb) ∧ W.cell? ⟨bo, oo + j * 5 + 2, none⟩ = some (.string zb) ∧ W.cell? ⟨bo, oo + j * 5 + 3, none⟩ = some (.int .i64 on) ∧ W.cell? ⟨bo, oo + j * 5 + 4, none⟩ = some (.slice OA ob.length oc)) := Lib.hid fun W hW => by
            have h1 := HBX1.out.below hW HBX1.out.lt
            exact ⟨h1.cell 0, h1.cell 1, h1.cell 2, h1.cell 3, h1.cell 4, h1.cell 5, h1.cell 6, h1.cell 7, h1.cell 8, (hW.cell (p := ⟨bo, oo + j * 5, none⟩) hbo).trans hc0, (hW.cell (p := ⟨bo, oo + j * 5 + 1, none⟩) hbo).trans hc1, (hW.cell (p := ⟨bo, oo + j * 5 + 2, none⟩) hbo).trans hc2, (hW.cell (p := ⟨bo, oo + j * 5 + 3, none⟩) hbo).trans hc3, (hW.cell (p := ⟨bo, oo + j * 5 + 4, none⟩) hbo).trans hc4⟩
           have HBX : Hid (Below wr.heap.size wr wr.drew) := Lib.hid (Below.refl wr.heap.size wr).drew
           have hj0 : (0 : Int) ≤ (j : Int) := by omega
           have hj1 : (j : Int) < (xs9.length : Int) := by omega
           clear hlt hlt9 hco hc0 hc1 hc2 hc3 hc4 hnb hzb hres hbox HRA hok hoj hy9 hsn
           go_upto_region 20 with fail
           go_cut [11, 12] (fun s15 s16 wx => O3Cut (up G w) (⟨fs, dw, fu⟩, ke) y.x y.t V y.vs.length a C y.ls.length b D y.ds.length d q wr s15 s16 wx)
           case first =>
            refine AnyZ.start (S := (fun W => W.cell? ⟨w.heap.size, 0, none⟩ = some (.slice A1 rs1.length c1) ∧ W.cell? ⟨w.heap.size, 1, none⟩ = some (.bool sk.down) ∧ W.cell? ⟨w.heap.size, 2, none⟩ = some (.int .i64 sk.fuse) ∧ W.cell? ⟨w.heap.size, 3, none⟩ = some (.int .i64 y.x) ∧ W.cell? ⟨w.heap.size, 4, none⟩ = some (.int .i64 y.t) ∧ W.cell? ⟨w.heap.size, 5, none⟩ = some (.slice V y.vs.length a) ∧ W.cell? ⟨w.heap.size, 6, none⟩ = some (.slice C y.ls.length b) ∧ W.cell? ⟨w.heap.size, 7, none⟩ = some (.slice D y.ds.length d) ∧ W.cell? ⟨w.heap.size, 8, none⟩ = some (.bool q) ∧ W.cell? ⟨bo, oo + j * 5, none⟩ = some (.int .i64 ok) ∧ W.cell? ⟨bo, oo + j * 5 + 1, none⟩ = some (.string nb) ∧ W.cell? ⟨bo, oo + j * 5 + 2, none⟩ = some (.string zb) ∧ W.cell? ⟨bo, oo + j * 5 + 3, none⟩ = some (.int .i64 on) ∧ W.cell? ⟨bo, oo + j * 5 + 4, none⟩ = some (.slice OA ob.length oc))) (z := 1012) (by kernel_rfl) ?_ (fun hHeld => ?_)
            ·exact HPK.out _ HBX.out
            refine AnyZ.take (i := 0) (v := ?_) rfl (by kernel_rfl) (by kernel_rfl) (by kernel_rfl) (by kernel_rfl) (fun _ _ _ h => h) (Or.inl ⟨by kernel_rfl, ?_⟩) (by assumption) ?_
            rotate_left
            ·intro w hSw; (try dsimp only at hSw); go_simp; try with_reducible rfl
            try simp only [Act.put, List.getElem_toArray, List.getElem_cons_zero, List.setIfInBounds_toArray, List.set_cons_zero, List.set_cons_succ]
            refine AnyZ.take (i := 1) (v := ?_) rfl (by kernel_rfl) (by kernel_rfl) (by kernel_rfl) (by kernel_rfl) (fun _ _ _ h => h) (Or.inl ⟨by kernel_rfl, ?_⟩) (by assumption) ?_
            rotate_left
            ·intro w hSw; (try dsimp only at hSw); go_simp; try with_reducible rfl
            try simp only [Act.put, List.getElem_toArray, List.getElem_cons_succ, List.getElem_cons_zero, List.setIfInBounds_toArray, List.set_cons_zero, List.set_cons_succ]
            refine AnyZ.take (i := 2) (v := ?_) rfl (by kernel_rfl) (by kernel_rfl) (by kernel_rfl) (by kernel_rfl) (fun _ _ _ h => h) (Or.inl ⟨by kernel_rfl, ?_⟩) (by assumption) ?_
            rotate_left
            ·intro w hSw; (try dsimp only at hSw); go_simp; try with_reducible rfl
            try simp only [Act.put, List.getElem_toArray, List.getElem_cons_succ, List.getElem_cons_zero, List.setIfInBounds_toArray, List.set_cons_zero, List.set_cons_succ]
            refine AnyZ.take (i := 3) (v := ?_) rfl (by kernel_rfl) (by kernel_rfl) (by kernel_rfl) (by kernel_rfl) (fun _ _ _ h => h) (Or.inl ⟨by kernel_rfl, ?_⟩) (by assumption) ?_
            rotate_left
            ·intro w hSw; (try dsimp only at hSw); go_simp; try with_reducible rfl
            try simp only [Act.put, List.getElem_toArray, List.getElem_cons_succ, List.getElem_cons_zero, List.setIfInBounds_toArray, List.set_cons_zero, List.set_cons_succ]
            refine AnyZ.take (i := 4) (v := ?_) rfl (by kernel_rfl) (by kernel_rfl) (by kernel_rfl) (by kernel_rfl) (fun _ _ _ h => h) (Or.inl ⟨by kernel_rfl, ?_⟩) (by assumption) ?_
            rotate_left
            ·intro w hSw; (try dsimp only at hSw); go_simp; try with_reducible rfl
            try simp only [Act.put, List.getElem_toArray, List.getElem_cons_succ, List.getElem_cons_zero, List.setIfInBounds_toArray, List.set_cons_zero, List.set_cons_succ]
            refine AnyZ.ready (rs := [5, 9]) (by kernel_rfl) (by simp) ?_
            refine AllZ.cons rfl (fun K hK => ?_) (AllZ.cons rfl (fun K hK => ?_) AllZ.nil)
            ·go_simp
             (with_reducible refine (HDO.out _ HBX.out).mono ?_); rintro e wj ⟨A2, c2, rs2, rfl, hf2, hm2, hbj⟩
             have HF2 : Hid (Files (up (up G w) wr) wj A2 rs2) := Lib.hid (hf2.mono (fun g _ hg => hg.elim .inl (fun h => .inr (Nat.le_trans HBX.out.size h))))
             have HM2 := Lib.hid hm2
             try (replace HNB := Lib.hid (HNB.out.below hbj HNB.out.lt)); have n0 : wj.cell? ⟨wr.heap.size, 0, none⟩ = some (.slice none 0 0) := HNB.out.cell 0; have n1 : wj.cell? ⟨wr.heap.size, 1, none⟩ = some (.bool false) := HNB.out.cell 1; have n2 : wj.cell? ⟨wr.heap.size, 2, none⟩ = some (.int .i64 0) := HNB.out.cell 2; have n3 : wj.cell? ⟨wr.heap.size, 3, none⟩ = some (.int .i64 0) := HNB.out.cell 3; have n4 : wj.cell? ⟨wr.heap.size, 4, none⟩ = some (.int .i64 0) := HNB.out.cell 4; have n5 : wj.cell? ⟨wr.heap.size, 5, none⟩ = some (.slice none 0 0) := HNB.out.cell 5; have n6 : wj.cell? ⟨wr.heap.size, 6, none⟩ = some (.slice none 0 0) := HNB.out.cell 6; have n7 : wj.cell? ⟨wr.heap.size, 7, none⟩ = some (.slice none 0 0) := HNB.out.cell 7; have n8 : wj.cell? ⟨wr.heap.size, 8, none⟩ = some (.bool false) := HNB.out.cell 8; have nf0 := HNB.out.free 0; have nf1 := HNB.out.free 1; have nf2 := HNB.out.free 2; have nf3 := HNB.out.free 3; have nf4 := HNB.out.free 4; have nf5 := HNB.out.free 5; have nf6 := HNB.out.free 6; have nf7 := HNB.out.free 7; have nf8 := HNB.out.free 8
             replace HBX := Lib.hid (HBX.out.trans (hbj.mono HBX.out.size))
             clear hf2 hm2 hbj
             refine hK.out _ _ ?_ (fun hHeld => ?_)
             ·exact HPK.out _ HBX.out
             clear hK K
             try simp only []
             refine AnyZ.take (i := 6) (v := ?_) rfl (by kernel_rfl) (by kernel_rfl) (by kernel_rfl) (by kernel_rfl) (fun _ _ _ h => h) (Or.inl ⟨by kernel_rfl, ?_⟩) (by assumption) ?_
             rotate_left
             ·intro w hSw; (try dsimp only at hSw); go_simp; try with_reducible rfl
             try simp only [Act.put, List.getElem_toArray, List.getElem_cons_succ, List.getElem_cons_zero, List.setIfInBounds_toArray, List.set_cons_zero, List.set_cons_succ]
             refine AnyZ.take (i := 7) (v := ?_) rfl (by kernel_rfl) (by kernel_rfl) (by kernel_rfl) (by kernel_rfl) (fun _ _ _ h => h) (Or.inl ⟨by kernel_rfl, ?_⟩) (by assumption) ?_
             rotate_left
             ·intro w hSw; (try dsimp only at hSw); go_simp; try with_reducible rfl
             try simp only [Act.put, List.getElem_toArray, List.getElem_cons_succ, List.getElem_cons_zero, List.setIfInBounds_toArray, List.set_cons_zero, List.set_cons_succ]
             refine AnyZ.take (i := 8) (v := ?_) rfl (by kernel_rfl) (by kernel_rfl) (by kernel_rfl) (by kernel_rfl) (fun _ _ _ h => h) (Or.inl ⟨by kernel_rfl, ?_⟩) (by assumption) ?_
             rotate_left
             ·intro w hSw; (try dsimp only at hSw); go_simp; try with_reducible rfl
             try simp only [Act.put, List.getElem_toArray, List.getElem_cons_succ, List.getElem_cons_zero, List.setIfInBounds_toArray, List.set_cons_zero, List.set_cons_succ]
             refine AnyZ.ready (rs := [9]) (by kernel_rfl) (by simp) ?_
             refine AllZ.cons rfl (fun K hK => ?_) AllZ.nil
             go_simp
             have HNG := Lib.hid HBX.out.size
             have HNB := Lib.hid (newBx9 HBX.out 40 #[.slice none 0 0, .bool false, .int .i64 0, .int .i64 0, .int .i64 0, .slice none 0 0, .slice none 0 0, .slice none 0 0, .bool false])
             try have HBXF := Lib.hid (HBX.out.alloc HBX.out.size (.cells #[.slice A2 rs2.length c2, .bool dw, .int .i64 fu, .int .i64 y.x, .int .i64 y.t, .slice V y.vs.length a, .slice C y.ls.length b, .slice D y.ds.length d, .bool q] 40))
             try have HNBF := Lib.hid (newBx9 HBX.out 40 #[.slice A2 rs2.length c2, .bool dw, .int .i64 fu, .int .i64 y.x, .int .i64 y.t, .slice V y.vs.length a, .slice C y.ls.length b, .slice D y.ds.length d, .bool q])
             try have HF2F := Lib.hid (HF2.out.below ((Below.refl _ _).alloc (Nat.le_refl _) (.cells #[.slice A2 rs2.length c2, .bool dw, .int .i64 fu, .int .i64 y.x, .int .i64 y.t, .slice V y.vs.length a, .slice C y.ls.length b, .slice D y.ds.length d, .bool q] 40)))
             try replace HF2 := Lib.hid (HF2.out.below ((Below.refl _ _).alloc (Nat.le_refl _) (.cells #[.slice none 0 0, .bool false, .int .i64 0, .int .i64 0, .int .i64 0, .slice none 0 0, .slice none 0 0, .slice none 0 0, .bool false] 40)))
             replace HBX := Lib.hid (HBX.out.alloc HBX.out.size (.cells #[.slice none 0 0, .bool false, .int .i64 0, .int .i64 0, .int .i64 0, .slice none 0 0, .slice none 0 0, .slice none 0 0, .bool false] 40))
             try change Hid (Below wr.heap.size wr (wr.alloc (.cells #[.slice none 0 0, .bool false, .int .i64 0, .int .i64 0, .int .i64 0, .slice none 0 0, .slice none 0 0, .slice none 0 0, .bool false] 40)).drew) at HBX
             try change Hid (Blk (wr.alloc (.cells #[.slice none 0 0, .bool false, .int .i64 0, .int .i64 0, .int .i64 0, .slice none 0 0, .slice none 0 0, .slice none 0 0, .bool false] 40)).drew wr.heap.size 40 #[.slice none 0 0, .bool false, .int .i64 0, .int .i64 0, .int .i64 0, .slice none 0 0, .slice none 0 0, .slice none 0 0, .bool false]) at HNB
             refine hK.out _ _ ?_ (fun hHeld => ?_)
             ·exact HPK.out _ HBX.out
             clear hK K
             try simp only [Act.put, List.getElem_toArray, List.getElem_cons_succ, List.getElem_cons_zero, List.setIfInBounds_toArray, List.set_cons_zero, List.set_cons_succ]
             refine AnyZ.ready (rs := [10]) (by kernel_rfl) (by simp) ?_
             refine AllZ.cons rfl (fun K hK => ?_) AllZ.nil
             go_simp
             first
              | (replace HBX := HBXF; replace HF2 := HF2F; replace HNB := HNBF; clear HBXF HF2F HNBF)
              | (replace HBX := Lib.hid (Below.put9 HNG.out HBX.out (.slice A2 rs2.length c2) (.bool dw) (.int .i64 fu) (.int .i64 y.x) (.int .i64 y.t) (.slice V y.vs.length a) (.slice C y.ls.length b) (.slice D y.ds.length d) (.bool q)); replace HF2 := Lib.hid (Files.put9 (by decide) (by decide) HF2.out HNB.out (.slice A2 rs2.length c2) (.bool dw) (.int .i64 fu) (.int .i64 y.x) (.int .i64 y.t) (.slice V y.vs.length a) (.slice C y.ls.length b) (.slice D y.ds.length d) (.bool q)); replace HNB := Lib.hid (Blk.put9 HNB.out (.slice A2 rs2.length c2) (.bool dw) (.int .i64 fu) (.int .i64 y.x) (.int .i64 y.t) (.slice V y.vs.length a) (.slice C y.ls.length b) (.slice D y.ds.length d) (.bool q)))
             refine hK.out _ _ ?_ (fun hHeld => ?_)
             ·exact HPK.out _ HBX.out
             clear hK K
             try simp only [Act.put, List.getElem_toArray, List.getElem_cons_succ, List.getElem_cons_zero, List.setIfInBounds_toArray, List.set_cons_zero, List.set_cons_succ]
             refine AnyZ.take (i := 11) (v := ?_) rfl (by kernel_rfl) (by kernel_rfl) (by kernel_rfl) (by kernel_rfl) (fun _ _ _ h => h) (Or.inl ⟨by kernel_rfl, ?_⟩) (by assumption) ?_
             rotate_left
             ·intro w hSw; (try dsimp only at hSw); go_simp; try with_reducible rfl
             try simp only [Act.put, List.getElem_toArray, List.getElem_cons_succ, List.getElem_cons_zero, List.setIfInBounds_toArray, List.set_cons_zero, List.set_cons_succ]
             refine AnyZ.done (by kernel_rfl) ?_ _
             go_wp2_with fail
             go_meet
             exact ⟨_, A2, c2, rs2, rfl, rfl, HNG.out, HNB.out, HF2.out, HM2.out, HBX.out⟩
            ·go_simp
             have HNG := Lib.hid HBX.out.size
             have HNB := Lib.hid (newBx9 HBX.out 40 #[.slice none 0 0, .bool false, .int .i64 0, .int .i64 0, .int .i64 0, .slice none 0 0, .slice none 0 0, .slice none 0 0, .bool false])
             try have HBXF := Lib.hid (HBX.out.alloc HBX.out.size (.cells #[.slice A2 rs2.length c2, .bool dw, .int .i64 fu, .int .i64 y.x, .int .i64 y.t, .slice V y.vs.length a, .slice C y.ls.length b, .slice D y.ds.length d, .bool q] 40))
             try have HNBF := Lib.hid (newBx9 HBX.out 40 #[.slice A2 rs2.length c2, .bool dw, .int .i64 fu, .int .i64 y.x, .int .i64 y.t, .slice V y.vs.length a, .slice C y.ls.length b, .slice D y.ds.length d, .bool q])
             try have HF2F := Lib.hid (HF2.out.below ((Below.refl _ _).alloc (Nat.le_refl _) (.cells #[.slice A2 rs2.length c2, .bool dw, .int .i64 fu, .int .i64 y.x, .int .i64 y.t, .slice V y.vs.length a, .slice C y.ls.length b, .slice D y.ds.length d, .bool q] 40)))
             try replace HF2 := Lib.hid (HF2.out.below ((Below.refl _ _).alloc (Nat.le_refl _) (.cells #[.slice none 0 0, .bool false, .int .i64 0, .int .i64 0, .int .i64 0, .slice none 0 0, .slice none 0 0, .slice none 0 0, .bool false] 40)))
             replace HBX := Lib.hid (HBX.out.alloc HBX.out.size (.cells #[.slice none 0 0, .bool false, .int .i64 0, .int .i64 0, .int .i64 0, .slice none 0 0, .slice none 0 0, .slice none 0 0, .bool false] 40))
             try change Hid (Below wr.heap.size wr (wr.alloc (.cells #[.slice none 0 0, .bool false, .int .i64 0, .int .i64 0, .int .i64 0, .slice none 0 0, .slice none 0 0, .slice none 0 0, .bool false] 40)).drew) at HBX
             try change Hid (Blk (wr.alloc (.cells #[.slice none 0 0, .bool false, .int .i64 0, .int .i64 0, .int .i64 0, .slice none 0 0, .slice none 0 0, .slice none 0 0, .bool false] 40)).drew wr.heap.size 40 #[.slice none 0 0, .bool false, .int .i64 0, .int .i64 0, .int .i64 0, .slice none 0 0, .slice none 0 0, .slice none 0 0, .bool false]) at HNB
             refine hK.out _ _ ?_ (fun hHeld => ?_)
             ·exact HPK.out _ HBX.out
             clear hK K
             try simp only [Act.put, List.getElem_toArray, List.getElem_cons_succ, List.getElem_cons_zero, List.setIfInBounds_toArray, List.set_cons_zero, List.set_cons_succ]
             refine AnyZ.ready (rs := [5]) (by kernel_rfl) (by simp) ?_
             refine AllZ.cons rfl (fun K hK => ?_) AllZ.nil
             go_simp
             (with_reducible refine (HDO.out _ HBX.out).mono ?_); rintro e wj ⟨A2, c2, rs2, rfl, hf2, hm2, hbj⟩
             have HF2 : Hid (Files (up (up G w) wr) wj A2 rs2) := Lib.hid (hf2.mono (fun g _ hg => hg.elim .inl (fun h => .inr (Nat.le_trans HBX.out.size h))))
             have HM2 := Lib.hid hm2
             try (replace HNB := Lib.hid (HNB.out.below hbj HNB.out.lt)); have n0 : wj.cell? ⟨wr.heap.size, 0, none⟩ = some (.slice none 0 0) := HNB.out.cell 0; have n1 : wj.cell? ⟨wr.heap.size, 1, none⟩ = some (.bool false) := HNB.out.cell 1; have n2 : wj.cell? ⟨wr.heap.size, 2, none⟩ = some (.int .i64 0) := HNB.out.cell 2; have n3 : wj.cell? ⟨wr.heap.size, 3, none⟩ = some (.int .i64 0) := HNB.out.cell 3; have n4 : wj.cell? ⟨wr.heap.size, 4, none⟩ = some (.int .i64 0) := HNB.out.cell 4; have n5 : wj.cell? ⟨wr.heap.size, 5, none⟩ = some (.slice none 0 0) := HNB.out.cell 5; have n6 : wj.cell? ⟨wr.heap.size, 6, none⟩ = some (.slice none 0 0) := HNB.out.cell 6; have n7 : wj.cell? ⟨wr.heap.size, 7, none⟩ = some (.slice none 0 0) := HNB.out.cell 7; have n8 : wj.cell? ⟨wr.heap.size, 8, none⟩ = some (.bool false) := HNB.out.cell 8; have nf0 := HNB.out.free 0; have nf1 := HNB.out.free 1; have nf2 := HNB.out.free 2; have nf3 := HNB.out.free 3; have nf4 := HNB.out.free 4; have nf5 := HNB.out.free 5; have nf6 := HNB.out.free 6; have nf7 := HNB.out.free 7; have nf8 := HNB.out.free 8
             replace HBX := Lib.hid (HBX.out.trans (hbj.mono HBX.out.size))
             clear hf2 hm2 hbj
             refine hK.out _ _ ?_ (fun hHeld => ?_)
             ·exact HPK.out _ HBX.out
             clear hK K
             try simp only []
             refine AnyZ.take (i := 6) (v := ?_) rfl (by kernel_rfl) (by kernel_rfl) (by kernel_rfl) (by kernel_rfl) (fun _ _ _ h => h) (Or.inl ⟨by kernel_rfl, ?_⟩) (by assumption) ?_
             rotate_left
             ·intro w hSw; (try dsimp only at hSw); go_simp; try with_reducible rfl
             try simp only [Act.put, List.getElem_toArray, List.getElem_cons_succ, List.getElem_cons_zero, List.setIfInBounds_toArray, List.set_cons_zero, List.set_cons_succ]
             refine AnyZ.take (i := 7) (v := ?_) rfl (by kernel_rfl) (by kernel_rfl) (by kernel_rfl) (by kernel_rfl) (fun _ _ _ h => h) (Or.inl ⟨by kernel_rfl, ?_⟩) (by assumption) ?_
             rotate_left
             ·intro w hSw; (try dsimp only at hSw); go_simp; try with_reducible rfl
             try simp only [Act.put, List.getElem_toArray, List.getElem_cons_succ, List.getElem_cons_zero, List.setIfInBounds_toArray, List.set_cons_zero, List.set_cons_succ]
             refine AnyZ.take (i := 8) (v := ?_) rfl (by kernel_rfl) (by kernel_rfl) (by kernel_rfl) (by kernel_rfl) (fun _ _ _ h => h) (Or.inl ⟨by kernel_rfl, ?_⟩) (by assumption) ?_
             rotate_left
             ·intro w hSw; (try dsimp only at hSw); go_simp; try with_reducible rfl
             try simp only [Act.put, List.getElem_toArray, List.getElem_cons_succ, List.getElem_cons_zero, List.setIfInBounds_toArray, List.set_cons_zero, List.set_cons_succ]
             refine AnyZ.ready (rs := [10]) (by kernel_rfl) (by simp) ?_
             refine AllZ.cons rfl (fun K hK => ?_) AllZ.nil
             go_simp
             first
              | (replace HBX := HBXF; replace HF2 := HF2F; replace HNB := HNBF; clear HBXF HF2F HNBF)
              | (replace HBX := Lib.hid (Below.put9 HNG.out HBX.out (.slice A2 rs2.length c2) (.bool dw) (.int .i64 fu) (.int .i64 y.x) (.int .i64 y.t) (.slice V y.vs.length a) (.slice C y.ls.length b) (.slice D y.ds.length d) (.bool q)); replace HF2 := Lib.hid (Files.put9 (by decide) (by decide) HF2.out HNB.out (.slice A2 rs2.length c2) (.bool dw) (.int .i64 fu) (.int .i64 y.x) (.int .i64 y.t) (.slice V y.vs.length a) (.slice C y.ls.length b) (.slice D y.ds.length d) (.bool q)); replace HNB := Lib.hid (Blk.put9 HNB.out (.slice A2 rs2.length c2) (.bool dw) (.int .i64 fu) (.int .i64 y.x) (.int .i64 y.t) (.slice V y.vs.length a) (.slice C y.ls.length b) (.slice D y.ds.length d) (.bool q)))
             refine hK.out _ _ ?_ (fun hHeld => ?_)
             ·exact HPK.out _ HBX.out
             clear hK K
             try simp only [Act.put, List.getElem_toArray, List.getElem_cons_succ, List.getElem_cons_zero, List.setIfInBounds_toArray, List.set_cons_zero, List.set_cons_succ]
             refine AnyZ.take (i := 11) (v := ?_) rfl (by kernel_rfl) (by kernel_rfl) (by kernel_rfl) (by kernel_rfl) (fun _ _ _ h => h) (Or.inl ⟨by kernel_rfl, ?_⟩) (by assumption) ?_
             rotate_left
             ·intro w hSw; (try dsimp only at hSw); go_simp; try with_reducible rfl
             try simp only [Act.put, List.getElem_toArray, List.getElem_cons_succ, List.getElem_cons_zero, List.setIfInBounds_toArray, List.set_cons_zero, List.set_cons_succ]
             refine AnyZ.done (by kernel_rfl) ?_ _
             go_wp2_with fail
             go_meet
             exact ⟨_, A2, c2, rs2, rfl, rfl, HNG.out, HNB.out, HF2.out, HM2.out, HBX.out⟩
           case rest =>
            obtain ⟨N, A2, c2, rs2, rfl, rfl, hN, hbk, hf2, hm2, hb2⟩ := hcut
            have HBK := Lib.hid hbk
            have HF2 := Lib.hid hf2
            have HM2 := Lib.hid hm2
            have HB2 := Lib.hid hb2
            have HBX2 := Lib.hid (HBX1.out.below hb2 HBX1.out.lt)
            have e0 : wc.cell? ⟨N, 0, none⟩ = some (.slice A2 rs2.length c2) := HBK.out.cell 0
            have e1 : wc.cell? ⟨N, 1, none⟩ = some (.bool dw) := HBK.out.cell 1
            have e2 : wc.cell? ⟨N, 2, none⟩ = some (.int .i64 fu) := HBK.out.cell 2
            have e3 : wc.cell? ⟨N, 3, none⟩ = some (.int .i64 y.x) := HBK.out.cell 3
            have e4 : wc.cell? ⟨N, 4, none⟩ = some (.int .i64 y.t) := HBK.out.cell 4
            have e5 : wc.cell? ⟨N, 5, none⟩ = some (.slice V y.vs.length a) := HBK.out.cell 5
            have e6 : wc.cell? ⟨N, 6, none⟩ = some (.slice C y.ls.length b) := HBK.out.cell 6
            have e7 : wc.cell? ⟨N, 7, none⟩ = some (.slice D y.ds.length d) := HBK.out.cell 7
            have e8 : wc.cell? ⟨N, 8, none⟩ = some (.bool q) := HBK.out.cell 8
            have r0 : wc.cell? ⟨w.heap.size, 0, none⟩ = some (.slice A1 rs1.length c1) := HBX2.out.cell 0
            have r1 : wc.cell? ⟨w.heap.size, 1, none⟩ = some (.bool sk.down) := HBX2.out.cell 1
            have r2 : wc.cell? ⟨w.heap.size, 2, none⟩ = some (.int .i64 sk.fuse) := HBX2.out.cell 2
            have r3 : wc.cell? ⟨w.heap.size, 3, none⟩ = some (.int .i64 y.x) := HBX2.out.cell 3
            have r4 : wc.cell? ⟨w.heap.size, 4, none⟩ = some (.int .i64 y.t) := HBX2.out.cell 4
            have r5 : wc.cell? ⟨w.heap.size, 5, none⟩ = some (.slice V y.vs.length a) := HBX2.out.cell 5
            have r6 : wc.cell? ⟨w.heap.size, 6, none⟩ = some (.slice C y.ls.length b) := HBX2.out.cell 6
            have r7 : wc.cell? ⟨w.heap.size, 7, none⟩ = some (.slice D y.ds.length d) := HBX2.out.cell 7
            have r8 : wc.cell? ⟨w.heap.size, 8, none⟩ = some (.bool q) := HBX2.out.cell 8
            have g0 := HBX2.out.free 0
            have g1 := HBX2.out.free 1
            have g2 := HBX2.out.free 2
            have g3 := HBX2.out.free 3
            have g4 := HBX2.out.free 4
            have g5 := HBX2.out.free 5
            have g6 := HBX2.out.free 6
            have g7 := HBX2.out.free 7
            have g8 := HBX2.out.free 8
            clear hbk hf2 hm2 hb2 hN HBX HPK HDO
            go_upto_region 22 with fail
            obtain ⟨W, hW⟩ : ∃ z, z = (((((((((wc.setCell ⟨w.heap.size, 0, none⟩ (.slice A2 rs2.length c2)).setCell ⟨w.heap.size, 1, none⟩ (.bool dw)).setCell ⟨w.heap.size, 2, none⟩ (.int .i64 fu)).setCell ⟨w.heap.size, 3, none⟩ (.int .i64 y.x)).setCell ⟨w.heap.size, 4, none⟩ (.int .i64 y.t)).setCell ⟨w.heap.size, 5, none⟩ (.slice V y.vs.length a)).setCell ⟨w.heap.size, 6, none⟩ (.slice C y.ls.length b)).setCell ⟨w.heap.size, 7, none⟩ (.slice D y.ds.length d)).setCell ⟨w.heap.size, 8, none⟩ (.bool q)) := ⟨_, rfl⟩
            rw [← hW]
            have HBW2 : Hid (Blk W w.heap.size 40 #[.slice A2 rs2.length c2, .bool dw, .int .i64 fu, .int .i64 y.x, .int .i64 y.t, .slice V y.vs.length a, .slice C y.ls.length b, .slice D y.ds.length d, .bool q]) := Lib.hid (by rw [hW]; exact Blk.put9 HBX2.out _ _ _ _ _ _ _ _ _)
            have hset : Frm (fun g => g = w.heap.size) wc W := by
             rw [hW]; exact (Frm.refl (fun g => g = w.heap.size) wc).put9 _ _ _ _ _ _ _ _ _
            have HFW : Hid (Files (up G w) W A2 rs2) := Lib.hid (by rw [hW]; exact (Files.put9 (by decide) (by decide) HF2.out HBX2.out _ _ _ _ _ _ _ _ _).mono (fun g _ hg => hg.elim id (fun h => .inr (by have h1 := HZW.out; have h2 := HBL.out.size; omega))))
            have HFRW : Hid (Frm (fun g => g = w.heap.size) wL W) := Lib.hid ((HFRK.out.trans (Frm.below HB2.out)).trans hset)
            have HYW : Hid (Blk W (w.heap.size + 1 + 1) 40 #[.slice none 0 0, .bool false, .int .i64 0, .int .i64 0, .int .i64 0, .slice none 0 0, .slice none 0 0, .slice none 0 0, .bool false]) := Lib.hid ((HYR.out.below HB2.out HYR.out.lt).frm hset (by omega))
            have HIW : Hid (InvS ⟨fs, dw, fu⟩) := Lib.hid (by have h1 := inv_opD (o := ⟨ok, oa, oz, on, ob⟩) HIK.out; rw [← HRES.out] at h1; exact h1)
            have HSN2 : Hid (runO s (os.take (j + 1)) = (⟨fs, dw, fu⟩, ke)) := Lib.hid (by rw [HSN.out]; exact HRES.out.symm)
            clear hW hset HSN e0 e1 e2 e3 e4 e5 e6 e7 e8 r0 r1 r2 r3 r4 r5 r6 r7 r8 g0 g1 g2 g3 g4 g5 g6 g7 g8
            by_cases hbad : ke = 0
            ·subst hbad
             have t1 : (((0 : Nat) : Int) != 0) = false := rfl
             go_wp2_with fail
             go_roundw
             case rel => exact ⟨j + 1, ⟨fs, dw, fu⟩, A2, c2, rs2, HLT.out, by go_num, HSN2, HIW.out, HBW2.out, HFW.out, HM2.out, HFRW.out⟩
             case measure => simp [intOf]; have := HLT.out; omega
            ·have HPS2 : Hid (putS s l x = (⟨fs, dw, fu⟩, l, ke)) := Lib.hid (by
              have h1 : runO s os = (⟨fs, dw, fu⟩, ke) := by rw [runO_stop (k := j + 1) (by rw [HSN2.out]; exact hbad), HSN2.out]
              rw [HPS.out, h1]
              simp only [hbad, if_false])
             have t1 : ((ke : Int) != 0) = true := by rw [bne_iff_ne]; omega
             have a0 : W.cell? ⟨w.heap.size + 1 + 1, 0, none⟩ = some (.slice none 0 0) := HYW.out.cell 0
             have a1 : W.cell? ⟨w.heap.size + 1 + 1, 1, none⟩ = some (.bool false) := HYW.out.cell 1
             have a2 : W.cell? ⟨w.heap.size + 1 + 1, 2, none⟩ = some (.int .i64 0) := HYW.out.cell 2
             have a3 : W.cell? ⟨w.heap.size + 1 + 1, 3, none⟩ = some (.int .i64 0) := HYW.out.cell 3
             have a4 : W.cell? ⟨w.heap.size + 1 + 1, 4, none⟩ = some (.int .i64 0) := HYW.out.cell 4
             have a5 : W.cell? ⟨w.heap.size + 1 + 1, 5, none⟩ = some (.slice none 0 0) := HYW.out.cell 5
             have a6 : W.cell? ⟨w.heap.size + 1 + 1, 6, none⟩ = some (.slice none 0 0) := HYW.out.cell 6
             have a7 : W.cell? ⟨w.heap.size + 1 + 1, 7, none⟩ = some (.slice none 0 0) := HYW.out.cell 7
             have a8 : W.cell? ⟨w.heap.size + 1 + 1, 8, none⟩ = some (.bool false) := HYW.out.cell 8
             have b0 : W.cell? ⟨w.heap.size, 0, none⟩ = some (.slice A2 rs2.length c2) := HBW2.out.cell 0
             have b1 : W.cell? ⟨w.heap.size, 1, none⟩ = some (.bool dw) := HBW2.out.cell 1
             have b2 : W.cell? ⟨w.heap.size, 2, none⟩ = some (.int .i64 fu) := HBW2.out.cell 2
             have b3 : W.cell? ⟨w.heap.size, 3, none⟩ = some (.int .i64 y.x) := HBW2.out.cell 3
             have b4 : W.cell? ⟨w.heap.size, 4, none⟩ = some (.int .i64 y.t) := HBW2.out.cell 4
             have b5 : W.cell? ⟨w.heap.size, 5, none⟩ = some (.slice V y.vs.length a) := HBW2.out.cell 5
             have b6 : W.cell? ⟨w.heap.size, 6, none⟩ = some (.slice C y.ls.length b) := HBW2.out.cell 6
             have b7 : W.cell? ⟨w.heap.size, 7, none⟩ = some (.slice D y.ds.length d) := HBW2.out.cell 7
             have b8 : W.cell? ⟨w.heap.size, 8, none⟩ = some (.bool q) := HBW2.out.cell 8
             have fa0 := HYW.out.free 0
             have fa1 := HYW.out.free 1
             have fa2 := HYW.out.free 2
             have fa3 := HYW.out.free 3
             have fa4 := HYW.out.free 4
             have fa5 := HYW.out.free 5
             have fa6 := HYW.out.free 6
             have fa7 := HYW.out.free 7
             have fa8 := HYW.out.free 8
             clear hbad
             go_wp2_with fail
             refine bodyPost_ret (v := .tuple #[.agg #[.slice A2 rs2.length c2, .bool dw, .int .i64 fu, .int .i64 y.x, .int .i64 y.t, .slice V y.vs.length a, .slice C y.ls.length b, .slice D y.ds.length d, .bool q], .int .i64 (ke : Int)]) (by simp [results, Tryz.results12, go_sem, a0, a1, a2, a3, a4, a5, a6, a7, a8]) rfl ?_
             rw [HPS2.out]
             refine R8P.put _ ⟨fs, dw, fu⟩ y ke q (by rw [← HLG.out]) HLZ.out (Files.put9 (by decide) (by decide) HFW.out HYW.out _ _ _ _ _ _ _ _ _) HM2.out ?_ (Below.put9 (by omega) (HBL.out.trans (HFRW.out.to_below (fun k hk h1 h => by omega) HBL.out.size)) _ _ _ _ _ _ _ _ _)
             exact (ArgAt.put9 (g := w.heap.size + 1 + 1) (fun g hg e => by have := hg.2; omega) (HLL.out.same (fun g hl hg => HFRW.out.block g hl (fun e => by have := hg.2; omega))) _ _ _ _ _ _ _ _ _).mono (fun g _ hg => hg.1)
          ·have hje : j = os.length := by omega
           have hj1 : ¬ (j : Int) < (xs9.length : Int) := by have := HLEN.out; omega
           have HPS2 : Hid (putS s l x = (sk, some x, 0)) := Lib.hid (by
            have h1 := HRA.out
            rw [hje, List.take_length] at h1
            rw [HPS.out, h1]
            simp only [if_true])
           have r0 : wr.cell? ⟨w.heap.size, 0, none⟩ = some (.slice A1 rs1.length c1) := HBX1.out.cell 0
           have r1 : wr.cell? ⟨w.heap.size, 1, none⟩ = some (.bool sk.down) := HBX1.out.cell 1
           have r2 : wr.cell? ⟨w.heap.size, 2, none⟩ = some (.int .i64 sk.fuse) := HBX1.out.cell 2
           have r3 : wr.cell? ⟨w.heap.size, 3, none⟩ = some (.int .i64 y.x) := HBX1.out.cell 3
           have r4 : wr.cell? ⟨w.heap.size, 4, none⟩ = some (.int .i64 y.t) := HBX1.out.cell 4
           have r5 : wr.cell? ⟨w.heap.size, 5, none⟩ = some (.slice V y.vs.length a) := HBX1.out.cell 5
           have r6 : wr.cell? ⟨w.heap.size, 6, none⟩ = some (.slice C y.ls.length b) := HBX1.out.cell 6
           have r7 : wr.cell? ⟨w.heap.size, 7, none⟩ = some (.slice D y.ds.length d) := HBX1.out.cell 7
           have r8 : wr.cell? ⟨w.heap.size, 8, none⟩ = some (.bool q) := HBX1.out.cell 8
           have fr0 := HBX1.out.free 0
           have fr1 := HBX1.out.free 1
           have fr2 := HBX1.out.free 2
           have fr3 := HBX1.out.free 3
           have fr4 := HBX1.out.free 4
           have fr5 := HBX1.out.free 5
           have fr6 := HBX1.out.free 6
           have fr7 := HBX1.out.free 7
           have fr8 := HBX1.out.free 8
           have x0 : wr.cell? ⟨w.heap.size + 1, 0, none⟩ = some (.int .i64 x.x) := HYX.out.cell 0
           have x1 : wr.cell? ⟨w.heap.size + 1, 1, none⟩ = some (.int .i64 x.t) := HYX.out.cell 1
           have x2 : wr.cell? ⟨w.heap.size + 1, 2, none⟩ = some (.slice A' x.vs.length a') := HYX.out.cell 2
           have x3 : wr.cell? ⟨w.heap.size + 1, 3, none⟩ = some (.slice C' x.ls.length c') := HYX.out.cell 3
           have x4 : wr.cell? ⟨w.heap.size + 1, 4, none⟩ = some (.slice D' x.ds.length d') := HYX.out.cell 4
           clear hlt hje hbox HRA hj
           go_upto_region 26 with fail
           obtain ⟨W, hW⟩ : ∃ z, z = ((((((wr.setCell ⟨w.heap.size, 3, none⟩ (.int .i64 x.x)).setCell ⟨w.heap.size, 4, none⟩ (.int .i64 x.t)).setCell ⟨w.heap.size, 5, none⟩ (.slice A' x.vs.length a')).setCell ⟨w.heap.size, 6, none⟩ (.slice C' x.ls.length c')).setCell ⟨w.heap.size, 7, none⟩ (.slice D' x.ds.length d')).setCell ⟨w.heap.size, 8, none⟩ (.bool true)) := ⟨_, rfl⟩
           rw [← hW]
           have HBW2 : Hid (Blk W w.heap.size 40 #[.slice A1 rs1.length c1, .bool sk.down, .int .i64 sk.fuse, .int .i64 x.x, .int .i64 x.t, .slice A' x.vs.length a', .slice C' x.ls.length c', .slice D' x.ds.length d', .bool true]) := Lib.hid (by rw [hW]; exact Blk.put6 HBX1.out _ _ _ _ _ _)
           have hset : Frm (fun g => g = w.heap.size) wr W := by
            rw [hW]; exact (Frm.refl (fun g => g = w.heap.size) wr).put6 _ _ _ _ _ _
           have HFW : Hid (Files (up G w) W A1 rs1) := Lib.hid (by rw [hW]; exact Files.put6 (by decide) (by decide) HFK.out HBX1.out _ _ _ _ _ _)
           have HFRW : Hid (Frm (fun g => g = w.heap.size) wL W) := Lib.hid (HFRK.out.trans hset)
           have HYW : Hid (Blk W (w.heap.size + 1 + 1) 40 #[.slice none 0 0, .bool false, .int .i64 0, .int .i64 0, .int .i64 0, .slice none 0 0, .slice none 0 0, .slice none 0 0, .bool false]) := Lib.hid (HYR.out.frm hset (by omega))
           clear hW hset r0 r1 r2 r3 r4 r5 r6 r7 r8 fr0 fr1 fr2 fr3 fr4 fr5 fr6 fr7 fr8 x0 x1 x2 x3 x4
           have a0 : W.cell? ⟨w.heap.size + 1 + 1, 0, none⟩ = some (.slice none 0 0) := HYW.out.cell 0
           have a1 : W.cell? ⟨w.heap.size + 1 + 1, 1, none⟩ = some (.bool false) := HYW.out.cell 1
           have a2 : W.cell? ⟨w.heap.size + 1 + 1, 2, none⟩ = some (.int .i64 0) := HYW.out.cell 2
           have a3 : W.cell? ⟨w.heap.size + 1 + 1, 3, none⟩ = some (.int .i64 0) := HYW.out.cell 3
           have a4 : W.cell? ⟨w.heap.size + 1 + 1, 4, none⟩ = some (.int .i64 0) := HYW.out.cell 4
           have a5 : W.cell? ⟨w.heap.size + 1 + 1, 5, none⟩ = some (.slice none 0 0) := HYW.out.cell 5
           have a6 : W.cell? ⟨w.heap.size + 1 + 1, 6, none⟩ = some (.slice none 0 0) := HYW.out.cell 6
           have a7 : W.cell? ⟨w.heap.size + 1 + 1, 7, none⟩ = some (.slice none 0 0) := HYW.out.cell 7
           have a8 : W.cell? ⟨w.heap.size + 1 + 1, 8, none⟩ = some (.bool false) := HYW.out.cell 8
           have b0 : W.cell? ⟨w.heap.size, 0, none⟩ = some (.slice A1 rs1.length c1) := HBW2.out.cell 0
           have b1 : W.cell? ⟨w.heap.size, 1, none⟩ = some (.bool sk.down) := HBW2.out.cell 1
           have b2 : W.cell? ⟨w.heap.size, 2, none⟩ = some (.int .i64 sk.fuse) := HBW2.out.cell 2
           have b3 : W.cell? ⟨w.heap.size, 3, none⟩ = some (.int .i64 x.x) := HBW2.out.cell 3
           have b4 : W.cell? ⟨w.heap.size, 4, none⟩ = some (.int .i64 x.t) := HBW2.out.cell 4
           have b5 : W.cell? ⟨w.heap.size, 5, none⟩ = some (.slice A' x.vs.length a') := HBW2.out.cell 5
           have b6 : W.cell? ⟨w.heap.size, 6, none⟩ = some (.slice C' x.ls.length c') := HBW2.out.cell 6
           have b7 : W.cell? ⟨w.heap.size, 7, none⟩ = some (.slice D' x.ds.length d') := HBW2.out.cell 7
           have b8 : W.cell? ⟨w.heap.size, 8, none⟩ = some (.bool true) := HBW2.out.cell 8
           have fa0 := HYW.out.free 0
           have fa1 := HYW.out.free 1
           have fa2 := HYW.out.free 2
           have fa3 := HYW.out.free 3
           have fa4 := HYW.out.free 4
           have fa5 := HYW.out.free 5
           have fa6 := HYW.out.free 6
           have fa7 := HYW.out.free 7
           have fa8 := HYW.out.free 8
           go_wp2_with fail
           refine bodyPost_ret (v := .tuple #[.agg #[.slice A1 rs1.length c1, .bool sk.down, .int .i64 sk.fuse, .int .i64 x.x, .int .i64 x.t, .slice A' x.vs.length a', .slice C' x.ls.length c', .slice D' x.ds.length d', .bool true], .int .i64 0]) (by simp [results, Tryz.results12, go_sem, a0, a1, a2, a3, a4, a5, a6, a7, a8]) rfl ?_
           rw [HPS2.out]
           refine R8P.put _ sk x 0 true rfl (fun h => by cases h) (Files.put9 (by decide) (by decide) HFW.out HYW.out _ _ _ _ _ _ _ _ _) HMK.out ?_ (Below.put9 (by omega) (HBL.out.trans (HFRW.out.to_below (fun k hk h1 h => by omega) HBL.out.size)) _ _ _ _ _ _ _ _ _)
           exact (ArgAt.put9 (g := w.heap.size + 1 + 1) (fun g hg e => by have := hg.2; omega) (HXL.out.same (fun g hl hg => HFRW.out.block g hl (fun e => by have := hg.2; omega))) _ _ _ _ _ _ _ _ _).mono (fun g _ hg => hg.1)
end Go.Proofs.YtfpomllhkbbipaaGreatDoor
