/- Layer 7's document: Right, Bytes, Open. -/
import Derived.Test.YtfpomllhkbbipaaGreatR3
import Derived.Test.YtfpomllhkbbipaaGreatR5g
import Derived.Test.YtfpomllhkbbipaaGreatHdW
import Derived.BigQuiet
namespace Go.Proofs.YtfpomllhkbbipaaGreat
open Go Go.RowKit Go.Maps Go.Lib Mem Pk Dsk Hd

theorem RRight_any (t v : Int) (w : World) : Calls Tryz.prog 27 #[.int .i64 t, .int .i64 v] w fun e w' => e = .returned (.bool (rightH t v)) ∧ w = w' := by
  obtain ⟨a, ha⟩ : ∃ p, p = decide (0 ≤ t) := ⟨_, rfl⟩
  obtain ⟨b, hb⟩ : ∃ p, p = decide (t ≤ 1099511627776) := ⟨_, rfl⟩
  obtain ⟨c, hc⟩ : ∃ p, p = decide (0 ≤ v) := ⟨_, rfl⟩
  obtain ⟨d, hd⟩ : ∃ p, p = decide (v ≤ 7) := ⟨_, rfl⟩
  have e : rightH t v = (a && (b && (c && d))) := by unfold rightH; rw [ha, hb, hc, hd]
  have t1 := ha.symm
  have t2 := hb.symm
  have t3 := hc.symm
  have t4 := hd.symm
  rw [e]
  clear ha hb hc hd e
  cases a <;> cases b <;> cases c <;> cases d <;>
  · go_enter Tryz.func27, Tryz.ntmps27
    go_wp2_with fail
    go_ret
    exact ⟨rfl, rfl⟩
theorem RRight_q (t v : Int) (w : World) (n : Nat) : Calls Tryz.prog 27 #[.int .i64 t, .int .i64 v] (w.drewN n) fun e w'' => e = .returned (.bool (rightH t v)) ∧ ∃ m, w'' = w.drewN m :=
  (RRight_any t v (w.drewN n)).mono fun _ _ ⟨h1, h2⟩ => ⟨h1, n, h2.symm⟩
set_option maxRecDepth 100000 in
theorem RBytes_any {w : World} {t v : Int} (hr : rightH t v = true) : Calls Tryz.prog 39 #[.int .i64 t, .int .i64 v] w (AppPost w.heap.size (bytesH t v) w) := by
  have h := rightH_iff.1 hr
  have H1 := Lib.hid (RNum_pos (w := w) t h.1 (by omega))
  have HV : Hid (0 ≤ v ∧ v ≤ 9223372036854775807) := Lib.hid (by omega)
  obtain ⟨xs, hxs⟩ : ∃ z, z = numB t := ⟨_, rfl⟩
  obtain ⟨ys, hys⟩ : ∃ z, z = numB v := ⟨_, rfl⟩
  have hl1 : xs.length ≤ 10 := by rw [hxs]; exact (numB_len t).2
  have hl2 : ys.length ≤ 10 := by rw [hys]; exact (numB_len v).2
  have HB : Hid (bytesH t v = frameB (xs ++ ys)) := Lib.hid (by unfold bytesH; rw [hxs, hys])
  rw [← hxs] at H1
  have H2 : Hid (∀ W, Calls Tryz.prog 66 #[.int .i64 v] W (AppPost W.heap.size ys W)) := Lib.hid fun W => by rw [hys]; exact RNum_pos v HV.out.1 HV.out.2
  clear hr h hxs hys
  go_enter Tryz.func39, Tryz.ntmps39
  go_wp2_with fail
  (with_reducible refine H1.out.mono ?_); rintro e w1 ⟨v1, rfl, ho1, hb1⟩
  have HO1 := Lib.hid ho1
  have HB1 := Lib.hid hb1
  clear ho1 hb1 H1
  go_wp2_with fail
  (with_reducible refine (H2.out _).mono ?_); rintro e w2 ⟨v2, rfl, ho2, hb2⟩
  have hj := Join_any (HO1.out.below hb2) ho2 (apart_base HO1.out ho2) (Nat.le_trans HB1.out.size hb2.size) (by omega)
  obtain ⟨p, hp⟩ : ∃ p, p = xs ++ ys := ⟨_, rfl⟩
  have hpl : p.length ≤ 20 := by rw [hp, List.length_append]; omega
  rw [← hp] at hj HB
  have HJ := Lib.hid hj
  have HB2 : Hid (Below w.heap.size w w2) := Lib.hid (HB1.out.trans (hb2.mono HB1.out.size))
  clear ho2 hb2 hj hp HO1 HB1 H2
  go_wp2_with fail
  (with_reducible refine HJ.out.mono ?_); rintro e w3 ⟨v3, rfl, ho3, hb3⟩
  obtain ⟨A3, c3, rfl⟩ := ho3.form
  have HF := Lib.hid (RFrame_any (c := c3) ho3.sl.2)
  have HB3 : Hid (Below w.heap.size w w3) := Lib.hid (HB2.out.trans hb3)
  have hfr : frameR p = (bytesH t v, 0) := by unfold frameR; rw [if_pos (by omega), HB.out]
  rw [hfr] at HF
  clear ho3 hb3 HJ hfr
  go_wp2_with fail
  (with_reducible refine HF.out.mono ?_); rintro e w4 ⟨A4, c4, rfl, ho4, hb4⟩
  have HO4 := Lib.hid ho4
  have HB4 : Hid (Below w.heap.size w w4) := Lib.hid (HB3.out.trans (hb4.mono HB3.out.size))
  clear ho4 hb4 HF
  obtain ⟨zs, hzs⟩ : ∃ z, z = bytesH t v := ⟨_, rfl⟩
  rw [← hzs] at HO4
  have HZ := Lib.hid hzs
  clear hzs HB
  go_wp2_with fail
  go_ret
  rw [← HZ.out]
  exact ⟨.slice A4 zs.length c4, rfl, ownLow HO4.out HB3.out.size, HB4.out⟩
/-- the disk behind the first half of Open -/
def afterT (s : S) : S := if (find nmT s.files).isSome then (remove s nmT).1 else s
theorem remove_zero {s : S} (hd : s.down = false) (hf : s.fuse = 0) (h : (find nmT s.files).isSome = true) : remove s nmT = (⟨del nmT s.files, false, 0⟩, 0) := by
  obtain ⟨f, hff⟩ := Option.isSome_iff_exists.1 h
  unfold remove
  rw [step_idle hf]
  simp only [look_found hd nmT_ok hff]
  obtain ⟨fs, dn, fu⟩ := s
  subst hd; subst hf; rfl
theorem afterT_up {s : S} (hd : s.down = false) (hf : s.fuse = 0) : (afterT s).down = false ∧ (afterT s).fuse = 0 := by
  unfold afterT
  split
  · rename_i h; rw [remove_zero hd hf h]; exact ⟨rfl, rfl⟩
  · exact ⟨hd, hf⟩
theorem find_delT (fs : List File) : find nmH (del nmT fs) = find nmH fs := by
  unfold find del
  rw [List.find?_filter]
  congr 1
  funext a
  by_cases h : a.name = nmH
  · rw [h]; decide
  · have : (a.name == nmH) = false := by simpa using h
    simp [this]
theorem openH_up {s : S} (hd : s.down = false) (hf : s.fuse = 0) : openH s = if (find nmH (afterT s).files).isSome then (afterT s, readH (Dsk.read (afterT s) nmH).1, 0) else (afterT s, (0, 0), 0) := by
  unfold openH afterT
  rw [if_neg (by rw [hd]; decide)]
  cases h : (find nmT s.files).isSome with
  | true =>
    simp only [if_true]
    rw [remove_zero hd hf h]
    simp only [ne_eq, not_true_eq_false, if_false, find_delT]
  | false =>
    simp only [Bool.false_eq_true, if_false, ne_eq, not_true_eq_false]
def bT : ByteArray := ⟨#[104, 97, 114, 100, 46, 116, 109, 112]⟩
def bH : ByteArray := ⟨#[104, 97, 114, 100]⟩
/-- half way through Open: the box of the answer, the box of the hard, its files -/
def OMidR (G : Nat → Prop) (s : S) (w wx : World) : Prop :=
  ∃ A c rs, Blk wx (w.heap.size + 1) 34 #[.slice none 0 0, .bool false, .int .i64 0, .int .i64 0, .int .i64 0] ∧ Blk wx (w.heap.size + 1 + 1) 34 #[.slice A rs.length c, .bool false, .int .i64 0, .int .i64 0, .int .i64 0] ∧
    Files (up G w) wx A rs ∧ rs.map RFile.file = (afterT s).files ∧ Below w.heap.size w wx
def ROpenP (G : Nat → Prop) (s : S) (w : World) (e : Ending) (w' : World) : Prop :=
  ∃ A c rs, e = .returned (.tuple #[.agg #[.slice A rs.length c, .bool false, .int .i64 0, .int .i64 (openH s).2.1.1, .int .i64 (openH s).2.1.2], .int .i64 0]) ∧ Files (up G w) w' A rs ∧ rs.map RFile.file = (openH s).1.files ∧ Below w.heap.size w w'
theorem two_of {done : List PR} {u v : PV} (h : done.map PR.v = [u, v]) : ∃ x y, done = [x, y] := by
  match done, h with
  | [x, y], _ => exact ⟨x, y, rfl⟩
theorem find_pos {rs : List RFile} {n : Name} {k : Nat} (hk : k < rs.length) (h1 : rs[k].file.name = n) (h2 : ∀ j (hj : j < k), (rs[j]'(by omega)).file.name ≠ n) : (find n (rs.map RFile.file)).isSome = true := by
  rw [find_of_at hk h1 h2]; rfl
theorem ropen_out {G : Nat → Prop} {s : S} {w w5 : World} {A : Option Addr} {c : Nat} {rs : List RFile} {t v : Int} {cs : Array Value} (hx : Blk w5 (w.heap.size + 1) 34 cs) (hf : Files (up G w) w5 A rs) (hm : rs.map RFile.file = (afterT s).files) (hb : Below w.heap.size w w5) (ho : openH s = (afterT s, (t, v), 0)) :
    ROpenP G s w (.returned (.tuple #[.agg #[.slice A rs.length c, .bool false, .int .i64 0, .int .i64 t, .int .i64 v], .int .i64 0]))
      (((((w5.setCell ⟨w.heap.size + 1, 0, none⟩ (.slice A rs.length c)).setCell ⟨w.heap.size + 1, 1, none⟩ (.bool false)).setCell ⟨w.heap.size + 1, 2, none⟩ (.int .i64 0)).setCell ⟨w.heap.size + 1, 3, none⟩ (.int .i64 t)).setCell ⟨w.heap.size + 1, 4, none⟩ (.int .i64 v)) := by
  refine ⟨A, c, rs, by rw [ho], ?_, by rw [ho]; exact hm, ?_⟩
  · exact ((((hf.far hx (by decide) (by decide) 0 _).far (hx.set_ 0 _) (by decide) (by decide) 1 _).far ((hx.set_ 0 _).set_ 1 _) (by decide) (by decide) 2 _).far (((hx.set_ 0 _).set_ 1 _).set_ 2 _) (by decide) (by decide) 3 _).far ((((hx.set_ 0 _).set_ 1 _).set_ 2 _).set_ 3 _) (by decide) (by decide) 4 _
  · have hle : ∀ i, w.heap.size ≤ (⟨w.heap.size + 1, i, none⟩ : Addr).block := fun i => Nat.le_succ _
    exact ((((hb.setCell (hle 0) _).setCell (hle 1) _).setCell (hle 2) _).setCell (hle 3) _).setCell (hle 4) _
set_option maxRecDepth 100000 in
set_option maxHeartbeats 4000000 in
theorem ROpen_any {G : Nat → Prop} {w : World} (A : Option Addr) (c : Nat) (rs : List RFile) (h : Files G w A rs) (s : S) (hs : rs.map RFile.file = s.files) (hct : rs.length ≤ 256) (hso : Sorted s.files) (hd : s.down = false) (hf : s.fuse = 0) :
    Calls Tryz.prog 7 #[.agg #[.slice A rs.length c, .bool false, .int .i64 0]] w (ROpenP G s w) := by
  have HF := Lib.hid h
  have HS := Lib.hid hs
  have HSO := Lib.hid hso
  have HUP := Lib.hid (And.intro hd hf)
  clear h hs hso hd hf
  go_enter Tryz.func7, Tryz.ntmps7
  go_upto_region 4 with fail
  obtain ⟨w3, hw3⟩ : ∃ z, z = ((w.alloc (.cells #[.slice A rs.length c, .bool false, .int .i64 0] 32)).alloc (.cells #[.slice none 0 0, .bool false, .int .i64 0, .int .i64 0, .int .i64 0] 34)).alloc (.cells #[.slice A rs.length c, .bool false, .int .i64 0, .int .i64 0, .int .i64 0] 34) := ⟨_, rfl⟩
  rw [← hw3]
  have hz3 : w3.heap.size = w.heap.size + 3 := by rw [hw3]; simp [World.size_alloc]
  have hb3 : Below w.heap.size w w3 := by
    rw [hw3]; exact (((Below.refl _ _).alloc (Nat.le_refl _) _).alloc (by simp) _).alloc (by simp; omega) _
  have hx0 : Blk w3 w.heap.size 32 #[.slice A rs.length c, .bool false, .int .i64 0] := by rw [hw3]; exact ((Blk.new_ w _ _).alloc _).alloc _
  have hx1 : Blk w3 (w.heap.size + 1) 34 #[.slice none 0 0, .bool false, .int .i64 0, .int .i64 0, .int .i64 0] := by
    have := (Blk.new_ (w.alloc (.cells #[.slice A rs.length c, .bool false, .int .i64 0] 32)) 34 #[.slice none 0 0, .bool false, .int .i64 0, .int .i64 0, .int .i64 0]).alloc (.cells #[.slice A rs.length c, .bool false, .int .i64 0, .int .i64 0, .int .i64 0] 34)
    rw [World.size_alloc] at this; rw [hw3]; exact this
  have hx2 : Blk w3 (w.heap.size + 1 + 1) 34 #[.slice A rs.length c, .bool false, .int .i64 0, .int .i64 0, .int .i64 0] := by
    have := Blk.new_ ((w.alloc (.cells #[.slice A rs.length c, .bool false, .int .i64 0] 32)).alloc (.cells #[.slice none 0 0, .bool false, .int .i64 0, .int .i64 0, .int .i64 0] 34)) 34 #[.slice A rs.length c, .bool false, .int .i64 0, .int .i64 0, .int .i64 0]
    rw [World.size_alloc, World.size_alloc] at this; rw [hw3]; exact this
  have HZ3 := Lib.hid hz3
  have HB3 := Lib.hid hb3
  have HX0 := Lib.hid hx0
  have HX1 := Lib.hid hx1
  have HX2 := Lib.hid hx2
  have HF3 : Hid (Files G w3 A rs) := Lib.hid (HF.out.below hb3)
  have hfi := Find_any A c rs HF3.out false 0 bT
  rw [show ((0 : Nat) : Int) = 0 from rfl] at hfi
  have HFI := Lib.hid hfi
  have p0 : w3.cell? ⟨w.heap.size, 0, none⟩ = some (.slice A rs.length c) := hx0.cell 0
  have p1 : w3.cell? ⟨w.heap.size, 1, none⟩ = some (.bool false) := hx0.cell 1
  have p2 : w3.cell? ⟨w.heap.size, 2, none⟩ = some (.int .i64 0) := hx0.cell 2
  clear hw3 hz3 hb3 hx0 hx1 hx2 hfi
  unfold bT at HFI
  go_wp2_with fail
  (with_reducible refine HFI.out.mono ?_); rintro e w4 ⟨i, rfl, hb4, hfind⟩
  have HB4 := Lib.hid hb4
  go_upto_if 21 with fail
  go_cut [] (fun wx => OMidR G s w wx)
  case first =>
    rcases hfind with ⟨rfl, hnone⟩ | ⟨k, rfl, hk, hkn, hkf⟩
    · have HT : Hid (afterT s = s) := Lib.hid (by
        unfold afterT; rw [← HS.out, show find nmT (rs.map RFile.file) = none from find_of_none hnone]; rfl)
      clear hnone hb4 p0 p1 p2
      go_wp2_with fail
      go_meet
      exact ⟨A, c, rs, HX1.out.below HB4.out HX1.out.lt, HX2.out.below HB4.out HX2.out.lt, (HF3.out.below HB4.out).mono (fun _ _ h => .inl h), by rw [HT.out]; exact HS.out, HB3.out.trans (HB4.out.mono HB3.out.size)⟩
    · have hsm : (find nmT s.files).isSome = true := by rw [← HS.out]; exact find_pos hk hkn hkf
      have HT : Hid (afterT s = ⟨del nmT s.files, false, 0⟩) := Lib.hid (by unfold afterT; rw [if_pos hsm, remove_zero HUP.out.1 HUP.out.2 hsm])
      have hdo := Do_any A c rs (HF3.out.below hb4) s HS.out hct (by rw [HUP.out.2]; decide) HSO.out bT ⟨#[]⟩ (by decide) (by decide) 0 (by decide) none 0 [] Sl.nil 2 (by decide) (by decide)
      have hds : doStep s 2 (sname bT) (sname ⟨#[]⟩) 0 [] = (⟨del nmT s.files, false, 0⟩, 0) := remove_zero HUP.out.1 HUP.out.2 hsm
      rw [hds, HUP.out.1, HUP.out.2, show ((0 : Nat) : Int) = 0 from rfl, List.length_nil] at hdo
      unfold bT at hdo
      have HDO := Lib.hid hdo
      have HY0 := Lib.hid (HX0.out.below hb4 HX0.out.lt)
      have q0 : w4.cell? ⟨w.heap.size, 0, none⟩ = some (.slice A rs.length c) := HY0.out.cell 0
      have q1 : w4.cell? ⟨w.heap.size, 1, none⟩ = some (.bool false) := HY0.out.cell 1
      have q2 : w4.cell? ⟨w.heap.size, 2, none⟩ = some (.int .i64 0) := HY0.out.cell 2
      have tk : (0 : Int) ≤ (k : Int) := by omega
      clear hdo hds hsm hkn hkf hb4 p0 p1 p2
      go_wp2_with fail
      (with_reducible refine HDO.out.mono ?_); rintro e w5 ⟨v5, rfl, ⟨A2, c2, rs2, rfl, hf2, hm2⟩, hb5⟩
      have HF2 := Lib.hid hf2
      have HM2 := Lib.hid hm2
      have HB5 := Lib.hid hb5
      rw [show ((0 : Nat) : Int) = 0 from rfl]
      clear hf2 hm2 hb5 q0 q1 q2 tk HDO
      go_upto_region 6 with fail
      obtain ⟨w6, hw6⟩ : ∃ z, z = w5.alloc (.cells #[.slice A2 rs2.length c2, .bool false, .int .i64 0] 32) := ⟨_, rfl⟩
      have hd0 : Blk w6 w5.heap.size 32 #[.slice A2 rs2.length c2, .bool false, .int .i64 0] := by rw [hw6]; exact Blk.new_ w5 _ _
      have hb6 : Below w5.heap.size w5 w6 := by rw [hw6]; exact (Below.refl _ _).alloc (Nat.le_refl _) _
      rw [← hw6]
      have hb46 : Below w3.heap.size w3 w6 := (HB4.out.trans (HB5.out.mono HB4.out.size)).trans (hb6.mono (Nat.le_trans HB4.out.size HB5.out.size))
      have hy2 := HX2.out.below hb46 HX2.out.lt
      have hy1 := HX1.out.below hb46 HX1.out.lt
      have HY2 := Lib.hid hy2
      have HY1 := Lib.hid hy1
      have HB6 := Lib.hid hb6
      have HB46 := Lib.hid hb46
      have e0 : w6.cell? ⟨w5.heap.size, 0, none⟩ = some (.slice A2 rs2.length c2) := hd0.cell 0
      have e1 : w6.cell? ⟨w5.heap.size, 1, none⟩ = some (.bool false) := hd0.cell 1
      have e2 : w6.cell? ⟨w5.heap.size, 2, none⟩ = some (.int .i64 0) := hd0.cell 2
      have r0 : w6.cell? ⟨w.heap.size + 1 + 1, 0, none⟩ = some (.slice A rs.length c) := hy2.cell 0
      have r1 : w6.cell? ⟨w.heap.size + 1 + 1, 1, none⟩ = some (.bool false) := hy2.cell 1
      have r2 : w6.cell? ⟨w.heap.size + 1 + 1, 2, none⟩ = some (.int .i64 0) := hy2.cell 2
      have g0 := hy2.free 0
      have g1 := hy2.free 1
      have g2 := hy2.free 2
      clear hy2 hy1 hb46 hb6 hd0 hw6
      go_wp2_with fail
      go_meet
      obtain ⟨W, hW⟩ : ∃ W, W = ((w6.setCell ⟨w.heap.size + 1 + 1, 0, none⟩ (.slice A2 rs2.length c2)).setCell ⟨w.heap.size + 1 + 1, 1, none⟩ (.bool false)).setCell ⟨w.heap.size + 1 + 1, 2, none⟩ (.int .i64 0) := ⟨_, rfl⟩
      rw [← hW]
      have hset : Frm (fun g => g = w.heap.size + 1 + 1) w6 W := by rw [hW]; exact (((Frm.refl (fun g => g = w.heap.size + 1 + 1) w6).setCell (p := ⟨w.heap.size + 1 + 1, 0, none⟩) (fun _ => rfl) _).setCell (p := ⟨w.heap.size + 1 + 1, 1, none⟩) (fun _ => rfl) _).setCell (p := ⟨w.heap.size + 1 + 1, 2, none⟩) (fun _ => rfl) _
      have hf6 := HF2.out.below HB6.out
      refine ⟨A2, c2, rs2, HY1.out.frm hset (by omega), ?_, ?_, by rw [HT.out]; exact HM2.out, ?_⟩
      · rw [hW]; exact ((HY2.out.set_ 0 _).set_ 1 _).set_ 2 _
      · rw [hW]
        exact ((((hf6.far HY2.out (by decide) (by decide) 0 _).far (HY2.out.set_ 0 _) (by decide) (by decide) 1 _).far ((HY2.out.set_ 0 _).set_ 1 _) (by decide) (by decide) 2 _)).mono (fun g _ hg => hg.imp id (fun h => Nat.le_trans (Nat.le_trans HB3.out.size HB4.out.size) h))
      · have hb6 := HB3.out.trans (HB46.out.mono HB3.out.size)
        rw [hW]
        exact ((hb6.setCell (p := ⟨w.heap.size + 1 + 1, 0, none⟩) (by show w.heap.size ≤ w.heap.size + 1 + 1; omega) _).setCell (p := ⟨w.heap.size + 1 + 1, 1, none⟩) (by show w.heap.size ≤ w.heap.size + 1 + 1; omega) _).setCell (p := ⟨w.heap.size + 1 + 1, 2, none⟩) (by show w.heap.size ≤ w.heap.size + 1 + 1; omega) _
  case rest =>
    obtain ⟨A1, c1, rs1, hx1, hx2, hf1, hm1, hb1⟩ := hcut
    have HX1 := Lib.hid hx1
    have HX2 := Lib.hid hx2
    have HF1 := Lib.hid hf1
    have HM1 := Lib.hid hm1
    have HB1 := Lib.hid hb1
    have hfi := Find_any A1 c1 rs1 hf1 false 0 bH
    rw [show ((0 : Nat) : Int) = 0 from rfl] at hfi
    unfold bH at hfi
    have HFJ := Lib.hid hfi
    have q0 : wc.cell? ⟨w.heap.size + 1 + 1, 0, none⟩ = some (.slice A1 rs1.length c1) := hx2.cell 0
    have q1 : wc.cell? ⟨w.heap.size + 1 + 1, 1, none⟩ = some (.bool false) := hx2.cell 1
    have q2 : wc.cell? ⟨w.heap.size + 1 + 1, 2, none⟩ = some (.int .i64 0) := hx2.cell 2
    clear hx1 hx2 hf1 hm1 hb1 hfi hfind hb4 HFI
    go_wp2_with fail
    (with_reducible refine HFJ.out.mono ?_); rintro e w5 ⟨j, rfl, hb5, hfind⟩
    have HB5 := Lib.hid hb5
    have HY1 := Lib.hid (HX1.out.below hb5 HX1.out.lt)
    have HY2 := Lib.hid (HX2.out.below hb5 HX2.out.lt)
    have a0 : w5.cell? ⟨w.heap.size + 1, 0, none⟩ = some (.slice none 0 0) := HY1.out.cell 0
    have a1 : w5.cell? ⟨w.heap.size + 1, 1, none⟩ = some (.bool false) := HY1.out.cell 1
    have a2 : w5.cell? ⟨w.heap.size + 1, 2, none⟩ = some (.int .i64 0) := HY1.out.cell 2
    have a3 : w5.cell? ⟨w.heap.size + 1, 3, none⟩ = some (.int .i64 0) := HY1.out.cell 3
    have a4 : w5.cell? ⟨w.heap.size + 1, 4, none⟩ = some (.int .i64 0) := HY1.out.cell 4
    have b0 : w5.cell? ⟨w.heap.size + 1 + 1, 0, none⟩ = some (.slice A1 rs1.length c1) := HY2.out.cell 0
    have b1 : w5.cell? ⟨w.heap.size + 1 + 1, 1, none⟩ = some (.bool false) := HY2.out.cell 1
    have b2 : w5.cell? ⟨w.heap.size + 1 + 1, 2, none⟩ = some (.int .i64 0) := HY2.out.cell 2
    have b3 : w5.cell? ⟨w.heap.size + 1 + 1, 3, none⟩ = some (.int .i64 0) := HY2.out.cell 3
    have b4 : w5.cell? ⟨w.heap.size + 1 + 1, 4, none⟩ = some (.int .i64 0) := HY2.out.cell 4
    have fa0 := HY1.out.free 0
    have fa1 := HY1.out.free 1
    have fa2 := HY1.out.free 2
    have fa3 := HY1.out.free 3
    have fa4 := HY1.out.free 4
    clear hb5 q0 q1 q2 HFJ
    rcases hfind with ⟨rfl, hnone⟩ | ⟨k, rfl, hk, hkn, hkf⟩
    · have HO : Hid (openH s = (afterT s, (0, 0), 0)) := Lib.hid (by rw [openH_up HUP.out.1 HUP.out.2, ← HM1.out, show find nmH (rs1.map RFile.file) = none from find_of_none hnone]; rfl)
      clear hnone
      go_wp2_with fail
      refine bodyPost_ret (v := .tuple #[.agg #[.slice A1 rs1.length c1, .bool false, .int .i64 0, .int .i64 0, .int .i64 0], .int .i64 0]) (by simp [results, Tryz.results7, go_sem, a0, a1, a2, a3, a4]) rfl ?_
      exact ropen_out HY1.out (HF1.out.below HB5.out) HM1.out (HB1.out.trans (HB5.out.mono HB1.out.size)) HO.out
    · have hfd : find nmH (afterT s).files = some rs1[k].file := by rw [← HM1.out]; exact find_of_at hk hkn hkf
      obtain ⟨bs, hbs⟩ : ∃ z, z = rs1[k].file.now := ⟨_, rfl⟩
      have hrd : Dsk.read (afterT s) nmH = (bs, 0) := by unfold Dsk.read; simp only [look_found (afterT_up HUP.out.1 HUP.out.2).1 nmH_ok hfd]; rw [hbs]
      have HO : Hid (openH s = (afterT s, readH bs, 0)) := Lib.hid (by rw [openH_up HUP.out.1 HUP.out.2, hfd, hrd]; rfl)
      have hrr := RRead_any A1 c1 rs1 (HF1.out.below HB5.out) (afterT s) HM1.out bH (by decide)
      rw [show Dsk.read (afterT s) (sname bH) = (bs, 0) from hrd, (afterT_up HUP.out.1 HUP.out.2).1, (afterT_up HUP.out.1 HUP.out.2).2, show ((0 : Nat) : Int) = 0 from rfl] at hrr
      unfold bH at hrr
      have HRR := Lib.hid hrr
      have tk : (0 : Int) ≤ (k : Int) := by omega
      clear hrr hrd hbs hfd hkn hkf
      go_wp2_with fail
      (with_reducible refine HRR.out.mono ?_); rintro e w6 ⟨A6, c6, rfl, hs6, hc6, hb6⟩
      have HUF := Lib.hid (RUnframe_any hs6.sl hc6)
      have HB6 := Lib.hid hb6
      obtain ⟨p, hp⟩ : ∃ z, z = (unframe bs).1 := ⟨_, rfl⟩
      obtain ⟨n, hn⟩ : ∃ z, z = (unframe bs).2.1 := ⟨_, rfl⟩
      obtain ⟨kk, hkk⟩ : ∃ z, z = (unframe bs).2.2 := ⟨_, rfl⟩
      unfold UfPost at HUF
      simp only at HUF
      rw [← hp, ← hn, ← hkk] at HUF
      have HP := Lib.hid hp
      have HN := Lib.hid hn
      have HKK := Lib.hid hkk
      have HLB : Hid (bs.length ≤ 9223372036854775807) := Lib.hid hs6.sl.len
      clear hs6 hc6 hb6 hp hn hkk HRR a0 a1 a2 a3 a4 b0 b1 b2 b3 b4 fa0 fa1 fa2 fa3 fa4
      go_wp2_with fail
      (with_reducible refine HUF.out.mono ?_); rintro e w7 ⟨A7, c7, rfl, ho7, hb7⟩
      have HO7 := Lib.hid ho7
      have HB7 : Hid (Below w5.heap.size w5 w7) := Lib.hid (HB6.out.trans (hb7.mono HB6.out.size))
      have HZ1 := Lib.hid (HY1.out.below HB7.out HY1.out.lt)
      have HZ2 := Lib.hid (HY2.out.below HB7.out HY2.out.lt)
      clear ho7 hb7 HUF
      by_cases hgood : kk = 0 ∧ n = bs.length
      · obtain ⟨hk0, hnl⟩ := hgood
        have H1 : Hid ((unframe bs).2.2 = 0 ∧ (unframe bs).2.1 = bs.length) := Lib.hid ⟨by rw [← HKK.out]; exact hk0, by rw [← HN.out]; exact hnl⟩
        have t1 : (kk != 0) = false := by rw [hk0]; rfl
        have t2 : ((n : Int) != (bs.length : Int)) = false := by rw [hnl]; simp
        have hcap := HO7.out.cap
        have hk2 : Sl (Value.int .i64) (w7.alloc (.cells #[.int .i64 1, .int .i64 1] 3)) (some ⟨w7.heap.size, 0, none⟩) [1, 1] := by
          have hbk : Blk (w7.alloc (.cells #[.int .i64 1, .int .i64 1] 3)) w7.heap.size 3 #[.int .i64 1, .int .i64 1] := Blk.new_ w7 _ _
          exact ⟨by unfold maxLen; decide, fun _ => ⟨_, 0, rfl, fun j hj => by
            match j, hj with
            | 0, _ => exact hbk.cell 0
            | 1, _ => exact hbk.cell 1⟩⟩
        have HG := Lib.hid (RGet_any (kc := 2) (HO7.out.sl.2.below ((Below.refl _ _).alloc (Nat.le_refl _) (.cells #[.int .i64 1, .int .i64 1] 3))) hcap.1 hk2 (by intro k hk; simp at hk; exact .inl hk) (by decide))
        rw [getV_two] at HG
        change Hid (Calls _ _ #[.slice A7 p.length c7, .slice (some ⟨w7.heap.size, 0, none⟩) 2 2] _ _) at HG
        clear hk0 hnl hcap hk2
        go_wp2_with fail
        (with_reducible refine HG.out.mono ?_); rintro e w8 ⟨hb8, hno, hyes⟩
        have HB8 : Hid (Below w5.heap.size w5 w8) := Lib.hid ((HB7.out.alloc HB7.out.size _).trans (hb8.mono (by rw [World.size_alloc]; exact Nat.le_succ_of_le HB7.out.size)))
        have HW1 := Lib.hid (HY1.out.below HB8.out HY1.out.lt)
        have HW2 := Lib.hid (HY2.out.below HB8.out HY2.out.lt)
        clear hb8 HG
        cases ht : twoN p with
        | none =>
          rw [ht] at hno hyes
          obtain rfl := hno rfl
          have HO2 : Hid (openH s = (afterT s, (0, 0), 0)) := Lib.hid (by rw [HO.out, readH_b (by rw [← HP.out]; exact ht)])
          clear ht hno hyes t1 t2
          go_upto_region 16 with fail
          go_quiet (fail)
          obtain ⟨w9, hw9⟩ : ∃ z, z = w8.drewN nq := ⟨_, rfl⟩
          have HB9 : Hid (Below w5.heap.size w5 w9) := Lib.hid (by rw [hw9]; exact below_drewN HB8.out nq)
          have HW1 := Lib.hid (HY1.out.below HB9.out HY1.out.lt)
          have HW2 := Lib.hid (HY2.out.below HB9.out HY2.out.lt)
          rw [← hw9]
          clear hw9
          have a0 : w9.cell? ⟨w.heap.size + 1, 0, none⟩ = some (.slice none 0 0) := HW1.out.cell 0
          have a1 : w9.cell? ⟨w.heap.size + 1, 1, none⟩ = some (.bool false) := HW1.out.cell 1
          have a2 : w9.cell? ⟨w.heap.size + 1, 2, none⟩ = some (.int .i64 0) := HW1.out.cell 2
          have a3 : w9.cell? ⟨w.heap.size + 1, 3, none⟩ = some (.int .i64 0) := HW1.out.cell 3
          have a4 : w9.cell? ⟨w.heap.size + 1, 4, none⟩ = some (.int .i64 0) := HW1.out.cell 4
          have b0 : w9.cell? ⟨w.heap.size + 1 + 1, 0, none⟩ = some (.slice A1 rs1.length c1) := HW2.out.cell 0
          have b1 : w9.cell? ⟨w.heap.size + 1 + 1, 1, none⟩ = some (.bool false) := HW2.out.cell 1
          have b2 : w9.cell? ⟨w.heap.size + 1 + 1, 2, none⟩ = some (.int .i64 0) := HW2.out.cell 2
          have b3 : w9.cell? ⟨w.heap.size + 1 + 1, 3, none⟩ = some (.int .i64 0) := HW2.out.cell 3
          have b4 : w9.cell? ⟨w.heap.size + 1 + 1, 4, none⟩ = some (.int .i64 0) := HW2.out.cell 4
          have fa0 := HW1.out.free 0
          have fa1 := HW1.out.free 1
          have fa2 := HW1.out.free 2
          have fa3 := HW1.out.free 3
          have fa4 := HW1.out.free 4
          have fb3 := HW2.out.free 3
          have fb4 := HW2.out.free 4
          go_wp2_with fail
          refine bodyPost_ret (v := .tuple #[.agg #[.slice A1 rs1.length c1, .bool false, .int .i64 0, .int .i64 0, .int .i64 0], .int .i64 0]) (by simp [results, Tryz.results7, go_sem, a0, a1, a2, a3, a4]) rfl ?_
          exact ropen_out HW1.out ((HF1.out.below HB5.out).below HB9.out) HM1.out ((HB1.out.trans (HB5.out.mono HB1.out.size)).trans (HB9.out.mono (Nat.le_trans HB1.out.size HB5.out.size))) HO2.out
        | some q =>
          obtain ⟨a, b⟩ := q
          rw [ht] at hno hyes
          obtain ⟨done, A9, c9, hd9, rfl, hst9⟩ := hyes [⟨1, a, []⟩, ⟨1, b, []⟩] rfl
          have ho2 := hst9.own
          obtain ⟨x, y, rfl⟩ := two_of hd9
          have hx : x.v = ⟨1, a, []⟩ := by have h9 := hd9; simp at h9; exact h9.1
          have hy : y.v = ⟨1, b, []⟩ := by have h9 := hd9; simp at h9; exact h9.2
          obtain ⟨b2, o2, rfl, hg2, -, hc0⟩ := (ho2.slK prN_len).2.at (j := 0) (by simp)
          obtain ⟨b3, o3, he3, -, -, hc1⟩ := (ho2.slK prN_len).2.at (j := 1) (by simp)
          injection he3 with he3; injection he3 with e1 e2
          subst e1; subst e2
          have d0 : w8.cell? ⟨b2, o2 + 1, none⟩ = some (.int .i64 a) := by
            have h1 := hc0 1 (by decide)
            rw [Nat.zero_mul, Nat.add_zero] at h1
            rw [h1]; show some (Value.int .i64 x.v.n) = _; rw [hx]
          have d1 : w8.cell? ⟨b2, o2 + 5 + 1, none⟩ = some (.int .i64 b) := by
            have h1 := hc1 1 (by decide)
            rw [Nat.one_mul] at h1
            rw [h1]; show some (Value.int .i64 y.v.n) = _; rw [hy]
          have HT : Hid (twoN (unframe bs).1 = some (a, b)) := Lib.hid (by rw [← HP.out]; exact ht)
          obtain ⟨q, hq⟩ : ∃ z, z = rightH a b := ⟨_, rfl⟩
          have HQ := Lib.hid hq
          have HR : Hid (∀ n, Calls Tryz.prog 27 #[.int .i64 a, .int .i64 b] (w8.drewN n) fun e w'' => e = .returned (.bool q) ∧ ∃ m, w'' = w8.drewN m) := Lib.hid fun n => by rw [hq]; exact RRight_q a b w8 n
          clear ht hno hyes hst9 ho2 hd9 hx hy hc0 hc1 hq t1 t2
          go_upto_region 16 with fail
          go_quiet (first | (go_at_call 27; exact HR.out _))
          obtain ⟨w9, hw9⟩ : ∃ z, z = w8.drewN nq := ⟨_, rfl⟩
          have HB9 : Hid (Below w5.heap.size w5 w9) := Lib.hid (by rw [hw9]; exact below_drewN HB8.out nq)
          have HW1 := Lib.hid (HY1.out.below HB9.out HY1.out.lt)
          have HW2 := Lib.hid (HY2.out.below HB9.out HY2.out.lt)
          have g0 : w9.cell? ⟨b2, o2 + 1, none⟩ = some (.int .i64 a) := by rw [hw9]; exact d0
          have g1 : w9.cell? ⟨b2, o2 + 5 + 1, none⟩ = some (.int .i64 b) := by rw [hw9]; exact d1
          have hne : ¬ b2 = w.heap.size + 1 + 1 := by
            have h1 := HB1.out.size
            have h2 := HX2.out.lt
            have h3 := HB5.out.size
            have h4 := HB7.out.size
            have h5 : w7.heap.size + 1 ≤ b2 := by rw [← World.size_alloc]; exact hg2
            omega
          have hne2 : ¬ w.heap.size + 1 + 1 = b2 := fun e => hne e.symm
          rw [← hw9]
          clear hw9 hg2 d0 d1
          have a0 : w9.cell? ⟨w.heap.size + 1, 0, none⟩ = some (.slice none 0 0) := HW1.out.cell 0
          have a1 : w9.cell? ⟨w.heap.size + 1, 1, none⟩ = some (.bool false) := HW1.out.cell 1
          have a2 : w9.cell? ⟨w.heap.size + 1, 2, none⟩ = some (.int .i64 0) := HW1.out.cell 2
          have a3 : w9.cell? ⟨w.heap.size + 1, 3, none⟩ = some (.int .i64 0) := HW1.out.cell 3
          have a4 : w9.cell? ⟨w.heap.size + 1, 4, none⟩ = some (.int .i64 0) := HW1.out.cell 4
          have b0 : w9.cell? ⟨w.heap.size + 1 + 1, 0, none⟩ = some (.slice A1 rs1.length c1) := HW2.out.cell 0
          have b1 : w9.cell? ⟨w.heap.size + 1 + 1, 1, none⟩ = some (.bool false) := HW2.out.cell 1
          have b2' : w9.cell? ⟨w.heap.size + 1 + 1, 2, none⟩ = some (.int .i64 0) := HW2.out.cell 2
          have b3 : w9.cell? ⟨w.heap.size + 1 + 1, 3, none⟩ = some (.int .i64 0) := HW2.out.cell 3
          have b4 : w9.cell? ⟨w.heap.size + 1 + 1, 4, none⟩ = some (.int .i64 0) := HW2.out.cell 4
          have fa0 := HW1.out.free 0
          have fa1 := HW1.out.free 1
          have fa2 := HW1.out.free 2
          have fa3 := HW1.out.free 3
          have fa4 := HW1.out.free 4
          have fb3 := HW2.out.free 3
          have fb4 := HW2.out.free 4
          cases q with
          | false =>
            have HO2 : Hid (openH s = (afterT s, (0, 0), 0)) := Lib.hid (by rw [HO.out, readH_c HT.out HQ.out.symm])
            go_wp2_with fail
            refine bodyPost_ret (v := .tuple #[.agg #[.slice A1 rs1.length c1, .bool false, .int .i64 0, .int .i64 0, .int .i64 0], .int .i64 0]) (by simp [results, Tryz.results7, go_sem, a0, a1, a2, a3, a4]) rfl ?_
            exact ropen_out HW1.out ((HF1.out.below HB5.out).below HB9.out) HM1.out ((HB1.out.trans (HB5.out.mono HB1.out.size)).trans (HB9.out.mono (Nat.le_trans HB1.out.size HB5.out.size))) HO2.out
          | true =>
            have HO2 : Hid (openH s = (afterT s, (a, b), 0)) := Lib.hid (by rw [HO.out, readH_d H1.out HT.out HQ.out.symm])
            go_wp2_with fail
            refine bodyPost_ret (v := .tuple #[.agg #[.slice A1 rs1.length c1, .bool false, .int .i64 0, .int .i64 a, .int .i64 b], .int .i64 0]) (by simp [results, Tryz.results7, go_sem, a0, a1, a2, a3, a4]) rfl ?_
            have hset : Frm (fun g => g = w.heap.size + 1 + 1) w9 ((w9.setCell ⟨w.heap.size + 1 + 1, 3, none⟩ (.int .i64 a)).setCell ⟨w.heap.size + 1 + 1, 4, none⟩ (.int .i64 b)) := ((Frm.refl (fun g => g = w.heap.size + 1 + 1) w9).setCell (p := ⟨w.heap.size + 1 + 1, 3, none⟩) (fun _ => rfl) _).setCell (p := ⟨w.heap.size + 1 + 1, 4, none⟩) (fun _ => rfl) _
            have hle : ∀ i, w.heap.size ≤ (⟨w.heap.size + 1 + 1, i, none⟩ : Addr).block := fun i => by show w.heap.size ≤ w.heap.size + 1 + 1; omega
            exact ropen_out (HW1.out.frm hset (by omega)) ((((HF1.out.below HB5.out).below HB9.out).far HW2.out (by decide) (by decide) 3 _).far (HW2.out.set_ 3 _) (by decide) (by decide) 4 _) HM1.out ((((HB1.out.trans (HB5.out.mono HB1.out.size)).trans (HB9.out.mono (Nat.le_trans HB1.out.size HB5.out.size))).setCell (hle 3) _).setCell (hle 4) _) HO2.out
      · have HO2 : Hid (openH s = (afterT s, (0, 0), 0)) := Lib.hid (by rw [HO.out, readH_a (fun h => hgood ⟨by rw [HKK.out]; exact h.1, by rw [HN.out]; exact h.2⟩)])
        have a0 : w7.cell? ⟨w.heap.size + 1, 0, none⟩ = some (.slice none 0 0) := HZ1.out.cell 0
        have a1 : w7.cell? ⟨w.heap.size + 1, 1, none⟩ = some (.bool false) := HZ1.out.cell 1
        have a2 : w7.cell? ⟨w.heap.size + 1, 2, none⟩ = some (.int .i64 0) := HZ1.out.cell 2
        have a3 : w7.cell? ⟨w.heap.size + 1, 3, none⟩ = some (.int .i64 0) := HZ1.out.cell 3
        have a4 : w7.cell? ⟨w.heap.size + 1, 4, none⟩ = some (.int .i64 0) := HZ1.out.cell 4
        have b0 : w7.cell? ⟨w.heap.size + 1 + 1, 0, none⟩ = some (.slice A1 rs1.length c1) := HZ2.out.cell 0
        have b1 : w7.cell? ⟨w.heap.size + 1 + 1, 1, none⟩ = some (.bool false) := HZ2.out.cell 1
        have b2 : w7.cell? ⟨w.heap.size + 1 + 1, 2, none⟩ = some (.int .i64 0) := HZ2.out.cell 2
        have b3 : w7.cell? ⟨w.heap.size + 1 + 1, 3, none⟩ = some (.int .i64 0) := HZ2.out.cell 3
        have b4 : w7.cell? ⟨w.heap.size + 1 + 1, 4, none⟩ = some (.int .i64 0) := HZ2.out.cell 4
        have fa0 := HZ1.out.free 0
        have fa1 := HZ1.out.free 1
        have fa2 := HZ1.out.free 2
        have fa3 := HZ1.out.free 3
        have fa4 := HZ1.out.free 4
        by_cases hk0 : kk = 0
        · have t1 : (kk != 0) = false := by rw [hk0]; rfl
          have t2 : ((n : Int) != (bs.length : Int)) = true := by rw [bne_iff_ne]; omega
          clear hgood hk0
          go_wp2_with fail
          refine bodyPost_ret (v := .tuple #[.agg #[.slice A1 rs1.length c1, .bool false, .int .i64 0, .int .i64 0, .int .i64 0], .int .i64 0]) (by simp [results, Tryz.results7, go_sem, a0, a1, a2, a3, a4]) rfl ?_
          exact ropen_out HZ1.out ((HF1.out.below HB5.out).below HB7.out) HM1.out ((HB1.out.trans (HB5.out.mono HB1.out.size)).trans (HB7.out.mono (Nat.le_trans HB1.out.size HB5.out.size))) HO2.out
        · have t1 : (kk != 0) = true := by rw [bne_iff_ne]; exact hk0
          clear hgood hk0
          go_wp2_with fail
          refine bodyPost_ret (v := .tuple #[.agg #[.slice A1 rs1.length c1, .bool false, .int .i64 0, .int .i64 0, .int .i64 0], .int .i64 0]) (by simp [results, Tryz.results7, go_sem, a0, a1, a2, a3, a4]) rfl ?_
          exact ropen_out HZ1.out ((HF1.out.below HB5.out).below HB7.out) HM1.out ((HB1.out.trans (HB5.out.mono HB1.out.size)).trans (HB7.out.mono (Nat.le_trans HB1.out.size HB5.out.size))) HO2.out
end Go.Proofs.YtfpomllhkbbipaaGreat
namespace Go.Proofs.YtfpomllhkbbipaaGreat
open Go Pk Dsk Hd

/-- the disk ahead of the step i -/
def stH (o : Option (List UInt8)) (bs : List UInt8) (f : Nat) : Nat → S
  | 0 => ⟨old o, false, f⟩
  | 1 => ⟨withT o [] [], false, f - 1⟩
  | 2 => ⟨withT o bs [], false, f - 2⟩
  | 3 => ⟨withT o bs bs, false, f - 3⟩
  | _ => ⟨old (some bs), false, f - 4⟩
def opK (i : Nat) : Int := if i = 0 then 1 else if i = 1 then 4 else if i = 2 then 6 else 3
def opZ (i : Nat) : ByteArray := if i = 3 then bH else ⟨#[]⟩
def opB (bs : List UInt8) (i : Nat) : List UInt8 := if i = 1 then bs else []
theorem opK_in (i : Nat) : 1 ≤ opK i ∧ opK i ≤ 6 := by unfold opK; (repeat' split) <;> decide
theorem opZ_le (i : Nat) : (opZ i).size ≤ maxLen := by unfold opZ; split <;> decide
theorem stH_up (o : Option (List UInt8)) (bs : List UInt8) (f i : Nat) (h : i ≤ 4) : (stH o bs f i).down = false ∧ (stH o bs f i).fuse = f - i := by
  match i, h with
  | 0, _ => exact ⟨rfl, rfl⟩
  | 1, _ => exact ⟨rfl, rfl⟩
  | 2, _ => exact ⟨rfl, rfl⟩
  | 3, _ => exact ⟨rfl, rfl⟩
  | 4, _ => exact ⟨rfl, rfl⟩
theorem sorted_old (o : Option (List UInt8)) : Sorted (old o) := by
  cases o with
  | none => simp [Sorted, old]
  | some b => simp [Sorted, old]
theorem sorted_withT (o : Option (List UInt8)) (x y : List UInt8) : Sorted (withT o x y) := by
  cases o with
  | none => simp [Sorted, withT, old]
  | some b => simp [Sorted, withT, old]; decide
theorem stH_sorted (o : Option (List UInt8)) (bs : List UInt8) (f i : Nat) : Sorted (stH o bs f i).files := by
  match i with
  | 0 => exact sorted_old o
  | 1 => exact sorted_withT o _ _
  | 2 => exact sorted_withT o _ _
  | 3 => exact sorted_withT o _ _
  | k + 4 => simp only [stH]; exact sorted_old _
theorem stH_len (o : Option (List UInt8)) (bs : List UInt8) (f i : Nat) : (stH o bs f i).files.length ≤ 2 := by
  match i with
  | 0 => cases o <;> simp [stH, old]
  | 1 => cases o <;> simp [stH, withT, old]
  | 2 => cases o <;> simp [stH, withT, old]
  | 3 => cases o <;> simp [stH, withT, old]
  | _ + 4 => simp [stH, old]
theorem nextF_no {f : Nat} (h : f ≠ 1) : nextF f = (false, f - 1) := by
  unfold nextF
  split
  · rename_i h0; subst h0; rfl
  · rw [decide_eq_false (by omega)]
theorem step_ok {o : Option (List UInt8)} {bs : List UInt8} {f i : Nat} (hl : bs.length ≤ 1000) (hi : i < 4) (h : f ≠ i + 1) (h0 : f = 0 ∨ i < f) :
    doStep (stH o bs f i) (opK i) (sname bT) (sname (opZ i)) 0 (opB bs i) = (stH o bs f (i + 1), 0) := by
  match i, hi with
  | 0, _ => exact (create_up o f (by rw [nextF_no h])).trans (by rw [nextF_no h]; rfl)
  | 1, _ => exact (write_up o bs (f - 1) (by rw [nextF_no (by omega)]) hl).trans (by rw [nextF_no (by omega), Nat.sub_sub]; rfl)
  | 2, _ => exact (sync_up o bs (f - 2) (by rw [nextF_no (by omega)])).trans (by rw [nextF_no (by omega), Nat.sub_sub]; rfl)
  | 3, _ => exact (rename_up o bs (f - 3) (by rw [nextF_no (by omega)])).trans (by rw [nextF_no (by omega), Nat.sub_sub]; rfl)
theorem step_bad {o : Option (List UInt8)} {bs : List UInt8} {f i : Nat} (hi : i < 4) (h : f = i + 1) :
    doStep (stH o bs f i) (opK i) (sname bT) (sname (opZ i)) 0 (opB bs i) = (⟨(stH o bs f i).files, true, 0⟩, 50) ∧ afterH o bs f = (⟨(stH o bs f i).files, true, 0⟩, 50) := by
  subst h
  match i, hi with
  | 0, _ => exact ⟨create_down o 1 rfl, rfl⟩
  | 1, _ => exact ⟨write_down o bs 1 rfl, rfl⟩
  | 2, _ => exact ⟨sync_down o bs 1 rfl, rfl⟩
  | 3, _ => exact ⟨rename_down o bs 1 rfl, rfl⟩
theorem after_good {o : Option (List UInt8)} {bs : List UInt8} {f : Nat} (h0 : f = 0 ∨ 4 < f) : afterH o bs f = (stH o bs f 4, 0) := by
  unfold afterH
  rw [if_neg (by omega), if_neg (by omega), if_neg (by omega), if_neg (by omega)]
  rfl
end Go.Proofs.YtfpomllhkbbipaaGreat
