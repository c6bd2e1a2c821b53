/- Layer 8: SnapPlays: its script, as it lies in memory. -/
import Derived.Test.YtfpomllhkbbipaaGreatDoorGBm
import Derived.Test.YtfpomllhkbbipaaGreatDoorGBn
import Derived.Test.YtfpomllhkbbipaaGreatDoorGBo
namespace Go.Proofs.YtfpomllhkbbipaaGreatDoor
open Go Go.RowKit Go.Joins Go.ChangeShapes Go.WideShapes Go.Deep Go.Maps Mem Pk Cf Dsk Sto
structure SopR where
 kind : Int
 x : SnT
 V : Option Addr
 a : Nat
 C : Option Addr
 b : Nat
 D : Option Addr
 d : Nat
 n : Int
 K : Option Addr
 kc : Nat
 keep : List Bool
def SopR.cells (o : SopR) : List Value := [.int .i64 o.kind, .int .i64 o.x.x, .int .i64 o.x.t, .slice o.V o.x.vs.length o.a, .slice o.C o.x.ls.length o.b, .slice o.D o.x.ds.length o.d, .int .i64 o.n, .slice o.K o.keep.length o.kc]
structure SopOK (B : Nat) (w : World) (o : SopR) : Prop where
 kind : (Lit.int .i64 o.kind).wf = true
 n : (Lit.int .i64 o.n).wf = true
 arg : ArgAt (fun g => g < B) w o.x o.V o.C o.D
 cap : o.x.ds.length ≤ o.d
 keep : ∃ te, SlB fBool te (fun g => g < B) w o.K o.keep
def SScript (B : Nat) (w : World) (A : Option Addr) (ops : List SopR) : Prop :=
 ops.length ≤ maxLen ∧ (0 < ops.length → ∃ b o, A = some ⟨b, o, none⟩ ∧ b < B ∧ ∀ j (h : j < ops.length) i, i < 8 → w.cell? ⟨b, o + j * 8 + i, none⟩ = (ops[j].cells)[i]?) ∧ ∀ o ∈ ops, SopOK B w o
section
variable {B : Nat} {w w' : World} {A : Option Addr} {ops : List SopR}
theorem SopOK.under {o : SopR} (h : SopOK B w o) (hb : Below B w w') : SopOK B w' o :=
 { h with arg := h.arg.same (fun g _ hg => hb.block g hg), keep := by obtain ⟨te, h1⟩ := h.keep; exact ⟨te, h1.under hb⟩ }
theorem SScript.under (h : SScript B w A ops) (hb : Below B w w') : SScript B w' A ops :=
 ⟨h.1, fun hn => by
  obtain ⟨b, o, e, hlt, hc⟩ := h.2.1 hn
  exact ⟨b, o, e, hlt, fun j hj i hi => (hb.cell (p := ⟨b, o + j * 8 + i, none⟩) hlt).trans (hc j hj i hi)⟩, fun o ho => (h.2.2 o ho).under hb⟩
theorem SScript.at (h : SScript B w A ops) {k : Nat} (hk : k < ops.length) : ∃ b o, A = some ⟨b, o, none⟩ ∧ b < B ∧ ∀ i, i < 8 → w.cell? ⟨b, o + k * 8 + i, none⟩ = (ops[k].cells)[i]? := by
 obtain ⟨b, o, e, hlt, hc⟩ := h.2.1 (by omega)
 exact ⟨b, o, e, hlt, hc k hk⟩
theorem SScript.ok (h : SScript B w A ops) {k : Nat} (hk : k < ops.length) : SopOK B w ops[k] := h.2.2 _ (List.getElem_mem hk)
end
theorem open_sscript {H : Type} {enc : TypeId × Value → H} {w : World} {v : Value} {d : DataW H} {ps : List MemPlace} (h : DataW.Trod enc Tryz.prog w 0 (fun _ => true) true 22 v d ps) (hv : ∃ A len cap, v = .slice A len cap) :
 ∃ (A : Option Addr) (cap : Nat) (ops : List SopR), v = .slice A ops.length cap ∧ SScript w.heap.size w A ops := by
 obtain ⟨A, len, cap, rfl⟩ := hv
 obtain ⟨xs, e, h1, h2, h3, h4, _⟩ := open_rows SopR.cells (SopOK w.heap.size w) Tryz.underlying22 (k := 8) (by kernel_rfl) (by decide) h (fun cs n y h hl => by
  match cs, hl with
  | [v0, v1, v2, v3, v4, v5, v6, v7], _ =>
    obtain ⟨y0, y1, y2, y3, n1, -, -, t0, t1, t2, t3⟩ := trod_struct4 Tryz.underlying46 h
    have kI : Tryz.prog.cellsOf 3 = 1 := by kernel_rfl
    have kS : Tryz.prog.cellsOf 43 = 5 := by kernel_rfl
    have kB : Tryz.prog.cellsOf 44 = 1 := by kernel_rfl
    simp [kI, kS, kB] at t0 t1 t2 t3
    obtain ⟨z0, z1, z2, z3, n2, -, -, u0, u1, u2, u3⟩ := trod_struct4 Tryz.underlying43 t1
    have k2 : Tryz.prog.cellsOf 2 = 1 := by kernel_rfl
    have kC : Tryz.prog.cellsOf 35 = 2 := by kernel_rfl
    have kD : Tryz.prog.cellsOf 36 = 1 := by kernel_rfl
    have kL : Tryz.prog.cellsOf 33 = 1 := by kernel_rfl
    simp [k2, kC, kD] at u0 u1 u2 u3
    obtain ⟨g0, g1, n3, -, -, c0, c1⟩ := trod_struct2 Tryz.underlying35 u2
    simp [kL] at c0 c1
    obtain ⟨k, rfl, w0⟩ := op_int Tryz.underlying3 t0
    obtain ⟨xi, rfl, -⟩ := op_int Tryz.underlying2 u0
    obtain ⟨xt, rfl, -⟩ := op_int Tryz.underlying2 u1
    obtain ⟨V, a, vs, rfl, -, -, hV, -⟩ := op_slice fI (fun _ => True) Tryz.underlying33 (by kernel_rfl) c0 (fun v n y h => by obtain ⟨z, e, _⟩ := op_int Tryz.underlying3 h; exact ⟨z, e, trivial⟩)
    obtain ⟨C, b, ls, rfl, -, -, hC, -⟩ := op_slice fI (fun _ => True) Tryz.underlying33 (by kernel_rfl) c1 (fun v n y h => by obtain ⟨z, e, _⟩ := op_int Tryz.underlying3 h; exact ⟨z, e, trivial⟩)
    obtain ⟨D, d, ds, rfl, hcd, -, hD, -⟩ := op_slice fB (fun _ => True) Tryz.underlying36 (by kernel_rfl) u3 (fun v n y h => op_byte Tryz.underlying5 h)
    obtain ⟨m, rfl, w3⟩ := op_int Tryz.underlying3 t2
    obtain ⟨K, kc, ks, rfl, -, -, hK, -⟩ := op_slice fBool (fun _ => True) Tryz.underlying44 (by kernel_rfl) t3 (fun v n y h => op_bool Tryz.underlying4 h)
    exact ⟨⟨k, ⟨xi, xt, vs, ls, ds⟩, V, a, C, b, D, d, m, K, kc, ks⟩, rfl, ⟨w0, w3, ⟨SlB.any hV (fun _ h => h), SlB.any hC (fun _ h => h), SlB.any hD (fun _ h => h)⟩, hcd, SlB.any hK (fun _ h => h)⟩⟩)
 subst e
 exact ⟨A, cap, xs, rfl, h3.1, h3.2, h4⟩
end Go.Proofs.YtfpomllhkbbipaaGreatDoor
namespace Go.Proofs.YtfpomllhkbbipaaGreatDoor
open Go Go.RowKit Go.Shelf Go.Sort Go.Maps Go.Lib Mem Pk Cf Dsk Go.Proofs.YtfpomllhkbbipaaGreatDoor.Nm Sto
def regionIn (n : Nat) : Code → Option Code
 | .region k ops d => if k == n then some (.region k ops d) else none
 | .seq a b => match regionIn n a with
   | some c => some c
   | none => regionIn n b
 | .cond _ a b => match regionIn n a with
   | some c => some c
   | none => regionIn n b
 | .block _ c => regionIn n c
 | .loop c => regionIn n c
 | _ => none
noncomputable def code18 : Code := ((Tryz.f3.body.bind (regionIn 18)).getD .skip)
theorem Blk.held9 {W : World} {g : Nat} {t : TypeId} {c0 c1 c2 c3 c4 c5 c6 c7 c8 : Value} (h : Blk W g t #[c0, c1, c2, c3, c4, c5, c6, c7, c8]) : W.cell? ⟨g, 0, none⟩ = some c0 ∧ W.cell? ⟨g, 1, none⟩ = some c1 ∧ W.cell? ⟨g, 2, none⟩ = some c2 ∧ W.cell? ⟨g, 3, none⟩ = some c3 ∧ W.cell? ⟨g, 4, none⟩ = some c4 ∧ W.cell? ⟨g, 5, none⟩ = some c5 ∧ W.cell? ⟨g, 6, none⟩ = some c6 ∧ W.cell? ⟨g, 7, none⟩ = some c7 ∧ W.cell? ⟨g, 8, none⟩ = some c8 :=
 ⟨h.cell 0, h.cell 1, h.cell 2, h.cell 3, h.cell 4, h.cell 5, h.cell 6, h.cell 7, h.cell 8⟩
theorem ArgAt.put9b {F : Nat → Prop} {x : SnT} {A C D : Option Addr} {g n : Nat} {W : World} {t : TypeId} {cs : Array Value} (_ : Blk W g t cs) (hn : n ≤ g) (hF : ∀ k, F k → k < n) (h : ArgAt F W x A C D) (v0 v1 v2 v3 v4 v5 v6 v7 v8 : Value) : ArgAt F (((((((((W.setCell ⟨g, 0, none⟩ v0).setCell ⟨g, 1, none⟩ v1).setCell ⟨g, 2, none⟩ v2).setCell ⟨g, 3, none⟩ v3).setCell ⟨g, 4, none⟩ v4).setCell ⟨g, 5, none⟩ v5).setCell ⟨g, 6, none⟩ v6).setCell ⟨g, 7, none⟩ v7).setCell ⟨g, 8, none⟩ v8) x A C D :=
 ArgAt.put9 (g := g) (fun k hk e => by have := hF k hk; omega) h v0 v1 v2 v3 v4 v5 v6 v7 v8
set_option maxRecDepth 1000000 in
set_option maxHeartbeats 16000000 in
theorem reg18_any {Q : Exit → Act → World → Prop} {F R : Nat → Prop} {wq : World} {bm ob : Nat} {s s9 : S} {l l9 : Option SnT} {kk : Nat} {x : SnT} {oV oC oD V5 C5 D5 A5 : Option Addr} {oa ob' od a5 b5 d5 c5 : Nat} {rs5 : List RFile}
 (HPK : Hid (∀ W, Below wq.heap.size wq W → (W.cell? ⟨bm, 0, none⟩ = some (.slice A5 rs5.length c5) ∧ W.cell? ⟨bm, 1, none⟩ = some (.bool s.down) ∧ W.cell? ⟨bm, 2, none⟩ = some (.int .i64 s.fuse) ∧ W.cell? ⟨bm, 3, none⟩ = some (.int .i64 (l.getD zS).x) ∧ W.cell? ⟨bm, 4, none⟩ = some (.int .i64 (l.getD zS).t) ∧ W.cell? ⟨bm, 5, none⟩ = some (.slice V5 (l.getD zS).vs.length a5) ∧ W.cell? ⟨bm, 6, none⟩ = some (.slice C5 (l.getD zS).ls.length b5) ∧ W.cell? ⟨bm, 7, none⟩ = some (.slice D5 (l.getD zS).ds.length d5) ∧ W.cell? ⟨bm, 8, none⟩ = some (.bool l.isSome)) ∧ (W.cell? ⟨ob, 1, none⟩ = some (.int .i64 x.x) ∧ W.cell? ⟨ob, 2, none⟩ = some (.int .i64 x.t) ∧ W.cell? ⟨ob, 3, none⟩ = some (.slice oV x.vs.length oa) ∧ W.cell? ⟨ob, 4, none⟩ = some (.slice oC x.ls.length ob') ∧ W.cell? ⟨ob, 5, none⟩ = some (.slice oD x.ds.length od))))
 (HRP : Hid (∀ W, Below wq.heap.size wq W → Calls Tryz.prog 12 #[.agg #[.slice A5 rs5.length c5, .bool s.down, .int .i64 s.fuse, .int .i64 (l.getD zS).x, .int .i64 (l.getD zS).t, .slice V5 (l.getD zS).vs.length a5, .slice C5 (l.getD zS).ls.length b5, .slice D5 (l.getD zS).ds.length d5, .bool l.isSome], .agg #[.int .i64 x.x, .int .i64 x.t, .slice oV x.vs.length oa, .slice oC x.ls.length ob', .slice oD x.ds.length od]] W (R8P F R (s9, l9, kk) W)))
 (hR : ∀ g, R g → g < wq.heap.size) (hp : ∀ c a w d v, Q (.panic c) (Act.put a d v) w → Q (.panic c) a w) (u0 u1 u2 u3 u4 u5 u7 u8 u9 u10 u12 u13 u14 u15 u16 u17 u18 u19 u20 u21 u22 u23 u24 u25 u26 u27 u28 u29 u30 u31 u32 u33 u34 u35 u36 u37 u38 u39 u40 u41 u42 u43 u44 u45 u46 u47 u48 u49 u50 u51 u52 u53 u54 u55 u56 u57 u58 u59 u60 u61 u62 u63 u64 u65 u66 u67 u68 u69 u70 u71 u72 u73 u74 u75 u76 u77 u78 u79 u80 u81 u82 u83 u84 u85 u86 u87 u88 u89 u90 u91 u92 u93 u94 u95 u96 u97 u98 u99 u100 u101 u102 u103 u104 u105 u106 u107 u108 u109 u110 u111 u112 u113 u114 u115 u116 u117 u118 u119 u120 u121 u122 u123 u124 u125 u126 u127 u128 u129 u130 u131 u132 u133 u134 u135 u136 u137 u138 u139 u140 u141 u142 u143 u144 u145 u146 u147 u148 u149 u150 u151 u152 u153 u154 u155 u156 u157 u158 u159 u160 u161 u162 u163 u164 u165 u166 u167 u168 u169 u170 u171 u172 u173 u174 u175 u176 u177 u178 u179 u180 u181 u182 u183 u184 u185 u186 u187 u188 u189 u190 u191 u192 u193 u194 u195 u196 u197 u198 u199 u200 u201 u202 u203 : Value)
 (hQ : ∀ (N : Nat) (A6 : Option Addr) (c6 : Nat) (rs6 : List RFile) (V6 C6 D6 : Option Addr) (a6 b6 d6 : Nat) (wx : World), wq.heap.size ≤ N → Blk wx N 40 #[.slice A6 rs6.length c6, .bool s9.down, .int .i64 s9.fuse, .int .i64 (l9.getD zS).x, .int .i64 (l9.getD zS).t, .slice V6 (l9.getD zS).vs.length a6, .slice C6 (l9.getD zS).ls.length b6, .slice D6 (l9.getD zS).ds.length d6, .bool l9.isSome] →
  Files (up F wq) wx A6 rs6 → rs6.map RFile.file = s9.files → ArgAt R wx (l9.getD zS) V6 C6 D6 → Below wq.heap.size wq wx → ∀ v69 v70 v71 v72 v73 v68 v74 v75 : Value, Q .normal ⟨#[u0, u1, u2, u3, u4, u5, .pointer (some ⟨bm, 0, none⟩), u7, u8, u9, u10, .pointer (some ⟨ob, 0, none⟩), u12, .pointer (some ⟨N, 0, none⟩), .int .i64 (kk : Int), u15, u16, u17, u18, u19, u20, u21, u22, u23, u24, u25, u26, u27, u28, u29, u30, u31, u32, u33, u34, u35, u36, u37, u38, u39, u40, u41, u42, u43, u44, u45, u46, u47, u48, u49, u50, u51, u52, u53, u54, u55, u56, u57, u58, u59, u60, u61, u62, u63, u64, u65, u66, u67, v68, v69, v70, v71, v72, v73, v74, v75, u76, u77, u78, u79, u80, u81, u82, u83, u84, u85, u86, u87, u88, u89, u90, u91, u92, u93, u94, u95, u96, u97, u98, u99, u100, u101, u102, u103, u104, u105, u106, u107, u108, u109, u110, u111, u112, u113, u114, u115, u116, u117, u118, u119, u120, u121, u122, u123, u124, u125, u126, u127, u128, u129, u130, u131, u132, u133, u134, u135, u136, u137, u138, u139, u140, u141, u142, u143, u144, u145, u146, u147, u148, u149, u150, u151, u152, u153, u154, u155, u156, u157, u158, u159, u160, u161, u162, u163, u164, u165, u166, u167, u168, u169, u170, u171, u172, u173, u174, u175, u176, u177, u178, u179, u180, u181, u182, u183, u184, u185, u186, u187, u188, u189, u190, u191, u192, u193, u194, u195, u196, u197, u198, u199, u200, u201, u202, u203], []⟩ wx) :
 Code.wp Tryz.prog code18 Q ⟨#[u0, u1, u2, u3, u4, u5, .pointer (some ⟨bm, 0, none⟩), u7, u8, u9, u10, .pointer (some ⟨ob, 0, none⟩), u12, u13, u14, u15, u16, u17, u18, u19, u20, u21, u22, u23, u24, u25, u26, u27, u28, u29, u30, u31, u32, u33, u34, u35, u36, u37, u38, u39, u40, u41, u42, u43, u44, u45, u46, u47, u48, u49, u50, u51, u52, u53, u54, u55, u56, u57, u58, u59, u60, u61, u62, u63, u64, u65, u66, u67, u68, u69, u70, u71, u72, u73, u74, u75, u76, u77, u78, u79, u80, u81, u82, u83, u84, u85, u86, u87, u88, u89, u90, u91, u92, u93, u94, u95, u96, u97, u98, u99, u100, u101, u102, u103, u104, u105, u106, u107, u108, u109, u110, u111, u112, u113, u114, u115, u116, u117, u118, u119, u120, u121, u122, u123, u124, u125, u126, u127, u128, u129, u130, u131, u132, u133, u134, u135, u136, u137, u138, u139, u140, u141, u142, u143, u144, u145, u146, u147, u148, u149, u150, u151, u152, u153, u154, u155, u156, u157, u158, u159, u160, u161, u162, u163, u164, u165, u166, u167, u168, u169, u170, u171, u172, u173, u174, u175, u176, u177, u178, u179, u180, u181, u182, u183, u184, u185, u186, u187, u188, u189, u190, u191, u192, u193, u194, u195, u196, u197, u198, u199, u200, u201, u202, u203], []⟩ wq := by
 conv => arg 2; whnf
 have HBX : Hid (Below wq.heap.size wq wq.drew) := Lib.hid (Below.refl wq.heap.size wq).drew
 refine AnyZ.start (S := (fun W => (W.cell? ⟨bm, 0, none⟩ = some (.slice A5 rs5.length c5) ∧ W.cell? ⟨bm, 1, none⟩ = some (.bool s.down) ∧ W.cell? ⟨bm, 2, none⟩ = some (.int .i64 s.fuse) ∧ W.cell? ⟨bm, 3, none⟩ = some (.int .i64 (l.getD zS).x) ∧ W.cell? ⟨bm, 4, none⟩ = some (.int .i64 (l.getD zS).t) ∧ W.cell? ⟨bm, 5, none⟩ = some (.slice V5 (l.getD zS).vs.length a5) ∧ W.cell? ⟨bm, 6, none⟩ = some (.slice C5 (l.getD zS).ls.length b5) ∧ W.cell? ⟨bm, 7, none⟩ = some (.slice D5 (l.getD zS).ds.length d5) ∧ W.cell? ⟨bm, 8, none⟩ = some (.bool l.isSome)) ∧ (W.cell? ⟨ob, 1, none⟩ = some (.int .i64 x.x) ∧ W.cell? ⟨ob, 2, none⟩ = some (.int .i64 x.t) ∧ W.cell? ⟨ob, 3, none⟩ = some (.slice oV x.vs.length oa) ∧ W.cell? ⟨ob, 4, none⟩ = some (.slice oC x.ls.length ob') ∧ W.cell? ⟨ob, 5, none⟩ = some (.slice oD x.ds.length od)))) (z := 1011) (by kernel_rfl) ?_ (fun hHeld => ?_)
 ·exact HPK.out _ HBX.out
 refine AnyZ.take (i := 0) (v := ?_) rfl (by kernel_rfl) (by kernel_rfl) (by kernel_rfl) (by kernel_rfl) (fun c a w h => hp c a w _ _ h) (Or.inl ⟨by kernel_rfl, ?_⟩) (by assumption) ?_
 rotate_left
 ·intro w hSw; (try dsimp only at hSw); go_simp; try with_reducible rfl
 try simp only [Act.put, List.getElem_toArray, List.setIfInBounds_toArray]
 refine AnyZ.take (i := 1) (v := ?_) rfl (by kernel_rfl) (by kernel_rfl) (by kernel_rfl) (by kernel_rfl) (fun c a w h => hp c a w _ _ h) (Or.inl ⟨by kernel_rfl, ?_⟩) (by assumption) ?_
 rotate_left
 ·intro w hSw; (try dsimp only at hSw); go_simp; try with_reducible rfl
 try simp only [Act.put, List.getElem_toArray, List.getElem_cons_succ, List.getElem_cons_zero, List.setIfInBounds_toArray, List.set_cons_zero, List.set_cons_succ]
 refine AnyZ.take (i := 2) (v := ?_) rfl (by kernel_rfl) (by kernel_rfl) (by kernel_rfl) (by kernel_rfl) (fun c a w h => hp c a w _ _ h) (Or.inl ⟨by kernel_rfl, ?_⟩) (by assumption) ?_
 rotate_left
 ·intro w hSw; (try dsimp only at hSw); go_simp; try with_reducible rfl
 try simp only [Act.put, List.getElem_toArray, List.getElem_cons_succ, List.getElem_cons_zero, List.setIfInBounds_toArray, List.set_cons_zero, List.set_cons_succ]
 refine AnyZ.ready (rs := [3, 8]) (by kernel_rfl) (by simp) ?_
 refine AllZ.cons rfl (fun K hK => ?_) (AllZ.cons rfl (fun K hK => ?_) AllZ.nil)
 ·go_simp
  (with_reducible refine of_any.mono ?_); rintro e wi ⟨rfl, hbi⟩
  try (replace HNB := Lib.hid (HNB.out.below hbi HNB.out.lt); obtain ⟨n0, n1, n2, n3, n4, n5, n6, n7, n8⟩ := Blk.held9 HNB.out; have nf0 := HNB.out.free 0; have nf1 := HNB.out.free 1; have nf2 := HNB.out.free 2; have nf3 := HNB.out.free 3; have nf4 := HNB.out.free 4; have nf5 := HNB.out.free 5; have nf6 := HNB.out.free 6; have nf7 := HNB.out.free 7; have nf8 := HNB.out.free 8)
  replace HBX := Lib.hid (HBX.out.trans (hbi.mono HBX.out.size))
  clear hbi
  refine hK.out _ _ ?_ (fun hHeld => ?_)
  ·exact HPK.out _ HBX.out
  clear hK K
  try simp only [Act.put, List.getElem_toArray, List.getElem_cons_succ, List.getElem_cons_zero, List.setIfInBounds_toArray, List.set_cons_zero, List.set_cons_succ]
  refine AnyZ.ready (rs := [4, 8]) (by kernel_rfl) (by simp) ?_
  refine AllZ.cons rfl (fun K hK => ?_) (AllZ.cons rfl (fun K hK => ?_) AllZ.nil)
  ·go_simp
   (with_reducible refine (HRP.out _ HBX.out).mono ?_); rintro e wj ⟨A6, c6, rs6, V6, C6, D6, a6, b6, d6, rfl, hf2, hm2, hr2, hbj⟩
   have HF2 : Hid (Files (up F wq) wj A6 rs6) := Lib.hid (hf2.mono (fun g _ hg => hg.elim .inl (fun h => .inr (Nat.le_trans HBX.out.size h))))
   have HM2 := Lib.hid hm2
   have HR2 := Lib.hid hr2
   try (replace HNB := Lib.hid (HNB.out.below hbj HNB.out.lt); obtain ⟨n0, n1, n2, n3, n4, n5, n6, n7, n8⟩ := Blk.held9 HNB.out; have nf0 := HNB.out.free 0; have nf1 := HNB.out.free 1; have nf2 := HNB.out.free 2; have nf3 := HNB.out.free 3; have nf4 := HNB.out.free 4; have nf5 := HNB.out.free 5; have nf6 := HNB.out.free 6; have nf7 := HNB.out.free 7; have nf8 := HNB.out.free 8)
   replace HBX := Lib.hid (HBX.out.trans (hbj.mono HBX.out.size))
   clear hf2 hm2 hr2 hbj
   refine hK.out _ _ ?_ (fun hHeld => ?_)
   ·exact HPK.out _ HBX.out
   clear hK K
   try simp only []
   refine AnyZ.take (i := 5) (v := ?_) rfl (by kernel_rfl) (by kernel_rfl) (by kernel_rfl) (by kernel_rfl) (fun c a w h => hp c a w _ _ h) (Or.inl ⟨by kernel_rfl, ?_⟩) (by assumption) ?_
   rotate_left
   ·intro w hSw; (try dsimp only at hSw); go_simp; try with_reducible rfl
   try simp only [Act.put, List.getElem_toArray, List.getElem_cons_succ, List.getElem_cons_zero, List.setIfInBounds_toArray, List.set_cons_zero, List.set_cons_succ]
   refine AnyZ.take (i := 6) (v := ?_) rfl (by kernel_rfl) (by kernel_rfl) (by kernel_rfl) (by kernel_rfl) (fun c a w h => hp c a w _ _ h) (Or.inl ⟨by kernel_rfl, ?_⟩) (by assumption) ?_
   rotate_left
   ·intro w hSw; (try dsimp only at hSw); go_simp; try with_reducible rfl
   try simp only [Act.put, List.getElem_toArray, List.getElem_cons_succ, List.getElem_cons_zero, List.setIfInBounds_toArray, List.set_cons_zero, List.set_cons_succ]
   refine AnyZ.take (i := 7) (v := ?_) rfl (by kernel_rfl) (by kernel_rfl) (by kernel_rfl) (by kernel_rfl) (fun c a w h => hp c a w _ _ h) (Or.inl ⟨by kernel_rfl, ?_⟩) (by assumption) ?_
   rotate_left
   ·intro w hSw; (try dsimp only at hSw); go_simp; try with_reducible rfl
   try simp only [Act.put, List.getElem_toArray, List.getElem_cons_succ, List.getElem_cons_zero, List.setIfInBounds_toArray, List.set_cons_zero, List.set_cons_succ]
   refine AnyZ.ready (rs := [8]) (by kernel_rfl) (by simp) ?_
   refine AllZ.cons rfl (fun K hK => ?_) AllZ.nil
   go_simp
   have HNG := Lib.hid HBX.out.size
   have HNB := Lib.hid (newBx9 HBX.out 40 #[.slice none 0 0, .bool false, .int .i64 0, .int .i64 0, .int .i64 0, .slice none 0 0, .slice none 0 0, .slice none 0 0, .bool false])
   try have HBXF := Lib.hid (HBX.out.alloc HBX.out.size (.cells #[.slice A6 rs6.length c6, .bool s9.down, .int .i64 s9.fuse, .int .i64 (l9.getD zS).x, .int .i64 (l9.getD zS).t, .slice V6 (l9.getD zS).vs.length a6, .slice C6 (l9.getD zS).ls.length b6, .slice D6 (l9.getD zS).ds.length d6, .bool l9.isSome] 40))
   try have HNBF := Lib.hid (newBx9 HBX.out 40 #[.slice A6 rs6.length c6, .bool s9.down, .int .i64 s9.fuse, .int .i64 (l9.getD zS).x, .int .i64 (l9.getD zS).t, .slice V6 (l9.getD zS).vs.length a6, .slice C6 (l9.getD zS).ls.length b6, .slice D6 (l9.getD zS).ds.length d6, .bool l9.isSome])
   try have HF2F := Lib.hid (HF2.out.below ((Below.refl _ _).alloc (Nat.le_refl _) (.cells #[.slice A6 rs6.length c6, .bool s9.down, .int .i64 s9.fuse, .int .i64 (l9.getD zS).x, .int .i64 (l9.getD zS).t, .slice V6 (l9.getD zS).vs.length a6, .slice C6 (l9.getD zS).ls.length b6, .slice D6 (l9.getD zS).ds.length d6, .bool l9.isSome] 40)))
   try have HR2F := Lib.hid (HR2.out.below ((Below.refl _ _).alloc (Nat.le_refl _) (.cells #[.slice A6 rs6.length c6, .bool s9.down, .int .i64 s9.fuse, .int .i64 (l9.getD zS).x, .int .i64 (l9.getD zS).t, .slice V6 (l9.getD zS).vs.length a6, .slice C6 (l9.getD zS).ls.length b6, .slice D6 (l9.getD zS).ds.length d6, .bool l9.isSome] 40)))
   try replace HF2 := Lib.hid (HF2.out.below ((Below.refl _ _).alloc (Nat.le_refl _) (.cells #[.slice none 0 0, .bool false, .int .i64 0, .int .i64 0, .int .i64 0, .slice none 0 0, .slice none 0 0, .slice none 0 0, .bool false] 40)))
   try replace HR2 := Lib.hid (HR2.out.below ((Below.refl _ _).alloc (Nat.le_refl _) (.cells #[.slice none 0 0, .bool false, .int .i64 0, .int .i64 0, .int .i64 0, .slice none 0 0, .slice none 0 0, .slice none 0 0, .bool false] 40)))
   replace HBX := Lib.hid (HBX.out.alloc HBX.out.size (.cells #[.slice none 0 0, .bool false, .int .i64 0, .int .i64 0, .int .i64 0, .slice none 0 0, .slice none 0 0, .slice none 0 0, .bool false] 40))
   try change Hid (Below wq.heap.size wq (wq.alloc (.cells #[.slice none 0 0, .bool false, .int .i64 0, .int .i64 0, .int .i64 0, .slice none 0 0, .slice none 0 0, .slice none 0 0, .bool false] 40)).drew) at HBX
   try change Hid (Blk (wq.alloc (.cells #[.slice none 0 0, .bool false, .int .i64 0, .int .i64 0, .int .i64 0, .slice none 0 0, .slice none 0 0, .slice none 0 0, .bool false] 40)).drew wq.heap.size 40 #[.slice none 0 0, .bool false, .int .i64 0, .int .i64 0, .int .i64 0, .slice none 0 0, .slice none 0 0, .slice none 0 0, .bool false]) at HNB
   refine hK.out _ _ ?_ (fun hHeld => ?_)
   ·exact HPK.out _ HBX.out
   clear hK K
   try simp only [Act.put, List.getElem_toArray, List.getElem_cons_succ, List.getElem_cons_zero, List.setIfInBounds_toArray, List.set_cons_zero, List.set_cons_succ]
   refine AnyZ.ready (rs := [9]) (by kernel_rfl) (by simp) ?_
   refine AllZ.cons rfl (fun K hK => ?_) AllZ.nil
   go_simp
   first
    | (replace HBX := HBXF; replace HF2 := HF2F; replace HR2 := HR2F; replace HNB := HNBF; clear HBXF HF2F HR2F HNBF)
    | (replace HBX := Lib.hid (Below.put9 HNG.out HBX.out (.slice A6 rs6.length c6) (.bool s9.down) (.int .i64 s9.fuse) (.int .i64 (l9.getD zS).x) (.int .i64 (l9.getD zS).t) (.slice V6 (l9.getD zS).vs.length a6) (.slice C6 (l9.getD zS).ls.length b6) (.slice D6 (l9.getD zS).ds.length d6) (.bool l9.isSome)); replace HF2 := Lib.hid (Files.put9 (by decide) (by decide) HF2.out HNB.out (.slice A6 rs6.length c6) (.bool s9.down) (.int .i64 s9.fuse) (.int .i64 (l9.getD zS).x) (.int .i64 (l9.getD zS).t) (.slice V6 (l9.getD zS).vs.length a6) (.slice C6 (l9.getD zS).ls.length b6) (.slice D6 (l9.getD zS).ds.length d6) (.bool l9.isSome)); replace HR2 := Lib.hid (ArgAt.put9b HNB.out HNG.out hR HR2.out (.slice A6 rs6.length c6) (.bool s9.down) (.int .i64 s9.fuse) (.int .i64 (l9.getD zS).x) (.int .i64 (l9.getD zS).t) (.slice V6 (l9.getD zS).vs.length a6) (.slice C6 (l9.getD zS).ls.length b6) (.slice D6 (l9.getD zS).ds.length d6) (.bool l9.isSome)); replace HNB := Lib.hid (Blk.put9 HNB.out (.slice A6 rs6.length c6) (.bool s9.down) (.int .i64 s9.fuse) (.int .i64 (l9.getD zS).x) (.int .i64 (l9.getD zS).t) (.slice V6 (l9.getD zS).vs.length a6) (.slice C6 (l9.getD zS).ls.length b6) (.slice D6 (l9.getD zS).ds.length d6) (.bool l9.isSome)))
   refine hK.out _ _ ?_ (fun hHeld => ?_)
   ·exact HPK.out _ HBX.out
   clear hK K
   try simp only [Act.put, List.getElem_toArray, List.getElem_cons_succ, List.getElem_cons_zero, List.setIfInBounds_toArray, List.set_cons_zero, List.set_cons_succ]
   refine AnyZ.take (i := 10) (v := ?_) rfl (by kernel_rfl) (by kernel_rfl) (by kernel_rfl) (by kernel_rfl) (fun c a w h => hp c a w _ _ h) (Or.inl ⟨by kernel_rfl, ?_⟩) (by assumption) ?_
   rotate_left
   ·intro w hSw; (try dsimp only at hSw); go_simp; try with_reducible rfl
   try simp only [Act.put, List.getElem_toArray, List.getElem_cons_succ, List.getElem_cons_zero, List.setIfInBounds_toArray, List.set_cons_zero, List.set_cons_succ]
   refine AnyZ.done (by kernel_rfl) ?_ _
   exact hQ _ _ _ _ _ _ _ _ _ _ _ HNG.out HNB.out HF2.out HM2.out HR2.out HBX.out _ _ _ _ _ _ _ _
  ·go_simp
   have HNG := Lib.hid HBX.out.size
   have HNB := Lib.hid (newBx9 HBX.out 40 #[.slice none 0 0, .bool false, .int .i64 0, .int .i64 0, .int .i64 0, .slice none 0 0, .slice none 0 0, .slice none 0 0, .bool false])
   try have HBXF := Lib.hid (HBX.out.alloc HBX.out.size (.cells #[.slice A6 rs6.length c6, .bool s9.down, .int .i64 s9.fuse, .int .i64 (l9.getD zS).x, .int .i64 (l9.getD zS).t, .slice V6 (l9.getD zS).vs.length a6, .slice C6 (l9.getD zS).ls.length b6, .slice D6 (l9.getD zS).ds.length d6, .bool l9.isSome] 40))
   try have HNBF := Lib.hid (newBx9 HBX.out 40 #[.slice A6 rs6.length c6, .bool s9.down, .int .i64 s9.fuse, .int .i64 (l9.getD zS).x, .int .i64 (l9.getD zS).t, .slice V6 (l9.getD zS).vs.length a6, .slice C6 (l9.getD zS).ls.length b6, .slice D6 (l9.getD zS).ds.length d6, .bool l9.isSome])
   try have HF2F := Lib.hid (HF2.out.below ((Below.refl _ _).alloc (Nat.le_refl _) (.cells #[.slice A6 rs6.length c6, .bool s9.down, .int .i64 s9.fuse, .int .i64 (l9.getD zS).x, .int .i64 (l9.getD zS).t, .slice V6 (l9.getD zS).vs.length a6, .slice C6 (l9.getD zS).ls.length b6, .slice D6 (l9.getD zS).ds.length d6, .bool l9.isSome] 40)))
   try have HR2F := Lib.hid (HR2.out.below ((Below.refl _ _).alloc (Nat.le_refl _) (.cells #[.slice A6 rs6.length c6, .bool s9.down, .int .i64 s9.fuse, .int .i64 (l9.getD zS).x, .int .i64 (l9.getD zS).t, .slice V6 (l9.getD zS).vs.length a6, .slice C6 (l9.getD zS).ls.length b6, .slice D6 (l9.getD zS).ds.length d6, .bool l9.isSome] 40)))
   try replace HF2 := Lib.hid (HF2.out.below ((Below.refl _ _).alloc (Nat.le_refl _) (.cells #[.slice none 0 0, .bool false, .int .i64 0, .int .i64 0, .int .i64 0, .slice none 0 0, .slice none 0 0, .slice none 0 0, .bool false] 40)))
   try replace HR2 := Lib.hid (HR2.out.below ((Below.refl _ _).alloc (Nat.le_refl _) (.cells #[.slice none 0 0, .bool false, .int .i64 0, .int .i64 0, .int .i64 0, .slice none 0 0, .slice none 0 0, .slice none 0 0, .bool false] 40)))
   replace HBX := Lib.hid (HBX.out.alloc HBX.out.size (.cells #[.slice none 0 0, .bool false, .int .i64 0, .int .i64 0, .int .i64 0, .slice none 0 0, .slice none 0 0, .slice none 0 0, .bool false] 40))
   try change Hid (Below wq.heap.size wq (wq.alloc (.cells #[.slice none 0 0, .bool false, .int .i64 0, .int .i64 0, .int .i64 0, .slice none 0 0, .slice none 0 0, .slice none 0 0, .bool false] 40)).drew) at HBX
   try change Hid (Blk (wq.alloc (.cells #[.slice none 0 0, .bool false, .int .i64 0, .int .i64 0, .int .i64 0, .slice none 0 0, .slice none 0 0, .slice none 0 0, .bool false] 40)).drew wq.heap.size 40 #[.slice none 0 0, .bool false, .int .i64 0, .int .i64 0, .int .i64 0, .slice none 0 0, .slice none 0 0, .slice none 0 0, .bool false]) at HNB
   refine hK.out _ _ ?_ (fun hHeld => ?_)
   ·exact HPK.out _ HBX.out
   clear hK K
   try simp only [Act.put, List.getElem_toArray, List.getElem_cons_succ, List.getElem_cons_zero, List.setIfInBounds_toArray, List.set_cons_zero, List.set_cons_succ]
   refine AnyZ.ready (rs := [4]) (by kernel_rfl) (by simp) ?_
   refine AllZ.cons rfl (fun K hK => ?_) AllZ.nil
   go_simp
   (with_reducible refine (HRP.out _ HBX.out).mono ?_); rintro e wj ⟨A6, c6, rs6, V6, C6, D6, a6, b6, d6, rfl, hf2, hm2, hr2, hbj⟩
   have HF2 : Hid (Files (up F wq) wj A6 rs6) := Lib.hid (hf2.mono (fun g _ hg => hg.elim .inl (fun h => .inr (Nat.le_trans HBX.out.size h))))
   have HM2 := Lib.hid hm2
   have HR2 := Lib.hid hr2
   try (replace HNB := Lib.hid (HNB.out.below hbj HNB.out.lt); obtain ⟨n0, n1, n2, n3, n4, n5, n6, n7, n8⟩ := Blk.held9 HNB.out; have nf0 := HNB.out.free 0; have nf1 := HNB.out.free 1; have nf2 := HNB.out.free 2; have nf3 := HNB.out.free 3; have nf4 := HNB.out.free 4; have nf5 := HNB.out.free 5; have nf6 := HNB.out.free 6; have nf7 := HNB.out.free 7; have nf8 := HNB.out.free 8)
   replace HBX := Lib.hid (HBX.out.trans (hbj.mono HBX.out.size))
   clear hf2 hm2 hr2 hbj
   refine hK.out _ _ ?_ (fun hHeld => ?_)
   ·exact HPK.out _ HBX.out
   clear hK K
   try simp only []
   refine AnyZ.take (i := 5) (v := ?_) rfl (by kernel_rfl) (by kernel_rfl) (by kernel_rfl) (by kernel_rfl) (fun c a w h => hp c a w _ _ h) (Or.inl ⟨by kernel_rfl, ?_⟩) (by assumption) ?_
   rotate_left
   ·intro w hSw; (try dsimp only at hSw); go_simp; try with_reducible rfl
   try simp only [Act.put, List.getElem_toArray, List.getElem_cons_succ, List.getElem_cons_zero, List.setIfInBounds_toArray, List.set_cons_zero, List.set_cons_succ]
   refine AnyZ.take (i := 6) (v := ?_) rfl (by kernel_rfl) (by kernel_rfl) (by kernel_rfl) (by kernel_rfl) (fun c a w h => hp c a w _ _ h) (Or.inl ⟨by kernel_rfl, ?_⟩) (by assumption) ?_
   rotate_left
   ·intro w hSw; (try dsimp only at hSw); go_simp; try with_reducible rfl
   try simp only [Act.put, List.getElem_toArray, List.getElem_cons_succ, List.getElem_cons_zero, List.setIfInBounds_toArray, List.set_cons_zero, List.set_cons_succ]
   refine AnyZ.take (i := 7) (v := ?_) rfl (by kernel_rfl) (by kernel_rfl) (by kernel_rfl) (by kernel_rfl) (fun c a w h => hp c a w _ _ h) (Or.inl ⟨by kernel_rfl, ?_⟩) (by assumption) ?_
   rotate_left
   ·intro w hSw; (try dsimp only at hSw); go_simp; try with_reducible rfl
   try simp only [Act.put, List.getElem_toArray, List.getElem_cons_succ, List.getElem_cons_zero, List.setIfInBounds_toArray, List.set_cons_zero, List.set_cons_succ]
   refine AnyZ.ready (rs := [9]) (by kernel_rfl) (by simp) ?_
   refine AllZ.cons rfl (fun K hK => ?_) AllZ.nil
   go_simp
   first
    | (replace HBX := HBXF; replace HF2 := HF2F; replace HR2 := HR2F; replace HNB := HNBF; clear HBXF HF2F HR2F HNBF)
    | (replace HBX := Lib.hid (Below.put9 HNG.out HBX.out (.slice A6 rs6.length c6) (.bool s9.down) (.int .i64 s9.fuse) (.int .i64 (l9.getD zS).x) (.int .i64 (l9.getD zS).t) (.slice V6 (l9.getD zS).vs.length a6) (.slice C6 (l9.getD zS).ls.length b6) (.slice D6 (l9.getD zS).ds.length d6) (.bool l9.isSome)); replace HF2 := Lib.hid (Files.put9 (by decide) (by decide) HF2.out HNB.out (.slice A6 rs6.length c6) (.bool s9.down) (.int .i64 s9.fuse) (.int .i64 (l9.getD zS).x) (.int .i64 (l9.getD zS).t) (.slice V6 (l9.getD zS).vs.length a6) (.slice C6 (l9.getD zS).ls.length b6) (.slice D6 (l9.getD zS).ds.length d6) (.bool l9.isSome)); replace HR2 := Lib.hid (ArgAt.put9b HNB.out HNG.out hR HR2.out (.slice A6 rs6.length c6) (.bool s9.down) (.int .i64 s9.fuse) (.int .i64 (l9.getD zS).x) (.int .i64 (l9.getD zS).t) (.slice V6 (l9.getD zS).vs.length a6) (.slice C6 (l9.getD zS).ls.length b6) (.slice D6 (l9.getD zS).ds.length d6) (.bool l9.isSome)); replace HNB := Lib.hid (Blk.put9 HNB.out (.slice A6 rs6.length c6) (.bool s9.down) (.int .i64 s9.fuse) (.int .i64 (l9.getD zS).x) (.int .i64 (l9.getD zS).t) (.slice V6 (l9.getD zS).vs.length a6) (.slice C6 (l9.getD zS).ls.length b6) (.slice D6 (l9.getD zS).ds.length d6) (.bool l9.isSome)))
   refine hK.out _ _ ?_ (fun hHeld => ?_)
   ·exact HPK.out _ HBX.out
   clear hK K
   try simp only [Act.put, List.getElem_toArray, List.getElem_cons_succ, List.getElem_cons_zero, List.setIfInBounds_toArray, List.set_cons_zero, List.set_cons_succ]
   refine AnyZ.take (i := 10) (v := ?_) rfl (by kernel_rfl) (by kernel_rfl) (by kernel_rfl) (by kernel_rfl) (fun c a w h => hp c a w _ _ h) (Or.inl ⟨by kernel_rfl, ?_⟩) (by assumption) ?_
   rotate_left
   ·intro w hSw; (try dsimp only at hSw); go_simp; try with_reducible rfl
   try simp only [Act.put, List.getElem_toArray, List.getElem_cons_succ, List.getElem_cons_zero, List.setIfInBounds_toArray, List.set_cons_zero, List.set_cons_succ]
   refine AnyZ.done (by kernel_rfl) ?_ _
   exact hQ _ _ _ _ _ _ _ _ _ _ _ HNG.out HNB.out HF2.out HM2.out HR2.out HBX.out _ _ _ _ _ _ _ _
 ·go_simp
  have HNG := Lib.hid HBX.out.size
  have HNB := Lib.hid (newBx9 HBX.out 40 #[.slice none 0 0, .bool false, .int .i64 0, .int .i64 0, .int .i64 0, .slice none 0 0, .slice none 0 0, .slice none 0 0, .bool false])
  try have HBXF := Lib.hid (HBX.out.alloc HBX.out.size (.cells #[.slice A6 rs6.length c6, .bool s9.down, .int .i64 s9.fuse, .int .i64 (l9.getD zS).x, .int .i64 (l9.getD zS).t, .slice V6 (l9.getD zS).vs.length a6, .slice C6 (l9.getD zS).ls.length b6, .slice D6 (l9.getD zS).ds.length d6, .bool l9.isSome] 40))
  try have HNBF := Lib.hid (newBx9 HBX.out 40 #[.slice A6 rs6.length c6, .bool s9.down, .int .i64 s9.fuse, .int .i64 (l9.getD zS).x, .int .i64 (l9.getD zS).t, .slice V6 (l9.getD zS).vs.length a6, .slice C6 (l9.getD zS).ls.length b6, .slice D6 (l9.getD zS).ds.length d6, .bool l9.isSome])
  try have HF2F := Lib.hid (HF2.out.below ((Below.refl _ _).alloc (Nat.le_refl _) (.cells #[.slice A6 rs6.length c6, .bool s9.down, .int .i64 s9.fuse, .int .i64 (l9.getD zS).x, .int .i64 (l9.getD zS).t, .slice V6 (l9.getD zS).vs.length a6, .slice C6 (l9.getD zS).ls.length b6, .slice D6 (l9.getD zS).ds.length d6, .bool l9.isSome] 40)))
  try have HR2F := Lib.hid (HR2.out.below ((Below.refl _ _).alloc (Nat.le_refl _) (.cells #[.slice A6 rs6.length c6, .bool s9.down, .int .i64 s9.fuse, .int .i64 (l9.getD zS).x, .int .i64 (l9.getD zS).t, .slice V6 (l9.getD zS).vs.length a6, .slice C6 (l9.getD zS).ls.length b6, .slice D6 (l9.getD zS).ds.length d6, .bool l9.isSome] 40)))
  try replace HF2 := Lib.hid (HF2.out.below ((Below.refl _ _).alloc (Nat.le_refl _) (.cells #[.slice none 0 0, .bool false, .int .i64 0, .int .i64 0, .int .i64 0, .slice none 0 0, .slice none 0 0, .slice none 0 0, .bool false] 40)))
  try replace HR2 := Lib.hid (HR2.out.below ((Below.refl _ _).alloc (Nat.le_refl _) (.cells #[.slice none 0 0, .bool false, .int .i64 0, .int .i64 0, .int .i64 0, .slice none 0 0, .slice none 0 0, .slice none 0 0, .bool false] 40)))
  replace HBX := Lib.hid (HBX.out.alloc HBX.out.size (.cells #[.slice none 0 0, .bool false, .int .i64 0, .int .i64 0, .int .i64 0, .slice none 0 0, .slice none 0 0, .slice none 0 0, .bool false] 40))
  try change Hid (Below wq.heap.size wq (wq.alloc (.cells #[.slice none 0 0, .bool false, .int .i64 0, .int .i64 0, .int .i64 0, .slice none 0 0, .slice none 0 0, .slice none 0 0, .bool false] 40)).drew) at HBX
  try change Hid (Blk (wq.alloc (.cells #[.slice none 0 0, .bool false, .int .i64 0, .int .i64 0, .int .i64 0, .slice none 0 0, .slice none 0 0, .slice none 0 0, .bool false] 40)).drew wq.heap.size 40 #[.slice none 0 0, .bool false, .int .i64 0, .int .i64 0, .int .i64 0, .slice none 0 0, .slice none 0 0, .slice none 0 0, .bool false]) at HNB
  refine hK.out _ _ ?_ (fun hHeld => ?_)
  ·exact HPK.out _ HBX.out
  clear hK K
  try simp only [Act.put, List.getElem_toArray, List.getElem_cons_succ, List.getElem_cons_zero, List.setIfInBounds_toArray, List.set_cons_zero, List.set_cons_succ]
  refine AnyZ.ready (rs := [3]) (by kernel_rfl) (by simp) ?_
  refine AllZ.cons rfl (fun K hK => ?_) AllZ.nil
  go_simp
  (with_reducible refine of_any.mono ?_); rintro e wi ⟨rfl, hbi⟩
  try (replace HNB := Lib.hid (HNB.out.below hbi HNB.out.lt); obtain ⟨n0, n1, n2, n3, n4, n5, n6, n7, n8⟩ := Blk.held9 HNB.out; have nf0 := HNB.out.free 0; have nf1 := HNB.out.free 1; have nf2 := HNB.out.free 2; have nf3 := HNB.out.free 3; have nf4 := HNB.out.free 4; have nf5 := HNB.out.free 5; have nf6 := HNB.out.free 6; have nf7 := HNB.out.free 7; have nf8 := HNB.out.free 8)
  replace HBX := Lib.hid (HBX.out.trans (hbi.mono HBX.out.size))
  clear hbi
  refine hK.out _ _ ?_ (fun hHeld => ?_)
  ·exact HPK.out _ HBX.out
  clear hK K
  try simp only [Act.put, List.getElem_toArray, List.getElem_cons_succ, List.getElem_cons_zero, List.setIfInBounds_toArray, List.set_cons_zero, List.set_cons_succ]
  refine AnyZ.ready (rs := [4]) (by kernel_rfl) (by simp) ?_
  refine AllZ.cons rfl (fun K hK => ?_) AllZ.nil
  go_simp
  (with_reducible refine (HRP.out _ HBX.out).mono ?_); rintro e wj ⟨A6, c6, rs6, V6, C6, D6, a6, b6, d6, rfl, hf2, hm2, hr2, hbj⟩
  have HF2 : Hid (Files (up F wq) wj A6 rs6) := Lib.hid (hf2.mono (fun g _ hg => hg.elim .inl (fun h => .inr (Nat.le_trans HBX.out.size h))))
  have HM2 := Lib.hid hm2
  have HR2 := Lib.hid hr2
  try (replace HNB := Lib.hid (HNB.out.below hbj HNB.out.lt); obtain ⟨n0, n1, n2, n3, n4, n5, n6, n7, n8⟩ := Blk.held9 HNB.out; have nf0 := HNB.out.free 0; have nf1 := HNB.out.free 1; have nf2 := HNB.out.free 2; have nf3 := HNB.out.free 3; have nf4 := HNB.out.free 4; have nf5 := HNB.out.free 5; have nf6 := HNB.out.free 6; have nf7 := HNB.out.free 7; have nf8 := HNB.out.free 8)
  replace HBX := Lib.hid (HBX.out.trans (hbj.mono HBX.out.size))
  clear hf2 hm2 hr2 hbj
  refine hK.out _ _ ?_ (fun hHeld => ?_)
  ·exact HPK.out _ HBX.out
  clear hK K
  try simp only []
  refine AnyZ.take (i := 5) (v := ?_) rfl (by kernel_rfl) (by kernel_rfl) (by kernel_rfl) (by kernel_rfl) (fun c a w h => hp c a w _ _ h) (Or.inl ⟨by kernel_rfl, ?_⟩) (by assumption) ?_
  rotate_left
  ·intro w hSw; (try dsimp only at hSw); go_simp; try with_reducible rfl
  try simp only [Act.put, List.getElem_toArray, List.getElem_cons_succ, List.getElem_cons_zero, List.setIfInBounds_toArray, List.set_cons_zero, List.set_cons_succ]
  refine AnyZ.take (i := 6) (v := ?_) rfl (by kernel_rfl) (by kernel_rfl) (by kernel_rfl) (by kernel_rfl) (fun c a w h => hp c a w _ _ h) (Or.inl ⟨by kernel_rfl, ?_⟩) (by assumption) ?_
  rotate_left
  ·intro w hSw; (try dsimp only at hSw); go_simp; try with_reducible rfl
  try simp only [Act.put, List.getElem_toArray, List.getElem_cons_succ, List.getElem_cons_zero, List.setIfInBounds_toArray, List.set_cons_zero, List.set_cons_succ]
  refine AnyZ.take (i := 7) (v := ?_) rfl (by kernel_rfl) (by kernel_rfl) (by kernel_rfl) (by kernel_rfl) (fun c a w h => hp c a w _ _ h) (Or.inl ⟨by kernel_rfl, ?_⟩) (by assumption) ?_
  rotate_left
  ·intro w hSw; (try dsimp only at hSw); go_simp; try with_reducible rfl
  try simp only [Act.put, List.getElem_toArray, List.getElem_cons_succ, List.getElem_cons_zero, List.setIfInBounds_toArray, List.set_cons_zero, List.set_cons_succ]
  refine AnyZ.ready (rs := [9]) (by kernel_rfl) (by simp) ?_
  refine AllZ.cons rfl (fun K hK => ?_) AllZ.nil
  go_simp
  first
   | (replace HBX := HBXF; replace HF2 := HF2F; replace HR2 := HR2F; replace HNB := HNBF; clear HBXF HF2F HR2F HNBF)
   | (replace HBX := Lib.hid (Below.put9 HNG.out HBX.out (.slice A6 rs6.length c6) (.bool s9.down) (.int .i64 s9.fuse) (.int .i64 (l9.getD zS).x) (.int .i64 (l9.getD zS).t) (.slice V6 (l9.getD zS).vs.length a6) (.slice C6 (l9.getD zS).ls.length b6) (.slice D6 (l9.getD zS).ds.length d6) (.bool l9.isSome)); replace HF2 := Lib.hid (Files.put9 (by decide) (by decide) HF2.out HNB.out (.slice A6 rs6.length c6) (.bool s9.down) (.int .i64 s9.fuse) (.int .i64 (l9.getD zS).x) (.int .i64 (l9.getD zS).t) (.slice V6 (l9.getD zS).vs.length a6) (.slice C6 (l9.getD zS).ls.length b6) (.slice D6 (l9.getD zS).ds.length d6) (.bool l9.isSome)); replace HR2 := Lib.hid (ArgAt.put9b HNB.out HNG.out hR HR2.out (.slice A6 rs6.length c6) (.bool s9.down) (.int .i64 s9.fuse) (.int .i64 (l9.getD zS).x) (.int .i64 (l9.getD zS).t) (.slice V6 (l9.getD zS).vs.length a6) (.slice C6 (l9.getD zS).ls.length b6) (.slice D6 (l9.getD zS).ds.length d6) (.bool l9.isSome)); replace HNB := Lib.hid (Blk.put9 HNB.out (.slice A6 rs6.length c6) (.bool s9.down) (.int .i64 s9.fuse) (.int .i64 (l9.getD zS).x) (.int .i64 (l9.getD zS).t) (.slice V6 (l9.getD zS).vs.length a6) (.slice C6 (l9.getD zS).ls.length b6) (.slice D6 (l9.getD zS).ds.length d6) (.bool l9.isSome)))
  refine hK.out _ _ ?_ (fun hHeld => ?_)
  ·exact HPK.out _ HBX.out
  clear hK K
  try simp only [Act.put, List.getElem_toArray, List.getElem_cons_succ, List.getElem_cons_zero, List.setIfInBounds_toArray, List.set_cons_zero, List.set_cons_succ]
  refine AnyZ.take (i := 10) (v := ?_) rfl (by kernel_rfl) (by kernel_rfl) (by kernel_rfl) (by kernel_rfl) (fun c a w h => hp c a w _ _ h) (Or.inl ⟨by kernel_rfl, ?_⟩) (by assumption) ?_
  rotate_left
  ·intro w hSw; (try dsimp only at hSw); go_simp; try with_reducible rfl
  try simp only [Act.put, List.getElem_toArray, List.getElem_cons_succ, List.getElem_cons_zero, List.setIfInBounds_toArray, List.set_cons_zero, List.set_cons_succ]
  refine AnyZ.done (by kernel_rfl) ?_ _
  exact hQ _ _ _ _ _ _ _ _ _ _ _ HNG.out HNB.out HF2.out HM2.out HR2.out HBX.out _ _ _ _ _ _ _ _
noncomputable def code38 : Code := ((Tryz.f3.body.bind (regionIn 38)).getD .skip)
set_option maxRecDepth 1000000 in
set_option maxHeartbeats 16000000 in
theorem reg38_any {Q : Exit → Act → World → Prop} {R : Nat → Prop} {w10 : World} {bm xb nn : Nat} {y : SnT} {q : Bool} {yV yC yD V7 C7 D7 A7 A8 : Option Addr} {ya yb yd a7 b7 d7 c7 c8 : Nat} {rs7 : List RFile}
 (HPK : Hid (∀ W, Below w10.heap.size w10 W → (W.cell? ⟨xb, 0, none⟩ = some (.int .i64 y.x) ∧ W.cell? ⟨xb, 1, none⟩ = some (.int .i64 y.t) ∧ W.cell? ⟨xb, 2, none⟩ = some (.slice yV y.vs.length ya) ∧ W.cell? ⟨xb, 3, none⟩ = some (.slice yC y.ls.length yb) ∧ W.cell? ⟨xb, 4, none⟩ = some (.slice yD y.ds.length yd)) ∧ (W.cell? ⟨bm, 0, none⟩ = some (.slice A7 rs7.length c7) ∧ W.cell? ⟨bm, 3, none⟩ = some (.int .i64 y.x) ∧ W.cell? ⟨bm, 4, none⟩ = some (.int .i64 y.t) ∧ W.cell? ⟨bm, 5, none⟩ = some (.slice V7 y.vs.length a7) ∧ W.cell? ⟨bm, 6, none⟩ = some (.slice C7 y.ls.length b7) ∧ W.cell? ⟨bm, 7, none⟩ = some (.slice D7 y.ds.length d7) ∧ W.cell? ⟨bm, 8, none⟩ = some (.bool q)))) (HY10 : Hid (SnIn w10 yV y.vs yC y.ls yD y.ds)) (HR10 : Hid (ArgAt R w10 y V7 C7 D7)) (hnl : nn = rs7.length)
 (hp : ∀ c a w d v, Q (.panic c) (Act.put a d v) w → Q (.panic c) a w) (u0 u1 u2 u3 u4 u5 u7 u8 u9 u10 u11 u12 u13 u14 u15 u16 u17 u18 u22 u23 u24 u25 u26 u27 u28 u29 u30 u31 u32 u33 u34 u35 u36 u37 u38 u39 u40 u41 u42 u43 u44 u45 u46 u47 u48 u49 u50 u51 u52 u53 u54 u55 u56 u57 u58 u59 u60 u61 u62 u63 u64 u65 u66 u67 u68 u69 u70 u71 u72 u73 u74 u75 u76 u77 u78 u79 u80 u81 u82 u83 u84 u85 u86 u87 u88 u89 u90 u91 u92 u93 u94 u95 u96 u97 u98 u99 u100 u101 u102 u103 u104 u105 u106 u107 u108 u109 u110 u111 u112 u113 u114 u115 u116 u117 u118 u119 u120 u121 u122 u123 u124 u125 u126 u127 u128 u129 u130 u131 u132 u133 u134 u135 u136 u137 u138 u139 u140 u141 u142 u143 u144 u145 u146 u147 u148 u149 u150 u151 u152 u153 u154 u155 u156 u157 u158 u159 u160 u161 u162 u163 u164 u165 u166 u167 u168 u169 u170 u171 u172 u173 u174 u175 u176 u177 u178 u179 u180 u181 u182 u183 u184 u185 u186 u187 u188 u189 u190 u191 u192 u193 u194 u195 u196 u197 u198 u199 u200 u201 u202 u203 : Value)
 (hQ : ∀ wx : World, Below w10.heap.size w10 wx → ∀ v134 v135 v136 v137 v138 v139 v140 v141 v142 v143 v144 v145 v146 v147 v148 v149 v150 v151 v152 v153 : Value, Q .normal ⟨#[u0, u1, u2, u3, u4, u5, .pointer (some ⟨bm, 0, none⟩), u7, u8, u9, u10, u11, u12, u13, u14, u15, u16, u17, u18, .pointer (some ⟨xb, 0, none⟩), .bool q, .slice A8 nn c8, u22, u23, u24, u25, u26, u27, u28, u29, u30, u31, u32, u33, u34, u35, u36, u37, u38, u39, u40, u41, u42, u43, u44, u45, u46, u47, u48, u49, u50, u51, u52, u53, u54, u55, u56, u57, u58, u59, u60, u61, u62, u63, u64, u65, u66, u67, u68, u69, u70, u71, u72, u73, u74, u75, u76, u77, u78, u79, u80, u81, u82, u83, u84, u85, u86, u87, u88, u89, u90, u91, u92, u93, u94, u95, u96, u97, u98, u99, u100, u101, u102, u103, u104, u105, u106, u107, u108, u109, u110, u111, u112, u113, u114, u115, u116, u117, u118, u119, u120, u121, u122, u123, u124, u125, u126, u127, u128, u129, u130, u131, u132, u133, v134, v135, v136, v137, v138, v139, v140, v141, v142, v143, v144, v145, v146, v147, v148, v149, v150, v151, v152, v153, .bool false, u155, u156, u157, u158, u159, u160, u161, u162, u163, u164, u165, u166, u167, u168, u169, u170, u171, u172, u173, u174, u175, u176, u177, u178, u179, u180, u181, u182, u183, u184, u185, u186, u187, u188, u189, u190, u191, u192, u193, u194, u195, u196, u197, u198, u199, u200, u201, u202, u203], []⟩ wx) :
 Code.wp Tryz.prog code38 Q ⟨#[u0, u1, u2, u3, u4, u5, .pointer (some ⟨bm, 0, none⟩), u7, u8, u9, u10, u11, u12, u13, u14, u15, u16, u17, u18, .pointer (some ⟨xb, 0, none⟩), .bool q, .slice A8 nn c8, u22, u23, u24, u25, u26, u27, u28, u29, u30, u31, u32, u33, u34, u35, u36, u37, u38, u39, u40, u41, u42, u43, u44, u45, u46, u47, u48, u49, u50, u51, u52, u53, u54, u55, u56, u57, u58, u59, u60, u61, u62, u63, u64, u65, u66, u67, u68, u69, u70, u71, u72, u73, u74, u75, u76, u77, u78, u79, u80, u81, u82, u83, u84, u85, u86, u87, u88, u89, u90, u91, u92, u93, u94, u95, u96, u97, u98, u99, u100, u101, u102, u103, u104, u105, u106, u107, u108, u109, u110, u111, u112, u113, u114, u115, u116, u117, u118, u119, u120, u121, u122, u123, u124, u125, u126, u127, u128, u129, u130, u131, u132, u133, u134, u135, u136, u137, u138, u139, u140, u141, u142, u143, u144, u145, u146, u147, u148, u149, u150, u151, u152, u153, u154, u155, u156, u157, u158, u159, u160, u161, u162, u163, u164, u165, u166, u167, u168, u169, u170, u171, u172, u173, u174, u175, u176, u177, u178, u179, u180, u181, u182, u183, u184, u185, u186, u187, u188, u189, u190, u191, u192, u193, u194, u195, u196, u197, u198, u199, u200, u201, u202, u203], []⟩ w10 := by
 conv => arg 2; whnf
 have HBX : Hid (Below w10.heap.size w10 w10.drew) := Lib.hid (Below.refl w10.heap.size w10).drew
 have tl : ((nn : Int) != (rs7.length : Int)) = false := by rw [hnl]; simp
 have hqq : (q != q) = false := by cases q <;> rfl
 clear hnl
 refine AnyZ.start (S := (fun W => (W.cell? ⟨xb, 0, none⟩ = some (.int .i64 y.x) ∧ W.cell? ⟨xb, 1, none⟩ = some (.int .i64 y.t) ∧ W.cell? ⟨xb, 2, none⟩ = some (.slice yV y.vs.length ya) ∧ W.cell? ⟨xb, 3, none⟩ = some (.slice yC y.ls.length yb) ∧ W.cell? ⟨xb, 4, none⟩ = some (.slice yD y.ds.length yd)) ∧ (W.cell? ⟨bm, 0, none⟩ = some (.slice A7 rs7.length c7) ∧ W.cell? ⟨bm, 3, none⟩ = some (.int .i64 y.x) ∧ W.cell? ⟨bm, 4, none⟩ = some (.int .i64 y.t) ∧ W.cell? ⟨bm, 5, none⟩ = some (.slice V7 y.vs.length a7) ∧ W.cell? ⟨bm, 6, none⟩ = some (.slice C7 y.ls.length b7) ∧ W.cell? ⟨bm, 7, none⟩ = some (.slice D7 y.ds.length d7) ∧ W.cell? ⟨bm, 8, none⟩ = some (.bool q)))) (z := 1021) (by kernel_rfl) ?_ (fun hHeld => ?_)
 ·exact HPK.out _ HBX.out
 refine AnyZ.take (i := 0) (v := ?_) rfl (by kernel_rfl) (by kernel_rfl) (by kernel_rfl) (by kernel_rfl) (fun c a w h => hp c a w _ _ h) (Or.inl ⟨by kernel_rfl, ?_⟩) (by assumption) ?_
 rotate_left
 ·intro w hSw; (try dsimp only at hSw); go_simp; try with_reducible rfl
 try simp only [Act.put, List.getElem_toArray, List.getElem_cons_zero, List.setIfInBounds_toArray, List.set_cons_zero, List.set_cons_succ]
 refine AnyZ.take (i := 1) (v := ?_) rfl (by kernel_rfl) (by kernel_rfl) (by kernel_rfl) (by kernel_rfl) (fun c a w h => hp c a w _ _ h) (Or.inl ⟨by kernel_rfl, ?_⟩) (by assumption) ?_
 rotate_left
 ·intro w hSw; (try dsimp only at hSw); go_simp; try with_reducible rfl
 try simp only [Act.put, List.getElem_toArray, List.getElem_cons_succ, List.getElem_cons_zero, List.setIfInBounds_toArray, List.set_cons_zero, List.set_cons_succ]
 refine AnyZ.take (i := 2) (v := ?_) rfl (by kernel_rfl) (by kernel_rfl) (by kernel_rfl) (by kernel_rfl) (fun c a w h => hp c a w _ _ h) (Or.inl ⟨by kernel_rfl, ?_⟩) (by assumption) ?_
 rotate_left
 ·intro w hSw; (try dsimp only at hSw); go_simp; try with_reducible rfl
 try simp only [Act.put, List.getElem_toArray, List.getElem_cons_succ, List.getElem_cons_zero, List.setIfInBounds_toArray, List.set_cons_zero, List.set_cons_succ]
 refine AnyZ.take (i := 3) (v := ?_) rfl (by kernel_rfl) (by kernel_rfl) (by kernel_rfl) (by kernel_rfl) (fun c a w h => hp c a w _ _ h) (Or.inl ⟨by kernel_rfl, ?_⟩) (by assumption) ?_
 rotate_left
 ·intro w hSw; (try dsimp only at hSw); go_simp; try with_reducible rfl
 try simp only [Act.put, List.getElem_toArray, List.getElem_cons_succ, List.getElem_cons_zero, List.setIfInBounds_toArray, List.set_cons_zero, List.set_cons_succ]
 refine AnyZ.take (i := 4) (v := ?_) rfl (by kernel_rfl) (by kernel_rfl) (by kernel_rfl) (by kernel_rfl) (fun c a w h => hp c a w _ _ h) (Or.inl ⟨by kernel_rfl, ?_⟩) (by assumption) ?_
 rotate_left
 ·intro w hSw; (try dsimp only at hSw); go_simp; try with_reducible rfl
 try simp only [Act.put, List.getElem_toArray, List.getElem_cons_succ, List.getElem_cons_zero, List.setIfInBounds_toArray, List.set_cons_zero, List.set_cons_succ]
 refine AnyZ.take (i := 5) (v := ?_) rfl (by kernel_rfl) (by kernel_rfl) (by kernel_rfl) (by kernel_rfl) (fun c a w h => hp c a w _ _ h) (Or.inl ⟨by kernel_rfl, ?_⟩) (by assumption) ?_
 rotate_left
 ·intro w hSw; (try dsimp only at hSw); go_simp; try with_reducible rfl
 try simp only [Act.put, List.getElem_toArray, List.getElem_cons_succ, List.getElem_cons_zero, List.setIfInBounds_toArray, List.set_cons_zero, List.set_cons_succ]
 refine AnyZ.take (i := 7) (v := ?_) rfl (by kernel_rfl) (by kernel_rfl) (by kernel_rfl) (by kernel_rfl) (fun c a w h => hp c a w _ _ h) (Or.inl ⟨by kernel_rfl, ?_⟩) (by assumption) ?_
 rotate_left
 ·intro w hSw; (try dsimp only at hSw); go_simp; try with_reducible rfl
 try simp only [Act.put, List.getElem_toArray, List.getElem_cons_succ, List.getElem_cons_zero, List.setIfInBounds_toArray, List.set_cons_zero, List.set_cons_succ]
 refine AnyZ.take (i := 8) (v := ?_) rfl (by kernel_rfl) (by kernel_rfl) (by kernel_rfl) (by kernel_rfl) (fun c a w h => hp c a w _ _ h) (Or.inl ⟨by kernel_rfl, ?_⟩) (by assumption) ?_
 rotate_left
 ·intro w hSw; (try dsimp only at hSw); go_simp; try with_reducible rfl
 try simp only [Act.put, List.getElem_toArray, List.getElem_cons_succ, List.getElem_cons_zero, List.setIfInBounds_toArray, List.set_cons_zero, List.set_cons_succ]
 refine AnyZ.ready (rs := [6]) (by kernel_rfl) (by simp) ?_
 refine AllZ.cons rfl (fun K hK => ?_) AllZ.nil
 go_simp
 (with_reducible refine (of_w (wl := w10) HBX.out).mono ?_); rintro e wi ⟨rfl, hbi⟩
 replace HBX := Lib.hid hbi
 clear hbi
 refine hK.out _ _ ?_ (fun hHeld => ?_)
 ·exact HPK.out _ HBX.out
 clear hK K
 try simp only [Act.put, List.getElem_toArray, List.getElem_cons_succ, List.getElem_cons_zero, List.setIfInBounds_toArray, List.set_cons_zero, List.set_cons_succ]
 refine AnyZ.ready (rs := [9]) (by kernel_rfl) (by simp) ?_
 refine AllZ.cons rfl (fun K hK => ?_) AllZ.nil
 go_simp
 (with_reducible refine (same_w (wl := w10) (s := y) (s' := y) HBX.out HY10.out HR10.out.inn).mono ?_); rintro e wj ⟨rfl, hbj⟩
 rw [sameB_self]
 replace HBX := Lib.hid hbj
 clear hbj
 refine hK.out _ _ ?_ (fun hHeld => ?_)
 ·exact HPK.out _ HBX.out
 clear hK K
 try simp only [Act.put, List.getElem_toArray, List.getElem_cons_succ, List.getElem_cons_zero, List.setIfInBounds_toArray, List.set_cons_zero, List.set_cons_succ]
 refine AnyZ.take (i := 10) (v := ?_) rfl (by kernel_rfl) (by kernel_rfl) (by kernel_rfl) (by kernel_rfl) (fun c a w h => hp c a w _ _ h) (Or.inl ⟨by kernel_rfl, ?_⟩) (by assumption) ?_
 rotate_left
 ·intro w hSw; (try dsimp only at hSw); go_simp; try with_reducible rfl
 try simp only [Act.put, List.getElem_toArray, List.getElem_cons_succ, List.getElem_cons_zero, List.setIfInBounds_toArray, List.set_cons_zero, List.set_cons_succ]
 refine AnyZ.take (i := 11) (v := ?_) rfl (by kernel_rfl) (by kernel_rfl) (by kernel_rfl) (by kernel_rfl) (fun c a w h => hp c a w _ _ h) (Or.inl ⟨by kernel_rfl, ?_⟩) (by assumption) ?_
 rotate_left
 ·intro w hSw; (try dsimp only at hSw); go_simp; try with_reducible rfl
 try simp only [Act.put, List.getElem_toArray, List.getElem_cons_succ, List.getElem_cons_zero, List.setIfInBounds_toArray, List.set_cons_zero, List.set_cons_succ]
 refine AnyZ.take (i := 12) (v := ?_) rfl (by kernel_rfl) (by kernel_rfl) (by kernel_rfl) (by kernel_rfl) (fun c a w h => hp c a w _ _ h) (Or.inl ⟨by kernel_rfl, ?_⟩) (by assumption) ?_
 rotate_left
 ·intro w hSw; (try dsimp only at hSw); go_simp; try with_reducible rfl
 try simp only [Act.put, List.getElem_toArray, List.getElem_cons_succ, List.getElem_cons_zero, List.setIfInBounds_toArray, List.set_cons_zero, List.set_cons_succ]
 refine AnyZ.take (i := 13) (v := ?_) rfl (by kernel_rfl) (by kernel_rfl) (by kernel_rfl) (by kernel_rfl) (fun c a w h => hp c a w _ _ h) (Or.inl ⟨by kernel_rfl, ?_⟩) (by assumption) ?_
 rotate_left
 ·intro w hSw; (try dsimp only at hSw); go_simp; try with_reducible rfl
 try simp only [Act.put, List.getElem_toArray, List.getElem_cons_succ, List.getElem_cons_zero, List.setIfInBounds_toArray, List.set_cons_zero, List.set_cons_succ]
 refine AnyZ.take (i := 14) (v := ?_) rfl (by kernel_rfl) (by kernel_rfl) (by kernel_rfl) (by kernel_rfl) (fun c a w h => hp c a w _ _ h) (Or.inl ⟨by kernel_rfl, ?_⟩) (by assumption) ?_
 rotate_left
 ·intro w hSw; (try dsimp only at hSw); go_simp; try with_reducible rfl
 try simp only [Act.put, List.getElem_toArray, List.getElem_cons_succ, List.getElem_cons_zero, List.setIfInBounds_toArray, List.set_cons_zero, List.set_cons_succ]
 refine AnyZ.take (i := 15) (v := ?_) rfl (by kernel_rfl) (by kernel_rfl) (by kernel_rfl) (by kernel_rfl) (fun c a w h => hp c a w _ _ h) (Or.inl ⟨by kernel_rfl, ?_⟩) (by assumption) ?_
 rotate_left
 ·intro w hSw; (try dsimp only at hSw); go_simp; try with_reducible rfl
 try simp only [Act.put, List.getElem_toArray, List.getElem_cons_succ, List.getElem_cons_zero, List.setIfInBounds_toArray, List.set_cons_zero, List.set_cons_succ]
 refine AnyZ.take (i := 16) (v := ?_) rfl (by kernel_rfl) (by kernel_rfl) (by kernel_rfl) (by kernel_rfl) (fun c a w h => hp c a w _ _ h) (Or.inl ⟨by kernel_rfl, ?_⟩) (by assumption) ?_
 rotate_left
 ·intro w hSw; (try dsimp only at hSw); go_simp; try with_reducible rfl
 try simp only [Act.put, List.getElem_toArray, List.getElem_cons_succ, List.getElem_cons_zero, List.setIfInBounds_toArray, List.set_cons_zero, List.set_cons_succ]
 refine AnyZ.take (i := 17) (v := ?_) rfl (by kernel_rfl) (by kernel_rfl) (by kernel_rfl) (by kernel_rfl) (fun c a w h => hp c a w _ _ h) (Or.inl ⟨by kernel_rfl, ?_⟩) (by assumption) ?_
 rotate_left
 ·intro w hSw; (try dsimp only at hSw); go_simp; try with_reducible rfl
 try simp only [Act.put, List.getElem_toArray, List.getElem_cons_succ, List.getElem_cons_zero, List.setIfInBounds_toArray, List.set_cons_zero, List.set_cons_succ]
 refine AnyZ.take (i := 18) (v := ?_) rfl (by kernel_rfl) (by kernel_rfl) (by kernel_rfl) (by kernel_rfl) (fun c a w h => hp c a w _ _ h) (Or.inl ⟨by kernel_rfl, ?_⟩) (by assumption) ?_
 rotate_left
 ·intro w hSw; (try dsimp only at hSw); go_simp; try with_reducible rfl
 try simp only [Act.put, List.getElem_toArray, List.getElem_cons_succ, List.getElem_cons_zero, List.setIfInBounds_toArray, List.set_cons_zero, List.set_cons_succ]
 refine AnyZ.take (i := 19) (v := ?_) rfl (by kernel_rfl) (by kernel_rfl) (by kernel_rfl) (by kernel_rfl) (fun c a w h => hp c a w _ _ h) (Or.inl ⟨by kernel_rfl, ?_⟩) (by assumption) ?_
 rotate_left
 ·intro w hSw; (try dsimp only at hSw); go_simp; try with_reducible rfl
 try simp only [Act.put, List.getElem_toArray, List.getElem_cons_succ, List.getElem_cons_zero, List.setIfInBounds_toArray, List.set_cons_zero, List.set_cons_succ]
 refine AnyZ.take (i := 20) (v := ?_) rfl (by kernel_rfl) (by kernel_rfl) (by kernel_rfl) (by kernel_rfl) (fun c a w h => hp c a w _ _ h) (Or.inl ⟨by kernel_rfl, ?_⟩) (by assumption) ?_
 rotate_left
 ·intro w hSw; (try dsimp only at hSw); go_simp; try with_reducible rfl
 try simp only [Act.put, List.getElem_toArray, List.getElem_cons_succ, List.getElem_cons_zero, List.setIfInBounds_toArray, List.set_cons_zero, List.set_cons_succ]
 refine AnyZ.done (by kernel_rfl) ?_ _
 exact hQ _ HBX.out _ _ _ _ _ _ _ _ _ _ _ _ _ _ _ _ _ _ _ _
end Go.Proofs.YtfpomllhkbbipaaGreatDoor
namespace Go.Proofs.YtfpomllhkbbipaaGreatDoor
open Go Go.RowKit Go.Shelf Go.Sort Go.Maps Go.Lib Mem Pk Cf Dsk Go.Proofs.YtfpomllhkbbipaaGreatDoor.Nm Sto
def Held8 (br : Bool) (s : S) (l : Option SnT) : Prop := if br then Broke8 s else Okay8 s l
def V8Rel (B p bm : Nat) (w : World) (sv bv uv kv : Value) (wr : World) : Prop :=
 ∃ (k sb : Nat) (s : S) (l : Option SnT) (G : Nat → Prop) (br : Bool) (uz : Int), kv = .int .i64 (k : Int) ∧ sv = .pointer (some ⟨sb, 0, none⟩) ∧ bv = .bool br ∧ uv = .int .i64 uz ∧ SP G B p sb bm s s l l wr ∧ Below B w wr ∧ Hid (Held8 br s l)
def V8Mid (B p bm : Nat) (w : World) (sv bv uv : Value) (wx : World) : Prop :=
 ∃ (sb : Nat) (s : S) (l : Option SnT) (G : Nat → Prop) (br : Bool) (uz : Int), sv = .pointer (some ⟨sb, 0, none⟩) ∧ bv = .bool br ∧ uv = .int .i64 uz ∧ SP G B p sb bm s s l l wx ∧ Below B w wx ∧ Hid (Held8 br s l)
theorem wf_n31 {m : Nat} (h : m ≤ 31) : (Lit.int .i64 (m : Int)).wf = true := by
 have e3 : IntKind.i64.min = -9223372036854775808 := rfl
 have e4 : IntKind.i64.max = 9223372036854775807 := rfl
 simp [Lit.wf, e3, e4]; omega
theorem okay8_s0 : Okay8 s0 none := ⟨0, rfl, by decide, fun y hy => by cases hy⟩
def P8Rel (n : Nat) (w : World) (iv : Value) (wx : World) : Prop := ∃ i : Nat, i ≤ n ∧ iv = .int .i64 (i : Int) ∧ Below w.heap.size w wx
def D8Rel (yD : Option Addr) (n yd xb : Nat) (cs : Array Value) (wL : World) (iv : Value) (wx : World) : Prop :=
 ∃ (i : Nat) (ds : List UInt8), i ≤ n ∧ iv = .int .i64 (i : Int) ∧ ds.length = n ∧ Mem.Own fB wL.heap.size 5 wx (.slice yD n yd) ds ∧ Blk wx xb 43 cs ∧ Below wL.heap.size wL wx
set_option maxRecDepth 100000 in
set_option maxHeartbeats 16000000 in
theorem snapPlays_walk {w : World} (hla : LaidS w) (A : Option Addr) (ca : Nat) (ops : List SopR) (hops : SScript w.heap.size w A ops) :
 Calls Tryz.prog 3 #[.slice A ops.length ca] w fun e w' => e = .returned (.bool true) ∧ Below w.heap.size w w' := by
 have hlo : ops.length ≤ 9223372036854775807 := hops.1
 have HOPS := Lib.hid hops
 have HLA := Lib.hid (LaidB.of hla)
 clear hops hla
 go_enter Tryz.func3, Tryz.ntmps3
 go_wp2_with fail
 (with_reducible refine (L_New w w.heap.size (Nat.le_refl _)).mono ?_); rintro e w1 ⟨p, rfl, hd1, -, hb1⟩
 have HD1 := Lib.hid hd1
 have HB1 := Lib.hid hb1
 have HAL := Lib.hid (alive8_any (w := w1) (LaidB.of (HLA.out.on hb1).here))
 clear hd1 hb1
 go_wp2_with fail
 (with_reducible refine HAL.out.mono ?_); rintro e w2 ⟨rfl, hb2⟩
 have HD2 := Lib.hid (HD1.out.below hb2)
 have HB2 : Hid (Below w.heap.size w w2) := Lib.hid (HB1.out.trans (hb2.mono HB1.out.size))
 clear hb2 HB1 HD1 HAL
 go_wp2_with fail
 (with_reducible refine (L_sOpen HD2.out (HLA.out.on HB2.out) o0).mono ?_); rintro e w3 ⟨sb, rfl, ha3, hb3⟩
 have HA3 := Lib.hid ha3
 have HB3 : Hid (Below w.heap.size w w3) := Lib.hid (HB2.out.trans hb3)
 have hro := ROpen8_any (G := fun _ => False) (w := w3) none 0 [] ⟨SlK.nil, fun r hr => by cases hr⟩ s0 rfl ⟨List.Pairwise.nil, by decide, by decide⟩ rfl rfl
 change Calls _ _ #[.agg #[.slice none 0 0, .bool false, .int .i64 0]] _ _ at hro
 rw [o0] at hro
 unfold R8P at hro
 have HRO := Lib.hid hro
 clear ha3 hb3 hro HB2 HD2
 go_wp2_with fail
 (with_reducible refine HRO.out.mono ?_); rintro e w4 ⟨A4, c4, rs4, V4, C4, D4, a4, b4, d4, rfl, hf4, hm4, hr4, hb4⟩
 change ArgAt _ w4 zS V4 C4 D4 at hr4
 have HF4 := Lib.hid hf4
 have HM4 := Lib.hid hm4
 have HB4 := Lib.hid hb4
 have HR4 := Lib.hid hr4
 clear hf4 hm4 hb4 hr4 HRO
 go_upto_region 6 with fail
 obtain ⟨w5, hw5⟩ : ∃ z, z = w4.alloc (.cells #[.slice A4 rs4.length c4, .bool s0.down, .int .i64 s0.fuse, .int .i64 zS.x, .int .i64 zS.t, .slice V4 zS.vs.length a4, .slice C4 zS.ls.length b4, .slice D4 zS.ds.length d4, .bool false] 40) := ⟨_, rfl⟩
 rw [← hw5]
 have hbx : Blk w5 w4.heap.size 40 #[.slice A4 rs4.length c4, .bool s0.down, .int .i64 s0.fuse, .int .i64 zS.x, .int .i64 zS.t, .slice V4 zS.vs.length a4, .slice C4 zS.ls.length b4, .slice D4 zS.ds.length d4, .bool false] := by rw [hw5]; exact Blk.new_ w4 _ _
 have hb45 : Below w4.heap.size w4 w5 := by rw [hw5]; exact (Below.refl _ _).alloc (Nat.le_refl _) _
 have hb35 : Below w3.heap.size w3 w5 := HB4.out.trans (hb45.mono HB4.out.size)
 have HSP : Hid (SP (nextG (fun _ => False) w3 w5) w.heap.size p sb w4.heap.size s0 s0 none none w5) := Lib.hid
  ⟨HA3.out.next hb35, ⟨.inr HB4.out.size, hbx.lt⟩, Nat.le_trans HB3.out.size HB4.out.size, A4, c4, rs4, V4, C4, D4, a4, b4, d4, hbx, (HF4.out.below hb45).mono (fun g hl hg => ⟨hg, hl⟩), HM4.out,
   ((HR4.out.mono (G := fun g => w3.heap.size ≤ g ∧ g < w4.heap.size) (fun g hl hg => ⟨hg, hl⟩)).below hb45).mono (fun g hl hg => ⟨.inl ⟨.inr hg.1, hl⟩, by omega⟩)⟩
 have HB5 : Hid (Below w.heap.size w w5) := Lib.hid (HB3.out.trans (hb35.mono HB3.out.size))
 obtain ⟨bm, hbm⟩ : ∃ z, z = w4.heap.size := ⟨_, rfl⟩
 rw [← hbm] at HSP ⊢
 clear hw5 hbx hb45 hb35 hbm HF4 HM4 HB4 HB3 HA3 HR4
 go_wp2_with fail
 go_loopw [4, 8, 9, 46] (fun sv bv uv kv wr => V8Rel w.heap.size p bm w sv bv uv kv wr) (fun _ _ _ kv _ => ops.length - (intOf kv).toNat)
 case atStart => exact ⟨0, sb, s0, none, _, false, 0, rfl, rfl, rfl, rfl, HSP.out, HB5.out, Lib.hid okay8_s0⟩
 case round =>
  clear HSP HB5
  obtain ⟨k, sb, s, l, G, br, uz, rfl, rfl, rfl, rfl, hsp, hbw, hheld⟩ := hrel
  have HSP := Lib.hid hsp
  have HBW := Lib.hid hbw
  clear hsp hbw
  by_cases hlt : k < ops.length
  ·have HOP := Lib.hid (HOPS.out.under HBW.out)
   obtain ⟨b, o, rfl, hbB, hcell⟩ := HOP.out.at hlt
   have hok := HOP.out.ok hlt
   obtain ⟨op, hop⟩ : ∃ op, op = ops[k] := ⟨_, rfl⟩
   rw [← hop] at hcell hok
   have HOK := Lib.hid hok
   obtain ⟨kind, x, oV, oa, oC, ob', oD, od, n, oK, oc, okeep⟩ := op
   have i0 : wr.cell? ⟨b, o + k * 8, none⟩ = some (.int .i64 kind) := hcell 0 (by decide)
   have i1 : wr.cell? ⟨b, o + k * 8 + 1, none⟩ = some (.int .i64 x.x) := hcell 1 (by decide)
   have i2 : wr.cell? ⟨b, o + k * 8 + 2, none⟩ = some (.int .i64 x.t) := hcell 2 (by decide)
   have i3 : wr.cell? ⟨b, o + k * 8 + 3, none⟩ = some (.slice oV x.vs.length oa) := hcell 3 (by decide)
   have i4 : wr.cell? ⟨b, o + k * 8 + 4, none⟩ = some (.slice oC x.ls.length ob') := hcell 4 (by decide)
   have i5 : wr.cell? ⟨b, o + k * 8 + 5, none⟩ = some (.slice oD x.ds.length od) := hcell 5 (by decide)
   have i6 : wr.cell? ⟨b, o + k * 8 + 6, none⟩ = some (.int .i64 n) := hcell 6 (by decide)
   have i7 : wr.cell? ⟨b, o + k * 8 + 7, none⟩ = some (.slice oK okeep.length oc) := hcell 7 (by decide)
   clear hcell hop hok HOP
   go_upto_region 11 with fail
   obtain ⟨wa, hwa⟩ : ∃ z, z = wr.alloc (.cells #[.int .i64 kind, .int .i64 x.x, .int .i64 x.t, .slice oV x.vs.length oa, .slice oC x.ls.length ob', .slice oD x.ds.length od, .int .i64 n, .slice oK okeep.length oc] 46) := ⟨_, rfl⟩
   rw [← hwa]
   have hab : Below wr.heap.size wr wa := by rw [hwa]; exact (Below.refl _ _).alloc (Nat.le_refl _) _
   have hbox : Blk wa wr.heap.size 46 #[.int .i64 kind, .int .i64 x.x, .int .i64 x.t, .slice oV x.vs.length oa, .slice oC x.ls.length ob', .slice oD x.ds.length od, .int .i64 n, .slice oK okeep.length oc] := by rw [hwa]; exact Blk.new_ wr _ _
   have HPA := Lib.hid (HSP.out.more hab hbox.lt)
   have HBA : Hid (Below w.heap.size w wa) := Lib.hid (HBW.out.trans (hab.mono HBW.out.size))
   have HOKA := Lib.hid (HOK.out.under (hab.mono HBW.out.size))
   have HBOX := Lib.hid hbox
   obtain ⟨ob, hob⟩ : ∃ z, z = wr.heap.size := ⟨_, rfl⟩
   rw [← hob] at HPA HBOX ⊢
   have HGB : Hid ((fun g => G g ∨ g = ob) ob) := Lib.hid (.inr rfl)
   obtain ⟨F, hF⟩ : ∃ F : Nat → Prop, F = fun g => G g ∨ g = ob := ⟨_, rfl⟩
   rw [← hF] at HPA HGB
   clear hwa hab hbox i0 i1 i2 i3 i4 i5 i6 i7 hob hF HSP HOK
   have HLT := Lib.hid hlt
   have j0 : wa.cell? ⟨ob, 0, none⟩ = some (.int .i64 kind) := HBOX.out.cell 0
   go_upto_block 2 with fail
   go_cut [4, 8, 9] (fun sv bv uv wx => V8Mid w.heap.size p bm w sv bv uv wx)
   case first =>
    by_cases k1 : kind = 1
    ·have t1 : (kind == 1) = true := by rw [k1]; rfl
     have j5 : wa.cell? ⟨ob, 5, none⟩ = some (.slice oD x.ds.length od) := HBOX.out.cell 5
     clear k1
     obtain ⟨uy, huy⟩ : ∃ z, z = wrap64 (uz + wrap64 ((x.ds.length : Int) + 100)) := ⟨_, rfl⟩
     have eU := huy.symm
     clear huy
     by_cases hu6 : 60000 < uy
     ·go_wp2_with fail
      go_ret
      exact ⟨rfl, HBA.out⟩
     ·have hnop : True := trivial
      clear hnop
      --SKIP
      cases br with
      | true =>
        go_wp2_with fail
        go_roundw
        case rel => exact ⟨k + 1, sb, s, l, F, true, _, by go_num, rfl, rfl, rfl, HPA.out, HBA.out, hheld⟩
        case measure => simp [intOf]; have := HLT.out; omega
      | false =>
        have hok2 : Okay8 s l := hheld.out
        have hro2 : RightO l := by obtain ⟨f9, -, -, h9⟩ := hok2; exact h9
        have hov := okay_put hok2 x
        obtain ⟨⟨s9, l9, kk⟩, hres⟩ : ∃ z, z = putS s l x := ⟨_, rfl⟩
        rw [← hres] at hov
        have HSV := Lib.hid (sPut_any (x := x) (a' := oa) (c' := ob') (d' := od) HPA.out.st (HLA.out.on HBA.out) HOKA.out.arg (fun g hg => .inr hg) HOKA.out.cap)
        rw [← hres] at HSV
        unfold PutP at HSV
        have HOV := Lib.hid hov
        have HRES := Lib.hid hres
        have HOK2 := Lib.hid hok2
        have HRO2 := Lib.hid hro2
        have j1 : wa.cell? ⟨ob, 1, none⟩ = some (.int .i64 x.x) := HBOX.out.cell 1
        have j2 : wa.cell? ⟨ob, 2, none⟩ = some (.int .i64 x.t) := HBOX.out.cell 2
        have j3 : wa.cell? ⟨ob, 3, none⟩ = some (.slice oV x.vs.length oa) := HBOX.out.cell 3
        have j4 : wa.cell? ⟨ob, 4, none⟩ = some (.slice oC x.ls.length ob') := HBOX.out.cell 4
        have j5 : wa.cell? ⟨ob, 5, none⟩ = some (.slice oD x.ds.length od) := HBOX.out.cell 5
        clear hov hres hok2 hro2
        go_wp2_with fail
        (with_reducible refine HSV.out.mono ?_); rintro e wq ⟨rfl, ha4, hb4, hk4⟩
        have HPQ := Lib.hid (HPA.out.op ha4 hb4 hk4)
        have HBQ : Hid (Below w.heap.size w wq) := Lib.hid (HBA.out.trans hb4)
        have HXQ : Hid (Blk wq ob 46 #[.int .i64 kind, .int .i64 x.x, .int .i64 x.t, .slice oV x.vs.length oa, .slice oC x.ls.length ob', .slice oD x.ds.length od, .int .i64 n, .slice oK okeep.length oc]) := Lib.hid ((hk4 _ HGB.out).trans HBOX.out)
        have HAQ := Lib.hid ((HOKA.out.under hb4).arg)
        obtain ⟨A5, c5, rs5, V5, C5, D5, a5, b5, d5, hk5, hf5, hm5, hr5, hl5⟩ := HPQ.out.open_ HOK2.out.inv.count
        have HK5 := Lib.hid hk5
        have hbq := HBQ.out.size
        have HRP : Hid (∀ W, Below wq.heap.size wq W → Calls Tryz.prog 12 #[.agg #[.slice A5 rs5.length c5, .bool s.down, .int .i64 s.fuse, .int .i64 (l.getD zS).x, .int .i64 (l.getD zS).t, .slice V5 (l.getD zS).vs.length a5, .slice C5 (l.getD zS).ls.length b5, .slice D5 (l.getD zS).ds.length d5, .bool l.isSome], .agg #[.int .i64 x.x, .int .i64 x.t, .slice oV x.vs.length oa, .slice oC x.ls.length ob', .slice oD x.ds.length od]] W (R8P F (fun g => ((F g ∨ g < w.heap.size) ∧ g ≠ bm) ∧ g < wq.heap.size) (s9, l9, kk) W)) := Lib.hid fun W hW => by
         have h1 := RPut8_any A5 c5 rs5 (hf5.below hW) s hm5 HOK2.out.inv l HRO2.out V5 C5 D5 a5 b5 d5 ((hr5.mono (G := fun g => ((F g ∨ g < w.heap.size) ∧ g ≠ bm) ∧ g < wq.heap.size) (fun g hl hg => ⟨hg, hl⟩)).below hW) x oV oC oD oa ob' od
          ((HAQ.out.mono (G := fun g => ((F g ∨ g < w.heap.size) ∧ g ≠ bm) ∧ g < wq.heap.size) (fun g hl hg => ⟨⟨.inr hg, fun e => by have h9 := HPQ.out.big; have h8 : g < w.heap.size := hg; omega⟩, hl⟩)).below hW) HOKA.out.cap
         rw [← HRES.out] at h1
         refine h1.mono fun e w' hh => ?_
         obtain ⟨q1, q2, q3, q4, q5, q6, q7, q8, q9, h2, h3, h4, h5, h6⟩ := hh
         exact ⟨q1, q2, q3, q4, q5, q6, q7, q8, q9, h2, h3, h4, h5.mono (fun g _ hg => hg.elim id id), h6⟩
        have HPK : Hid (∀ W, Below wq.heap.size wq W → (W.cell? ⟨bm, 0, none⟩ = some (.slice A5 rs5.length c5) ∧ W.cell? ⟨bm, 1, none⟩ = some (.bool s.down) ∧ W.cell? ⟨bm, 2, none⟩ = some (.int .i64 s.fuse) ∧ W.cell? ⟨bm, 3, none⟩ = some (.int .i64 (l.getD zS).x) ∧ W.cell? ⟨bm, 4, none⟩ = some (.int .i64 (l.getD zS).t) ∧ W.cell? ⟨bm, 5, none⟩ = some (.slice V5 (l.getD zS).vs.length a5) ∧ W.cell? ⟨bm, 6, none⟩ = some (.slice C5 (l.getD zS).ls.length b5) ∧ W.cell? ⟨bm, 7, none⟩ = some (.slice D5 (l.getD zS).ds.length d5) ∧ W.cell? ⟨bm, 8, none⟩ = some (.bool l.isSome)) ∧ (W.cell? ⟨ob, 1, none⟩ = some (.int .i64 x.x) ∧ W.cell? ⟨ob, 2, none⟩ = some (.int .i64 x.t) ∧ W.cell? ⟨ob, 3, none⟩ = some (.slice oV x.vs.length oa) ∧ W.cell? ⟨ob, 4, none⟩ = some (.slice oC x.ls.length ob') ∧ W.cell? ⟨ob, 5, none⟩ = some (.slice oD x.ds.length od))) := Lib.hid fun W hW => by
         have h1 := HK5.out.below hW HK5.out.lt
         have h2 := HXQ.out.below hW HXQ.out.lt
         exact ⟨⟨h1.cell 0, h1.cell 1, h1.cell 2, h1.cell 3, h1.cell 4, h1.cell 5, h1.cell 6, h1.cell 7, h1.cell 8⟩, ⟨h2.cell 1, h2.cell 2, h2.cell 3, h2.cell 4, h2.cell 5⟩⟩
        have HBX : Hid (Below wq.heap.size wq wq.drew) := Lib.hid (Below.refl wq.heap.size wq).drew
        clear ha4 hb4 hk4 hk5 hf5 hm5 hr5 hl5 HSV j1 j2 j3 j4 j5
        go_upto_region 18 with fail
        refine reg18_any (R := fun g => ((F g ∨ g < w.heap.size) ∧ g ≠ bm) ∧ g < wq.heap.size) HPK HRP (fun g hg => hg.2) (fun c a w d v h => by cases d <;> exact h) _ _ _ _ _ _ _ _ _ _ _ _ _ _ _ _ _ _ _ _ _ _ _ _ _ _ _ _ _ _ _ _ _ _ _ _ _ _ _ _ _ _ _ _ _ _ _ _ _ _ _ _ _ _ _ _ _ _ _ _ _ _ _ _ _ _ _ _ _ _ _ _ _ _ _ _ _ _ _ _ _ _ _ _ _ _ _ _ _ _ _ _ _ _ _ _ _ _ _ _ _ _ _ _ _ _ _ _ _ _ _ _ _ _ _ _ _ _ _ _ _ _ _ _ _ _ _ _ _ _ _ _ _ _ _ _ _ _ _ _ _ _ _ _ _ _ _ _ _ _ _ _ _ _ _ _ _ _ _ _ _ _ _ _ _ _ _ _ _ _ _ _ _ _ _ _ _ _ _ _ _ _ _ _ _ _ _ _ _ _ _ _ _ _ _ _ _ _ _ _ _ _ ?_
        intro N A6 c6 rs6 V6 C6 D6 a6 b6 d6 wc hN hbk hf2 hm2 hr2 hb2 v69 v70 v71 v72 v73 v68 v74 v75
        ·have hnop2 : True := trivial
         clear hnop2
         have hk6 := HK5.out.below hb2 HK5.out.lt
         have HPZ := Lib.hid (HPQ.out.put (t' := s9) (u' := l9) hb2 (c := c6) (a := a6) (b := b6) (d := d6) hf2 hm2 (hr2.mono (fun g _ hg => ⟨.inl hg.1.1, hg.1.2⟩)))
         have hle : w.heap.size ≤ bm := HPQ.out.big
         have HBZ := Lib.hid (Below.put9 hle (HBQ.out.trans (hb2.mono HBQ.out.size)) (.slice A6 rs6.length c6) (.bool s9.down) (.int .i64 s9.fuse) (.int .i64 (l9.getD zS).x) (.int .i64 (l9.getD zS).t) (.slice V6 (l9.getD zS).vs.length a6) (.slice C6 (l9.getD zS).ls.length b6) (.slice D6 (l9.getD zS).ds.length d6) (.bool l9.isSome))
         have tkk : ((kk : Int) != (kk : Int)) = false := by simp
         have e0 : wc.cell? ⟨N, 0, none⟩ = some (.slice A6 rs6.length c6) := hbk.cell 0
         have e1 : wc.cell? ⟨N, 1, none⟩ = some (.bool s9.down) := hbk.cell 1
         have e2 : wc.cell? ⟨N, 2, none⟩ = some (.int .i64 s9.fuse) := hbk.cell 2
         have e3 : wc.cell? ⟨N, 3, none⟩ = some (.int .i64 (l9.getD zS).x) := hbk.cell 3
         have e4 : wc.cell? ⟨N, 4, none⟩ = some (.int .i64 (l9.getD zS).t) := hbk.cell 4
         have e5 : wc.cell? ⟨N, 5, none⟩ = some (.slice V6 (l9.getD zS).vs.length a6) := hbk.cell 5
         have e6 : wc.cell? ⟨N, 6, none⟩ = some (.slice C6 (l9.getD zS).ls.length b6) := hbk.cell 6
         have e7 : wc.cell? ⟨N, 7, none⟩ = some (.slice D6 (l9.getD zS).ds.length d6) := hbk.cell 7
         have e8 : wc.cell? ⟨N, 8, none⟩ = some (.bool l9.isSome) := hbk.cell 8
         have r0 : wc.cell? ⟨bm, 0, none⟩ = some (.slice A5 rs5.length c5) := hk6.cell 0
         have r1 : wc.cell? ⟨bm, 1, none⟩ = some (.bool s.down) := hk6.cell 1
         have r2 : wc.cell? ⟨bm, 2, none⟩ = some (.int .i64 s.fuse) := hk6.cell 2
         have r3 : wc.cell? ⟨bm, 3, none⟩ = some (.int .i64 (l.getD zS).x) := hk6.cell 3
         have r4 : wc.cell? ⟨bm, 4, none⟩ = some (.int .i64 (l.getD zS).t) := hk6.cell 4
         have r5 : wc.cell? ⟨bm, 5, none⟩ = some (.slice V5 (l.getD zS).vs.length a5) := hk6.cell 5
         have r6 : wc.cell? ⟨bm, 6, none⟩ = some (.slice C5 (l.getD zS).ls.length b5) := hk6.cell 6
         have r7 : wc.cell? ⟨bm, 7, none⟩ = some (.slice D5 (l.getD zS).ds.length d5) := hk6.cell 7
         have r8 : wc.cell? ⟨bm, 8, none⟩ = some (.bool l.isSome) := hk6.cell 8
         have g0 := hk6.free 0
         have g1 := hk6.free 1
         have g2 := hk6.free 2
         have g3 := hk6.free 3
         have g4 := hk6.free 4
         have g5 := hk6.free 5
         have g6 := hk6.free 6
         have g7 := hk6.free 7
         have g8 := hk6.free 8
         clear hbk hf2 hm2 hr2 hb2 hk6 hN hle HPK HRP HBX
         rcases HOV.out with ⟨hk50, hbr⟩ | ⟨hk50, hbr⟩
         ·have HHD : Hid (Held8 true s9 l9) := Lib.hid hbr
          have hk50' : kk = 50 := hk50
          have t50 : ((kk : Int) == 50) = true := by rw [hk50']; rfl
          clear hk50 hbr hk50'
          go_wp2_with fail
          go_meet
          exact ⟨sb, s9, l9, _, true, _, rfl, rfl, rfl, HPZ.out, HBZ.out, HHD⟩
         ·have HHD : Hid (Held8 false s9 l9) := Lib.hid hbr
          have hk50' : kk ≠ 50 := hk50
          have t50 : ((kk : Int) == 50) = false := by rw [beq_eq_false_iff_ne]; omega
          clear hk50 hbr hk50'
          go_wp2_with fail
          go_meet
          exact ⟨sb, s9, l9, _, false, _, rfl, rfl, rfl, HPZ.out, HBZ.out, HHD⟩
     --KEEP
    by_cases k2 : kind = 2
    ·have hnop : True := trivial
     clear hnop
     --SKIP
     have t1 : (kind == 1) = false := by rw [beq_eq_false_iff_ne]; omega
     have t2 : (kind == 2) = true := by rw [k2]; rfl
     obtain ⟨m, hm, e1⟩ := and_lit n 31 (by decide)
     have E1 : Hid (bits BinOp.and IntKind.i64 n 31 = (m : Int)) := Lib.hid e1
     have hwf : (Lit.int .i64 (m : Int)).wf = true := wf_n31 (by omega)
     have HFL := Lib.hid (L_sFailG HPA.out.st (m : Int) hwf)
     have j6 : wa.cell? ⟨ob, 6, none⟩ = some (.int .i64 n) := HBOX.out.cell 6
     have hm7 : m ≤ 31 := by omega
     clear k1 k2 e1 hwf hm
     go_wp2_with fail
     rw [E1.out]
     (with_reducible refine HFL.out.mono ?_); rintro e wq ⟨rfl, ha4, hb4, hk4⟩
     rw [Int.toNat_natCast] at ha4
     have HPQ := Lib.hid (HPA.out.op ha4 hb4 hk4)
     have HBQ : Hid (Below w.heap.size w wq) := Lib.hid (HBA.out.trans hb4)
     have HXQ : Hid (Blk wq ob 46 #[.int .i64 kind, .int .i64 x.x, .int .i64 x.t, .slice oV x.vs.length oa, .slice oC x.ls.length ob', .slice oD x.ds.length od, .int .i64 n, .slice oK okeep.length oc]) := Lib.hid ((hk4 _ HGB.out).trans HBOX.out)
     obtain ⟨A5, c5, rs5, V5, C5, D5, a5, b5, d5, hk5, -, -, -⟩ := HPQ.out.ref
     have j6' : wq.cell? ⟨ob, 6, none⟩ = some (.int .i64 n) := HXQ.out.cell 6
     have b2 : wq.cell? ⟨bm, 2, none⟩ = some (.int .i64 s.fuse) := hk5.cell 2
     have fb2 := hk5.free 2
     have HFZ := Lib.hid (HPQ.out.fuse m)
     have HBZ : Hid (Below w.heap.size w (wq.setCell ⟨bm, 2, none⟩ (.int .i64 m))) := Lib.hid (HBQ.out.setCell (p := ⟨bm, 2, none⟩) HPQ.out.big _)
     have hhd : Held8 br { s with fuse := m } l := by
      have h0 := hheld.out
      cases br with
      | true => exact Broke8.fuse h0 m
      | false => exact Okay8.fuse h0 hm7
     have HHD := Lib.hid hhd
     clear ha4 hb4 hk4 hk5 hhd j6 HFL
     go_wp2_with fail
     go_meet
     rw [E1.out]
     exact ⟨sb, _, l, F, br, uz, rfl, rfl, rfl, HFZ.out, HBZ.out, HHD⟩
     --KEEP
    by_cases k3 : kind = 3
    ·have hnop : True := trivial
     clear hnop
     --SKIP
     have t1 : (kind == 1) = false := by rw [beq_eq_false_iff_ne]; exact k1
     have t2 : (kind == 2) = false := by rw [beq_eq_false_iff_ne]; exact k2
     have t3 : (kind == 3) = true := by rw [k3]; rfl
     have hop2 : Opens8 s := by
      have h0 := hheld.out
      cases br with
      | true => exact (show Broke8 s from h0).2
      | false => exact Okay8.opens h0
     obtain ⟨l9, ho9, hrt9⟩ := hop2 okeep
     have HO9 := Lib.hid ho9
     have HRT9 := Lib.hid hrt9
     obtain ⟨te, hkp⟩ := HOKA.out.keep
     have HKP := Lib.hid hkp
     have HCR := Lib.hid (X_Crash HPA.out.st.dxG (c := oc) hkp (.inr (fun g hg => hg)) (s' := crash s okeep) rfl)
     have j7 : wa.cell? ⟨ob, 7, none⟩ = some (.slice oK okeep.length oc) := HBOX.out.cell 7
     clear k1 k2 k3 hop2 ho9 hrt9 hkp
     go_wp2_with fail
     (with_reducible refine HCR.out.mono ?_); rintro e wq ⟨rfl, hd4, hb4, hk4⟩
     have HCI : Hid (InvS (crash s okeep)) := Lib.hid (by obtain ⟨mb, rs', hr⟩ := hd4.at_; exact ⟨hr.sorted, hr.count, Nat.zero_le _⟩)
     have hopn := sOpen_any hd4 (HLA.out.on (HBA.out.trans hb4))
     unfold SOpenP at hopn
     rw [HO9.out] at hopn
     have HOPN := Lib.hid hopn
     have HB4 := Lib.hid hb4
     have HK4 : Hid (Kept F wa wq) := Lib.hid (fun g hg => hk4 g hg)
     clear hd4 hb4 hk4 hopn HCR j7
     go_wp2_with fail
     (with_reducible refine HOPN.out.mono ?_); rintro e w5' ⟨hb5, hk5, -, hop5⟩
     obtain ⟨sbn, rfl, ha5⟩ := hop5 (by first | rfl | trivial)
     have HP5 := Lib.hid (HPA.out.op ha5 (HB4.out.trans hb5) (kept_trans HK4.out hk5))
     have HB5 : Hid (Below w.heap.size w w5') := Lib.hid (HBA.out.trans (HB4.out.trans hb5))
     have hx5 : Blk w5' ob 46 #[.int .i64 kind, .int .i64 x.x, .int .i64 x.t, .slice oV x.vs.length oa, .slice oC x.ls.length ob', .slice oD x.ds.length od, .int .i64 n, .slice oK okeep.length oc] := ((kept_trans HK4.out hk5) _ HGB.out).trans HBOX.out
     have hks5 : Sl fBool w5' oK okeep := (HKP.out.under (HB4.out.trans hb5)).sl
     have hct : s.files.length ≤ 256 := by obtain ⟨mb, rs', hr⟩ := HPA.out.st.dxG.at_; exact hr.count
     obtain ⟨A5, c5, rs5, V5, C5, D5, a5, b5, d5, hk5', hf5, hm5, -, hl5⟩ := HP5.out.open_ hct
     have HK5 := Lib.hid hk5'
     have HRC := Lib.hid (RCrash_any A5 c5 rs5 hf5 hl5 s hm5 oK oc okeep hks5)
     have j7' : w5'.cell? ⟨ob, 7, none⟩ = some (.slice oK okeep.length oc) := hx5.cell 7
     have b0 : w5'.cell? ⟨bm, 0, none⟩ = some (.slice A5 rs5.length c5) := hk5'.cell 0
     have b1 : w5'.cell? ⟨bm, 1, none⟩ = some (.bool s.down) := hk5'.cell 1
     have b2 : w5'.cell? ⟨bm, 2, none⟩ = some (.int .i64 s.fuse) := hk5'.cell 2
     clear hb5 hk5 hop5 ha5 hx5 hks5 hk5' hf5 hm5 hl5 hct HOPN
     go_wp2_with fail
     (with_reducible refine HRC.out.mono ?_); rintro e w6' ⟨v6, rfl, ⟨A6, c6, rs6, rfl, hf6, hm6⟩, hb6⟩
     have hro := ROpen8_any A6 c6 rs6 hf6 (crash s okeep) hm6 HCI.out rfl rfl
     rw [HO9.out] at hro
     unfold R8P at hro
     change Calls _ _ #[.agg #[.slice A6 rs6.length c6, .bool (crash s okeep).down, .int .i64 ((crash s okeep).fuse : Int)]] _ _ at hro
     have HRO := Lib.hid hro
     have HB6 := Lib.hid hb6
     clear hf6 hm6 hb6 hro HRC j7' b0 b1 b2
     go_wp2_with fail
     (with_reducible refine HRO.out.mono ?_); rintro e w7' ⟨A7, c7, rs7, V7, C7, D7, a7, b7, d7, rfl, hf7, hm7, hr7, hb7⟩
     have HF7 : Hid (Files (up F w5') w7' A7 rs7) := Lib.hid (hf7.mono (fun g _ hg => hg.elim id (fun h => .inr (Nat.le_trans HB6.out.size h))))
     have HM7 := Lib.hid hm7
     have HR7 : Hid (ArgAt (fun g => w5'.heap.size ≤ g) w7' (l9.getD zS) V7 C7 D7) := Lib.hid (hr7.mono (fun g _ hg => Nat.le_trans HB6.out.size hg))
     have HB7 : Hid (Below w5'.heap.size w5' w7') := Lib.hid (HB6.out.trans (hb7.mono HB6.out.size))
     clear hf7 hm7 hr7 hb7 HRO
     go_upto_region 30 with fail
     obtain ⟨w8, hw8⟩ : ∃ z, z = w7'.alloc (.cells #[.slice A7 rs7.length c7, .bool false, .int .i64 0, .int .i64 (l9.getD zS).x, .int .i64 (l9.getD zS).t, .slice V7 (l9.getD zS).vs.length a7, .slice C7 (l9.getD zS).ls.length b7, .slice D7 (l9.getD zS).ds.length d7, .bool l9.isSome] 40) := ⟨_, rfl⟩
     rw [← hw8]
     have hx8 : Blk w8 w7'.heap.size 40 #[.slice A7 rs7.length c7, .bool false, .int .i64 0, .int .i64 (l9.getD zS).x, .int .i64 (l9.getD zS).t, .slice V7 (l9.getD zS).vs.length a7, .slice C7 (l9.getD zS).ls.length b7, .slice D7 (l9.getD zS).ds.length d7, .bool l9.isSome] := by rw [hw8]; exact Blk.new_ w7' _ _
     have hb78 : Below w7'.heap.size w7' w8 := by rw [hw8]; exact (Below.refl _ _).alloc (Nat.le_refl _) _
     have HB58 : Hid (Below w5'.heap.size w5' w8) := Lib.hid (HB7.out.trans (hb78.mono HB7.out.size))
     have hk8 := HK5.out.below HB58.out HK5.out.lt
     obtain ⟨nbx, hnbx⟩ : ∃ z, z = w7'.heap.size := ⟨_, rfl⟩
     rw [← hnbx] at hx8 ⊢
     have e0 : w8.cell? ⟨nbx, 0, none⟩ = some (.slice A7 rs7.length c7) := hx8.cell 0
     have e1 : w8.cell? ⟨nbx, 1, none⟩ = some (.bool false) := hx8.cell 1
     have e2 : w8.cell? ⟨nbx, 2, none⟩ = some (.int .i64 0) := hx8.cell 2
     have e3 : w8.cell? ⟨nbx, 3, none⟩ = some (.int .i64 (l9.getD zS).x) := hx8.cell 3
     have e4 : w8.cell? ⟨nbx, 4, none⟩ = some (.int .i64 (l9.getD zS).t) := hx8.cell 4
     have e5 : w8.cell? ⟨nbx, 5, none⟩ = some (.slice V7 (l9.getD zS).vs.length a7) := hx8.cell 5
     have e6 : w8.cell? ⟨nbx, 6, none⟩ = some (.slice C7 (l9.getD zS).ls.length b7) := hx8.cell 6
     have e7 : w8.cell? ⟨nbx, 7, none⟩ = some (.slice D7 (l9.getD zS).ds.length d7) := hx8.cell 7
     have e8 : w8.cell? ⟨nbx, 8, none⟩ = some (.bool l9.isSome) := hx8.cell 8
     have r0 : w8.cell? ⟨bm, 0, none⟩ = some (.slice A5 rs5.length c5) := hk8.cell 0
     have r1 : w8.cell? ⟨bm, 1, none⟩ = some (.bool s.down) := hk8.cell 1
     have r2 : w8.cell? ⟨bm, 2, none⟩ = some (.int .i64 s.fuse) := hk8.cell 2
     have r3 : w8.cell? ⟨bm, 3, none⟩ = some (.int .i64 (l.getD zS).x) := hk8.cell 3
     have r4 : w8.cell? ⟨bm, 4, none⟩ = some (.int .i64 (l.getD zS).t) := hk8.cell 4
     have r5 : w8.cell? ⟨bm, 5, none⟩ = some (.slice V5 (l.getD zS).vs.length a5) := hk8.cell 5
     have r6 : w8.cell? ⟨bm, 6, none⟩ = some (.slice C5 (l.getD zS).ls.length b5) := hk8.cell 6
     have r7 : w8.cell? ⟨bm, 7, none⟩ = some (.slice D5 (l.getD zS).ds.length d5) := hk8.cell 7
     have r8 : w8.cell? ⟨bm, 8, none⟩ = some (.bool l.isSome) := hk8.cell 8
     have g0 := hk8.free 0
     have g1 := hk8.free 1
     have g2 := hk8.free 2
     have g3 := hk8.free 3
     have g4 := hk8.free 4
     have g5 := hk8.free 5
     have g6 := hk8.free 6
     have g7 := hk8.free 7
     have g8 := hk8.free 8
     have HPZ := Lib.hid (HP5.out.put (t' := ⟨old l9, false, 0⟩) (u' := l9) HB58.out (c := c7) (a := a7) (b := b7) (d := d7) (HF7.out.below hb78) HM7.out ((HR7.out.below hb78).mono (fun g _ hg => ⟨.inr hg, fun e => by have h8 := HK5.out.lt; have h9 : w5'.heap.size ≤ g := hg; omega⟩)))
     have hle : w.heap.size ≤ bm := HP5.out.big
     have HBZ := Lib.hid (Below.put9 hle (HB5.out.trans (HB58.out.mono HB5.out.size)) (.slice A7 rs7.length c7) (.bool false) (.int .i64 0) (.int .i64 (l9.getD zS).x) (.int .i64 (l9.getD zS).t) (.slice V7 (l9.getD zS).vs.length a7) (.slice C7 (l9.getD zS).ls.length b7) (.slice D7 (l9.getD zS).ds.length d7) (.bool l9.isSome))
     have HHD : Hid (Held8 false ⟨old l9, false, 0⟩ l9) := Lib.hid ⟨0, rfl, by decide, HRT9.out⟩
     clear hw8 hx8 hb78 hk8 hle hnbx
     go_wp2_with fail
     go_meet
     exact ⟨sbn, _, l9, _, false, uz, rfl, rfl, rfl, HPZ.out, HBZ.out, HHD⟩
     --KEEP
    have t1 : (kind == 1) = false := by rw [beq_eq_false_iff_ne]; exact k1
    have t2 : (kind == 2) = false := by rw [beq_eq_false_iff_ne]; exact k2
    have t3 : (kind == 3) = false := by rw [beq_eq_false_iff_ne]; exact k3
    clear k1 k2 k3
    go_wp2_with fail
    go_meet
    exact ⟨sb, s, l, F, br, uz, rfl, rfl, rfl, HPA.out, HBA.out, hheld⟩
   case rest =>
    --SKIP
    obtain ⟨sb2, s2, l2, G2, br2, uz2, rfl, rfl, rfl, hsp2, hbw2, hheld2⟩ := hcut
    have HP2 := Lib.hid hsp2
    have HB2 := Lib.hid hbw2
    clear hsp2 hbw2 HPA HBA HBOX HOKA HGB j0
    cases br2 with
    | true =>
      go_wp2_with fail
      go_roundw
      case rel => exact ⟨k + 1, sb2, s2, l2, G2, true, uz2, by go_num, rfl, rfl, rfl, HP2.out, HB2.out, hheld2⟩
      case measure => simp [intOf]; have := HLT.out; omega
    | false =>
      have hlast := sLast_any HP2.out.st
      unfold LastP at hlast
      have hbox2 : ∃ A7 c7 rs7 V7 C7 D7 a7 b7 d7, Blk wc bm 40 #[.slice A7 rs7.length c7, .bool s2.down, .int .i64 s2.fuse, .int .i64 (l2.getD zS).x, .int .i64 (l2.getD zS).t, .slice V7 (l2.getD zS).vs.length a7, .slice C7 (l2.getD zS).ls.length b7, .slice D7 (l2.getD zS).ds.length d7, .bool l2.isSome] ∧ Files G2 wc A7 rs7 ∧ rs7.map RFile.file = s2.files ∧ ArgAt (fun g => (G2 g ∨ g < w.heap.size) ∧ g ≠ bm) wc (l2.getD zS) V7 C7 D7 := HP2.out.ref
      obtain ⟨A7, c7, rs7, V7, C7, D7, a7, b7, d7, hk7, hf7, hm7, hr7⟩ := hbox2
      obtain ⟨y, hy⟩ : ∃ z, z = l2.getD zS := ⟨_, rfl⟩
      obtain ⟨q, hq⟩ : ∃ z, z = l2.isSome := ⟨_, rfl⟩
      rw [← hy, ← hq] at hlast hk7
      rw [← hy] at hr7
      have HLS := Lib.hid hlast
      have HK7 := Lib.hid hk7
      have HF7 := Lib.hid hf7
      have HM7 := Lib.hid hm7
      have HR7 := Lib.hid hr7
      clear hlast hk7 hf7 hm7 hr7 hy hq
      obtain ⟨wL, hwL⟩ : ∃ z, z = wc := ⟨_, rfl⟩
      subst hwL
      go_wp2_with fail
      (with_reducible refine HLS.out.mono ?_); rintro e w8 ⟨v, rfl, ⟨yV, yC, yD, ya, yb, yd, rfl, o1, o2, o3⟩, hb8⟩
      go_upto_region 37 with fail
      obtain ⟨w9, hw9⟩ : ∃ z, z = w8.alloc (.cells #[.int .i64 y.x, .int .i64 y.t, .slice yV y.vs.length ya, .slice yC y.ls.length yb, .slice yD y.ds.length yd] 43) := ⟨_, rfl⟩
      rw [← hw9]
      have hx9 : Blk w9 w8.heap.size 43 #[.int .i64 y.x, .int .i64 y.t, .slice yV y.vs.length ya, .slice yC y.ls.length yb, .slice yD y.ds.length yd] := by rw [hw9]; exact Blk.new_ w8 _ _
      have hb89 : Below w8.heap.size w8 w9 := by rw [hw9]; exact (Below.refl _ _).alloc (Nat.le_refl _) _
      have HB9 : Hid (Below wL.heap.size wL w9) := Lib.hid (hb8.trans (hb89.mono hb8.size))
      have HY9 : Hid (SnIn w9 yV y.vs yC y.ls yD y.ds) := Lib.hid (SnIn.below ⟨(SlB.of_own o1).2.sl, (SlB.of_own o2).2.sl, (SlB.of_own o3).2.sl⟩ hb89)
      have HO9 := Lib.hid (o3.below hb89)
      have HNM := Lib.hid (L_Names ((HP2.out.st.below HB9.out).dxG.drop))
      obtain ⟨xb, hxb⟩ : ∃ z, z = w8.heap.size := ⟨_, rfl⟩
      rw [← hxb] at hx9 ⊢
      have HX9 := Lib.hid hx9
      have HXB : Hid (wL.heap.size ≤ xb) := Lib.hid (by rw [hxb]; exact hb8.size)
      clear hw9 hx9 hb89 hb8 o1 o2 o3 hxb HLS
      go_wp2_with fail
      (with_reducible refine HNM.out.mono ?_); rintro e w10 ⟨A8, c8, rfl, hs8, -, hb10⟩
      have HB10 : Hid (Below wL.heap.size wL w10) := Lib.hid (HB9.out.trans (hb10.mono HB9.out.size))
      have HS8 := Lib.hid hs8
      have HX10 := Lib.hid (HX9.out.below hb10 HX9.out.lt)
      have HY10 := Lib.hid (HY9.out.below hb10)
      have HO10 := Lib.hid (HO9.out.below hb10)
      have HK10 := Lib.hid (HK7.out.below HB10.out HK7.out.lt)
      have HR10 := Lib.hid (HR7.out.below HB10.out)
      have HF10 := Lib.hid (HF7.out.below HB10.out)
      clear hs8 hb10 HX9 HY9 HO9 HK7 HR7 HF7 HB9 HNM
      obtain ⟨nn, hnn⟩ : ∃ z, z = (snames s2).length := ⟨_, rfl⟩
      have hnl : nn = rs7.length := by rw [hnn]; unfold snames; rw [List.length_map, ← HM7.out, List.length_map]
      rw [← hnn]
      have tl : ((nn : Int) != (rs7.length : Int)) = false := by rw [hnl]; simp
      have hqq : (q != q) = false := by cases q <;> rfl
      have HNN := Lib.hid hnn
      have HNL := Lib.hid hnl
      have HPK : Hid (∀ W, Below w10.heap.size w10 W → (W.cell? ⟨xb, 0, none⟩ = some (.int .i64 y.x) ∧ W.cell? ⟨xb, 1, none⟩ = some (.int .i64 y.t) ∧ W.cell? ⟨xb, 2, none⟩ = some (.slice yV y.vs.length ya) ∧ W.cell? ⟨xb, 3, none⟩ = some (.slice yC y.ls.length yb) ∧ W.cell? ⟨xb, 4, none⟩ = some (.slice yD y.ds.length yd)) ∧ (W.cell? ⟨bm, 0, none⟩ = some (.slice A7 rs7.length c7) ∧ W.cell? ⟨bm, 3, none⟩ = some (.int .i64 y.x) ∧ W.cell? ⟨bm, 4, none⟩ = some (.int .i64 y.t) ∧ W.cell? ⟨bm, 5, none⟩ = some (.slice V7 y.vs.length a7) ∧ W.cell? ⟨bm, 6, none⟩ = some (.slice C7 y.ls.length b7) ∧ W.cell? ⟨bm, 7, none⟩ = some (.slice D7 y.ds.length d7) ∧ W.cell? ⟨bm, 8, none⟩ = some (.bool q))) := Lib.hid fun W hW => by
       have h1 := HK10.out.below hW HK10.out.lt
       have h2 := HX10.out.below hW HX10.out.lt
       exact ⟨⟨h2.cell 0, h2.cell 1, h2.cell 2, h2.cell 3, h2.cell 4⟩, ⟨h1.cell 0, h1.cell 3, h1.cell 4, h1.cell 5, h1.cell 6, h1.cell 7, h1.cell 8⟩⟩
      have HBX : Hid (Below w10.heap.size w10 w10.drew) := Lib.hid (Below.refl w10.heap.size w10).drew
      clear hnn hnl
      go_upto_region 38 with fail
      refine reg38_any HPK HY10 HR10 HNL.out (fun c a w d v h => by cases d <;> exact h) _ _ _ _ _ _ _ _ _ _ _ _ _ _ _ _ _ _ _ _ _ _ _ _ _ _ _ _ _ _ _ _ _ _ _ _ _ _ _ _ _ _ _ _ _ _ _ _ _ _ _ _ _ _ _ _ _ _ _ _ _ _ _ _ _ _ _ _ _ _ _ _ _ _ _ _ _ _ _ _ _ _ _ _ _ _ _ _ _ _ _ _ _ _ _ _ _ _ _ _ _ _ _ _ _ _ _ _ _ _ _ _ _ _ _ _ _ _ _ _ _ _ _ _ _ _ _ _ _ _ _ _ _ _ _ _ _ _ _ _ _ _ _ _ _ _ _ _ _ _ _ _ _ _ _ _ _ _ _ _ _ _ _ _ _ _ _ _ _ _ _ _ _ _ _ _ _ _ _ _ _ _ _ _ _ _ _ _ _ _ _ _ _ _ _ _ _ _ _ _ ?_
      intro wc hbc v134 v135 v136 v137 v138 v139 v140 v141 v142 v143 v144 v145 v146 v147 v148 v149 v150 v151 v152 v153
      ·have hnop3 : True := trivial
       clear hnop3
       obtain ⟨wq, hwq⟩ : ∃ z, z = wc := ⟨_, rfl⟩
       subst hwq
       have HBQ : Hid (Below wL.heap.size wL wq) := Lib.hid (HB10.out.trans (hbc.mono HB10.out.size))
       have HPQ := Lib.hid (HP2.out.below HBQ.out)
       have HSQ := Lib.hid (HS8.out.below hbc)
       have HFQ := Lib.hid (HF10.out.below hbc)
       have HKQ := Lib.hid (HK10.out.below hbc HK10.out.lt)
       have HXQ := Lib.hid (HX10.out.below hbc HX10.out.lt)
       have HOQ := Lib.hid (HO10.out.below hbc)
       have m0' : wq.cell? ⟨bm, 0, none⟩ = some (.slice A7 rs7.length c7) := HKQ.out.cell 0
       have hrl : rs7.length ≤ 9223372036854775807 := HFQ.out.1.len
       clear hbc HB10 HS8 HF10 HK10 HX10 HO10 HY10 HR10 HPK HBX tl hqq
       go_wp2_with fail
       go_loopw [159] (fun iv wx => P8Rel rs7.length wq iv wx) (fun iv _ => rs7.length - (intOf iv).toNat)
       case atStart => exact ⟨0, Nat.zero_le _, rfl, Below.refl _ _⟩
       case round =>
        obtain ⟨i, hi, rfl, hbi⟩ := hrel
        have HBI := Lib.hid hbi
        clear hbi m0'
        by_cases hlti : i < rs7.length
        ·obtain ⟨r, hr⟩ : ∃ z, z = rs7[i] := ⟨_, rfl⟩
         have HROK : Hid (RFok G2 wr r) := Lib.hid (by rw [hr]; exact (HFQ.out.below HBI.out).2 _ (List.getElem_mem hlti))
         have hmem : r.file ∈ s2.files := by rw [← HM7.out, hr]; exact List.mem_map.2 ⟨_, List.getElem_mem hlti, rfl⟩
         have hfacts : s2.down = false ∧ Dsk.read s2 r.file.name = (r.file.now, 0) := by
          have hok2 : Okay8 s2 l2 := hheld2.out
          have hiv := hok2.inv
          have hd2 : s2.down = false := by obtain ⟨f9, h9, -⟩ := hok2; rw [h9]
          refine ⟨hd2, ?_⟩
          unfold Dsk.read
          rw [look_found hd2 HROK.out.sz.2.2 (find_uniq hiv.sorted hmem)]
         have HFX := Lib.hid hfacts
         have hn16 := HROK.out.sz.2.2
         have hnsz : r.file.name.length ≤ 16 := by unfold named at hn16; simp at hn16; omega
         obtain ⟨bw, ow, rfl, -, -, hc9⟩ := (HFQ.out.below HBI.out).1.at hlti
         have c0 : wr.cell? ⟨bw, ow + i * 3, none⟩ = some (.string ⟨r.file.name.toArray⟩) := by rw [hr]; exact hc9 0 (by decide)
         have c1 : wr.cell? ⟨bw, ow + i * 3 + 1, none⟩ = some (.slice r.A r.file.now.length r.c) := by rw [hr]; exact hc9 1 (by decide)
         have c2 : wr.cell? ⟨bw, ow + i * 3 + 2, none⟩ = some (.slice r.B r.file.safe.length r.d) := by rw [hr]; exact hc9 2 (by decide)
         have hil : i < (snames s2).length := by rw [← HNN.out, HNL.out]; exact hlti
         have hnm : (snames s2)[i]? = some r.file.name := by
          have h3 : (rs7.map RFile.file)[i]? = some r.file := by rw [List.getElem?_map, List.getElem?_eq_getElem hlti, hr]; rfl
          rw [HM7.out] at h3
          unfold snames; rw [List.getElem?_map, h3]; rfl
         have HNMI := Lib.hid hnm
         have HIL := Lib.hid hil
         have HLI := Lib.hid hlti
         have HNSZ := Lib.hid hnsz
         have ti : (i : Int) < (rs7.length : Int) := by omega
         have ti0 : (0 : Int) ≤ (i : Int) := by omega
         clear hr hfacts hc9 hil hnm hlti hmem hn16 hnsz
         go_upto_region 43 with fail
         obtain ⟨wy, hwy⟩ : ∃ z, z = wr.alloc (.cells #[.string ⟨r.file.name.toArray⟩, .slice r.A r.file.now.length r.c, .slice r.B r.file.safe.length r.d] 59) := ⟨_, rfl⟩
         rw [← hwy]
         have hby : Below wr.heap.size wr wy := by rw [hwy]; exact (Below.refl _ _).alloc (Nat.le_refl _) _
         have HBXY : Hid (Blk wy wr.heap.size 59 #[.string ⟨r.file.name.toArray⟩, .slice r.A r.file.now.length r.c, .slice r.B r.file.safe.length r.d]) := Lib.hid (by rw [hwy]; exact Blk.new_ wr _ _)
         have HBY : Hid (Below wq.heap.size wq wy) := Lib.hid (HBI.out.trans (hby.mono HBI.out.size))
         have HRY := Lib.hid (HROK.out.below hby)
         have y0 : wy.cell? ⟨wr.heap.size, 0, none⟩ = some (.string ⟨r.file.name.toArray⟩) := HBXY.out.cell 0
         have HRD := Lib.hid (L_Read (HPQ.out.below HBY.out).st.dxG.drop ⟨r.file.name.toArray⟩ (by show r.file.name.toArray.size ≤ maxLen; rw [List.size_toArray]; have h9 := HNSZ.out; unfold maxLen; omega) (show Dsk.read s2 (sname ⟨r.file.name.toArray⟩) = (r.file.now, 0) by rw [sname_arr]; exact HFX.out.2) (ki := 0) rfl)
         obtain ⟨gb, hgb⟩ : ∃ z, z = wr.heap.size := ⟨_, rfl⟩
         rw [← hgb] at HBXY y0 ⊢
         clear hwy hby HROK c0 c1 c2 hgb
         go_wp2_with fail
         (with_reducible refine HRD.out.mono ?_); rintro e wz ⟨A10, c10, rfl, hs10, -, -, -, hb10⟩
         have HBZ : Hid (Below wq.heap.size wq wz) := Lib.hid (HBY.out.trans (hb10.mono HBY.out.size))
         have hbxz := HBXY.out.below hb10 HBXY.out.lt
         have HSMB := Lib.hid (fun m => quiet_at (SameBytes_any A10 r.A c10 r.c r.file.now r.file.now (wz.drewN m) (hs10.sl.drewN m) ((HRY.out.now.below hb10).sl.drewN m)))
         have z0 : wz.cell? ⟨gb, 0, none⟩ = some (.string ⟨r.file.name.toArray⟩) := hbxz.cell 0
         have z1 : wz.cell? ⟨gb, 1, none⟩ = some (.slice r.A r.file.now.length r.c) := hbxz.cell 1
         have zm : wz.cell? ⟨bm, 1, none⟩ = some (.bool false) := by
          have := (HKQ.out.below HBZ.out HKQ.out.lt).cell 1
          rw [← HFX.out.1]; exact this
         have HBZ2 := Lib.hid HBZ.out
         obtain ⟨b8, o8, rfl, -, hc8⟩ := (HSQ.out.below HBZ.out).sl.at HIL.out
         have z8 : wz.cell? ⟨b8, o8 + i, none⟩ = some (.string ⟨r.file.name.toArray⟩) := by
          have h3 := hc8 i HIL.out
          have h4 := HNMI.out
          rw [List.getElem?_eq_getElem HIL.out] at h4
          injection h4 with h4
          rw [h4] at h3; exact h3
         have tin : (i : Int) < (nn : Int) := by have := HNL.out; omega
         clear hs10 hb10 hbxz hc8 HRD HBXY HRY y0
         go_upto_region 44 with fail
         go_quiet (first | (go_at_call 21; exact HSMB.out _))
         go_wp2_with fail
         go_roundw
         case rel => exact ⟨i + 1, HLI.out, by go_num, below_drewN HBZ2.out _⟩
         case measure => simp [intOf]; have := HLI.out; omega
        ·have ti : ¬ (i : Int) < (rs7.length : Int) := by omega
         have HXR := Lib.hid (HXQ.out.below HBI.out HXQ.out.lt)
         have HOR := Lib.hid (HOQ.out.below HBI.out)
         have HBR : Hid (Below wL.heap.size wL wr) := Lib.hid (HBQ.out.trans (HBI.out.mono HBQ.out.size))
         have hyl : y.ds.length ≤ 9223372036854775807 := Nat.le_trans HOQ.out.cap.1 HOQ.out.cap.2
         have y4 : wr.cell? ⟨xb, 4, none⟩ = some (.slice yD y.ds.length yd) := HXR.out.cell 4
         obtain ⟨yn, hyn⟩ : ∃ z, z = y.ds.length := ⟨_, rfl⟩
         have HDS : Hid (y.ds.length = yn) := Lib.hid hyn.symm
         obtain ⟨cs, hcs⟩ : ∃ z : Array Value, z = #[.int .i64 y.x, .int .i64 y.t, .slice yV y.vs.length ya, .slice yC y.ls.length yb, .slice yD y.ds.length yd] := ⟨_, rfl⟩
         have HCS : Hid (cs[4]? = some (.slice yD yn yd)) := Lib.hid (by rw [hcs, hyn]; rfl)
         rw [← hcs] at HXR
         rw [← hyn] at HOR y4 hyl
         clear hlti hcs hyn
         go_wp2_with fail
         clear y4 ti
         go_loopw [195] (fun iv wx => D8Rel yD yn yd xb cs wL iv wx) (fun iv _ => yn - (intOf iv).toNat)
         case atStart => exact ⟨0, y.ds, Nat.zero_le _, rfl, HDS.out, HOR.out, HXR.out, HBR.out⟩
         case round =>
          obtain ⟨j, dd, hj, rfl, hdl, hown, hbx, hbw⟩ := hrel
          have HOWN := Lib.hid hown
          have HBX := Lib.hid hbx
          have HBW3 := Lib.hid hbw
          have HDL := Lib.hid hdl
          clear hbx hbw
          by_cases hlj : j < yn
          ·have hy4 : wr.cell? ⟨xb, 4, none⟩ = some (.slice yD yn yd) := by rw [HBX.out.cell 4]; exact HCS.out
           obtain ⟨g, rfl, hg, -, hgc, hgf⟩ := hown.slot (k := j) (by omega)
           have HSET : Hid (Mem.Own fB wL.heap.size 5 (wr.setCell ⟨g, j, none⟩ (.int .u8 99)) (.slice (some ⟨g, 0, none⟩) yn yd) (dd.set j 99)) := Lib.hid (hown.set_ (by omega) 99)
           have HBX4 : Hid (Blk (wr.setCell ⟨g, j, none⟩ (.int .u8 99)) xb 43 cs) := Lib.hid (blk_frmO HBX.out hown (by decide) ((Frm.refl (fun g1 => (Value.slice (some ⟨g, 0, none⟩) yn yd).ownBlock = some g1) wr).setCell (p := ⟨g, j, none⟩) (fun _ => rfl) _))
           have HBW4 : Hid (Below wL.heap.size wL (wr.setCell ⟨g, j, none⟩ (.int .u8 99))) := Lib.hid (HBW3.out.setCell (p := ⟨g, j, none⟩) hg _)
           obtain ⟨vv, hvv⟩ : ∃ z, wr.cell? ⟨g, j, none⟩ = some z := ⟨_, hgc⟩
           have HLJ := Lib.hid hlj
           have tj : (j : Int) < (yn : Int) := by omega
           have tj0 : (0 : Int) ≤ (j : Int) := by omega
           clear hgc hlj hown hg hdl
           go_wp2_with fail
           go_roundw
           case rel => exact ⟨j + 1, dd.set j 99, HLJ.out, by go_num, by rw [List.length_set]; exact HDL.out, HSET.out, HBX4.out, HBW4.out⟩
           case measure => simp [intOf]; have := HLJ.out; omega
          ·have tj : ¬ (j : Int) < (yn : Int) := by omega
           clear hlj hown hdl
           go_wp2_with fail
           go_roundw
           case rel => exact ⟨k + 1, sb2, s2, l2, G2, false, uz2, by go_num, rfl, rfl, rfl, HP2.out.below HBW3.out, HB2.out.trans (HBW3.out.mono HB2.out.size), hheld2⟩
           case measure => simp [intOf]; have := HLT.out; omega
    --KEEP
  ·go_wp2_with fail
   go_ret
   exact ⟨rfl, HBW.out⟩
end Go.Proofs.YtfpomllhkbbipaaGreatDoor
