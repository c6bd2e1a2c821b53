/- Layer 7: the walks of HardWhole and HardRaw by the arguments that come in; a step of a script as an argument. -/
import Derived.Test.YtfpomllhkbbipaaOpen
import Derived.Test.YtfpomllhkbbipaaHdWh
import Derived.Test.YtfpomllhkbbipaaHdRa
import Derived.Lib.SmallJoins
namespace Go.Proofs.Ytfpomllhkbbipaa
open Go Go.RowKit Go.Maps Go.Joins Go.ChangeShapes Go.WideShapes Go.Deep Mem Pk Dsk Hd

theorem five {α : Type} {c : Array α} (h : c.size = 5) : ∃ a b d e f, c = #[a, b, d, e, f] := by
  obtain ⟨l⟩ := c
  match l, h with
  | [a, b, d, e, f], _ => exact ⟨a, b, d, e, f, rfl⟩
/-- a step of a script, by its five fields -/
structure HOp where
  k : Int
  t : Int
  v : Int
  n : Int
  keep : Value
def hopV (x : HOp) : Value := .agg (hopC x.k x.t x.v x.n x.keep)
set_option maxRecDepth 100000 in
theorem open_hop {H : Type} {enc : TypeId × Value → H} {w : World} {b0 : Nat} {v : Value} {d : DataW H} {p : List MemPlace} (hv : Value.okWide Try.prog w .any b0 24 v) (h : DataW.Trod enc Try.prog w 0 (fun _ => true) true 24 v d p) :
    ∃ x : HOp, v = hopV x ∧ True := by
  obtain ⟨cs, rfl, hsc⟩ := okWide_struct Try.underlying24 hv
  obtain ⟨c0, c1, c2, c3, c4, rfl⟩ := five (hsc.trans (by kernel_rfl))
  obtain ⟨fuel, hf⟩ := h
  obtain ⟨xs, n, _, hx, hl, hlen, hg⟩ := DataW.trod_struct Try.underlying24 hf
  match xs, hlen with
  | [y0, y1, y2, y3, y4], _ =>
    have k1 : Try.prog.cellsOf 3 = 1 := by kernel_rfl
    have k2 : Try.prog.cellsOf 2 = 1 := by kernel_rfl
    have h0 := hg 0 _ rfl
    have h1 := hg 1 _ rfl
    have h2 := hg 2 _ rfl
    have h3 := hg 3 _ rfl
    simp [Value.cells, k1, k2] at h0 h1 h2 h3
    obtain ⟨z0, rfl, -⟩ := op_int Try.underlying3 h0
    obtain ⟨z1, rfl, -⟩ := op_int Try.underlying2 h1
    obtain ⟨z2, rfl, -⟩ := op_int Try.underlying3 h2
    obtain ⟨z3, rfl, -⟩ := op_int Try.underlying3 h3
    exact ⟨⟨z0, z1, z2, z3, c4⟩, rfl, trivial⟩
theorem room1 {n : Nat} (h : Room 1 n) : n ≤ 140737488355328 := by simp [Room] at h; omega
theorem hardWhole2_walk {w : World} (x : HOp) (_ : True) (y : HOp) (_ : True) (n : Int) (wn : (Lit.int .i64 n).wf = true) (A : Option Addr) (c : Nat) (keep : List Bool) (hc : keep.length ≤ c) (hm : c ≤ maxLen) (hs : Sl (fun z => Value.bool z) w A keep) (_ : ∀ z ∈ keep, True) (_ : Room 1 keep.length) :
    Calls Try.prog 3 #[hopV x, hopV y, .int .i64 n, .slice A keep.length c] w fun e w' => e = .returned (.bool true) ∧ Below w.heap.size w w' :=
  hardWhole_walk x.k x.t x.v x.n x.keep y.k y.t y.v y.n y.keep n wn A c keep hc hm hs
theorem hardRaw2_walk {w : World} (A : Option Addr) (ca : Nat) (b : List UInt8) (h1 : b.length ≤ ca) (h2 : ca ≤ maxLen) (hb : Sl (fun z : UInt8 => Value.int .u8 (z.toNat : Int)) w A b) (_ : ∀ z ∈ b, True) (r1 : Room 1 b.length)
    (A2 : Option Addr) (cc : Nat) (c : List UInt8) (h3 : c.length ≤ cc) (h4 : cc ≤ maxLen) (hc : Sl (fun z : UInt8 => Value.int .u8 (z.toNat : Int)) w A2 c) (_ : ∀ z ∈ c, True) (r2 : Room 1 c.length)
    (A3 : Option Addr) (ck : Nat) (keep : List Bool) (h5 : keep.length ≤ ck) (h6 : ck ≤ maxLen) (hk : Sl (fun z => Value.bool z) w A3 keep) (_ : ∀ z ∈ keep, True) (_ : Room 1 keep.length) :
    Calls Try.prog 4 #[.slice A b.length ca, .slice A2 c.length cc, .slice A3 keep.length ck] w fun e w' => e = .returned (.bool true) ∧ Below w.heap.size w w' :=
  hardRaw_walk A ca b h1 h2 hb A2 cc c h3 h4 hc A3 ck keep h5 h6 hk (room1 r1) (room1 r2)
end Go.Proofs.Ytfpomllhkbbipaa
