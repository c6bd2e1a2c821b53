/- A snapshot as an argument. -/
import Derived.Test.YtfpomllhkbbipaaGreatDoorOpen
import Derived.Test.YtfpomllhkbbipaaGreatDoorSnR
import Derived.Lib.SmallJoins
namespace Go.Proofs.YtfpomllhkbbipaaGreatDoor
open Go.RowKit Go.Maps Go.Joins Go.ChangeShapes Go.WideShapes Go.Deep Mem Cf

theorem sized_agg {H : Type} {P : Program} {ts : List TypeId} {ds : List (DataW H)} (h : (DataW.weightsEach P ts ds).all (· ≤ reachBytes) = true) {j : Nat} {t : TypeId} {fs : Array Field} {parts : List (DataW H)} (ht : ts[j]? = some t) (hd : ds[j]? = some (.agg parts))
    (hu : P.underlying t = some (.struct fs)) : (DataW.weightsEach P (fs.toList.map (·.type)) parts).all (· ≤ reachBytes) = true := by
  rw [List.all_eq_true] at h ⊢
  intro x hx
  exact h _ (DataW.weights_mem_each ht hd x (by simp [DataW.weights, hu]; simpa using hx))
/-- a list of ints that came in -/
structure IntsIn (w : World) (A : Option Addr) (c : Nat) (xs : List Int) : Prop where
  le : xs.length ≤ c
  cap : c ≤ maxLen
  sl : Sl fI w A xs
  wf : ∀ x ∈ xs, (Lit.int .i64 x).wf = true
  room : Room 8 xs.length
theorem open_ints_field {H : Type} {enc : TypeId × Value → H} {P : Program} {w : World} {t e : TypeId} {n : Nat} {v : Value} {y : DataW H × List MemPlace} (ht : P.underlying t = some (.slice e)) (hc : P.cellsOf e = 1) (he : P.underlying e = some (.int .i64)) (hb : P.bytesOf e = 8)
    (h : DataW.trod enc P w 0 (fun _ => true) true n t [v] = some y) {ts : List TypeId} {ds : List (DataW H)} (hsz : (DataW.weightsEach P ts ds).all (· ≤ reachBytes) = true) {j : Nat} (htj : ts[j]? = some t) (hdj : ds[j]? = some y.1) :
    ∃ A c xs, v = .slice A xs.length c ∧ IntsIn w A c xs := by
  have hv : ∃ A len cap, v = .slice A len cap ∧ cap ≤ maxLen := by
    rcases DataW.trod_slice ht h with ⟨e, _⟩ | ⟨a, len, cap, _, _, _, _, e, _, _, _, hm, _⟩
    · simp only [List.cons.injEq, and_true] at e
      exact ⟨none, 0, 0, e, Nat.zero_le _⟩
    · simp only [List.cons.injEq, and_true] at e
      exact ⟨_, _, _, e, hm⟩
  obtain ⟨A, len, cap, rfl, hm⟩ := hv
  obtain ⟨xs, rfl, hcap, hs, hq, hd⟩ := open_sl fI (fun z => (Lit.int .i64 z).wf = true) ht hc (d := y.1) (ps := y.2) ⟨n, h⟩ (fun v n y h => op_int he h)
  exact ⟨A, cap, xs, rfl, hcap, hm, hs, hq, room_of hsz htj hdj ht hb (match hd with | .inl h => .inl (congrArg List.length h) | .inr h => .inr h)⟩
theorem open_bytes_field {H : Type} {enc : TypeId × Value → H} {P : Program} {w : World} {t e : TypeId} {n : Nat} {v : Value} {y : DataW H × List MemPlace} (ht : P.underlying t = some (.slice e)) (hc : P.cellsOf e = 1) (he : P.underlying e = some (.int .u8))
    (h : DataW.trod enc P w 0 (fun _ => true) true n t [v] = some y) :
    ∃ A c xs, v = .slice A xs.length c ∧ xs.length ≤ c ∧ Sl fB w A xs := by
  have hv : ∃ A len cap, v = .slice A len cap := by
    rcases DataW.trod_slice ht h with ⟨e, _⟩ | ⟨a, len, cap, _, _, _, _, e, _, _, _, hm, _⟩
    · simp only [List.cons.injEq, and_true] at e
      exact ⟨none, 0, 0, e⟩
    · simp only [List.cons.injEq, and_true] at e
      exact ⟨_, _, _, e⟩
  obtain ⟨A, len, cap, rfl⟩ := hv
  obtain ⟨xs, rfl, hcap, hs, _, _⟩ := open_sl (fun z : UInt8 => Value.int .u8 (z.toNat : Int)) (fun _ => True) ht hc (d := y.1) (ps := y.2) ⟨n, h⟩ (fun v n y h => op_byte he h)
  exact ⟨A, cap, xs, rfl, hcap, hs⟩
theorem array5 {α : Type} {c : Array α} (h : c.size = 5) : ∃ a b d e f, c = #[a, b, d, e, f] := by
  obtain ⟨l⟩ := c
  match l, h with
  | [a, b, d, e, f], _ => exact ⟨a, b, d, e, f, rfl⟩
set_option maxRecDepth 100000 in
theorem open_snap {H : Type} {enc : TypeId × Value → H} {w : World} {b0 : Nat} {v : Value} {d : DataW H} {p : List MemPlace} (hv : Value.okWide Tryz.prog w .any b0 43 v) (h : DataW.Trod enc Tryz.prog w 0 (fun _ => true) true 43 v d p)
    {ts : List TypeId} {ds : List (DataW H)} (hsz : (DataW.weightsEach Tryz.prog ts ds).all (· ≤ reachBytes) = true) {j : Nat} (htj : ts[j]? = some 43) (hdj : ds[j]? = some d) :
    ∃ x t A B D a b c vs ls bs, v = .agg #[.int .i64 x, .int .i64 t, .slice A vs.length a, .slice B ls.length b, .slice D bs.length c] ∧ (Lit.int .i64 x).wf = true ∧ (Lit.int .i64 t).wf = true ∧ SnIn w A vs B ls D bs ∧ bs.length ≤ c := by
  obtain ⟨cs, rfl, hsc⟩ := okWide_struct Tryz.underlying43 hv
  obtain ⟨c0, c1, c2, c3, c4, rfl⟩ := array5 (hsc.trans (by kernel_rfl))
  obtain ⟨fuel, hf⟩ := h
  obtain ⟨y0, y1, y2, y3, n, hx, _, h0, h1, h2, h3⟩ := trod_struct4 Tryz.underlying43 hf
  have k2 : Tryz.prog.cellsOf 2 = 1 := by kernel_rfl
  have kC : Tryz.prog.cellsOf 35 = 2 := by kernel_rfl
  have kB : Tryz.prog.cellsOf 36 = 1 := by kernel_rfl
  have kI : Tryz.prog.cellsOf 33 = 1 := by kernel_rfl
  simp [Value.cells, k2, kC, kB] at h0 h1 h2 h3
  obtain ⟨z0, rfl, w0⟩ := op_int Tryz.underlying2 h0
  obtain ⟨z1, rfl, w1⟩ := op_int Tryz.underlying2 h1
  obtain ⟨u0, u1, m, hu, _, g0, g1⟩ := trod_struct2 Tryz.underlying35 h2
  simp [kI] at g0 g1
  simp only [Prod.mk.injEq] at hx
  obtain ⟨hd, -⟩ := hx
  subst hd
  have hs2 := sized_agg hsz htj hdj Tryz.underlying43
  subst hu
  have hs3 := sized_agg hs2 (j := 2) rfl rfl Tryz.underlying35
  obtain ⟨A, a, vs, rfl, hA⟩ := open_ints_field Tryz.underlying33 (by kernel_rfl) Tryz.underlying3 (by kernel_rfl) g0 hs3 (j := 0) rfl rfl
  obtain ⟨B, b, ls, rfl, hB⟩ := open_ints_field Tryz.underlying33 (by kernel_rfl) Tryz.underlying3 (by kernel_rfl) g1 hs3 (j := 1) rfl rfl
  obtain ⟨D, c, bs, rfl, hc, hD⟩ := open_bytes_field Tryz.underlying36 (by kernel_rfl) Tryz.underlying5 h3
  exact ⟨z0, z1, A, B, D, a, b, c, vs, ls, bs, rfl, w0, w1, ⟨hA.sl, hB.sl, hD⟩, hc⟩
end Go.Proofs.YtfpomllhkbbipaaGreatDoor
