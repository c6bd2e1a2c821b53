/- Layer 5: the walk of Loose, over a map. -/
import Derived.Test.YtepkjnhijocojaaDskF
import Derived.Maps.RangeWalk
import Derived.Sort.MapsRangeIn
namespace Go.Proofs.Ytepkjnhijocojaa
open Go.RowKit Go.Maps Mem Dsk

theorem atKey_entries' (n : Name) (rs : List Rec) (zd : DataW Unit) : (DataW.map (rs.map entry)).atKey (.string n) zd = match findR n rs with | some r => .lit (.int .i64 r.fb) | none => zd := by
  unfold DataW.atKey findR
  simp only [List.find?_map]
  have e : ((fun p : Lit × DataW Unit => p.1.sameKey (.string n)) ∘ entry) = fun r => r.file.name == n := by funext r; rfl
  rw [e]
  cases List.find? (fun r : Rec => r.file.name == n) rs <;> rfl
/-- the entry that a round brings -/
theorem entry_found {rs : List Rec} {n : Name} {v : Value} {y : DataW Unit × List MemPlace} (hv : ptrR v = some y) (hat : ∀ zd, (DataW.map (rs.map entry)).atKey (.string n) zd = y.1) :
    ∃ r, findR n rs = some r ∧ v = .pointer (some ⟨r.fb, 0, none⟩) := by
  cases hf : findR n rs with
  | none =>
    exfalso
    have h1 := hat (.lit (.bool true))
    have h2 := hat (.lit (.bool false))
    rw [atKey_entries', hf] at h1 h2
    simp only at h1 h2
    rw [← h2] at h1
    cases h1
  | some r =>
    have h1 := hat .nil
    rw [atKey_entries', hf] at h1
    rcases ptrR_inv hv with ⟨rfl, e⟩ | ⟨b, rfl, e⟩
    · rw [e] at h1; cases h1
    · rw [e] at h1; simp at h1
      have : b = r.fb := by omega
      exact ⟨r, rfl, by rw [this]⟩
def sumL (L : Name → Bool) : List Rec → Nat
  | [] => 0
  | x :: r => (if L x.file.name then (loose x.file).length else 0) + sumL L r
theorem sumL_none {L : Name → Bool} {rs : List Rec} (h : ∀ n, L n = false) : sumL L rs = 0 := by
  induction rs with
  | nil => rfl
  | cons x r ih => unfold sumL; rw [ih, h]; rfl
theorem sumL_all {L : Name → Bool} {rs : List Rec} (h : ∀ x ∈ rs, L x.file.name = true) : sumL L rs = ((rs.map Rec.file).map (fun f => (loose f).length)).sum := by
  induction rs with
  | nil => rfl
  | cons x r ih => unfold sumL; rw [ih (fun y hy => h y (by simp [hy])), h x (by simp)]; simp
theorem sumL_congr {L M : Name → Bool} {rs : List Rec} (h : ∀ x ∈ rs, L x.file.name = M x.file.name) : sumL L rs = sumL M rs := by
  induction rs with
  | nil => rfl
  | cons x r ih => unfold sumL; rw [ih (fun y hy => h y (by simp [hy])), h x (by simp)]
theorem sumL_step {L : Name → Bool} {rs : List Rec} {r : Rec} (hs : (rs.map Rec.file).Pairwise (fun a b => lt a.name b.name = true)) (hr : r ∈ rs) (hL : L r.file.name = true) :
    sumL L rs = (loose r.file).length + sumL (fun n => L n && !(n == r.file.name)) rs := by
  induction rs with
  | nil => simp at hr
  | cons x l ih =>
    rw [List.map_cons, List.pairwise_cons] at hs
    have hne : ∀ y ∈ l, y.file.name ≠ x.file.name := fun y hy e => lt_ne (hs.1 y.file (List.mem_map_of_mem hy)) e.symm
    unfold sumL
    rcases List.mem_cons.1 hr with rfl | hr
    · rw [hL, sumL_congr (M := fun n => L n && !(n == r.file.name)) (fun y hy => by simp [hne y hy])]
      simp
    · rw [ih hs.2 hr]
      have : x.file.name ≠ r.file.name := fun e => hne r hr e.symm
      simp only [beq_eq_false_iff_ne.2 this, Bool.not_false, Bool.and_true]
      omega
theorem sumL_le {L : Name → Bool} {rs : List Rec} (h : ∀ x ∈ rs, x.file.now.length ≤ 65536) : sumL L rs ≤ rs.length * 2048 := by
  induction rs with
  | nil => simp [sumL]
  | cons x r ih =>
    unfold sumL
    have h1 := ih (fun y hy => h y (by simp [hy]))
    have h2 : (loose x.file).length ≤ 2048 := by have := loosePre_len x.file ((x.file.now.length + 31) / 32); rw [loosePre_all] at this; have := h x (by simp); omega
    rw [List.length_cons]
    split <;> omega
theorem Rep.sum {F : Nat → Prop} {w : World} {p mb : Nat} {s : S} {rs : List Rec} (h : Rep F w p s mb rs) {L : Name → Bool} (hL : ∀ x ∈ rs, L x.file.name = true) : sumL L rs = looseN s := by
  rw [sumL_all hL, h.files]; rfl
/-- the loop over the map is under way -/
def LoopRel (w : World) (p : Nat) (s : S) (mb : Nat) (rs : List Rec) (nv : Value) (wr : World) : Prop :=
  ∃ (left : Lit → Bool) (cnt n : Nat), wr.ranges Try.prog 9 ptrR mb w.heap.size rs.length (.map (rs.map entry)) left cnt ∧ nv = .int .i64 n ∧ n + sumL (fun k => left (.string k)) rs = looseN s ∧ Below w.heap.size w wr
theorem grown_of_below {w w' : World} (h : Below w.heap.size w w') : w.grownBy w' none := ⟨h.os, h.tape, h.output, h.size, fun i hi _ => h.block i hi⟩
theorem below_of_grown {w w' : World} (h : w.grownBy w' none) : Below w.heap.size w w' := ⟨h.os, h.tape, h.output, h.size, fun i hi => h.block i hi (by simp)⟩
theorem has_entry {rs : List Rec} {x : Rec} (hx : x ∈ rs) : Maps.has (DataW.map (rs.map entry)) (.string x.file.name) = true := by
  unfold Maps.has
  simp only [List.any_map, List.any_eq_true]
  exact ⟨x, hx, by simp [entry, Lit.sameKey]⟩
def ptrV (o : Option Nat) : Value := .pointer (o.map fun b => ⟨b, 0, none⟩)
theorem ptrR_shape (v : Value) (y : DataW Unit × List MemPlace) (h : ptrR v = some y) : ∃ c, v = ptrV c := by
  rcases ptrR_inv h with ⟨rfl, _⟩ | ⟨b, rfl, _⟩
  · exact ⟨none, rfl⟩
  · exact ⟨some b, rfl⟩
theorem key_string {P : Program} {k : TypeId} (hk : P.underlying k = some .string) {x : ByteArray} {kl : Lit} (h : keyOf P k (.string x) = some kl) : kl = .string x.data.toList ∧ x.size ≤ maxLen := by
  have e : keyOf P k (.string x) = if x.size ≤ maxLen then some (.string x.data.toList) else none := by unfold keyOf; rw [hk]; simp only; unfold mapKey; rw [hk]
  generalize maxLen = m at *
  rw [e] at h
  by_cases h1 : x.size ≤ m
  · rw [if_pos h1] at h
    exact ⟨(Option.some.inj h).symm, h1⟩
  · rw [if_neg h1] at h
    exact absurd h.symm (Option.some_ne_none _)
set_option maxHeartbeats 1000000 in
theorem Loose_any {F : Nat → Prop} {w : World} {p : Nat} {s : S} (h : DiskAt F w p s) :
    Calls Try.prog 13 #[.pointer (some ⟨p, 0, none⟩)] w fun e w' => e = .returned (.int .i64 (looseN s)) ∧ DiskAt F w' p s ∧ Below w.heap.size w w' := by
  obtain ⟨mb, rs, h⟩ := h
  have hown := h.map
  have c0 : w.cell? ⟨p, 0, none⟩ = some (.map (some mb)) := h.blk.cell 0
  have hso : (rs.map Rec.file).Pairwise (fun a b => lt a.name b.name = true) := by rw [h.files]; exact h.sorted
  have hsum : ∀ L : Name → Bool, sumL L rs ≤ 256 * 2048 := fun L => by
    have h1 := sumL_le (L := L) (rs := rs) (fun x hx => (h.recs x hx).2.2.2.2.2.2.2.2.1)
    have h2 := h.count
    rw [← h.files, List.length_map] at h2
    exact Nat.le_trans h1 (Nat.mul_le_mul_right 2048 h2)
  have HSO := Lib.hid hso; clear hso
  have HSUM := Lib.hid hsum; clear hsum
  have H := Lib.hid h; clear h
  have hmlt := hown.lt
  go_enter Try.func13, Try.ntmps13
  go_wp2_with (at_range; refine wpList_range_own _ rfl _ 62 rfl 9 65 tyKeys Try.underlying62 ptrR mb rs.length _ rfl hown ?_; intro w0 hrg0 hg0 hs0)
  go_frame
  go_loopw [3] (fun nv wr => LoopRel w p s mb rs nv wr) (fun _ wr => wr.rangeLeft mb w.heap.size)
  case atStart => exact ⟨_, _, 0, hrg0, rfl, by rw [H.out.sum (fun x hx => has_entry hx)]; omega, below_of_grown hg0⟩
  case round =>
    obtain ⟨left, cnt, n, hrg, rfl, hn, hbw⟩ := hrel
    have HN := Lib.hid hn; clear hn
    have HBW := Lib.hid hbw; clear hbw
    go_wp2_with (at_next; refine wpList_next_ranges _ rfl _ rfl 9 tyKeys ptrR Value.string ptrV (fun _ _ hk => Maps.keyOf_string_inv Try.underlying9 hk) ptrR_shape mb w.heap.size rs.length _ _ _ rfl hrg ?_ ?_)
    · intro _ hl0
      have hz : sumL (fun k => left (.string k)) rs = 0 := sumL_none (fun k => hl0 _)
      have HZ := Lib.hid hz; clear hz
      clear hl0
      go_wp2_with fail
      go_ret
      refine ⟨ret_i64 ?_, ⟨mb, rs, H.out.below HBW.out⟩, HBW.out⟩
      have h1 := HN.out
      have h2 := HZ.out
      omega
    · intro x c kl y1 y2 w1 cnt1 hkey hlk hy hat hrg1 hlt hg1 hs1 hen
      obtain ⟨rfl, _⟩ := key_string Try.underlying9 hkey
      obtain ⟨r, hr, hv⟩ := entry_found hy hat
      rw [hv] at hen
      have hst := sumL_step (L := fun k => left (.string k)) HSO.out (findR_some hr).2 (by rw [(findR_some hr).1]; exact hlk)
      rw [(findR_some hr).1] at hst
      have HST := Lib.hid hst; clear hst
      have hb1 : Below w.heap.size w w1 := ⟨hg1.os.trans HBW.out.os, hg1.tape.trans HBW.out.tape, hg1.output.trans HBW.out.output, Nat.le_trans HBW.out.size hg1.size, fun i hi => (hg1.block i (Nat.lt_of_lt_of_le hi HBW.out.size) (by simp; omega)).trans (HBW.out.block i hi)⟩
      have hok := (H.out.below hb1).recs r (findR_some hr).2
      have HB1 := Lib.hid hb1; clear hb1
      have HLT := Lib.hid hlt; clear hlt
      have hbd : n ≤ 524288 := by have h1 := HN.out; have h2 := HSUM.out (fun _ => true); have h3 := H.out.sum (L := fun _ => true) (fun _ _ => rfl); omega
      have hbd2 : (loose r.file).length ≤ 524288 := by have h1 := HST.out; have h2 := HSUM.out (fun k => left (.string k)); omega
      rw [hv]
      clear hkey hlk hy hat hv hs1 hg1
      go_wp2_with (go_at_call 31; (with_reducible refine (loose_any hok).mono ?_); rintro e w2 ⟨A2, c2, rfl, _, hb2⟩)
      have hrg2 := hrg1.kept (grown_of_below hb2) (by simp) (by simp)
      go_roundw
      case rel => exact ⟨_, cnt1, n + (loose r.file).length, hrg2, by go_num, by have h1 := HN.out; have h2 := HST.out; show n + (loose r.file).length + sumL (fun k => left (.string k) && !(k == x.data.toList)) rs = _; omega, HB1.out.trans (hb2.mono HB1.out.size)⟩
      case measure => rw [hrg2.left_eq, hrg.left_eq]; exact HLT.out
end Go.Proofs.Ytepkjnhijocojaa
