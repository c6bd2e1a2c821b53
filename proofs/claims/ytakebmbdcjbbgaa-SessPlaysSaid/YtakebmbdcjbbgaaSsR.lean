/- Layer 13: how a table of sessions lies in memory. -/
import Derived.Test.YtakebmbdcjbbgaaSsF
import Derived.Test.YtakebmbdcjbbgaaHeap
import Derived.Test.YtakebmbdcjbbgaaAp2
import Derived.Maps.Ext
namespace Go.Proofs.Ytakebmbdcjbbgaa
open Go.RowKit Go.Maps Go.Lib Mem Ss

/-- a session and where it lies -/
structure Rec where
  s : Sn
  sb : Nat
  A : Option Addr
  c : Nat
def Rec.row (r : Rec) : Value := .slice r.A r.s.kept.length r.c
def RecOK (base : Nat) (w : World) (r : Rec) : Prop :=
  Blk w r.sb 71 #[.int .i64 r.s.high, r.row] ∧ base ≤ r.sb ∧ OwnK 3 itN base 76 w r.row r.s.kept
def entry (r : Rec) : Lit × DataW Unit := (.int .i64 r.s.id, .lit (.int .i64 r.sb))
def findR (id : Int) (rs : List Rec) : Option Rec := rs.find? fun r => r.s.id == id
def insR (f : Rec) : List Rec → List Rec
  | [] => [f]
  | y :: r => if f.s.id < y.s.id then f :: y :: r else y :: insR f r
def updR (f : Rec) (rs : List Rec) : List Rec := rs.map fun y => if y.s.id == f.s.id then f else y
theorem insR_s (f : Rec) (rs : List Rec) : (insR f rs).map Rec.s = insS f.s (rs.map Rec.s) := by
  induction rs with
  | nil => rfl
  | cons y r ih => unfold insR; rw [List.map_cons]; unfold insS; split <;> simp [ih]
theorem updR_s (f : Rec) (rs : List Rec) : (updR f rs).map Rec.s = updS f.s (rs.map Rec.s) := by
  unfold updR updS; rw [List.map_map, List.map_map]
  apply List.map_congr_left
  intro r _; simp only [Function.comp]; split <;> rfl
theorem findR_s (id : Int) (rs : List Rec) : findS id (rs.map Rec.s) = (findR id rs).map Rec.s := by
  unfold findS findR; rw [List.find?_map]; rfl
theorem findR_some {id : Int} {rs : List Rec} {r : Rec} (h : findR id rs = some r) : r.s.id = id ∧ r ∈ rs :=
  ⟨by have := List.find?_some h; simpa using this, List.mem_of_find?_eq_some h⟩
theorem findR_none {id : Int} {rs : List Rec} (h : findR id rs = none) : ∀ r ∈ rs, r.s.id ≠ id := by
  unfold findR at h
  intro r hr; simpa using List.find?_eq_none.1 h r hr
theorem same_i64 (a b : Int) : (Lit.int .i64 a).sameKey (.int .i64 b) = (a == b) := by
  show decide (IntKind.i64 = IntKind.i64 ∧ a = b) = (a == b)
  by_cases h : a = b <;> simp [h]
theorem atKey_entries (id : Int) (rs : List Rec) : (DataW.map (rs.map entry)).atKey (.int .i64 id) .nil = match findR id rs with | some r => .lit (.int .i64 r.sb) | none => .nil := by
  unfold DataW.atKey findR
  simp only [List.find?_map]
  have e : ((fun p : Lit × DataW Unit => p.1.sameKey (.int .i64 id)) ∘ entry) = fun r => r.s.id == id := by funext r; exact same_i64 _ _
  rw [e]
  cases List.find? (fun r : Rec => r.s.id == id) rs <;> rfl
theorem insert_entries (r : Rec) (rs : List Rec) : DataW.insert (entry r) (rs.map entry) = (insR r rs).map entry := by
  induction rs with
  | nil => rfl
  | cons y s ih =>
    rw [List.map_cons]
    unfold DataW.insert insR
    have e : (entry r).1.before (entry y).1 = decide (r.s.id < y.s.id) := rfl
    rw [e]
    by_cases h : r.s.id < y.s.id <;> simp [h, ih]
/-- a new key -/
theorem put_entries {r : Rec} {rs : List Rec} (hn : ∀ x ∈ rs, x.s.id ≠ r.s.id) : (DataW.map (rs.map entry)).put (.int .i64 r.s.id) (.lit (.int .i64 r.sb)) = .map ((insR r rs).map entry) := by
  unfold DataW.put
  show DataW.map (DataW.insert (entry r) _) = _
  rw [← insert_entries]
  congr 2
  rw [List.filter_eq_self]
  intro x hx
  obtain ⟨y, hy, rfl⟩ := List.mem_map.1 hx
  have : (entry y).1.sameKey (.int .i64 r.s.id) = false := by
    show (Lit.int .i64 y.s.id).sameKey (.int .i64 r.s.id) = false
    rw [same_i64, beq_eq_false_iff_ne]; exact hn y hy
  simp [this]
theorem tyKeys : Keyed Try.prog 2 := int_keyed Try.underlying2
theorem sesZero (w : World) : (zeroValue 69).run Try.prog w = .ok (.pointer none) w := by kernel_rfl
/-- a table at block p: its map at mb, its sessions rs; all of it from block base on -/
structure TRep0 (base : Nat) (w : World) (p : Nat) (t : Tb) (mb : Nat) (rs : List Rec) : Prop where
  blk : Blk w p 67 #[.map (some mb)]
  inP : base ≤ p
  inM : base ≤ mb
  map : w.ownsMap Try.prog 2 ptrR mb rs.length (.map (rs.map entry))
  sess : rs.map Rec.s = t
  recs : ∀ r ∈ rs, RecOK base w r
  sbs : (rs.map Rec.sb).Nodup
  rows : rs.Pairwise fun a b => Apart a.row b.row
structure TRep (base : Nat) (w : World) (p : Nat) (t : Tb) (mb : Nat) (rs : List Rec) : Prop extends TRep0 base w p t mb rs where
  ok : OkT t
def TabAt (base : Nat) (w : World) (p : Nat) (t : Tb) : Prop := ∃ mb rs, TRep base w p t mb rs
section
variable {base : Nat} {w w' : World} {p mb : Nat} {t : Tb} {rs : List Rec} {r : Rec}
theorem RecOK.frm {G : Nat → Prop} (h : RecOK base w r) (hf : Frm G w w') (hd : ∀ g, base ≤ g → ¬ G g) : RecOK base w' r := by
  obtain ⟨h1, h2, h3⟩ := h
  refine ⟨h1.frm hf (hd _ h2), h2, ?_⟩
  obtain ⟨a, b⟩ := h3
  refine ⟨a, ?_⟩
  rcases b with b | ⟨g, cap, cur, e, hb, hh, c⟩
  · exact .inl b
  · exact .inr ⟨g, cap, cur, e, hb, (hf.block g (lt_of_block hh) (hd g hb)).trans hh, c⟩
theorem TRep0.frm {G : Nat → Prop} (h : TRep0 base w p t mb rs) (hf : Frm G w w') (hd : ∀ g, base ≤ g → ¬ G g) : TRep0 base w' p t mb rs :=
  { h with blk := h.blk.frm hf (hd _ h.inP), map := map_frm h.map hf (hd _ h.inM), recs := fun r hr => (h.recs r hr).frm hf hd }
theorem TRep0.below (h : TRep0 base w p t mb rs) (hb : Below w.heap.size w w') : TRep0 base w' p t mb rs := h.frm (G := fun _ => False) (Frm.below hb) (fun _ _ e => e)
theorem TRep.frm {G : Nat → Prop} (h : TRep base w p t mb rs) (hf : Frm G w w') (hd : ∀ g, base ≤ g → ¬ G g) : TRep base w' p t mb rs := ⟨h.toTRep0.frm hf hd, h.ok⟩
theorem TRep.below (h : TRep base w p t mb rs) (hb : Below w.heap.size w w') : TRep base w' p t mb rs := h.frm (G := fun _ => False) (Frm.below hb) (fun _ _ e => e)
theorem TabAt.below (h : TabAt base w p t) (hb : Below w.heap.size w w') : TabAt base w' p t := by
  obtain ⟨mb, rs, h⟩ := h
  exact ⟨mb, rs, h.below hb⟩
theorem TRep.find (h : TRep base w p t mb rs) (id : Int) : findS id t = (findR id rs).map Rec.s := by rw [← h.sess]; exact findR_s id rs
theorem TRep.okS (h : TRep base w p t mb rs) (hr : r ∈ rs) : OkS r.s := h.ok.each r.s (by rw [← h.sess]; exact List.mem_map_of_mem hr)
theorem TRep.slK (h : TRep base w p t mb rs) (hr : r ∈ rs) : SlK 3 itN 76 (fun g => base ≤ g) w r.A r.s.kept := ((h.recs r hr).2.2.slK itN_len).2
def ptrOf (o : Option Rec) : Value := match o with | some r => .pointer (some ⟨r.sb, 0, none⟩) | none => .pointer none
theorem TRep0.lookup (h : TRep0 base w p t mb rs) (id : Int) (hid : (Lit.int .i64 id).wf = true) :
    (Instr.lookup 65 (.map (some mb)) (.int .i64 id) false).run Try.prog w = .ok (ptrOf (findR id rs)) w := by
  obtain ⟨v, ps, hrun, hv⟩ := h.map.lookup tyKeys Try.underlying65 (sesZero _) (zd := .nil) (zp := []) rfl (keyOf_int_mk Try.underlying2 hid)
  rw [hrun]
  rw [atKey_entries] at hv
  unfold ptrOf
  rcases ptrR_inv hv with ⟨rfl, e⟩ | ⟨b, rfl, e⟩
  · cases hf : findR id rs with
    | none => rfl
    | some r => rw [hf] at e; simp at e
  · cases hf : findR id rs with
    | none => rw [hf] at e; simp at e
    | some r =>
      rw [hf] at e; simp at e
      have : b = r.sb := by omega
      rw [this]
theorem TRep0.len (h : TRep0 base w p t mb rs) (ty : TypeId) : (Builtin.len_ #[65] ty #[.map (some mb)]).run Try.prog w = .ok (.int .i64 (t.length : Int)) w := by
  rw [h.map.len Try.underlying65 ty]
  have : Maps.size (DataW.map (rs.map entry)) = t.length := by rw [← h.sess]; simp [Maps.size]
  rw [this]
end
theorem New_any (w : World) : Calls Try.prog 9 #[] w fun e w' => ∃ p, e = .returned (.pointer (some ⟨p, 0, none⟩)) ∧ TabAt w.heap.size w' p [] ∧ Below w.heap.size w w' := by
  have hmm := @run_makeMap Try.prog
  go_enter Try.func9, Try.ntmps9
  go_wp2
  go_ret
  have h2 : (w.alloc (.map #[] 0)).heap.size = w.heap.size + 1 := World.size_alloc ..
  refine ⟨w.heap.size + 1, rfl, ⟨w.heap.size, [], ?_⟩, ((Below.refl _ _).alloc (Nat.le_refl _) _).alloc (by rw [h2]; omega) _⟩
  have hmade := (World.ownsMap_made w Try.prog 2 ptrR).alloc (.cells #[Value.map (some w.heap.size)] 67)
  have hb := Blk.new_ (w.alloc (.map #[] 0)) 67 #[Value.map (some w.heap.size)]
  rw [h2] at hb
  exact ⟨{ blk := hb, inP := (by omega), inM := Nat.le_refl _, map := hmade, sess := rfl, recs := (by simp), sbs := (by simp), rows := List.Pairwise.nil }, OkT.nil⟩
def HiP (n : Int) (w : World) (e : Ending) (w' : World) : Prop := e = .returned (.int .i64 n) ∧ w = w'
theorem Highest_any {base : Nat} {w : World} {p : Nat} {t : Tb} (h : TabAt base w p t) (id : Int) (hid : (Lit.int .i64 id).wf = true) :
    Calls Try.prog 14 #[.pointer (some ⟨p, 0, none⟩), .int .i64 id] w (HiP (highT t id) w) := by
  obtain ⟨mb, rs, h⟩ := h
  have hlk := h.lookup id hid
  have c0 : w.cell? ⟨p, 0, none⟩ = some (.map (some mb)) := h.blk.cell 0
  have hf := h.find id
  obtain ⟨n, hn⟩ : ∃ n, n = highT t id := ⟨_, rfl⟩
  rw [← hn]
  unfold highT at hn
  cases hr : findR id rs with
  | none =>
    rw [hr] at hlk hf
    unfold ptrOf at hlk
    simp only at hlk
    rw [hf] at hn
    have hn0 : n = 0 := hn
    subst hn0
    clear hn hf hr h
    go_enter Try.func14, Try.ntmps14
    go_wp2_with fail
    go_ret
    exact ⟨rfl, rfl⟩
  | some r =>
    rw [hr] at hlk hf
    unfold ptrOf at hlk
    simp only at hlk
    rw [hf] at hn
    have hn0 : n = r.s.high := hn
    have d0 : w.cell? ⟨r.sb, 0, none⟩ = some (.int .i64 n) := by rw [hn0]; exact (h.recs r (findR_some hr).2).1.cell 0
    clear hn hn0 hf hr h
    go_enter Try.func14, Try.ntmps14
    go_wp2_with fail
    go_ret
    exact ⟨rfl, rfl⟩
end Go.Proofs.Ytakebmbdcjbbgaa
