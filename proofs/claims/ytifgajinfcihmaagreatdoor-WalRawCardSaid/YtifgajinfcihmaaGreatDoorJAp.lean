/- Layer 5: how a disk lies in memory. -/
import Derived.Test.YtifgajinfcihmaaGreatDoorProg
import Derived.Maps.Ext
import Derived.StringKeys
import Derived.WalkKit
import Derived.WalkSpells
import Derived.WalkLawsBesides
import Derived.Lib.Hide
import Derived.Deep.QuietTactic
import Derived.BigQuiet
import Derived.Maps.Own
import Derived.Maps.OwnSet
import Derived.OwnWalk
import Derived.Test.YtifgajinfcihmaaGreatDoorJAl
import Derived.Test.YtifgajinfcihmaaGreatDoorJAa
import Derived.Test.YtifgajinfcihmaaGreatDoorJAb
namespace Go.Proofs.YtifgajinfcihmaaGreatDoor
open Go.RowKit Go.Maps Mem Dsk
structure Rec where
 file : File
 fb : Nat
 A : Option Addr
 c : Nat
 B : Option Addr
 d : Nat
def Rec.cells (r : Rec) : Array Value := #[.slice r.A r.file.now.length r.c, .slice r.B r.file.safe.length r.d]
def small (f : File) : Prop := f.now.length ≤ 65536 ∧ f.safe.length ≤ 65536 ∧ named f.name = true
def RecOK (F : Nat → Prop) (w : World) (r : Rec) : Prop :=
 Blk w r.fb 83 r.cells ∧ F r.fb ∧ SlB fB 5 F w r.A r.file.now ∧ SlB fB 5 F w r.B r.file.safe ∧ r.file.now.length ≤ r.c ∧ r.c ≤ maxLen ∧ r.file.safe.length ≤ r.d ∧ r.d ≤ maxLen ∧ small r.file
def entry (r : Rec) : Lit × DataW Unit := (.string r.file.name, .lit (.int .i64 r.fb))
def delR (n : Name) (rs : List Rec) : List Rec := rs.filter (fun r => !(r.file.name == n))
def insR (f : Rec) : List Rec → List Rec
 | [] => [f]
 | y :: r => if lt f.file.name y.file.name then f :: y :: r else y :: insR f r
def findR (n : Name) (rs : List Rec) : Option Rec := rs.find? (fun r => r.file.name == n)
def updR (n : Name) (g : Rec → Rec) (rs : List Rec) : List Rec := rs.map (fun r => if r.file.name == n then g r else r)
theorem delR_file (n : Name) (rs : List Rec) : (delR n rs).map Rec.file = del n (rs.map Rec.file) := by
 unfold delR del; rw [List.filter_map]; rfl
theorem insR_file (f : Rec) (rs : List Rec) : (insR f rs).map Rec.file = ins f.file (rs.map Rec.file) := by
 induction rs with
 | nil => rfl
 | cons y r ih => unfold insR; rw [List.map_cons]; unfold ins; split <;> simp [ih]
theorem findR_file (n : Name) (rs : List Rec) : find n (rs.map Rec.file) = (findR n rs).map Rec.file := by
 unfold find findR; rw [List.find?_map]; rfl
theorem findR_some {n : Name} {rs : List Rec} {r : Rec} (h : findR n rs = some r) : r.file.name = n ∧ r ∈ rs :=
 ⟨by have := List.find?_some h; simpa using this, List.mem_of_find?_eq_some h⟩
theorem atKey_entries (n : Name) (rs : List Rec) : (DataW.map (rs.map entry)).atKey (.string n) .nil = match findR n rs with | some r => .lit (.int .i64 r.fb) | none => .nil := by
 unfold DataW.atKey findR
 simp only [List.find?_map]
 have e : ((fun p : Lit × DataW Unit => p.1.sameKey (.string n)) ∘ entry) = fun r => r.file.name == n := by funext r; rfl
 rw [e]
 cases List.find? (fun r : Rec => r.file.name == n) rs <;> rfl
theorem del_entries (n : Name) (rs : List Rec) : (DataW.map (rs.map entry)).del (.string n) = .map ((delR n rs).map entry) := by
 unfold DataW.del delR
 simp only [List.filter_map]; rfl
theorem insert_entries (r : Rec) (rs : List Rec) : DataW.insert (entry r) (rs.map entry) = (insR r rs).map entry := by
 induction rs with
 | nil => rfl
 | cons y s ih =>
   rw [List.map_cons]
   unfold DataW.insert insR
   have e : (entry r).1.before (entry y).1 = lt r.file.name y.file.name := (lt_before _ _).symm
   rw [e]
   split <;> simp [ih]
theorem put_entries (r : Rec) (rs : List Rec) : (DataW.map (rs.map entry)).put (.string r.file.name) (.lit (.int .i64 r.fb)) = .map ((insR r (delR r.file.name rs)).map entry) := by
 have h := del_entries r.file.name rs
 unfold DataW.del at h
 unfold DataW.put
 injection h with h
 show DataW.map (DataW.insert (entry r) _) = _
 rw [h, insert_entries]
theorem tyKeys : Keyed Tryz.prog 9 := string_keyed Tryz.underlying9
structure Rep (F : Nat → Prop) (w : World) (p : Nat) (s : S) (mb : Nat) (rs : List Rec) : Prop where
 blk : Blk w p 78 #[.map (some mb), .bool s.down, .int .i64 s.fuse]
 inP : F p
 inM : F mb
 map : w.ownsMap Tryz.prog 9 ptrR mb rs.length (.map (rs.map entry))
 files : rs.map Rec.file = s.files
 recs : ∀ r ∈ rs, RecOK F w r
 apart : (rs.map Rec.fb).Nodup
 sorted : Sorted s.files
 count : s.files.length ≤ 256
 fuse : s.fuse ≤ 9223372036854775807
def DiskAt (F : Nat → Prop) (w : World) (p : Nat) (s : S) : Prop := ∃ mb rs, Rep F w p s mb rs
section
variable {F G : Nat → Prop} {w w' : World} {p mb : Nat} {s : S} {rs : List Rec} {r : Rec}
theorem RecOK.mono (h : RecOK F w r) (hF : ∀ g, g < w.heap.size → F g → G g) : RecOK G w r :=
 ⟨h.1, hF _ h.1.lt h.2.1, h.2.2.1.mono hF, h.2.2.2.1.mono hF, h.2.2.2.2⟩
theorem Rep.mono (h : Rep F w p s mb rs) (hF : ∀ g, g < w.heap.size → F g → G g) : Rep G w p s mb rs :=
 { h with inP := hF _ h.blk.lt h.inP, inM := hF _ h.map.lt h.inM, recs := fun r hr => (h.recs r hr).mono hF }
theorem RecOK.frm (h : RecOK F w r) (hf : Frm G w w') (hd : ∀ g, F g → ¬ G g) : RecOK F w' r :=
 ⟨h.1.frm hf (hd _ h.2.1), h.2.1, h.2.2.1.frm hf hd, h.2.2.2.1.frm hf hd, h.2.2.2.2⟩
theorem Rep.frm (h : Rep F w p s mb rs) (hf : Frm G w w') (hd : ∀ g, F g → ¬ G g) : Rep F w' p s mb rs :=
 { h with blk := h.blk.frm hf (hd _ h.inP), map := map_frm h.map hf (hd _ h.inM), recs := fun r hr => (h.recs r hr).frm hf hd }
theorem Rep.below (h : Rep F w p s mb rs) (hf : Below w.heap.size w w') : Rep F w' p s mb rs := h.frm (G := fun _ => False) (Frm.below hf) (fun _ _ h => h)
theorem RecOK.far {g : Nat} {t : TypeId} {cs : Array Value} (h : RecOK F w r) (hb : Blk w g t cs) (h1 : g ≠ r.fb) (h2 : 5 ≠ t) (i : Nat) (u : Value) : RecOK F (w.setCell ⟨g, i, none⟩ u) r :=
 ⟨h.1.far (fun e => h1 e.symm) u, h.2.1, h.2.2.1.far hb h2 i u, h.2.2.2.1.far hb h2 i u, h.2.2.2.2⟩
theorem Rep.setHead (h : Rep F w p s mb rs) {s' : S} (i : Nat) (u : Value) (hf : s'.files = s.files) (hu : s'.fuse ≤ 9223372036854775807)
 (hc : (#[Value.map (some mb), .bool s.down, .int .i64 s.fuse] : Array Value).setIfInBounds i u = #[.map (some mb), .bool s'.down, .int .i64 s'.fuse]) : Rep F (w.setCell ⟨p, i, none⟩ u) p s' mb rs :=
 { blk := by have := h.blk.set_ i u; rw [hc] at this; exact this
   inP := h.inP, inM := h.inM, map := map_set h.map h.blk i u, files := by rw [hf]; exact h.files
   recs := fun r hr => (h.recs r hr).far h.blk (Blk.ne_ h.blk (h.recs r hr).1 (by decide)) (by decide) i u
   apart := h.apart, sorted := by rw [hf]; exact h.sorted, count := by rw [hf]; exact h.count, fuse := hu }
theorem Rep.uniq (h : Rep F w p s mb rs) {a b : Rec} (ha : a ∈ rs) (hb : b ∈ rs) (e : a.file.name = b.file.name) : a = b := by
 have hs : (rs.map Rec.file).Pairwise (fun a b => lt a.name b.name = true) := by rw [h.files]; exact h.sorted
 rw [List.pairwise_map] at hs
 obtain ⟨i, hi, rfl⟩ := List.getElem_of_mem ha
 obtain ⟨j, hj, rfl⟩ := List.getElem_of_mem hb
 rw [List.pairwise_iff_getElem] at hs
 rcases Nat.lt_trichotomy i j with k | k | k
 ·exact absurd e (lt_ne (hs i j hi hj k))
 ·subst k; rfl
 ·exact absurd e.symm (lt_ne (hs j i hj hi k))
theorem Rep.fb_ne (h : Rep F w p s mb rs) {a b : Rec} (ha : a ∈ rs) (hb : b ∈ rs) (e : a.file.name ≠ b.file.name) : a.fb ≠ b.fb := by
 have hs := h.apart
 unfold List.Nodup at hs
 rw [List.pairwise_map] at hs
 obtain ⟨i, hi, rfl⟩ := List.getElem_of_mem ha
 obtain ⟨j, hj, rfl⟩ := List.getElem_of_mem hb
 rw [List.pairwise_iff_getElem] at hs
 rcases Nat.lt_trichotomy i j with k | k | k
 ·exact hs i j hi hj k
 ·subst k; exact absurd rfl e
 ·exact fun e => hs j i hj hi k e.symm
theorem map_exact {P : Program} {k : TypeId} {R : Value → Option (DataW Unit × List MemPlace)} {b n : Nat} {L : List (Lit × DataW Unit)} (h : w.ownsMap P k R b n (.map L)) : w.ownsMap P k R b L.length (.map L) := by
 obtain ⟨es, clock, hb, Ft, hs, hD⟩ := h
 refine ⟨es, clock, hb, Ft, ?_, hD⟩
 injection hD with hD
 rw [hD, length_sorted]; simp
theorem Rep.setFile (h : Rep F w p s mb rs) {n : Name} (hr : findR n rs = some r) {r' : Rec} {gf : File → File} (hn : ∀ f, (gf f).name = f.name)
 (hfb : r'.fb = r.fb) (hfile : r'.file = gf r.file) (i : Nat) (u : Value) (hcs : r.cells.setIfInBounds i u = r'.cells)
 (hA : SlB fB 5 F w r'.A r'.file.now) (hB : SlB fB 5 F w r'.B r'.file.safe) (hc : r'.file.now.length ≤ r'.c ∧ r'.c ≤ maxLen ∧ r'.file.safe.length ≤ r'.d ∧ r'.d ≤ maxLen ∧ small r'.file) :
 Rep F (w.setCell ⟨r.fb, i, none⟩ u) p { s with files := upd n gf s.files } mb (updR n (fun _ => r') rs) := by
 obtain ⟨hname, hmem⟩ := findR_some hr
 have hrec := h.recs r hmem
 have hname' : r'.file.name = n := by rw [hfile, hn]; exact hname
 have hent : (updR n (fun _ => r') rs).map entry = rs.map entry := by
  unfold updR; rw [List.map_map]
  apply List.map_congr_left
  intro x hx; simp only [Function.comp]
  split
  ·rename_i e
   have e : x.file.name = n := by simpa using e
   have := h.uniq hx hmem (by rw [e, hname])
   subst this
   unfold entry; rw [hfb, hname', hname]
  ·rfl
 have hfiles : (updR n (fun _ => r') rs).map Rec.file = upd n gf s.files := by
  rw [← h.files]
  unfold updR upd; rw [List.map_map, List.map_map]
  apply List.map_congr_left
  intro x hx; simp only [Function.comp]
  split
  ·rename_i e
   have e : x.file.name = n := by simpa using e
   have := h.uniq hx hmem (by rw [e, hname])
   subst this; exact hfile
  ·rfl
 refine { blk := h.blk.far (fun e => (Blk.ne_ h.blk hrec.1 (by decide)) e) u, inP := h.inP, inM := h.inM, map := ?_, files := hfiles, recs := ?_, apart := ?_, sorted := upd_sorted hn h.sorted, count := by rw [upd_len]; exact h.count, fuse := h.fuse }
 ·rw [hent]
  have := map_set h.map hrec.1 i u
  unfold updR; rw [List.length_map]; exact this
 ·intro x hx
  unfold updR at hx
  obtain ⟨y, hy, rfl⟩ := List.mem_map.1 hx
  split
  ·refine ⟨?_, by rw [hfb]; exact hrec.2.1, hA.far hrec.1 (by decide) i u, hB.far hrec.1 (by decide) i u, hc⟩
   have := hrec.1.set_ i u
   rw [hcs] at this; rw [hfb]; exact this
  ·rename_i e
   have e : y.file.name ≠ n := by simpa using e
   exact (h.recs y hy).far hrec.1 (h.fb_ne hmem hy (by rw [hname]; exact fun e' => e e'.symm)) (by decide) i u
 ·have : (updR n (fun _ => r') rs).map Rec.fb = rs.map Rec.fb := by
   unfold updR; rw [List.map_map]
   apply List.map_congr_left
   intro x hx; simp only [Function.comp]
   split
   ·rename_i e
    have e : x.file.name = n := by simpa using e
    have := h.uniq hx hmem (by rw [e, hname])
    subst this; exact hfb
   ·rfl
  rw [this]; exact h.apart
theorem Rep.lookup (h : Rep F w p s mb rs) (n : ByteArray) (hn : n.size ≤ maxLen) (hz : ∀ w : World, (zeroValue 79).run Tryz.prog w = .ok (.pointer none) w) (k : Nat) :
 (Instr.lookup 76 (.map (some mb)) (.string n) false).run Tryz.prog (w.drewN k) = .ok (match findR n.data.toList rs with | some r => .pointer (some ⟨r.fb, 0, none⟩) | none => .pointer none) (w.drewN k) := by
 have hm : (w.drewN k).ownsMap Tryz.prog 9 ptrR mb rs.length (.map (rs.map entry)) := h.map
 obtain ⟨v, ps, hrun, hv⟩ := hm.lookup tyKeys Tryz.underlying76 (hz _) (zd := .nil) (zp := []) rfl (Go.WideMaps.keyOf_string_mk Tryz.underlying9 hn)
 rw [hrun]
 rw [atKey_entries] at hv
 rcases ptrR_inv hv with ⟨rfl, e⟩ | ⟨b, rfl, e⟩
 ·cases hf : findR n.data.toList rs with
  | none => rfl
  | some r => rw [hf] at e; simp at e
 ·cases hf : findR n.data.toList rs with
  | none => rw [hf] at e; simp at e
  | some r =>
    rw [hf] at e; simp at e
    have : b = r.fb := by omega
    rw [this]
theorem fileZero (w : World) : (zeroValue 79).run Tryz.prog w = .ok (.pointer none) w := by kernel_rfl
end
end Go.Proofs.YtifgajinfcihmaaGreatDoor
namespace Go.Proofs.YtifgajinfcihmaaGreatDoor
open Go.RowKit Go.Maps Mem Dsk
def sname (s : ByteArray) : Name := s.data.toList
theorem sname_len (s : ByteArray) : (sname s).length = s.size := by simp [sname]
theorem named_eq (s : ByteArray) : (decide (1 ≤ (s.size : Int)) && decide ((s.size : Int) ≤ 16)) = named (sname s) := by
 unfold named; rw [sname_len, Bool.eq_iff_iff]; simp only [Bool.and_eq_true, decide_eq_true_eq]; omega
set_option maxHeartbeats 400000 in
theorem named_any (s : ByteArray) (hs : s.size ≤ maxLen) (w : World) :
 Calls Tryz.prog 88 #[.string s] w fun e w' => e = .returned (.bool (named (sname s))) ∧ w = w' := by
 have hn := named_eq s
 unfold maxLen at hs
 by_cases h1 : 1 ≤ s.size
 ·have e : decide ((s.size : Int) ≤ 16) = named (sname s) := by rw [← hn, decide_eq_true (p := (1 : Int) ≤ s.size) (by omega)]; rfl
  clear hn
  go_enter Tryz.func88, Tryz.ntmps88
  go_wp2
  go_ret
  exact ⟨rfl, rfl⟩
 ·have e : named (sname s) = false := by rw [← hn]; simp; omega
  clear hn
  have h1 : s.size = 0 := by omega
  go_enter Tryz.func88, Tryz.ntmps88
  go_wp2
  go_ret
  exact ⟨ret_bool e.symm, rfl⟩
def StepPost (F : Nat → Prop) (p : Nat) (s : S) (mb : Nat) (rs : List Rec) (w : World) (e : Ending) (w' : World) : Prop :=
 e = .returned (.bool (!(Dsk.step s).down)) ∧ Rep F w' p (Dsk.step s) mb rs ∧ Frm (fun g => g = p) w w'
theorem step_no {s : S} (h : ¬ (0 < s.fuse ∧ s.down = false)) : Dsk.step s = s := by unfold Dsk.step; rw [if_neg h]
theorem step_yes {s : S} (h : 0 < s.fuse ∧ s.down = false) : Dsk.step s = { s with fuse := s.fuse - 1, down := decide (s.fuse - 1 = 0) } := by unfold Dsk.step; rw [if_pos h]
theorem fuse_test {n : Nat} (h : 0 < n) : ((n : Int) - 1 == 0) = decide (n - 1 = 0) := by rw [Bool.eq_iff_iff]; simp only [beq_iff_eq, decide_eq_true_eq]; omega
theorem fuse_pred {n : Nat} (h : 0 < n) : (n : Int) - 1 = ((n - 1 : Nat) : Int) := by omega
set_option maxHeartbeats 400000 in
theorem step_any {F : Nat → Prop} {w : World} {p : Nat} {s : S} {mb : Nat} {rs : List Rec} (h : Rep F w p s mb rs) :
 Calls Tryz.prog 67 #[.pointer (some ⟨p, 0, none⟩)] w (StepPost F p s mb rs w) := by
 have hb := h.blk
 have c1 : w.cell? ⟨p, 1, none⟩ = some (.bool s.down) := hb.cell 1
 have c2 : w.cell? ⟨p, 2, none⟩ = some (.int .i64 s.fuse) := hb.cell 2
 have f1 := hb.free 1
 have f2 := hb.free 2
 have hfu := h.fuse
 obtain ⟨files, down, fuse⟩ := s
 simp only at c1 c2 hfu hb
 have HR := Lib.hid h; clear h hb
 by_cases hf : 0 < fuse
 ·cases down
  ·have hst := step_yes (s := ⟨files, false, fuse⟩) ⟨hf, rfl⟩
   have HST := Lib.hid hst; clear hst
   go_enter Tryz.func67, Tryz.ntmps67
   go_wp2
   go_ret
   refine ⟨?_, ?_, ((Frm.refl (fun g => g = p) w).setCell (p := ⟨p, 2, none⟩) (fun _ => rfl) _).setCell (p := ⟨p, 1, none⟩) (fun _ => rfl) _⟩
   ·rw [HST.out]; exact ret_bool (by rw [fuse_test hf])
   ·rw [HST.out, ← fuse_test hf, fuse_pred hf]
    have h1 := HR.out.setHead (s' := ⟨files, false, fuse - 1⟩) 2 (.int .i64 ((fuse - 1 : Nat) : Int)) rfl (by show fuse - 1 ≤ _; omega) rfl
    exact h1.setHead (s' := ⟨files, (((fuse - 1 : Nat) : Int) == 0), fuse - 1⟩) 1 _ rfl (by show fuse - 1 ≤ _; omega) rfl
  ·go_enter Tryz.func67, Tryz.ntmps67
   go_wp2
   go_ret
   refine ⟨?_, ?_, Frm.refl _ _⟩
   ·rw [step_no (by simp)]; rfl
   ·rw [step_no (by simp)]; exact HR.out
 ·go_enter Tryz.func67, Tryz.ntmps67
  go_wp2
  go_ret
  refine ⟨?_, ?_, Frm.refl _ _⟩
  ·rw [step_no (by simp; omega)]; rfl
  ·rw [step_no (by simp; omega)]; exact HR.out
theorem notnamed_any (s : ByteArray) (hs : s.size ≤ maxLen) (w : World) :
 Calls Tryz.prog 87 #[.string s] w fun e w' => e = .returned (.bool (!named (sname s))) ∧ w = w' := by
 go_enter Tryz.func87, Tryz.ntmps87
 go_wp2_with (go_at_call 88; (with_reducible refine (named_any _ hs _).mono ?_); rintro e w' ⟨rfl, rfl⟩)
 go_ret
 exact ⟨rfl, rfl⟩
def anyBad (ns : List ByteArray) : Bool := ns.any (fun n => !named (sname n))
theorem anyBad_snoc {ns : List ByteArray} {k : Nat} (h : k < ns.length) (h0 : anyBad (ns.take k) = false) (h1 : (!named (sname ns[k])) = false) : anyBad (ns.take (k + 1)) = false := by
 unfold anyBad at *
 rw [List.take_succ_eq_append_getElem h, List.any_append, h0, Bool.false_or]
 simpa using h1
theorem anyBad_hit {ns : List ByteArray} {k : Nat} (h : k < ns.length) (h1 : (!named (sname ns[k])) = true) : anyBad ns = true := by
 unfold anyBad; rw [List.any_eq_true]; exact ⟨ns[k], List.getElem_mem h, h1⟩
def IdxPost (ns : List ByteArray) (w : World) (e : Ending) (w' : World) : Prop := ∃ i : Int, e = .returned (.int .i64 i) ∧ (anyBad ns = decide (0 ≤ i)) ∧ w = w'
set_option maxHeartbeats 400000 in
theorem indexbad_any (A : Option Addr) (c : Nat) (ns : List ByteArray) (w : World) (hs : Sl Value.string w A ns) (hm : ∀ n ∈ ns, n.size ≤ maxLen) :
 Calls Tryz.prog 108 #[.slice A ns.length c, .func (.func 87) #[] #[]] w (IdxPost ns w) := by
 have hl := hs.len
 have HM := Lib.hid hm; clear hm
 go_enter Tryz.func108, Tryz.ntmps108
 go_wp2_with fail
 go_loop [8] (fun i => ∃ k : Nat, k ≤ ns.length ∧ i = .int .i64 k ∧ anyBad (ns.take k) = false) (fun i => ns.length - (intOf i).toNat)
 case atStart => exact ⟨0, Nat.zero_le _, rfl, rfl⟩
 case round =>
  obtain ⟨k, hk, rfl, hbad⟩ := hrel
  have HB := Lib.hid hbad; clear hbad
  by_cases hlt : k < ns.length
  ·obtain ⟨b, o, rfl, _, hc⟩ := hs.at hlt
   have hck := hc k hlt
   clear hc
   have hsz := HM.out ns[k] (List.getElem_mem hlt)
   cases hbk : (!named (sname ns[k]))
   ·go_wp2_with (go_at_call 87; (with_reducible refine (notnamed_any _ hsz _).mono ?_); rintro e w' ⟨rfl, rfl⟩)
    go_round
    case rel => exact ⟨k + 1, by omega, by go_num, anyBad_snoc hlt HB.out hbk⟩
    case measure => simp [intOf]; omega
   ·go_wp2_with (go_at_call 87; (with_reducible refine (notnamed_any _ hsz _).mono ?_); rintro e w' ⟨rfl, rfl⟩)
    go_ret
    exact ⟨_, rfl, by rw [anyBad_hit hlt hbk, decide_eq_true (by omega)], rfl⟩
  ·go_wp2_with fail
   go_ret
   have HB := HB.out
   rw [List.take_of_length_le (by omega)] at HB
   exact ⟨_, rfl, by rw [HB]; rfl, rfl⟩
set_option maxHeartbeats 400000 in
theorem containsbad_any (A : Option Addr) (c : Nat) (ns : List ByteArray) (w : World) (hs : Sl Value.string w A ns) (hm : ∀ n ∈ ns, n.size ≤ maxLen) :
 Calls Tryz.prog 86 #[.slice A ns.length c, .func (.func 87) #[] #[]] w fun e w' => e = .returned (.bool (anyBad ns)) ∧ w = w' := by
 have HM := Lib.hid hm; clear hm
 go_enter Tryz.func86, Tryz.ntmps86
 go_wp2_with fail
 (with_reducible refine (indexbad_any _ _ _ _ hs HM.out).mono ?_); rintro e w' ⟨i, rfl, hi, rfl⟩
 have HI := Lib.hid hi; clear hi
 go_wp2_with fail
 go_ret
 exact ⟨ret_bool HI.out.symm, rfl⟩
end Go.Proofs.YtifgajinfcihmaaGreatDoor
namespace Go.Proofs.YtifgajinfcihmaaGreatDoor
open Go.RowKit Go.Maps Mem Dsk
def lookV (s : S) (rs : List Rec) (ns : List ByteArray) : Option Rec × Nat :=
 if s.down then (none, 50) else if anyBad ns then (none, 1) else
  match findR (sname (ns.headD ByteArray.empty)) rs with
  | some r => (some r, 0)
  | none => (none, 4)
def ptrOf : Option Rec → Value
 | some r => .pointer (some ⟨r.fb, 0, none⟩)
 | none => .pointer none
def tupleOf (x : Option Rec × Nat) : Value := .tuple #[ptrOf x.1, .int .i64 x.2]
theorem anyBad_map (ns : List ByteArray) : anyBad ns = (ns.map sname).any (fun n => !named n) := by unfold anyBad; rw [List.any_map]; rfl
theorem lookV_look {s : S} {rs : List Rec} (h : rs.map Rec.file = s.files) (ns : List ByteArray) (hne : ns ≠ []) :
 Dsk.look s (ns.map sname) = ((lookV s rs ns).1.map Rec.file, (lookV s rs ns).2) := by
 unfold Dsk.look lookV
 rw [← anyBad_map]
 split
 ·rfl
 ·split
  ·rfl
  ·match ns, hne with
   | n :: r, _ =>
     show (match find (sname n) s.files with | some f => (some f, 0) | none => (none, 4)) = _
     rw [← h, findR_file]
     show _ = (Option.map Rec.file (match findR (sname n) rs with | some r => (some r, 0) | none => (none, 4)).1, (match findR (sname n) rs with | some r => (some r, 0) | none => (none, 4)).2)
     cases findR (sname n) rs <;> rfl
theorem lookV_rec {s : S} {rs : List Rec} {ns : List ByteArray} {r : Rec} {e : Nat} (h : lookV s rs ns = (some r, e)) : e = 0 ∧ findR (sname (ns.headD ByteArray.empty)) rs = some r := by
 unfold lookV at h
 split at h
 ·simp at h
 ·split at h
  ·simp at h
  ·split at h
   ·rename_i r' hf
    simp at h; obtain ⟨rfl, rfl⟩ := h; exact ⟨rfl, hf⟩
   ·simp at h
def LookPost (s : S) (rs : List Rec) (ns : List ByteArray) (w : World) (e : Ending) (w' : World) : Prop :=
 e = .returned (tupleOf (lookV s rs ns)) ∧ ∃ k, w' = w.drewN k
set_option maxHeartbeats 400000 in
theorem look_any {F : Nat → Prop} {w : World} {p : Nat} {s : S} {mb : Nat} {rs : List Rec} (h : Rep F w p s mb rs) (A : Option Addr) (c : Nat) (ns : List ByteArray) (hne : 0 < ns.length)
 (hs : Sl Value.string w A ns) (hm : ∀ n ∈ ns, n.size ≤ maxLen) :
 Calls Tryz.prog 68 #[.pointer (some ⟨p, 0, none⟩), .slice A ns.length c] w (LookPost s rs ns w) := by
 have hb := h.blk
 have c0 : w.cell? ⟨p, 0, none⟩ = some (.map (some mb)) := hb.cell 0
 have c1 : w.cell? ⟨p, 1, none⟩ = some (.bool s.down) := hb.cell 1
 have hl := hs.len
 by_cases hd : s.down = true
 ·have hv : lookV s rs ns = (none, 50) := by unfold lookV; rw [if_pos hd]
  have HV := Lib.hid hv; clear hv hb h hs hm
  go_enter Tryz.func68, Tryz.ntmps68
  go_wp2_with fail
  go_ret2
  exact ⟨by rw [HV.out]; rfl, 0, rfl⟩
 have hd : s.down = false := by simpa using hd
 by_cases hbad : anyBad ns = true
 ·have hv : lookV s rs ns = (none, 1) := by unfold lookV; rw [if_neg (by rw [hd]; decide), if_pos hbad]
  have HV := Lib.hid hv; clear hv hb h
  have HM := Lib.hid hm; clear hm
  go_enter Tryz.func68, Tryz.ntmps68
  go_wp2_with (go_at_call 86; (with_reducible refine (containsbad_any _ _ _ _ hs HM.out).mono ?_); rintro e w' ⟨rfl, rfl⟩)
  go_ret2
  exact ⟨by rw [HV.out]; rfl, 0, rfl⟩
 have hbad : anyBad ns = false := by simpa using hbad
 have hv : lookV s rs ns = (match findR (sname (ns.headD ByteArray.empty)) rs with | some r => (some r, 0) | none => (none, 4)) := by
  unfold lookV; rw [if_neg (by rw [hd]; decide), if_neg (by rw [hbad]; decide)]
 obtain ⟨b, o, rfl, _, hc⟩ := hs.at hne
 have hc0 : w.cell? ⟨b, o, none⟩ = some (.string ns[0]) := hc 0 hne
 have hh : ns.headD ByteArray.empty = ns[0] := by cases ns with | nil => simp at hne | cons a r => rfl
 rw [hh] at hv
 have hlk := h.lookup ns[0] (hm _ (List.getElem_mem hne)) fileZero
 have hlen0 : (0 : Int) < (ns.length : Int) := by omega
 have HM := Lib.hid hm; clear hm
 clear hc hb h hh
 rw [show ns[0].data.toList = sname ns[0] from rfl] at hlk
 cases hf : findR (sname ns[0]) rs with
 | none =>
   rw [hf] at hv hlk
   have HV := Lib.hid hv; clear hv hf
   go_enter Tryz.func68, Tryz.ntmps68
   go_wp2_with (go_at_call 86; (with_reducible refine (containsbad_any _ _ _ _ hs HM.out).mono ?_); rintro e w' ⟨rfl, rfl⟩)
   go_quiet (fail)
   go_wp2_with fail
   go_ret2
   exact ⟨by rw [HV.out]; rfl, _, rfl⟩
 | some r =>
   rw [hf] at hv hlk
   have HV := Lib.hid hv; clear hv hf
   go_enter Tryz.func68, Tryz.ntmps68
   go_wp2_with (go_at_call 86; (with_reducible refine (containsbad_any _ _ _ _ hs HM.out).mono ?_); rintro e w' ⟨rfl, rfl⟩)
   go_quiet (fail)
   go_wp2_with fail
   go_ret2
   exact ⟨by rw [HV.out]; rfl, _, rfl⟩
def ChangePost (F : Nat → Prop) (p : Nat) (s : S) (mb : Nat) (rs : List Rec) (ns : List ByteArray) (w : World) (e : Ending) (w' : World) : Prop :=
 e = .returned (tupleOf (lookV (Dsk.step s) rs ns)) ∧ Rep F w' p (Dsk.step s) mb rs ∧ Frm (fun g => g = p) w w'
theorem step_files (s : S) : (Dsk.step s).files = s.files := by unfold Dsk.step; split <;> rfl
set_option maxHeartbeats 400000 in
theorem change_any {F : Nat → Prop} {w : World} {p : Nat} {s : S} {mb : Nat} {rs : List Rec} (h : Rep F w p s mb rs) (A : Option Addr) (c : Nat) (ns : List ByteArray) (hne : 0 < ns.length)
 {G : Nat → Prop} (hs : SlB Value.string 9 G w A ns) (hG : ¬ G p) (hm : ∀ n ∈ ns, n.size ≤ maxLen) :
 Calls Tryz.prog 38 #[.pointer (some ⟨p, 0, none⟩), .slice A ns.length c] w (ChangePost F p s mb rs ns w) := by
 have HM := Lib.hid hm; clear hm
 go_enter Tryz.func38, Tryz.ntmps38
 go_wp2_with fail
 (with_reducible refine (step_any h).mono ?_); rintro e w1 ⟨rfl, h1, hf1⟩
 have hs1 : SlB Value.string 9 G w1 A ns := hs.frm hf1 (fun g hg e => hG (by rw [← e]; exact hg))
 have HF := Lib.hid hf1; clear hf1
 go_wp2_with fail
 (with_reducible refine (look_any h1 _ _ _ hne hs1.sl HM.out).mono ?_); rintro e w2 ⟨rfl, k, rfl⟩
 unfold tupleOf
 go_wp2_with fail
 go_ret2
 exact ⟨rfl, h1.below (below_drewN (Below.refl _ _) k), HF.out.drewN k⟩
end Go.Proofs.YtifgajinfcihmaaGreatDoor
namespace Go.Proofs.YtifgajinfcihmaaGreatDoor
open Go.RowKit Go.Maps Mem Dsk
section
variable {F G : Nat → Prop} {w w' : World} {p mb : Nat} {s : S} {rs rs' : List Rec} {r : Rec}
theorem SlB.map_far {α : Type} {f : α → Value} {e : TypeId} {A : Option Addr} {xs : List α} {es : Array MapEntry} {ck : Nat} (h : SlB f e F w A xs) (hb : w.heap[mb]? = some (.map es ck)) (hf : Frm (fun g => g = mb) w w') : SlB f e F w' A xs :=
 h.keep fun g cur fr _ hg => hf.block g (by
  rcases Nat.lt_or_ge g w.heap.size with hl | hl
  ·exact hl
  ·rw [Array.getElem?_eq_none hl] at hg; cases hg) (by intro e; subst e; rw [hb] at hg; cases hg)
theorem Rep.remap (h : Rep F w p s mb rs) (hf : Frm (fun g => g = mb) w w') {n : Nat} {fs' : List File} (hm : w'.ownsMap Tryz.prog 9 ptrR mb n (.map (rs'.map entry))) (hfiles : rs'.map Rec.file = fs')
 (hrec : ∀ r ∈ rs', RecOK F w r) (hap : (rs'.map Rec.fb).Nodup) (hso : Sorted fs') (hct : fs'.length ≤ 256) : Rep F w' p { s with files := fs' } mb rs' := by
 have hne := map_blk_ne h.map h.blk
 have hmap := h.map
 obtain ⟨es, ck, hb, _⟩ := h.map
 refine { blk := h.blk.frm hf (fun e => hne e.symm), inP := h.inP, inM := h.inM, map := ?_, files := hfiles, recs := fun r hr => ?_, apart := hap, sorted := hso, count := hct, fuse := h.fuse }
 ·have := map_exact hm; rw [List.length_map] at this; exact this
 ·obtain ⟨a, b, c, d, e⟩ := hrec r hr
  exact ⟨a.frm hf (fun e => map_blk_ne hmap a e.symm), b, SlB.map_far c hb hf, SlB.map_far d hb hf, e⟩
theorem delR_of_none {n : Name} (h : findR n rs = none) : delR n rs = rs := by
 unfold findR at h; rw [List.find?_eq_none] at h
 unfold delR; rw [List.filter_eq_self]
 intro x hx; have := h x hx; simpa using this
theorem insR_perm (f : Rec) (l : List Rec) : (insR f l).Perm (f :: l) := by
 induction l with
 | nil => exact List.Perm.refl _
 | cons y r ih =>
   unfold insR; split
   ·exact List.Perm.refl _
   ·exact ((ih.cons y).trans (List.Perm.swap f y r))
theorem insR_mem {f x : Rec} {l : List Rec} : x ∈ insR f l ↔ x = f ∨ x ∈ l := by rw [(insR_perm f l).mem_iff]; simp
theorem insR_apart {f : Rec} {l : List Rec} (h : (l.map Rec.fb).Nodup) (hn : ∀ x ∈ l, x.fb ≠ f.fb) : ((insR f l).map Rec.fb).Nodup := by
 rw [((insR_perm f l).map Rec.fb).nodup_iff, List.map_cons, List.nodup_cons]
 refine ⟨fun hm => ?_, h⟩
 obtain ⟨x, hx, e⟩ := List.mem_map.1 hm
 exact hn x hx e
theorem delR_apart {n : Name} (h : (rs.map Rec.fb).Nodup) : ((delR n rs).map Rec.fb).Nodup := h.sublist ((List.filter_sublist).map _)
end
def up (F : Nat → Prop) (w : World) : Nat → Prop := fun g => F g ∨ w.heap.size ≤ g
theorem New_any (w : World) : Calls Tryz.prog 10 #[] w fun e w' => ∃ p, e = .returned (.pointer (some ⟨p, 0, none⟩)) ∧ DiskAt (fun g => w.heap.size ≤ g) w' p ⟨[], false, 0⟩ ∧ Below w.heap.size w w' := by
 have hmm := @run_makeMap Tryz.prog
 go_enter Tryz.func10, Tryz.ntmps10
 go_wp2
 go_ret
 have h2 : (w.alloc (.map #[] 0)).heap.size = w.heap.size + 1 := World.size_alloc ..
 refine ⟨w.heap.size + 1, rfl, ⟨w.heap.size, [], ?_⟩, ((Below.refl _ _).alloc (Nat.le_refl _) _).alloc (by rw [h2]; omega) _⟩
 have hmade := (World.ownsMap_made w Tryz.prog 9 ptrR).alloc (.cells #[Value.map (some w.heap.size), Value.bool false, Value.int IntKind.i64 0] 78)
 have hb := Blk.new_ (w.alloc (.map #[] 0)) 78 #[Value.map (some w.heap.size), Value.bool false, Value.int IntKind.i64 0]
 rw [h2] at hb
 exact { blk := hb, inP := (by show w.heap.size ≤ w.heap.size + 1; omega), inM := Nat.le_refl _, map := hmade, files := rfl, recs := (by simp), apart := (by simp), sorted := List.Pairwise.nil, count := (by simp), fuse := (by simp) }
theorem lookV_none {s : S} {rs : List Rec} {ns : List ByteArray} {e : Nat} (h : lookV s rs ns = (none, e)) : e = 50 ∨ e = 1 ∨ (e = 4 ∧ s.down = false ∧ anyBad ns = false ∧ findR (sname (ns.headD ByteArray.empty)) rs = none) := by
 unfold lookV at h
 split at h
 ·simp at h; omega
 ·rename_i hd
  split at h
  ·simp at h; omega
  ·rename_i hb
   split at h
   ·simp at h
   ·rename_i hf
    simp at h; exact .inr (.inr ⟨h.symm, by simpa using hd, by simpa using hb, hf⟩)
section
variable {F : Nat → Prop} {w : World} {p mb : Nat} {s : S} {rs : List Rec}
theorem change_one (h : Rep F w p s mb rs) (n : ByteArray) (hn : n.size ≤ maxLen) {o : Option Rec} {e : Nat} (hl : lookV (Dsk.step s) rs [n] = (o, e)) (g : Nat) (hg : g = w.heap.size) :
 Calls Tryz.prog 38 #[.pointer (some ⟨p, 0, none⟩), .slice (some ⟨g, 0, none⟩) 1 1] (w.alloc (.cells #[.string n] 9))
  fun x w' => x = .returned (.tuple #[ptrOf o, .int .i64 e]) ∧ Rep F w' p (Dsk.step s) mb rs ∧ Frm (fun g => g = p) w w' := by
 subst hg
 have hlt := h.blk.lt
 have h1 := h.below ((Below.refl w.heap.size w).alloc (Nat.le_refl _) (.cells #[.string n] 9))
 have hs : SlB Value.string 9 (fun g => g = w.heap.size) (w.alloc (.cells #[.string n] 9)) (some ⟨w.heap.size, 0, none⟩) [n] :=
  ⟨by unfold maxLen; simp, fun _ => ⟨_, _, _, _, rfl, rfl, heap_alloc_new w _, fun j hj => by simp at hj; subst hj; rfl⟩⟩
 refine (change_any h1 (some ⟨w.heap.size, 0, none⟩) 1 [n] (by simp) hs (by omega) (by simpa using hn)).mono ?_
 rintro x w' ⟨hx, h2, h3⟩
 refine ⟨by rw [hx, hl]; rfl, h2, ?_⟩
 exact ((Frm.refl _ _).alloc _).trans h3
end
def OpPost (F : Nat → Prop) (p : Nat) (res : S × Nat) (w : World) (e : Ending) (w' : World) : Prop :=
 e = .returned (.int .i64 res.2) ∧ DiskAt (up F w) w' p res.1 ∧ Frm F w w'
theorem look_one {s : S} {rs : List Rec} (h : rs.map Rec.file = s.files) (n : ByteArray) {o : Option Rec} {e : Nat} (hl : lookV (Dsk.step s) rs [n] = (o, e)) : Dsk.look (Dsk.step s) [sname n] = (o.map Rec.file, e) := by
 have := lookV_look (h.trans (step_files s).symm) [n] (by simp)
 rw [hl] at this; exact this
theorem up_mono {F : Nat → Prop} {w : World} (g : Nat) (h : F g) : up F w g := .inl h
theorem Frm.inP {F : Nat → Prop} {w w' : World} {p : Nat} (hp : F p) (h : Frm (fun g => g = p) w w') : Frm F w w' := h.mono (fun _ _ e => by rw [e]; exact hp)
set_option maxHeartbeats 1000000 in
theorem Create_any {F : Nat → Prop} {w : World} {p : Nat} {s : S} (h : DiskAt F w p s) (n : ByteArray) (hn : n.size ≤ maxLen) :
 Calls Tryz.prog 13 #[.pointer (some ⟨p, 0, none⟩), .string n] w (OpPost F p (Dsk.create s (sname n)) w) := by
 obtain ⟨mb, rs, h⟩ := h
 have hlt := h.blk.lt
 have hFp := h.inP
 have hfiles := h.files
 rcases hlk : lookV (Dsk.step s) rs [n] with ⟨o, e⟩
 have hlo := look_one hfiles n hlk
 cases o with
 | some r =>
   obtain ⟨rfl, _⟩ := lookV_rec hlk
   have hres : Dsk.create s (sname n) = (Dsk.step s, 5) := by unfold Dsk.create; simp only [hlo]; rfl
   have HRES := Lib.hid hres; clear hres hlo
   go_enter Tryz.func13, Tryz.ntmps13
   go_wp2_with fail
   (with_reducible refine (change_one h n hn hlk _ rfl).mono ?_); rintro x w1 ⟨rfl, h1, hf1⟩
   have HF := Lib.hid hf1; clear hf1
   unfold ptrOf
   go_wp2_with fail
   go_ret
   refine ⟨by rw [HRES.out]; rfl, ?_, Frm.inP hFp HF.out⟩
   rw [HRES.out]
   exact ⟨mb, rs, h1.mono (fun g _ => up_mono g)⟩
 | none =>
   by_cases he : e = 4
   ·subst he
    obtain ⟨hd, hbad, hno⟩ : (Dsk.step s).down = false ∧ anyBad [n] = false ∧ findR (sname n) rs = none := by
     rcases lookV_none hlk with h | h | ⟨_, a, b, c⟩
     ·omega
     ·omega
     ·exact ⟨a, b, c⟩
    by_cases hct : s.files.length = 256
    ·have hres : Dsk.create s (sname n) = (Dsk.step s, 3) := by unfold Dsk.create; simp only [hlo, step_files]; simp [hct]
     have HRES := Lib.hid hres; clear hres hlo
     have hlen : rs.length = s.files.length := by rw [← hfiles]; simp
     have t1 : ((Maps.size (DataW.map (rs.map entry)) : Int) == 256) = true := by rw [beq_iff_eq, Maps.size_eq, List.length_map]; omega
     have HCT := Lib.hid hct; clear hct hlen
     go_enter Tryz.func13, Tryz.ntmps13
     go_wp2_with fail
     (with_reducible refine (change_one h n hn hlk _ rfl).mono ?_); rintro x w1 ⟨rfl, h1, hf1⟩
     have HF := Lib.hid hf1; clear hf1
     have c0 : w1.cell? ⟨p, 0, none⟩ = some (.map (some mb)) := h1.blk.cell 0
     have hown := h1.map
     unfold ptrOf
     go_wp2_with (at_len; refine wpList_len_own _ rfl _ _ rfl 9 79 Tryz.underlying76 ptrR mb _ _ rfl hown ?_)
     go_ret
     refine ⟨by rw [HRES.out]; rfl, ?_, Frm.inP hFp HF.out⟩
     rw [HRES.out]
     exact ⟨mb, rs, h1.mono (fun g _ => up_mono g)⟩
    ·have hres : Dsk.create s (sname n) = ({ Dsk.step s with files := Dsk.put ⟨sname n, [], []⟩ s.files }, 0) := by unfold Dsk.create; simp only [hlo, step_files]; simp [hct]
     have HRES := Lib.hid hres; clear hres hlo
     have hlen : rs.length = s.files.length := by rw [← hfiles]; simp
     have hle := h.count
     have t1 : ((Maps.size (DataW.map (rs.map entry)) : Int) == 256) = false := by rw [beq_eq_false_iff_ne, Maps.size_eq, List.length_map]; omega
     have HMX : Hid (rs.length < maxLen) := by show rs.length < maxLen; unfold maxLen; omega
     have HCT : Hid (s.files.length < 256) := by show s.files.length < 256; omega
     clear hct hlen hle
     go_enter Tryz.func13, Tryz.ntmps13
     go_wp2_with fail
     (with_reducible refine (change_one h n hn hlk _ rfl).mono ?_); rintro x w1 ⟨rfl, h1, hf1⟩
     have HF := Lib.hid hf1; clear hf1
     have c0 : w1.cell? ⟨p, 0, none⟩ = some (.map (some mb)) := h1.blk.cell 0
     have hown := h1.map
     unfold ptrOf
     go_wp2_with (first | (at_len; refine wpList_len_own _ rfl _ _ rfl 9 79 Tryz.underlying76 ptrR mb _ _ rfl hown ?_) | (at_mapUpdate; refine wpList_mapUpdate_own _ rfl _ _ _ 76 rfl 9 79 tyKeys Tryz.underlying76 ptrR mb rs.length (.map (rs.map entry)) rfl (hown.alloc _) HMX.out _ _ (.string (sname n)) rfl rfl (Go.WideMaps.keyOf_string_mk Tryz.underlying9 hn) (.lit (.int .i64 w1.heap.size)) [] rfl ?_; intro w2 hown2 hgr2))
     go_ret
     have hF1 := HF.out
     have hnew : Frm (fun g => g = mb) (w1.alloc (.cells #[.slice none 0 0, .slice none 0 0] 83)) w2 := (Frm.refl _ _).grown hgr2 (fun k e _ => by injection e with e; exact e.symm)
     have hmblt := h.map.lt
     have hall : Frm F w w2 := ((Frm.inP hFp hF1).alloc _).grown hgr2 (fun k e _ => by injection e with e; rw [← e]; exact h.inM)
     refine ⟨by rw [HRES.out]; rfl, ?_, hall⟩
     rw [HRES.out]
     have h2 := (h1.mono (G := up F w) (fun g _ => up_mono g)).below ((Below.refl _ _).alloc (Nat.le_refl _) (.cells #[.slice none 0 0, .slice none 0 0] 83))
     have hno1 : findR (sname n) rs = none := hno
     have hrec : RecOK (up F w) (w1.alloc (.cells #[.slice none 0 0, .slice none 0 0] 83)) ⟨⟨sname n, [], []⟩, w1.heap.size, none, 0, none, 0⟩ :=
      ⟨Blk.new_ w1 _ _, .inr hF1.size, SlB.nil, SlB.nil, Nat.le_refl _, Nat.zero_le _, Nat.le_refl _, Nat.zero_le _, Nat.zero_le _, Nat.zero_le _, by unfold anyBad at hbad; simpa using hbad⟩
     have hput := put_entries ⟨⟨sname n, [], []⟩, w1.heap.size, none, 0, none, 0⟩ rs
     rw [show Rec.fb ⟨⟨sname n, [], []⟩, w1.heap.size, none, 0, none, 0⟩ = w1.heap.size from rfl] at hput
     rw [show (Rec.file ⟨⟨sname n, [], []⟩, w1.heap.size, none, 0, none, 0⟩).name = sname n from rfl, delR_of_none hno1] at hput
     rw [hput] at hown2
     refine ⟨mb, insR ⟨⟨sname n, [], []⟩, w1.heap.size, none, 0, none, 0⟩ rs, ?_⟩
     have hfi : (insR ⟨⟨sname n, [], []⟩, w1.heap.size, none, 0, none, 0⟩ rs).map Rec.file = Dsk.put ⟨sname n, [], []⟩ s.files := by
      rw [insR_file, hfiles]; unfold Dsk.put
      rw [del_of_none]
      rw [← hfiles, findR_file, hno1]; rfl
     refine h2.remap hnew hown2 hfi ?_ ?_ ?_ ?_
     ·intro r hr
      rcases insR_mem.1 hr with rfl | hr
      ·exact hrec
      ·exact h2.recs r hr
     ·refine insR_apart h.apart (fun x hx => ?_)
      have := (h1.recs x hx).1.lt
      show x.fb ≠ w1.heap.size
      omega
     ·exact put_sorted h.sorted
     ·unfold Dsk.put
      rw [ins_len, del_of_none (by rw [← hfiles, findR_file, hno1]; rfl)]
      exact HCT.out
   ·have hres : Dsk.create s (sname n) = (Dsk.step s, e) := by unfold Dsk.create; simp only [hlo]; simp [he]
    have HRES := Lib.hid hres; clear hres hlo
    have hne : ((e : Int) != 4) = true := by rw [bne_iff_ne]; omega
    go_enter Tryz.func13, Tryz.ntmps13
    go_wp2_with fail
    (with_reducible refine (change_one h n hn hlk _ rfl).mono ?_); rintro x w1 ⟨rfl, h1, hf1⟩
    have HF := Lib.hid hf1; clear hf1
    unfold ptrOf
    go_wp2_with fail
    go_ret
    refine ⟨by rw [HRES.out]; rfl, ?_, Frm.inP hFp HF.out⟩
    rw [HRES.out]
    exact ⟨mb, rs, h1.mono (fun g _ => up_mono g)⟩
end Go.Proofs.YtifgajinfcihmaaGreatDoor
namespace Go.Proofs.YtifgajinfcihmaaGreatDoor
open Go.RowKit Go.Maps Mem Dsk
theorem i64_eq_zero {e : Nat} (h : e ≠ 0) : ((e : Int) == 0) = false := by rw [beq_eq_false_iff_ne]; omega
theorem lookV_none_ne {s : S} {rs : List Rec} {ns : List ByteArray} {e : Nat} (h : lookV s rs ns = (none, e)) : e ≠ 0 := by rcases lookV_none h with h | h | h <;> omega
theorem delR_mem {n : Name} {x : Rec} {rs : List Rec} (h : x ∈ delR n rs) : x ∈ rs ∧ x.file.name ≠ n := by
 obtain ⟨a, b⟩ := List.mem_filter.1 h
 exact ⟨a, by simpa using b⟩
theorem del_len_le (n : Name) (fs : List File) : (del n fs).length ≤ fs.length := List.length_filter_le _ _
set_option maxHeartbeats 1000000 in
theorem Remove_any {F : Nat → Prop} {w : World} {p : Nat} {s : S} (h : DiskAt F w p s) (n : ByteArray) (hn : n.size ≤ maxLen) :
 Calls Tryz.prog 59 #[.pointer (some ⟨p, 0, none⟩), .string n] w (OpPost F p (Dsk.remove s (sname n)) w) := by
 obtain ⟨mb, rs, h⟩ := h
 have hlt := h.blk.lt
 have hFp := h.inP
 have hfiles := h.files
 rcases hlk : lookV (Dsk.step s) rs [n] with ⟨o, e⟩
 have hlo := look_one hfiles n hlk
 cases o with
 | some r =>
   obtain ⟨rfl, hfind⟩ := lookV_rec hlk
   have hres : Dsk.remove s (sname n) = ({ Dsk.step s with files := del (sname n) s.files }, 0) := by unfold Dsk.remove; simp only [hlo, step_files]; rfl
   have HRES := Lib.hid hres; clear hres hlo
   have HFI := Lib.hid hfind; clear hfind
   go_enter Tryz.func59, Tryz.ntmps59
   go_wp2_with fail
   (with_reducible refine (change_one h n hn hlk _ rfl).mono ?_); rintro x w1 ⟨rfl, h1, hf1⟩
   have HF := Lib.hid hf1; clear hf1
   have c0 : w1.cell? ⟨p, 0, none⟩ = some (.map (some mb)) := h1.blk.cell 0
   have hown := h1.map
   unfold ptrOf
   go_wp2_with (at_delete; refine wpList_delete_own _ rfl _ _ 76 9 rfl 79 tyKeys Tryz.underlying76 ptrR mb _ _ rfl hown _ (.string (sname n)) rfl (Go.WideMaps.keyOf_string_mk Tryz.underlying9 hn) ?_; intro w2 hown2 hturn)
   go_ret
   have hgr2 := hturn.grown
   have hnew : Frm (fun g => g = mb) w1 w2 := (Frm.refl _ _).grown hgr2 (fun k e _ => by injection e with e; exact e.symm)
   refine ⟨by rw [HRES.out]; rfl, ?_, (Frm.inP hFp HF.out).grown hgr2 (fun k e _ => by injection e with e; rw [← e]; exact h.inM)⟩
   rw [HRES.out]
   rw [del_entries] at hown2
   have h2 := h1.mono (G := up F w) (fun g _ => up_mono g)
   exact ⟨mb, delR (sname n) rs, h2.remap hnew hown2 (by rw [delR_file, hfiles]) (fun r hr => h2.recs r (delR_mem hr).1) (delR_apart h.apart) (del_sorted h.sorted) (Nat.le_trans (del_len_le _ _) h.count)⟩
 | none =>
   have hne := lookV_none_ne hlk
   have hres : Dsk.remove s (sname n) = (Dsk.step s, e) := by unfold Dsk.remove; simp only [hlo]; rfl
   have HRES := Lib.hid hres; clear hres hlo
   have t1 := i64_eq_zero hne
   have HNE := Lib.hid hne; clear hne
   go_enter Tryz.func59, Tryz.ntmps59
   go_wp2_with fail
   (with_reducible refine (change_one h n hn hlk _ rfl).mono ?_); rintro x w1 ⟨rfl, h1, hf1⟩
   have HF := Lib.hid hf1; clear hf1
   unfold ptrOf
   go_wp2_with fail
   go_ret
   refine ⟨by rw [HRES.out]; rfl, ?_, Frm.inP hFp HF.out⟩
   rw [HRES.out]
   exact ⟨mb, rs, h1.mono (fun g _ => up_mono g)⟩
end Go.Proofs.YtifgajinfcihmaaGreatDoor
