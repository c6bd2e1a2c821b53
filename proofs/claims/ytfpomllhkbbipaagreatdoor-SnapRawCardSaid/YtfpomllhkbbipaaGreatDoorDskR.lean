/- Layer 5: how a disk lies in memory. -/
import Derived.Test.YtfpomllhkbbipaaGreatDoorProg
import Derived.Test.YtfpomllhkbbipaaGreatDoorDsk
import Derived.Test.YtfpomllhkbbipaaGreatDoorHeap
import Derived.Test.YtfpomllhkbbipaaGreatDoorByt
import Derived.Maps.Ext
import Derived.StringKeys
namespace Go.Proofs.YtfpomllhkbbipaaGreatDoor
open Go.RowKit Go.Maps Mem Dsk

/-- a file and where it lies -/
structure Rec where
  file : File
  fb : Nat
  A : Option Addr
  c : Nat
  B : Option Addr
  d : Nat
def Rec.cells (r : Rec) : Array Value := #[.slice r.A r.file.now.length r.c, .slice r.B r.file.safe.length r.d]
def small (f : File) : Prop := f.now.length ≤ 65536 ∧ f.safe.length ≤ 65536 ∧ named f.name = true
def RecOK (F : Nat → Prop) (w : World) (r : Rec) : Prop :=
  Blk w r.fb 96 r.cells ∧ F r.fb ∧ SlB fB 5 F w r.A r.file.now ∧ SlB fB 5 F w r.B r.file.safe ∧ r.file.now.length ≤ r.c ∧ r.c ≤ maxLen ∧ r.file.safe.length ≤ r.d ∧ r.d ≤ maxLen ∧ small r.file
def entry (r : Rec) : Lit × DataW Unit := (.string r.file.name, .lit (.int .i64 r.fb))
def delR (n : Name) (rs : List Rec) : List Rec := rs.filter (fun r => !(r.file.name == n))
def insR (f : Rec) : List Rec → List Rec
  | [] => [f]
  | y :: r => if lt f.file.name y.file.name then f :: y :: r else y :: insR f r
def findR (n : Name) (rs : List Rec) : Option Rec := rs.find? (fun r => r.file.name == n)
def updR (n : Name) (g : Rec → Rec) (rs : List Rec) : List Rec := rs.map (fun r => if r.file.name == n then g r else r)
theorem delR_file (n : Name) (rs : List Rec) : (delR n rs).map Rec.file = del n (rs.map Rec.file) := by
  unfold delR del; rw [List.filter_map]; rfl
theorem insR_file (f : Rec) (rs : List Rec) : (insR f rs).map Rec.file = ins f.file (rs.map Rec.file) := by
  induction rs with
  | nil => rfl
  | cons y r ih => unfold insR; rw [List.map_cons]; unfold ins; split <;> simp [ih]
theorem findR_file (n : Name) (rs : List Rec) : find n (rs.map Rec.file) = (findR n rs).map Rec.file := by
  unfold find findR; rw [List.find?_map]; rfl
theorem updR_file {n : Name} {g : Rec → Rec} {h : File → File} (rs : List Rec) (hg : ∀ r, (g r).file = h r.file) : (updR n g rs).map Rec.file = upd n h (rs.map Rec.file) := by
  unfold updR upd; rw [List.map_map, List.map_map]
  apply List.map_congr_left
  intro r _; simp only [Function.comp]; split <;> simp [hg]
theorem findR_some {n : Name} {rs : List Rec} {r : Rec} (h : findR n rs = some r) : r.file.name = n ∧ r ∈ rs :=
  ⟨by have := List.find?_some h; simpa using this, List.mem_of_find?_eq_some h⟩
theorem atKey_entries (n : Name) (rs : List Rec) : (DataW.map (rs.map entry)).atKey (.string n) .nil = match findR n rs with | some r => .lit (.int .i64 r.fb) | none => .nil := by
  unfold DataW.atKey findR
  simp only [List.find?_map]
  have e : ((fun p : Lit × DataW Unit => p.1.sameKey (.string n)) ∘ entry) = fun r => r.file.name == n := by funext r; rfl
  rw [e]
  cases List.find? (fun r : Rec => r.file.name == n) rs <;> rfl
theorem del_entries (n : Name) (rs : List Rec) : (DataW.map (rs.map entry)).del (.string n) = .map ((delR n rs).map entry) := by
  unfold DataW.del delR
  simp only [List.filter_map]; rfl
theorem insert_entries (r : Rec) (rs : List Rec) : DataW.insert (entry r) (rs.map entry) = (insR r rs).map entry := by
  induction rs with
  | nil => rfl
  | cons y s ih =>
    rw [List.map_cons]
    unfold DataW.insert insR
    have e : (entry r).1.before (entry y).1 = lt r.file.name y.file.name := (lt_before _ _).symm
    rw [e]
    split <;> simp [ih]
theorem put_entries (r : Rec) (rs : List Rec) : (DataW.map (rs.map entry)).put (.string r.file.name) (.lit (.int .i64 r.fb)) = .map ((insR r (delR r.file.name rs)).map entry) := by
  have h := del_entries r.file.name rs
  unfold DataW.del at h
  unfold DataW.put
  injection h with h
  show DataW.map (DataW.insert (entry r) _) = _
  rw [h, insert_entries]

theorem tyKeys : Keyed Tryz.prog 9 := string_keyed Tryz.underlying9

/-- a disk at block p: its map at mb, its files rs -/
structure Rep (F : Nat → Prop) (w : World) (p : Nat) (s : S) (mb : Nat) (rs : List Rec) : Prop where
  blk : Blk w p 75 #[.map (some mb), .bool s.down, .int .i64 s.fuse]
  inP : F p
  inM : F mb
  map : w.ownsMap Tryz.prog 9 ptrR mb rs.length (.map (rs.map entry))
  files : rs.map Rec.file = s.files
  recs : ∀ r ∈ rs, RecOK F w r
  apart : (rs.map Rec.fb).Nodup
  sorted : Sorted s.files
  count : s.files.length ≤ 256
  fuse : s.fuse ≤ 9223372036854775807
def DiskAt (F : Nat → Prop) (w : World) (p : Nat) (s : S) : Prop := ∃ mb rs, Rep F w p s mb rs

section
variable {F G : Nat → Prop} {w w' : World} {p mb : Nat} {s : S} {rs : List Rec} {r : Rec}
theorem RecOK.mono (h : RecOK F w r) (hF : ∀ g, g < w.heap.size → F g → G g) : RecOK G w r :=
  ⟨h.1, hF _ h.1.lt h.2.1, h.2.2.1.mono hF, h.2.2.2.1.mono hF, h.2.2.2.2⟩
theorem Rep.mono (h : Rep F w p s mb rs) (hF : ∀ g, g < w.heap.size → F g → G g) : Rep G w p s mb rs :=
  { h with inP := hF _ h.blk.lt h.inP, inM := hF _ h.map.lt h.inM, recs := fun r hr => (h.recs r hr).mono hF }
theorem RecOK.frm (h : RecOK F w r) (hf : Frm G w w') (hd : ∀ g, F g → ¬ G g) : RecOK F w' r :=
  ⟨h.1.frm hf (hd _ h.2.1), h.2.1, h.2.2.1.frm hf hd, h.2.2.2.1.frm hf hd, h.2.2.2.2⟩
theorem Rep.frm (h : Rep F w p s mb rs) (hf : Frm G w w') (hd : ∀ g, F g → ¬ G g) : Rep F w' p s mb rs :=
  { h with blk := h.blk.frm hf (hd _ h.inP), map := map_frm h.map hf (hd _ h.inM), recs := fun r hr => (h.recs r hr).frm hf hd }
theorem Rep.below (h : Rep F w p s mb rs) (hf : Below w.heap.size w w') : Rep F w' p s mb rs := h.frm (G := fun _ => False) (Frm.below hf) (fun _ _ h => h)
theorem RecOK.far {g : Nat} {t : TypeId} {cs : Array Value} (h : RecOK F w r) (hb : Blk w g t cs) (h1 : g ≠ r.fb) (h2 : 5 ≠ t) (i : Nat) (u : Value) : RecOK F (w.setCell ⟨g, i, none⟩ u) r :=
  ⟨h.1.far (fun e => h1 e.symm) u, h.2.1, h.2.2.1.far hb h2 i u, h.2.2.2.1.far hb h2 i u, h.2.2.2.2⟩
/-- a store into the disk's own struct -/
theorem Rep.setHead (h : Rep F w p s mb rs) {s' : S} (i : Nat) (u : Value) (hf : s'.files = s.files) (hu : s'.fuse ≤ 9223372036854775807)
    (hc : (#[Value.map (some mb), .bool s.down, .int .i64 s.fuse] : Array Value).setIfInBounds i u = #[.map (some mb), .bool s'.down, .int .i64 s'.fuse]) : Rep F (w.setCell ⟨p, i, none⟩ u) p s' mb rs :=
  { blk := by have := h.blk.set_ i u; rw [hc] at this; exact this
    inP := h.inP, inM := h.inM, map := map_set h.map h.blk i u, files := by rw [hf]; exact h.files
    recs := fun r hr => (h.recs r hr).far h.blk (Blk.ne_ h.blk (h.recs r hr).1 (by decide)) (by decide) i u
    apart := h.apart, sorted := by rw [hf]; exact h.sorted, count := by rw [hf]; exact h.count, fuse := hu }
theorem Rep.uniq (h : Rep F w p s mb rs) {a b : Rec} (ha : a ∈ rs) (hb : b ∈ rs) (e : a.file.name = b.file.name) : a = b := by
  have hs : (rs.map Rec.file).Pairwise (fun a b => lt a.name b.name = true) := by rw [h.files]; exact h.sorted
  rw [List.pairwise_map] at hs
  obtain ⟨i, hi, rfl⟩ := List.getElem_of_mem ha
  obtain ⟨j, hj, rfl⟩ := List.getElem_of_mem hb
  rw [List.pairwise_iff_getElem] at hs
  rcases Nat.lt_trichotomy i j with k | k | k
  · exact absurd e (lt_ne (hs i j hi hj k))
  · subst k; rfl
  · exact absurd e.symm (lt_ne (hs j i hj hi k))
theorem Rep.fb_ne (h : Rep F w p s mb rs) {a b : Rec} (ha : a ∈ rs) (hb : b ∈ rs) (e : a.file.name ≠ b.file.name) : a.fb ≠ b.fb := by
  have hs := h.apart
  unfold List.Nodup at hs
  rw [List.pairwise_map] at hs
  obtain ⟨i, hi, rfl⟩ := List.getElem_of_mem ha
  obtain ⟨j, hj, rfl⟩ := List.getElem_of_mem hb
  rw [List.pairwise_iff_getElem] at hs
  rcases Nat.lt_trichotomy i j with k | k | k
  · exact hs i j hi hj k
  · subst k; exact absurd rfl e
  · exact fun e => hs j i hj hi k e.symm
theorem map_exact {P : Program} {k : TypeId} {R : Value → Option (DataW Unit × List MemPlace)} {b n : Nat} {L : List (Lit × DataW Unit)} (h : w.ownsMap P k R b n (.map L)) : w.ownsMap P k R b L.length (.map L) := by
  obtain ⟨es, clock, hb, Ft, hs, hD⟩ := h
  refine ⟨es, clock, hb, Ft, ?_, hD⟩
  injection hD with hD
  rw [hD, length_sorted]; simp
/-- only the file of one name is turned -/
theorem Rep.setFile (h : Rep F w p s mb rs) {n : Name} (hr : findR n rs = some r) {r' : Rec} {gf : File → File} (hn : ∀ f, (gf f).name = f.name)
    (hfb : r'.fb = r.fb) (hfile : r'.file = gf r.file) (i : Nat) (u : Value) (hcs : r.cells.setIfInBounds i u = r'.cells)
    (hA : SlB fB 5 F w r'.A r'.file.now) (hB : SlB fB 5 F w r'.B r'.file.safe) (hc : r'.file.now.length ≤ r'.c ∧ r'.c ≤ maxLen ∧ r'.file.safe.length ≤ r'.d ∧ r'.d ≤ maxLen ∧ small r'.file) :
    Rep F (w.setCell ⟨r.fb, i, none⟩ u) p { s with files := upd n gf s.files } mb (updR n (fun _ => r') rs) := by
  obtain ⟨hname, hmem⟩ := findR_some hr
  have hrec := h.recs r hmem
  have hname' : r'.file.name = n := by rw [hfile, hn]; exact hname
  have hent : (updR n (fun _ => r') rs).map entry = rs.map entry := by
    unfold updR; rw [List.map_map]
    apply List.map_congr_left
    intro x hx; simp only [Function.comp]
    split
    · rename_i e
      have e : x.file.name = n := by simpa using e
      have := h.uniq hx hmem (by rw [e, hname])
      subst this
      unfold entry; rw [hfb, hname', hname]
    · rfl
  have hfiles : (updR n (fun _ => r') rs).map Rec.file = upd n gf s.files := by
    rw [← h.files]
    unfold updR upd; rw [List.map_map, List.map_map]
    apply List.map_congr_left
    intro x hx; simp only [Function.comp]
    split
    · rename_i e
      have e : x.file.name = n := by simpa using e
      have := h.uniq hx hmem (by rw [e, hname])
      subst this; exact hfile
    · rfl
  refine { blk := h.blk.far (fun e => (Blk.ne_ h.blk hrec.1 (by decide)) e) u, inP := h.inP, inM := h.inM, map := ?_, files := hfiles, recs := ?_, apart := ?_, sorted := upd_sorted hn h.sorted, count := by rw [upd_len]; exact h.count, fuse := h.fuse }
  · rw [hent]
    have := map_set h.map hrec.1 i u
    unfold updR; rw [List.length_map]; exact this
  · intro x hx
    unfold updR at hx
    obtain ⟨y, hy, rfl⟩ := List.mem_map.1 hx
    split
    · refine ⟨?_, by rw [hfb]; exact hrec.2.1, hA.far hrec.1 (by decide) i u, hB.far hrec.1 (by decide) i u, hc⟩
      have := hrec.1.set_ i u
      rw [hcs] at this; rw [hfb]; exact this
    · rename_i e
      have e : y.file.name ≠ n := by simpa using e
      exact (h.recs y hy).far hrec.1 (h.fb_ne hmem hy (by rw [hname]; exact fun e' => e e'.symm)) (by decide) i u
  · have : (updR n (fun _ => r') rs).map Rec.fb = rs.map Rec.fb := by
      unfold updR; rw [List.map_map]
      apply List.map_congr_left
      intro x hx; simp only [Function.comp]
      split
      · rename_i e
        have e : x.file.name = n := by simpa using e
        have := h.uniq hx hmem (by rw [e, hname])
        subst this; exact hfb
      · rfl
    rw [this]; exact h.apart
theorem Rep.find (h : Rep F w p s mb rs) (n : Name) : find n s.files = (findR n rs).map Rec.file := by rw [← h.files]; exact findR_file n rs
theorem Rep.lookup (h : Rep F w p s mb rs) (n : ByteArray) (hn : n.size ≤ maxLen) (hz : ∀ w : World, (zeroValue 93).run Tryz.prog w = .ok (.pointer none) w) (k : Nat) :
    (Instr.lookup 73 (.map (some mb)) (.string n) false).run Tryz.prog (w.drewN k) = .ok (match findR n.data.toList rs with | some r => .pointer (some ⟨r.fb, 0, none⟩) | none => .pointer none) (w.drewN k) := by
  have hm : (w.drewN k).ownsMap Tryz.prog 9 ptrR mb rs.length (.map (rs.map entry)) := h.map
  obtain ⟨v, ps, hrun, hv⟩ := hm.lookup tyKeys Tryz.underlying73 (hz _) (zd := .nil) (zp := []) rfl (Go.WideMaps.keyOf_string_mk Tryz.underlying9 hn)
  rw [hrun]
  rw [atKey_entries] at hv
  rcases ptrR_inv hv with ⟨rfl, e⟩ | ⟨b, rfl, e⟩
  · cases hf : findR n.data.toList rs with
    | none => rfl
    | some r => rw [hf] at e; simp at e
  · cases hf : findR n.data.toList rs with
    | none => rw [hf] at e; simp at e
    | some r =>
      rw [hf] at e; simp at e
      have : b = r.fb := by omega
      rw [this]
theorem fileZero (w : World) : (zeroValue 93).run Tryz.prog w = .ok (.pointer none) w := by kernel_rfl
end
end Go.Proofs.YtfpomllhkbbipaaGreatDoor
