/- Plain laws of layer 5: with all loose sectors kept a loss of power changes nothing. No program in sight. -/
import Derived.Test.YtfpomllhkbbipaaGreatDskP
namespace Go.Proofs.YtfpomllhkbbipaaGreat.Dsk
open Go

/-- the first i sectors are as they are now -/
def mixed (f : File) (i : Nat) : List UInt8 := f.now.take (i * 32) ++ f.safe.drop (i * 32)
theorem mixed_zero (f : File) : mixed f 0 = f.safe := by unfold mixed; simp
theorem mixed_all {f : File} {i : Nat} (h : f.now.length ≤ i * 32) (hs : f.safe.length ≤ f.now.length) : mixed f i = f.now := by
  unfold mixed; rw [List.take_of_length_le h, List.drop_of_length_le (by omega), List.append_nil]
theorem take_sector (l : List UInt8) (i : Nat) : l.take (i * 32) ++ sector l i = l.take ((i + 1) * 32) := by
  unfold sector
  rw [show (i + 1) * 32 = i * 32 + 32 by omega, List.take_add]
theorem drop_sector (l : List UInt8) (i : Nat) : sector l i ++ l.drop ((i + 1) * 32) = l.drop (i * 32) := by
  unfold sector
  rw [show (i + 1) * 32 = i * 32 + 32 by omega, ← List.drop_drop, List.take_append_drop]
theorem mixed_same {f : File} {i : Nat} (h : sector f.now i = sector f.safe i) : mixed f (i + 1) = mixed f i := by
  unfold mixed
  rw [← take_sector, h, List.append_assoc, drop_sector]
theorem mixed_loose {f : File} {i : Nat} (h : i * 32 < f.now.length) (hs : f.safe.length ≤ f.now.length) :
    over (mixed f i ++ List.replicate (i * 32 - (mixed f i).length) 0) (i * 32) (sector f.now i) = mixed f (i + 1) := by
  have hl : i * 32 ≤ (mixed f i).length := by unfold mixed; simp; omega
  rw [show i * 32 - (mixed f i).length = 0 by omega, List.replicate_zero, List.append_nil]
  unfold over
  have e1 : (mixed f i).take (i * 32) = f.now.take (i * 32) := by unfold mixed; rw [List.take_append_of_le_length (by simp; omega), List.take_take, Nat.min_self]
  rw [e1, take_sector]
  unfold mixed
  congr 1
  have hsl : (sector f.now i).length = min 32 (f.now.length - i * 32) := by unfold sector; simp
  rw [List.drop_append, List.drop_of_length_le (by simp; omega), List.nil_append, List.drop_drop, List.length_take, Nat.min_eq_left (Nat.le_of_lt h)]
  rcases Nat.lt_or_ge (i * 32 + 32) f.now.length with c | c
  · congr 1; omega
  · rw [List.drop_of_length_le (by omega), List.drop_of_length_le (by omega)]
def isL (f : File) (i : Nat) : Bool := !(sector f.now i == sector f.safe i)
theorem fold_all {f : File} {keep : List Bool} (hs : f.safe.length ≤ f.now.length) (n m : Nat) (hm : m ≤ (f.now.length + 31) / 32)
    (hk : ∀ i, n ≤ i → i < n + ((List.range m).filter (isL f)).length → keep.getD i false = true) :
    (((List.range m).filter (isL f)).foldl (keptStep f keep) (f.safe, n)) = (mixed f m, n + ((List.range m).filter (isL f)).length) := by
  induction m with
  | zero => rw [mixed_zero]; rfl
  | succ m ih =>
    rw [List.range_succ, List.filter_append] at hk ⊢
    rw [List.foldl_append, ih (by omega) (fun i h1 h2 => hk i h1 (by rw [List.length_append]; omega))]
    by_cases hl : isL f m = true
    · rw [List.filter_cons_of_pos hl, List.filter_nil] at hk ⊢
      show keptStep f keep _ m = _
      unfold keptStep
      rw [hk _ (by omega) (by simp), if_pos rfl, mixed_loose (by omega) hs]
      simp; omega
    · have hl' : isL f m = false := by simpa using hl
      rw [List.filter_cons_of_neg (by simp [hl']), List.filter_nil]
      simp only [List.foldl_nil, List.append_nil]
      rw [mixed_same (by unfold isL at hl'; simpa using hl')]
theorem keptBytes_all {f : File} {keep : List Bool} (hs : f.safe.length ≤ f.now.length) (n : Nat) (hk : ∀ i, n ≤ i → i < n + (loose f).length → keep.getD i false = true) :
    keptBytes f keep n = (f.now, n + (loose f).length) := by
  have h := fold_all hs n ((f.now.length + 31) / 32) (Nat.le_refl _) hk
  rw [mixed_all (by omega) hs] at h
  exact h
def turned (f : File) : File := ⟨f.name, f.now, f.now⟩
theorem crashFiles_all {keep : List Bool} (fs : List File) (n : Nat) (hs : ∀ f ∈ fs, f.safe.length ≤ f.now.length) (hk : ∀ i, n ≤ i → i < n + (fs.map (fun f => (loose f).length)).sum → keep.getD i false = true) :
    crashFiles keep fs n = fs.map turned := by
  induction fs generalizing n with
  | nil => rfl
  | cons f r ih =>
    have h1 := keptBytes_all (f := f) (hs f (by simp)) n (fun i h1 h2 => hk i h1 (by rw [List.map_cons, List.sum_cons]; omega))
    unfold crashFiles
    simp only [h1, List.map_cons]
    rw [ih _ (fun g hg => hs g (by simp [hg])) (fun i h2 h3 => hk i (by omega) (by rw [List.map_cons, List.sum_cons]; omega))]
    rfl
/-- what calls without loss of power leave -/
structure Calm (s : S) : Prop where
  up : s.down = false
  fuse : s.fuse = 0
  safe : ∀ f ∈ s.files, f.safe.length ≤ f.now.length
theorem Calm.of {s : S} (h : Calm s) {fs : List File} (hf : ∀ f ∈ fs, f.safe.length ≤ f.now.length) : Calm { s with files := fs } := ⟨h.up, h.fuse, hf⟩
theorem calm_del {n : Name} {fs : List File} (h : ∀ f ∈ fs, f.safe.length ≤ f.now.length) : ∀ f ∈ del n fs, f.safe.length ≤ f.now.length := fun f hf => h f (List.mem_filter.1 hf).1
theorem calm_put {g : File} {fs : List File} (h : ∀ f ∈ fs, f.safe.length ≤ f.now.length) (hg : g.safe.length ≤ g.now.length) : ∀ f ∈ put g fs, f.safe.length ≤ f.now.length := by
  intro f hf
  rcases ins_mem.1 hf with rfl | hf
  · exact hg
  · exact calm_del h f hf
theorem calm_upd {n : Name} {g : File → File} {fs : List File} (h : ∀ f ∈ fs, f.safe.length ≤ f.now.length) (hg : ∀ f, f.name = n → f ∈ fs → f.safe.length ≤ f.now.length → (g f).safe.length ≤ (g f).now.length) : ∀ f ∈ upd n g fs, f.safe.length ≤ f.now.length := by
  intro f hf
  unfold upd at hf
  obtain ⟨y, hy, rfl⟩ := List.mem_map.1 hf
  split
  · rename_i e; exact hg y (by simpa using e) hy (h y hy)
  · exact h y hy
theorem over_longer (b c : List UInt8) (k : Nat) : b.length ≤ (over b k c).length := by unfold over; simp; omega
theorem look_mem {s : S} {a : Name} {f : File} {e : Nat} (h : look s [a] = (some f, e)) : e = 0 ∧ find a s.files = some f := by
  unfold look at h
  split at h
  · simp at h
  · split at h
    · simp at h
    · simp only [List.headD_cons] at h
      split at h
      · rename_i f' hf; simp at h; obtain ⟨rfl, rfl⟩ := h; exact ⟨rfl, hf⟩
      · simp at h
theorem look2_mem {s : S} {a z : Name} {f : File} {e : Nat} (h : look s [a, z] = (some f, e)) : find a s.files = some f := by
  unfold look at h
  split at h
  · simp at h
  · split at h
    · simp at h
    · simp only [List.headD_cons] at h
      split at h
      · rename_i f' hf; simp at h; obtain ⟨rfl, rfl⟩ := h; exact hf
      · simp at h
theorem Calm.step {s : S} (h : Calm s) : step s = s := step_idle h.fuse
theorem Calm.create {s : S} (h : Calm s) (a : Name) : Calm (create s a).1 := by
  unfold Dsk.create; rw [h.step]; simp only
  split
  · exact h
  · split
    · split
      · exact h
      · exact h.of (calm_put h.safe (Nat.le_refl _))
    · exact h
theorem Calm.remove {s : S} (h : Calm s) (a : Name) : Calm (remove s a).1 := by
  unfold Dsk.remove; rw [h.step]; simp only
  split
  · exact h.of (calm_del h.safe)
  · exact h
theorem Calm.rename {s : S} (h : Calm s) (a z : Name) : Calm (rename s a z).1 := by
  unfold Dsk.rename; rw [h.step]; simp only
  split
  · rename_i f _ e
    exact h.of (calm_put (calm_del h.safe) (h.safe f (find_name (look2_mem e)).2))
  · exact h
theorem Calm.write {s : S} (h : Calm s) (a : Name) (n : Int) (b : List UInt8) : Calm (write s a n b).1 := by
  unfold Dsk.write; rw [h.step]; simp only
  split
  · split
    · exact h
    · split
      · exact h
      · exact h.of (calm_upd h.safe (fun f _ _ hf => Nat.le_trans hf (over_longer _ _ _)))
  · exact h
theorem Calm.cut {s : S} (h : Calm s) (a : Name) (n : Int) : Calm (cut s a n).1 := by
  unfold Dsk.cut; rw [h.step]; simp only
  split
  · split
    · exact h
    · exact h.of (calm_upd h.safe (fun f _ _ hf => by simp; omega))
  · exact h
theorem Calm.sync {s : S} (h : Calm s) (a : Name) : Calm (sync s a).1 := by
  unfold Dsk.sync; rw [h.step]; simp only
  split
  · exact h.of (calm_upd h.safe (fun f _ _ _ => Nat.le_refl _))
  · exact h
/-- behind a loss of power with all kept -/
def allKept (s : S) : S := ⟨s.files.map turned, false, 0⟩
theorem Calm.crash_all {s : S} (h : Calm s) : crash s (List.replicate (looseN s) true) = allKept s := by
  unfold crash allKept
  rw [crashFiles_all s.files 0 h.safe]
  intro i _ h2
  rw [Nat.zero_add] at h2
  have : i < looseN s := h2
  simp [List.getD_eq_getElem?_getD, this]
theorem allKept_names (s : S) : (allKept s).files.map File.name = s.files.map File.name := by
  unfold allKept; rw [List.map_map]; rfl
theorem allKept_loose (s : S) : looseN (allKept s) = 0 := by
  unfold looseN allKept
  rw [List.map_map]
  have : ∀ fs : List File, (fs.map ((fun f => (loose f).length) ∘ turned)).sum = 0 := by
    intro fs
    induction fs with
    | nil => rfl
    | cons f r ih => rw [List.map_cons, List.sum_cons, ih]; show (loose (turned f)).length + 0 = 0; unfold turned; rw [loose_same]; rfl
  exact this _
theorem find_map {n : Name} {g : File → File} (hg : ∀ f, (g f).name = f.name) (fs : List File) : find n (fs.map g) = (find n fs).map g := by
  unfold find
  rw [List.find?_map]
  congr 2
  funext f; simp [Function.comp, hg]
theorem allKept_read {s : S} (h : Calm s) (n : Name) : (read (allKept s) n).1 = (read s n).1 := by
  unfold read look
  rw [show (allKept s).down = false from rfl, h.up]
  by_cases hn : named n = true
  · simp only [List.any_cons, List.any_nil, hn, Bool.not_true, Bool.or_false, Bool.false_eq_true, if_false, List.headD_cons]
    have : find n (allKept s).files = (find n s.files).map turned := find_map (g := turned) (by intro f; rfl) s.files
    rw [this]
    cases find n s.files <;> rfl
  · have hn : named n = false := by simpa using hn
    simp [hn]
theorem Calm.allKept {s : S} (_ : Calm s) : Calm (allKept s) := ⟨rfl, rfl, fun f hf => by
  unfold Dsk.allKept at hf
  obtain ⟨g, _, rfl⟩ := List.mem_map.1 hf
  exact Nat.le_refl _⟩
/-- a file that was synced last -/
structure Synced (s : S) (n : Name) (K : List UInt8) : Prop where
  nm : named n = true
  up : s.down = false
  fuse : s.fuse = 0
  file : ∃ now, find n s.files = some ⟨n, now, K⟩
theorem sync_ok {s s' : S} {n : Name} (h : Calm s) (hs : sync s n = (s', 0)) : ∃ K, read s' n = (K, 0) ∧ Synced s' n K := by
  unfold sync at hs
  rw [h.step] at hs
  simp only at hs
  by_cases hn : named n = true
  · cases hf : find n s.files with
    | none =>
      rw [look_none h.up hn hf] at hs
      simp at hs
    | some f =>
      rw [look_found h.up hn hf] at hs
      simp at hs
      have hfn := (find_name hf).1
      have hfind : find n (upd n (fun f => { f with safe := f.now }) s.files) = some ⟨n, f.now, f.now⟩ := by
        rw [find_upd_same (by intro f; rfl), hf]
        show some (File.mk f.name f.now f.now) = _
        rw [hfn]
      subst hs
      refine ⟨f.now, ?_, hn, h.up, h.fuse, f.now, hfind⟩
      unfold read
      rw [look_found (s := { s with files := upd n (fun f => { f with safe := f.now }) s.files }) h.up hn hfind]
  · have hn : named n = false := by simpa using hn
    have : look s [n] = (none, 1) := by unfold look; rw [h.up]; simp [hn]
    rw [this] at hs
    simp at hs
theorem Synced.write {s : S} {n : Name} {K : List UInt8} (h : Synced s n K) (k : Int) (b : List UInt8) : Synced (write s n k b).1 n K := by
  obtain ⟨hn, hu, hf, now, hfi⟩ := h
  unfold Dsk.write
  rw [step_idle hf]
  simp only [look_found hu hn hfi]
  split
  · exact ⟨hn, hu, hf, now, hfi⟩
  · split
    · exact ⟨hn, hu, hf, now, hfi⟩
    · refine ⟨hn, hu, hf, over now k.toNat b, ?_⟩
      show find n (upd n _ s.files) = _
      rw [find_upd_same (by intro f; rfl), hfi]; rfl
theorem find_crash_nil (n : Name) (fs : List File) (m : Nat) : find n (crashFiles [] fs m) = (find n fs).map (fun f => ⟨f.name, f.safe, f.safe⟩) := by
  induction fs generalizing m with
  | nil => rfl
  | cons f r ih =>
    unfold crashFiles
    simp only [keptBytes_nil]
    unfold find at ih ⊢
    by_cases e : f.name = n
    · rw [List.find?_cons_of_pos (by simpa using e), List.find?_cons_of_pos (by simpa using e)]; rfl
    · rw [List.find?_cons_of_neg (by simpa using e), List.find?_cons_of_neg (by simpa using e), ih]
theorem Synced.crash {s : S} {n : Name} {K : List UInt8} (h : Synced s n K) : read (Dsk.crash s []) n = (K, 0) := by
  obtain ⟨hn, hu, hf, now, hfi⟩ := h
  have : find n (Dsk.crash s []).files = some ⟨n, K, K⟩ := by
    show find n (crashFiles [] s.files 0) = _
    rw [find_crash_nil, hfi]; rfl
  unfold read
  rw [look_found (s := Dsk.crash s []) rfl hn this]
end Go.Proofs.YtfpomllhkbbipaaGreat.Dsk
namespace Go.Proofs.YtfpomllhkbbipaaGreat.Dsk
open Go

def overZ (b : List UInt8) (a : Nat) (c : List UInt8) : List UInt8 := over (b ++ List.replicate (a - b.length) 0) a c
theorem overZ_len (b : List UInt8) (a : Nat) (c : List UInt8) : (overZ b a c).length = max b.length (a + c.length) := by unfold overZ; exact over_len_any b c a
theorem overZ_in {b : List UInt8} {a : Nat} (h : a ≤ b.length) (c : List UInt8) : overZ b a c = over b a c := by unfold overZ; rw [show a - b.length = 0 by omega]; simp
theorem overZ_mid {b c : List UInt8} {a k : Nat} (h1 : a ≤ k) (h2 : k - a < c.length) : (overZ b a c)[k]? = some c[k - a] := by
  unfold overZ
  rw [over_get (by simp; omega), if_neg (by omega), if_pos h2, List.getElem?_eq_getElem h2]
theorem overZ_old {b c : List UInt8} {a k : Nat} (h1 : ¬ (a ≤ k ∧ k < a + c.length)) (h2 : k < b.length) : (overZ b a c)[k]? = some b[k] := by
  unfold overZ
  rw [over_get (by simp; omega)]
  have e : (b ++ List.replicate (a - b.length) 0)[k]? = some b[k] := by rw [List.getElem?_append_left h2, List.getElem?_eq_getElem h2]
  by_cases c1 : k < a
  · rw [if_pos c1, e]
  · rw [if_neg c1, if_neg (by omega), e]
theorem overZ_zero {b c : List UInt8} {a k : Nat} (h1 : ¬ (a ≤ k ∧ k < a + c.length)) (h2 : ¬ k < b.length) (h3 : k < a + c.length) : (overZ b a c)[k]? = some 0 := by
  unfold overZ
  rw [over_get (by simp; omega), if_pos (by omega), List.getElem?_append_right (by omega)]
  rw [List.getElem?_replicate, if_pos (by omega)]
theorem take_snoc? {α : Type} {l : List α} {k : Nat} {x : α} (h : l[k]? = some x) : l.take (k + 1) = l.take k ++ [x] := by
  obtain ⟨hk, rfl⟩ := List.getElem?_eq_some_iff.1 h
  exact List.take_succ_eq_append_getElem hk
def piece (b : List UInt8) (f t : Nat) : List UInt8 := (b.drop f).take (t - f)
theorem piece_len (b : List UInt8) (f t : Nat) : (piece b f t).length = min t b.length - f := by unfold piece; simp; omega
theorem piece_get {b : List UInt8} {f t k : Nat} (h1 : f + k < t) (h2 : f + k < b.length) : (piece b f t)[k]? = some b[f + k] := by
  unfold piece
  rw [List.getElem?_take, if_pos (by omega), List.getElem?_drop, List.getElem?_eq_getElem h2]
theorem piece_sector (b : List UInt8) (i : Nat) : piece b (i * 32) (i * 32 + 32) = sector b i := by unfold piece sector; rw [show i * 32 + 32 - i * 32 = 32 by omega]
theorem piece_take (b : List UInt8) (t : Nat) : piece b 0 t = b.take t := by unfold piece; simp
end Go.Proofs.YtfpomllhkbbipaaGreat.Dsk
