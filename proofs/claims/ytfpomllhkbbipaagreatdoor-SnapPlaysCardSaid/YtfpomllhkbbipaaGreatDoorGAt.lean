/- The snapshots' store: plain words, no program. -/
import Derived.Test.YtfpomllhkbbipaaGreatDoorGAc
import Derived.Test.YtfpomllhkbbipaaGreatDoorGAo
import Derived.Test.YtfpomllhkbbipaaGreatDoorGAs
namespace Go.Proofs.YtfpomllhkbbipaaGreatDoor
open Go Pk Dsk Nm
namespace Sto
def nmT : Name := [115, 110, 97, 112, 46, 116, 109, 112]
abbrev nmS (i : Int) : Name := nmOf 115 i.toNat
abbrev idxS (n : Name) : Option Nat := idxN 115 n
theorem nmT_ok : named nmT = true := by decide
theorem nmT_idx : idxS nmT = none := by decide
theorem nmS_ok (i : Int) : named (nmS i) = true := by
 unfold named
 rw [nmOf_len]; decide
theorem nmS_T (i : Int) : nmS i ≠ nmT := by
 intro h
 have := congrArg List.length h
 rw [nmOf_len] at this
 exact absurd this (by decide)
def zS : SnT := ⟨0, 0, [], [], []⟩
def findS (s : S) : List Name → Option SnT
 | [] => none
 | n :: r => match readS (read s n).1 with
   | some x => if (idxS n).map Int.ofNat = some x.x then some x else findS s r
   | none => findS s r
def rmAll (s : S) : List Name → S × Nat
 | [] => (s, 0)
 | n :: r => if (remove s n).2 = 0 then rmAll (remove s n).1 r else remove s n
def namesS (s : S) : List Name := (snames s).filter fun n => (idxS n).isSome
def other (f : Option SnT) (n : Name) : Bool :=
 match f with
 | none => true
 | some x => !decide ((idxS n).map Int.ofNat = some x.x)
def goneS (s : S) (f : Option SnT) : List Name := (if nmT ∈ snames s then [nmT] else []) ++ (namesS s).filter (other f)
def openS (s : S) : S × Option SnT × Nat :=
 if s.down then (s, none, 50)
 else
  let f := findS s (namesS s).reverse
  let r := rmAll s (goneS s f)
  (r.1, f, r.2)
def partS (b : List UInt8) (j : Nat) : List UInt8 := (b.drop (j * 256)).take 256
def partsN (n : Nat) : Nat := (n + 255) / 256
def wrAll (s : S) (b : List UInt8) (k : Nat) : Nat → S × Nat
 | 0 => (s, 0)
 | n + 1 => if (write s nmT ((k * 256 : Nat) : Int) (partS b k)).2 = 0 then wrAll (write s nmT ((k * 256 : Nat) : Int) (partS b k)).1 b (k + 1) n else write s nmT ((k * 256 : Nat) : Int) (partS b k)
def fileS (s : S) (n : Name) (b : List UInt8) : S × Nat :=
 if (create s nmT).2 ≠ 0 then create s nmT
 else
  let r := wrAll (create s nmT).1 b 0 (partsN b.length)
  if r.2 ≠ 0 then r
  else if (sync r.1 nmT).2 ≠ 0 then sync r.1 nmT
  else rename (sync r.1 nmT).1 nmT n
def snOf (x : SnT) : List UInt8 := snB x.x x.t x.vs x.ls x.ds
def rightS (x : SnT) : Bool := snapB x.x x.t x.vs x.ls x.ds
def putS (s : S) (l : Option SnT) (x : SnT) : S × Option SnT × Nat :=
 if rightS x = false then (s, l, 1)
 else
  match l with
  | none =>
    let r := fileS s (nmS x.x) (snOf x)
    if r.2 ≠ 0 then (r.1, none, r.2) else (r.1, some x, 0)
  | some y =>
    if x.x ≤ y.x then (s, some y, 110)
    else
     let r := fileS s (nmS x.x) (snOf x)
     if r.2 ≠ 0 then (r.1, some y, r.2)
     else
      let q := remove r.1 (nmS y.x)
      if q.2 ≠ 0 then (q.1, some y, q.2) else (q.1, some x, 0)
theorem rightS_iff {x : SnT} (h : rightS x = true) : isSn (snOf x) x := ⟨h, rfl⟩
theorem right_x {x : SnT} (h : rightS x = true) : 1 ≤ x.x ∧ x.x ≤ 1099511627776 := (snap_parts h).1
theorem idx_nmS {i : Int} (h0 : 0 ≤ i) (h1 : i ≤ 1099511627776) : (idxS (nmS i)).map Int.ofNat = some i := by
 have h := (idxN_iff (c := 115) (n := nmS i) (i := i.toNat)).2 ⟨by omega, rfl⟩
 rw [show idxS (nmS i) = some i.toNat from h]
 show some (Int.ofNat i.toNat) = some i
 congr 1; simp; omega
theorem nmS_inj {i j : Int} (h0 : 0 ≤ i) (h1 : i ≤ 1099511627776) (h2 : 0 ≤ j) (h3 : j ≤ 1099511627776) (h : nmS i = nmS j) : i = j := by
 have := nmOf_inj (by omega) (by omega) h
 omega
def nextF (f : Nat) : Bool × Nat := if f = 0 then (false, 0) else (decide (f - 1 = 0), f - 1)
theorem step_any (fs : List File) (f : Nat) : Dsk.step ⟨fs, false, f⟩ = ⟨fs, (nextF f).1, (nextF f).2⟩ := by
 unfold nextF
 split
 ·rename_i h; subst h; exact step_idle rfl
 ·rename_i h
  unfold Dsk.step; rw [if_pos ⟨by show 0 < f; omega, rfl⟩]
def Ok1 (s : S) (r : S × Nat) (fs : List File) : Prop :=
 (r.2 = 0 ∧ r.1.down = false ∧ r.1.files = fs ∧ (s.fuse = 0 → r.1.fuse = 0)) ∨ (r.2 = 50 ∧ r.1.down = true ∧ r.1.files = s.files ∧ s.fuse ≠ 0)
theorem ok1_of {s : S} (hd : s.down = false) {r : S × Nat} {fs : List File} (h : ∀ d f, Dsk.step s = ⟨s.files, d, f⟩ → (s.fuse = 0 → d = false ∧ f = 0) → r = if d then (⟨s.files, true, f⟩, 50) else (⟨fs, false, f⟩, 0)) : Ok1 s r fs := by
 obtain ⟨f, d, u⟩ := s
 simp only at hd
 subst hd
 have h0 := h (nextF u).1 (nextF u).2 (step_any f u) (fun e => by simp only at e; subst e; exact ⟨rfl, rfl⟩)
 cases hn : (nextF u).1 with
 | true =>
   rw [hn] at h0
   right
   subst h0
   refine ⟨rfl, rfl, rfl, fun e => ?_⟩
   simp only at e
   subst e
   cases hn
 | false =>
   rw [hn] at h0
   left
   subst h0
   refine ⟨rfl, rfl, rfl, fun e => ?_⟩
   simp only at e
   subst e
   rfl
theorem create_ok {s : S} {n : Name} (hd : s.down = false) (hn : named n = true) (hf : find n s.files = none) (hl : s.files.length ≠ 256) : Ok1 s (create s n) (put ⟨n, [], []⟩ s.files) := by
 refine ok1_of hd fun d f hs h0 => ?_
 unfold create
 rw [hs]
 cases d with
 | true => simp only [look_down (show (S.mk s.files true f).down = true from rfl)]; rfl
 | false =>
   simp only [look_none (s := ⟨s.files, false, f⟩) rfl hn hf]
   rw [if_pos trivial, if_neg hl]
   rfl
theorem remove_ok {s : S} {n : Name} {g : File} (hd : s.down = false) (hn : named n = true) (hf : find n s.files = some g) : Ok1 s (remove s n) (del n s.files) := by
 refine ok1_of hd fun d f hs h0 => ?_
 unfold remove
 rw [hs]
 cases d with
 | true => simp only [look_down (show (S.mk s.files true f).down = true from rfl)]; rfl
 | false => simp only [look_found (s := ⟨s.files, false, f⟩) rfl hn hf]; rfl
theorem sync_ok1 {s : S} {n : Name} {g : File} (hd : s.down = false) (hn : named n = true) (hf : find n s.files = some g) : Ok1 s (sync s n) (upd n (fun f => { f with safe := f.now }) s.files) := by
 refine ok1_of hd fun d f hs h0 => ?_
 unfold sync
 rw [hs]
 cases d with
 | true => simp only [look_down (show (S.mk s.files true f).down = true from rfl)]; rfl
 | false => simp only [look_found (s := ⟨s.files, false, f⟩) rfl hn hf]; rfl
theorem write_ok {s : S} {n : Name} {g : File} {a : Nat} {c : List UInt8} (hd : s.down = false) (hn : named n = true) (hf : find n s.files = some g) (h1 : a ≤ g.now.length) (h2 : a + c.length ≤ 65536) : Ok1 s (write s n (a : Int) c) (upd n (fun f => { f with now := over f.now a c }) s.files) := by
 refine ok1_of hd fun d f hs h0 => ?_
 unfold write
 rw [hs]
 cases d with
 | true => simp only [look_down (show (S.mk s.files true f).down = true from rfl)]; rfl
 | false =>
   simp only [look_found (s := ⟨s.files, false, f⟩) rfl hn hf]
   rw [if_neg (by omega), if_neg (by omega)]
   rfl
theorem look2_found {s : S} {n m : Name} {f : File} (hd : s.down = false) (hn : named n = true) (hm : named m = true) (hf : find n s.files = some f) : Dsk.look s [n, m] = (some f, 0) := by
 unfold Dsk.look
 rw [hd, if_neg (by decide), if_neg (by simp [hn, hm])]
 simp only [List.headD_cons, hf]
theorem rename_ok {s : S} {n m : Name} {g : File} (hd : s.down = false) (hn : named n = true) (hm : named m = true) (hf : find n s.files = some g) : Ok1 s (rename s n m) (put { g with name := m } (del n s.files)) := by
 refine ok1_of hd fun d f hs h0 => ?_
 unfold rename
 rw [hs]
 cases d with
 | true => simp only [look_down (show (S.mk s.files true f).down = true from rfl)]; rfl
 | false => simp only [look2_found (s := ⟨s.files, false, f⟩) rfl hn hm hf]; rfl
end Sto
end Go.Proofs.YtfpomllhkbbipaaGreatDoor
namespace Go.Proofs.YtfpomllhkbbipaaGreatDoor
open Go Pk Dsk Nm
namespace Sto
def noN (n : Name) (fs : List File) : Prop := ∀ x ∈ fs, x.name ≠ n
theorem del_ins {f : File} {fs : List File} (h : noN f.name fs) : del f.name (ins f fs) = fs := by
 induction fs with
 | nil => unfold ins del; simp
 | cons y r ih =>
   have hy : y.name ≠ f.name := h y (by simp)
   have hr : noN f.name r := fun x hx => h x (List.mem_cons_of_mem _ hx)
   unfold ins
   split
   ·unfold del
    rw [List.filter_cons_of_neg (by simp), List.filter_eq_self]
    intro x hx
    have := h x hx
    simpa using this
   ·show del f.name (y :: ins f r) = y :: r
    unfold del
    rw [List.filter_cons_of_pos (by simpa using hy)]
    exact congrArg (y :: ·) (ih hr)
theorem upd_ins {n : Name} {g : File → File} {f : File} {fs : List File} (h : noN n fs) (hf : f.name = n) (hg : (g f).name = n) : upd n g (ins f fs) = ins (g f) fs := by
 induction fs with
 | nil => unfold ins upd; simp [hf]
 | cons y r ih =>
   have hy : y.name ≠ n := h y (by simp)
   have hr : noN n r := fun x hx => h x (List.mem_cons_of_mem _ hx)
   unfold ins
   rw [hg, hf]
   split
   ·show (if (f.name == n) = true then g f else f) :: upd n g (y :: r) = g f :: y :: r
    rw [if_pos (by simpa using hf), upd_of_none h]
   ·show (if (y.name == n) = true then g y else y) :: upd n g (ins f r) = y :: ins (g f) r
    rw [if_neg (by simpa using hy), ih hr]
theorem find_ins {f : File} {fs : List File} (h : noN f.name fs) : find f.name (ins f fs) = some f := by
 induction fs with
 | nil => unfold ins find; simp
 | cons y r ih =>
   have hy : y.name ≠ f.name := h y (by simp)
   have hr : noN f.name r := fun x hx => h x (List.mem_cons_of_mem _ hx)
   unfold ins
   split
   ·unfold find; simp
   ·unfold find
    rw [List.find?_cons_of_neg (by simpa using hy)]
    exact ih hr
theorem put_none {f : File} {fs : List File} (h : noN f.name fs) : put f fs = ins f fs := by
 unfold put; rw [del_of_none (find_none.2 h)]
theorem noN_find {n : Name} {fs : List File} (h : noN n fs) : find n fs = none := find_none.2 h
theorem part_over (b : List UInt8) (k : Nat) (h : k * 256 ≤ b.length) : over (b.take (k * 256)) (k * 256) (partS b k) = b.take ((k + 1) * 256) := by
 unfold over partS
 have hl : (b.take (k * 256)).length = k * 256 := by rw [List.length_take]; omega
 have h1 : (b.take (k * 256)).take (k * 256) = b.take (k * 256) := List.take_of_length_le (by omega)
 have h2 : (b.take (k * 256)).drop (k * 256 + ((b.drop (k * 256)).take 256).length) = [] := List.drop_of_length_le (by rw [hl]; exact Nat.le_add_right _ _)
 rw [h1, h2, List.append_nil, show (k + 1) * 256 = k * 256 + 256 by omega, List.take_add]
theorem partS_len (b : List UInt8) (k : Nat) : (partS b k).length = min 256 (b.length - k * 256) := by unfold partS; rw [List.length_take, List.length_drop]
set_option maxRecDepth 10000 in
theorem wrAll_mid (fs : List File) (hfs : noN nmT fs) (b : List UInt8) (hb : b.length ≤ 65536) : ∀ (n k : Nat) (s : S), s.down = false → s.files = ins ⟨nmT, b.take (k * 256), []⟩ fs → k + n = partsN b.length →
 ((wrAll s b k n).2 = 0 ∧ (wrAll s b k n).1.down = false ∧ (wrAll s b k n).1.files = ins ⟨nmT, b, []⟩ fs ∧ (s.fuse = 0 → (wrAll s b k n).1.fuse = 0)) ∨ ((wrAll s b k n).2 = 50 ∧ (wrAll s b k n).1.down = true ∧ (∃ x y, (wrAll s b k n).1.files = ins ⟨nmT, x, y⟩ fs) ∧ s.fuse ≠ 0)
 | 0, k, s, hd, hf, hn => by
   left
   refine ⟨rfl, hd, ?_, fun h => h⟩
   show s.files = _
   rw [hf, List.take_of_length_le (by unfold partsN at hn; omega)]
 | n + 1, k, s, hd, hf, hn => by
   have hkl : k * 256 ≤ b.length := by unfold partsN at hn; omega
   have hfd : find nmT s.files = some ⟨nmT, b.take (k * 256), []⟩ := by rw [hf]; exact find_ins (f := ⟨nmT, b.take (k * 256), []⟩) hfs
   have ha : k * 256 ≤ (b.take (k * 256)).length := by rw [List.length_take]; omega
   have hc : k * 256 + (partS b k).length ≤ 65536 := by rw [partS_len]; omega
   have hw := write_ok hd nmT_ok hfd (a := k * 256) (c := partS b k) ha hc
   unfold wrAll
   rcases hw with ⟨h1, h2, h3, h4⟩ | ⟨h1, h2, h3, h4⟩
   ·rw [if_pos h1]
    have h5 : (write s nmT ((k * 256 : Nat) : Int) (partS b k)).1.files = ins ⟨nmT, b.take ((k + 1) * 256), []⟩ fs := by
     rw [h3, hf, upd_ins hfs rfl rfl]
     simp only [part_over b k hkl]
    rcases wrAll_mid fs hfs b hb n (k + 1) _ h2 h5 (by omega) with ⟨a1, a2, a3, a4⟩ | ⟨a1, a2, a3, a4⟩
    ·exact .inl ⟨a1, a2, a3, fun h => a4 (h4 h)⟩
    ·exact .inr ⟨a1, a2, a3, fun h => a4 (h4 h)⟩
   ·rw [if_neg (by omega)]
    exact .inr ⟨h1, h2, ⟨_, _, by rw [h3, hf]⟩, h4⟩
theorem fileS_any {s : S} {n : Name} {b : List UInt8} (hd : s.down = false) (hf : noN nmT s.files) (hl : s.files.length ≠ 256) (hn : named n = true) (hb : b.length ≤ 65536) :
 ((fileS s n b).2 = 0 ∧ (fileS s n b).1.down = false ∧ (fileS s n b).1.files = put ⟨n, b, b⟩ s.files ∧ (s.fuse = 0 → (fileS s n b).1.fuse = 0)) ∨
 ((fileS s n b).2 = 50 ∧ (fileS s n b).1.down = true ∧ ((fileS s n b).1.files = s.files ∨ ∃ x y, (fileS s n b).1.files = ins ⟨nmT, x, y⟩ s.files) ∧ s.fuse ≠ 0) := by
 unfold fileS
 rcases create_ok hd nmT_ok (noN_find hf) hl with ⟨h1, h2, h3, h4⟩ | ⟨h1, h2, h3, h4⟩
 ·rw [if_neg (by rw [h1]; decide)]
  simp only
  rw [put_none (f := ⟨nmT, [], []⟩) hf] at h3
  rcases wrAll_mid s.files hf b hb (partsN b.length) 0 (create s nmT).1 h2 (by rw [h3]; rfl) (by omega) with ⟨a1, a2, a3, a4⟩ | ⟨a1, a2, a3, a4⟩
  ·rw [if_neg (by rw [a1]; decide)]
   have hfd : find nmT (wrAll (create s nmT).1 b 0 (partsN b.length)).1.files = some ⟨nmT, b, []⟩ := by rw [a3]; exact find_ins (f := ⟨nmT, b, []⟩) hf
   rcases sync_ok1 a2 nmT_ok hfd with ⟨c1, c2, c3, c4⟩ | ⟨c1, c2, c3, c4⟩
   ·rw [if_neg (by rw [c1]; decide)]
    rw [a3, upd_ins hf rfl rfl] at c3
    have hfe : find nmT (sync (wrAll (create s nmT).1 b 0 (partsN b.length)).1 nmT).1.files = some ⟨nmT, b, b⟩ := by rw [c3]; exact find_ins (f := ⟨nmT, b, b⟩) hf
    rcases rename_ok c2 nmT_ok hn hfe with ⟨e1, e2, e3, e4⟩ | ⟨e1, e2, e3, e4⟩
    ·left
     refine ⟨e1, e2, ?_, fun h => e4 (c4 (a4 (h4 h)))⟩
     rw [e3, c3, del_ins (f := ⟨nmT, b, b⟩) hf]
    ·right
     exact ⟨e1, e2, .inr ⟨b, b, by rw [e3, c3]⟩, fun h => e4 (c4 (a4 (h4 h)))⟩
   ·rw [if_pos (by rw [c1]; decide)]
    right
    exact ⟨c1, c2, .inr ⟨b, [], by rw [c3, a3]⟩, fun h => c4 (a4 (h4 h))⟩
  ·rw [if_pos (by rw [a1]; decide)]
   right
   exact ⟨a1, a2, .inr a3, fun h => a4 (h4 h)⟩
 ·rw [if_pos (by rw [h1]; decide)]
  right
  exact ⟨h1, h2, .inl h3, h4⟩
def fileOf (x : SnT) : File := ⟨nmS x.x, snOf x, snOf x⟩
def old : Option SnT → List File
 | none => []
 | some x => [fileOf x]
def Fam (X : List SnT) (fs : List File) : Prop := ∀ g ∈ fs, g.name = nmT ∨ ∃ x ∈ X, rightS x = true ∧ g = fileOf x
theorem snOf_len {x : SnT} (h : rightS x = true) : (snOf x).length ≤ 65536 := by
 obtain ⟨-, -, hc, hd⟩ := snap_parts h
 obtain ⟨hv, hl⟩ := rconf_rise hc
 have h1 := headN_le (x := x.x) (t := x.t) (rise_small hv) (rise_small hl) x.ds.length
 have h2 := piecesN_len ((x.ds.length + 2047) / 2048) x.ds
 have h3 : (x.ds.length + 2047) / 2048 * 2056 ≤ 16 * 2056 := Nat.mul_le_mul_right _ (by omega)
 unfold snOf snB
 rw [List.length_append, frameB_len]
 omega
theorem old_T (l : Option SnT) : noN nmT (old l) := by
 cases l with
 | none => intro x hx; cases hx
 | some y => intro x hx; simp [old] at hx; subst hx; exact nmS_T _
theorem old_len (l : Option SnT) : (old l).length ≠ 256 := by cases l <;> simp [old]
theorem fam_ins {X : List SnT} {f : File} {fs : List File} (h : Fam X fs) (hf : f.name = nmT ∨ ∃ x ∈ X, rightS x = true ∧ f = fileOf x) : Fam X (ins f fs) := by
 intro g hg
 rcases ins_mem.1 hg with rfl | hg
 ·exact hf
 ·exact h g hg
theorem put_old {x y : SnT} (h : nmS x.x ≠ nmS y.x) : put (fileOf x) (old (some y)) = ins (fileOf x) [fileOf y] := put_none (by intro g hg; simp [old] at hg; subst hg; exact fun e => h e.symm)
theorem del_two {x y : SnT} (h : nmS x.x ≠ nmS y.x) : del (nmS y.x) (ins (fileOf x) [fileOf y]) = [fileOf x] := by
 unfold ins fileOf
 split
 ·unfold del; simp [h]
 ·unfold ins del; simp [h]
theorem putS_any {s : S} {l : Option SnT} {x : SnT} (hd : s.down = false) (hs : s.files = old l) (hl : ∀ y, l = some y → rightS y = true) :
 (rightS x = false ∧ putS s l x = (s, l, 1)) ∨ (rightS x = true ∧ (∃ y, l = some y ∧ x.x ≤ y.x) ∧ putS s l x = (s, l, 110)) ∨
 (rightS x = true ∧ (∀ y, l = some y → y.x < x.x) ∧
  (((putS s l x).2 = (some x, 0) ∧ (putS s l x).1.down = false ∧ (putS s l x).1.files = old (some x) ∧ (s.fuse = 0 → (putS s l x).1.fuse = 0)) ∨
   ((putS s l x).2 = (l, 50) ∧ (putS s l x).1.down = true ∧ s.fuse ≠ 0 ∧ Fam (x :: l.toList) (putS s l x).1.files ∧ (∀ y, l = some y → fileOf y ∈ (putS s l x).1.files)))) := by
 cases hr : rightS x with
 | false => left; exact ⟨rfl, by unfold putS; rw [if_pos hr]⟩
 | true =>
   right
   have hfam : Fam (x :: l.toList) s.files := by
    rw [hs]
    cases l with
    | none => intro g hg; cases hg
    | some y => intro g hg; simp [old] at hg; subst hg; exact .inr ⟨y, by simp, hl y rfl, rfl⟩
   have hmem : ∀ y, l = some y → fileOf y ∈ s.files := by intro y hy; subst hy; rw [hs]; simp [old]
   have hT : noN nmT s.files := by rw [hs]; exact old_T l
   have hf := fileS_any (s := s) (n := nmS x.x) (b := snOf x) hd hT (by rw [hs]; exact old_len l) (nmS_ok _) (snOf_len hr)
   cases l with
   | none =>
     right
     refine ⟨rfl, fun y hy => (by cases hy), ?_⟩
     unfold putS
     rw [if_neg (by rw [hr]; decide)]
     simp only
     rcases hf with ⟨h1, h2, h3, h4⟩ | ⟨h1, h2, h3, h4⟩
     ·rw [if_neg (by rw [h1]; decide)]
      left
      exact ⟨rfl, h2, by rw [h3, hs]; rfl, h4⟩
     ·rw [if_pos (by rw [h1]; decide)]
      right
      refine ⟨by rw [h1], h2, h4, ?_, fun y hy => by cases hy⟩
      rcases h3 with h3 | ⟨u, v, h3⟩
      ·rw [h3]; exact hfam
      ·rw [h3]; exact fam_ins hfam (.inl rfl)
   | some y =>
     have hy := right_x (hl y rfl)
     have hx := right_x hr
     by_cases hle : x.x ≤ y.x
     ·left
      refine ⟨rfl, ⟨y, rfl, hle⟩, ?_⟩
      unfold putS
      rw [if_neg (by rw [hr]; decide)]
      simp only
      rw [if_pos hle]
     ·right
      have hne : nmS x.x ≠ nmS y.x := fun h => by have := nmS_inj (by omega) hx.2 (by omega) hy.2 h; omega
      refine ⟨rfl, fun z hz => by injection hz with hz; subst hz; omega, ?_⟩
      unfold putS
      rw [if_neg (by rw [hr]; decide)]
      simp only
      rw [if_neg hle]
      rcases hf with ⟨h1, h2, h3, h4⟩ | ⟨h1, h2, h3, h4⟩
      ·rw [if_neg (by rw [h1]; decide)]
       have h5 : (fileS s (nmS x.x) (snOf x)).1.files = ins (fileOf x) [fileOf y] := by rw [h3, hs]; exact put_old hne
       have h6 : find (nmS y.x) (fileS s (nmS x.x) (snOf x)).1.files = some (fileOf y) := by
        rw [h5, find_ins_other (f := fileOf x) hne]
        unfold find fileOf; simp
       rcases remove_ok h2 (nmS_ok y.x) h6 with ⟨c1, c2, c3, c4⟩ | ⟨c1, c2, c3, c4⟩
       ·rw [if_neg (by rw [c1]; decide)]
        left
        exact ⟨rfl, c2, by rw [c3, h5, del_two hne]; rfl, fun h => c4 (h4 h)⟩
       ·rw [if_pos (by rw [c1]; decide)]
        right
        refine ⟨by rw [c1], c2, fun h => c4 (h4 h), ?_, fun z hz => ?_⟩
        ·rw [c3, h5]
         intro g hg
         rcases ins_mem.1 hg with rfl | hg
         ·exact .inr ⟨x, by simp, hr, rfl⟩
         ·simp at hg; subst hg; exact .inr ⟨y, by simp, hl y rfl, rfl⟩
        ·injection hz with hz; subst hz
         rw [c3, h5]
         exact ins_mem.2 (.inr (by simp))
      ·rw [if_pos (by rw [h1]; decide)]
       right
       refine ⟨by rw [h1], h2, h4, ?_, ?_⟩
       ·rcases h3 with h3 | ⟨u, v, h3⟩
        ·rw [h3]; exact hfam
        ·rw [h3]; exact fam_ins hfam (.inl rfl)
       ·rcases h3 with h3 | ⟨u, v, h3⟩
        ·rw [h3]; exact hmem
        ·rw [h3]; exact fun z hz => ins_mem.2 (.inr (hmem z hz))
theorem rmAll_ok : ∀ (ns : List Name) (fs : List File), ns.Nodup → (∀ n ∈ ns, named n = true ∧ ∃ g ∈ fs, g.name = n) → rmAll ⟨fs, false, 0⟩ ns = (⟨fs.filter (fun g => !decide (g.name ∈ ns)), false, 0⟩, 0)
 | [], fs, _, _ => by
   unfold rmAll
   have : fs.filter (fun g => !decide (g.name ∈ ([] : List Name))) = fs := by rw [List.filter_eq_self]; intro g _; simp
   rw [this]
 | n :: r, fs, hn, h => by
   rw [List.nodup_cons] at hn
   obtain ⟨h1, g, hg, hgn⟩ := h n (by simp)
   have hfd : ∃ f, find n fs = some f := by
    cases hf : find n fs with
    | some f => exact ⟨f, rfl⟩
    | none => exact absurd hgn ((find_none.1 hf) g hg)
   obtain ⟨f, hf⟩ := hfd
   have hr : remove ⟨fs, false, 0⟩ n = (⟨del n fs, false, 0⟩, 0) := by
    unfold remove
    rw [step_idle rfl]
    simp only [look_found (s := ⟨fs, false, 0⟩) rfl h1 hf]
   unfold rmAll
   rw [hr, if_pos rfl]
   simp only
   rw [rmAll_ok r (del n fs) hn.2 (fun m hm => by
    obtain ⟨h2, g2, hg2, e2⟩ := h m (List.mem_cons_of_mem _ hm)
    refine ⟨h2, g2, ?_, e2⟩
    unfold del
    rw [List.mem_filter]
    refine ⟨hg2, ?_⟩
    have : m ≠ n := fun e => hn.1 (e ▸ hm)
    rw [e2]; simpa using this)]
   unfold del
   rw [List.filter_filter]
   congr 2
   refine List.filter_congr fun x _ => ?_
   simp only [List.mem_cons]
   by_cases e : x.name = n <;> simp [e]
theorem names_nodup {fs : List File} (h : Sorted fs) : (fs.map File.name).Nodup := by
 rw [sorted_names] at h
 exact h.imp (fun h => lt_ne h)
theorem gone_mem {s : S} {f : Option SnT} {n : Name} : n ∈ goneS s f ↔ n ∈ snames s ∧ (n = nmT ∨ ((idxS n).isSome = true ∧ other f n = true)) := by
 unfold goneS namesS
 rw [List.mem_append, List.mem_filter, List.mem_filter]
 constructor
 ·rintro (h | ⟨⟨h1, h2⟩, h3⟩)
  ·split at h
   ·simp at h; subst h; exact ⟨‹_›, .inl rfl⟩
   ·cases h
  ·exact ⟨h1, .inr ⟨h2, h3⟩⟩
 ·rintro ⟨h1, rfl | ⟨h2, h3⟩⟩
  ·left; rw [if_pos h1]; simp
  ·exact .inr ⟨⟨h1, h2⟩, h3⟩
theorem gone_nodup {s : S} (hs : Sorted s.files) (f : Option SnT) : (goneS s f).Nodup := by
 unfold goneS
 rw [List.nodup_append]
 refine ⟨by split <;> simp, ((names_nodup hs).filter _).filter _, fun a ha b hb => ?_⟩
 split at ha
 ·simp at ha; subst ha
  rintro rfl
  have h1 := (List.mem_filter.1 (List.mem_filter.1 hb).1).2
  rw [nmT_idx] at h1
  cases h1
 ·cases ha
theorem openS_up {fs : List File} (hs : Sorted fs) (hn : ∀ g ∈ fs, named g.name = true) : ∃ f, f = findS ⟨fs, false, 0⟩ (namesS ⟨fs, false, 0⟩).reverse ∧ openS ⟨fs, false, 0⟩ = (⟨fs.filter (fun g => !decide (g.name ∈ goneS ⟨fs, false, 0⟩ f)), false, 0⟩, f, 0) := by
 refine ⟨_, rfl, ?_⟩
 unfold openS
 rw [if_neg (show ¬ (S.mk fs false 0).down = true from Bool.false_ne_true)]
 simp only
 rw [rmAll_ok _ fs (gone_nodup (s := ⟨fs, false, 0⟩) hs _) (fun n hn2 => by
  have h1 := (gone_mem.1 hn2).1
  unfold snames at h1
  obtain ⟨g, hg, e⟩ := List.mem_map.1 h1
  exact ⟨e ▸ hn g hg, g, hg, e⟩)]
theorem find_head {s : S} {n : Name} {r : List Name} {x : SnT} (hr : rightS x = true) (hn : n = nmS x.x) (hd : read s n = (snOf x, 0)) : findS s (n :: r) = some x := by
 have hx := right_x hr
 have e1 : (read s n).1 = snOf x := by rw [hd]
 have e2 : readS (read s n).1 = some x := by rw [e1]; exact readS_iff.2 (rightS_iff hr)
 have e3 : (idxS n).map Int.ofNat = some x.x := by rw [hn]; exact idx_nmS (by omega) hx.2
 unfold findS
 rw [e2]
 exact if_pos e3
theorem find_uniq {fs : List File} (hs : Sorted fs) {g : File} (hg : g ∈ fs) : find g.name fs = some g := by
 have h := names_nodup hs
 induction fs with
 | nil => cases hg
 | cons y r ih =>
   rw [List.map_cons, List.nodup_cons] at h
   rcases List.mem_cons.1 hg with rfl | hg
   ·unfold find; simp
   ·have hne : y.name ≠ g.name := fun e => h.1 (e ▸ List.mem_map.2 ⟨g, hg, rfl⟩)
    have hs' : Sorted r := by unfold Sorted at hs ⊢; rw [List.pairwise_cons] at hs; exact hs.2
    have := ih hs' hg h.2
    unfold find at this ⊢
    rw [List.find?_cons_of_neg (by simpa using hne)]
    exact this
theorem fam_open {X : List SnT} {fs : List File} (hs : Sorted fs) (hX : Fam X fs) :
 ((∃ g ∈ fs, g.name ≠ nmT) → ∃ x ∈ X, rightS x = true ∧ openS ⟨fs, false, 0⟩ = (⟨old (some x), false, 0⟩, some x, 0)) ∧
 ((∀ g ∈ fs, g.name = nmT) → openS ⟨fs, false, 0⟩ = (⟨[], false, 0⟩, none, 0)) := by
 have hnm : ∀ g ∈ fs, named g.name = true := by
  intro g hg
  rcases hX g hg with h | ⟨x, -, -, rfl⟩
  ·rw [h]; exact nmT_ok
  ·exact nmS_ok _
 obtain ⟨f, hf, ho⟩ := openS_up hs hnm
 have hin : ∀ n, n ∈ namesS ⟨fs, false, 0⟩ ↔ ∃ g ∈ fs, g.name = n ∧ n ≠ nmT := by
  intro n
  unfold namesS snames
  rw [List.mem_filter, List.mem_map]
  constructor
  ·rintro ⟨⟨g, hg, rfl⟩, h2⟩
   refine ⟨g, hg, rfl, fun e => ?_⟩
   rw [e, nmT_idx] at h2; cases h2
  ·rintro ⟨g, hg, rfl, hne⟩
   refine ⟨⟨g, hg, rfl⟩, ?_⟩
   rcases hX g hg with h | ⟨x, -, hr, rfl⟩
   ·exact absurd h hne
   ·have := idx_nmS (i := x.x) (by have := right_x hr; omega) (right_x hr).2
    show (idxS (nmS x.x)).isSome = true
    cases hh : idxS (nmS x.x) with
    | none => rw [hh] at this; cases this
    | some _ => rfl
 constructor
 ·rintro ⟨g0, hg0, hne0⟩
  have hne : (namesS ⟨fs, false, 0⟩).reverse ≠ [] := by
   intro h
   have h1 := (hin g0.name).2 ⟨g0, hg0, rfl, hne0⟩
   rw [← List.mem_reverse, h] at h1
   cases h1
  obtain ⟨n, r, hnr⟩ : ∃ n r, (namesS ⟨fs, false, 0⟩).reverse = n :: r := by
   cases h : (namesS ⟨fs, false, 0⟩).reverse with
   | nil => exact absurd h hne
   | cons n r => exact ⟨n, r, rfl⟩
  have hmem : n ∈ namesS ⟨fs, false, 0⟩ := by rw [← List.mem_reverse, hnr]; simp
  obtain ⟨g, hg, e, hnT⟩ := (hin n).1 hmem
  rcases hX g hg with h | ⟨x, hx, hr, rfl⟩
  ·exact absurd (h ▸ e).symm hnT
  ·have hfx : f = some x := by
    rw [hf, hnr]
    refine find_head hr e.symm ?_
    unfold Dsk.read
    rw [← e]
    simp only [look_found (s := ⟨fs, false, 0⟩) (n := (fileOf x).name) rfl (nmS_ok _) (find_uniq hs hg)]
    rfl
   refine ⟨x, hx, hr, ?_⟩
   rw [ho, hfx]
   refine Prod.ext (congrArg (fun z => S.mk z false 0) ?_) rfl
   have hkeep : ∀ y ∈ fs, (!decide (y.name ∈ goneS ⟨fs, false, 0⟩ (some x))) = decide (y.name = nmS x.x) := by
    intro y hy
    rw [Bool.eq_iff_iff]
    simp only [Bool.not_eq_true', decide_eq_false_iff_not, decide_eq_true_eq, gone_mem]
    have hyn : y.name ∈ snames ⟨fs, false, 0⟩ := List.mem_map.2 ⟨y, hy, rfl⟩
    constructor
    ·intro h
     rcases hX y hy with hT | ⟨z, -, hz, rfl⟩
     ·exact absurd ⟨hyn, .inl hT⟩ h
     ·have hzi := idx_nmS (i := z.x) (by have := right_x hz; omega) (right_x hz).2
      by_cases e2 : z.x = x.x
      ·show nmS z.x = nmS x.x; rw [e2]
      ·refine absurd ⟨hyn, .inr ⟨((List.mem_filter.1 ((hin _).2 ⟨_, hy, rfl, nmS_T _⟩)).2), ?_⟩⟩ h
       unfold other
       simp only [Bool.not_eq_true', decide_eq_false_iff_not]
       show ¬ Option.map Int.ofNat (idxS (nmS z.x)) = some x.x
       rw [hzi]
       exact fun h3 => e2 (Option.some.inj h3)
    ·rintro e2 ⟨-, h3 | ⟨-, h3⟩⟩
     ·exact nmS_T x.x (e2 ▸ h3)
     ·unfold other at h3
      simp only [Bool.not_eq_true', decide_eq_false_iff_not] at h3
      rw [e2] at h3
      exact h3 (idx_nmS (by have := right_x hr; omega) (right_x hr).2)
   rw [List.filter_congr hkeep]
   have huniq : ∀ (l : List File), (l.map File.name).Nodup → fileOf x ∈ l → l.filter (fun y => decide (y.name = nmS x.x)) = [fileOf x] := by
    intro l
    induction l with
    | nil => intro _ h; cases h
    | cons y r ih =>
      intro hnd hm
      rw [List.map_cons, List.nodup_cons] at hnd
      rcases List.mem_cons.1 hm with rfl | hm
      ·rw [List.filter_cons_of_pos (by simp [fileOf])]
       refine congrArg (fileOf x :: ·) ?_
       rw [List.filter_eq_nil_iff]
       intro z hz h
       simp at h
       exact hnd.1 (List.mem_map.2 ⟨z, hz, h⟩)
      ·rw [List.filter_cons_of_neg]
       ·exact ih hnd.2 hm
       ·simp only [decide_eq_true_eq]
        intro h
        exact hnd.1 (List.mem_map.2 ⟨fileOf x, hm, h.symm⟩)
   rw [huniq fs (names_nodup hs) hg]
   rfl
 ·intro hall
  have he : namesS ⟨fs, false, 0⟩ = [] := by
   rw [List.eq_nil_iff_forall_not_mem]
   intro n hn
   obtain ⟨g, hg, e, h⟩ := (hin n).1 hn
   exact h (e ▸ hall g hg)
  have hfn : f = none := by rw [hf, he]; rfl
  rw [ho, hfn]
  refine Prod.ext (congrArg (fun z => S.mk z false 0) ?_) rfl
  rw [List.filter_eq_nil_iff]
  intro y hy
  have : y.name ∈ goneS ⟨fs, false, 0⟩ none := gone_mem.2 ⟨List.mem_map.2 ⟨y, hy, rfl⟩, .inl (hall y hy)⟩
  simp [this]
theorem crash_mem (keep : List Bool) : ∀ (fs : List File) (n : Nat) (g : File), g ∈ crashFiles keep fs n → ∃ f ∈ fs, ∃ k, g = ⟨f.name, (keptBytes f keep k).1, (keptBytes f keep k).1⟩
 | [], n, g, h => by unfold crashFiles at h; cases h
 | f :: r, n, g, h => by
   unfold crashFiles at h
   simp only at h
   rcases List.mem_cons.1 h with rfl | h
   ·exact ⟨f, by simp, n, rfl⟩
   ·obtain ⟨f2, h2, k, e⟩ := crash_mem keep r _ g h
    exact ⟨f2, List.mem_cons_of_mem _ h2, k, e⟩
theorem crash_names (keep : List Bool) (fs : List File) (n : Nat) : (crashFiles keep fs n).map File.name = fs.map File.name := by rw [← crashGo_files]; exact crashGo_names keep fs n
theorem crash_sorted {keep : List Bool} {fs : List File} (h : Sorted fs) (n : Nat) : Sorted (crashFiles keep fs n) := by rw [sorted_names, crash_names, ← sorted_names]; exact h
theorem fam_crash {X : List SnT} {fs : List File} (h : Fam X fs) (keep : List Bool) (n : Nat) : Fam X (crashFiles keep fs n) := by
 intro g hg
 obtain ⟨f, hf, k, rfl⟩ := crash_mem keep fs n g hg
 rcases h f hf with h | ⟨x, hx, hr, rfl⟩
 ·exact .inl h
 ·refine .inr ⟨x, hx, hr, ?_⟩
  unfold fileOf
  rw [keptBytes_same]
theorem old_sorted (l : Option SnT) : Sorted (old l) := by cases l <;> simp [old, Sorted]
theorem crash_old (l : Option SnT) (d : Bool) (f : Nat) (keep : List Bool) : crash ⟨old l, d, f⟩ keep = ⟨old l, false, 0⟩ := by
 cases l with
 | none => rfl
 | some y => unfold crash old fileOf; simp only [crashFiles, keptBytes_same]
theorem open_old (l : Option SnT) (hl : ∀ y, l = some y → rightS y = true) : openS ⟨old l, false, 0⟩ = (⟨old l, false, 0⟩, l, 0) := by
 have hX : Fam l.toList (old l) := by
  cases l with
  | none => intro g hg; cases hg
  | some y => intro g hg; simp [old] at hg; subst hg; exact .inr ⟨y, by simp, hl y rfl, rfl⟩
 obtain ⟨h1, h2⟩ := fam_open (old_sorted l) hX
 cases l with
 | none => exact h2 (fun g hg => by cases hg)
 | some y =>
   obtain ⟨x, hx, -, ho⟩ := h1 ⟨fileOf y, by simp [old], nmS_T _⟩
   simp at hx
   subst hx
   exact ho
end Sto
end Go.Proofs.YtfpomllhkbbipaaGreatDoor
