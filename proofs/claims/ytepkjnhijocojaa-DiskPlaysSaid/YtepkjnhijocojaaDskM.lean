/- Layer 5: the walks of New, Create, Remove, Rename. -/
import Derived.Test.YtepkjnhijocojaaDskW2
import Derived.Maps.Own
import Derived.Maps.OwnSet
import Derived.OwnWalk
namespace Go.Proofs.Ytepkjnhijocojaa
open Go.RowKit Go.Maps Mem Dsk

section
variable {F G : Nat → Prop} {w w' : World} {p mb : Nat} {s : S} {rs rs' : List Rec} {r : Rec}
theorem SlB.map_far {α : Type} {f : α → Value} {e : TypeId} {A : Option Addr} {xs : List α} {es : Array MapEntry} {ck : Nat} (h : SlB f e F w A xs) (hb : w.heap[mb]? = some (.map es ck)) (hf : Frm (fun g => g = mb) w w') : SlB f e F w' A xs :=
  h.keep fun g cur fr _ hg => hf.block g (by
    rcases Nat.lt_or_ge g w.heap.size with hl | hl
    · exact hl
    · rw [Array.getElem?_eq_none hl] at hg; cases hg) (by intro e; subst e; rw [hb] at hg; cases hg)
theorem Rep.remap (h : Rep F w p s mb rs) (hf : Frm (fun g => g = mb) w w') {n : Nat} {fs' : List File} (hm : w'.ownsMap Try.prog 9 ptrR mb n (.map (rs'.map entry))) (hfiles : rs'.map Rec.file = fs')
    (hrec : ∀ r ∈ rs', RecOK F w r) (hap : (rs'.map Rec.fb).Nodup) (hso : Sorted fs') (hct : fs'.length ≤ 256) : Rep F w' p { s with files := fs' } mb rs' := by
  have hne := map_blk_ne h.map h.blk
  have hmap := h.map
  obtain ⟨es, ck, hb, _⟩ := h.map
  refine { blk := h.blk.frm hf (fun e => hne e.symm), inP := h.inP, inM := h.inM, map := ?_, files := hfiles, recs := fun r hr => ?_, apart := hap, sorted := hso, count := hct, fuse := h.fuse }
  · have := map_exact hm; rw [List.length_map] at this; exact this
  · obtain ⟨a, b, c, d, e⟩ := hrec r hr
    exact ⟨a.frm hf (fun e => map_blk_ne hmap a e.symm), b, SlB.map_far c hb hf, SlB.map_far d hb hf, e⟩
theorem delR_of_none {n : Name} (h : findR n rs = none) : delR n rs = rs := by
  unfold findR at h; rw [List.find?_eq_none] at h
  unfold delR; rw [List.filter_eq_self]
  intro x hx; have := h x hx; simpa using this
theorem insR_perm (f : Rec) (l : List Rec) : (insR f l).Perm (f :: l) := by
  induction l with
  | nil => exact List.Perm.refl _
  | cons y r ih =>
    unfold insR; split
    · exact List.Perm.refl _
    · exact ((ih.cons y).trans (List.Perm.swap f y r))
theorem insR_mem {f x : Rec} {l : List Rec} : x ∈ insR f l ↔ x = f ∨ x ∈ l := by rw [(insR_perm f l).mem_iff]; simp
theorem insR_apart {f : Rec} {l : List Rec} (h : (l.map Rec.fb).Nodup) (hn : ∀ x ∈ l, x.fb ≠ f.fb) : ((insR f l).map Rec.fb).Nodup := by
  rw [((insR_perm f l).map Rec.fb).nodup_iff, List.map_cons, List.nodup_cons]
  refine ⟨fun hm => ?_, h⟩
  obtain ⟨x, hx, e⟩ := List.mem_map.1 hm
  exact hn x hx e
theorem delR_apart {n : Name} (h : (rs.map Rec.fb).Nodup) : ((delR n rs).map Rec.fb).Nodup := h.sublist ((List.filter_sublist).map _)
end

/-- the blocks of a disk behind a call that began in w -/
def up (F : Nat → Prop) (w : World) : Nat → Prop := fun g => F g ∨ w.heap.size ≤ g
theorem New_any (w : World) : Calls Try.prog 9 #[] w fun e w' => ∃ p, e = .returned (.pointer (some ⟨p, 0, none⟩)) ∧ DiskAt (fun g => w.heap.size ≤ g) w' p ⟨[], false, 0⟩ ∧ Below w.heap.size w w' := by
  have hmm := @run_makeMap Try.prog
  go_enter Try.func9, Try.ntmps9
  go_wp2
  go_ret
  have h2 : (w.alloc (.map #[] 0)).heap.size = w.heap.size + 1 := World.size_alloc ..
  refine ⟨w.heap.size + 1, rfl, ⟨w.heap.size, [], ?_⟩, ((Below.refl _ _).alloc (Nat.le_refl _) _).alloc (by rw [h2]; omega) _⟩
  have hmade := (World.ownsMap_made w Try.prog 9 ptrR).alloc (.cells #[Value.map (some w.heap.size), Value.bool false, Value.int IntKind.i64 0] 64)
  have hb := Blk.new_ (w.alloc (.map #[] 0)) 64 #[Value.map (some w.heap.size), Value.bool false, Value.int IntKind.i64 0]
  rw [h2] at hb
  exact { blk := hb, inP := (by show w.heap.size ≤ w.heap.size + 1; omega), inM := Nat.le_refl _, map := hmade, files := rfl, recs := (by simp), apart := (by simp), sorted := List.Pairwise.nil, count := (by simp), fuse := (by simp) }

theorem lookV_none {s : S} {rs : List Rec} {ns : List ByteArray} {e : Nat} (h : lookV s rs ns = (none, e)) : e = 50 ∨ e = 1 ∨ (e = 4 ∧ s.down = false ∧ anyBad ns = false ∧ findR (sname (ns.headD ByteArray.empty)) rs = none) := by
  unfold lookV at h
  split at h
  · simp at h; omega
  · rename_i hd
    split at h
    · simp at h; omega
    · rename_i hb
      split at h
      · simp at h
      · rename_i hf
        simp at h; exact .inr (.inr ⟨h.symm, by simpa using hd, by simpa using hb, hf⟩)
theorem lookV_rec' {s : S} {rs : List Rec} {ns : List ByteArray} {r : Rec} {e : Nat} (h : lookV s rs ns = (some r, e)) : s.down = false ∧ anyBad ns = false := by
  unfold lookV at h
  split at h
  · simp at h
  · rename_i hd
    split at h
    · simp at h
    · rename_i hb
      exact ⟨by simpa using hd, by simpa using hb⟩
section
variable {F : Nat → Prop} {w : World} {p mb : Nat} {s : S} {rs : List Rec}
/-- change at one name that has just been laid into a slice -/
theorem change_one (h : Rep F w p s mb rs) (n : ByteArray) (hn : n.size ≤ maxLen) {o : Option Rec} {e : Nat} (hl : lookV (Dsk.step s) rs [n] = (o, e)) (g : Nat) (hg : g = w.heap.size) :
    Calls Try.prog 29 #[.pointer (some ⟨p, 0, none⟩), .slice (some ⟨g, 0, none⟩) 1 1] (w.alloc (.cells #[.string n] 9))
      fun x w' => x = .returned (.tuple #[ptrOf o, .int .i64 e]) ∧ Rep F w' p (Dsk.step s) mb rs ∧ Frm (fun g => g = p) w w' := by
  subst hg
  have hlt := h.blk.lt
  have h1 := h.below ((Below.refl w.heap.size w).alloc (Nat.le_refl _) (.cells #[.string n] 9))
  have hs : SlB Value.string 9 (fun g => g = w.heap.size) (w.alloc (.cells #[.string n] 9)) (some ⟨w.heap.size, 0, none⟩) [n] :=
    ⟨by unfold maxLen; simp, fun _ => ⟨_, _, _, _, rfl, rfl, heap_alloc_new w _, fun j hj => by simp at hj; subst hj; rfl⟩⟩
  refine (change_any h1 (some ⟨w.heap.size, 0, none⟩) 1 [n] (by simp) hs (by omega) (by simpa using hn)).mono ?_
  rintro x w' ⟨hx, h2, h3⟩
  refine ⟨by rw [hx, hl]; rfl, h2, ?_⟩
  exact ((Frm.refl _ _).alloc _).trans h3
theorem change_two (h : Rep F w p s mb rs) (n m : ByteArray) (hn : n.size ≤ maxLen) (hm : m.size ≤ maxLen) {o : Option Rec} {e : Nat} (hl : lookV (Dsk.step s) rs [n, m] = (o, e)) (g : Nat) (hg : g = w.heap.size) :
    Calls Try.prog 29 #[.pointer (some ⟨p, 0, none⟩), .slice (some ⟨g, 0, none⟩) 2 2] (w.alloc (.cells #[.string n, .string m] 9))
      fun x w' => x = .returned (.tuple #[ptrOf o, .int .i64 e]) ∧ Rep F w' p (Dsk.step s) mb rs ∧ Frm (fun g => g = p) w w' := by
  subst hg
  have hlt := h.blk.lt
  have h1 := h.below ((Below.refl w.heap.size w).alloc (Nat.le_refl _) (.cells #[.string n, .string m] 9))
  have hs : SlB Value.string 9 (fun g => g = w.heap.size) (w.alloc (.cells #[.string n, .string m] 9)) (some ⟨w.heap.size, 0, none⟩) [n, m] :=
    ⟨by unfold maxLen; simp, fun _ => ⟨_, _, _, _, rfl, rfl, heap_alloc_new w _, fun j hj => by
      simp at hj
      match j, hj with
      | 0, _ => rfl
      | 1, _ => rfl⟩⟩
  refine (change_any h1 (some ⟨w.heap.size, 0, none⟩) 2 [n, m] (by simp) hs (by omega) (by simp [hn, hm])).mono ?_
  rintro x w' ⟨hx, h2, h3⟩
  refine ⟨by rw [hx, hl]; rfl, h2, ?_⟩
  exact ((Frm.refl _ _).alloc _).trans h3
end
/-- what a step of the disk leaves -/
def OpPost (F : Nat → Prop) (p : Nat) (res : S × Nat) (w : World) (e : Ending) (w' : World) : Prop :=
  e = .returned (.int .i64 res.2) ∧ DiskAt (up F w) w' p res.1 ∧ Frm F w w'
theorem look_one {s : S} {rs : List Rec} (h : rs.map Rec.file = s.files) (n : ByteArray) {o : Option Rec} {e : Nat} (hl : lookV (Dsk.step s) rs [n] = (o, e)) : Dsk.look (Dsk.step s) [sname n] = (o.map Rec.file, e) := by
  have := lookV_look (h.trans (step_files s).symm) [n] (by simp)
  rw [hl] at this; exact this
theorem look_two {s : S} {rs : List Rec} (h : rs.map Rec.file = s.files) (n m : ByteArray) {o : Option Rec} {e : Nat} (hl : lookV (Dsk.step s) rs [n, m] = (o, e)) : Dsk.look (Dsk.step s) [sname n, sname m] = (o.map Rec.file, e) := by
  have := lookV_look (h.trans (step_files s).symm) [n, m] (by simp)
  rw [hl] at this; exact this
theorem up_mono {F : Nat → Prop} {w : World} (g : Nat) (h : F g) : up F w g := .inl h
theorem Frm.inP {F : Nat → Prop} {w w' : World} {p : Nat} (hp : F p) (h : Frm (fun g => g = p) w w') : Frm F w w' := h.mono (fun _ _ e => by rw [e]; exact hp)
set_option maxHeartbeats 1000000 in
theorem Create_any {F : Nat → Prop} {w : World} {p : Nat} {s : S} (h : DiskAt F w p s) (n : ByteArray) (hn : n.size ≤ maxLen) :
    Calls Try.prog 11 #[.pointer (some ⟨p, 0, none⟩), .string n] w (OpPost F p (Dsk.create s (sname n)) w) := by
  obtain ⟨mb, rs, h⟩ := h
  have hlt := h.blk.lt
  have hFp := h.inP
  have hfiles := h.files
  rcases hlk : lookV (Dsk.step s) rs [n] with ⟨o, e⟩
  have hlo := look_one hfiles n hlk
  cases o with
  | some r =>
    obtain ⟨rfl, _⟩ := lookV_rec hlk
    have hres : Dsk.create s (sname n) = (Dsk.step s, 5) := by unfold Dsk.create; simp only [hlo]; rfl
    have HRES := Lib.hid hres; clear hres hlo
    go_enter Try.func11, Try.ntmps11
    go_wp2_with fail
    (with_reducible refine (change_one h n hn hlk _ rfl).mono ?_); rintro x w1 ⟨rfl, h1, hf1⟩
    have HF := Lib.hid hf1; clear hf1
    unfold ptrOf
    go_wp2_with fail
    go_ret
    refine ⟨by rw [HRES.out]; rfl, ?_, Frm.inP hFp HF.out⟩
    rw [HRES.out]
    exact ⟨mb, rs, h1.mono (fun g _ => up_mono g)⟩
  | none =>
    by_cases he : e = 4
    · subst he
      obtain ⟨hd, hbad, hno⟩ : (Dsk.step s).down = false ∧ anyBad [n] = false ∧ findR (sname n) rs = none := by
        rcases lookV_none hlk with h | h | ⟨_, a, b, c⟩
        · omega
        · omega
        · exact ⟨a, b, c⟩
      by_cases hct : s.files.length = 256
      · have hres : Dsk.create s (sname n) = (Dsk.step s, 3) := by unfold Dsk.create; simp only [hlo, step_files]; simp [hct]
        have HRES := Lib.hid hres; clear hres hlo
        have hlen : rs.length = s.files.length := by rw [← hfiles]; simp
        have t1 : ((Maps.size (DataW.map (rs.map entry)) : Int) == 256) = true := by rw [beq_iff_eq, Maps.size_eq, List.length_map]; omega
        have HCT := Lib.hid hct; clear hct hlen
        go_enter Try.func11, Try.ntmps11
        go_wp2_with fail
        (with_reducible refine (change_one h n hn hlk _ rfl).mono ?_); rintro x w1 ⟨rfl, h1, hf1⟩
        have HF := Lib.hid hf1; clear hf1
        have c0 : w1.cell? ⟨p, 0, none⟩ = some (.map (some mb)) := h1.blk.cell 0
        have hown := h1.map
        unfold ptrOf
        go_wp2_with (at_len; refine wpList_len_own _ rfl _ _ rfl 9 65 Try.underlying62 ptrR mb _ _ rfl hown ?_)
        go_ret
        refine ⟨by rw [HRES.out]; rfl, ?_, Frm.inP hFp HF.out⟩
        rw [HRES.out]
        exact ⟨mb, rs, h1.mono (fun g _ => up_mono g)⟩
      · have hres : Dsk.create s (sname n) = ({ Dsk.step s with files := Dsk.put ⟨sname n, [], []⟩ s.files }, 0) := by unfold Dsk.create; simp only [hlo, step_files]; simp [hct]
        have HRES := Lib.hid hres; clear hres hlo
        have hlen : rs.length = s.files.length := by rw [← hfiles]; simp
        have hle := h.count
        have t1 : ((Maps.size (DataW.map (rs.map entry)) : Int) == 256) = false := by rw [beq_eq_false_iff_ne, Maps.size_eq, List.length_map]; omega
        have HMX : Hid (rs.length < maxLen) := by show rs.length < maxLen; unfold maxLen; omega
        have HCT : Hid (s.files.length < 256) := by show s.files.length < 256; omega
        clear hct hlen hle
        go_enter Try.func11, Try.ntmps11
        go_wp2_with fail
        (with_reducible refine (change_one h n hn hlk _ rfl).mono ?_); rintro x w1 ⟨rfl, h1, hf1⟩
        have HF := Lib.hid hf1; clear hf1
        have c0 : w1.cell? ⟨p, 0, none⟩ = some (.map (some mb)) := h1.blk.cell 0
        have hown := h1.map
        unfold ptrOf
        go_wp2_with (first | (at_len; refine wpList_len_own _ rfl _ _ rfl 9 65 Try.underlying62 ptrR mb _ _ rfl hown ?_) | (at_mapUpdate; refine wpList_mapUpdate_own _ rfl _ _ _ 62 rfl 9 65 tyKeys Try.underlying62 ptrR mb rs.length (.map (rs.map entry)) rfl (hown.alloc _) HMX.out _ _ (.string (sname n)) rfl rfl (Go.WideMaps.keyOf_string_mk Try.underlying9 hn) (.lit (.int .i64 w1.heap.size)) [] rfl ?_; intro w2 hown2 hgr2))
        go_ret
        have hF1 := HF.out
        have hnew : Frm (fun g => g = mb) (w1.alloc (.cells #[.slice none 0 0, .slice none 0 0] 69)) w2 := (Frm.refl _ _).grown hgr2 (fun k e _ => by injection e with e; exact e.symm)
        have hmblt := h.map.lt
        have hall : Frm F w w2 := ((Frm.inP hFp hF1).alloc _).grown hgr2 (fun k e _ => by injection e with e; rw [← e]; exact h.inM)
        refine ⟨by rw [HRES.out]; rfl, ?_, hall⟩
        rw [HRES.out]
        have h2 := (h1.mono (G := up F w) (fun g _ => up_mono g)).below ((Below.refl _ _).alloc (Nat.le_refl _) (.cells #[.slice none 0 0, .slice none 0 0] 69))
        have hno1 : findR (sname n) rs = none := hno
        have hrec : RecOK (up F w) (w1.alloc (.cells #[.slice none 0 0, .slice none 0 0] 69)) ⟨⟨sname n, [], []⟩, w1.heap.size, none, 0, none, 0⟩ :=
          ⟨Blk.new_ w1 _ _, .inr hF1.size, SlB.nil, SlB.nil, Nat.le_refl _, Nat.zero_le _, Nat.le_refl _, Nat.zero_le _, Nat.zero_le _, Nat.zero_le _, by unfold anyBad at hbad; simpa using hbad⟩
        have hput := put_entries ⟨⟨sname n, [], []⟩, w1.heap.size, none, 0, none, 0⟩ rs
        rw [show Rec.fb ⟨⟨sname n, [], []⟩, w1.heap.size, none, 0, none, 0⟩ = w1.heap.size from rfl] at hput
        rw [show (Rec.file ⟨⟨sname n, [], []⟩, w1.heap.size, none, 0, none, 0⟩).name = sname n from rfl, delR_of_none hno1] at hput
        rw [hput] at hown2
        refine ⟨mb, insR ⟨⟨sname n, [], []⟩, w1.heap.size, none, 0, none, 0⟩ rs, ?_⟩
        have hfi : (insR ⟨⟨sname n, [], []⟩, w1.heap.size, none, 0, none, 0⟩ rs).map Rec.file = Dsk.put ⟨sname n, [], []⟩ s.files := by
          rw [insR_file, hfiles]; unfold Dsk.put
          rw [del_of_none]
          rw [← hfiles, findR_file, hno1]; rfl
        refine h2.remap hnew hown2 hfi ?_ ?_ ?_ ?_
        · intro r hr
          rcases insR_mem.1 hr with rfl | hr
          · exact hrec
          · exact h2.recs r hr
        · refine insR_apart h.apart (fun x hx => ?_)
          have := (h1.recs x hx).1.lt
          show x.fb ≠ w1.heap.size
          omega
        · exact put_sorted h.sorted
        · unfold Dsk.put
          rw [ins_len, del_of_none (by rw [← hfiles, findR_file, hno1]; rfl)]
          exact HCT.out
    · have hres : Dsk.create s (sname n) = (Dsk.step s, e) := by unfold Dsk.create; simp only [hlo]; simp [he]
      have HRES := Lib.hid hres; clear hres hlo
      have hne : ((e : Int) != 4) = true := by rw [bne_iff_ne]; omega
      go_enter Try.func11, Try.ntmps11
      go_wp2_with fail
      (with_reducible refine (change_one h n hn hlk _ rfl).mono ?_); rintro x w1 ⟨rfl, h1, hf1⟩
      have HF := Lib.hid hf1; clear hf1
      unfold ptrOf
      go_wp2_with fail
      go_ret
      refine ⟨by rw [HRES.out]; rfl, ?_, Frm.inP hFp HF.out⟩
      rw [HRES.out]
      exact ⟨mb, rs, h1.mono (fun g _ => up_mono g)⟩
end Go.Proofs.Ytepkjnhijocojaa
