/- Layer 8: what the document's Read asks of bytes: plain words. -/
import Derived.Test.YtfnmofoecehcfaaSnF
namespace Go.Proofs.Ytfnmofoecehcfaa
open Go Go.RowKit Go.Maps Go.Lib Mem Pk Cf

theorem readS_none {b : List UInt8} (h : ∀ s, ¬ isSn b s) : readS b = none := by
  cases hr : readS b with
  | none => rfl
  | some s => exact absurd (readS_iff.1 hr) (h s)
/-- the numbers of a head -/
def headL (s : SnT) : List Int := s.x :: s.t :: (s.vs.length : Int) :: (s.vs ++ (s.ls.length : Int) :: (s.ls ++ [(s.ds.length : Int)]))
theorem numsB_appendS (a b : List Int) : numsB (a ++ b) = numsB a ++ numsB b := by unfold numsB; rw [List.flatMap_append]
theorem headL_nums (s : SnT) : numsB (headL s) = headN s.x s.t s.vs s.ls s.ds.length := by
  unfold headL headN
  rw [numsB_consS, numsB_consS, numsB_consS, numsB_appendS, numsB_consS, numsB_appendS, numsB_consS, numsB_consS, numsB_consS]
  show _ = _
  simp only [List.append_assoc]
  rw [show numsB [] = [] from rfl, List.append_nil]
theorem headL_ok {s : SnT} (h : snapB s.x s.t s.vs s.ls s.ds = true) : ∀ n ∈ headL s, i64ok n := by
  intro n hn
  refine pre_ok h n ?_
  unfold headL at hn
  simp only [List.mem_append, List.mem_cons, List.not_mem_nil, or_false] at hn ⊢
  rcases hn with rfl | rfl | rfl | hn | rfl | hn | rfl
  · exact .inl (.inl (.inl (.inl (.inl (.inl rfl)))))
  · exact .inl (.inl (.inl (.inl (.inl (.inr rfl)))))
  · exact .inl (.inl (.inl (.inl (.inr rfl))))
  · exact .inl (.inl (.inl (.inr hn)))
  · exact .inl (.inl (.inr rfl))
  · exact .inl (.inr hn)
  · exact .inr rfl
theorem nums_splitI : ∀ {ns ms : List Int} {rest : List UInt8}, (∀ n ∈ ns, i64ok n) → (∀ n ∈ ms, i64ok n) → numsB ns ++ rest = numsB ms → ∃ ks, ms = ns ++ ks ∧ rest = numsB ks
  | [], ms, rest, _, _, h => ⟨ms, rfl, h⟩
  | n :: ns, [], rest, _, _, h => by
    rw [numsB_consS] at h
    have h1 := congrArg List.length h
    rw [List.append_assoc, List.length_append] at h1
    have := (numB_len n).1
    have h2 : (numsB []).length = 0 := rfl
    omega
  | n :: ns, m :: ms, rest, h1, h2, h => by
    rw [numsB_consS, numsB_consS, List.append_assoc] at h
    have hn := h1 n List.mem_cons_self
    have hm := h2 m List.mem_cons_self
    have e1 := getNum_num hn.1 hn.2 (numsB ns ++ rest)
    have e2 := getNum_num hm.1 hm.2 (numsB ms)
    rw [h, e2] at e1
    injection e1 with e1; injection e1 with e3 e4
    subst e3
    have h3 : numsB ns ++ rest = numsB ms := List.append_cancel_left h
    obtain ⟨ks, h3, h4⟩ := nums_splitI (fun x hx => h1 x (List.mem_cons_of_mem _ hx)) (fun x hx => h2 x (List.mem_cons_of_mem _ hx)) h3
    exact ⟨ks, by rw [h3]; rfl, h4⟩
theorem sn_head {b p : List UInt8} {n : Nat} (hu : unframe b = (p, n, 0)) {s : SnT} (h : isSn b s) : p = numsB (headL s) ∧ b.drop n = piecesN (nP s.ds.length) s.ds := by
  obtain ⟨h1, h2⟩ := sn_unframe h
  rw [hu] at h1
  injection h1 with h1 h3; injection h3 with h3 _
  subst h1; subst h3
  exact ⟨(headL_nums s).symm, h2⟩
/-- no number follows -/
theorem sn_stuck {b p rest : List UInt8} {n : Nat} {ns : List Int} (hu : unframe b = (p, n, 0)) (hp : p = numsB ns ++ rest) (hi : ∀ n ∈ ns, i64ok n) (hr : rest ≠ []) (hg : getNum rest = none) : readS b = none :=
  readS_none fun s h => by
    obtain ⟨h1, -⟩ := sn_head hu h
    obtain ⟨ks, h3, h4⟩ := nums_splitI hi (headL_ok h.1) (hp.symm.trans h1)
    cases ks with
    | nil => exact hr h4
    | cons k ks =>
      have hk := headL_ok h.1 k (by rw [h3]; simp)
      rw [h4, numsB_consS, getNum_num hk.1 hk.2] at hg
      cases hg
/-- the numbers that were read are the head's -/
theorem sn_shape {b p : List UInt8} {n : Nat} {ns : List Int} (hu : unframe b = (p, n, 0)) (hp : p = numsB ns) (hi : ∀ n ∈ ns, i64ok n) {s : SnT} (h : isSn b s) : ns = headL s := by
  obtain ⟨h1, -⟩ := sn_head hu h
  obtain ⟨ks, h3, h4⟩ := nums_splitI (rest := []) hi (headL_ok h.1) (by rw [List.append_nil, ← hp, h1])
  cases ks with
  | nil => rw [h3, List.append_nil]
  | cons k ks =>
    rw [numsB_consS] at h4
    have h5 := congrArg List.length h4
    rw [List.length_append] at h5
    have := (numB_len k).1
    have h6 : ([] : List UInt8).length = 0 := rfl
    omega
theorem headL_len (s : SnT) : (headL s).length = s.vs.length + s.ls.length + 5 := by unfold headL; simp; omega
theorem headL_2 (s : SnT) : (headL s).getD 2 0 = (s.vs.length : Int) := rfl
theorem headL_at (s : SnT) : (headL s).getD (3 + s.vs.length) 0 = (s.ls.length : Int) := by
  unfold headL
  rw [List.getD_eq_getElem?_getD, show 3 + s.vs.length = s.vs.length + 1 + 1 + 1 by omega, List.getElem?_cons_succ, List.getElem?_cons_succ, List.getElem?_cons_succ, List.getElem?_append_right (Nat.le_refl _), Nat.sub_self]
  rfl
/-- the shape of a head: another one has no snapshot -/
theorem sn_no {b p : List UInt8} {n : Nat} {ns : List Int} (hu : unframe b = (p, n, 0)) (hp : p = numsB ns) (hi : ∀ n ∈ ns, i64ok n)
    (h : ∀ a c : Nat, a ≤ 7 → c ≤ 7 → ns.getD 2 0 = (a : Int) → ns.getD (3 + a) 0 = (c : Int) → ns.length ≠ a + c + 5) : readS b = none :=
  readS_none fun s hs => by
    have e := sn_shape hu hp hi hs
    obtain ⟨-, -, hc, -⟩ := snap_parts hs.1
    obtain ⟨hv, hl⟩ := rconf_rise hc
    exact h s.vs.length s.ls.length (rise_small hv) (rise_small hl) (by rw [e]; exact headL_2 s) (by rw [e]; exact headL_at s) (by rw [e]; exact headL_len s)
/-- the parts of a head of the right shape -/
theorem sn_parts {ns : List Int} {s : SnT} (e : ns = headL s) : s.x = ns.getD 0 0 ∧ s.t = ns.getD 1 0 ∧ s.vs = (ns.drop 3).take (ns.getD 2 0).toNat ∧ s.ls = (ns.drop (3 + (ns.getD 2 0).toNat + 1)).take (ns.length - 1 - (3 + (ns.getD 2 0).toNat + 1)) ∧ (s.ds.length : Int) = ns.getD (ns.length - 1) 0 := by
  subst e
  have e2 : ((headL s).getD 2 0).toNat = s.vs.length := by rw [headL_2]; exact Int.toNat_natCast _
  refine ⟨rfl, rfl, ?_, ?_, ?_⟩
  · rw [e2]
    show s.vs = ((s.vs ++ (s.ls.length : Int) :: (s.ls ++ [(s.ds.length : Int)])).take s.vs.length)
    rw [List.take_left]
  · rw [e2, headL_len]
    have h1 : (headL s).drop (3 + s.vs.length + 1) = s.ls ++ [(s.ds.length : Int)] := by
      have h3 : headL s = (s.x :: s.t :: (s.vs.length : Int) :: s.vs) ++ ((s.ls.length : Int) :: (s.ls ++ [(s.ds.length : Int)])) := by unfold headL; simp
      have h4 : 3 + s.vs.length + 1 = (s.x :: s.t :: (s.vs.length : Int) :: s.vs).length + 1 := by simp; omega
      rw [h3, h4, ← List.drop_drop, List.drop_left]; rfl
    rw [h1, show s.vs.length + s.ls.length + 5 - 1 - (3 + s.vs.length + 1) = s.ls.length by omega, List.take_left]
  · rw [headL_len]
    have h3 : headL s = (s.x :: s.t :: (s.vs.length : Int) :: (s.vs ++ (s.ls.length : Int) :: s.ls)) ++ [(s.ds.length : Int)] := by unfold headL; simp
    rw [h3, List.getD_eq_getElem?_getD, List.getElem?_append_right (by simp; omega)]
    have : s.vs.length + s.ls.length + 5 - 1 - (s.x :: s.t :: (s.vs.length : Int) :: (s.vs ++ (s.ls.length : Int) :: s.ls)).length = 0 := by simp; omega
    rw [this]; rfl
/-- frames one behind the other -/
def framesB (ps : List (List UInt8)) : List UInt8 := ps.flatMap frameB
theorem frames_split : ∀ {ps qs : List (List UInt8)} {rest : List UInt8}, (∀ p ∈ ps, p.length ≤ 4096) → (∀ p ∈ qs, p.length ≤ 4096) → framesB ps ++ rest = framesB qs → ∃ ks, qs = ps ++ ks ∧ rest = framesB ks
  | [], qs, rest, _, _, h => ⟨qs, rfl, h⟩
  | p :: ps, [], rest, _, _, h => by
    unfold framesB at h
    rw [List.flatMap_cons, List.append_assoc] at h
    have h1 := congrArg List.length h
    rw [List.length_append, frameB_len] at h1
    have h2 : (List.flatMap frameB []).length = 0 := rfl
    omega
  | p :: ps, q :: qs, rest, h1, h2, h => by
    unfold framesB at h
    rw [List.flatMap_cons, List.flatMap_cons, List.append_assoc] at h
    have e1 := unframe_frame (h1 p List.mem_cons_self) (ps.flatMap frameB ++ rest)
    have e2 := unframe_frame (h2 q List.mem_cons_self) (qs.flatMap frameB)
    rw [h, e2] at e1
    injection e1 with e3 e4
    subst e3
    have h3 : framesB ps ++ rest = framesB qs := List.append_cancel_left h
    obtain ⟨ks, h3, h4⟩ := frames_split (fun x hx => h1 x (List.mem_cons_of_mem _ hx)) (fun x hx => h2 x (List.mem_cons_of_mem _ hx)) h3
    exact ⟨ks, by rw [h3]; rfl, h4⟩
theorem pieces_frames (k : Nat) (ds : List UInt8) : piecesN k ds = framesB ((List.range k).map (piece ds)) := by
  unfold piecesN framesB; rw [List.flatMap_map]
theorem pieces_flat (ds : List UInt8) : ((List.range (nP ds.length)).map (piece ds)).flatten = ds := by
  have key : ∀ k, ((List.range k).map (piece ds)).flatten = ds.take (k * 2048) := by
    intro k
    induction k with
    | zero => rw [Nat.zero_mul]; rfl
    | succ k ih =>
      rw [List.range_succ, List.map_append, List.flatten_append, ih]
      have e1 : (List.map (piece ds) [k]).flatten = piece ds k := by simp
      rw [e1]
      unfold piece
      rw [show (k + 1) * 2048 = k * 2048 + 2048 by omega]
      exact List.take_add.symm
  rw [key, List.take_of_length_le (by unfold nP; omega)]
theorem pieces_le (k : Nat) (ds : List UInt8) : ∀ p ∈ (List.range k).map (piece ds), p.length ≤ 4096 := by
  intro p hp
  obtain ⟨j, -, rfl⟩ := List.mem_map.1 hp
  exact Nat.le_trans (piece_len ds j) (by decide)
theorem sn_frames {b p : List UInt8} {n : Nat} (hu : unframe b = (p, n, 0)) {ps : List (List UInt8)} {rest : List UInt8} (hb : b.drop n = framesB ps ++ rest) (hp : ∀ p ∈ ps, p.length ≤ 4096) {s : SnT} (h : isSn b s) :
    ∃ ks, (List.range (nP s.ds.length)).map (piece s.ds) = ps ++ ks ∧ rest = framesB ks := by
  obtain ⟨-, h2⟩ := sn_head hu h
  rw [hb, pieces_frames] at h2
  exact frames_split hp (pieces_le _ _) h2
/-- no frame follows -/
theorem sn_cut {b p : List UInt8} {n : Nat} (hu : unframe b = (p, n, 0)) {ps : List (List UInt8)} {rest : List UInt8} (hb : b.drop n = framesB ps ++ rest) (hp : ∀ p ∈ ps, p.length ≤ 4096) (hr : rest ≠ []) (hc : (unframe rest).2.2 ≠ 0) : readS b = none :=
  readS_none fun s h => by
    obtain ⟨ks, h3, h4⟩ := sn_frames hu hb hp h
    cases ks with
    | nil => exact hr h4
    | cons k ks =>
      have hk := pieces_le (nP s.ds.length) s.ds k (by rw [h3]; simp)
      unfold framesB at h4
      rw [h4, List.flatMap_cons, unframe_frame hk] at hc
      exact hc rfl
/-- what was read is it -/
theorem sn_all {b p : List UInt8} {n : Nat} (hu : unframe b = (p, n, 0)) {ns : List Int} (hp : p = numsB ns) (hi : ∀ n ∈ ns, i64ok n) {ps : List (List UInt8)} (hb : b.drop n = framesB ps) (hps : ∀ p ∈ ps, p.length ≤ 4096)
    {s s' : SnT} (hx : s.x = ns.getD 0 0) (ht : s.t = ns.getD 1 0) (hv : s.vs = (ns.drop 3).take (ns.getD 2 0).toNat) (hl : s.ls = (ns.drop (3 + (ns.getD 2 0).toNat + 1)).take (ns.length - 1 - (3 + (ns.getD 2 0).toNat + 1))) (hd : s.ds = ps.flatten) (h : isSn b s') : s' = s := by
  have e := sn_shape hu hp hi h
  obtain ⟨f1, f2, f3, f4, -⟩ := sn_parts e
  obtain ⟨ks, h3, h4⟩ := sn_frames (rest := []) hu (by rw [List.append_nil]; exact hb) hps h
  have hk : ks = [] := by
    cases ks with
    | nil => rfl
    | cons k ks =>
      unfold framesB at h4
      rw [List.flatMap_cons] at h4
      have h5 := congrArg List.length h4
      rw [List.length_append, frameB_len] at h5
      have h6 : ([] : List UInt8).length = 0 := rfl
      omega
  rw [hk, List.append_nil] at h3
  have f5 : s'.ds = ps.flatten := by rw [← h3, pieces_flat]
  cases s; cases s'
  simp only [SnT.mk.injEq]
  simp only at hx ht hv hl hd f1 f2 f3 f4 f5
  exact ⟨by rw [f1, hx], by rw [f2, ht], by rw [f3, hv], by rw [f4, hl], by rw [f5, hd]⟩
/-- .. and its last number -/
theorem sn_last {b p : List UInt8} {n : Nat} (hu : unframe b = (p, n, 0)) {ns : List Int} (hp : p = numsB ns) (hi : ∀ n ∈ ns, i64ok n) {s : SnT} (h : isSn b s) : (s.ds.length : Int) = ns.getD (ns.length - 1) 0 :=
  (sn_parts (sn_shape hu hp hi h)).2.2.2.2
theorem nums_lenS (ns : List Int) : ns.length ≤ (numsB ns).length := by
  induction ns with
  | nil => exact Nat.zero_le _
  | cons n ns ih =>
    rw [numsB_consS, List.length_append, List.length_cons]
    have := (numB_len n).1
    omega
end Go.Proofs.Ytfnmofoecehcfaa
