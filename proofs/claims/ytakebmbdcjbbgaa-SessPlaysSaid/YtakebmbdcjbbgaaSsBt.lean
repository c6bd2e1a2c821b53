/- Layer 13: the program's Bytes. -/
import Derived.Test.YtakebmbdcjbbgaaSsS
import Derived.Test.YtakebmbdcjbbgaaSsU
import Derived.Test.YtakebmbdcjbbgaaPkP
import Derived.Test.YtakebmbdcjbbgaaReg
import Derived.Maps.AppendAt
namespace Go.Proofs.Ytakebmbdcjbbgaa
open Go Go.RowKit Go.Maps Go.Lib Mem Ss Pk

theorem valT : SliceTK Try.prog 87 90 (.agg #[.int .i64 0, .int .i64 0, .float .f64 0, .slice none 0 0, .bool false]) 5 56 := sliceTK_mk Try.underlying87 rfl (by decide) (by kernel_rfl)
theorem valN_len (n : Int) : (valN n).length = 5 := rfl
theorem valN_one (n : Int) : ∀ y ∈ valN n, y.oneCell' = true := by
  intro y hy
  simp only [valN, List.mem_cons, List.not_mem_nil, or_false] at hy
  rcases hy with rfl | rfl | rfl | rfl | rfl <;> rfl
theorem blkK9 {α : Type} {k : Nat} {f : α → List Value} {base : Nat} {e t : TypeId} {w w' : World} {v : Value} {xs : List α} {g : Nat} {cs : Array Value} (h : Blk w g t cs) (ho : OwnK k f base e w v xs) (hne : t ≠ e) (hg : w.grownBy w' v.ownBlock) : Blk w' g t cs :=
  h.frm ((Frm.refl (fun g => v.ownBlock = some g) w).grown hg (fun _ hk _ => hk)) (fun hk => by obtain ⟨cur, hc⟩ := OwnK.blkOf ho hk; exact h.ne_ (g' := g) (cs' := cur) hc hne rfl)
theorem wpList_appendK1a {P : Program} {α : Type} {k : Nat} {f : α → List Value} {ops : Array Oper} {rest : List Oper} {o : Oper} {a : Act} {Q : Exit → Act → World → Prop} {w0 : World} (hgd : o.guard = none) (s x : Operand) (t : TypeId)
    (ho : o.op = .call { callee := .builtin .append, args := #[s, x], argTypes := #[t, t] })
    {base : Nat} {e : TypeId} {z : Value} {bytes : Nat} (ht : SliceTK P t e z k bytes)
    {v : Value} {xs : List α} (u : α) (hk : (f u).length = k) (h1 : ∀ y ∈ f u, y.oneCell' = true) (hs : a.eval s = v) (hown : OwnK k f base e w0 v xs) {cs : Array Value} (hcs : cs = (f u).toArray)
    {g c : Nat} (hx : a.eval x = .slice (some ⟨g, 0, none⟩) 1 c) (hg : g = w0.heap.size)
    (h63 : xs.length + 1 ≤ maxLen) (hbytes : (xs.length + 1) * bytes ≤ 140737488355328) (hbase : base ≤ w0.heap.size)
    (h : ∀ v' w', OwnK k f base e w' v' (xs ++ [u]) → (w0.alloc (.cells cs e)).grownBy w' v.ownBlock → (v'.ownBlock = v.ownBlock ∨ v'.ownBlock = some (w0.heap.size + 1)) → wpList P ops Q rest (a.put o.dst v') w') : wpList P ops Q (o :: rest) a (w0.alloc (.cells cs e)) := by
  obtain ⟨ht, hz1, hk0, i, hi, hz, hsz, hby⟩ := ht
  subst hg; subst hcs
  have hcell : ∀ j y, (f u)[j]? = some y → (w0.alloc (.cells (f u).toArray e)).cell? ((⟨w0.heap.size, 0, none⟩ : Addr).add j) = some y := by
    intro j y hy
    have e2 : (⟨w0.heap.size, 0, none⟩ : Addr).add j = ⟨w0.heap.size, j, none⟩ := by
      unfold Addr.add; split
      · rename_i h0; subst h0; rfl
      · simp
    rw [e2]
    have := heap_alloc_new w0 (.cells (f u).toArray e)
    unfold World.cell?
    simp only [this]
    simpa using hy
  refine wpList_append_own_at (P := P) _ hgd s x t ho base e i z k bytes ht hi hz hsz hby hz1 hk0 v xs.length (xs.flatMap f) hs (hown.alloc _) ⟨w0.heap.size, 0, none⟩ 1 c (f u) hx (by rw [hk]; omega) hcell h1 h63 hbytes ?_ ?_
  · rw [World.size_alloc]; omega
  · intro v' w' ho' hgr _ hat
    refine h v' w' ?_ hgr (by rw [World.size_alloc] at hat; exact hat)
    unfold OwnK; rw [List.length_append, List.flatMap_append]; simpa using ho'
/-- the numbers of a table -/
def itNs (i : It) : List Int := [i.seq, i.code, i.num]
def snNs (s : Sn) : List Int := [s.id, s.high, (s.kept.length : Int)] ++ s.kept.flatMap itNs
def tbNs (t : Tb) : List Int := (t.length : Int) :: t.flatMap snNs
/-- what num leaves -/
def NmP (B vb : Nat) (vsv : Value) (all : List Int) (w : World) (e : Ending) (w' : World) : Prop :=
  e = .returned (.tuple #[]) ∧ ∃ v', Blk w' vb 87 #[v'] ∧ OwnK 5 valN B 90 w' v' all ∧ Frm (fun k => k = vb ∨ vsv.ownBlock = some k) w w' ∧ (v'.ownBlock = vsv.ownBlock ∨ ∃ g, v'.ownBlock = some g ∧ w.heap.size ≤ g)
def NmRel (pre ns : List Int) (B vb : Nat) (vsv : Value) (w : World) (iv : Value) (W : World) : Prop :=
  ∃ (i : Nat) (v' : Value), i ≤ ns.length ∧ iv = .int .i64 i ∧ Blk W vb 87 #[v'] ∧ OwnK 5 valN B 90 W v' (pre ++ ns.take i) ∧ Frm (fun k => k = vb ∨ vsv.ownBlock = some k) w W ∧ (v'.ownBlock = vsv.ownBlock ∨ ∃ g, v'.ownBlock = some g ∧ w.heap.size ≤ g)
set_option maxRecDepth 100000 in
set_option maxHeartbeats 2000000 in
theorem num_any {B vb : Nat} {w : World} {vsv : Value} {pre : List Int} (hb : Blk w vb 87 #[vsv]) (ho : OwnK 5 valN B 90 w vsv pre) (hB : B ≤ w.heap.size) (A : Option Addr) (c : Nat) (ns : List Int) {F : Nat → Prop} (hs : SlB fI 2 F w A ns) (hl : pre.length + ns.length ≤ 1000) :
    Calls Try.prog 38 #[.slice A ns.length c, .pointer (some ⟨vb, 0, none⟩)] w (NmP B vb vsv (pre ++ ns) w) := by
  have hst := fun (a : Addr) (r : Nat) (w : World) => run_store Try.prog w a (.float .f64 r) .plain rfl
  have HB := Lib.hid hb
  have HO := Lib.hid ho
  have HS := Lib.hid hs
  have hln : ns.length ≤ 1000 := by omega
  clear hb ho hs
  go_enter Try.func38, Try.ntmps38
  go_wp2_with fail
  go_loopw [7] (fun iv wr => NmRel pre ns B vb vsv w iv wr) (fun iv _ => ns.length - (RowKit.intOf iv).toNat)
  case atStart => exact ⟨0, vsv, Nat.zero_le _, rfl, HB.out, by rw [List.take_zero, List.append_nil]; exact HO.out, Frm.refl _ _, .inl rfl⟩
  case round =>
    obtain ⟨i, v', hi, rfl, hbk, hown, hfr, hfo⟩ := hrel
    obtain ⟨wo, rfl⟩ : ∃ wo, wo = wr := ⟨_, rfl⟩
    have HF := Lib.hid hfr; clear hfr
    have HFO := Lib.hid hfo; clear hfo
    have HBK := Lib.hid hbk; clear hbk
    have HZ : Hid (w.heap.size ≤ wo.heap.size) := Lib.hid HF.out.size
    obtain ⟨A', c', rfl⟩ := hown.form
    have hpl : (pre ++ ns.take i).length = pre.length + i := by rw [List.length_append, List.length_take]; omega
    have HPL := Lib.hid hpl
    have HOW := Lib.hid hown
    clear hown hpl
    by_cases hlt : i < ns.length
    · have hsl : SlB fI 2 (fun g => g ≠ vb ∧ vsv.ownBlock ≠ some g) w A ns := by
        refine ⟨HS.out.1, fun h0 => ?_⟩
        obtain ⟨b, o, cur, fr, hA, hF, hh, hc⟩ := HS.out.2 h0
        refine ⟨b, o, cur, fr, hA, ⟨fun e => ?_, fun e => ?_⟩, hh, hc⟩
        · have h1 : w.heap[vb]? = some (.cells #[vsv] 87 (0, 0)) := HB.out
          rw [← e, hh] at h1; cases h1
        · obtain ⟨cur', hc'⟩ := OwnK.blkOf HO.out e
          rw [hh] at hc'; cases hc'
      have hsl2 := (hsl.frm HF.out (fun g h e => e.elim h.1 h.2)).sl
      obtain ⟨b, o, rfl, hbl, hc⟩ := hsl2.at hlt
      obtain ⟨n, hn⟩ : ∃ z, z = ns[i] := ⟨_, rfl⟩
      have c0 : wo.cell? ⟨b, o + i, none⟩ = some (.int .i64 n) := by rw [hn]; exact hc i hlt
      have v0 : wo.cell? ⟨vb, 0, none⟩ = some (.slice A' (pre ++ ns.take i).length c') := HBK.out.cell 0
      have htk : pre ++ ns.take (i + 1) = (pre ++ ns.take i) ++ [n] := by rw [List.take_succ_eq_append_getElem hlt, ← hn, List.append_assoc]
      have hk0 : (0 : Int) ≤ (i : Int) := by omega
      have hk1 : (i : Int) < (ns.length : Int) := by omega
      have HTK := Lib.hid htk
      have HLT := Lib.hid hlt
      obtain ⟨PR, hPR⟩ : ∃ z, z = pre ++ ns.take i := ⟨_, rfl⟩
      rw [← hPR] at HPL HTK HOW v0 HBK HFO
      have hprl : PR.length ≤ 1000 := by have := HPL.out; omega
      clear hsl hsl2 hc hn htk hPR
      go_wp2_with (at_builtin; refine wpList_appendK1a (v := .slice A' PR.length c') (f := valN) rfl _ _ _ rfl valT n rfl (valN_one n) rfl HOW.out rfl rfl rfl (by unfold maxLen; omega) (by omega) (Nat.le_trans hB HZ.out) ?_; intro v9 w9 hown9 hg9 hat9; obtain ⟨A9, c9, rfl⟩ := hown9.form; rw [show (PR ++ [n]).length = PR.length + 1 by simp] at hown9 hat9 ⊢; have q0 := (blkK9 (HBK.out.alloc _) (HOW.out.alloc _) (by decide) hg9).cell 0; have qf := (blkK9 (HBK.out.alloc _) (HOW.out.alloc _) (by decide) hg9).free 0)
      have HBZ : Hid (Blk (w9.setCell ⟨vb, 0, none⟩ (.slice A9 (PR.length + 1) c9)) vb 87 #[.slice A9 (PR.length + 1) c9]) := Lib.hid ((blkK9 (HBK.out.alloc _) (HOW.out.alloc _) (by decide) hg9).set_ 0 _)
      have hf9 : Frm (fun k => k = vb ∨ vsv.ownBlock = some k) w (w9.setCell ⟨vb, 0, none⟩ (.slice A9 (PR.length + 1) c9)) := by
        refine Frm.setCell (p := ⟨vb, 0, none⟩) ?_ (fun _ => .inl rfl) _
        refine Frm.then_up HF.out (((Frm.refl (fun g => (fun k => k = vb ∨ vsv.ownBlock = some k) g ∨ w.heap.size ≤ g) wo).alloc _).grown hg9 fun k hk _ => ?_)
        rcases HFO.out with h | ⟨g, h, hg⟩
        · exact .inl (.inr (h ▸ hk))
        · rw [h] at hk; cases hk; exact .inr hg
      have HF9 := Lib.hid hf9
      have HO9 : Hid (OwnK 5 valN B 90 (w9.setCell ⟨vb, 0, none⟩ (.slice A9 (PR.length + 1) c9)) (.slice A9 (PR.length + 1) c9) (PR ++ [n])) := Lib.hid (OwnK.frmA hown9 ((Frm.refl (fun k => k = vb) w9).setCell (p := ⟨vb, 0, none⟩) (fun _ => rfl) _) (fun g hg e => by
        obtain ⟨cur, hc⟩ := OwnK.blkOf hown9 hg
        exact Blk.ne_ (g := g) (cs := cur) hc (blkK9 (HBK.out.alloc _) (HOW.out.alloc _) (by decide) hg9) (by decide) e))
      have HA9 : Hid ((Value.slice A9 (PR.length + 1) c9).ownBlock = vsv.ownBlock ∨ ∃ g, (Value.slice A9 (PR.length + 1) c9).ownBlock = some g ∧ w.heap.size ≤ g) := Lib.hid (by
        rcases hat9 with h | h
        · rcases HFO.out with h2 | ⟨g, h2, hg⟩
          · exact .inl (h.trans h2)
          · exact .inr ⟨g, h.trans h2, hg⟩
        · exact .inr ⟨_, h, by have := HZ.out; omega⟩)
      clear hown9 hg9 hat9 hf9 q0 qf
      go_wp2_with fail
      go_roundw
      case rel => exact ⟨i + 1, _, HLT.out, by go_num, HBZ.out, by rw [HTK.out]; exact HO9.out, HF9.out, HA9.out⟩
      case measure => simp [RowKit.intOf]; have := HLT.out; omega
    · have hie : i = ns.length := by omega
      subst hie
      have ho := HOW.out
      rw [List.take_length] at ho
      have hfo := HFO.out
      have hbk := HBK.out
      rw [List.take_length] at hfo hbk
      have HO2 := Lib.hid ho
      have HFO2 := Lib.hid hfo
      have HBK2 := Lib.hid hbk
      clear ho hfo hbk
      go_wp2_with fail
      go_end0
      exact ⟨rfl, _, HBK2.out, HO2.out, HF.out, HFO2.out⟩
end Go.Proofs.Ytakebmbdcjbbgaa
