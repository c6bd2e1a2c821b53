/- Layer 13: Load. -/
import Derived.Test.YtakebmbdcjbbgaaSsLd
import Derived.Test.YtakebmbdcjbbgaaPkR
namespace Go.Proofs.Ytakebmbdcjbbgaa
open Go Go.RowKit Go.Maps Go.Lib Mem Ss Pk

/-- the table of bytes, if they are one's -/
def resL (bs : List UInt8) : Option Tb := match loadL bs with | some (t, []) => some t | _ => none
theorem resL_some {bs : List UInt8} {t : Tb} : resL bs = some t ↔ loadL bs = some (t, []) := by
  unfold resL
  cases h : loadL bs with
  | none => simp
  | some q =>
    obtain ⟨t', r⟩ := q
    cases r with
    | nil => simp
    | cons b r => simp
theorem resL_no {bs : List UInt8} {t : Tb} {rest : List UInt8} (h : loadL bs = some (t, rest)) (hr : rest ≠ []) : resL bs = none := by
  unfold resL; rw [h]
  cases rest with
  | nil => exact absurd rfl hr
  | cons b r => rfl
theorem resL_none {bs : List UInt8} (h : loadL bs = none) : resL bs = none := by unfold resL; rw [h]
/-- what pack.Read leaves of the table's making -/
def LrP (res : Option Tb) (B tb p : Nat) (w : World) (e : Ending) (w' : World) : Prop :=
  ∃ code : Int, e = .returned (.int .i64 code) ∧ (res = none → code = 30) ∧ Below B w w' ∧ Blk w' tb 28 #[.pointer (some ⟨p, 0, none⟩)] ∧ ∀ t, res = some t → code = 0 ∧ TX (fun g => g < B) w' p t ∧ TopT t
theorem read_table {F : Nat → Prop} {w2 : World} {A : Option Addr} {c B tb p : Nat} {bs : List UInt8} (hs : SlF F w2 A bs) (hF : ∀ g, F g → g < B) (hc : bs.length ≤ c) (hm : c ≤ maxLen) (hb : Blk w2 tb 28 #[.pointer (some ⟨p, 0, none⟩)]) (ht : TX (fun g => g < B ∨ g = tb) w2 p []) (hB : B ≤ w2.heap.size) :
    Calls Try.prog 42 #[.slice A bs.length c, .func (.func 43) #[] #[.pointer (some ⟨tb, 0, none⟩)]] w2 (LrP (resL bs) B tb p w2) := by
  have hlt := hb.lt
  have hsz : (rdW w2 A bs.length c).heap.size = w2.heap.size + 2 := rdW_size ..
  have htx : TX (fun g => (g < B ∨ g = tb) ∨ g = w2.heap.size ∨ g = w2.heap.size + 1) (rdW w2 A bs.length c) p [] := by
    have h1 := (ht.more (.cells #[.int .i64 0] 23)).more (.cells #[.slice A bs.length c] 115)
    rw [World.size_alloc] at h1
    exact h1.less fun g hg => by
      rcases hg with hg | hg | hg
      · exact .inl (.inl hg)
      · exact .inl (.inr hg)
      · exact .inr hg
  obtain ⟨G, hG⟩ : ∃ z : Nat → Prop, z = fun g => (g < B ∨ g = tb) ∨ g = w2.heap.size ∨ g = w2.heap.size + 1 := ⟨_, rfl⟩
  rw [← hG] at htx
  have hrd : Rd F (rdW w2 A bs.length c) (w2.heap.size + 1) bs := rdW_rd hs (fun h => by have := hF _ h; omega) hc hm
  have hbb := hb.below (rdW_below w2 A bs.length c) hlt
  have h1 := Load1_any (G := G) hrd hbb htx (fun g hg => by rw [hG]; exact .inl (.inl (hF g hg))) (by rw [hG]; exact .inr (.inr rfl)) (by rw [hG]; exact .inl (.inr rfl)) (by omega)
  have hcode := rdW_code w2 A bs.length c
  have hfin : ∀ {W w' : World}, Frm (fun g => g = w2.heap.size + 1 ∨ ¬ G g) (rdW w2 A bs.length c) W → Frm (fun g => g = w2.heap.size) W w' → Below B w2 w' ∧ Blk w' tb 28 #[.pointer (some ⟨p, 0, none⟩)] := fun {W w'} ha hb2 => by
    constructor
    · refine (rdW_below w2 A bs.length c).mono hB |>.trans ((ha.to_below (fun k _ hk e => ?_) (by rw [hsz]; omega)).trans (hb2.to_below (fun k _ hk e => by omega) (by have := ha.size; omega)))
      rcases e with e | e
      · omega
      · exact e (by rw [hG]; exact .inl (.inl hk))
    · refine (hbb.frm ha fun e => ?_).frm hb2 (by omega)
      rcases e with e | e
      · omega
      · exact e (by rw [hG]; exact .inl (.inr rfl))
  have hcd : ∀ {W : World}, Frm (fun g => g = w2.heap.size + 1 ∨ ¬ G g) (rdW w2 A bs.length c) W → Blk W w2.heap.size 23 #[.int .i64 0] := fun {W} ha => hcode.frm ha fun e => by
    rcases e with e | e
    · omega
    · exact e (by rw [hG]; exact .inr (.inl rfl))
  cases hl : loadL bs with
  | none =>
    refine (Read_no (F := F) hc hm 43 #[.pointer (some ⟨tb, 0, none⟩)] (fun W => Frm (fun g => g = w2.heap.size + 1 ∨ ¬ G g) (rdW w2 A bs.length c) W)
      (enters_of Try.func43 (by kernel_rfl) rfl) 30 (h1.mono fun e W hh => ?_)).mono fun e w' hh => ?_
    · obtain ⟨-, h3, h4⟩ := hh
      exact ⟨h3 hl, hcd h4, h4⟩
    · obtain ⟨he, W, h4, hf2, -⟩ := hh
      obtain ⟨h5, h6⟩ := hfin h4 hf2
      exact ⟨30, he, fun _ => rfl, h5, h6, fun t ht => by rw [resL_none hl] at ht; cases ht⟩
  | some q =>
    obtain ⟨t, rest⟩ := q
    refine (Read_yes (rest := rest) hs hc hm 43 #[.pointer (some ⟨tb, 0, none⟩)] (fun W => Frm (fun g => g = w2.heap.size + 1 ∨ ¬ G g) (rdW w2 A bs.length c) W ∧ TX G W p t ∧ TopT t)
      (enters_of Try.func43 (by kernel_rfl) rfl) (h1.mono fun e W hh => ?_) (if rest = [] then 0 else 30) rfl).mono fun e w' hh => ?_
    · obtain ⟨h2, -, h4⟩ := hh
      obtain ⟨he, hr, htx', htop⟩ := h2 t rest hl
      exact ⟨he, hr, hcd h4, h4, htx', htop⟩
    · obtain ⟨he, W, ⟨h4, htx', htop⟩, hf2, -⟩ := hh
      obtain ⟨h5, h6⟩ := hfin h4 hf2
      refine ⟨_, he, fun hn => ?_, h5, h6, fun t' ht' => ?_⟩
      · by_cases h0 : rest = []
        · subst h0; rw [resL_some.2 hl] at hn; cases hn
        · rw [if_neg h0]
      · rw [resL_some, hl] at ht'
        injection ht' with ht'; injection ht' with e1 e2
        subst e1; subst e2
        refine ⟨by rw [if_pos rfl], ?_, htop⟩
        exact (htx'.frmG hf2 (fun g e => by rw [hG, e]; exact .inr (.inl rfl))).less fun g hg => by rw [hG]; exact .inl (.inl hg)
/-- what Load leaves -/
def LoP (res : Option Tb) (w : World) (e : Ending) (w' : World) : Prop :=
  Below w.heap.size w w' ∧ (res = none → e = .returned (.tuple #[.pointer none, .int .i64 30])) ∧
  ∀ t, res = some t → ∃ p, e = .returned (.tuple #[.pointer (some ⟨p, 0, none⟩), .int .i64 0]) ∧ TX (fun g => g < w.heap.size) w' p t ∧ TopT t
set_option maxRecDepth 100000 in
theorem sLoad_any {F : Nat → Prop} {w : World} {A : Option Addr} {c : Nat} {bs : List UInt8} (hs : SlF F w A bs) (hc : bs.length ≤ c) (hm : c ≤ maxLen) :
    Calls Try.prog 24 #[.slice A bs.length c] w (LoP (resL bs) w) := by
  have hmf : ∀ (fn : Fn) (first cap : Array Value) (w : World), (Instr.makeFunc fn first cap).run Try.prog w = .ok (.func fn first cap) w := fun _ _ _ _ => rfl
  have hs' : SlF (fun g => F g ∧ g < w.heap.size) w A bs := hs.mono fun g h1 h2 => ⟨h2, h1⟩
  obtain ⟨res, hres⟩ : ∃ z, z = resL bs := ⟨_, rfl⟩
  rw [← hres]
  have HRES := Lib.hid hres
  have HS := Lib.hid hs'
  have HC := Lib.hid hc
  have HM := Lib.hid hm
  clear hres hs hs' hc hm
  go_enter Try.func24, Try.ntmps24
  go_wp2_with fail
  (with_reducible refine (X_New _).mono ?_); rintro e w1 ⟨p, rfl, h1, hb1⟩
  have HB1 := Lib.hid hb1
  have HT1 := Lib.hid (h1.more (.cells #[.pointer (some ⟨p, 0, none⟩)] 28))
  clear h1 hb1
  go_upto_region 2 with fail
  obtain ⟨w2, hw2⟩ : ∃ z, z = w1.alloc (.cells #[.pointer (some ⟨p, 0, none⟩)] 28) := ⟨_, rfl⟩
  rw [← hw2] at HT1 ⊢
  have HX2 : Hid (Blk w2 w1.heap.size 28 #[.pointer (some ⟨p, 0, none⟩)]) := Lib.hid (by rw [hw2]; exact Blk.new_ w1 _ _)
  have HB2 : Hid (Below w.heap.size w w2) := Lib.hid (by rw [hw2]; exact HB1.out.alloc HB1.out.size _)
  clear hw2
  have hrd := read_table (HS.out.frm (Frm.of_below HB2.out) (fun g hg h => by omega)) (fun g hg => hg.2) HC.out HM.out HX2.out (HT1.out) HB2.out.size
  rw [← HRES.out] at hrd
  have HRD := Lib.hid hrd
  clear hrd
  go_wp2_with fail
  (with_reducible refine HRD.out.mono ?_); rintro e w3 ⟨code, rfl, hn, hb3, hx3, hy⟩
  have t0 : w3.cell? ⟨w1.heap.size, 0, none⟩ = some (.pointer (some ⟨p, 0, none⟩)) := hx3.cell 0
  have HB3 : Hid (Below w.heap.size w w3) := Lib.hid (HB2.out.trans hb3)
  clear hx3 hb3 HRD
  cases res with
  | none =>
    obtain rfl := hn rfl
    clear hn hy
    go_wp2_with fail
    go_ret2
    exact ⟨HB3.out, fun _ => rfl, fun t h => by cases h⟩
  | some t =>
    obtain ⟨rfl, ht, htop⟩ := hy t rfl
    have HT := Lib.hid ht
    have HTP := Lib.hid htop
    clear hn hy ht htop
    go_wp2_with fail
    go_ret2
    refine ⟨HB3.out, (fun h => by cases h), fun t' h => ?_⟩
    injection h with h; subst h
    exact ⟨p, rfl, HT.out, HTP.out⟩
end Go.Proofs.Ytakebmbdcjbbgaa
