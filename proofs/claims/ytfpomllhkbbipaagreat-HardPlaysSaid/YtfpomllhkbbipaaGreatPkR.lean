/- Layer 3: Read. -/
import Derived.Test.YtfpomllhkbbipaaGreatPkN
import Derived.Deep.DeepCutAuto
namespace Go.Proofs.YtfpomllhkbbipaaGreat
open Go.RowKit Go.Maps Mem Pk

theorem catch_idle (p : Addr) (w : World) :
    CallsD Tryz.prog 93 #[.pointer (some p)] .returning w fun e u' w' => e = .returned (.tuple #[]) ∧ u' = .returning ∧ w' = w := by
  refine callsD_of_wpS Tryz.func93 rfl fun c₀ cs hu => ?_
  apply wpS_seq
  apply wpS_region
  simp [wpOpsS, go_sem, recoverD, hu, Tryz.ntmps93, Exit.thenS]
  refine wpS_of_wp ?_
  rw [show (#[Value.pointer (some p)] ++ (Array.replicate 11 undef).setIfInBounds 3 Value.nilIface) = #[.pointer (some p), undef, undef, undef, Value.nilIface, undef, undef, undef, undef, undef, undef, undef] from rfl]
  go_wp2_with fail
  cases c₀
  simp_all [bodyPostS, results, Tryz.results93]
set_option maxRecDepth 100000 in
theorem catch_panicking (b : Nat) (k x : Int) (older : List PanicEntry) (w : World) (hc : w.cell? ⟨b, 0, none⟩ = some (.int .i64 x)) (hz : w.frozen? ⟨b, 0, none⟩ = false) (hl : b < w.heap.size) :
    CallsD Tryz.prog 93 #[.pointer (some ⟨b, 0, none⟩)] (.panicking ({ v := wrongV k, recovered := false } :: older)) w fun e u' w' =>
      e = .returned (.tuple #[]) ∧ u' = .panicking ({ v := wrongV k, recovered := true } :: older) ∧ w' = (w.setCell ⟨b, 0, none⟩ (.int .i64 k)).alloc (.cells #[.int .i64 k] 148) := by
  have hta : ∀ (v : Value) (w : World), (Instr.typeAssert (.iface 148 v) 20 148 true).run Tryz.prog w = .ok (.tuple #[v, .bool true]) w := fun _ _ => by kernel_rfl
  refine callsD_of_wpS Tryz.func93 rfl fun c₀ cs hu => ?_
  apply wpS_seq
  apply wpS_region
  simp [wpOpsS, go_sem, recoverD, hu, Tryz.ntmps93, Exit.thenS]
  refine wpS_of_wp ?_
  rw [show (#[Value.pointer (some ⟨b, 0, none⟩)] ++ (Array.replicate 11 undef).setIfInBounds 3 (wrongV k)) = #[.pointer (some ⟨b, 0, none⟩), undef, undef, undef, wrongV k, undef, undef, undef, undef, undef, undef, undef] from rfl]
  unfold wrongV
  have HU := Lib.hid hu; clear hu
  go_wp2_with fail
  simp [bodyPostS, results, Tryz.results93]
/-- the worlds in which the function that Read is handed is called: the code's cell, the reader -/
def rdW (w : World) (A : Option Addr) (n c : Nat) : World := (w.alloc (.cells #[.int .i64 0] 27)).alloc (.cells #[.slice A n c] 146)
theorem rdW_below (w : World) (A : Option Addr) (n c : Nat) : Below w.heap.size w (rdW w A n c) := ((Below.refl _ _).alloc (Nat.le_refl _) _).alloc (by simp) _
theorem rdW_size (w : World) (A : Option Addr) (n c : Nat) : (rdW w A n c).heap.size = w.heap.size + 2 := by unfold rdW; simp
theorem rdW_code (w : World) (A : Option Addr) (n c : Nat) : Blk (rdW w A n c) w.heap.size 27 #[.int .i64 0] := (Blk.new_ w _ _).alloc _
theorem rdW_rd {F : Nat → Prop} {w : World} {A : Option Addr} {c : Nat} {bs : List UInt8} (h : SlF F w A bs) (hn : ¬ F (w.heap.size + 1)) (hc : bs.length ≤ c) (hm : c ≤ maxLen) : Rd F (rdW w A bs.length c) (w.heap.size + 1) bs := by
  refine ⟨A, c, hn, ?_, h.below (rdW_below ..), hc, hm⟩
  have := Blk.new_ (w.alloc (.cells #[.int .i64 0] 27)) 146 #[.slice A bs.length c]
  rw [World.size_alloc] at this; exact this
/-- what Read leaves: the code; all else as the function left it -/
def ReadPost3 (R : World → Prop) (code : Int) (w : World) (e : Ending) (w' : World) : Prop :=
  e = .returned (.int .i64 code) ∧ ∃ W, R W ∧ Frm (fun g => g = w.heap.size) W w' ∧ w.heap.size < W.heap.size
theorem Read_yes {F : Nat → Prop} {w : World} {A : Option Addr} {c : Nat} {bs rest : List UInt8} (hs : SlF F w A bs) (hc : bs.length ≤ c) (hm : c ≤ maxLen) (g : Nat) (cb : Array Value) (R : World → Prop)
    (eg : ∀ args w, (callFunc g args).run Tryz.prog w = .ok (.enter g args) w)
    (hf : Calls Tryz.prog g (#[.pointer (some ⟨w.heap.size + 1, 0, none⟩)] ++ cb) (rdW w A bs.length c) fun e W => e = .returned (.tuple #[]) ∧ Rd F W (w.heap.size + 1) rest ∧ Blk W w.heap.size 27 #[.int .i64 0] ∧ R W)
    (code : Int) (hcd : code = if rest = [] then 0 else 30) :
    Calls Tryz.prog 78 #[.slice A bs.length c, .func (.func g) #[] cb] w (ReadPost3 R code w) := by
  have hmf : ∀ (fn : Fn) (first cap : Array Value) (w : World), (Instr.makeFunc fn first cap).run Tryz.prog w = .ok (.func fn first cap) w := fun _ _ _ _ => rfl
  have HF := Lib.hid hf; clear hf
  have HCD := Lib.hid hcd; clear hcd
  have hW : (w.alloc (.cells #[.int .i64 0] 27)).alloc (.cells #[.slice A bs.length c] 146) = rdW w A bs.length c := rfl
  have HW := Lib.hid hW; clear hW
  go_enter_defers Tryz.func78, Tryz.ntmps78
  go_upto_region 3 with fail
  rw [HW.out]
  go_wp2_with fail
  (with_reducible refine HF.out.mono ?_); rintro e W ⟨rfl, ⟨A2, c2, -, hrb, hrs, hrc, hrm⟩, hcode, hR⟩
  have d0 : W.cell? ⟨w.heap.size + 1, 0, none⟩ = some (.slice A2 rest.length c2) := hrb.cell 0
  have e0 : W.cell? ⟨w.heap.size, 0, none⟩ = some (.int .i64 0) := hcode.cell 0
  have q0 := hcode.free 0
  have hrl := hrs.sl.len
  have HR := Lib.hid hR; clear hR
  have HC := Lib.hid hcode; clear hcode
  clear hrb hrs hrc hrm HF HW
  by_cases hr : rest = []
  · have h0 : code = 0 := by rw [HCD.out, if_pos hr]
    have H0 := Lib.hid h0; clear h0
    have hrz : rest.length = 0 := by rw [hr]; rfl
    clear hr HCD
    rw [hrz] at d0
    go_wp2_with fail
    refine leaves_cons (f := 93) (args := #[.pointer (some ⟨w.heap.size, 0, none⟩)]) (by simp) (by simp [go_sem]) ?_
    refine (catch_idle ⟨w.heap.size, 0, none⟩ _).mono ?_
    rintro e u' w'' ⟨rfl, rfl, rfl⟩
    simp [Leaves, settle, results, Tryz.results78, go_sem, e0, q0]
    exact ⟨by rw [H0.out], W, HR.out, (Frm.refl (fun g => g = w.heap.size) W).setCell (p := ⟨w.heap.size, 0, none⟩) (fun _ => rfl) _, HC.out.lt⟩
  · have h0 : code = 30 := by rw [HCD.out, if_neg hr]
    have H0 := Lib.hid h0; clear h0
    have hrz : 0 < rest.length := List.length_pos_iff.2 hr
    clear hr HCD
    go_wp2_with fail
    refine leaves_cons (f := 93) (args := #[.pointer (some ⟨w.heap.size, 0, none⟩)]) (by simp) (by simp [go_sem]) ?_
    refine (catch_idle ⟨w.heap.size, 0, none⟩ _).mono ?_
    rintro e u' w'' ⟨rfl, rfl, rfl⟩
    simp [Leaves, settle, results, Tryz.results78, go_sem, e0, q0]
    exact ⟨by rw [H0.out], W, HR.out, (Frm.refl (fun g => g = w.heap.size) W).setCell (p := ⟨w.heap.size, 0, none⟩) (fun _ => rfl) _, HC.out.lt⟩
/-- where the function panics -/
theorem Read_no {F : Nat → Prop} {w : World} {A : Option Addr} {c : Nat} {bs : List UInt8} (hc : bs.length ≤ c) (hm : c ≤ maxLen) (g : Nat) (cb : Array Value) (R : World → Prop)
    (eg : ∀ args w, (callFunc g args).run Tryz.prog w = .ok (.enter g args) w) (k : Int)
    (hf : Calls Tryz.prog g (#[.pointer (some ⟨w.heap.size + 1, 0, none⟩)] ++ cb) (rdW w A bs.length c) fun e W => e = .panicked [{ v := wrongV k, recovered := false }] ∧ Blk W w.heap.size 27 #[.int .i64 0] ∧ R W) :
    Calls Tryz.prog 78 #[.slice A bs.length c, .func (.func g) #[] cb] w (ReadPost3 R k w) := by
  have hmf : ∀ (fn : Fn) (first cap : Array Value) (w : World), (Instr.makeFunc fn first cap).run Tryz.prog w = .ok (.func fn first cap) w := fun _ _ _ _ => rfl
  have HF := Lib.hid hf; clear hf
  have hW : (w.alloc (.cells #[.int .i64 0] 27)).alloc (.cells #[.slice A bs.length c] 146) = rdW w A bs.length c := rfl
  have HW := Lib.hid hW; clear hW
  go_enter_defers Tryz.func78, Tryz.ntmps78
  go_upto_region 3 with fail
  rw [HW.out]
  go_wp2_with fail
  (with_reducible refine HF.out.mono ?_); rintro e W ⟨rfl, hcode, hR⟩
  have e0 : W.cell? ⟨w.heap.size, 0, none⟩ = some (.int .i64 0) := hcode.cell 0
  have q0 := hcode.free 0
  have hlt := hcode.lt
  have HR := Lib.hid hR; clear hR
  have r0 : ((W.setCell ⟨w.heap.size, 0, none⟩ (.int .i64 k)).alloc (.cells #[.int .i64 k] 148)).cell? ⟨w.heap.size, 0, none⟩ = some (.int .i64 k) := ((hcode.set_ 0 (.int .i64 k)).alloc (.cells #[.int .i64 k] 148)).cell 0
  have R0 := Lib.hid r0; clear r0
  clear hcode HF HW
  go_wp2_with fail
  refine leaves_cons (f := 93) (args := #[.pointer (some ⟨w.heap.size, 0, none⟩)]) (by simp) (by simp [go_sem]) ?_
  refine (catch_panicking w.heap.size k 0 [] _ e0 q0 hlt).mono ?_
  rintro e u' w'' ⟨rfl, rfl, rfl⟩
  have r0 := R0.out
  simp [Leaves, settle, results, Tryz.results78, go_sem, r0]
  exact ⟨rfl, W, HR.out, ((Frm.refl (fun g => g = w.heap.size) W).setCell (p := ⟨w.heap.size, 0, none⟩) (fun _ => rfl) _).alloc _, hlt⟩
end Go.Proofs.YtfpomllhkbbipaaGreat
