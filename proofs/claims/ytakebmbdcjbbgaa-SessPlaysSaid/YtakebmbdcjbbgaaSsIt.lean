/- Layer 13: the laws' item. -/
import Derived.Test.YtakebmbdcjbbgaaSsLk
import Derived.Test.YtakebmbdcjbbgaaSsE
import Derived.Test.YtakebmbdcjbbgaaReg
namespace Go.Proofs.Ytakebmbdcjbbgaa
open Go Go.RowKit Go.Maps Go.Lib Mem Ss

def ItmP (a b c d : Int) (w : World) (e : Ending) (w' : World) : Prop := e = .returned (.agg #[.int .i64 a, .int .i64 b, .int .i64 c, .int .i64 d]) ∧ Below w.heap.size w w'
set_option maxRecDepth 100000 in
set_option maxHeartbeats 2000000 in
theorem item_any (a b c d : Int) (w : World) :
    Calls Try.prog 18 #[.agg #[.int .i64 a, .int .i64 b, .int .i64 c, .int .i64 d]] w (ItmP a b c d w) := by
  go_enter Try.func18, Try.ntmps18
  go_upto_region 1 with fail
  go_wp2_with fail
  obtain ⟨w1, hw1⟩ : ∃ z, z = w.alloc (.cells #[.int .i64 a, .int .i64 b, .int .i64 c, .int .i64 d] 27) := ⟨_, rfl⟩
  have hb1 : Below w.heap.size w w1 := by rw [hw1]; exact (Below.refl _ _).alloc (Nat.le_refl _) _
  have hz1 : w1.heap.size = w.heap.size + 1 := by rw [hw1, World.size_alloc]
  rw [← hw1]
  have hx := Blk.new_ w1 46 #[.int .i64 a, .int .i64 b, .int .i64 c, .int .i64 d]
  rw [hz1] at hx
  have r0 := hx.cell 0
  have r1 := hx.cell 1
  have r2 := hx.cell 2
  have r3 := hx.cell 3
  simp only [List.getElem?_toArray, List.getElem?_cons_zero, List.getElem?_cons_succ] at r0 r1 r2 r3
  refine bodyPost_ret (v := .agg #[.int .i64 a, .int .i64 b, .int .i64 c, .int .i64 d]) (by simp [results, Try.results18, go_sem, r0, r1, r2, r3]) rfl ?_
  exact ⟨rfl, hb1.alloc (by omega) _⟩
end Go.Proofs.Ytakebmbdcjbbgaa
