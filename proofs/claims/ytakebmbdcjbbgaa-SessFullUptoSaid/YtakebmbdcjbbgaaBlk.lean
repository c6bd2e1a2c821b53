/- What the bound on the bulk gives: a slice's length. -/
import Derived.Test.YtakebmbdcjbbgaaRows
namespace Go.Proofs.Ytakebmbdcjbbgaa
open Go

theorem bulk_one {H : Type} (d : DataW H) : 1 ≤ Rows.uptoBulk d := by
  cases d with
  | lit l => cases l <;> simp [Rows.uptoBulk]
  | _ => simp [Rows.uptoBulk]
theorem bulk_many {H : Type} : ∀ l : List (DataW H), l.length ≤ Rows.uptoBulkAll l
  | [] => Nat.zero_le _
  | d :: r => by
    have h1 := bulk_one d
    have h2 := bulk_many r
    simp only [Rows.uptoBulkAll, List.length_cons]; omega
theorem bulk_get {H : Type} : ∀ {l : List (DataW H)} {j : Nat} {d : DataW H}, l[j]? = some d → Rows.uptoBulk d ≤ Rows.uptoBulkAll l
  | [], j, d, h => by simp at h
  | x :: r, 0, d, h => by
    simp only [List.getElem?_cons_zero, Option.some.injEq] at h
    subst h
    simp only [Rows.uptoBulkAll]; omega
  | x :: r, j + 1, d, h => by
    have := bulk_get (l := r) (by simpa using h)
    simp only [Rows.uptoBulkAll]; omega
theorem bulk_slice {H : Type} {l : List (DataW H)} (hk : Rows.uptoSmall H l = true) {j : Nat} {d : DataW H} {n : Nat} (hj : l[j]? = some d) (hd : n = 0 ∨ ∃ es sp, d = .slice es sp ∧ es.length = n) : n ≤ 1048576 := by
  have h0 : Rows.uptoBulkAll l ≤ 1048576 := of_decide_eq_true hk
  rcases hd with rfl | ⟨es, sp, rfl, rfl⟩
  · exact Nat.zero_le _
  · have h1 := bulk_get hj
    have h2 := bulk_many es
    simp only [Rows.uptoBulk] at h1
    omega
end Go.Proofs.Ytakebmbdcjbbgaa
