/- What one mark is. -/
import Derived.Test.YtbgabdofnmijnaaB
namespace Go.Proofs.Ytbgabdofnmijnaa
open Go.RowKit
abbrev mkV (x : Mk) : Value := .agg #[.int .i64 x.kind, .int .i64 x.tx, .string x.key]
def accB (m : Mk) : Bool := m.kind == 1 || m.kind == 2
def endB (m : Mk) : Bool := m.kind == 3 || m.kind == 4
theorem access_any (x : Mk) (w : World) : Calls Try.prog 57 #[mkV x] w fun e w' => e = .returned (.bool (accB x)) ∧ Below w.heap.size w w' := by
  obtain ⟨xk, xt, xy⟩ := x
  unfold accB mkV
  simp only
  by_cases h1 : xk = 1
  · subst h1
    go_enter Try.func57, Try.ntmps57
    go_wp2_with fail
    go_ret
    exact ⟨rfl, bel_new _ _⟩
  · have hb1 : (xk == 1) = false := by simpa using h1
    simp only [hb1, Bool.false_or]
    go_enter Try.func57, Try.ntmps57
    go_wp2_with fail
    go_ret
    exact ⟨rfl, bel_new _ _⟩
theorem ends_any (x : Mk) (w : World) : Calls Try.prog 45 #[mkV x] w fun e w' => e = .returned (.bool (endB x)) ∧ Below w.heap.size w w' := by
  obtain ⟨xk, xt, xy⟩ := x
  unfold endB mkV
  simp only
  by_cases h1 : xk = 3
  · subst h1
    go_enter Try.func45, Try.ntmps45
    go_wp2_with fail
    go_ret
    exact ⟨rfl, bel_new _ _⟩
  · have hb1 : (xk == 3) = false := by simpa using h1
    simp only [hb1, Bool.false_or]
    go_enter Try.func45, Try.ntmps45
    go_wp2_with fail
    go_ret
    exact ⟨rfl, bel_new _ _⟩
end Go.Proofs.Ytbgabdofnmijnaa
