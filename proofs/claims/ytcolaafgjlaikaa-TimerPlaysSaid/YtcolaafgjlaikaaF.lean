/- find. -/
import Derived.Test.YtcolaafgjlaikaaE
namespace Go.Proofs.Ytcolaafgjlaikaa
open Go.RowKit

set_option maxHeartbeats 400000 in
theorem pt_find_nil (i : Int) (w : World) : Calls Try.prog 23 #[.pointer none, .int .i64 i] w fun e w' => e = .returned (.tuple #[.pointer none, .int .i64 1]) ∧ w = w' := by
  go_enter Try.func23, Try.ntmps23
  go_wp2_with fail
  go_ret2
  exact ⟨rfl, rfl⟩

set_option maxHeartbeats 800000 in
theorem pt_find_out (p N m : Nat) (i : Int) (w : World) (hc : w.cell? ⟨p, 0, none⟩ = some (.slice (some ⟨N, 0, none⟩) m m)) (hi : i < 0 ∨ (m : Int) ≤ i) :
    Calls Try.prog 23 #[.pointer (some ⟨p, 0, none⟩), .int .i64 i] w fun e w' => e = .returned (.tuple #[.pointer none, .int .i64 6]) ∧ w = w' := by
  by_cases h0 : i < 0
  · clear hi
    go_enter Try.func23, Try.ntmps23
    go_wp2_with fail
    go_ret2
    exact ⟨rfl, rfl⟩
  · have h1 : (m : Int) ≤ i := by omega
    clear hi
    go_enter Try.func23, Try.ntmps23
    go_wp2_with fail
    go_ret2
    exact ⟨rfl, rfl⟩

set_option maxHeartbeats 800000 in
theorem pt_find (p N m : Nat) (i : Nat) (w : World) (hc : w.cell? ⟨p, 0, none⟩ = some (.slice (some ⟨N, 0, none⟩) m m)) (hi : i < m) :
    Calls Try.prog 23 #[.pointer (some ⟨p, 0, none⟩), .int .i64 i] w fun e w' => e = .returned (.tuple #[.pointer (some ⟨N, i * 2, none⟩), .int .i64 0]) ∧ w = w' := by
  have h0 : ¬ (i : Int) < 0 := by omega
  have h1 : ¬ (m : Int) ≤ i := by omega
  go_enter Try.func23, Try.ntmps23
  go_wp2_with fail
  go_ret2
  exact ⟨rfl, rfl⟩

end Go.Proofs.Ytcolaafgjlaikaa
