/- Nil tables; a few rows. -/
import Derived.Test.YtlmfpkfgjfdhgaaZ
namespace Go.Proofs.Ytlmfpkfgjfdhgaa
open Go.RowKit

set_option maxRecDepth 100000 in
theorem ask_nil (id : Int) (key : ByteArray) (w : World) : Calls Try.prog 12 #[.pointer none, .int .i64 id, .string key] w fun e w' => e = two (-1) 1 ∧ w = w' := by
  go_enter Try.func12, Try.ntmps12
  go_wp2_with fail
  first
    | exact ⟨rfl, rfl⟩
    | (go_ret2; exact ⟨rfl, rfl⟩)
set_option maxRecDepth 100000 in
theorem members_nil (w : World) : Calls Try.prog 13 #[.pointer none] w fun e w' => e = .returned (.slice none 0 0) ∧ w = w' := by
  go_enter Try.func13, Try.ntmps13
  go_wp2_with fail
  first
    | exact ⟨rfl, rfl⟩
    | (go_ret; exact ⟨rfl, rfl⟩)
end Go.Proofs.Ytlmfpkfgjfdhgaa
