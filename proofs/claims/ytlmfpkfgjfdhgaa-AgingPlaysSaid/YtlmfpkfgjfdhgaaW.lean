/- New. -/
import Derived.Test.YtlmfpkfgjfdhgaaV
namespace Go.Proofs.Ytlmfpkfgjfdhgaa
open Go.RowKit

set_option maxRecDepth 100000 in
set_option maxHeartbeats 2000000 in
theorem tb_new (wd : Bool) (w : World) : Calls Try.prog 9 #[.bool wd] w fun e w' => ∃ p, e = .returned (.pointer (some ⟨p, 0, none⟩)) ∧ All [TbA p wd [] []] w' [p] ∧ (∀ x ∈ [p], w.heap.size ≤ x) ∧ Below w.heap.size w w' := by
  have HFIN := Lib.hid fun W (hW : Below (w.heap.size + 1) (w.alloc (.cells #[.bool wd, .slice none 0 0, .slice none 0 0, nextF wd] 73)) W) => (show ∃ p, (Ending.returned (.pointer (some ⟨w.heap.size, 0, none⟩)) : Ending) = .returned (.pointer (some ⟨p, 0, none⟩)) ∧ All [TbA p wd [] []] W [p] ∧ (∀ x ∈ [p], w.heap.size ≤ x) ∧ Below w.heap.size w W from by
    refine ⟨_, rfl, all_one ⟨none, 0, none, 0, rfl, ?_, Row.nil _ _ _, Row.nil _ _ _, by simp [blkOf], by simp [blkOf], by simp [blkOf]⟩, by simp, (Below.alloc (Below.refl _ _) (Nat.le_refl _) _).trans (hW.mono (Nat.le_succ _))⟩
    rw [hW.block _ (Nat.lt_succ_self _)]
    show (w.heap.push _)[w.heap.size]? = _
    rw [Array.getElem?_push, if_pos rfl]; rfl)
  cases wd with
  | true =>
    go_enter Try.func9, Try.ntmps9
    go_wp2_with fail
    go_ret
    exact HFIN.out _ (Below.refl _ _)
  | false =>
    go_enter Try.func9, Try.ntmps9
    go_wp2_with fail
    go_ret
    exact HFIN.out _ (Below.refl _ _)
end Go.Proofs.Ytlmfpkfgjfdhgaa
