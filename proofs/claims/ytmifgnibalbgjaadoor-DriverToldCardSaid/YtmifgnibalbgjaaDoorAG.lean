/- DriverTold: the tied card: for every input the law returns true, and each argument reads behind the call as it read before; the listed variables are tied to the program's text. -/
import Derived.Test.YtmifgnibalbgjaaDoorAF
namespace Go.Proofs.YtmifgnibalbgjaaDoor
open Go
theorem told_card : Rows.DriverToldCardSaid :=
  Claim7.holds_tied_plain_at .later [] [.data, .data, .data, .sentinel, .sentinel] true (true, "bf705e6cd6af65afab013f836485e5fc88afd2d10648d166a234b3c753239915") true
    told_holds (fun _ h => by cases h) (by kernel_rfl) (fun _ h => by cases h) driverTold_row_tie rfl ⟨rfl, rfl⟩ (by kernel_rfl) rfl
    (fun f fn hf hfn => by
      obtain rfl : f = 3 := Option.some.inj ((show Tryd.prog.funcNamed "kissinggate/kissinggatelaw21.DriverTold" = some 3 by kernel_rfl).symm.trans hf) |>.symm
      obtain rfl : fn = Tryd.f3 := (Option.some.inj (Tryd.func3.symm.trans hfn)).symm
      exact ⟨by kernel_rfl, fun j t ht => by
        rw [Tryd.params3] at ht
        have h3 : t = 3 ∨ t = 22 ∨ t = 23 := by
          rcases j with _ | _ | _ | _ | _ | j
          · exact .inl (by simpa using ht.symm)
          · exact .inl (by simpa using ht.symm)
          · exact .inl (by simpa using ht.symm)
          · exact .inr (.inl (by simpa using ht.symm))
          · exact .inr (.inr (by simpa using ht.symm))
          · simp at ht
        rcases h3 with rfl | rfl | rfl
        · exact (show Tryd.prog.wantsStandIn 3 = false by kernel_rfl)
        · exact (show Tryd.prog.wantsStandIn 22 = false by kernel_rfl)
        · exact (show Tryd.prog.wantsStandIn 23 = false by kernel_rfl)⟩)
    (by kernel_rfl)
#print axioms told_card
end Go.Proofs.YtmifgnibalbgjaaDoor
