/- Two equal lists are the same. -/
import Derived.Test.YtmifgnibalbgjaaGreatZLAH
import Derived.BigRegion
namespace Go.Proofs.YtmifgnibalbgjaaGreat
open Go.RowKit set_option linter.unusedVariables false set_option linter.unusedSimpArgs false
set_option maxRecDepth 100000 in
set_option maxHeartbeats 1600000 in
theorem same_h (a b : Option Addr) (n m c d : Nat) (l : List Hd) (w : World) (hr : HdsAt w a n l) (hs : HdsAt w b m l) (hbig : n ≤ 1000000) :
  Calls Tryz.prog 54 #[.slice a n c, .slice b m d] w fun e w' => e = .returned (.bool true) ∧ Below w.heap.size w w' := by
 obtain rfl := hr.1
 obtain rfl := hs.1
 have HR := Lib.hid hr
 have HS := Lib.hid hs
 clear hr hs
 go_enter Tryz.func54, Tryz.ntmps54
 go_wp2_with fail
 go_loopw [13] (fun jv wr => ∃ q : Nat, q ≤ l.length ∧ jv = .int .i64 q ∧ Hid (Below w.heap.size w wr)) (fun jv _ => l.length - (intOf jv).toNat)
 case atStart => exact ⟨0, Nat.zero_le _, rfl, Lib.hid (Below.refl _ _)⟩
 case round =>
  obtain ⟨W1, rfl⟩ : ∃ W1, W1 = wr := ⟨_, rfl⟩
  obtain ⟨q, hq, rfl, HB⟩ := hrel
  by_cases hlt : q < l.length
  ·obtain ⟨g, o, rfl, hx⟩ := (HR.out.below HB.out).2 q hlt
   obtain ⟨g2, o2, rfl, hy⟩ := (HS.out.below HB.out).2 q hlt
   obtain ⟨hx0, hx1⟩ := hx
   obtain ⟨hy0, hy1⟩ := hy
   generalize l[q] = x at *
   obtain ⟨xo, xm⟩ := x
   simp only at hx0 hx1 hy0 hy1
   have HB2 := Lib.hid (HB.out.drew)
   clear HB
   have hqn : (q : Int) < (l.length : Int) := by omega
   have hqz : (0 : Int) ≤ (q : Int) := by omega
   go_wp2_with fail
   go_region
   all_goals
    go_wp2_with fail
    go_roundw
    case rel => exact ⟨q + 1, by omega, by go_num, HB2⟩
    case measure => simp [intOf]; omega
  ·obtain rfl : q = l.length := by omega
   go_wp2_with fail
   go_ret
   exact ⟨rfl, HB.out⟩
end Go.Proofs.YtmifgnibalbgjaaGreat
