/- Two equal lists are the same. -/
import Derived.Test.YtnemgmlhcjhdhaaAH
import Derived.BigRegion
namespace Go.Proofs.Ytnemgmlhcjhdhaa
open Go.RowKit
/-- numbers that can be read. -/
def IntsAt (w : World) (a : Option Addr) (n : Nat) (l : List Int) : Prop := n = l.length ∧ ∀ j (h : j < l.length), ∃ g o, a = some ⟨g, o, none⟩ ∧ w.cell? ⟨g, o + j, none⟩ = some (.int .i64 l[j])
theorem IntsAt.below {w w' : World} {a : Option Addr} {n : Nat} {l : List Int} (h : IntsAt w a n l) (b : Below w.heap.size w w') : IntsAt w' a n l :=
  ⟨h.1, fun j hj => let ⟨g, o, e, h1⟩ := h.2 j hj; ⟨g, o, e, (b.cell (World.block_lt_of_cell? w _ h1)).trans h1⟩⟩
theorem IntsAt.row {w : World} {a : Option Addr} {n c : Nat} {l : List Int} (h : Row w 3 1 a n c (intsV l)) : IntsAt w a n l := by
  have hl := h.len
  refine ⟨by simpa [intsV] using hl.symm, fun j hj => ?_⟩
  obtain ⟨g, e, hx⟩ := h.cellAt j (by simpa [intsV] using hj)
  exact ⟨g, 0, e, by rw [Nat.zero_add, hx]; simp [intsV]⟩
set_option maxRecDepth 100000 in
set_option maxHeartbeats 1600000 in
theorem same_i (a b : Option Addr) (n m c d : Nat) (l : List Int) (w : World) (hr : IntsAt w a n l) (hs : IntsAt w b m l) (hbig : n ≤ 1000000) :
    Calls Try.prog 18 #[.slice a n c, .slice b m d] w fun e w' => e = .returned (.bool true) ∧ Below w.heap.size w w' := by
  obtain rfl := hr.1
  obtain rfl := hs.1
  have HR := Lib.hid hr
  have HS := Lib.hid hs
  clear hr hs
  go_enter Try.func18, Try.ntmps18
  go_wp2_with fail
  go_loopw [13] (fun jv wr => ∃ q : Nat, q ≤ l.length ∧ jv = .int .i64 q ∧ Hid (Below w.heap.size w wr)) (fun jv _ => l.length - (intOf jv).toNat)
  case atStart => exact ⟨0, Nat.zero_le _, rfl, Lib.hid (Below.refl _ _)⟩
  case round =>
    obtain ⟨W1, rfl⟩ : ∃ W1, W1 = wr := ⟨_, rfl⟩
    obtain ⟨q, hq, rfl, HB⟩ := hrel
    by_cases hlt : q < l.length
    · obtain ⟨g, o, rfl, hx⟩ := (HR.out.below HB.out).2 q hlt
      obtain ⟨g2, o2, rfl, hy⟩ := (HS.out.below HB.out).2 q hlt
      generalize l[q] = x at *
      have HB2 := Lib.hid (HB.out.drew)
      clear HB
      have hqn : (q : Int) < (l.length : Int) := by omega
      have hqz : (0 : Int) ≤ (q : Int) := by omega
      go_wp2_with fail
      go_region
      all_goals
        go_wp2_with fail
        go_roundw
        case rel => exact ⟨q + 1, by omega, by go_num, HB2⟩
        case measure => simp [intOf]; omega
    · obtain rfl : q = l.length := by omega
      go_wp2_with fail
      go_ret
      exact ⟨rfl, HB.out⟩
set_option maxRecDepth 100000 in
set_option maxHeartbeats 1600000 in
theorem same_h (a b : Option Addr) (n m c d : Nat) (l : List Hd) (w : World) (hr : HdsAt w a n l) (hs : HdsAt w b m l) (hbig : n ≤ 1000000) :
    Calls Try.prog 21 #[.slice a n c, .slice b m d] w fun e w' => e = .returned (.bool true) ∧ Below w.heap.size w w' := by
  obtain rfl := hr.1
  obtain rfl := hs.1
  have HR := Lib.hid hr
  have HS := Lib.hid hs
  clear hr hs
  go_enter Try.func21, Try.ntmps21
  go_wp2_with fail
  go_loopw [13] (fun jv wr => ∃ q : Nat, q ≤ l.length ∧ jv = .int .i64 q ∧ Hid (Below w.heap.size w wr)) (fun jv _ => l.length - (intOf jv).toNat)
  case atStart => exact ⟨0, Nat.zero_le _, rfl, Lib.hid (Below.refl _ _)⟩
  case round =>
    obtain ⟨W1, rfl⟩ : ∃ W1, W1 = wr := ⟨_, rfl⟩
    obtain ⟨q, hq, rfl, HB⟩ := hrel
    by_cases hlt : q < l.length
    · obtain ⟨g, o, rfl, hx⟩ := (HR.out.below HB.out).2 q hlt
      obtain ⟨g2, o2, rfl, hy⟩ := (HS.out.below HB.out).2 q hlt
      obtain ⟨hx0, hx1⟩ := hx
      obtain ⟨hy0, hy1⟩ := hy
      generalize l[q] = x at *
      obtain ⟨xo, xm⟩ := x
      simp only at hx0 hx1 hy0 hy1
      have HB2 := Lib.hid (HB.out.drew)
      clear HB
      have hqn : (q : Int) < (l.length : Int) := by omega
      have hqz : (0 : Int) ≤ (q : Int) := by omega
      go_wp2_with fail
      go_region
      all_goals
        go_wp2_with fail
        go_roundw
        case rel => exact ⟨q + 1, by omega, by go_num, HB2⟩
        case measure => simp [intOf]; omega
    · obtain rfl : q = l.length := by omega
      go_wp2_with fail
      go_ret
      exact ⟨rfl, HB.out⟩
end Go.Proofs.Ytnemgmlhcjhdhaa
