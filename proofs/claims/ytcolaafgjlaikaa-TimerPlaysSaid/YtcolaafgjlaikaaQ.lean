/- Skip: its refusals. -/
import Derived.Test.YtcolaafgjlaikaaP
namespace Go.Proofs.Ytcolaafgjlaikaa
open Go.RowKit

def SkipBad (x : Int) (w : World) (e : Ending) (w' : World) : Prop := e = .returned (.tuple #[.slice none 0 0, .int .i64 x]) ∧ w = w'

set_option maxHeartbeats 800000 in
theorem pt_skip_nil (i k : Int) (w : World) : Calls Try.prog 15 #[.pointer none, .int .i64 i, .int .i64 k] w fun e w' => e = .returned (.tuple #[.slice none 0 0, .int .i64 1]) ∧ w = w' := by
  go_enter Try.func15, Try.ntmps15
  go_wp2_with fail
  go_ret2
  exact ⟨rfl, rfl⟩

set_option maxHeartbeats 800000 in
theorem pt_skip_bad (p : Nat) (i k : Int) (hk : k < 0 ∨ 256 < k) (w : World) : Calls Try.prog 15 #[.pointer (some ⟨p, 0, none⟩), .int .i64 i, .int .i64 k] w fun e w' => e = .returned (.tuple #[.slice none 0 0, .int .i64 1]) ∧ w = w' := by
  by_cases h : k < 0
  · clear hk
    go_enter Try.func15, Try.ntmps15
    go_wp2_with fail
    go_ret2
    exact ⟨rfl, rfl⟩
  · have h2 : 256 < k := by omega
    clear hk
    go_enter Try.func15, Try.ntmps15
    go_wp2_with fail
    go_ret2
    exact ⟨rfl, rfl⟩

set_option maxHeartbeats 800000 in
theorem pt_skip_out (p N : Nat) (ns : List Nd) (i k : Int) (h0 : 0 ≤ k) (h1 : k ≤ 256) (hi : i < 0 ∨ (ns.length : Int) ≤ i) (w : World) (h : Bd w p N ns) :
    Calls Try.prog 15 #[.pointer (some ⟨p, 0, none⟩), .int .i64 i, .int .i64 k] w fun e w' => e = .returned (.tuple #[.slice none 0 0, .int .i64 6]) ∧ w = w' := by
  have HF := Lib.hid (pt_find_out p N ns.length i w h.cellP hi)
  clear h hi
  have h2 : ¬ k < 0 := by omega
  have h3 : ¬ 256 < k := by omega
  go_enter Try.func15, Try.ntmps15
  go_wp2_with fail
  refine HF.out.mono ?_
  rintro e w1 ⟨rfl, rfl⟩
  go_wp2_with fail
  go_ret2
  exact ⟨rfl, rfl⟩

set_option maxHeartbeats 800000 in
theorem pt_skip_full (p N : Nat) (ns : List Nd) (i : Nat) (hi : i < ns.length) (k : Int) (h0 : 0 ≤ k) (h1 : k ≤ 256) (w : World) (h : Bd w p N ns) (hc0 : 0 ≤ ns[i].clk) (hc1 : ns[i].clk ≤ 1099511627776) (hc2 : 1099511627776 < ns[i].clk + k) :
    Calls Try.prog 15 #[.pointer (some ⟨p, 0, none⟩), .int .i64 i, .int .i64 k] w fun e w' => e = .returned (.tuple #[.slice none 0 0, .int .i64 7]) ∧ w = w' := by
  have HF := Lib.hid (pt_find p N ns.length i w h.cellP hi)
  have hc := (h.cellC i hi).1
  clear h
  generalize ns[i].clk = clk at *
  have h2 : ¬ k < 0 := by omega
  have h3 : ¬ 256 < k := by omega
  go_enter Try.func15, Try.ntmps15
  go_wp2_with fail
  refine HF.out.mono ?_
  rintro e w1 ⟨rfl, rfl⟩
  go_wp2_with fail
  go_ret2
  exact ⟨rfl, rfl⟩

end Go.Proofs.Ytcolaafgjlaikaa
