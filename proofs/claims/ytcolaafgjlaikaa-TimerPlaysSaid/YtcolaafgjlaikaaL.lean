/- Crash, Set on a board. -/
import Derived.Test.YtcolaafgjlaikaaJ
namespace Go.Proofs.Ytcolaafgjlaikaa
open Go.RowKit

set_option maxHeartbeats 800000 in
theorem pt_crash (p N : Nat) (ns : List Nd) (i : Nat) (hi : i < ns.length) (w : World) (h : Bd w p N ns) :
    Calls Try.prog 16 #[.pointer (some ⟨p, 0, none⟩), .int .i64 i] w (BPost w p N ns (.returned (.int .i64 0)) ((viewB ns).set i (ns[i].clk, []))) := by
  have HF := Lib.hid (pt_find p N ns.length i w h.cellP hi)
  obtain ⟨hc, hf⟩ := h.cellL i hi
  have hfin : BPost w p N ns (.returned (.int .i64 0)) ((viewB ns).set i (ns[i].clk, [])) (.returned (.int .i64 0)) (w.setCell ⟨N, i * 2 + 1, none⟩ (.slice none 0 0)) := by
    refine ⟨rfl, _, h.step i hi ⟨ns[i].clk, none, 0, []⟩ ?_ (Row.nil _ _ _) (Touch.setCell _ _ _ (by simp)) (fun x hx => by cases hx), viewB_set ..⟩
    rw [heap_set h.hN, ← ncells_set ns i hi]
    simp
  clear h
  generalize BPost w p N ns (.returned (.int .i64 0)) ((viewB ns).set i (ns[i].clk, [])) = R at *
  generalize ns[i].a = a at *
  generalize ns[i].l.length = n at *
  generalize ns[i].c = c at *
  go_enter Try.func16, Try.ntmps16
  go_wp2_with fail
  refine HF.out.mono ?_
  rintro e w1 ⟨rfl, rfl⟩
  go_wp2_with fail
  exact hfin

def okSet (id after every : Int) : Bool := decide (0 ≤ id ∧ 1 ≤ after ∧ after ≤ 1099511627776 ∧ 0 ≤ every ∧ every ≤ 1099511627776)

set_option maxHeartbeats 800000 in
theorem pt_set_bad (p : Nat) (i id after every : Int) (hb : okSet id after every = false) (w : World) :
    Calls Try.prog 8 #[.pointer (some ⟨p, 0, none⟩), .int .i64 i, .int .i64 id, .int .i64 after, .int .i64 every] w fun e w' => e = .returned (.int .i64 1) ∧ w = w' := by
  have hb' := of_decide_eq_false hb
  clear hb
  by_cases h1 : id < 0
  · clear hb'
    go_enter Try.func8, Try.ntmps8
    go_wp2_with fail
    go_ret
    exact ⟨rfl, rfl⟩
  by_cases h2 : after < 1
  · clear hb'
    go_enter Try.func8, Try.ntmps8
    go_wp2_with fail
    go_ret
    exact ⟨rfl, rfl⟩
  by_cases h3 : 1099511627776 < after
  · clear hb'
    go_enter Try.func8, Try.ntmps8
    go_wp2_with fail
    go_ret
    exact ⟨rfl, rfl⟩
  by_cases h4 : every < 0
  · clear hb'
    go_enter Try.func8, Try.ntmps8
    go_wp2_with fail
    go_ret
    exact ⟨rfl, rfl⟩
  have h5 : 1099511627776 < every := by omega
  clear hb'
  go_enter Try.func8, Try.ntmps8
  go_wp2_with fail
  go_ret
  exact ⟨rfl, rfl⟩

set_option maxHeartbeats 800000 in
theorem pt_set_out (p N : Nat) (ns : List Nd) (i id after every : Int) (hb : okSet id after every = true) (hi : i < 0 ∨ (ns.length : Int) ≤ i) (w : World) (h : Bd w p N ns) :
    Calls Try.prog 8 #[.pointer (some ⟨p, 0, none⟩), .int .i64 i, .int .i64 id, .int .i64 after, .int .i64 every] w fun e w' => e = .returned (.int .i64 6) ∧ w = w' := by
  have HF := Lib.hid (pt_find_out p N ns.length i w h.cellP hi)
  have hb' := of_decide_eq_true hb
  clear hb h hi
  obtain ⟨h1, h2, h3, h4, h5⟩ := hb'
  go_enter Try.func8, Try.ntmps8
  go_wp2_with fail
  refine HF.out.mono ?_
  rintro e w1 ⟨rfl, rfl⟩
  go_wp2_with fail
  go_ret
  exact ⟨rfl, rfl⟩

end Go.Proofs.Ytcolaafgjlaikaa
