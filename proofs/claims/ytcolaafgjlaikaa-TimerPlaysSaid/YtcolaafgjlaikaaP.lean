/- Next, and the small answers. -/
import Derived.Test.YtcolaafgjlaikaaN
namespace Go.Proofs.Ytcolaafgjlaikaa
open Go.RowKit

set_option maxHeartbeats 800000 in
theorem pt_next_out (p N : Nat) (ns : List Nd) (i : Int) (hi : i < 0 ∨ (ns.length : Int) ≤ i) (w : World) (h : Bd w p N ns) :
    Calls Try.prog 18 #[.pointer (some ⟨p, 0, none⟩), .int .i64 i] w fun e w' => e = .returned (.tuple #[.int .i64 0, .bool false]) ∧ w = w' := by
  have HF := Lib.hid (pt_find_out p N ns.length i w h.cellP hi)
  clear h hi
  go_enter Try.func18, Try.ntmps18
  go_wp2_with fail
  refine HF.out.mono ?_
  rintro e w1 ⟨rfl, rfl⟩
  go_wp2_with fail
  go_ret2
  exact ⟨rfl, rfl⟩

set_option maxHeartbeats 800000 in
theorem pt_next_nil (p N : Nat) (ns : List Nd) (i : Nat) (hi : i < ns.length) (hl : ns[i].l = []) (w : World) (h : Bd w p N ns) :
    Calls Try.prog 18 #[.pointer (some ⟨p, 0, none⟩), .int .i64 i] w fun e w' => e = .returned (.tuple #[.int .i64 0, .bool false]) ∧ w = w' := by
  have HF := Lib.hid (pt_find p N ns.length i w h.cellP hi)
  have hc := (h.cellL i hi).1
  rw [hl] at hc
  simp only [List.length_nil] at hc
  clear h hl
  generalize ns[i].a = a at *
  generalize ns[i].c = c at *
  go_enter Try.func18, Try.ntmps18
  go_wp2_with fail
  refine HF.out.mono ?_
  rintro e w1 ⟨rfl, rfl⟩
  go_wp2_with fail
  go_ret2
  exact ⟨rfl, rfl⟩

set_option maxHeartbeats 800000 in
theorem pt_next (p N : Nat) (ns : List Nd) (i : Nat) (hi : i < ns.length) (t : Tm) (r : List Tm) (hl : ns[i].l = t :: r) (w : World) (h : Bd w p N ns) :
    Calls Try.prog 18 #[.pointer (some ⟨p, 0, none⟩), .int .i64 i] w fun e w' => e = .returned (.tuple #[.int .i64 t.due, .bool true]) ∧ w = w' := by
  have HF := Lib.hid (pt_find p N ns.length i w h.cellP hi)
  have hc := (h.cellL i hi).1
  have hr := h.row i hi
  rw [hl] at hc hr
  obtain ⟨g, ha, hcs⟩ := flat_cells hr 0 (by simp)
  obtain ⟨_, h2, _⟩ := hcs
  simp only [List.getElem_cons_zero] at h2
  rw [ha] at hc
  have hlen : 0 < (t :: r).length := by simp
  generalize (t :: r).length = n at *
  have hn0 : ¬ n = 0 := by omega
  clear h hl hr ha
  generalize ns[i].c = c at *
  go_enter Try.func18, Try.ntmps18
  go_wp2_with fail
  refine HF.out.mono ?_
  rintro e w1 ⟨rfl, rfl⟩
  go_wp2_with fail
  go_ret2
  exact ⟨rfl, rfl⟩

set_option maxHeartbeats 800000 in
theorem pt_clock_out (p N : Nat) (ns : List Nd) (i : Int) (hi : i < 0 ∨ (ns.length : Int) ≤ i) (w : World) (h : Bd w p N ns) :
    Calls Try.prog 22 #[.pointer (some ⟨p, 0, none⟩), .int .i64 i] w fun e w' => e = .returned (.int .i64 0) ∧ w = w' := by
  have HF := Lib.hid (pt_find_out p N ns.length i w h.cellP hi)
  clear h hi
  go_enter Try.func22, Try.ntmps22
  go_wp2_with fail
  refine HF.out.mono ?_
  rintro e w1 ⟨rfl, rfl⟩
  go_wp2_with fail
  go_ret
  exact ⟨rfl, rfl⟩

set_option maxHeartbeats 800000 in
theorem pt_crash_out (p N : Nat) (ns : List Nd) (i : Int) (hi : i < 0 ∨ (ns.length : Int) ≤ i) (w : World) (h : Bd w p N ns) :
    Calls Try.prog 16 #[.pointer (some ⟨p, 0, none⟩), .int .i64 i] w fun e w' => e = .returned (.int .i64 6) ∧ w = w' := by
  have HF := Lib.hid (pt_find_out p N ns.length i w h.cellP hi)
  clear h hi
  go_enter Try.func16, Try.ntmps16
  go_wp2_with fail
  refine HF.out.mono ?_
  rintro e w1 ⟨rfl, rfl⟩
  go_wp2_with fail
  go_ret
  exact ⟨rfl, rfl⟩

end Go.Proofs.Ytcolaafgjlaikaa
