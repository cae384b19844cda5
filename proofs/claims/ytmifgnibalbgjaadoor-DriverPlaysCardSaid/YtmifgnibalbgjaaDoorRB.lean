/- What the maps of package route answer: New, Shards, Of, Range, Splits; the law's own small functions; the document's Of. -/
import Derived.Test.YtmifgnibalbgjaaDoorRA
import Derived.Test.YtmifgnibalbgjaaDoorShelf
import Derived.Laws.ResultCell
namespace Go.Proofs.YtmifgnibalbgjaaDoor
open Go.RowKit

/-- A map that lies at block g. -/
def MapAt (w : World) (g : Nat) (ss : List ByteArray) : Prop :=
  ∃ a n c, w.cell? ⟨g, 0, none⟩ = some (.slice a n c) ∧ StrsAt w a n ss ∧ ss.length ≤ 7
theorem MapAt.keep {w w' : World} {g : Nat} {ss : List ByteArray} (h : MapAt w g ss) (k : Keep w w') : MapAt w' g ss := by
  obtain ⟨a, n, c, h1, h2, h3⟩ := h
  exact ⟨a, n, c, k.cell h1, h2.keep k, h3⟩

theorem clone_any (a : Option Addr) (n c : Nat) (ss : List ByteArray) (w : World) (hn : n * 16 ≤ 140737488355328) (h : StrsAt w a n ss) :
    Calls Tryd.prog 24 #[.slice a n c] w fun e w' => ∃ a' c', e = .returned (.slice a' n c') ∧ w'.ownsRow w.heap.size 9 1 (.slice a' n c') n (ss.map Value.string) ∧ StrsAt w' a' n ss ∧ Keep w w' := by
  obtain ⟨hl, hc⟩ := h
  by_cases h0 : n = 0
  · subst h0
    have : ss = [] := List.length_eq_zero_iff.1 hl.symm
    subst this
    cases a with
    | none => exact (Tryd.slices_Clone_string_nil 0 c w).mono fun e w' ⟨he, hw⟩ => ⟨_, _, he, hw ▸ World.ownsRow_nil _ _ _ _, ⟨rfl, fun j hj => absurd hj (by omega)⟩, hw ▸ Keep.refl _⟩
    | some a => exact (Tryd.slices_Clone_string_zero a c w).mono fun e w' ⟨v', he, ho, _, hb⟩ => let ⟨a', c', e', hs⟩ := strsAt_of_owns (ss := []) ho; ⟨a', c', by rw [he, e'], e' ▸ ho, hs, hb⟩
  · obtain ⟨b, off, rfl, _⟩ := hc 0 (by omega)
    refine (Tryd.slices_Clone_string b off n c ss w (by omega) hn fun j hj => ?_).mono fun e w' ⟨v', he, ho, _, hb⟩ => by
      rw [List.take_of_length_le (by omega)] at ho
      obtain ⟨a', c', e', hs⟩ := strsAt_of_owns ho
      exact ⟨a', c', by rw [he, e'], e' ▸ ho, hs, hb⟩
    obtain ⟨b', off', e, hc'⟩ := hc j (by omega)
    simp only [Option.some.injEq, Addr.mk.injEq, and_true] at e
    obtain ⟨rfl, rfl⟩ := e
    exact hc'

set_option maxHeartbeats 400000 in
theorem new_err (a : Option Addr) (n c : Nat) (ss : List ByteArray) (w : World) (hn : n ≤ maxLen) (h : StrsAt w a n ss) (he : rightL ss ≠ 0) :
    Calls Tryd.prog 7 #[.slice a n c] w fun e w' => e = .returned (.tuple #[.pointer none, .int .i64 (rightL ss)]) ∧ ∃ k, w' = w.drewN k := by
  have hr := right_any a n c ss w hn h
  have he' : (rightL ss == 0) = false := by simpa using he
  generalize rightL ss = r at *
  have HR := Lib.hid hr
  clear hr h he
  go_enter Tryd.func7, Tryd.ntmps7
  go_wp2_with (go_at_call 23; refine HR.out.mono ?_; rintro e w' ⟨rfl, k, rfl⟩)
  go_ret2
  exact ⟨rfl, _, rfl⟩

set_option maxHeartbeats 400000 in
theorem new_ok (a : Option Addr) (n c : Nat) (ss : List ByteArray) (w : World) (hn : n ≤ maxLen) (h : StrsAt w a n ss) (he : rightL ss = 0) (h7 : ss.length ≤ 7) :
    Calls Tryd.prog 7 #[.slice a n c] w fun e w' => ∃ g, e = .returned (.tuple #[.pointer (some ⟨g, 0, none⟩), .int .i64 0]) ∧ MapAt w' g ss ∧ w.heap.size ≤ g ∧ Keep w w' := by
  have hr := right_any a n c ss w hn h
  have HC : Hid (∀ k, Calls Tryd.prog 24 #[.slice a n c] (w.drewN k) fun e w' => ∃ a' c', e = .returned (.slice a' n c') ∧ StrsAt w' a' n ss ∧ Keep (w.drewN k) w') := Lib.hid fun k =>
    (clone_any a n c ss (w.drewN k) (by have := h.1; omega) (h.keep (Keep.drewN w k))).mono fun e w' ⟨a', c', h1, _, h2, h3⟩ => ⟨a', c', h1, h2, h3⟩
  rw [he] at hr
  have HR := Lib.hid hr
  clear hr he
  have H := Lib.hid h
  clear h
  go_enter Tryd.func7, Tryd.ntmps7
  go_wp2_with (first | (go_at_call 23; refine HR.out.mono ?_; rintro e w' ⟨rfl, k, rfl⟩) | (go_at_call 24; refine (HC.out _).mono ?_; rintro e w1 ⟨a1, c1, rfl, ho, hk⟩))
  go_ret2
  exact ⟨w1.heap.size, rfl, ⟨a1, n, c1, cell_new1 _ _ _, ho.keep (Keep.alloc _ _), h7⟩, by have := hk.size; simp at this; omega, ((Keep.drewN w k).trans hk).trans (Keep.alloc _ _)⟩

theorem shards_any (g : Nat) (ss : List ByteArray) (w : World) (h : MapAt w g ss) :
    Calls Tryd.prog 42 #[.pointer (some ⟨g, 0, none⟩)] w fun e w' => e = .returned (.int .i64 (ss.length + 1 : Nat)) ∧ w = w' := by
  obtain ⟨a, n, c, hc, hs, h7⟩ := h
  have e : n = ss.length := hs.1
  subst e
  clear hs
  go_enter Tryd.func42, Tryd.ntmps42
  go_wp2
  go_ret
  exact ⟨rfl, rfl⟩

end Go.Proofs.YtmifgnibalbgjaaDoor

