/- What the maps of package route answer: New, Shards, Of, Range, Splits; the law's own small functions; the document's Of. -/
import Derived.Test.YteocoijkfkoddaaA
import Derived.Test.YteocoijkfkoddaaShelf
import Derived.Laws.ResultCell
namespace Go.Proofs.Yteocoijkfkoddaa
open Go.RowKit

/-- A map that lies at block g. -/
def MapAt (w : World) (g : Nat) (ss : List ByteArray) : Prop :=
  ∃ a n c, w.cell? ⟨g, 0, none⟩ = some (.slice a n c) ∧ StrsAt w a n ss ∧ ss.length ≤ 7
theorem MapAt.keep {w w' : World} {g : Nat} {ss : List ByteArray} (h : MapAt w g ss) (k : Keep w w') : MapAt w' g ss := by
  obtain ⟨a, n, c, h1, h2, h3⟩ := h
  exact ⟨a, n, c, k.cell h1, h2.keep k, h3⟩

theorem clone_any (a : Option Addr) (n c : Nat) (ss : List ByteArray) (w : World) (hn : n * 16 ≤ 140737488355328) (h : StrsAt w a n ss) :
    Calls Try.prog 24 #[.slice a n c] w fun e w' => ∃ a' c', e = .returned (.slice a' n c') ∧ w'.ownsRow w.heap.size 9 1 (.slice a' n c') n (ss.map Value.string) ∧ StrsAt w' a' n ss ∧ Keep w w' := by
  obtain ⟨hl, hc⟩ := h
  by_cases h0 : n = 0
  · subst h0
    have : ss = [] := List.length_eq_zero_iff.1 hl.symm
    subst this
    cases a with
    | none => exact (Try.slices_Clone_string_nil 0 c w).mono fun e w' ⟨he, hw⟩ => ⟨_, _, he, hw ▸ World.ownsRow_nil _ _ _ _, ⟨rfl, fun j hj => absurd hj (by omega)⟩, hw ▸ Keep.refl _⟩
    | some a => exact (Try.slices_Clone_string_zero a c w).mono fun e w' ⟨v', he, ho, _, hb⟩ => let ⟨a', c', e', hs⟩ := strsAt_of_owns (ss := []) ho; ⟨a', c', by rw [he, e'], e' ▸ ho, hs, hb⟩
  · obtain ⟨b, off, rfl, _⟩ := hc 0 (by omega)
    refine (Try.slices_Clone_string b off n c ss w (by omega) hn fun j hj => ?_).mono fun e w' ⟨v', he, ho, _, hb⟩ => by
      rw [List.take_of_length_le (by omega)] at ho
      obtain ⟨a', c', e', hs⟩ := strsAt_of_owns ho
      exact ⟨a', c', by rw [he, e'], e' ▸ ho, hs, hb⟩
    obtain ⟨b', off', e, hc'⟩ := hc j (by omega)
    simp only [Option.some.injEq, Addr.mk.injEq, and_true] at e
    obtain ⟨rfl, rfl⟩ := e
    exact hc'

set_option maxHeartbeats 400000 in
theorem new_err (a : Option Addr) (n c : Nat) (ss : List ByteArray) (w : World) (hn : n ≤ maxLen) (h : StrsAt w a n ss) (he : rightL ss ≠ 0) :
    Calls Try.prog 8 #[.slice a n c] w fun e w' => e = .returned (.tuple #[.pointer none, .int .i64 (rightL ss)]) ∧ ∃ k, w' = w.drewN k := by
  have hr := right_any a n c ss w hn h
  have he' : (rightL ss == 0) = false := by simpa using he
  generalize rightL ss = r at *
  have HR := Lib.hid hr
  clear hr h he
  go_enter Try.func8, Try.ntmps8
  go_wp2_with (go_at_call 23; refine HR.out.mono ?_; rintro e w' ⟨rfl, k, rfl⟩)
  go_ret2
  exact ⟨rfl, _, rfl⟩

set_option maxHeartbeats 400000 in
theorem new_ok (a : Option Addr) (n c : Nat) (ss : List ByteArray) (w : World) (hn : n ≤ maxLen) (h : StrsAt w a n ss) (he : rightL ss = 0) (h7 : ss.length ≤ 7) :
    Calls Try.prog 8 #[.slice a n c] w fun e w' => ∃ g, e = .returned (.tuple #[.pointer (some ⟨g, 0, none⟩), .int .i64 0]) ∧ MapAt w' g ss ∧ w.heap.size ≤ g ∧ Keep w w' := by
  have hr := right_any a n c ss w hn h
  have HC : Hid (∀ k, Calls Try.prog 24 #[.slice a n c] (w.drewN k) fun e w' => ∃ a' c', e = .returned (.slice a' n c') ∧ StrsAt w' a' n ss ∧ Keep (w.drewN k) w') := Lib.hid fun k =>
    (clone_any a n c ss (w.drewN k) (by have := h.1; omega) (h.keep (Keep.drewN w k))).mono fun e w' ⟨a', c', h1, _, h2, h3⟩ => ⟨a', c', h1, h2, h3⟩
  rw [he] at hr
  have HR := Lib.hid hr
  clear hr he
  have H := Lib.hid h
  clear h
  go_enter Try.func8, Try.ntmps8
  go_wp2_with (first | (go_at_call 23; refine HR.out.mono ?_; rintro e w' ⟨rfl, k, rfl⟩) | (go_at_call 24; refine (HC.out _).mono ?_; rintro e w1 ⟨a1, c1, rfl, ho, hk⟩))
  go_ret2
  exact ⟨w1.heap.size, rfl, ⟨a1, n, c1, cell_new1 _ _ _, ho.keep (Keep.alloc _ _), h7⟩, by have := hk.size; simp at this; omega, ((Keep.drewN w k).trans hk).trans (Keep.alloc _ _)⟩

theorem shards_any (g : Nat) (ss : List ByteArray) (w : World) (h : MapAt w g ss) :
    Calls Try.prog 10 #[.pointer (some ⟨g, 0, none⟩)] w fun e w' => e = .returned (.int .i64 (ss.length + 1 : Nat)) ∧ w = w' := by
  obtain ⟨a, n, c, hc, hs, h7⟩ := h
  have e : n = ss.length := hs.1
  subst e
  clear hs
  go_enter Try.func10, Try.ntmps10
  go_wp2
  go_ret
  exact ⟨rfl, rfl⟩

theorem splits_any (g : Nat) (ss : List ByteArray) (w : World) (h : MapAt w g ss) :
    Calls Try.prog 12 #[.pointer (some ⟨g, 0, none⟩)] w fun e w' => ∃ a c, e = .returned (.slice a ss.length c) ∧ StrsAt w' a ss.length ss ∧ Keep w w' := by
  obtain ⟨a, n, c, hc, hs, h7⟩ := h
  have e : n = ss.length := hs.1
  subst e
  have HC := Lib.hid (clone_any a _ c ss w (by omega) hs)
  clear hs
  go_enter Try.func12, Try.ntmps12
  go_wp2_with (go_at_call 24; refine HC.out.mono ?_; rintro e w' ⟨a', c', rfl, _, hs, hk⟩)
  go_ret
  exact ⟨_, _, rfl, hs, hk⟩

/-- few -/
def fewL (ss : List ByteArray) (m : Int) : Bool := !(ss.any fun s => decide (100 < (s.size : Int))) && decide ((ss.length : Int) ≤ m)
set_option maxHeartbeats 400000 in
theorem few_any (a : Option Addr) (n c : Nat) (ss : List ByteArray) (m : Int) (w : World) (hn : n ≤ maxLen) (h : StrsAt w a n ss) :
    Calls Try.prog 7 #[.slice a n c, .int .i64 m] w fun e w' => e = .returned (.bool (fewL ss m)) ∧ w = w' := by
  unfold maxLen at hn
  obtain ⟨hl, hc⟩ := h
  have HL : Hid (n = ss.length) := Lib.hid hl
  clear hl
  have HC := Lib.hid hc
  clear hc
  go_enter Try.func7, Try.ntmps7
  go_wp2
  go_loop [6, 9] (fun _ i => ∃ k : Nat, k ≤ n ∧ (Hid (∀ j, j < k → decide (100 < ((ss.getD j ByteArray.empty).size : Int)) = false)) ∧ i = .int .i64 k) (fun _ i => n - (intOf i).toNat)
  case atStart => exact ⟨0, Nat.zero_le _, Lib.hid (fun j hj => absurd hj (by omega)), rfl⟩
  case round =>
    obtain ⟨k, hk, hall, rfl⟩ := hrel
    by_cases hlt : k < n
    · obtain ⟨b, off, rfl, hcell⟩ := HC.out k hlt
      by_cases hb : 100 < ((ss[k]?.getD ByteArray.empty).size : Int)
      · have H : Hid (fewL ss m = false) := by
          have hk' : k < ss.length := by have := HL.out; omega
          have : ss.any (fun s => decide (100 < (s.size : Int))) = true := List.any_eq_true.2 ⟨ss[k], List.getElem_mem _, by simpa [hk'] using hb⟩
          rw [fewL, this]; exact Lib.hid rfl
        go_wp2
        go_ret
        exact ⟨by rw [H.out]; rfl, rfl⟩
      · have Hn : Hid (∀ j, j < k + 1 → decide (100 < ((ss.getD j ByteArray.empty).size : Int)) = false) := Lib.hid fun j hj => by
          by_cases e : j = k
          · subst e; exact decide_eq_false hb
          · exact hall.out j (by omega)
        clear hall
        go_wp2
        go_round
        case rel => exact ⟨k + 1, by omega, Hn, by go_num⟩
        case measure => simp [intOf]; omega
    · have H : Hid (fewL ss m = decide ((n : Int) ≤ m)) := by
        have : ss.any (fun s => decide (100 < (s.size : Int))) = false := by
          rw [List.any_eq_false]
          intro x hx
          obtain ⟨j, hj, rfl⟩ := List.getElem_of_mem hx
          have := hall.out j (by have := HL.out; omega)
          simpa [List.getD, hj] using this
        rw [fewL, this, HL.out]; exact Lib.hid (by simp)
      clear hall
      go_wp2
      go_ret
      exact ⟨by rw [H.out]; rfl, rfl⟩

set_option maxHeartbeats 400000 in
theorem same_any (a a' : Option Addr) (n c n' c' : Nat) (ss ss' : List ByteArray) (w : World) (hn : n ≤ maxLen) (h : StrsAt w a n ss) (h' : StrsAt w a' n' ss') :
    Calls Try.prog 11 #[.slice a n c, .slice a' n' c'] w fun e w' => e = .returned (.bool (decide (ss = ss'))) ∧ ∃ k, w' = w.drewN k := by
  unfold maxLen at hn
  obtain ⟨hl, hc⟩ := h
  obtain ⟨hl', hc'⟩ := h'
  have HL : Hid (n = ss.length) := Lib.hid hl
  have HL' : Hid (n' = ss'.length) := Lib.hid hl'
  have HC := Lib.hid hc
  have HC' := Lib.hid hc'
  clear hl hl' hc hc'
  by_cases hlen : n = n'
  · subst hlen
    go_enter Try.func11, Try.ntmps11
    go_wp2
    go_loopw [5, 13] (fun _ i wr => ∃ k : Nat, k ≤ n ∧ (Hid (∀ j, j < k → ss.getD j ByteArray.empty = ss'.getD j ByteArray.empty)) ∧ i = .int .i64 k ∧ ∃ q, wr = w.drewN q) (fun _ i _ => n - (intOf i).toNat)
    case atStart => exact ⟨0, Nat.zero_le _, Lib.hid (fun j hj => absurd hj (by omega)), rfl, 0, rfl⟩
    case round =>
      obtain ⟨k, hk, hall, rfl, q, rfl⟩ := hrel
      by_cases hlt : k < n
      · obtain ⟨b, off, rfl, hcell⟩ := HC.out k hlt
        obtain ⟨b', off', rfl, hcell'⟩ := HC'.out k hlt
        by_cases he : ss.getD k ByteArray.empty = ss'.getD k ByteArray.empty
        · have Hn : Hid (∀ j, j < k + 1 → ss.getD j ByteArray.empty = ss'.getD j ByteArray.empty) := Lib.hid fun j hj => by
            by_cases e : j = k
            · subst e; exact he
            · exact hall.out j (by omega)
          have he' : ((ss[k]?.getD ByteArray.empty).toList == (ss'[k]?.getD ByteArray.empty).toList) = true := (Lib.bytes_beq_iff _ _).2 he
          clear he hall
          go_wp2
          go_quiet (fail)
          go_wp2
          go_roundw
          case rel => exact ⟨k + 1, by omega, Hn, by go_num, _, rfl⟩
          case measure => simp [intOf]; omega
        · have H : Hid (decide (ss = ss') = false) := Lib.hid (decide_eq_false fun e => he (by rw [e]))
          have he' : ((ss[k]?.getD ByteArray.empty).toList == (ss'[k]?.getD ByteArray.empty).toList) = false := (Lib.bytes_beq_false_iff _ _).2 he
          clear he hall
          go_wp2
          go_quiet (fail)
          go_wp2
          go_ret
          exact ⟨by rw [H.out]; rfl, _, by first | exact rfl | exact World.drewN_drewN _ _ _⟩
      · have H : Hid (decide (ss = ss') = true) := Lib.hid (decide_eq_true (by
          refine List.ext_getElem (by have := HL.out; have := HL'.out; omega) fun j h1 h2 => ?_
          have := hall.out j (by have := HL.out; omega)
          simpa [List.getD, h1, h2] using this))
        clear hall
        go_wp2
        go_ret
        exact ⟨by rw [H.out]; rfl, _, by first | exact rfl | exact World.drewN_drewN _ _ _⟩
  · have H : Hid (decide (ss = ss') = false) := Lib.hid (decide_eq_false fun e => hlen (by rw [HL.out, HL'.out, e]))
    have hb : ((n : Int) == (n' : Int)) = false := beq_eq_false_iff_ne.2 (by omega)
    go_enter Try.func11, Try.ntmps11
    go_wp2
    go_ret
    exact ⟨by rw [H.out]; rfl, 0, rfl⟩
end Go.Proofs.Yteocoijkfkoddaa
