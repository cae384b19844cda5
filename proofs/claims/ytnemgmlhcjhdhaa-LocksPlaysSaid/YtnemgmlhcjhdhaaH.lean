/- mode, clash, of, fits. -/
import Derived.Test.YtnemgmlhcjhdhaaF
import Derived.Test.YtnemgmlhcjhdhaaMem3
namespace Go.Proofs.Ytnemgmlhcjhdhaa
open Go.RowKit
set_option maxHeartbeats 800000 in
theorem mode_any (m : Int) (w : World) : Calls Try.prog 44 #[.int .i64 m] w fun e w' => e = .returned (.bool (modeM m)) ∧ w = w' := by
  unfold modeM
  cases h1 : (m == 1) with
  | true =>
    go_enter Try.func44, Try.ntmps44
    go_wp2_with fail
    go_ret
    exact ⟨rfl, rfl⟩
  | false =>
    cases h2 : (m == 2) with
    | true =>
      go_enter Try.func44, Try.ntmps44
      go_wp2_with fail
      go_ret
      exact ⟨rfl, rfl⟩
    | false =>
      go_enter Try.func44, Try.ntmps44
      go_wp2_with fail
      go_ret
      exact ⟨rfl, rfl⟩
set_option maxHeartbeats 800000 in
theorem clash_any (a b : Int) (w : World) : Calls Try.prog 72 #[.int .i64 a, .int .i64 b] w fun e w' => e = .returned (.bool (clashM a b)) ∧ w = w' := by
  unfold clashM
  cases h1 : (a == 2) with
  | true =>
    go_enter Try.func72, Try.ntmps72
    go_wp2_with fail
    go_ret
    exact ⟨rfl, rfl⟩
  | false =>
    cases h2 : (b == 2) with
    | true =>
      go_enter Try.func72, Try.ntmps72
      go_wp2_with fail
      go_ret
      exact ⟨rfl, rfl⟩
    | false =>
      go_enter Try.func72, Try.ntmps72
      go_wp2_with fail
      go_ret
      exact ⟨rfl, rfl⟩
/-- a list of holds that can be read. -/
def HdsAt (w : World) (a : Option Addr) (n : Nat) (l : List Hd) : Prop := n = l.length ∧ ∀ j (h : j < l.length), ∃ g o, a = some ⟨g, o, none⟩ ∧ hdAt w g (o + j * 2) l[j]
theorem HdsAt.below {w w' : World} {a : Option Addr} {n : Nat} {l : List Hd} (h : HdsAt w a n l) (b : Below w.heap.size w w') : HdsAt w' a n l :=
  ⟨h.1, fun j hj => let ⟨g, o, e, h1⟩ := h.2 j hj; ⟨g, o, e, h1.below b⟩⟩
theorem HdsAt.row {w : World} {a : Option Addr} {n c : Nat} {l : List Hd} (h : Row w 36 2 a n c (hdFlat l)) : HdsAt w a n l := by
  have hl := h.len
  rw [hdFlat_len] at hl
  exact ⟨by omega, fun j hj => let ⟨g, e, h1⟩ := hdAt_row h j hj; ⟨g, 0, e, by rw [Nat.zero_add]; exact h1⟩⟩
theorem HdsAt.take {w : World} {a : Option Addr} {n : Nat} {l : List Hd} (h : HdsAt w a n l) {k : Nat} (hk : k ≤ n) : HdsAt w a k (l.take k) := by
  have h1 := h.1
  refine ⟨by rw [List.length_take]; omega, fun j hj => ?_⟩
  rw [List.length_take] at hj
  rw [List.getElem_take]
  exact h.2 j (by omega)
set_option maxRecDepth 100000 in
set_option maxHeartbeats 800000 in
theorem of_any (a : Option Addr) (n c : Nat) (l : List Hd) (o : Int) (w : World) (h : HdsAt w a n l) (hn : n ≤ maxLen) :
    Calls Try.prog 33 #[.slice a n c, .int .i64 o] w fun e w' => e = .returned (.int .i64 (ofH l o)) ∧ Below w.heap.size w w' := by
  obtain rfl := h.1
  have HR := Lib.hid h
  unfold maxLen at hn
  clear h
  generalize hr : ofH l o = r
  have HV := Lib.hid hr
  clear hr
  go_enter Try.func33, Try.ntmps33
  go_wp2_with fail
  go_loopw [9] (fun jv wr => ∃ i : Nat, i ≤ l.length ∧ jv = .int .i64 i ∧ Hid (ofH (l.drop i) o = r) ∧ Hid (Below w.heap.size w wr)) (fun jv _ => l.length - (intOf jv).toNat)
  case atStart => exact ⟨0, Nat.zero_le _, rfl, HV, Lib.hid (Below.refl _ _)⟩
  case round =>
    obtain ⟨i, hi, rfl, he, HB⟩ := hrel
    by_cases hlt : i < l.length
    · obtain ⟨g, off, rfl, hx⟩ := HR.out.2 i hlt
      obtain ⟨hc0, hc1⟩ := hx.below HB.out
      have he2 := he.out
      rw [List.drop_eq_getElem_cons hlt] at he2
      generalize l[i] = z at *
      obtain ⟨zo, zm⟩ := z
      simp only at hc0 hc1
      unfold ofH at he2
      simp only at he2
      clear hx he HV
      by_cases hq : zo = o
      · rw [if_pos hq] at he2
        have hqb : (zo == o) = true := by simpa using hq
        subst he2
        have HB2 := HB
        clear hq
        go_wp2_with fail
        go_ret
        exact ⟨rfl, bel_one HB2.out _⟩
      · rw [if_neg hq] at he2
        have hqb : (zo == o) = false := by simpa using hq
        have HE := Lib.hid he2
        clear hq he2
        go_wp2_with fail
        go_roundw
        case rel => exact ⟨i + 1, by omega, by go_num, HE, Lib.hid (bel_one HB.out _)⟩
        case measure => simp [intOf]; omega
    · obtain rfl : i = l.length := by omega
      have he2 := he.out
      rw [List.drop_length] at he2
      subst he2
      go_wp2_with fail
      go_ret
      exact ⟨rfl, HB.out⟩
end Go.Proofs.Ytnemgmlhcjhdhaa
