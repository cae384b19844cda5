/- few; the same. -/
import Derived.Test.YtbgabdofnmijnaaX
namespace Go.Proofs.Ytbgabdofnmijnaa
open Go.RowKit
def fewM (l : List Mk) : Bool := (l.all fun t => decide (t.key.size ≤ 100)) && decide (l.length ≤ 40)
set_option maxRecDepth 100000 in
set_option maxHeartbeats 1600000 in
theorem few_any (a : Option Addr) (n c : Nat) (l : List Mk) (w : World) (hn : n ≤ maxLen) (h : MksAt w a n l) :
    Calls Try.prog 8 #[.slice a n c] w (fun e w' => e = .returned (.bool (fewM l)) ∧ Below w.heap.size w w') := by
  have HA := Lib.hid h
  unfold maxLen at hn
  clear h
  have HN := Lib.hid HA.out.1
  have HT : Hid ((∀ t ∈ l, t.key.size ≤ 100) → fewM l = decide ((n : Int) ≤ 40)) := Lib.hid fun h => by
    unfold fewM
    rw [List.all_eq_true.2 (fun t ht => decide_eq_true (h t ht)), Bool.true_and, HN.out]
    simp; omega
  have HF : Hid (∀ t ∈ l, ¬ t.key.size ≤ 100 → fewM l = false) := Lib.hid fun t ht h => by
    unfold fewM
    rw [Bool.and_eq_false_iff]
    left
    rw [List.all_eq_false]
    exact ⟨t, ht, by simpa using h⟩
  generalize fewM l = fl at *
  go_enter Try.func8, Try.ntmps8
  go_wp2_with fail
  go_loopw [7] (fun j wr => ∃ k : Nat, k ≤ n ∧ j = .int .i64 k ∧ Hid (Below w.heap.size w wr ∧ ∀ i (hi : i < l.length), i < k → l[i].key.size ≤ 100)) (fun j _ => n - (intOf j).toNat)
  case atStart => exact ⟨0, Nat.zero_le _, rfl, Lib.hid ⟨Below.refl _ _, fun i hi h => by omega⟩⟩
  case round =>
    obtain ⟨k, hk, rfl, hS⟩ := hrel
    obtain ⟨hb, hall⟩ := hS.out
    have HB := Lib.hid hb
    have HALL := Lib.hid hall
    clear hS hall
    by_cases hlt : k < n
    · have hk2 : k < l.length := by rw [← HN.out]; exact hlt
      obtain ⟨g, off, rfl, ⟨hx0, hx1, hx2⟩, _, _, _, _, hz⟩ := (HA.out.below hb).2 k hk2
      have hm := List.getElem_mem hk2
      have HX := Lib.hid (HF.out _ hm)
      have HNX : Hid (l[k].key.size ≤ 100 → ∀ i (hi : i < l.length), i < k + 1 → l[i].key.size ≤ 100) := Lib.hid fun h i hi hik => by
        by_cases e : i = k
        · subst e; exact h
        · exact HALL.out i hi (by omega)
      clear hm HALL
      generalize l[k] = x at *
      obtain ⟨xk, xi, xy⟩ := x
      simp only at hx0 hx1 hx2 hz HX HNX
      unfold maxLen at hz
      clear hb
      generalize hsz : xy.size = z at *
      have HB2 := Lib.hid (HB.out.trans ((bel_new wr (.cells #[.int .i64 xk, .int .i64 xi, .string xy] 36)).mono HB.out.size))
      by_cases h100 : (100 : Int) < (z : Int)
      · have h1 := HX.out (by omega)
        subst h1
        have hd : decide ((100 : Int) < (z : Int)) = true := decide_eq_true h100
        clear HX HNX
        go_wp2_with fail
        go_ret
        exact ⟨rfl, HB2.out⟩
      · have hd : decide ((100 : Int) < (z : Int)) = false := decide_eq_false h100
        have HN2 := Lib.hid (HNX.out (by omega))
        clear HX HNX
        go_wp2_with fail
        go_roundw
        case rel => exact ⟨k + 1, by omega, by go_num, Lib.hid ⟨HB2.out, HN2.out⟩⟩
        case measure => simp [intOf]; omega
    · obtain rfl : k = n := by omega
      have he := HT.out fun t ht => by
        obtain ⟨i, hi, rfl⟩ := List.getElem_of_mem ht
        exact HALL.out i hi (by rw [HN.out]; exact hi)
      subst he
      clear HT HF hb
      go_wp2_with fail
      go_ret
      exact ⟨rfl, HB.out⟩
theorem few_len {l : List Mk} (h : fewM l = true) : l.length ≤ 40 := by
  have := (Bool.and_eq_true_iff.1 h).2
  simpa using this

set_option maxRecDepth 100000 in
set_option maxHeartbeats 2000000 in
theorem same_e (a b : Option Addr) (c d n : Nat) (l : List Eg) (w : World) (hn : n = l.length) (hr : Row w 42 2 a n c (egFlat l)) (hs : Row w 42 2 b n d (egFlat l)) (hbig : n ≤ 1000000) :
    Calls Try.prog 21 #[.slice a n c, .slice b n d] w fun e w' => e = .returned (.bool true) ∧ Below w.heap.size w w' := by
  have HR := Lib.hid hr
  have HS := Lib.hid hs
  have HN := Lib.hid hn
  clear hr hs hn
  have hneq : ((n : Int) != (n : Int)) = false := by simp
  go_enter Try.func21, Try.ntmps21
  go_wp2_with fail
  go_loopw [13] (fun jv wr => ∃ q : Nat, q ≤ n ∧ jv = .int .i64 q ∧ Hid (Below w.heap.size w wr)) (fun jv _ => n - (intOf jv).toNat)
  case atStart => exact ⟨0, Nat.zero_le _, rfl, Lib.hid (Below.refl _ _)⟩
  case round =>
    obtain ⟨q, hq, rfl, HB⟩ := hrel
    by_cases hlt : q < n
    · have hlt' : q < l.length := by rw [← HN.out]; exact hlt
      obtain ⟨g, rfl, hx1, hx2⟩ := egAt_row (HR.out.below HB.out) q hlt'
      obtain ⟨g2, rfl, hy1, hy2⟩ := egAt_row (HS.out.below HB.out) q hlt'
      generalize l[q] = z at *
      obtain ⟨za, zb⟩ := z
      simp only at hx1 hx2 hy1 hy2
      go_wp2_with fail
      go_quiet (fail)
      generalize hnq : wr.drewN _ = w4
      have HB4 : Hid (Below w.heap.size w w4) := Lib.hid (by rw [← hnq]; exact HB.out.trans ((bel_drewN wr _).mono HB.out.size))
      clear hnq HB
      go_wp2_with fail
      go_roundw
      case rel => exact ⟨q + 1, by omega, by go_num, HB4⟩
      case measure => simp [intOf]; omega
    · obtain rfl : q = n := by omega
      go_wp2_with fail
      go_ret
      exact ⟨rfl, HB.out⟩

set_option maxRecDepth 100000 in
set_option maxHeartbeats 2000000 in
theorem same_s (a b : Option Addr) (c d n : Nat) (l : List Sr) (w : World) (hn : n = l.length) (hr : Row w 39 2 a n c (srFlat l)) (hs : Row w 39 2 b n d (srFlat l)) (hbig : n ≤ 1000000) :
    Calls Try.prog 24 #[.slice a n c, .slice b n d] w fun e w' => e = .returned (.bool true) ∧ Below w.heap.size w w' := by
  have HR := Lib.hid hr
  have HS := Lib.hid hs
  have HN := Lib.hid hn
  clear hr hs hn
  have hneq : ((n : Int) != (n : Int)) = false := by simp
  go_enter Try.func24, Try.ntmps24
  go_wp2_with fail
  go_loopw [13] (fun jv wr => ∃ q : Nat, q ≤ n ∧ jv = .int .i64 q ∧ Hid (Below w.heap.size w wr)) (fun jv _ => n - (intOf jv).toNat)
  case atStart => exact ⟨0, Nat.zero_le _, rfl, Lib.hid (Below.refl _ _)⟩
  case round =>
    obtain ⟨q, hq, rfl, HB⟩ := hrel
    by_cases hlt : q < n
    · have hlt' : q < l.length := by rw [← HN.out]; exact hlt
      obtain ⟨g, rfl, hx1, hx2⟩ := srAt_row (HR.out.below HB.out) q hlt'
      obtain ⟨g2, rfl, hy1, hy2⟩ := srAt_row (HS.out.below HB.out) q hlt'
      generalize l[q] = z at *
      obtain ⟨za, zb⟩ := z
      simp only at hx1 hx2 hy1 hy2
      go_wp2_with fail
      go_quiet (fail)
      generalize hnq : wr.drewN _ = w4
      have HB4 : Hid (Below w.heap.size w w4) := Lib.hid (by rw [← hnq]; exact HB.out.trans ((bel_drewN wr _).mono HB.out.size))
      clear hnq HB
      go_wp2_with fail
      go_roundw
      case rel => exact ⟨q + 1, by omega, by go_num, HB4⟩
      case measure => simp [intOf]; omega
    · obtain rfl : q = n := by omega
      go_wp2_with fail
      go_ret
      exact ⟨rfl, HB.out⟩

set_option maxRecDepth 100000 in
set_option maxHeartbeats 2000000 in
theorem same_i (a b : Option Addr) (c d n : Nat) (l : List Int) (w : World) (hn : n = l.length) (hr : Row w 3 1 a n c (intsV l)) (hs : Row w 3 1 b n d (intsV l)) (hbig : n ≤ 1000000) :
    Calls Try.prog 23 #[.slice a n c, .slice b n d] w fun e w' => e = .returned (.bool true) ∧ Below w.heap.size w w' := by
  have HR := Lib.hid hr
  have HS := Lib.hid hs
  have HN := Lib.hid hn
  clear hr hs hn
  have hneq : ((n : Int) != (n : Int)) = false := by simp
  go_enter Try.func23, Try.ntmps23
  go_wp2_with fail
  go_loopw [13] (fun jv wr => ∃ q : Nat, q ≤ n ∧ jv = .int .i64 q ∧ Hid (Below w.heap.size w wr)) (fun jv _ => n - (intOf jv).toNat)
  case atStart => exact ⟨0, Nat.zero_le _, rfl, Lib.hid (Below.refl _ _)⟩
  case round =>
    obtain ⟨q, hq, rfl, HB⟩ := hrel
    by_cases hlt : q < n
    · have hlt' : q < l.length := by rw [← HN.out]; exact hlt
      obtain ⟨g, rfl, hx⟩ := (HR.out.below HB.out).cellAt q (by unfold intsV; rw [List.length_map]; exact hlt')
      obtain ⟨g2, rfl, hy⟩ := (HS.out.below HB.out).cellAt q (by unfold intsV; rw [List.length_map]; exact hlt')
      have hx1 : wr.cell? ⟨g, q, none⟩ = some (.int .i64 l[q]) := by rw [hx]; simp [intsV]
      have hy1 : wr.cell? ⟨g2, q, none⟩ = some (.int .i64 l[q]) := by rw [hy]; simp [intsV]
      clear hx hy
      generalize l[q] = z at *
      have hzz : (z != z) = false := by simp
      go_wp2_with fail
      go_quiet (fail)
      generalize hnq : wr.drewN _ = w4
      have HB4 : Hid (Below w.heap.size w w4) := Lib.hid (by rw [← hnq]; exact HB.out.trans ((bel_drewN wr _).mono HB.out.size))
      clear hnq HB
      go_wp2_with fail
      go_roundw
      case rel => exact ⟨q + 1, by omega, by go_num, HB4⟩
      case measure => simp [intOf]; omega
    · obtain rfl : q = n := by omega
      go_wp2_with fail
      go_ret
      exact ⟨rfl, HB.out⟩
end Go.Proofs.Ytbgabdofnmijnaa
