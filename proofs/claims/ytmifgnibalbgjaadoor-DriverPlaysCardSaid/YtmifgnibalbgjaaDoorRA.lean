/- route.right answers what the plain function rightL tells. -/
import Derived.Test.YtmifgnibalbgjaaDoorProg
import Derived.WalkKit
import Derived.WalkSpells
import Derived.WalkLawsBesides
import Derived.Lib.Hide
import Derived.Test.YtmifgnibalbgjaaDoorK
import Derived.Deep.QuietTactic
import Derived.BigQuiet
namespace Go.Proofs.YtmifgnibalbgjaaDoor
open Go.RowKit

def badStr (s : ByteArray) : Bool := s.toList.isEmpty || decide (16 < (s.size : Int))
def anyBad (ss : List ByteArray) : Bool := ss.any badStr
def stepsDown : List ByteArray → Bool
  | [] => false
  | [_] => false
  | s :: t :: r => leStr t s || stepsDown (t :: r)
def rightL (ss : List ByteArray) : Int :=
  if 7 < ss.length then 7 else if anyBad ss then 1 else if stepsDown ss then 5 else 0

theorem anyBad_at {ss : List ByteArray} {k : Nat} (hk : k < ss.length) (h : badStr (ss.getD k ByteArray.empty) = true) : anyBad ss = true := by
  unfold anyBad
  rw [List.any_eq_true]
  exact ⟨ss[k], List.getElem_mem hk, by simpa [List.getD, hk] using h⟩
theorem anyBad_none {ss : List ByteArray} (h : ∀ k, k < ss.length → badStr (ss.getD k ByteArray.empty) = false) : anyBad ss = false := by
  unfold anyBad
  rw [List.any_eq_false]
  intro x hx
  obtain ⟨k, hk, rfl⟩ := List.getElem_of_mem hx
  have := h k hk
  simpa [List.getD, hk] using this
theorem stepsDown_at {ss : List ByteArray} {k : Nat} (hk : k + 1 < ss.length) (h : leStr (ss.getD (k + 1) ByteArray.empty) (ss.getD k ByteArray.empty) = true) : stepsDown ss = true := by
  induction ss generalizing k with
  | nil => simp at hk
  | cons s r ih =>
    cases r with
    | nil => simp at hk
    | cons t r =>
      cases k with
      | zero => simp [List.getD] at h; simp [stepsDown, h]
      | succ k => simp [stepsDown, ih (k := k) (by simpa using hk) (by simpa [List.getD] using h)]
theorem stepsDown_none {ss : List ByteArray} (h : ∀ k, k + 1 < ss.length → leStr (ss.getD (k + 1) ByteArray.empty) (ss.getD k ByteArray.empty) = false) : stepsDown ss = false := by
  induction ss with
  | nil => rfl
  | cons s r ih =>
    cases r with
    | nil => rfl
    | cons t r =>
      have h0 := h 0 (by simp)
      simp [List.getD] at h0
      simp only [stepsDown, h0, Bool.false_or]
      exact ih fun k hk => by have := h (k + 1) (by simpa using hk); simpa [List.getD] using this

theorem badStr_size (s : ByteArray) : badStr s = (decide ((s.size : Int) = 0) || decide (16 < (s.size : Int))) := by
  unfold badStr
  congr 1
  have e : s.toList.length = s.size := by rw [ByteArray.toList_eq]; exact Array.length_toList
  cases h : s.toList with
  | nil => rw [h] at e; have : s.size = 0 := by simpa using e.symm
           simp only [this, List.isEmpty_nil]; rfl
  | cons x r => rw [h] at e; have : s.size ≠ 0 := by have := e.symm; simp at this; omega
                simp only [List.isEmpty_cons]; rw [eq_comm, decide_eq_false_iff_not]; omega

set_option maxHeartbeats 400000 in
theorem right_any (a : Option Addr) (n c : Nat) (ss : List ByteArray) (w : World) (hn : n ≤ maxLen) (h : StrsAt w a n ss) :
    Calls Tryd.prog 23 #[.slice a n c] w fun e w' => e = .returned (.int .i64 (rightL ss)) ∧ ∃ k, w' = w.drewN k := by
  unfold maxLen at hn
  obtain ⟨hl, hc⟩ := h
  have HL : Hid (n = ss.length) := Lib.hid hl
  clear hl
  have HC := Lib.hid hc
  clear hc
  by_cases h7 : 7 < n
  · have H : Hid (rightL ss = 7) := by rw [rightL, if_pos (by have := HL.out; omega)]; exact Lib.hid rfl
    go_enter Tryd.func23, Tryd.ntmps23
    go_wp2
    go_ret
    exact ⟨by rw [H.out]; rfl, 0, rfl⟩
  go_enter Tryd.func23, Tryd.ntmps23
  go_wp2
  go_loop [4, 11] (fun _ i => ∃ k : Nat, k ≤ n ∧ (Hid (∀ j, j < k → badStr (ss.getD j ByteArray.empty) = false)) ∧ i = .int .i64 k) (fun _ i => n - (intOf i).toNat)
  case atStart => exact ⟨0, Nat.zero_le _, Lib.hid (fun j hj => absurd hj (by omega)), rfl⟩
  case round =>
    obtain ⟨k, hk, hall, rfl⟩ := hrel
    by_cases hlt : k < n
    · obtain ⟨b, off, rfl, hcell⟩ := HC.out k hlt
      cases hb : badStr (ss.getD k ByteArray.empty) with
      | true =>
        have H : Hid (rightL ss = 1) := by rw [rightL, if_neg (by have := HL.out; omega), anyBad_at (by have := HL.out; omega) hb]; exact Lib.hid rfl
        have hb' : badStr (ss[k]?.getD ByteArray.empty) = true := hb
        unfold badStr at hb'
        clear hb
        by_cases he : (ss[k]?.getD ByteArray.empty).toList.isEmpty = true
        · clear hb'
          go_wp2
          go_ret
          exact ⟨by rw [H.out]; rfl, 0, rfl⟩
        · have he' : (ss[k]?.getD ByteArray.empty).toList.isEmpty = false := by simpa using he
          clear he
          have hb2 : 16 < ((ss[k]?.getD ByteArray.empty).size : Int) := by simpa [he'] using hb'
          clear hb'
          go_wp2
          go_ret
          exact ⟨by rw [H.out]; rfl, 0, rfl⟩
      | false =>
        have Hn : Hid (∀ j, j < k + 1 → badStr (ss.getD j ByteArray.empty) = false) := Lib.hid fun j hj => by
          by_cases e : j = k
          · subst e; exact hb
          · exact hall.out j (by omega)
        have hb' : badStr (ss[k]?.getD ByteArray.empty) = false := hb
        unfold badStr at hb'
        simp only [Bool.or_eq_false_iff] at hb'
        obtain ⟨he, hs⟩ := hb'
        clear hb hall
        have hs' : ¬ 16 < ((ss[k]?.getD ByteArray.empty).size : Int) := by simpa using hs
        clear hs
        go_wp2
        go_round
        case rel => exact ⟨k + 1, by omega, Hn, by go_num⟩
        case measure => simp [intOf]; omega
    · have hkn : k = n := by omega
      have HA : Hid (anyBad ss = false) := Lib.hid (anyBad_none fun j hj => hall.out j (by have := HL.out; omega))
      clear hall
      go_wp2
      go_loopw [5, 25] (fun _ i wr => ∃ k : Nat, k ≤ n ∧ (Hid (∀ j, j + 1 < k → leStr (ss.getD (j + 1) ByteArray.empty) (ss.getD j ByteArray.empty) = false)) ∧ i = .int .i64 k ∧ ∃ q, wr = w.drewN q) (fun _ i _ => n - (intOf i).toNat)
      case atStart => exact ⟨0, Nat.zero_le _, Lib.hid (fun j hj => absurd hj (by omega)), rfl, 0, rfl⟩
      case round =>
        obtain ⟨k, hk, hall, rfl, q, rfl⟩ := hrel
        by_cases hlt : k < n
        · by_cases h0 : k = 0
          · subst h0
            have hd : decide ((0 : Int) < ((0 : Nat) : Int)) = false := by decide
            have Hn : Hid (∀ j, j + 1 < 1 → leStr (ss.getD (j + 1) ByteArray.empty) (ss.getD j ByteArray.empty) = false) := Lib.hid fun j hj => absurd hj (by omega)
            go_wp2
            go_quiet (fail)
            go_wp2
            go_roundw
            case rel => exact ⟨1, by omega, Hn, by go_num, _, rfl⟩
            case measure => simp [intOf]; omega
          · obtain ⟨m, rfl⟩ : ∃ m, k = m + 1 := ⟨k - 1, by omega⟩
            obtain ⟨b, off, rfl, hcell⟩ := HC.out (m + 1) hlt
            obtain ⟨b', off', e', hcell2⟩ := HC.out m (by omega)
            simp only [Option.some.injEq, Addr.mk.injEq, and_true] at e'
            obtain ⟨rfl, rfl⟩ := e'
            have hd : decide ((0 : Int) < ((m + 1 : Nat) : Int)) = true := by simp
            cases hle : leStr (ss.getD (m + 1) ByteArray.empty) (ss.getD m ByteArray.empty) with
            | true =>
              have H : Hid (rightL ss = 5) := by rw [rightL, if_neg (by have := HL.out; omega), HA.out, stepsDown_at (by have := HL.out; omega) hle]; exact Lib.hid rfl
              have hle' : (Op.bytesLess (ss[m + 1]?.getD ByteArray.empty).toList (ss[m]?.getD ByteArray.empty).toList || (ss[m + 1]?.getD ByteArray.empty).toList == (ss[m]?.getD ByteArray.empty).toList) = true := hle
              clear hle
              go_wp2
              go_quiet (fail)
              go_wp2
              go_ret
              exact ⟨by rw [H.out]; rfl, _, by first | exact rfl | exact World.drewN_drewN _ _ _⟩
            | false =>
              have Hn : Hid (∀ j, j + 1 < m + 1 + 1 → leStr (ss.getD (j + 1) ByteArray.empty) (ss.getD j ByteArray.empty) = false) := Lib.hid fun j hj => by
                by_cases e : j = m
                · subst e; exact hle
                · exact hall.out j (by omega)
              have hle' : (Op.bytesLess (ss[m + 1]?.getD ByteArray.empty).toList (ss[m]?.getD ByteArray.empty).toList || (ss[m + 1]?.getD ByteArray.empty).toList == (ss[m]?.getD ByteArray.empty).toList) = false := hle
              clear hle hall
              go_wp2
              go_quiet (fail)
              go_wp2
              go_roundw
              case rel => exact ⟨m + 1 + 1, by omega, Hn, by go_num, _, rfl⟩
              case measure => simp [intOf]; omega
        · have H : Hid (rightL ss = 0) := by
            rw [rightL, if_neg (by have := HL.out; omega), HA.out, stepsDown_none fun j hj => hall.out j (by have := HL.out; omega)]; exact Lib.hid rfl
          go_wp2
          go_ret
          exact ⟨by rw [H.out]; rfl, _, by first | exact rfl | exact World.drewN_drewN _ _ _⟩
set_option maxHeartbeats 400000 in
theorem refRight_any (a : Option Addr) (n c : Nat) (ss : List ByteArray) (w : World) (hn : n ≤ maxLen) (h : StrsAt w a n ss) :
    Calls Tryd.prog 13 #[.slice a n c] w fun e w' => e = .returned (.int .i64 (rightL ss)) ∧ ∃ k, w' = w.drewN k := by
  unfold maxLen at hn
  obtain ⟨hl, hc⟩ := h
  have HL : Hid (n = ss.length) := Lib.hid hl
  clear hl
  have HC := Lib.hid hc
  clear hc
  by_cases h7 : 7 < n
  · have H : Hid (rightL ss = 7) := by rw [rightL, if_pos (by have := HL.out; omega)]; exact Lib.hid rfl
    go_enter Tryd.func13, Tryd.ntmps13
    go_wp2
    go_ret
    exact ⟨by rw [H.out]; rfl, 0, rfl⟩
  go_enter Tryd.func13, Tryd.ntmps13
  go_wp2
  go_loop [4, 11] (fun _ i => ∃ k : Nat, k ≤ n ∧ (Hid (∀ j, j < k → badStr (ss.getD j ByteArray.empty) = false)) ∧ i = .int .i64 k) (fun _ i => n - (intOf i).toNat)
  case atStart => exact ⟨0, Nat.zero_le _, Lib.hid (fun j hj => absurd hj (by omega)), rfl⟩
  case round =>
    obtain ⟨k, hk, hall, rfl⟩ := hrel
    by_cases hlt : k < n
    · obtain ⟨b, off, rfl, hcell⟩ := HC.out k hlt
      cases hb : badStr (ss.getD k ByteArray.empty) with
      | true =>
        have H : Hid (rightL ss = 1) := by rw [rightL, if_neg (by have := HL.out; omega), anyBad_at (by have := HL.out; omega) hb]; exact Lib.hid rfl
        have hb' : (decide (((ss[k]?.getD ByteArray.empty).size : Int) = 0) || decide (16 < ((ss[k]?.getD ByteArray.empty).size : Int))) = true := by rw [← badStr_size]; exact hb
        clear hb
        by_cases he : ((ss[k]?.getD ByteArray.empty).size : Int) = 0
        · clear hb'
          have he' : (((ss[k]?.getD ByteArray.empty).size : Int) == 0) = true := by simpa using he
          clear he
          go_wp2
          go_ret
          exact ⟨by rw [H.out]; rfl, 0, rfl⟩
        · have he' : (((ss[k]?.getD ByteArray.empty).size : Int) == 0) = false := by simpa using he
          have hb2 : 16 < ((ss[k]?.getD ByteArray.empty).size : Int) := by rw [decide_eq_false he] at hb'; exact of_decide_eq_true hb'
          clear hb'
          go_wp2
          go_ret
          exact ⟨by rw [H.out]; rfl, 0, rfl⟩
      | false =>
        have Hn : Hid (∀ j, j < k + 1 → badStr (ss.getD j ByteArray.empty) = false) := Lib.hid fun j hj => by
          by_cases e : j = k
          · subst e; exact hb
          · exact hall.out j (by omega)
        have hb' : (decide (((ss[k]?.getD ByteArray.empty).size : Int) = 0) || decide (16 < ((ss[k]?.getD ByteArray.empty).size : Int))) = false := by rw [← badStr_size]; exact hb
        simp only [Bool.or_eq_false_iff] at hb'
        obtain ⟨he, hs⟩ := hb'
        clear hb hall
        have he' : (((ss[k]?.getD ByteArray.empty).size : Int) == 0) = false := by simpa using he
        clear he
        have hs' : ¬ 16 < ((ss[k]?.getD ByteArray.empty).size : Int) := by simpa using hs
        clear hs
        go_wp2
        go_round
        case rel => exact ⟨k + 1, by omega, Hn, by go_num⟩
        case measure => simp [intOf]; omega
    · have hkn : k = n := by omega
      have HA : Hid (anyBad ss = false) := Lib.hid (anyBad_none fun j hj => hall.out j (by have := HL.out; omega))
      clear hall
      go_wp2
      go_loopw [5] (fun i wr => ∃ k : Nat, (k ≤ n ∨ k = 1) ∧ 1 ≤ k ∧ (Hid (∀ j, j + 1 < k → leStr (ss.getD (j + 1) ByteArray.empty) (ss.getD j ByteArray.empty) = false)) ∧ i = .int .i64 k ∧ ∃ q, wr = w.drewN q) (fun i _ => n - (intOf i).toNat)
      case atStart => exact ⟨1, by omega, by omega, Lib.hid (fun j hj => absurd hj (by omega)), rfl, 0, rfl⟩
      case round =>
        obtain ⟨k, hk, hk1, hall, rfl, q, rfl⟩ := hrel
        by_cases hlt : k < n
        · obtain ⟨m, rfl⟩ : ∃ m, k = m + 1 := ⟨k - 1, by omega⟩
          obtain ⟨b, off, rfl, hcell⟩ := HC.out (m + 1) hlt
          obtain ⟨b', off', e', hcell2⟩ := HC.out m (by omega)
          simp only [Option.some.injEq, Addr.mk.injEq, and_true] at e'
          obtain ⟨rfl, rfl⟩ := e'
          have hle0 := leStr_iff (ss.getD (m + 1) ByteArray.empty) (ss.getD m ByteArray.empty)
          cases hle : leStr (ss.getD (m + 1) ByteArray.empty) (ss.getD m ByteArray.empty) with
          | true =>
            have H : Hid (rightL ss = 5) := by rw [rightL, if_neg (by have := HL.out; omega), HA.out, stepsDown_at (by have := HL.out; omega) hle]; exact Lib.hid rfl
            have hle' : Op.bytesLess (ss[m]?.getD ByteArray.empty).toList (ss[m + 1]?.getD ByteArray.empty).toList = false := by rw [hle] at hle0; cases hh : Op.bytesLess (ss[m]?.getD ByteArray.empty).toList (ss[m + 1]?.getD ByteArray.empty).toList with | true => exact absurd (hle0.trans (congrArg not hh)) (by decide) | false => rfl
            clear hle hle0
            go_wp2
            go_quiet (fail)
            go_wp2
            go_ret
            exact ⟨by rw [H.out]; rfl, _, by first | exact rfl | exact World.drewN_drewN _ _ _⟩
          | false =>
            have Hn : Hid (∀ j, j + 1 < m + 1 + 1 → leStr (ss.getD (j + 1) ByteArray.empty) (ss.getD j ByteArray.empty) = false) := Lib.hid fun j hj => by
              by_cases e : j = m
              · subst e; exact hle
              · exact hall.out j (by omega)
            have hle' : Op.bytesLess (ss[m]?.getD ByteArray.empty).toList (ss[m + 1]?.getD ByteArray.empty).toList = true := by rw [hle] at hle0; cases hh : Op.bytesLess (ss[m]?.getD ByteArray.empty).toList (ss[m + 1]?.getD ByteArray.empty).toList with | true => rfl | false => exact absurd (hle0.trans (congrArg not hh)) (by decide)
            clear hle hle0 hall
            go_wp2
            go_quiet (fail)
            go_wp2
            go_roundw
            case rel => exact ⟨m + 1 + 1, by omega, by omega, Hn, by go_num, _, rfl⟩
            case measure => simp [intOf]; omega
        · have H : Hid (rightL ss = 0) := by
            rw [rightL, if_neg (by have := HL.out; omega), HA.out, stepsDown_none fun j hj => hall.out j (by have := HL.out; omega)]; exact Lib.hid rfl
          go_wp2
          go_ret
          exact ⟨by rw [H.out]; rfl, _, by first | exact rfl | exact World.drewN_drewN _ _ _⟩
end Go.Proofs.YtmifgnibalbgjaaDoor

