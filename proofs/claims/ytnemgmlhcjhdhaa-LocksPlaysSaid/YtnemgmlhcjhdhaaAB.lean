/- Lines; held. -/
import Derived.Test.YtnemgmlhcjhdhaaAA
namespace Go.Proofs.Ytnemgmlhcjhdhaa
open Go.RowKit
theorem LinesAt.tab {w : World} {p : Nat} {L : List Li} {D : List Nat} (h : TabA p L w D) : ∃ la n c, w.cell? ⟨p, 0, none⟩ = some (.slice la n c) ∧ LinesAt w la n L := by
  obtain ⟨la, n, c, X, hk, hm⟩ := Mem.table (Mem.start h)
  have hl := lnrow_len (Mem.rowAt [BlockA p #[.slice la n c] 59] (r := rowsOf X L ++ []) hm)
  obtain ⟨hk1, hk2⟩ := keys_at hk
  obtain ⟨hc, -⟩ := Mem.cellAt (i := 0) (v := .slice la n c) [] (r := RowA 34 3 la n c (lnFlat X) :: (rowsOf X L ++ [])) hm rfl
  refine ⟨la, n, c, hc, by omega, fun j hj => ?_⟩
  obtain ⟨g, e, h1⟩ := lnAt_row (Mem.rowAt [BlockA p #[.slice la n c] 59] (r := rowsOf X L ++ []) hm) j (by omega)
  obtain ⟨r1, r2⟩ := rowsOf_read [BlockA p #[.slice la n c] 59, RowA 34 3 la n c (lnFlat X)] hm (i := j) (by omega) hj
  exact ⟨g, 0, X[j]'(by omega), e, by rw [Nat.zero_add]; exact h1, hk2 j (by omega) hj, HdsAt.row r1, HdsAt.row r2, row_max r1, row_max r2⟩
set_option maxRecDepth 100000 in
set_option maxHeartbeats 800000 in
theorem tab_lines (p : Nat) (L : List Li) (w : World) (D : List Nat) (h : TabA p L w D) (hb : Sm 1000 L) : Calls Try.prog 12 #[.pointer (some ⟨p, 0, none⟩)] w (NewL w L) := by
  obtain ⟨la, n, c, hc, hl⟩ := LinesAt.tab h
  have HC := Lib.hid (copied_any la n c L w hl hb)
  clear h hl
  go_enter Try.func12, Try.ntmps12
  go_wp2_with fail
  refine HC.out.mono ?_
  rintro e w1 ⟨b, d, X, rfl, hk, hm⟩
  have HF := Lib.hid (And.intro hk hm)
  clear hk hm
  go_wp2_with fail
  go_ret
  exact ⟨b, d, X, rfl, HF.out.1, HF.out.2⟩
set_option maxRecDepth 100000 in
set_option maxHeartbeats 800000 in
theorem none_lines (w : World) : Calls Try.prog 12 #[.pointer none] w fun e w' => e = .returned (.slice none 0 0) ∧ w = w' := by
  go_enter Try.func12, Try.ntmps12
  go_wp2_with fail
  go_ret
  exact ⟨rfl, rfl⟩
set_option maxRecDepth 100000 in
set_option maxHeartbeats 800000 in
theorem none_ask (o : Int) (k : ByteArray) (m : Int) (w : World) : Calls Try.prog 20 #[.pointer none, .int .i64 o, .string k, .int .i64 m] w fun e w' => e = .returned (.int .i64 1) ∧ w = w' := by
  go_enter Try.func20, Try.ntmps20
  go_wp2_with fail
  go_ret
  exact ⟨rfl, rfl⟩
/-- may holders be? -/
def heldF (n : Nat) : Int → List Hd → Bool
  | _, [] => true
  | last, h :: r => !(decide (h.owner ≤ last) || !modeM h.mode || h.mode == 2 && decide (1 < n)) && heldF n h.owner r
def heldB (l : List Hd) : Bool := heldF l.length (-1) l
set_option maxRecDepth 100000 in
set_option maxHeartbeats 2000000 in
theorem held_any (a : Option Addr) (n c : Nat) (l : List Hd) (w : World) (h : HdsAt w a n l) (hn : n ≤ maxLen) :
    Calls Try.prog 56 #[.slice a n c] w fun e w' => e = .returned (.bool (heldB l)) ∧ Below w.heap.size w w' := by
  obtain rfl := h.1
  have HR := Lib.hid h
  unfold maxLen at hn
  clear h
  generalize hr : heldB l = r
  have HV : Hid (heldF l.length (-1) l = r) := Lib.hid hr
  clear hr
  go_enter Try.func56, Try.ntmps56
  go_wp2_with fail
  go_loopw [3, 8] (fun v jv wr => ∃ (i : Nat) (last : Int), i ≤ l.length ∧ jv = .int .i64 (i : Nat) ∧ v = .int .i64 last ∧ Hid (heldF l.length last (l.drop i) = r) ∧ Hid (Below w.heap.size w wr)) (fun _ jv _ => l.length - (intOf jv).toNat)
  case atStart => exact ⟨0, -1, Nat.zero_le _, rfl, rfl, HV, Lib.hid (Below.refl _ _)⟩
  case round =>
    obtain ⟨i, last, hi, rfl, rfl, he, HB⟩ := hrel
    by_cases hlt : i < l.length
    · obtain ⟨g, off, rfl, hx⟩ := HR.out.2 i hlt
      obtain ⟨hc0, hc1⟩ := hx.below HB.out
      have he2 := he.out
      rw [List.drop_eq_getElem_cons hlt] at he2
      generalize l[i] = z at *
      obtain ⟨zo, zm⟩ := z
      simp only at hc0 hc1
      unfold heldF at he2
      simp only at he2
      clear hx he HV
      cases q1 : decide (zo ≤ last) with
      | true =>
        rw [q1] at he2
        simp only [Bool.true_or, Bool.not_true, Bool.false_and] at he2
        subst he2
        go_wp2_with fail
        go_ret
        exact ⟨rfl, bel_one HB.out _⟩
      | false =>
        rw [q1] at he2
        cases q2 : modeM zm with
        | false =>
          rw [q2] at he2
          simp only [Bool.not_false, Bool.or_true, Bool.true_or, Bool.not_true, Bool.false_and] at he2
          subst he2
          have HM := Lib.hid q2
          clear q2
          go_wp2_with fail
          refine (mode_any _ _).mono ?_
          rintro e w1 ⟨rfl, rfl⟩
          rw [HM.out]
          go_wp2_with fail
          go_ret
          exact ⟨rfl, bel_one HB.out _⟩
        | true =>
          rw [q2] at he2
          have HM := Lib.hid q2
          clear q2
          cases q3 : (zm == 2) with
          | false =>
            rw [q3] at he2
            simp only [Bool.not_true, Bool.or_false, Bool.false_and, Bool.not_false, Bool.true_and] at he2
            have HE := Lib.hid he2
            clear he2
            go_wp2_with fail
            refine (mode_any _ _).mono ?_
            rintro e w1 ⟨rfl, rfl⟩
            rw [HM.out]
            go_wp2_with fail
            go_roundw
            case rel => exact ⟨i + 1, zo, by omega, by go_num, rfl, HE, Lib.hid (bel_one HB.out _)⟩
            case measure => simp [intOf]; omega
          | true =>
            rw [q3] at he2
            cases q4 : decide (1 < l.length) with
            | true =>
              have q5 : decide ((1 : Int) < (l.length : Int)) = true := by rw [← q4, decide_eq_decide]; omega
              rw [q4] at he2
              simp only [Bool.not_true, Bool.or_false, Bool.false_and, Bool.and_self, Bool.or_true] at he2
              subst he2
              clear q4
              go_wp2_with fail
              refine (mode_any _ _).mono ?_
              rintro e w1 ⟨rfl, rfl⟩
              rw [HM.out]
              go_wp2_with fail
              go_ret
              exact ⟨rfl, bel_one HB.out _⟩
            | false =>
              have q5 : decide ((1 : Int) < (l.length : Int)) = false := by rw [← q4, decide_eq_decide]; omega
              rw [q4] at he2
              simp only [Bool.not_true, Bool.or_false, Bool.and_false, Bool.not_false, Bool.true_and] at he2
              have HE := Lib.hid he2
              clear he2 q4
              go_wp2_with fail
              refine (mode_any _ _).mono ?_
              rintro e w1 ⟨rfl, rfl⟩
              rw [HM.out]
              go_wp2_with fail
              go_roundw
              case rel => exact ⟨i + 1, zo, by omega, by go_num, rfl, HE, Lib.hid (bel_one HB.out _)⟩
              case measure => simp [intOf]; omega
    · obtain rfl : i = l.length := by omega
      have he2 := he.out
      rw [List.drop_length] at he2
      subst he2
      go_wp2_with fail
      go_ret
      exact ⟨rfl, HB.out⟩
end Go.Proofs.Ytnemgmlhcjhdhaa
