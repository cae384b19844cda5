/- What comes behind an attempt; its end. -/
import Derived.Test.YtmifgnibalbgjaaDoorL
namespace Go.Proofs.YtmifgnibalbgjaaDoor
open Go.RowKit
def behindM (d : Dr) : Dr :=
  if d.outcome = 2 then { d with phase := 8, tl := [] }
  else if d.quits = true ∨ d.tries ≤ d.attempt + 1 then { d with phase := 8, res := [], tl := [] }
  else { d with attempt := d.attempt + 1, phase := 0, outcome := 1, last := rs0, res := [], tl := [] }
def endsM (d : Dr) (s : Int) : Dr := if d.tl = [] then behindM { d with outcome := s, phase := 7 } else { d with outcome := s, phase := 7 }
section
variable {w0 w : World} {D0 : List Nat} {g mg : Nat} {l : List Opp} {d : Dr} {ss : List ByteArray} {r : List Asn}
theorem Mem.dropAt {w0 w : World} {D0 : List Nat} (L : List Asn) {A : Asn} {r : List Asn} [Stable A] [Stables L] [Stables r] (h : Mem w0 D0 w (L ++ A :: r)) : Mem w0 D0 w (L ++ r) := Mem.drop L h
theorem Mem.nilRow {w0 w : World} {D0 : List Nat} {L r : List Asn} (E k : Nat) (h : Mem w0 D0 w (L ++ r)) : Mem w0 D0 w (L ++ RowA E k none 0 0 [] :: r) :=
  Mem.swapIn (Mem.nilIn h) fun _D hD => ⟨hD, Row.nil _ _ _⟩
variable [Stables r]
set_option maxRecDepth 100000 in
set_option maxHeartbeats 8000000 in
theorem behind_any {pa : Option Addr} {pc : Nat} {ra : Option Addr} {rc : Nat} {t0 : Option Addr} {t1 t2 : Nat} {la : Option Addr} {l1 l2 : Nat} (M : Mem w0 D0 w (drL g mg l d pa pc ra rc (.slice t0 t1 t2) (.slice la l1 l2) ++ r)) (ha : -1 ≤ d.attempt ∧ d.attempt ≤ 1048576) :
    Calls Tryd.prog 32 #[.pointer (some ⟨g, 0, none⟩)] w fun e w' => e = .returned (.tuple #[]) ∧ Mem w0 D0 w' (DrA g mg l (behindM d) :: r) := by
  have hg := Mem.heapAt [] M
  obtain ⟨c15, cf15⟩ := drC_cell hg 15 (.int .i64 d.outcome) rfl
  obtain ⟨c6, cf6⟩ := drC_cell hg 6 (.int .i64 d.phase) rfl
  have HM := Lib.hid M
  obtain ⟨tx, stamp, tries, attempt, phase, nth, last, write, res, tl, outcome, quits⟩ := d
  obtain ⟨lastv, lasth⟩ := last
  obtain ⟨writev, writeh⟩ := write
  simp only at c15 cf15 c6 cf6 ha
  by_cases h2 : outcome = 2
  · subst h2
    have HE : Hid (behindM ⟨tx, stamp, tries, attempt, phase, nth, ⟨lastv, lasth⟩, ⟨writev, writeh⟩, res, tl, 2, quits⟩ = ⟨tx, stamp, tries, attempt, 8, nth, ⟨lastv, lasth⟩, ⟨writev, writeh⟩, res, [], 2, quits⟩) := Lib.hid rfl
    clear hg M
    go_enter Tryd.func32, Tryd.ntmps32
    go_wp2_with fail
    go_end0
    refine ⟨rfl, ?_⟩
    rw [HE.out]
    have m0 : Mem w0 D0 (w.setCell ⟨g, 6, none⟩ (.int .i64 8)) (BlockA g #[.int .i64 tx, .int .i64 stamp, .int .i64 tries, .pointer (some ⟨mg, 0, none⟩), .slice pa l.length pc, .int .i64 attempt, .int .i64 8, .int .i64 nth, .string lastv, .bool lasth, .string writev, .bool writeh, .slice ra res.length rc, .slice t0 t1 t2, .slice la l1 l2, .int .i64 2, .bool quits] 69 :: ([RowA 60 4 pa l.length pc (opFlat l), RowA 52 2 ra res.length rc (rsFlat res)] ++ r)) := Mem.setAt [] (r := ([RowA 60 4 pa l.length pc (opFlat l), RowA 52 2 ra res.length rc (rsFlat res)] ++ r)) (i := 6) HM.out (.int .i64 8)
    exact Mem.closeO (d := ⟨tx, stamp, tries, attempt, 8, nth, ⟨lastv, lasth⟩, ⟨writev, writeh⟩, res, [], 2, quits⟩) m0 (by simp)
  have b2 : (outcome == 2) = false := by simpa using h2
  obtain ⟨c16, -⟩ := drC_cell hg 16 (.bool quits) rfl
  obtain ⟨c5, cf5⟩ := drC_cell hg 5 (.int .i64 attempt) rfl
  obtain ⟨c2, -⟩ := drC_cell hg 2 (.int .i64 tries) rfl
  obtain ⟨c8, cf8⟩ := drC_cell hg 8 (.string lastv) rfl
  obtain ⟨c9, cf9⟩ := drC_cell hg 9 (.bool lasth) rfl
  obtain ⟨c12, cf12⟩ := drC_cell hg 12 (.slice ra res.length rc) rfl
  obtain ⟨c13, cf13⟩ := drC_cell hg 13 (.slice t0 t1 t2) rfl
  obtain ⟨c14, cf14⟩ := drC_cell hg 14 (.slice la l1 l2) rfl
  clear hg M
  have FIN8 : Hid (∀ W, Mem w0 D0 W (BlockA g #[.int .i64 tx, .int .i64 stamp, .int .i64 tries, .pointer (some ⟨mg, 0, none⟩), .slice pa l.length pc, .int .i64 attempt, .int .i64 8, .int .i64 nth, .string lastv, .bool lasth, .string writev, .bool writeh, .slice none 0 0, .slice t0 t1 t2, .slice la l1 l2, .int .i64 outcome, .bool quits] 69 :: [RowA 60 4 pa l.length pc (opFlat l), RowA 52 2 ra res.length rc (rsFlat res)] ++ r) → Mem w0 D0 W (DrA g mg l ⟨tx, stamp, tries, attempt, 8, nth, ⟨lastv, lasth⟩, ⟨writev, writeh⟩, [], [], outcome, quits⟩ :: r)) := Lib.hid fun W h => by
    have h1 := Mem.drop [BlockA g #[.int .i64 tx, .int .i64 stamp, .int .i64 tries, .pointer (some ⟨mg, 0, none⟩), .slice pa l.length pc, .int .i64 attempt, .int .i64 8, .int .i64 nth, .string lastv, .bool lasth, .string writev, .bool writeh, .slice none 0 0, .slice t0 t1 t2, .slice la l1 l2, .int .i64 outcome, .bool quits] 69, RowA 60 4 pa l.length pc (opFlat l)] (A := RowA 52 2 ra res.length rc (rsFlat res)) (r := r) h
    have h2 := Mem.nilRow (L := [BlockA g #[.int .i64 tx, .int .i64 stamp, .int .i64 tries, .pointer (some ⟨mg, 0, none⟩), .slice pa l.length pc, .int .i64 attempt, .int .i64 8, .int .i64 nth, .string lastv, .bool lasth, .string writev, .bool writeh, .slice none 0 0, .slice t0 t1 t2, .slice la l1 l2, .int .i64 outcome, .bool quits] 69, RowA 60 4 pa l.length pc (opFlat l)]) 52 2 h1
    exact Mem.closeO (d := ⟨tx, stamp, tries, attempt, 8, nth, ⟨lastv, lasth⟩, ⟨writev, writeh⟩, [], [], outcome, quits⟩) h2 (by simp)
  cases quits with
  | true =>
    have HE : Hid (behindM ⟨tx, stamp, tries, attempt, phase, nth, ⟨lastv, lasth⟩, ⟨writev, writeh⟩, res, tl, outcome, true⟩ = ⟨tx, stamp, tries, attempt, 8, nth, ⟨lastv, lasth⟩, ⟨writev, writeh⟩, [], [], outcome, true⟩) := Lib.hid (by unfold behindM; simp only; rw [if_neg h2, if_pos (by simp)])
    clear h2
    go_enter Tryd.func32, Tryd.ntmps32
    go_wp2_with fail
    go_quiet (fail)
    go_wp2_with fail
    go_end0
    refine ⟨rfl, ?_⟩
    rw [HE.out]
    apply FIN8.out
    have m0 : Mem w0 D0 ((w.drewN nq).setCell ⟨g, 6, none⟩ (.int .i64 8)) (BlockA g #[.int .i64 tx, .int .i64 stamp, .int .i64 tries, .pointer (some ⟨mg, 0, none⟩), .slice pa l.length pc, .int .i64 attempt, .int .i64 8, .int .i64 nth, .string lastv, .bool lasth, .string writev, .bool writeh, .slice ra res.length rc, .slice t0 t1 t2, .slice la l1 l2, .int .i64 outcome, .bool true] 69 :: ([RowA 60 4 pa l.length pc (opFlat l), RowA 52 2 ra res.length rc (rsFlat res)] ++ r)) := Mem.setAt [] (r := ([RowA 60 4 pa l.length pc (opFlat l), RowA 52 2 ra res.length rc (rsFlat res)] ++ r)) (i := 6) (HM.out.below (bel_drewN _ nq)) (.int .i64 8)
    have m1 : Mem w0 D0 (((w.drewN nq).setCell ⟨g, 6, none⟩ (.int .i64 8)).setCell ⟨g, 12, none⟩ (.slice none 0 0)) (BlockA g #[.int .i64 tx, .int .i64 stamp, .int .i64 tries, .pointer (some ⟨mg, 0, none⟩), .slice pa l.length pc, .int .i64 attempt, .int .i64 8, .int .i64 nth, .string lastv, .bool lasth, .string writev, .bool writeh, .slice none 0 0, .slice t0 t1 t2, .slice la l1 l2, .int .i64 outcome, .bool true] 69 :: ([RowA 60 4 pa l.length pc (opFlat l), RowA 52 2 ra res.length rc (rsFlat res)] ++ r)) := Mem.setAt [] (r := ([RowA 60 4 pa l.length pc (opFlat l), RowA 52 2 ra res.length rc (rsFlat res)] ++ r)) (i := 12) m0 (.slice none 0 0)
    exact m1
  | false =>
    have hw := IntWalk.i64_in (attempt + 1) (by omega)
    by_cases hl : tries ≤ attempt + 1
    · have HE : Hid (behindM ⟨tx, stamp, tries, attempt, phase, nth, ⟨lastv, lasth⟩, ⟨writev, writeh⟩, res, tl, outcome, false⟩ = ⟨tx, stamp, tries, attempt, 8, nth, ⟨lastv, lasth⟩, ⟨writev, writeh⟩, [], [], outcome, false⟩) := Lib.hid (by unfold behindM; simp only; rw [if_neg h2, if_pos (.inr hl)])
      have hd : decide (tries ≤ attempt + 1) = true := decide_eq_true hl
      clear h2
      go_enter Tryd.func32, Tryd.ntmps32
      go_wp2_with fail
      go_quiet (fail)
      go_wp2_with fail
      go_end0
      refine ⟨rfl, ?_⟩
      rw [HE.out]
      apply FIN8.out
      have m0 : Mem w0 D0 ((w.drewN nq).setCell ⟨g, 6, none⟩ (.int .i64 8)) (BlockA g #[.int .i64 tx, .int .i64 stamp, .int .i64 tries, .pointer (some ⟨mg, 0, none⟩), .slice pa l.length pc, .int .i64 attempt, .int .i64 8, .int .i64 nth, .string lastv, .bool lasth, .string writev, .bool writeh, .slice ra res.length rc, .slice t0 t1 t2, .slice la l1 l2, .int .i64 outcome, .bool false] 69 :: ([RowA 60 4 pa l.length pc (opFlat l), RowA 52 2 ra res.length rc (rsFlat res)] ++ r)) := Mem.setAt [] (r := ([RowA 60 4 pa l.length pc (opFlat l), RowA 52 2 ra res.length rc (rsFlat res)] ++ r)) (i := 6) (HM.out.below (bel_drewN _ nq)) (.int .i64 8)
      have m1 : Mem w0 D0 (((w.drewN nq).setCell ⟨g, 6, none⟩ (.int .i64 8)).setCell ⟨g, 12, none⟩ (.slice none 0 0)) (BlockA g #[.int .i64 tx, .int .i64 stamp, .int .i64 tries, .pointer (some ⟨mg, 0, none⟩), .slice pa l.length pc, .int .i64 attempt, .int .i64 8, .int .i64 nth, .string lastv, .bool lasth, .string writev, .bool writeh, .slice none 0 0, .slice t0 t1 t2, .slice la l1 l2, .int .i64 outcome, .bool false] 69 :: ([RowA 60 4 pa l.length pc (opFlat l), RowA 52 2 ra res.length rc (rsFlat res)] ++ r)) := Mem.setAt [] (r := ([RowA 60 4 pa l.length pc (opFlat l), RowA 52 2 ra res.length rc (rsFlat res)] ++ r)) (i := 12) m0 (.slice none 0 0)
      exact m1
    · have HE : Hid (behindM ⟨tx, stamp, tries, attempt, phase, nth, ⟨lastv, lasth⟩, ⟨writev, writeh⟩, res, tl, outcome, false⟩ = ⟨tx, stamp, tries, attempt + 1, 0, nth, rs0, ⟨writev, writeh⟩, [], [], 1, false⟩) := Lib.hid (by unfold behindM; simp only; rw [if_neg h2, if_neg (by simp [hl])])
      have hd : decide (tries ≤ attempt + 1) = false := decide_eq_false hl
      clear h2 FIN8
      go_enter Tryd.func32, Tryd.ntmps32
      go_wp2_with fail
      go_quiet (fail)
      go_wp2_with fail
      go_end0
      refine ⟨rfl, ?_⟩
      rw [HE.out]
      have m0 : Mem w0 D0 ((w.drewN nq).setCell ⟨g, 5, none⟩ (.int .i64 (attempt + 1))) (BlockA g #[.int .i64 tx, .int .i64 stamp, .int .i64 tries, .pointer (some ⟨mg, 0, none⟩), .slice pa l.length pc, .int .i64 (attempt + 1), .int .i64 phase, .int .i64 nth, .string lastv, .bool lasth, .string writev, .bool writeh, .slice ra res.length rc, .slice t0 t1 t2, .slice la l1 l2, .int .i64 outcome, .bool false] 69 :: ([RowA 60 4 pa l.length pc (opFlat l), RowA 52 2 ra res.length rc (rsFlat res)] ++ r)) := Mem.setAt [] (r := ([RowA 60 4 pa l.length pc (opFlat l), RowA 52 2 ra res.length rc (rsFlat res)] ++ r)) (i := 5) (HM.out.below (bel_drewN _ nq)) (.int .i64 (attempt + 1))
      have m1 : Mem w0 D0 (((w.drewN nq).setCell ⟨g, 5, none⟩ (.int .i64 (attempt + 1))).setCell ⟨g, 6, none⟩ (.int .i64 0)) (BlockA g #[.int .i64 tx, .int .i64 stamp, .int .i64 tries, .pointer (some ⟨mg, 0, none⟩), .slice pa l.length pc, .int .i64 (attempt + 1), .int .i64 0, .int .i64 nth, .string lastv, .bool lasth, .string writev, .bool writeh, .slice ra res.length rc, .slice t0 t1 t2, .slice la l1 l2, .int .i64 outcome, .bool false] 69 :: ([RowA 60 4 pa l.length pc (opFlat l), RowA 52 2 ra res.length rc (rsFlat res)] ++ r)) := Mem.setAt [] (r := ([RowA 60 4 pa l.length pc (opFlat l), RowA 52 2 ra res.length rc (rsFlat res)] ++ r)) (i := 6) m0 (.int .i64 0)
      have m2 : Mem w0 D0 ((((w.drewN nq).setCell ⟨g, 5, none⟩ (.int .i64 (attempt + 1))).setCell ⟨g, 6, none⟩ (.int .i64 0)).setCell ⟨g, 15, none⟩ (.int .i64 1)) (BlockA g #[.int .i64 tx, .int .i64 stamp, .int .i64 tries, .pointer (some ⟨mg, 0, none⟩), .slice pa l.length pc, .int .i64 (attempt + 1), .int .i64 0, .int .i64 nth, .string lastv, .bool lasth, .string writev, .bool writeh, .slice ra res.length rc, .slice t0 t1 t2, .slice la l1 l2, .int .i64 1, .bool false] 69 :: ([RowA 60 4 pa l.length pc (opFlat l), RowA 52 2 ra res.length rc (rsFlat res)] ++ r)) := Mem.setAt [] (r := ([RowA 60 4 pa l.length pc (opFlat l), RowA 52 2 ra res.length rc (rsFlat res)] ++ r)) (i := 15) m1 (.int .i64 1)
      have m3 : Mem w0 D0 (((((w.drewN nq).setCell ⟨g, 5, none⟩ (.int .i64 (attempt + 1))).setCell ⟨g, 6, none⟩ (.int .i64 0)).setCell ⟨g, 15, none⟩ (.int .i64 1)).setCell ⟨g, 8, none⟩ (.string ⟨#[]⟩)) (BlockA g #[.int .i64 tx, .int .i64 stamp, .int .i64 tries, .pointer (some ⟨mg, 0, none⟩), .slice pa l.length pc, .int .i64 (attempt + 1), .int .i64 0, .int .i64 nth, .string ⟨#[]⟩, .bool lasth, .string writev, .bool writeh, .slice ra res.length rc, .slice t0 t1 t2, .slice la l1 l2, .int .i64 1, .bool false] 69 :: ([RowA 60 4 pa l.length pc (opFlat l), RowA 52 2 ra res.length rc (rsFlat res)] ++ r)) := Mem.setAt [] (r := ([RowA 60 4 pa l.length pc (opFlat l), RowA 52 2 ra res.length rc (rsFlat res)] ++ r)) (i := 8) m2 (.string ⟨#[]⟩)
      have m4 : Mem w0 D0 ((((((w.drewN nq).setCell ⟨g, 5, none⟩ (.int .i64 (attempt + 1))).setCell ⟨g, 6, none⟩ (.int .i64 0)).setCell ⟨g, 15, none⟩ (.int .i64 1)).setCell ⟨g, 8, none⟩ (.string ⟨#[]⟩)).setCell ⟨g, 9, none⟩ (.bool false)) (BlockA g #[.int .i64 tx, .int .i64 stamp, .int .i64 tries, .pointer (some ⟨mg, 0, none⟩), .slice pa l.length pc, .int .i64 (attempt + 1), .int .i64 0, .int .i64 nth, .string ⟨#[]⟩, .bool false, .string writev, .bool writeh, .slice ra res.length rc, .slice t0 t1 t2, .slice la l1 l2, .int .i64 1, .bool false] 69 :: ([RowA 60 4 pa l.length pc (opFlat l), RowA 52 2 ra res.length rc (rsFlat res)] ++ r)) := Mem.setAt [] (r := ([RowA 60 4 pa l.length pc (opFlat l), RowA 52 2 ra res.length rc (rsFlat res)] ++ r)) (i := 9) m3 (.bool false)
      have m5 : Mem w0 D0 (((((((w.drewN nq).setCell ⟨g, 5, none⟩ (.int .i64 (attempt + 1))).setCell ⟨g, 6, none⟩ (.int .i64 0)).setCell ⟨g, 15, none⟩ (.int .i64 1)).setCell ⟨g, 8, none⟩ (.string ⟨#[]⟩)).setCell ⟨g, 9, none⟩ (.bool false)).setCell ⟨g, 12, none⟩ (.slice none 0 0)) (BlockA g #[.int .i64 tx, .int .i64 stamp, .int .i64 tries, .pointer (some ⟨mg, 0, none⟩), .slice pa l.length pc, .int .i64 (attempt + 1), .int .i64 0, .int .i64 nth, .string ⟨#[]⟩, .bool false, .string writev, .bool writeh, .slice none 0 0, .slice t0 t1 t2, .slice la l1 l2, .int .i64 1, .bool false] 69 :: ([RowA 60 4 pa l.length pc (opFlat l), RowA 52 2 ra res.length rc (rsFlat res)] ++ r)) := Mem.setAt [] (r := ([RowA 60 4 pa l.length pc (opFlat l), RowA 52 2 ra res.length rc (rsFlat res)] ++ r)) (i := 12) m4 (.slice none 0 0)
      have m6 : Mem w0 D0 ((((((((w.drewN nq).setCell ⟨g, 5, none⟩ (.int .i64 (attempt + 1))).setCell ⟨g, 6, none⟩ (.int .i64 0)).setCell ⟨g, 15, none⟩ (.int .i64 1)).setCell ⟨g, 8, none⟩ (.string ⟨#[]⟩)).setCell ⟨g, 9, none⟩ (.bool false)).setCell ⟨g, 12, none⟩ (.slice none 0 0)).setCell ⟨g, 13, none⟩ (.slice none 0 0)) (BlockA g #[.int .i64 tx, .int .i64 stamp, .int .i64 tries, .pointer (some ⟨mg, 0, none⟩), .slice pa l.length pc, .int .i64 (attempt + 1), .int .i64 0, .int .i64 nth, .string ⟨#[]⟩, .bool false, .string writev, .bool writeh, .slice none 0 0, .slice none 0 0, .slice la l1 l2, .int .i64 1, .bool false] 69 :: ([RowA 60 4 pa l.length pc (opFlat l), RowA 52 2 ra res.length rc (rsFlat res)] ++ r)) := Mem.setAt [] (r := ([RowA 60 4 pa l.length pc (opFlat l), RowA 52 2 ra res.length rc (rsFlat res)] ++ r)) (i := 13) m5 (.slice none 0 0)
      have m7 : Mem w0 D0 (((((((((w.drewN nq).setCell ⟨g, 5, none⟩ (.int .i64 (attempt + 1))).setCell ⟨g, 6, none⟩ (.int .i64 0)).setCell ⟨g, 15, none⟩ (.int .i64 1)).setCell ⟨g, 8, none⟩ (.string ⟨#[]⟩)).setCell ⟨g, 9, none⟩ (.bool false)).setCell ⟨g, 12, none⟩ (.slice none 0 0)).setCell ⟨g, 13, none⟩ (.slice none 0 0)).setCell ⟨g, 14, none⟩ (.slice none 0 0)) (BlockA g #[.int .i64 tx, .int .i64 stamp, .int .i64 tries, .pointer (some ⟨mg, 0, none⟩), .slice pa l.length pc, .int .i64 (attempt + 1), .int .i64 0, .int .i64 nth, .string ⟨#[]⟩, .bool false, .string writev, .bool writeh, .slice none 0 0, .slice none 0 0, .slice none 0 0, .int .i64 1, .bool false] 69 :: ([RowA 60 4 pa l.length pc (opFlat l), RowA 52 2 ra res.length rc (rsFlat res)] ++ r)) := Mem.setAt [] (r := ([RowA 60 4 pa l.length pc (opFlat l), RowA 52 2 ra res.length rc (rsFlat res)] ++ r)) (i := 14) m6 (.slice none 0 0)
      have h1 := Mem.drop [BlockA g #[.int .i64 tx, .int .i64 stamp, .int .i64 tries, .pointer (some ⟨mg, 0, none⟩), .slice pa l.length pc, .int .i64 (attempt + 1), .int .i64 0, .int .i64 nth, .string ⟨#[]⟩, .bool false, .string writev, .bool writeh, .slice none 0 0, .slice none 0 0, .slice none 0 0, .int .i64 1, .bool false] 69, RowA 60 4 pa l.length pc (opFlat l)] (A := RowA 52 2 ra res.length rc (rsFlat res)) (r := r) m7
      have h2 := Mem.nilRow (L := [BlockA g #[.int .i64 tx, .int .i64 stamp, .int .i64 tries, .pointer (some ⟨mg, 0, none⟩), .slice pa l.length pc, .int .i64 (attempt + 1), .int .i64 0, .int .i64 nth, .string ⟨#[]⟩, .bool false, .string writev, .bool writeh, .slice none 0 0, .slice none 0 0, .slice none 0 0, .int .i64 1, .bool false] 69, RowA 60 4 pa l.length pc (opFlat l)]) 52 2 h1
      have h3 := Mem.nilRow (L := [BlockA g #[.int .i64 tx, .int .i64 stamp, .int .i64 tries, .pointer (some ⟨mg, 0, none⟩), .slice pa l.length pc, .int .i64 (attempt + 1), .int .i64 0, .int .i64 nth, .string ⟨#[]⟩, .bool false, .string writev, .bool writeh, .slice none 0 0, .slice none 0 0, .slice none 0 0, .int .i64 1, .bool false] 69, RowA 60 4 pa l.length pc (opFlat l), RowA 52 2 none 0 0 []]) 3 1 h2
      exact Mem.closeW (d := ⟨tx, stamp, tries, attempt + 1, 0, nth, rs0, ⟨writev, writeh⟩, [], [], 1, false⟩) (ta := none) (tc := 0) h3 (by simp)
set_option maxRecDepth 100000 in
set_option maxHeartbeats 8000000 in
theorem ends_any (s : Int) (M : Mem w0 D0 w (DrA g mg l d :: r)) (hp : d.phase < 7) (ha : -1 ≤ d.attempt ∧ d.attempt ≤ 1048576) (hb : d.tl.length ≤ 100000) :
    Calls Tryd.prog 47 #[.pointer (some ⟨g, 0, none⟩), .int .i64 s] w fun e w' => e = .returned (.tuple #[]) ∧ Mem w0 D0 w' (DrA g mg l (endsM d s) :: r) := by
  obtain ⟨pa, pc, ra, rc, ta, tc, MW⟩ := Mem.openW M hp
  have hg := Mem.heapAt [] MW
  obtain ⟨c15, cf15⟩ := drC_cell hg 15 (.int .i64 d.outcome) rfl
  obtain ⟨c6, cf6⟩ := drC_cell hg 6 (.int .i64 d.phase) rfl
  obtain ⟨c13, -⟩ := drC_cell hg 13 (.slice ta d.tl.length tc) rfl
  obtain ⟨c14, cf14⟩ := drC_cell hg 14 (.slice none 0 0) rfl
  have HM := Lib.hid MW
  obtain ⟨tx, stamp, tries, attempt, phase, nth, last, write, res, tl, outcome, quits⟩ := d
  obtain ⟨lastv, lasth⟩ := last
  obtain ⟨writev, writeh⟩ := write
  simp only at c15 cf15 c6 cf6 c13 ha hb
  clear hg M MW hp
  cases tl with
  | nil =>
    simp only [List.length_nil] at c13
    have HE : Hid (endsM ⟨tx, stamp, tries, attempt, phase, nth, ⟨lastv, lasth⟩, ⟨writev, writeh⟩, res, [], outcome, quits⟩ s = behindM ⟨tx, stamp, tries, attempt, 7, nth, ⟨lastv, lasth⟩, ⟨writev, writeh⟩, res, [], s, quits⟩) := Lib.hid rfl
    go_enter Tryd.func47, Tryd.ntmps47
    go_wp2_with fail
    have m0 : Mem w0 D0 (w.setCell ⟨g, 15, none⟩ (.int .i64 s)) (BlockA g #[.int .i64 tx, .int .i64 stamp, .int .i64 tries, .pointer (some ⟨mg, 0, none⟩), .slice pa l.length pc, .int .i64 attempt, .int .i64 phase, .int .i64 nth, .string lastv, .bool lasth, .string writev, .bool writeh, .slice ra res.length rc, .slice ta 0 tc, .slice none 0 0, .int .i64 s, .bool quits] 69 :: ([RowA 60 4 pa l.length pc (opFlat l), RowA 52 2 ra res.length rc (rsFlat res), RowA 3 1 ta 0 tc (intsV [])] ++ r)) := Mem.setAt [] (r := ([RowA 60 4 pa l.length pc (opFlat l), RowA 52 2 ra res.length rc (rsFlat res), RowA 3 1 ta 0 tc (intsV [])] ++ r)) (i := 15) HM.out (.int .i64 s)
    have m1 : Mem w0 D0 ((w.setCell ⟨g, 15, none⟩ (.int .i64 s)).setCell ⟨g, 14, none⟩ (.slice ta 0 tc)) (BlockA g #[.int .i64 tx, .int .i64 stamp, .int .i64 tries, .pointer (some ⟨mg, 0, none⟩), .slice pa l.length pc, .int .i64 attempt, .int .i64 phase, .int .i64 nth, .string lastv, .bool lasth, .string writev, .bool writeh, .slice ra res.length rc, .slice ta 0 tc, .slice ta 0 tc, .int .i64 s, .bool quits] 69 :: ([RowA 60 4 pa l.length pc (opFlat l), RowA 52 2 ra res.length rc (rsFlat res), RowA 3 1 ta 0 tc (intsV [])] ++ r)) := Mem.setAt [] (r := ([RowA 60 4 pa l.length pc (opFlat l), RowA 52 2 ra res.length rc (rsFlat res), RowA 3 1 ta 0 tc (intsV [])] ++ r)) (i := 14) m0 (.slice ta 0 tc)
    have m2 : Mem w0 D0 (((w.setCell ⟨g, 15, none⟩ (.int .i64 s)).setCell ⟨g, 14, none⟩ (.slice ta 0 tc)).setCell ⟨g, 6, none⟩ (.int .i64 7)) (BlockA g #[.int .i64 tx, .int .i64 stamp, .int .i64 tries, .pointer (some ⟨mg, 0, none⟩), .slice pa l.length pc, .int .i64 attempt, .int .i64 7, .int .i64 nth, .string lastv, .bool lasth, .string writev, .bool writeh, .slice ra res.length rc, .slice ta 0 tc, .slice ta 0 tc, .int .i64 s, .bool quits] 69 :: ([RowA 60 4 pa l.length pc (opFlat l), RowA 52 2 ra res.length rc (rsFlat res), RowA 3 1 ta 0 tc (intsV [])] ++ r)) := Mem.setAt [] (r := ([RowA 60 4 pa l.length pc (opFlat l), RowA 52 2 ra res.length rc (rsFlat res), RowA 3 1 ta 0 tc (intsV [])] ++ r)) (i := 6) m1 (.int .i64 7)
    have n1 := Mem.drop [BlockA g #[.int .i64 tx, .int .i64 stamp, .int .i64 tries, .pointer (some ⟨mg, 0, none⟩), .slice pa l.length pc, .int .i64 attempt, .int .i64 7, .int .i64 nth, .string lastv, .bool lasth, .string writev, .bool writeh, .slice ra res.length rc, .slice ta 0 tc, .slice ta 0 tc, .int .i64 s, .bool quits] 69, RowA 60 4 pa l.length pc (opFlat l), RowA 52 2 ra res.length rc (rsFlat res)] (A := RowA 3 1 ta 0 tc (intsV [])) (r := r) m2
    refine (behind_any (d := ⟨tx, stamp, tries, attempt, 7, nth, ⟨lastv, lasth⟩, ⟨writev, writeh⟩, res, [], s, quits⟩) (pa := pa) (pc := pc) (ra := ra) (rc := rc) (t0 := ta) (t1 := 0) (t2 := tc) (la := ta) (l1 := 0) (l2 := tc) n1 ha).mono ?_
    rintro e w1 ⟨rfl, hm⟩
    have HF := Lib.hid hm
    clear hm n1 m0 m1 m2
    go_wp2_with fail
    go_end0
    refine ⟨rfl, ?_⟩
    rw [HE.out]
    exact HF.out
  | cons x xs =>
    have HE : Hid (endsM ⟨tx, stamp, tries, attempt, phase, nth, ⟨lastv, lasth⟩, ⟨writev, writeh⟩, res, x :: xs, outcome, quits⟩ s = ⟨tx, stamp, tries, attempt, 7, nth, ⟨lastv, lasth⟩, ⟨writev, writeh⟩, res, x :: xs, s, quits⟩) := Lib.hid rfl
    simp only [List.length_cons] at c13 hb
    generalize hxn : xs.length = xn at c13 hb
    have HX := Lib.hid hxn
    clear hxn
    have hne : (((xn + 1 : Nat) : Int) == 0) = false := by simp; omega
    go_enter Tryd.func47, Tryd.ntmps47
    go_wp2_with fail
    go_end0
    refine ⟨rfl, ?_⟩
    rw [HE.out]
    have mX : Mem w0 D0 w (BlockA g #[.int .i64 tx, .int .i64 stamp, .int .i64 tries, .pointer (some ⟨mg, 0, none⟩), .slice pa l.length pc, .int .i64 attempt, .int .i64 phase, .int .i64 nth, .string lastv, .bool lasth, .string writev, .bool writeh, .slice ra res.length rc, .slice ta (xn + 1) tc, .slice none 0 0, .int .i64 outcome, .bool quits] 69 :: ([RowA 60 4 pa l.length pc (opFlat l), RowA 52 2 ra res.length rc (rsFlat res), RowA 3 1 ta (x :: xs).length tc (intsV (x :: xs))] ++ r)) := by
      have h := HM.out
      have e : (x :: xs).length = xn + 1 := by rw [List.length_cons, HX.out]
      simp only [List.length_cons, HX.out] at h ⊢
      exact h
    have m0 : Mem w0 D0 (w.setCell ⟨g, 15, none⟩ (.int .i64 s)) (BlockA g #[.int .i64 tx, .int .i64 stamp, .int .i64 tries, .pointer (some ⟨mg, 0, none⟩), .slice pa l.length pc, .int .i64 attempt, .int .i64 phase, .int .i64 nth, .string lastv, .bool lasth, .string writev, .bool writeh, .slice ra res.length rc, .slice ta (xn + 1) tc, .slice none 0 0, .int .i64 s, .bool quits] 69 :: ([RowA 60 4 pa l.length pc (opFlat l), RowA 52 2 ra res.length rc (rsFlat res), RowA 3 1 ta (x :: xs).length tc (intsV (x :: xs))] ++ r)) := Mem.setAt [] (r := ([RowA 60 4 pa l.length pc (opFlat l), RowA 52 2 ra res.length rc (rsFlat res), RowA 3 1 ta (x :: xs).length tc (intsV (x :: xs))] ++ r)) (i := 15) mX (.int .i64 s)
    have m1 : Mem w0 D0 ((w.setCell ⟨g, 15, none⟩ (.int .i64 s)).setCell ⟨g, 14, none⟩ (.slice ta (xn + 1) tc)) (BlockA g #[.int .i64 tx, .int .i64 stamp, .int .i64 tries, .pointer (some ⟨mg, 0, none⟩), .slice pa l.length pc, .int .i64 attempt, .int .i64 phase, .int .i64 nth, .string lastv, .bool lasth, .string writev, .bool writeh, .slice ra res.length rc, .slice ta (xn + 1) tc, .slice ta (xn + 1) tc, .int .i64 s, .bool quits] 69 :: ([RowA 60 4 pa l.length pc (opFlat l), RowA 52 2 ra res.length rc (rsFlat res), RowA 3 1 ta (x :: xs).length tc (intsV (x :: xs))] ++ r)) := Mem.setAt [] (r := ([RowA 60 4 pa l.length pc (opFlat l), RowA 52 2 ra res.length rc (rsFlat res), RowA 3 1 ta (x :: xs).length tc (intsV (x :: xs))] ++ r)) (i := 14) m0 (.slice ta (xn + 1) tc)
    have m2 : Mem w0 D0 (((w.setCell ⟨g, 15, none⟩ (.int .i64 s)).setCell ⟨g, 14, none⟩ (.slice ta (xn + 1) tc)).setCell ⟨g, 6, none⟩ (.int .i64 7)) (BlockA g #[.int .i64 tx, .int .i64 stamp, .int .i64 tries, .pointer (some ⟨mg, 0, none⟩), .slice pa l.length pc, .int .i64 attempt, .int .i64 7, .int .i64 nth, .string lastv, .bool lasth, .string writev, .bool writeh, .slice ra res.length rc, .slice ta (xn + 1) tc, .slice ta (xn + 1) tc, .int .i64 s, .bool quits] 69 :: ([RowA 60 4 pa l.length pc (opFlat l), RowA 52 2 ra res.length rc (rsFlat res), RowA 3 1 ta (x :: xs).length tc (intsV (x :: xs))] ++ r)) := Mem.setAt [] (r := ([RowA 60 4 pa l.length pc (opFlat l), RowA 52 2 ra res.length rc (rsFlat res), RowA 3 1 ta (x :: xs).length tc (intsV (x :: xs))] ++ r)) (i := 6) m1 (.int .i64 7)
    refine Mem.closeF (d := ⟨tx, stamp, tries, attempt, 7, nth, ⟨lastv, lasth⟩, ⟨writev, writeh⟩, res, x :: xs, s, quits⟩) (pa := pa) (pc := pc) (ra := ra) (rc := rc) (t0 := ta) (t1 := xn + 1) (t2 := tc) (la := ta) (lc := tc) ?_ rfl
    refine Mem.swapIn (L := drL g mg l ⟨tx, stamp, tries, attempt, 7, nth, ⟨lastv, lasth⟩, ⟨writev, writeh⟩, res, x :: xs, s, quits⟩ pa pc ra rc (.slice ta (xn + 1) tc) (.slice ta (x :: xs).length tc)) (A := RowA 3 1 ta (x :: xs).length tc (intsV (x :: xs))) ?_ ?_
    · have h := m2
      rw [← HX.out] at h ⊢
      exact h
    · rintro D ⟨rfl, hr⟩
      refine ⟨rfl, ?_⟩
      rcases hr.out with ⟨_, h, _⟩ | ⟨gg, cur, rfl, _⟩
      · simp at h
      · exact QRow.of_row hr
end
end Go.Proofs.YtmifgnibalbgjaaDoor

