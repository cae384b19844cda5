/- The driver is told that a shard heard of the end; Told of all states. -/
import Derived.Test.YtmifgnibalbgjaaDoorU
namespace Go.Proofs.YtmifgnibalbgjaaDoor
open Go.RowKit
section
variable {w0 w : World} {D0 : List Nat} {g mg : Nat} {l : List Opp} {d : Dr} {ss : List ByteArray} {r : List Asn} [Stables r]
set_option maxRecDepth 100000 in
set_option maxHeartbeats 8000000 in
theorem told7 (p : Rep) (M : Mem w0 D0 w (DrA g mg l d :: MapA mg ss :: r)) (ok : DOk ss l d) (hp : d.phase = 7) :
    Calls Tryd.prog 12 #[.pointer (some ⟨g, 0, none⟩), Cmd.val (nextC l d), Rep.val p] w fun e w' => e = .returned (.bool true) ∧ Mem w0 D0 w' (DrA g mg l (toldM ss l d p) :: MapA mg ss :: r) := by
  obtain ⟨pc0, ps0, pv, ph0⟩ := p
  have HM2 : Hid (Mem w0 D0 ((w.alloc (.cells #[.int .i64 (nextC l d).kind, .int .i64 (nextC l d).tx, .int .i64 (nextC l d).attempt, .int .i64 (nextC l d).stamp, .int .i64 (nextC l d).op, .string (nextC l d).key, .string (nextC l d).value, .int .i64 (nextC l d).mode, .bool (nextC l d).yes] 38)).alloc (.cells #[.int .i64 pc0, .int .i64 ps0, .string pv, .bool ph0] 36)) (BlockA (w.heap.size + 1) #[.int .i64 pc0, .int .i64 ps0, .string pv, .bool ph0] 36 :: BlockA w.heap.size #[.int .i64 (nextC l d).kind, .int .i64 (nextC l d).tx, .int .i64 (nextC l d).attempt, .int .i64 (nextC l d).stamp, .int .i64 (nextC l d).op, .string (nextC l d).key, .string (nextC l d).value, .int .i64 (nextC l d).mode, .bool (nextC l d).yes] 38 :: DrA g mg l d :: MapA mg ss :: r)) := Lib.hid (by
    have m := (M.block #[.int .i64 (nextC l d).kind, .int .i64 (nextC l d).tx, .int .i64 (nextC l d).attempt, .int .i64 (nextC l d).stamp, .int .i64 (nextC l d).op, .string (nextC l d).key, .string (nextC l d).value, .int .i64 (nextC l d).mode, .bool (nextC l d).yes] 38).block #[.int .i64 pc0, .int .i64 ps0, .string pv, .bool ph0] 36
    simpa using m)
  have HDR : Hid (∀ W B1 B2, Stable B1 → Stable B2 → Mem w0 D0 W (B1 :: B2 :: DrA g mg l d :: MapA mg ss :: r) → Mem w0 D0 W (DrA g mg l d :: MapA mg ss :: r)) := Lib.hid fun W B1 B2 s1 s2 h => Mem.drop [] (A := B2) (Mem.drop [] (A := B1) (r := B2 :: DrA g mg l d :: MapA mg ss :: r) h)
  have HNX := Lib.hid (next_any (HDR.out _ _ _ inferInstance inferInstance HM2.out) ok)
  have hatt := ok.att
  have htl9 : d.tl.length ≤ 100000 := ok.in.tl
  obtain ⟨x, xs, htl⟩ : ∃ x xs, d.tl = x :: xs := by
    cases h : d.tl with
    | nil => exact absurd h (ok.left hp)
    | cons x xs => exact ⟨x, xs, rfl⟩
  unfold nextE Cmd.val at HNX
  rw [show decide (d.phase ≠ 8) = true by rw [hp]; rfl] at HNX
  obtain ⟨tx, stamp, tries, attempt, phase, nth, last, write, res, tl, outcome, quits⟩ := d
  obtain ⟨lastv, lasth⟩ := last
  obtain ⟨writev, writeh⟩ := write
  simp only at hp htl hatt htl9
  subst hp htl
  generalize nextC l ⟨tx, stamp, tries, attempt, 7, nth, ⟨lastv, lasth⟩, ⟨writev, writeh⟩, res, (x :: xs), outcome, quits⟩ = c at *
  generalize nextS ss l ⟨tx, stamp, tries, attempt, 7, nth, ⟨lastv, lasth⟩, ⟨writev, writeh⟩, res, (x :: xs), outcome, quits⟩ = ns at *
  unfold Cmd.val Rep.val
  simp only
  clear M ok
  by_cases k0 : pc0 = 0
  · subst k0
    go_enter Tryd.func12, Tryd.ntmps12
    go_wp2_with fail
    refine HNX.out.mono ?_
    rintro e w1 ⟨rfl, hb⟩
    have HM3 := Lib.hid (Mem.below HM2.out hb)
    have hh := Mem.heapAt [] HM3.out
    have v0 := (cell_of_heap (i := 0) (v := .int .i64 0) hh rfl).1
    have v1 := (cell_of_heap (i := 1) (v := .int .i64 ps0) hh rfl).1
    have v2 := (cell_of_heap (i := 2) (v := .string pv) hh rfl).1
    have v3 := (cell_of_heap (i := 3) (v := .bool ph0) hh rfl).1
    have hh2 := Mem.heapAt [BlockA (w.heap.size + 1) #[.int .i64 0, .int .i64 ps0, .string pv, .bool ph0] 36] (r := DrA g mg l ⟨tx, stamp, tries, attempt, 7, nth, ⟨lastv, lasth⟩, ⟨writev, writeh⟩, res, (x :: xs), outcome, quits⟩ :: MapA mg ss :: r) HM3.out
    have u0 := (cell_of_heap (i := 0) (v := .int .i64 c.kind) hh2 rfl).1
    have u1 := (cell_of_heap (i := 1) (v := .int .i64 c.tx) hh2 rfl).1
    have u2 := (cell_of_heap (i := 2) (v := .int .i64 c.attempt) hh2 rfl).1
    have u3 := (cell_of_heap (i := 3) (v := .int .i64 c.stamp) hh2 rfl).1
    have u4 := (cell_of_heap (i := 4) (v := .int .i64 c.op) hh2 rfl).1
    have u5 := (cell_of_heap (i := 5) (v := .string c.key) hh2 rfl).1
    have u6 := (cell_of_heap (i := 6) (v := .string c.value) hh2 rfl).1
    have u7 := (cell_of_heap (i := 7) (v := .int .i64 c.mode) hh2 rfl).1
    have u8 := (cell_of_heap (i := 8) (v := .bool c.yes) hh2 rfl).1
    have M6 := HDR.out _ _ _ inferInstance inferInstance HM3.out
    obtain ⟨pa, pc, ra, rc, t0, t1, t2, la, lc, MF⟩ := Mem.openF M6 rfl
    have hg := Mem.heapAt [] MF
    have hq := Mem.qrowAt (drL g mg l ⟨tx, stamp, tries, attempt, 7, nth, ⟨lastv, lasth⟩, ⟨writev, writeh⟩, res, (x :: xs), outcome, quits⟩ pa pc ra rc (.slice t0 t1 t2) (.slice la (x :: xs).length lc)) MF
    obtain ⟨lb, lo, rfl, hlc, hq1, hq2⟩ := QRow.tail (x := .int .i64 x) (xs := intsV xs) (n := xs.length) (c := lc) (by simpa [intsV] using hq)
    obtain ⟨c6, cf6⟩ := drC_cell hg 6 (.int .i64 7) rfl
    obtain ⟨c14, cf14⟩ := drC_cell hg 14 (.slice (some ⟨lb, lo, none⟩) (xs.length + 1) lc) rfl
    have hlg := World.block_lt_of_cell? w1 _ c6
    have hl0 := World.block_lt_of_cell? w1 _ u0
    have hl1 := World.block_lt_of_cell? w1 _ v0
    simp only at hlg hl0 hl1
    have hncl : xs.length + 1 ≤ lc := by
      obtain ⟨_, _, _, _, _, h, _⟩ := hq
      simpa using h
    clear hb hh hh2 hg M6 HM2 HNX hq HM3 HDR
    by_cases hc1 : lc = 1
    · subst hc1
      have hxs : xs = [] := List.eq_nil_of_length_eq_zero (by omega)
      subst hxs
      have HE : Hid (toldM ss l ⟨tx, stamp, tries, attempt, 7, nth, ⟨lastv, lasth⟩, ⟨writev, writeh⟩, res, [x], outcome, quits⟩ ⟨0, ps0, pv, ph0⟩ = behindM ⟨tx, stamp, tries, attempt, 7, nth, ⟨lastv, lasth⟩, ⟨writev, writeh⟩, res, [], outcome, quits⟩) := Lib.hid rfl
      have m0 : Mem w0 D0 (w1.setCell ⟨g, 14, none⟩ (.slice (some ⟨lb, lo, none⟩) 0 0)) (BlockA g #[.int .i64 tx, .int .i64 stamp, .int .i64 tries, .pointer (some ⟨mg, 0, none⟩), .slice pa l.length pc, .int .i64 attempt, .int .i64 7, .int .i64 nth, .string lastv, .bool lasth, .string writev, .bool writeh, .slice ra res.length rc, .slice t0 t1 t2, .slice (some ⟨lb, lo, none⟩) 0 0, .int .i64 outcome, .bool quits] 69 :: ([RowA 60 4 pa l.length pc (opFlat l), RowA 52 2 ra res.length rc (rsFlat res), QRowA 3 (some ⟨lb, lo, none⟩) 1 1 (intsV [x])] ++ MapA mg ss :: r)) := Mem.setAt [] (r := ([RowA 60 4 pa l.length pc (opFlat l), RowA 52 2 ra res.length rc (rsFlat res), QRowA 3 (some ⟨lb, lo, none⟩) 1 1 (intsV [x])] ++ MapA mg ss :: r)) (i := 14) MF (.slice (some ⟨lb, lo, none⟩) 0 0)
      have n1 := Mem.drop [BlockA g #[.int .i64 tx, .int .i64 stamp, .int .i64 tries, .pointer (some ⟨mg, 0, none⟩), .slice pa l.length pc, .int .i64 attempt, .int .i64 7, .int .i64 nth, .string lastv, .bool lasth, .string writev, .bool writeh, .slice ra res.length rc, .slice t0 t1 t2, .slice (some ⟨lb, lo, none⟩) 0 0, .int .i64 outcome, .bool quits] 69, RowA 60 4 pa l.length pc (opFlat l), RowA 52 2 ra res.length rc (rsFlat res)] (A := QRowA 3 (some ⟨lb, lo, none⟩) 1 1 (intsV [x])) (r := MapA mg ss :: r) m0
      have HBH := Lib.hid (behind_any (d := ⟨tx, stamp, tries, attempt, 7, nth, ⟨lastv, lasth⟩, ⟨writev, writeh⟩, res, [], outcome, quits⟩) (pa := pa) (pc := pc) (ra := ra) (rc := rc) (t0 := t0) (t1 := t1) (t2 := t2) (la := some ⟨lb, lo, none⟩) (l1 := 0) (l2 := 0) (Mem.below n1 (bel_new _ (.cells #[.int .i64 c.kind, .int .i64 c.tx, .int .i64 c.attempt, .int .i64 c.stamp, .int .i64 c.op, .string c.key, .string c.value, .int .i64 c.mode, .bool c.yes] 38))) ⟨by have := hatt.1; simp only; omega, hatt.2.1⟩)
      clear n1 m0 MF hq1 hq2
      simp only [List.length_nil] at c14
      go_wp2_with fail
      refine HBH.out.mono ?_
      rintro e w7 ⟨rfl, hm⟩
      have HF := Lib.hid hm
      clear hm HBH
      go_wp2_with fail
      go_ret
      refine ⟨rfl, ?_⟩
      rw [HE.out]
      exact HF.out
    · rw [if_neg hc1] at hq2
      have hlc1 : ¬ (lc - 1 = 0) := by omega
      cases xs with
      | nil =>
        have HE : Hid (toldM ss l ⟨tx, stamp, tries, attempt, 7, nth, ⟨lastv, lasth⟩, ⟨writev, writeh⟩, res, [x], outcome, quits⟩ ⟨0, ps0, pv, ph0⟩ = behindM ⟨tx, stamp, tries, attempt, 7, nth, ⟨lastv, lasth⟩, ⟨writev, writeh⟩, res, [], outcome, quits⟩) := Lib.hid rfl
        have m0 : Mem w0 D0 (w1.setCell ⟨g, 14, none⟩ (.slice (some ⟨lb, lo + 1, none⟩) 0 (lc - 1))) (BlockA g #[.int .i64 tx, .int .i64 stamp, .int .i64 tries, .pointer (some ⟨mg, 0, none⟩), .slice pa l.length pc, .int .i64 attempt, .int .i64 7, .int .i64 nth, .string lastv, .bool lasth, .string writev, .bool writeh, .slice ra res.length rc, .slice t0 t1 t2, .slice (some ⟨lb, lo + 1, none⟩) 0 (lc - 1), .int .i64 outcome, .bool quits] 69 :: ([RowA 60 4 pa l.length pc (opFlat l), RowA 52 2 ra res.length rc (rsFlat res), QRowA 3 (some ⟨lb, lo, none⟩) 1 lc (intsV [x])] ++ MapA mg ss :: r)) := Mem.setAt [] (r := ([RowA 60 4 pa l.length pc (opFlat l), RowA 52 2 ra res.length rc (rsFlat res), QRowA 3 (some ⟨lb, lo, none⟩) 1 lc (intsV [x])] ++ MapA mg ss :: r)) (i := 14) MF (.slice (some ⟨lb, lo + 1, none⟩) 0 (lc - 1))
        have n1 := Mem.drop [BlockA g #[.int .i64 tx, .int .i64 stamp, .int .i64 tries, .pointer (some ⟨mg, 0, none⟩), .slice pa l.length pc, .int .i64 attempt, .int .i64 7, .int .i64 nth, .string lastv, .bool lasth, .string writev, .bool writeh, .slice ra res.length rc, .slice t0 t1 t2, .slice (some ⟨lb, lo + 1, none⟩) 0 (lc - 1), .int .i64 outcome, .bool quits] 69, RowA 60 4 pa l.length pc (opFlat l), RowA 52 2 ra res.length rc (rsFlat res)] (A := QRowA 3 (some ⟨lb, lo, none⟩) 1 lc (intsV [x])) (r := MapA mg ss :: r) m0
        have HBH := Lib.hid (behind_any (d := ⟨tx, stamp, tries, attempt, 7, nth, ⟨lastv, lasth⟩, ⟨writev, writeh⟩, res, [], outcome, quits⟩) (pa := pa) (pc := pc) (ra := ra) (rc := rc) (t0 := t0) (t1 := t1) (t2 := t2) (la := some ⟨lb, lo + 1, none⟩) (l1 := 0) (l2 := lc - 1) (Mem.below n1 (bel_new _ (.cells #[.int .i64 c.kind, .int .i64 c.tx, .int .i64 c.attempt, .int .i64 c.stamp, .int .i64 c.op, .string c.key, .string c.value, .int .i64 c.mode, .bool c.yes] 38))) ⟨by have := hatt.1; simp only; omega, hatt.2.1⟩)
        clear n1 m0 MF hq1 hq2
        simp only [List.length_nil] at c14
        go_wp2_with fail
        refine HBH.out.mono ?_
        rintro e w7 ⟨rfl, hm⟩
        have HF := Lib.hid hm
        clear hm HBH
        go_wp2_with fail
        go_ret
        refine ⟨rfl, ?_⟩
        rw [HE.out]
        exact HF.out
      | cons y ys =>
        have HE : Hid (toldM ss l ⟨tx, stamp, tries, attempt, 7, nth, ⟨lastv, lasth⟩, ⟨writev, writeh⟩, res, (x :: y :: ys), outcome, quits⟩ ⟨0, ps0, pv, ph0⟩ = ⟨tx, stamp, tries, attempt, 7, nth, ⟨lastv, lasth⟩, ⟨writev, writeh⟩, res, (y :: ys), outcome, quits⟩) := Lib.hid rfl
        have MQ : Mem w0 D0 w1 (BlockA g #[.int .i64 tx, .int .i64 stamp, .int .i64 tries, .pointer (some ⟨mg, 0, none⟩), .slice pa l.length pc, .int .i64 attempt, .int .i64 7, .int .i64 nth, .string lastv, .bool lasth, .string writev, .bool writeh, .slice ra res.length rc, .slice t0 t1 t2, .slice (some ⟨lb, lo, none⟩) (x :: y :: ys).length lc, .int .i64 outcome, .bool quits] 69 :: ([RowA 60 4 pa l.length pc (opFlat l), RowA 52 2 ra res.length rc (rsFlat res), QRowA 3 (some ⟨lb, lo + 1, none⟩) (y :: ys).length (lc - 1) (intsV (y :: ys))] ++ MapA mg ss :: r)) := Mem.qset [BlockA g #[.int .i64 tx, .int .i64 stamp, .int .i64 tries, .pointer (some ⟨mg, 0, none⟩), .slice pa l.length pc, .int .i64 attempt, .int .i64 7, .int .i64 nth, .string lastv, .bool lasth, .string writev, .bool writeh, .slice ra res.length rc, .slice t0 t1 t2, .slice (some ⟨lb, lo, none⟩) (x :: y :: ys).length lc, .int .i64 outcome, .bool quits] 69, RowA 60 4 pa l.length pc (opFlat l), RowA 52 2 ra res.length rc (rsFlat res)] (r := MapA mg ss :: r) MF hq2
        have m0 : Mem w0 D0 (w1.setCell ⟨g, 14, none⟩ (.slice (some ⟨lb, lo + 1, none⟩) (y :: ys).length (lc - 1))) (BlockA g #[.int .i64 tx, .int .i64 stamp, .int .i64 tries, .pointer (some ⟨mg, 0, none⟩), .slice pa l.length pc, .int .i64 attempt, .int .i64 7, .int .i64 nth, .string lastv, .bool lasth, .string writev, .bool writeh, .slice ra res.length rc, .slice t0 t1 t2, .slice (some ⟨lb, lo + 1, none⟩) (y :: ys).length (lc - 1), .int .i64 outcome, .bool quits] 69 :: ([RowA 60 4 pa l.length pc (opFlat l), RowA 52 2 ra res.length rc (rsFlat res), QRowA 3 (some ⟨lb, lo + 1, none⟩) (y :: ys).length (lc - 1) (intsV (y :: ys))] ++ MapA mg ss :: r)) := Mem.setAt [] (r := ([RowA 60 4 pa l.length pc (opFlat l), RowA 52 2 ra res.length rc (rsFlat res), QRowA 3 (some ⟨lb, lo + 1, none⟩) (y :: ys).length (lc - 1) (intsV (y :: ys))] ++ MapA mg ss :: r)) (i := 14) MQ (.slice (some ⟨lb, lo + 1, none⟩) (y :: ys).length (lc - 1))
        have n3 := Mem.closeF (d := ⟨tx, stamp, tries, attempt, 7, nth, ⟨lastv, lasth⟩, ⟨writev, writeh⟩, res, (y :: ys), outcome, quits⟩) (pa := pa) (pc := pc) (ra := ra) (rc := rc) (t0 := t0) (t1 := t1) (t2 := t2) (la := some ⟨lb, lo + 1, none⟩) (lc := lc - 1) (r := MapA mg ss :: r) m0 rfl
        have HF := Lib.hid (Mem.below n3 (bel_new _ (.cells #[.int .i64 c.kind, .int .i64 c.tx, .int .i64 c.attempt, .int .i64 c.stamp, .int .i64 c.op, .string c.key, .string c.value, .int .i64 c.mode, .bool c.yes] 38)))
        clear n3 m0 MQ MF hq1 hq2
        simp only [List.length_cons] at c14 hncl HF htl9
        generalize ys.length = yn at *
        have hne : (((yn + 1 : Nat) : Int) == 0) = false := by simp; omega
        go_wp2_with fail
        go_ret
        refine ⟨rfl, ?_⟩
        rw [HE.out]
        exact HF.out
  · have b0 : (pc0 == 0) = false := by simpa using k0
    have HE : Hid (toldM ss l ⟨tx, stamp, tries, attempt, 7, nth, ⟨lastv, lasth⟩, ⟨writev, writeh⟩, res, (x :: xs), outcome, quits⟩ ⟨pc0, ps0, pv, ph0⟩ = ⟨tx, stamp, tries, attempt, 7, nth, ⟨lastv, lasth⟩, ⟨writev, writeh⟩, res, (x :: xs), outcome, quits⟩) := Lib.hid (by unfold toldM; simp only; rw [if_neg (by omega), if_pos (by trivial), if_neg k0])
    clear k0
    go_enter Tryd.func12, Tryd.ntmps12
    go_wp2_with fail
    refine HNX.out.mono ?_
    rintro e w1 ⟨rfl, hb⟩
    have HM3 := Lib.hid (Mem.below HM2.out hb)
    have hh := Mem.heapAt [] HM3.out
    have v0 := (cell_of_heap (i := 0) (v := .int .i64 pc0) hh rfl).1
    have v1 := (cell_of_heap (i := 1) (v := .int .i64 ps0) hh rfl).1
    have v2 := (cell_of_heap (i := 2) (v := .string pv) hh rfl).1
    have v3 := (cell_of_heap (i := 3) (v := .bool ph0) hh rfl).1
    have hh2 := Mem.heapAt [BlockA (w.heap.size + 1) #[.int .i64 pc0, .int .i64 ps0, .string pv, .bool ph0] 36] (r := DrA g mg l ⟨tx, stamp, tries, attempt, 7, nth, ⟨lastv, lasth⟩, ⟨writev, writeh⟩, res, (x :: xs), outcome, quits⟩ :: MapA mg ss :: r) HM3.out
    have u0 := (cell_of_heap (i := 0) (v := .int .i64 c.kind) hh2 rfl).1
    have u1 := (cell_of_heap (i := 1) (v := .int .i64 c.tx) hh2 rfl).1
    have u2 := (cell_of_heap (i := 2) (v := .int .i64 c.attempt) hh2 rfl).1
    have u3 := (cell_of_heap (i := 3) (v := .int .i64 c.stamp) hh2 rfl).1
    have u4 := (cell_of_heap (i := 4) (v := .int .i64 c.op) hh2 rfl).1
    have u5 := (cell_of_heap (i := 5) (v := .string c.key) hh2 rfl).1
    have u6 := (cell_of_heap (i := 6) (v := .string c.value) hh2 rfl).1
    have u7 := (cell_of_heap (i := 7) (v := .int .i64 c.mode) hh2 rfl).1
    have u8 := (cell_of_heap (i := 8) (v := .bool c.yes) hh2 rfl).1
    have M6 := HDR.out _ _ _ inferInstance inferInstance HM3.out
    obtain ⟨pa, pc, ra, rc, tv, lv, hg⟩ := Mem.drAt M6
    obtain ⟨c6, cf6⟩ := drC_cell hg 6 (.int .i64 7) rfl
    have HD := Lib.hid (M6.below (bel_new w1 (.cells #[.int .i64 c.kind, .int .i64 c.tx, .int .i64 c.attempt, .int .i64 c.stamp, .int .i64 c.op, .string c.key, .string c.value, .int .i64 c.mode, .bool c.yes] 38)))
    have hlg := World.block_lt_of_cell? w1 _ c6
    have hl0 := World.block_lt_of_cell? w1 _ u0
    have hl1 := World.block_lt_of_cell? w1 _ v0
    simp only at hlg hl0 hl1
    clear hb hh hh2 hg M6 HM2 HNX HDR HM3
    go_wp2_with fail
    go_ret
    refine ⟨rfl, ?_⟩
    rw [HE.out]
    exact HD.out
set_option maxRecDepth 100000 in
set_option maxHeartbeats 8000000 in
theorem told_ne (q : Int) (p : Rep) (M : Mem w0 D0 w (DrA g mg l d :: MapA mg ss :: r)) (ok : DOk ss l d) (hp : d.phase ≠ 8) (hq : q ≠ (nextC l d).op) :
    Calls Tryd.prog 12 #[.pointer (some ⟨g, 0, none⟩), Cmd.val { nextC l d with op := q }, Rep.val p] w fun e w' => e = .returned (.bool false) ∧ Mem w0 D0 w' (DrA g mg l d :: MapA mg ss :: r) := by
  obtain ⟨pc0, ps0, pv, ph0⟩ := p
  have HNX0 := Lib.hid fun W (hW : Mem w0 D0 W (DrA g mg l d :: MapA mg ss :: r)) => next_any hW ok
  unfold nextE Cmd.val at HNX0
  rw [show decide (d.phase ≠ 8) = true by simpa using hp] at HNX0
  generalize nextC l d = c at *
  generalize nextS ss l d = ns at *
  have HM2 : Hid (Mem w0 D0 ((w.alloc (.cells #[.int .i64 c.kind, .int .i64 c.tx, .int .i64 c.attempt, .int .i64 c.stamp, .int .i64 q, .string c.key, .string c.value, .int .i64 c.mode, .bool c.yes] 38)).alloc (.cells #[.int .i64 pc0, .int .i64 ps0, .string pv, .bool ph0] 36)) (BlockA (w.heap.size + 1) #[.int .i64 pc0, .int .i64 ps0, .string pv, .bool ph0] 36 :: BlockA w.heap.size #[.int .i64 c.kind, .int .i64 c.tx, .int .i64 c.attempt, .int .i64 c.stamp, .int .i64 q, .string c.key, .string c.value, .int .i64 c.mode, .bool c.yes] 38 :: DrA g mg l d :: MapA mg ss :: r)) := Lib.hid (by
    have m := (M.block #[.int .i64 c.kind, .int .i64 c.tx, .int .i64 c.attempt, .int .i64 c.stamp, .int .i64 q, .string c.key, .string c.value, .int .i64 c.mode, .bool c.yes] 38).block #[.int .i64 pc0, .int .i64 ps0, .string pv, .bool ph0] 36
    simpa using m)
  have HDR : Hid (∀ W B1 B2, Stable B1 → Stable B2 → Mem w0 D0 W (B1 :: B2 :: DrA g mg l d :: MapA mg ss :: r) → Mem w0 D0 W (DrA g mg l d :: MapA mg ss :: r)) := Lib.hid fun W B1 B2 s1 s2 h => Mem.drop [] (A := B2) (Mem.drop [] (A := B1) (r := B2 :: DrA g mg l d :: MapA mg ss :: r) h)
  have HNX := Lib.hid (HNX0.out _ (HDR.out _ _ _ inferInstance inferInstance HM2.out))
  have bq : (q == c.op) = false := by simpa using hq
  unfold Cmd.val Rep.val
  simp only
  clear M ok HNX0 hp hq
  go_enter Tryd.func12, Tryd.ntmps12
  go_wp2_with fail
  refine HNX.out.mono ?_
  rintro e w1 ⟨rfl, hb⟩
  have HM3 := Lib.hid (Mem.below HM2.out hb)
  have hh2 := Mem.heapAt [BlockA (w.heap.size + 1) #[.int .i64 pc0, .int .i64 ps0, .string pv, .bool ph0] 36] (r := DrA g mg l d :: MapA mg ss :: r) HM3.out
  have u0 := (cell_of_heap (i := 0) (v := .int .i64 c.kind) hh2 rfl).1
  have u1 := (cell_of_heap (i := 1) (v := .int .i64 c.tx) hh2 rfl).1
  have u2 := (cell_of_heap (i := 2) (v := .int .i64 c.attempt) hh2 rfl).1
  have u3 := (cell_of_heap (i := 3) (v := .int .i64 c.stamp) hh2 rfl).1
  have u4 := (cell_of_heap (i := 4) (v := .int .i64 q) hh2 rfl).1
  have u5 := (cell_of_heap (i := 5) (v := .string c.key) hh2 rfl).1
  have u6 := (cell_of_heap (i := 6) (v := .string c.value) hh2 rfl).1
  have u7 := (cell_of_heap (i := 7) (v := .int .i64 c.mode) hh2 rfl).1
  have u8 := (cell_of_heap (i := 8) (v := .bool c.yes) hh2 rfl).1
  have M6 := HDR.out _ _ _ inferInstance inferInstance HM3.out
  have HD := Lib.hid (M6.below (bel_new w1 (.cells #[.int .i64 c.kind, .int .i64 c.tx, .int .i64 c.attempt, .int .i64 c.stamp, .int .i64 c.op, .string c.key, .string c.value, .int .i64 c.mode, .bool c.yes] 38)))
  have hl0 := World.block_lt_of_cell? w1 _ u0
  simp only at hl0
  clear hb hh2 M6 HM2 HNX HM3 HDR
  go_wp2_with fail
  go_ret
  exact ⟨rfl, HD.out⟩
theorem told_any (p : Rep) (M : Mem w0 D0 w (DrA g mg l d :: MapA mg ss :: r)) (ok : DOk ss l d) (hp : d.phase ≠ 8) (hpv : p.v.size ≤ 140737488355328) (hv : LibV w) :
    Calls Tryd.prog 12 #[.pointer (some ⟨g, 0, none⟩), Cmd.val (nextC l d), Rep.val p] w fun e w' => e = .returned (.bool true) ∧ Mem w0 D0 w' (DrA g mg l (toldM ss l d p) :: MapA mg ss :: r) := by
  have h0 := ok.ph0
  have h8 := ok.ph8
  rcases (show d.phase = 0 ∨ d.phase = 1 ∨ d.phase = 2 ∨ d.phase = 3 ∨ d.phase = 4 ∨ d.phase = 5 ∨ d.phase = 6 ∨ d.phase = 7 by omega) with h | h | h | h | h | h | h | h
  · exact told0 p M ok h
  · exact told1 p M ok h
  · exact told2 p M ok h
  · exact told3 p M ok h hpv hv
  · exact told4 p M ok h
  · exact told5 p M ok h
  · exact told6 p M ok h
  · exact told7 p M ok h
end
end Go.Proofs.YtmifgnibalbgjaaDoor

