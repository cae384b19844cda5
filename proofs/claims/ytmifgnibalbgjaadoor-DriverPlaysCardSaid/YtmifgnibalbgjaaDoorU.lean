/- The driver is told an answer. -/
import Derived.Test.YtmifgnibalbgjaaDoorT
namespace Go.Proofs.YtmifgnibalbgjaaDoor
open Go.RowKit
def toldM (ss : List ByteArray) (l : List Opp) (d : Dr) (p : Rep) : Dr :=
  if d.phase = 1 ∨ d.phase = 3 ∨ d.phase = 4 then accessedM ss l d p
  else if d.phase = 7 then (if p.code = 0 then (if d.tl.tail = [] then behindM { d with tl := [] } else { d with tl := d.tl.tail }) else d)
  else homedM ss l d p
theorem DOk.in {ss : List ByteArray} {l : List Opp} {d : Dr} (h : DOk ss l d) : DIn ss l d :=
  ⟨h.right, h.len, h.nth, fun hp => (h.rise hp).imp fun hab => Int.le_of_lt hab, by have := h.tllen; have := h.nlen; have := h.len; omega, by have := h.reslen; have := h.nlen; have := h.len; omega, ⟨by have := h.att.1; omega, h.att.2.1⟩⟩
section
variable {w0 w : World} {D0 : List Nat} {g mg : Nat} {l : List Opp} {d : Dr} {ss : List ByteArray} {r : List Asn} [Stables r]
set_option maxRecDepth 100000 in
set_option maxHeartbeats 8000000 in
theorem told_no (c : Cmd) (p : Rep) (M : Mem w0 D0 w (DrA g mg l d :: MapA mg ss :: r)) (ok : DOk ss l d) (hp : d.phase = 8) :
    Calls Tryd.prog 12 #[.pointer (some ⟨g, 0, none⟩), Cmd.val c, Rep.val p] w fun e w' => e = .returned (.bool false) ∧ Mem w0 D0 w' (DrA g mg l d :: MapA mg ss :: r) := by
  obtain ⟨pc0, ps0, pv, ph0⟩ := p
  have HM2 : Hid (Mem w0 D0 ((w.alloc (.cells #[.int .i64 c.kind, .int .i64 c.tx, .int .i64 c.attempt, .int .i64 c.stamp, .int .i64 c.op, .string c.key, .string c.value, .int .i64 c.mode, .bool c.yes] 38)).alloc (.cells #[.int .i64 pc0, .int .i64 ps0, .string pv, .bool ph0] 36)) (BlockA (w.heap.size + 1) #[.int .i64 pc0, .int .i64 ps0, .string pv, .bool ph0] 36 :: BlockA w.heap.size #[.int .i64 c.kind, .int .i64 c.tx, .int .i64 c.attempt, .int .i64 c.stamp, .int .i64 c.op, .string c.key, .string c.value, .int .i64 c.mode, .bool c.yes] 38 :: DrA g mg l d :: MapA mg ss :: r)) := Lib.hid (by
    have m := (M.block #[.int .i64 c.kind, .int .i64 c.tx, .int .i64 c.attempt, .int .i64 c.stamp, .int .i64 c.op, .string c.key, .string c.value, .int .i64 c.mode, .bool c.yes] 38).block #[.int .i64 pc0, .int .i64 ps0, .string pv, .bool ph0] 36
    simpa using m)
  have HDR : Hid (∀ W B1 B2, Stable B1 → Stable B2 → Mem w0 D0 W (B1 :: B2 :: DrA g mg l d :: MapA mg ss :: r) → Mem w0 D0 W (DrA g mg l d :: MapA mg ss :: r)) := Lib.hid fun W B1 B2 s1 s2 h => Mem.drop [] (A := B2) (Mem.drop [] (A := B1) (r := B2 :: DrA g mg l d :: MapA mg ss :: r) h)
  have HNX := Lib.hid (next_any (HDR.out _ _ _ inferInstance inferInstance HM2.out) ok)
  unfold nextE Cmd.val at HNX
  rw [show decide (d.phase ≠ 8) = false by rw [hp]; rfl] at HNX
  generalize nextC l d = nc at *
  generalize nextS ss l d = ns at *
  unfold Cmd.val Rep.val
  simp only
  clear M ok
  go_enter Tryd.func12, Tryd.ntmps12
  go_wp2_with fail
  refine HNX.out.mono ?_
  rintro e w1 ⟨rfl, hb⟩
  have HM3 := Lib.hid (Mem.below HM2.out hb)
  have hh := Mem.heapAt [] HM3.out
  have v0 := (cell_of_heap (i := 0) (v := .int .i64 pc0) hh rfl).1
  have v1 := (cell_of_heap (i := 1) (v := .int .i64 ps0) hh rfl).1
  have v2 := (cell_of_heap (i := 2) (v := .string pv) hh rfl).1
  have v3 := (cell_of_heap (i := 3) (v := .bool ph0) hh rfl).1
  have hh2 := Mem.heapAt [BlockA (w.heap.size + 1) #[.int .i64 pc0, .int .i64 ps0, .string pv, .bool ph0] 36] (r := DrA g mg l d :: MapA mg ss :: r) HM3.out
  have u0 := (cell_of_heap (i := 0) (v := .int .i64 c.kind) hh2 rfl).1
  have u1 := (cell_of_heap (i := 1) (v := .int .i64 c.tx) hh2 rfl).1
  have u2 := (cell_of_heap (i := 2) (v := .int .i64 c.attempt) hh2 rfl).1
  have u3 := (cell_of_heap (i := 3) (v := .int .i64 c.stamp) hh2 rfl).1
  have u4 := (cell_of_heap (i := 4) (v := .int .i64 c.op) hh2 rfl).1
  have u5 := (cell_of_heap (i := 5) (v := .string c.key) hh2 rfl).1
  have u6 := (cell_of_heap (i := 6) (v := .string c.value) hh2 rfl).1
  have u7 := (cell_of_heap (i := 7) (v := .int .i64 c.mode) hh2 rfl).1
  have u8 := (cell_of_heap (i := 8) (v := .bool c.yes) hh2 rfl).1
  have M6 := HDR.out _ _ _ inferInstance inferInstance HM3.out
  obtain ⟨pa, pc, ra, rc, tv, lv, hg⟩ := Mem.drAt M6
  obtain ⟨c6, cf6⟩ := drC_cell hg 6 (.int .i64 d.phase) rfl
  have HD := Lib.hid (M6.below (bel_new w1 (.cells #[.int .i64 nc.kind, .int .i64 nc.tx, .int .i64 nc.attempt, .int .i64 nc.stamp, .int .i64 nc.op, .string nc.key, .string nc.value, .int .i64 nc.mode, .bool nc.yes] 38)))
  have hlg := World.block_lt_of_cell? w1 _ c6
  have hl0 := World.block_lt_of_cell? w1 _ u0
  have hl1 := World.block_lt_of_cell? w1 _ v0
  simp only at hlg hl0 hl1
  clear hb hh hh2 hg M6 HM2 HNX
  go_wp2_with fail
  go_ret
  exact ⟨rfl, HD.out⟩
set_option maxRecDepth 100000 in
set_option maxHeartbeats 8000000 in
theorem told1 (p : Rep) (M : Mem w0 D0 w (DrA g mg l d :: MapA mg ss :: r)) (ok : DOk ss l d) (hp : d.phase = 1) :
    Calls Tryd.prog 12 #[.pointer (some ⟨g, 0, none⟩), Cmd.val (nextC l d), Rep.val p] w fun e w' => e = .returned (.bool true) ∧ Mem w0 D0 w' (DrA g mg l (toldM ss l d p) :: MapA mg ss :: r) := by
  obtain ⟨pc0, ps0, pv, ph0⟩ := p
  have HM2 : Hid (Mem w0 D0 ((w.alloc (.cells #[.int .i64 (nextC l d).kind, .int .i64 (nextC l d).tx, .int .i64 (nextC l d).attempt, .int .i64 (nextC l d).stamp, .int .i64 (nextC l d).op, .string (nextC l d).key, .string (nextC l d).value, .int .i64 (nextC l d).mode, .bool (nextC l d).yes] 38)).alloc (.cells #[.int .i64 pc0, .int .i64 ps0, .string pv, .bool ph0] 36)) (BlockA (w.heap.size + 1) #[.int .i64 pc0, .int .i64 ps0, .string pv, .bool ph0] 36 :: BlockA w.heap.size #[.int .i64 (nextC l d).kind, .int .i64 (nextC l d).tx, .int .i64 (nextC l d).attempt, .int .i64 (nextC l d).stamp, .int .i64 (nextC l d).op, .string (nextC l d).key, .string (nextC l d).value, .int .i64 (nextC l d).mode, .bool (nextC l d).yes] 38 :: DrA g mg l d :: MapA mg ss :: r)) := Lib.hid (by
    have m := (M.block #[.int .i64 (nextC l d).kind, .int .i64 (nextC l d).tx, .int .i64 (nextC l d).attempt, .int .i64 (nextC l d).stamp, .int .i64 (nextC l d).op, .string (nextC l d).key, .string (nextC l d).value, .int .i64 (nextC l d).mode, .bool (nextC l d).yes] 38).block #[.int .i64 pc0, .int .i64 ps0, .string pv, .bool ph0] 36
    simpa using m)
  have HDR : Hid (∀ W B1 B2, Stable B1 → Stable B2 → Mem w0 D0 W (B1 :: B2 :: DrA g mg l d :: MapA mg ss :: r) → Mem w0 D0 W (DrA g mg l d :: MapA mg ss :: r)) := Lib.hid fun W B1 B2 s1 s2 h => Mem.drop [] (A := B2) (Mem.drop [] (A := B1) (r := B2 :: DrA g mg l d :: MapA mg ss :: r) h)
  have HNX := Lib.hid (next_any (HDR.out _ _ _ inferInstance inferInstance HM2.out) ok)
  have HE : Hid (toldM ss l d ⟨pc0, ps0, pv, ph0⟩ = accessedM ss l d ⟨pc0, ps0, pv, ph0⟩) := Lib.hid (by unfold toldM; rw [if_pos (by omega)])
  have HIN := Lib.hid ok.in
  unfold nextE Cmd.val at HNX
  rw [show decide (d.phase ≠ 8) = true by rw [hp]; rfl] at HNX
  generalize nextC l d = c at *
  generalize nextS ss l d = ns at *
  unfold Cmd.val Rep.val
  simp only
  clear M ok
  go_enter Tryd.func12, Tryd.ntmps12
  go_wp2_with fail
  refine HNX.out.mono ?_
  rintro e w1 ⟨rfl, hb⟩
  have HM3 := Lib.hid (Mem.below HM2.out hb)
  have hh := Mem.heapAt [] HM3.out
  have v0 := (cell_of_heap (i := 0) (v := .int .i64 pc0) hh rfl).1
  have v1 := (cell_of_heap (i := 1) (v := .int .i64 ps0) hh rfl).1
  have v2 := (cell_of_heap (i := 2) (v := .string pv) hh rfl).1
  have v3 := (cell_of_heap (i := 3) (v := .bool ph0) hh rfl).1
  have hh2 := Mem.heapAt [BlockA (w.heap.size + 1) #[.int .i64 pc0, .int .i64 ps0, .string pv, .bool ph0] 36] (r := DrA g mg l d :: MapA mg ss :: r) HM3.out
  have u0 := (cell_of_heap (i := 0) (v := .int .i64 c.kind) hh2 rfl).1
  have u1 := (cell_of_heap (i := 1) (v := .int .i64 c.tx) hh2 rfl).1
  have u2 := (cell_of_heap (i := 2) (v := .int .i64 c.attempt) hh2 rfl).1
  have u3 := (cell_of_heap (i := 3) (v := .int .i64 c.stamp) hh2 rfl).1
  have u4 := (cell_of_heap (i := 4) (v := .int .i64 c.op) hh2 rfl).1
  have u5 := (cell_of_heap (i := 5) (v := .string c.key) hh2 rfl).1
  have u6 := (cell_of_heap (i := 6) (v := .string c.value) hh2 rfl).1
  have u7 := (cell_of_heap (i := 7) (v := .int .i64 c.mode) hh2 rfl).1
  have u8 := (cell_of_heap (i := 8) (v := .bool c.yes) hh2 rfl).1
  have M6 := HDR.out _ _ _ inferInstance inferInstance HM3.out
  obtain ⟨pa, pc, ra, rc, tv, lv, hg⟩ := Mem.drAt M6
  obtain ⟨c6, cf6⟩ := drC_cell hg 6 (.int .i64 d.phase) rfl
  have HD := Lib.hid (M6.below (bel_new w1 (.cells #[.int .i64 c.kind, .int .i64 c.tx, .int .i64 c.attempt, .int .i64 c.stamp, .int .i64 c.op, .string c.key, .string c.value, .int .i64 c.mode, .bool c.yes] 38)))
  have hlg := World.block_lt_of_cell? w1 _ c6
  have hl0 := World.block_lt_of_cell? w1 _ u0
  have hl1 := World.block_lt_of_cell? w1 _ v0
  simp only at hlg hl0 hl1
  clear hb hh hh2 hg M6 HM2 HNX
  rw [hp] at c6
  have HC := Lib.hid (accessed1 ⟨pc0, ps0, pv, ph0⟩ HD.out HIN.out hp)
  unfold Rep.val at HC
  simp only at HC
  clear HD HDR HIN hp
  go_wp2_with fail
  refine HC.out.mono ?_
  rintro e w7 ⟨rfl, hm⟩
  have HF := Lib.hid hm
  clear hm HC
  go_wp2_with fail
  go_ret
  refine ⟨rfl, ?_⟩
  rw [HE.out]
  exact HF.out
set_option maxRecDepth 100000 in
set_option maxHeartbeats 8000000 in
theorem told3 (p : Rep) (M : Mem w0 D0 w (DrA g mg l d :: MapA mg ss :: r)) (ok : DOk ss l d) (hp : d.phase = 3) (hpv : p.v.size ≤ 140737488355328) (hv : LibV w) :
    Calls Tryd.prog 12 #[.pointer (some ⟨g, 0, none⟩), Cmd.val (nextC l d), Rep.val p] w fun e w' => e = .returned (.bool true) ∧ Mem w0 D0 w' (DrA g mg l (toldM ss l d p) :: MapA mg ss :: r) := by
  obtain ⟨pc0, ps0, pv, ph0⟩ := p
  have HM2 : Hid (Mem w0 D0 ((w.alloc (.cells #[.int .i64 (nextC l d).kind, .int .i64 (nextC l d).tx, .int .i64 (nextC l d).attempt, .int .i64 (nextC l d).stamp, .int .i64 (nextC l d).op, .string (nextC l d).key, .string (nextC l d).value, .int .i64 (nextC l d).mode, .bool (nextC l d).yes] 38)).alloc (.cells #[.int .i64 pc0, .int .i64 ps0, .string pv, .bool ph0] 36)) (BlockA (w.heap.size + 1) #[.int .i64 pc0, .int .i64 ps0, .string pv, .bool ph0] 36 :: BlockA w.heap.size #[.int .i64 (nextC l d).kind, .int .i64 (nextC l d).tx, .int .i64 (nextC l d).attempt, .int .i64 (nextC l d).stamp, .int .i64 (nextC l d).op, .string (nextC l d).key, .string (nextC l d).value, .int .i64 (nextC l d).mode, .bool (nextC l d).yes] 38 :: DrA g mg l d :: MapA mg ss :: r)) := Lib.hid (by
    have m := (M.block #[.int .i64 (nextC l d).kind, .int .i64 (nextC l d).tx, .int .i64 (nextC l d).attempt, .int .i64 (nextC l d).stamp, .int .i64 (nextC l d).op, .string (nextC l d).key, .string (nextC l d).value, .int .i64 (nextC l d).mode, .bool (nextC l d).yes] 38).block #[.int .i64 pc0, .int .i64 ps0, .string pv, .bool ph0] 36
    simpa using m)
  have HDR : Hid (∀ W B1 B2, Stable B1 → Stable B2 → Mem w0 D0 W (B1 :: B2 :: DrA g mg l d :: MapA mg ss :: r) → Mem w0 D0 W (DrA g mg l d :: MapA mg ss :: r)) := Lib.hid fun W B1 B2 s1 s2 h => Mem.drop [] (A := B2) (Mem.drop [] (A := B1) (r := B2 :: DrA g mg l d :: MapA mg ss :: r) h)
  have HNX := Lib.hid (next_any (HDR.out _ _ _ inferInstance inferInstance HM2.out) ok)
  have HE : Hid (toldM ss l d ⟨pc0, ps0, pv, ph0⟩ = accessedM ss l d ⟨pc0, ps0, pv, ph0⟩) := Lib.hid (by unfold toldM; rw [if_pos (by omega)])
  have HIN := Lib.hid ok.in
  have HV2 : Hid (∀ W, Below w.heap.size w W → LibV W) := Lib.hid fun W hb => hv.below hb
  have HBW : Hid (Below w.heap.size w ((w.alloc (.cells #[.int .i64 (nextC l d).kind, .int .i64 (nextC l d).tx, .int .i64 (nextC l d).attempt, .int .i64 (nextC l d).stamp, .int .i64 (nextC l d).op, .string (nextC l d).key, .string (nextC l d).value, .int .i64 (nextC l d).mode, .bool (nextC l d).yes] 38)).alloc (.cells #[.int .i64 pc0, .int .i64 ps0, .string pv, .bool ph0] 36))) := Lib.hid (Joins.below_alloc2 _ _ _)
  unfold nextE Cmd.val at HNX
  rw [show decide (d.phase ≠ 8) = true by rw [hp]; rfl] at HNX
  generalize nextC l d = c at *
  generalize nextS ss l d = ns at *
  unfold Cmd.val Rep.val
  simp only at *
  clear M ok
  go_enter Tryd.func12, Tryd.ntmps12
  go_wp2_with fail
  refine HNX.out.mono ?_
  rintro e w1 ⟨rfl, hb⟩
  have HM3 := Lib.hid (Mem.below HM2.out hb)
  have hh := Mem.heapAt [] HM3.out
  have v0 := (cell_of_heap (i := 0) (v := .int .i64 pc0) hh rfl).1
  have v1 := (cell_of_heap (i := 1) (v := .int .i64 ps0) hh rfl).1
  have v2 := (cell_of_heap (i := 2) (v := .string pv) hh rfl).1
  have v3 := (cell_of_heap (i := 3) (v := .bool ph0) hh rfl).1
  have hh2 := Mem.heapAt [BlockA (w.heap.size + 1) #[.int .i64 pc0, .int .i64 ps0, .string pv, .bool ph0] 36] (r := DrA g mg l d :: MapA mg ss :: r) HM3.out
  have u0 := (cell_of_heap (i := 0) (v := .int .i64 c.kind) hh2 rfl).1
  have u1 := (cell_of_heap (i := 1) (v := .int .i64 c.tx) hh2 rfl).1
  have u2 := (cell_of_heap (i := 2) (v := .int .i64 c.attempt) hh2 rfl).1
  have u3 := (cell_of_heap (i := 3) (v := .int .i64 c.stamp) hh2 rfl).1
  have u4 := (cell_of_heap (i := 4) (v := .int .i64 c.op) hh2 rfl).1
  have u5 := (cell_of_heap (i := 5) (v := .string c.key) hh2 rfl).1
  have u6 := (cell_of_heap (i := 6) (v := .string c.value) hh2 rfl).1
  have u7 := (cell_of_heap (i := 7) (v := .int .i64 c.mode) hh2 rfl).1
  have u8 := (cell_of_heap (i := 8) (v := .bool c.yes) hh2 rfl).1
  have M6 := HDR.out _ _ _ inferInstance inferInstance HM3.out
  obtain ⟨pa, pc, ra, rc, tv, lv, hg⟩ := Mem.drAt M6
  obtain ⟨c6, cf6⟩ := drC_cell hg 6 (.int .i64 d.phase) rfl
  have HD := Lib.hid (M6.below (bel_new w1 (.cells #[.int .i64 c.kind, .int .i64 c.tx, .int .i64 c.attempt, .int .i64 c.stamp, .int .i64 c.op, .string c.key, .string c.value, .int .i64 c.mode, .bool c.yes] 38)))
  have hlg := World.block_lt_of_cell? w1 _ c6
  have hl0 := World.block_lt_of_cell? w1 _ u0
  have hl1 := World.block_lt_of_cell? w1 _ v0
  simp only at hlg hl0 hl1
  have HVW := Lib.hid (HV2.out _ ((HBW.out.trans (hb.mono HBW.out.size)).alloc (Nat.le_trans HBW.out.size hb.size) (.cells #[.int .i64 c.kind, .int .i64 c.tx, .int .i64 c.attempt, .int .i64 c.stamp, .int .i64 c.op, .string c.key, .string c.value, .int .i64 c.mode, .bool c.yes] 38)))
  clear HV2 HBW
  clear hb hh hh2 hg M6 HM2 HNX
  rw [hp] at c6
  have HC := Lib.hid (accessed3 ⟨pc0, ps0, pv, ph0⟩ HD.out HIN.out hp hpv HVW.out)
  unfold Rep.val at HC
  simp only at HC
  clear HD HDR HIN hp
  go_wp2_with fail
  refine HC.out.mono ?_
  rintro e w7 ⟨rfl, hm⟩
  have HF := Lib.hid hm
  clear hm HC
  go_wp2_with fail
  go_ret
  refine ⟨rfl, ?_⟩
  rw [HE.out]
  exact HF.out
set_option maxRecDepth 100000 in
set_option maxHeartbeats 8000000 in
theorem told4 (p : Rep) (M : Mem w0 D0 w (DrA g mg l d :: MapA mg ss :: r)) (ok : DOk ss l d) (hp : d.phase = 4) :
    Calls Tryd.prog 12 #[.pointer (some ⟨g, 0, none⟩), Cmd.val (nextC l d), Rep.val p] w fun e w' => e = .returned (.bool true) ∧ Mem w0 D0 w' (DrA g mg l (toldM ss l d p) :: MapA mg ss :: r) := by
  obtain ⟨pc0, ps0, pv, ph0⟩ := p
  have HM2 : Hid (Mem w0 D0 ((w.alloc (.cells #[.int .i64 (nextC l d).kind, .int .i64 (nextC l d).tx, .int .i64 (nextC l d).attempt, .int .i64 (nextC l d).stamp, .int .i64 (nextC l d).op, .string (nextC l d).key, .string (nextC l d).value, .int .i64 (nextC l d).mode, .bool (nextC l d).yes] 38)).alloc (.cells #[.int .i64 pc0, .int .i64 ps0, .string pv, .bool ph0] 36)) (BlockA (w.heap.size + 1) #[.int .i64 pc0, .int .i64 ps0, .string pv, .bool ph0] 36 :: BlockA w.heap.size #[.int .i64 (nextC l d).kind, .int .i64 (nextC l d).tx, .int .i64 (nextC l d).attempt, .int .i64 (nextC l d).stamp, .int .i64 (nextC l d).op, .string (nextC l d).key, .string (nextC l d).value, .int .i64 (nextC l d).mode, .bool (nextC l d).yes] 38 :: DrA g mg l d :: MapA mg ss :: r)) := Lib.hid (by
    have m := (M.block #[.int .i64 (nextC l d).kind, .int .i64 (nextC l d).tx, .int .i64 (nextC l d).attempt, .int .i64 (nextC l d).stamp, .int .i64 (nextC l d).op, .string (nextC l d).key, .string (nextC l d).value, .int .i64 (nextC l d).mode, .bool (nextC l d).yes] 38).block #[.int .i64 pc0, .int .i64 ps0, .string pv, .bool ph0] 36
    simpa using m)
  have HDR : Hid (∀ W B1 B2, Stable B1 → Stable B2 → Mem w0 D0 W (B1 :: B2 :: DrA g mg l d :: MapA mg ss :: r) → Mem w0 D0 W (DrA g mg l d :: MapA mg ss :: r)) := Lib.hid fun W B1 B2 s1 s2 h => Mem.drop [] (A := B2) (Mem.drop [] (A := B1) (r := B2 :: DrA g mg l d :: MapA mg ss :: r) h)
  have HNX := Lib.hid (next_any (HDR.out _ _ _ inferInstance inferInstance HM2.out) ok)
  have HE : Hid (toldM ss l d ⟨pc0, ps0, pv, ph0⟩ = accessedM ss l d ⟨pc0, ps0, pv, ph0⟩) := Lib.hid (by unfold toldM; rw [if_pos (by omega)])
  have HIN := Lib.hid ok.in
  unfold nextE Cmd.val at HNX
  rw [show decide (d.phase ≠ 8) = true by rw [hp]; rfl] at HNX
  generalize nextC l d = c at *
  generalize nextS ss l d = ns at *
  unfold Cmd.val Rep.val
  simp only
  clear M ok
  go_enter Tryd.func12, Tryd.ntmps12
  go_wp2_with fail
  refine HNX.out.mono ?_
  rintro e w1 ⟨rfl, hb⟩
  have HM3 := Lib.hid (Mem.below HM2.out hb)
  have hh := Mem.heapAt [] HM3.out
  have v0 := (cell_of_heap (i := 0) (v := .int .i64 pc0) hh rfl).1
  have v1 := (cell_of_heap (i := 1) (v := .int .i64 ps0) hh rfl).1
  have v2 := (cell_of_heap (i := 2) (v := .string pv) hh rfl).1
  have v3 := (cell_of_heap (i := 3) (v := .bool ph0) hh rfl).1
  have hh2 := Mem.heapAt [BlockA (w.heap.size + 1) #[.int .i64 pc0, .int .i64 ps0, .string pv, .bool ph0] 36] (r := DrA g mg l d :: MapA mg ss :: r) HM3.out
  have u0 := (cell_of_heap (i := 0) (v := .int .i64 c.kind) hh2 rfl).1
  have u1 := (cell_of_heap (i := 1) (v := .int .i64 c.tx) hh2 rfl).1
  have u2 := (cell_of_heap (i := 2) (v := .int .i64 c.attempt) hh2 rfl).1
  have u3 := (cell_of_heap (i := 3) (v := .int .i64 c.stamp) hh2 rfl).1
  have u4 := (cell_of_heap (i := 4) (v := .int .i64 c.op) hh2 rfl).1
  have u5 := (cell_of_heap (i := 5) (v := .string c.key) hh2 rfl).1
  have u6 := (cell_of_heap (i := 6) (v := .string c.value) hh2 rfl).1
  have u7 := (cell_of_heap (i := 7) (v := .int .i64 c.mode) hh2 rfl).1
  have u8 := (cell_of_heap (i := 8) (v := .bool c.yes) hh2 rfl).1
  have M6 := HDR.out _ _ _ inferInstance inferInstance HM3.out
  obtain ⟨pa, pc, ra, rc, tv, lv, hg⟩ := Mem.drAt M6
  obtain ⟨c6, cf6⟩ := drC_cell hg 6 (.int .i64 d.phase) rfl
  have HD := Lib.hid (M6.below (bel_new w1 (.cells #[.int .i64 c.kind, .int .i64 c.tx, .int .i64 c.attempt, .int .i64 c.stamp, .int .i64 c.op, .string c.key, .string c.value, .int .i64 c.mode, .bool c.yes] 38)))
  have hlg := World.block_lt_of_cell? w1 _ c6
  have hl0 := World.block_lt_of_cell? w1 _ u0
  have hl1 := World.block_lt_of_cell? w1 _ v0
  simp only at hlg hl0 hl1
  clear hb hh hh2 hg M6 HM2 HNX
  rw [hp] at c6
  have HC := Lib.hid (accessed4 ⟨pc0, ps0, pv, ph0⟩ HD.out HIN.out hp)
  unfold Rep.val at HC
  simp only at HC
  clear HD HDR HIN hp
  go_wp2_with fail
  refine HC.out.mono ?_
  rintro e w7 ⟨rfl, hm⟩
  have HF := Lib.hid hm
  clear hm HC
  go_wp2_with fail
  go_ret
  refine ⟨rfl, ?_⟩
  rw [HE.out]
  exact HF.out
set_option maxRecDepth 100000 in
set_option maxHeartbeats 8000000 in
theorem told0 (p : Rep) (M : Mem w0 D0 w (DrA g mg l d :: MapA mg ss :: r)) (ok : DOk ss l d) (hp : d.phase = 0) :
    Calls Tryd.prog 12 #[.pointer (some ⟨g, 0, none⟩), Cmd.val (nextC l d), Rep.val p] w fun e w' => e = .returned (.bool true) ∧ Mem w0 D0 w' (DrA g mg l (toldM ss l d p) :: MapA mg ss :: r) := by
  obtain ⟨pc0, ps0, pv, ph0⟩ := p
  have HM2 : Hid (Mem w0 D0 ((w.alloc (.cells #[.int .i64 (nextC l d).kind, .int .i64 (nextC l d).tx, .int .i64 (nextC l d).attempt, .int .i64 (nextC l d).stamp, .int .i64 (nextC l d).op, .string (nextC l d).key, .string (nextC l d).value, .int .i64 (nextC l d).mode, .bool (nextC l d).yes] 38)).alloc (.cells #[.int .i64 pc0, .int .i64 ps0, .string pv, .bool ph0] 36)) (BlockA (w.heap.size + 1) #[.int .i64 pc0, .int .i64 ps0, .string pv, .bool ph0] 36 :: BlockA w.heap.size #[.int .i64 (nextC l d).kind, .int .i64 (nextC l d).tx, .int .i64 (nextC l d).attempt, .int .i64 (nextC l d).stamp, .int .i64 (nextC l d).op, .string (nextC l d).key, .string (nextC l d).value, .int .i64 (nextC l d).mode, .bool (nextC l d).yes] 38 :: DrA g mg l d :: MapA mg ss :: r)) := Lib.hid (by
    have m := (M.block #[.int .i64 (nextC l d).kind, .int .i64 (nextC l d).tx, .int .i64 (nextC l d).attempt, .int .i64 (nextC l d).stamp, .int .i64 (nextC l d).op, .string (nextC l d).key, .string (nextC l d).value, .int .i64 (nextC l d).mode, .bool (nextC l d).yes] 38).block #[.int .i64 pc0, .int .i64 ps0, .string pv, .bool ph0] 36
    simpa using m)
  have HDR : Hid (∀ W B1 B2, Stable B1 → Stable B2 → Mem w0 D0 W (B1 :: B2 :: DrA g mg l d :: MapA mg ss :: r) → Mem w0 D0 W (DrA g mg l d :: MapA mg ss :: r)) := Lib.hid fun W B1 B2 s1 s2 h => Mem.drop [] (A := B2) (Mem.drop [] (A := B1) (r := B2 :: DrA g mg l d :: MapA mg ss :: r) h)
  have HNX := Lib.hid (next_any (HDR.out _ _ _ inferInstance inferInstance HM2.out) ok)
  have HE : Hid (toldM ss l d ⟨pc0, ps0, pv, ph0⟩ = homedM ss l d ⟨pc0, ps0, pv, ph0⟩) := Lib.hid (by unfold toldM; rw [if_neg (by omega), if_neg (by omega)])
  have HIN := Lib.hid ok.in
  unfold nextE Cmd.val at HNX
  rw [show decide (d.phase ≠ 8) = true by rw [hp]; rfl] at HNX
  generalize nextC l d = c at *
  generalize nextS ss l d = ns at *
  unfold Cmd.val Rep.val
  simp only
  clear M ok
  go_enter Tryd.func12, Tryd.ntmps12
  go_wp2_with fail
  refine HNX.out.mono ?_
  rintro e w1 ⟨rfl, hb⟩
  have HM3 := Lib.hid (Mem.below HM2.out hb)
  have hh := Mem.heapAt [] HM3.out
  have v0 := (cell_of_heap (i := 0) (v := .int .i64 pc0) hh rfl).1
  have v1 := (cell_of_heap (i := 1) (v := .int .i64 ps0) hh rfl).1
  have v2 := (cell_of_heap (i := 2) (v := .string pv) hh rfl).1
  have v3 := (cell_of_heap (i := 3) (v := .bool ph0) hh rfl).1
  have hh2 := Mem.heapAt [BlockA (w.heap.size + 1) #[.int .i64 pc0, .int .i64 ps0, .string pv, .bool ph0] 36] (r := DrA g mg l d :: MapA mg ss :: r) HM3.out
  have u0 := (cell_of_heap (i := 0) (v := .int .i64 c.kind) hh2 rfl).1
  have u1 := (cell_of_heap (i := 1) (v := .int .i64 c.tx) hh2 rfl).1
  have u2 := (cell_of_heap (i := 2) (v := .int .i64 c.attempt) hh2 rfl).1
  have u3 := (cell_of_heap (i := 3) (v := .int .i64 c.stamp) hh2 rfl).1
  have u4 := (cell_of_heap (i := 4) (v := .int .i64 c.op) hh2 rfl).1
  have u5 := (cell_of_heap (i := 5) (v := .string c.key) hh2 rfl).1
  have u6 := (cell_of_heap (i := 6) (v := .string c.value) hh2 rfl).1
  have u7 := (cell_of_heap (i := 7) (v := .int .i64 c.mode) hh2 rfl).1
  have u8 := (cell_of_heap (i := 8) (v := .bool c.yes) hh2 rfl).1
  have M6 := HDR.out _ _ _ inferInstance inferInstance HM3.out
  obtain ⟨pa, pc, ra, rc, tv, lv, hg⟩ := Mem.drAt M6
  obtain ⟨c6, cf6⟩ := drC_cell hg 6 (.int .i64 d.phase) rfl
  have HD := Lib.hid (M6.below (bel_new w1 (.cells #[.int .i64 c.kind, .int .i64 c.tx, .int .i64 c.attempt, .int .i64 c.stamp, .int .i64 c.op, .string c.key, .string c.value, .int .i64 c.mode, .bool c.yes] 38)))
  have hlg := World.block_lt_of_cell? w1 _ c6
  have hl0 := World.block_lt_of_cell? w1 _ u0
  have hl1 := World.block_lt_of_cell? w1 _ v0
  simp only at hlg hl0 hl1
  clear hb hh hh2 hg M6 HM2 HNX
  rw [hp] at c6
  have HC := Lib.hid (homed0 ⟨pc0, ps0, pv, ph0⟩ HD.out HIN.out hp)
  unfold Rep.val at HC
  simp only at HC
  clear HD HDR HIN hp
  go_wp2_with fail
  refine HC.out.mono ?_
  rintro e w7 ⟨rfl, hm⟩
  have HF := Lib.hid hm
  clear hm HC
  go_wp2_with fail
  go_ret
  refine ⟨rfl, ?_⟩
  rw [HE.out]
  exact HF.out
set_option maxRecDepth 100000 in
set_option maxHeartbeats 8000000 in
theorem told2 (p : Rep) (M : Mem w0 D0 w (DrA g mg l d :: MapA mg ss :: r)) (ok : DOk ss l d) (hp : d.phase = 2) :
    Calls Tryd.prog 12 #[.pointer (some ⟨g, 0, none⟩), Cmd.val (nextC l d), Rep.val p] w fun e w' => e = .returned (.bool true) ∧ Mem w0 D0 w' (DrA g mg l (toldM ss l d p) :: MapA mg ss :: r) := by
  obtain ⟨pc0, ps0, pv, ph0⟩ := p
  have HM2 : Hid (Mem w0 D0 ((w.alloc (.cells #[.int .i64 (nextC l d).kind, .int .i64 (nextC l d).tx, .int .i64 (nextC l d).attempt, .int .i64 (nextC l d).stamp, .int .i64 (nextC l d).op, .string (nextC l d).key, .string (nextC l d).value, .int .i64 (nextC l d).mode, .bool (nextC l d).yes] 38)).alloc (.cells #[.int .i64 pc0, .int .i64 ps0, .string pv, .bool ph0] 36)) (BlockA (w.heap.size + 1) #[.int .i64 pc0, .int .i64 ps0, .string pv, .bool ph0] 36 :: BlockA w.heap.size #[.int .i64 (nextC l d).kind, .int .i64 (nextC l d).tx, .int .i64 (nextC l d).attempt, .int .i64 (nextC l d).stamp, .int .i64 (nextC l d).op, .string (nextC l d).key, .string (nextC l d).value, .int .i64 (nextC l d).mode, .bool (nextC l d).yes] 38 :: DrA g mg l d :: MapA mg ss :: r)) := Lib.hid (by
    have m := (M.block #[.int .i64 (nextC l d).kind, .int .i64 (nextC l d).tx, .int .i64 (nextC l d).attempt, .int .i64 (nextC l d).stamp, .int .i64 (nextC l d).op, .string (nextC l d).key, .string (nextC l d).value, .int .i64 (nextC l d).mode, .bool (nextC l d).yes] 38).block #[.int .i64 pc0, .int .i64 ps0, .string pv, .bool ph0] 36
    simpa using m)
  have HDR : Hid (∀ W B1 B2, Stable B1 → Stable B2 → Mem w0 D0 W (B1 :: B2 :: DrA g mg l d :: MapA mg ss :: r) → Mem w0 D0 W (DrA g mg l d :: MapA mg ss :: r)) := Lib.hid fun W B1 B2 s1 s2 h => Mem.drop [] (A := B2) (Mem.drop [] (A := B1) (r := B2 :: DrA g mg l d :: MapA mg ss :: r) h)
  have HNX := Lib.hid (next_any (HDR.out _ _ _ inferInstance inferInstance HM2.out) ok)
  have HE : Hid (toldM ss l d ⟨pc0, ps0, pv, ph0⟩ = homedM ss l d ⟨pc0, ps0, pv, ph0⟩) := Lib.hid (by unfold toldM; rw [if_neg (by omega), if_neg (by omega)])
  have HIN := Lib.hid ok.in
  unfold nextE Cmd.val at HNX
  rw [show decide (d.phase ≠ 8) = true by rw [hp]; rfl] at HNX
  generalize nextC l d = c at *
  generalize nextS ss l d = ns at *
  unfold Cmd.val Rep.val
  simp only
  clear M ok
  go_enter Tryd.func12, Tryd.ntmps12
  go_wp2_with fail
  refine HNX.out.mono ?_
  rintro e w1 ⟨rfl, hb⟩
  have HM3 := Lib.hid (Mem.below HM2.out hb)
  have hh := Mem.heapAt [] HM3.out
  have v0 := (cell_of_heap (i := 0) (v := .int .i64 pc0) hh rfl).1
  have v1 := (cell_of_heap (i := 1) (v := .int .i64 ps0) hh rfl).1
  have v2 := (cell_of_heap (i := 2) (v := .string pv) hh rfl).1
  have v3 := (cell_of_heap (i := 3) (v := .bool ph0) hh rfl).1
  have hh2 := Mem.heapAt [BlockA (w.heap.size + 1) #[.int .i64 pc0, .int .i64 ps0, .string pv, .bool ph0] 36] (r := DrA g mg l d :: MapA mg ss :: r) HM3.out
  have u0 := (cell_of_heap (i := 0) (v := .int .i64 c.kind) hh2 rfl).1
  have u1 := (cell_of_heap (i := 1) (v := .int .i64 c.tx) hh2 rfl).1
  have u2 := (cell_of_heap (i := 2) (v := .int .i64 c.attempt) hh2 rfl).1
  have u3 := (cell_of_heap (i := 3) (v := .int .i64 c.stamp) hh2 rfl).1
  have u4 := (cell_of_heap (i := 4) (v := .int .i64 c.op) hh2 rfl).1
  have u5 := (cell_of_heap (i := 5) (v := .string c.key) hh2 rfl).1
  have u6 := (cell_of_heap (i := 6) (v := .string c.value) hh2 rfl).1
  have u7 := (cell_of_heap (i := 7) (v := .int .i64 c.mode) hh2 rfl).1
  have u8 := (cell_of_heap (i := 8) (v := .bool c.yes) hh2 rfl).1
  have M6 := HDR.out _ _ _ inferInstance inferInstance HM3.out
  obtain ⟨pa, pc, ra, rc, tv, lv, hg⟩ := Mem.drAt M6
  obtain ⟨c6, cf6⟩ := drC_cell hg 6 (.int .i64 d.phase) rfl
  have HD := Lib.hid (M6.below (bel_new w1 (.cells #[.int .i64 c.kind, .int .i64 c.tx, .int .i64 c.attempt, .int .i64 c.stamp, .int .i64 c.op, .string c.key, .string c.value, .int .i64 c.mode, .bool c.yes] 38)))
  have hlg := World.block_lt_of_cell? w1 _ c6
  have hl0 := World.block_lt_of_cell? w1 _ u0
  have hl1 := World.block_lt_of_cell? w1 _ v0
  simp only at hlg hl0 hl1
  clear hb hh hh2 hg M6 HM2 HNX
  rw [hp] at c6
  have HC := Lib.hid (homed2 ⟨pc0, ps0, pv, ph0⟩ HD.out HIN.out hp)
  unfold Rep.val at HC
  simp only at HC
  clear HD HDR HIN hp
  go_wp2_with fail
  refine HC.out.mono ?_
  rintro e w7 ⟨rfl, hm⟩
  have HF := Lib.hid hm
  clear hm HC
  go_wp2_with fail
  go_ret
  refine ⟨rfl, ?_⟩
  rw [HE.out]
  exact HF.out
set_option maxRecDepth 100000 in
set_option maxHeartbeats 8000000 in
theorem told5 (p : Rep) (M : Mem w0 D0 w (DrA g mg l d :: MapA mg ss :: r)) (ok : DOk ss l d) (hp : d.phase = 5) :
    Calls Tryd.prog 12 #[.pointer (some ⟨g, 0, none⟩), Cmd.val (nextC l d), Rep.val p] w fun e w' => e = .returned (.bool true) ∧ Mem w0 D0 w' (DrA g mg l (toldM ss l d p) :: MapA mg ss :: r) := by
  obtain ⟨pc0, ps0, pv, ph0⟩ := p
  have HM2 : Hid (Mem w0 D0 ((w.alloc (.cells #[.int .i64 (nextC l d).kind, .int .i64 (nextC l d).tx, .int .i64 (nextC l d).attempt, .int .i64 (nextC l d).stamp, .int .i64 (nextC l d).op, .string (nextC l d).key, .string (nextC l d).value, .int .i64 (nextC l d).mode, .bool (nextC l d).yes] 38)).alloc (.cells #[.int .i64 pc0, .int .i64 ps0, .string pv, .bool ph0] 36)) (BlockA (w.heap.size + 1) #[.int .i64 pc0, .int .i64 ps0, .string pv, .bool ph0] 36 :: BlockA w.heap.size #[.int .i64 (nextC l d).kind, .int .i64 (nextC l d).tx, .int .i64 (nextC l d).attempt, .int .i64 (nextC l d).stamp, .int .i64 (nextC l d).op, .string (nextC l d).key, .string (nextC l d).value, .int .i64 (nextC l d).mode, .bool (nextC l d).yes] 38 :: DrA g mg l d :: MapA mg ss :: r)) := Lib.hid (by
    have m := (M.block #[.int .i64 (nextC l d).kind, .int .i64 (nextC l d).tx, .int .i64 (nextC l d).attempt, .int .i64 (nextC l d).stamp, .int .i64 (nextC l d).op, .string (nextC l d).key, .string (nextC l d).value, .int .i64 (nextC l d).mode, .bool (nextC l d).yes] 38).block #[.int .i64 pc0, .int .i64 ps0, .string pv, .bool ph0] 36
    simpa using m)
  have HDR : Hid (∀ W B1 B2, Stable B1 → Stable B2 → Mem w0 D0 W (B1 :: B2 :: DrA g mg l d :: MapA mg ss :: r) → Mem w0 D0 W (DrA g mg l d :: MapA mg ss :: r)) := Lib.hid fun W B1 B2 s1 s2 h => Mem.drop [] (A := B2) (Mem.drop [] (A := B1) (r := B2 :: DrA g mg l d :: MapA mg ss :: r) h)
  have HNX := Lib.hid (next_any (HDR.out _ _ _ inferInstance inferInstance HM2.out) ok)
  have HE : Hid (toldM ss l d ⟨pc0, ps0, pv, ph0⟩ = homedM ss l d ⟨pc0, ps0, pv, ph0⟩) := Lib.hid (by unfold toldM; rw [if_neg (by omega), if_neg (by omega)])
  have HIN := Lib.hid ok.in
  unfold nextE Cmd.val at HNX
  rw [show decide (d.phase ≠ 8) = true by rw [hp]; rfl] at HNX
  generalize nextC l d = c at *
  generalize nextS ss l d = ns at *
  unfold Cmd.val Rep.val
  simp only
  clear M ok
  go_enter Tryd.func12, Tryd.ntmps12
  go_wp2_with fail
  refine HNX.out.mono ?_
  rintro e w1 ⟨rfl, hb⟩
  have HM3 := Lib.hid (Mem.below HM2.out hb)
  have hh := Mem.heapAt [] HM3.out
  have v0 := (cell_of_heap (i := 0) (v := .int .i64 pc0) hh rfl).1
  have v1 := (cell_of_heap (i := 1) (v := .int .i64 ps0) hh rfl).1
  have v2 := (cell_of_heap (i := 2) (v := .string pv) hh rfl).1
  have v3 := (cell_of_heap (i := 3) (v := .bool ph0) hh rfl).1
  have hh2 := Mem.heapAt [BlockA (w.heap.size + 1) #[.int .i64 pc0, .int .i64 ps0, .string pv, .bool ph0] 36] (r := DrA g mg l d :: MapA mg ss :: r) HM3.out
  have u0 := (cell_of_heap (i := 0) (v := .int .i64 c.kind) hh2 rfl).1
  have u1 := (cell_of_heap (i := 1) (v := .int .i64 c.tx) hh2 rfl).1
  have u2 := (cell_of_heap (i := 2) (v := .int .i64 c.attempt) hh2 rfl).1
  have u3 := (cell_of_heap (i := 3) (v := .int .i64 c.stamp) hh2 rfl).1
  have u4 := (cell_of_heap (i := 4) (v := .int .i64 c.op) hh2 rfl).1
  have u5 := (cell_of_heap (i := 5) (v := .string c.key) hh2 rfl).1
  have u6 := (cell_of_heap (i := 6) (v := .string c.value) hh2 rfl).1
  have u7 := (cell_of_heap (i := 7) (v := .int .i64 c.mode) hh2 rfl).1
  have u8 := (cell_of_heap (i := 8) (v := .bool c.yes) hh2 rfl).1
  have M6 := HDR.out _ _ _ inferInstance inferInstance HM3.out
  obtain ⟨pa, pc, ra, rc, tv, lv, hg⟩ := Mem.drAt M6
  obtain ⟨c6, cf6⟩ := drC_cell hg 6 (.int .i64 d.phase) rfl
  have HD := Lib.hid (M6.below (bel_new w1 (.cells #[.int .i64 c.kind, .int .i64 c.tx, .int .i64 c.attempt, .int .i64 c.stamp, .int .i64 c.op, .string c.key, .string c.value, .int .i64 c.mode, .bool c.yes] 38)))
  have hlg := World.block_lt_of_cell? w1 _ c6
  have hl0 := World.block_lt_of_cell? w1 _ u0
  have hl1 := World.block_lt_of_cell? w1 _ v0
  simp only at hlg hl0 hl1
  clear hb hh hh2 hg M6 HM2 HNX
  rw [hp] at c6
  have HC := Lib.hid (homed5 ⟨pc0, ps0, pv, ph0⟩ HD.out HIN.out hp)
  unfold Rep.val at HC
  simp only at HC
  clear HD HDR HIN hp
  go_wp2_with fail
  refine HC.out.mono ?_
  rintro e w7 ⟨rfl, hm⟩
  have HF := Lib.hid hm
  clear hm HC
  go_wp2_with fail
  go_ret
  refine ⟨rfl, ?_⟩
  rw [HE.out]
  exact HF.out
set_option maxRecDepth 100000 in
set_option maxHeartbeats 8000000 in
theorem told6 (p : Rep) (M : Mem w0 D0 w (DrA g mg l d :: MapA mg ss :: r)) (ok : DOk ss l d) (hp : d.phase = 6) :
    Calls Tryd.prog 12 #[.pointer (some ⟨g, 0, none⟩), Cmd.val (nextC l d), Rep.val p] w fun e w' => e = .returned (.bool true) ∧ Mem w0 D0 w' (DrA g mg l (toldM ss l d p) :: MapA mg ss :: r) := by
  obtain ⟨pc0, ps0, pv, ph0⟩ := p
  have HM2 : Hid (Mem w0 D0 ((w.alloc (.cells #[.int .i64 (nextC l d).kind, .int .i64 (nextC l d).tx, .int .i64 (nextC l d).attempt, .int .i64 (nextC l d).stamp, .int .i64 (nextC l d).op, .string (nextC l d).key, .string (nextC l d).value, .int .i64 (nextC l d).mode, .bool (nextC l d).yes] 38)).alloc (.cells #[.int .i64 pc0, .int .i64 ps0, .string pv, .bool ph0] 36)) (BlockA (w.heap.size + 1) #[.int .i64 pc0, .int .i64 ps0, .string pv, .bool ph0] 36 :: BlockA w.heap.size #[.int .i64 (nextC l d).kind, .int .i64 (nextC l d).tx, .int .i64 (nextC l d).attempt, .int .i64 (nextC l d).stamp, .int .i64 (nextC l d).op, .string (nextC l d).key, .string (nextC l d).value, .int .i64 (nextC l d).mode, .bool (nextC l d).yes] 38 :: DrA g mg l d :: MapA mg ss :: r)) := Lib.hid (by
    have m := (M.block #[.int .i64 (nextC l d).kind, .int .i64 (nextC l d).tx, .int .i64 (nextC l d).attempt, .int .i64 (nextC l d).stamp, .int .i64 (nextC l d).op, .string (nextC l d).key, .string (nextC l d).value, .int .i64 (nextC l d).mode, .bool (nextC l d).yes] 38).block #[.int .i64 pc0, .int .i64 ps0, .string pv, .bool ph0] 36
    simpa using m)
  have HDR : Hid (∀ W B1 B2, Stable B1 → Stable B2 → Mem w0 D0 W (B1 :: B2 :: DrA g mg l d :: MapA mg ss :: r) → Mem w0 D0 W (DrA g mg l d :: MapA mg ss :: r)) := Lib.hid fun W B1 B2 s1 s2 h => Mem.drop [] (A := B2) (Mem.drop [] (A := B1) (r := B2 :: DrA g mg l d :: MapA mg ss :: r) h)
  have HNX := Lib.hid (next_any (HDR.out _ _ _ inferInstance inferInstance HM2.out) ok)
  have HE : Hid (toldM ss l d ⟨pc0, ps0, pv, ph0⟩ = homedM ss l d ⟨pc0, ps0, pv, ph0⟩) := Lib.hid (by unfold toldM; rw [if_neg (by omega), if_neg (by omega)])
  have HIN := Lib.hid ok.in
  unfold nextE Cmd.val at HNX
  rw [show decide (d.phase ≠ 8) = true by rw [hp]; rfl] at HNX
  generalize nextC l d = c at *
  generalize nextS ss l d = ns at *
  unfold Cmd.val Rep.val
  simp only
  clear M ok
  go_enter Tryd.func12, Tryd.ntmps12
  go_wp2_with fail
  refine HNX.out.mono ?_
  rintro e w1 ⟨rfl, hb⟩
  have HM3 := Lib.hid (Mem.below HM2.out hb)
  have hh := Mem.heapAt [] HM3.out
  have v0 := (cell_of_heap (i := 0) (v := .int .i64 pc0) hh rfl).1
  have v1 := (cell_of_heap (i := 1) (v := .int .i64 ps0) hh rfl).1
  have v2 := (cell_of_heap (i := 2) (v := .string pv) hh rfl).1
  have v3 := (cell_of_heap (i := 3) (v := .bool ph0) hh rfl).1
  have hh2 := Mem.heapAt [BlockA (w.heap.size + 1) #[.int .i64 pc0, .int .i64 ps0, .string pv, .bool ph0] 36] (r := DrA g mg l d :: MapA mg ss :: r) HM3.out
  have u0 := (cell_of_heap (i := 0) (v := .int .i64 c.kind) hh2 rfl).1
  have u1 := (cell_of_heap (i := 1) (v := .int .i64 c.tx) hh2 rfl).1
  have u2 := (cell_of_heap (i := 2) (v := .int .i64 c.attempt) hh2 rfl).1
  have u3 := (cell_of_heap (i := 3) (v := .int .i64 c.stamp) hh2 rfl).1
  have u4 := (cell_of_heap (i := 4) (v := .int .i64 c.op) hh2 rfl).1
  have u5 := (cell_of_heap (i := 5) (v := .string c.key) hh2 rfl).1
  have u6 := (cell_of_heap (i := 6) (v := .string c.value) hh2 rfl).1
  have u7 := (cell_of_heap (i := 7) (v := .int .i64 c.mode) hh2 rfl).1
  have u8 := (cell_of_heap (i := 8) (v := .bool c.yes) hh2 rfl).1
  have M6 := HDR.out _ _ _ inferInstance inferInstance HM3.out
  obtain ⟨pa, pc, ra, rc, tv, lv, hg⟩ := Mem.drAt M6
  obtain ⟨c6, cf6⟩ := drC_cell hg 6 (.int .i64 d.phase) rfl
  have HD := Lib.hid (M6.below (bel_new w1 (.cells #[.int .i64 c.kind, .int .i64 c.tx, .int .i64 c.attempt, .int .i64 c.stamp, .int .i64 c.op, .string c.key, .string c.value, .int .i64 c.mode, .bool c.yes] 38)))
  have hlg := World.block_lt_of_cell? w1 _ c6
  have hl0 := World.block_lt_of_cell? w1 _ u0
  have hl1 := World.block_lt_of_cell? w1 _ v0
  simp only at hlg hl0 hl1
  clear hb hh hh2 hg M6 HM2 HNX
  rw [hp] at c6
  have HC := Lib.hid (homed6 ⟨pc0, ps0, pv, ph0⟩ HD.out HIN.out hp)
  unfold Rep.val at HC
  simp only at HC
  clear HD HDR HIN hp
  go_wp2_with fail
  refine HC.out.mono ?_
  rintro e w7 ⟨rfl, hm⟩
  have HF := Lib.hid hm
  clear hm HC
  go_wp2_with fail
  go_ret
  refine ⟨rfl, ?_⟩
  rw [HE.out]
  exact HF.out
end
end Go.Proofs.YtmifgnibalbgjaaDoor

