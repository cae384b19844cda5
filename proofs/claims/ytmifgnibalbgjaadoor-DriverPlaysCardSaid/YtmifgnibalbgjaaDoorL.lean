/- What the driver asks for: Next. -/
import Derived.Test.YtmifgnibalbgjaaDoorJ3
import Derived.Test.YtmifgnibalbgjaaDoorJ4
namespace Go.Proofs.YtmifgnibalbgjaaDoor
open Go.RowKit
/-- What a driver that can be is. -/
structure DOk (ss : List ByteArray) (l : List Opp) (d : Dr) : Prop where
  right : rightL ss = 0
  len : l.length ≤ 1000
  tx : 0 ≤ d.tx
  ph0 : 0 ≤ d.phase
  ph8 : d.phase ≤ 8
  nth : d.phase = 1 ∨ d.phase = 3 ∨ d.phase = 4 → d.nth < l.length
  left : d.phase = 7 → d.tl ≠ []
  reslen : d.res.length ≤ d.nth + 1
  tllen : d.tl.length ≤ d.nth + 1
  nlen : d.nth ≤ l.length
  rise : d.phase < 7 → d.tl.Pairwise (· < ·)
  att : 0 ≤ d.attempt ∧ d.attempt ≤ 1048576 ∧ d.tries ≤ 1048576 ∧ 1 ≤ d.tries ∧ d.attempt < d.tries
def czero : Cmd := ⟨0, 0, 0, 0, 0, ⟨#[]⟩, ⟨#[]⟩, 0, false⟩
def nextS (ss : List ByteArray) (l : List Opp) (d : Dr) : Int :=
  if d.phase = 1 ∨ d.phase = 3 ∨ d.phase = 4 then accS ss l d else if d.phase = 7 then d.tl.headD 0 else if d.phase = 8 then 0 else homeM ss d
def nextC (l : List Opp) (d : Dr) : Cmd :=
  if d.phase = 0 then ⟨1, d.tx, d.attempt, d.stamp, 0, ⟨#[]⟩, ⟨#[]⟩, 0, false⟩ else if d.phase = 1 then accC l d 2 0 else if d.phase = 2 then cmd0 d 8 else if d.phase = 3 then accC l d 3 1 else if d.phase = 4 then accC l d 4 2
  else if d.phase = 5 then cmd0 d 5 else if d.phase = 6 then cmd0 d 6 else if d.phase = 7 then ⟨7, d.tx, d.attempt, 0, d.tl.headD 0, ⟨#[]⟩, ⟨#[]⟩, 0, d.outcome == 2⟩ else czero
def nextE (ss : List ByteArray) (l : List Opp) (d : Dr) : Ending := .returned (.tuple #[.int .i64 (nextS ss l d), Cmd.val (nextC l d), .bool (decide (d.phase ≠ 8))])
theorem nextE_mk {ss : List ByteArray} {l : List Opp} {d : Dr} {s : Int} {c : Cmd} {b : Bool} (h1 : nextS ss l d = s) (h2 : nextC l d = c) (h3 : decide (d.phase ≠ 8) = b) : nextE ss l d = .returned (.tuple #[.int .i64 s, Cmd.val c, .bool b]) := by
  unfold nextE; rw [h1, h2, h3]
section
variable {w0 w : World} {D0 : List Nat} {g mg : Nat} {l : List Opp} {d : Dr} {ss : List ByteArray} {r : List Asn}
set_option maxRecDepth 100000 in
set_option maxHeartbeats 4000000 in
theorem next8 (M : Mem w0 D0 w (DrA g mg l d :: MapA mg ss :: r)) (ok : DOk ss l d) (hp : d.phase = 8) :
    Calls Tryd.prog 10 #[.pointer (some ⟨g, 0, none⟩)] w fun e w' => e = nextE ss l d ∧ Below w.heap.size w w' := by
  obtain ⟨pa, pc, ra, rc, tv, lv, hg⟩ := Mem.drAt M
  obtain ⟨c6, -⟩ := drC_cell hg 6 (.int .i64 d.phase) rfl
  rw [hp] at c6
  have hlg := World.block_lt_of_cell? w _ c6
  simp only at hlg
  have HM0 : Hid (Mem w [] (w.alloc (.cells #[.int .i64 0, .int .i64 0, .int .i64 0, .int .i64 0, .int .i64 0, .string ⟨#[]⟩, .string ⟨#[]⟩, .int .i64 0, .bool false] 38)) [BlockA w.heap.size #[.int .i64 0, .int .i64 0, .int .i64 0, .int .i64 0, .int .i64 0, .string ⟨#[]⟩, .string ⟨#[]⟩, .int .i64 0, .bool false] 38]) := Lib.hid ((Mem.nil w).block #[.int .i64 0, .int .i64 0, .int .i64 0, .int .i64 0, .int .i64 0, .string ⟨#[]⟩, .string ⟨#[]⟩, .int .i64 0, .bool false] 38)
  have HE : Hid (nextE ss l d = .returned (.tuple #[.int .i64 0, .agg #[.int .i64 0, .int .i64 0, .int .i64 0, .int .i64 0, .int .i64 0, .string ⟨#[]⟩, .string ⟨#[]⟩, .int .i64 0, .bool false], .bool false])) := Lib.hid (nextE_mk (c := czero) (by unfold nextS; rw [hp]; rfl) (by unfold nextC; rw [hp]; rfl) (by rw [hp]; rfl))
  clear hg M ok hp
  generalize nextE ss l d = ne at *
  go_enter Tryd.func10, Tryd.ntmps10
  go_wp2_with fail
  exact bodyPost_ret (v := .tuple #[.int .i64 0, .agg #[.int .i64 0, .int .i64 0, .int .i64 0, .int .i64 0, .int .i64 0, .string ⟨#[]⟩, .string ⟨#[]⟩, .int .i64 0, .bool false], .bool false]) (by simp [results, Tryd.results10, go_sem]) rfl ⟨HE.out.symm, HM0.out.bel⟩
variable [Stables r]
set_option maxRecDepth 100000 in
set_option maxHeartbeats 4000000 in
theorem next1 (M : Mem w0 D0 w (DrA g mg l d :: MapA mg ss :: r)) (ok : DOk ss l d) (hp : d.phase = 1) :
    Calls Tryd.prog 10 #[.pointer (some ⟨g, 0, none⟩)] w fun e w' => e = nextE ss l d ∧ Below w.heap.size w w' := by
  obtain ⟨pa, pc, ra, rc, tv, lv, hg⟩ := Mem.drAt M
  obtain ⟨c6, -⟩ := drC_cell hg 6 (.int .i64 d.phase) rfl
  rw [hp] at c6
  have hlg := World.block_lt_of_cell? w _ c6
  simp only at hlg
  have HM0 : Hid (Mem w [] (w.alloc (.cells #[.int .i64 0, .int .i64 0, .int .i64 0, .int .i64 0, .int .i64 0, .string ⟨#[]⟩, .string ⟨#[]⟩, .int .i64 0, .bool false] 38)) [BlockA w.heap.size #[.int .i64 0, .int .i64 0, .int .i64 0, .int .i64 0, .int .i64 0, .string ⟨#[]⟩, .string ⟨#[]⟩, .int .i64 0, .bool false] 38]) := Lib.hid ((Mem.nil w).block #[.int .i64 0, .int .i64 0, .int .i64 0, .int .i64 0, .int .i64 0, .string ⟨#[]⟩, .string ⟨#[]⟩, .int .i64 0, .bool false] 38)
  have HACC := Lib.hid (access2 (M.below (bel_new w (.cells #[.int .i64 0, .int .i64 0, .int .i64 0, .int .i64 0, .int .i64 0, .string ⟨#[]⟩, .string ⟨#[]⟩, .int .i64 0, .bool false] 38))) (ok.nth (by omega)) ok.len ok.right)
  have HE : Hid (nextE ss l d = .returned (.tuple #[.int .i64 (accS ss l d), Cmd.val (accC l d 2 0), .bool true])) := Lib.hid (nextE_mk (by unfold nextS; rw [hp]; rfl) (by unfold nextC; rw [hp]; rfl) (by rw [hp]; rfl))
  unfold accE Cmd.val at HACC
  unfold Cmd.val at HE
  generalize accC l d 2 0 = c at *
  generalize accS ss l d = sh at *
  clear hg M ok hp
  generalize nextE ss l d = ne at *
  go_enter Tryd.func10, Tryd.ntmps10
  go_wp2_with fail
  refine HACC.out.mono ?_
  rintro e w1 ⟨rfl, hb⟩
  have HM1 := Lib.hid (HM0.out.below hb)
  have hh := Mem.heapAt [] HM1.out
  obtain ⟨z0, zf0⟩ := cell_of_heap (i := 0) (v := .int .i64 0) hh rfl
  obtain ⟨z1, zf1⟩ := cell_of_heap (i := 1) (v := .int .i64 0) hh rfl
  obtain ⟨z2, zf2⟩ := cell_of_heap (i := 2) (v := .int .i64 0) hh rfl
  obtain ⟨z3, zf3⟩ := cell_of_heap (i := 3) (v := .int .i64 0) hh rfl
  obtain ⟨z4, zf4⟩ := cell_of_heap (i := 4) (v := .int .i64 0) hh rfl
  obtain ⟨z5, zf5⟩ := cell_of_heap (i := 5) (v := .string ⟨#[]⟩) hh rfl
  obtain ⟨z6, zf6⟩ := cell_of_heap (i := 6) (v := .string ⟨#[]⟩) hh rfl
  obtain ⟨z7, zf7⟩ := cell_of_heap (i := 7) (v := .int .i64 0) hh rfl
  obtain ⟨z8, zf8⟩ := cell_of_heap (i := 8) (v := .bool false) hh rfl
  clear hb hh HM0 HACC
  have HMF := Lib.hid (Mem.set9 [] (r := []) HM1.out (.int .i64 c.kind) (.int .i64 c.tx) (.int .i64 c.attempt) (.int .i64 c.stamp) (.int .i64 c.op) (.string c.key) (.string c.value) (.int .i64 c.mode) (.bool c.yes))
  go_wp2_with fail
  generalize (((((((((w1.setCell ⟨w.heap.size, 0, none⟩ (.int .i64 c.kind)).setCell ⟨w.heap.size, 1, none⟩ (.int .i64 c.tx)).setCell ⟨w.heap.size, 2, none⟩ (.int .i64 c.attempt)).setCell ⟨w.heap.size, 3, none⟩ (.int .i64 c.stamp)).setCell ⟨w.heap.size, 4, none⟩ (.int .i64 c.op)).setCell ⟨w.heap.size, 5, none⟩ (.string c.key)).setCell ⟨w.heap.size, 6, none⟩ (.string c.value)).setCell ⟨w.heap.size, 7, none⟩ (.int .i64 c.mode)).setCell ⟨w.heap.size, 8, none⟩ (.bool c.yes)) = w9 at *
  have hh := Mem.heapAt [] HMF.out
  have y0 := (cell_of_heap (i := 0) (v := .int .i64 c.kind) hh rfl).1
  have y1 := (cell_of_heap (i := 1) (v := .int .i64 c.tx) hh rfl).1
  have y2 := (cell_of_heap (i := 2) (v := .int .i64 c.attempt) hh rfl).1
  have y3 := (cell_of_heap (i := 3) (v := .int .i64 c.stamp) hh rfl).1
  have y4 := (cell_of_heap (i := 4) (v := .int .i64 c.op) hh rfl).1
  have y5 := (cell_of_heap (i := 5) (v := .string c.key) hh rfl).1
  have y6 := (cell_of_heap (i := 6) (v := .string c.value) hh rfl).1
  have y7 := (cell_of_heap (i := 7) (v := .int .i64 c.mode) hh rfl).1
  have y8 := (cell_of_heap (i := 8) (v := .bool c.yes) hh rfl).1
  exact bodyPost_ret (v := .tuple #[.int .i64 sh, .agg #[.int .i64 c.kind, .int .i64 c.tx, .int .i64 c.attempt, .int .i64 c.stamp, .int .i64 c.op, .string c.key, .string c.value, .int .i64 c.mode, .bool c.yes], .bool true]) (by simp [results, Tryd.results10, go_sem, y0, y1, y2, y3, y4, y5, y6, y7, y8]) rfl ⟨HE.out.symm, HMF.out.bel⟩
set_option maxRecDepth 100000 in
set_option maxHeartbeats 4000000 in
theorem next3 (M : Mem w0 D0 w (DrA g mg l d :: MapA mg ss :: r)) (ok : DOk ss l d) (hp : d.phase = 3) :
    Calls Tryd.prog 10 #[.pointer (some ⟨g, 0, none⟩)] w fun e w' => e = nextE ss l d ∧ Below w.heap.size w w' := by
  obtain ⟨pa, pc, ra, rc, tv, lv, hg⟩ := Mem.drAt M
  obtain ⟨c6, -⟩ := drC_cell hg 6 (.int .i64 d.phase) rfl
  rw [hp] at c6
  have hlg := World.block_lt_of_cell? w _ c6
  simp only at hlg
  have HM0 : Hid (Mem w [] (w.alloc (.cells #[.int .i64 0, .int .i64 0, .int .i64 0, .int .i64 0, .int .i64 0, .string ⟨#[]⟩, .string ⟨#[]⟩, .int .i64 0, .bool false] 38)) [BlockA w.heap.size #[.int .i64 0, .int .i64 0, .int .i64 0, .int .i64 0, .int .i64 0, .string ⟨#[]⟩, .string ⟨#[]⟩, .int .i64 0, .bool false] 38]) := Lib.hid ((Mem.nil w).block #[.int .i64 0, .int .i64 0, .int .i64 0, .int .i64 0, .int .i64 0, .string ⟨#[]⟩, .string ⟨#[]⟩, .int .i64 0, .bool false] 38)
  have HACC := Lib.hid (access3 (M.below (bel_new w (.cells #[.int .i64 0, .int .i64 0, .int .i64 0, .int .i64 0, .int .i64 0, .string ⟨#[]⟩, .string ⟨#[]⟩, .int .i64 0, .bool false] 38))) (ok.nth (by omega)) ok.len ok.right)
  have HE : Hid (nextE ss l d = .returned (.tuple #[.int .i64 (accS ss l d), Cmd.val (accC l d 3 1), .bool true])) := Lib.hid (nextE_mk (by unfold nextS; rw [hp]; rfl) (by unfold nextC; rw [hp]; rfl) (by rw [hp]; rfl))
  unfold accE Cmd.val at HACC
  unfold Cmd.val at HE
  generalize accC l d 3 1 = c at *
  generalize accS ss l d = sh at *
  clear hg M ok hp
  generalize nextE ss l d = ne at *
  go_enter Tryd.func10, Tryd.ntmps10
  go_wp2_with fail
  refine HACC.out.mono ?_
  rintro e w1 ⟨rfl, hb⟩
  have HM1 := Lib.hid (HM0.out.below hb)
  have hh := Mem.heapAt [] HM1.out
  obtain ⟨z0, zf0⟩ := cell_of_heap (i := 0) (v := .int .i64 0) hh rfl
  obtain ⟨z1, zf1⟩ := cell_of_heap (i := 1) (v := .int .i64 0) hh rfl
  obtain ⟨z2, zf2⟩ := cell_of_heap (i := 2) (v := .int .i64 0) hh rfl
  obtain ⟨z3, zf3⟩ := cell_of_heap (i := 3) (v := .int .i64 0) hh rfl
  obtain ⟨z4, zf4⟩ := cell_of_heap (i := 4) (v := .int .i64 0) hh rfl
  obtain ⟨z5, zf5⟩ := cell_of_heap (i := 5) (v := .string ⟨#[]⟩) hh rfl
  obtain ⟨z6, zf6⟩ := cell_of_heap (i := 6) (v := .string ⟨#[]⟩) hh rfl
  obtain ⟨z7, zf7⟩ := cell_of_heap (i := 7) (v := .int .i64 0) hh rfl
  obtain ⟨z8, zf8⟩ := cell_of_heap (i := 8) (v := .bool false) hh rfl
  clear hb hh HM0 HACC
  have HMF := Lib.hid (Mem.set9 [] (r := []) HM1.out (.int .i64 c.kind) (.int .i64 c.tx) (.int .i64 c.attempt) (.int .i64 c.stamp) (.int .i64 c.op) (.string c.key) (.string c.value) (.int .i64 c.mode) (.bool c.yes))
  go_wp2_with fail
  generalize (((((((((w1.setCell ⟨w.heap.size, 0, none⟩ (.int .i64 c.kind)).setCell ⟨w.heap.size, 1, none⟩ (.int .i64 c.tx)).setCell ⟨w.heap.size, 2, none⟩ (.int .i64 c.attempt)).setCell ⟨w.heap.size, 3, none⟩ (.int .i64 c.stamp)).setCell ⟨w.heap.size, 4, none⟩ (.int .i64 c.op)).setCell ⟨w.heap.size, 5, none⟩ (.string c.key)).setCell ⟨w.heap.size, 6, none⟩ (.string c.value)).setCell ⟨w.heap.size, 7, none⟩ (.int .i64 c.mode)).setCell ⟨w.heap.size, 8, none⟩ (.bool c.yes)) = w9 at *
  have hh := Mem.heapAt [] HMF.out
  have y0 := (cell_of_heap (i := 0) (v := .int .i64 c.kind) hh rfl).1
  have y1 := (cell_of_heap (i := 1) (v := .int .i64 c.tx) hh rfl).1
  have y2 := (cell_of_heap (i := 2) (v := .int .i64 c.attempt) hh rfl).1
  have y3 := (cell_of_heap (i := 3) (v := .int .i64 c.stamp) hh rfl).1
  have y4 := (cell_of_heap (i := 4) (v := .int .i64 c.op) hh rfl).1
  have y5 := (cell_of_heap (i := 5) (v := .string c.key) hh rfl).1
  have y6 := (cell_of_heap (i := 6) (v := .string c.value) hh rfl).1
  have y7 := (cell_of_heap (i := 7) (v := .int .i64 c.mode) hh rfl).1
  have y8 := (cell_of_heap (i := 8) (v := .bool c.yes) hh rfl).1
  exact bodyPost_ret (v := .tuple #[.int .i64 sh, .agg #[.int .i64 c.kind, .int .i64 c.tx, .int .i64 c.attempt, .int .i64 c.stamp, .int .i64 c.op, .string c.key, .string c.value, .int .i64 c.mode, .bool c.yes], .bool true]) (by simp [results, Tryd.results10, go_sem, y0, y1, y2, y3, y4, y5, y6, y7, y8]) rfl ⟨HE.out.symm, HMF.out.bel⟩
set_option maxRecDepth 100000 in
set_option maxHeartbeats 4000000 in
theorem next4 (M : Mem w0 D0 w (DrA g mg l d :: MapA mg ss :: r)) (ok : DOk ss l d) (hp : d.phase = 4) :
    Calls Tryd.prog 10 #[.pointer (some ⟨g, 0, none⟩)] w fun e w' => e = nextE ss l d ∧ Below w.heap.size w w' := by
  obtain ⟨pa, pc, ra, rc, tv, lv, hg⟩ := Mem.drAt M
  obtain ⟨c6, -⟩ := drC_cell hg 6 (.int .i64 d.phase) rfl
  rw [hp] at c6
  have hlg := World.block_lt_of_cell? w _ c6
  simp only at hlg
  have HM0 : Hid (Mem w [] (w.alloc (.cells #[.int .i64 0, .int .i64 0, .int .i64 0, .int .i64 0, .int .i64 0, .string ⟨#[]⟩, .string ⟨#[]⟩, .int .i64 0, .bool false] 38)) [BlockA w.heap.size #[.int .i64 0, .int .i64 0, .int .i64 0, .int .i64 0, .int .i64 0, .string ⟨#[]⟩, .string ⟨#[]⟩, .int .i64 0, .bool false] 38]) := Lib.hid ((Mem.nil w).block #[.int .i64 0, .int .i64 0, .int .i64 0, .int .i64 0, .int .i64 0, .string ⟨#[]⟩, .string ⟨#[]⟩, .int .i64 0, .bool false] 38)
  have HACC := Lib.hid (access4 (M.below (bel_new w (.cells #[.int .i64 0, .int .i64 0, .int .i64 0, .int .i64 0, .int .i64 0, .string ⟨#[]⟩, .string ⟨#[]⟩, .int .i64 0, .bool false] 38))) (ok.nth (by omega)) ok.len ok.right)
  have HE : Hid (nextE ss l d = .returned (.tuple #[.int .i64 (accS ss l d), Cmd.val (accC l d 4 2), .bool true])) := Lib.hid (nextE_mk (by unfold nextS; rw [hp]; rfl) (by unfold nextC; rw [hp]; rfl) (by rw [hp]; rfl))
  unfold accE Cmd.val at HACC
  unfold Cmd.val at HE
  generalize accC l d 4 2 = c at *
  generalize accS ss l d = sh at *
  clear hg M ok hp
  generalize nextE ss l d = ne at *
  go_enter Tryd.func10, Tryd.ntmps10
  go_wp2_with fail
  refine HACC.out.mono ?_
  rintro e w1 ⟨rfl, hb⟩
  have HM1 := Lib.hid (HM0.out.below hb)
  have hh := Mem.heapAt [] HM1.out
  obtain ⟨z0, zf0⟩ := cell_of_heap (i := 0) (v := .int .i64 0) hh rfl
  obtain ⟨z1, zf1⟩ := cell_of_heap (i := 1) (v := .int .i64 0) hh rfl
  obtain ⟨z2, zf2⟩ := cell_of_heap (i := 2) (v := .int .i64 0) hh rfl
  obtain ⟨z3, zf3⟩ := cell_of_heap (i := 3) (v := .int .i64 0) hh rfl
  obtain ⟨z4, zf4⟩ := cell_of_heap (i := 4) (v := .int .i64 0) hh rfl
  obtain ⟨z5, zf5⟩ := cell_of_heap (i := 5) (v := .string ⟨#[]⟩) hh rfl
  obtain ⟨z6, zf6⟩ := cell_of_heap (i := 6) (v := .string ⟨#[]⟩) hh rfl
  obtain ⟨z7, zf7⟩ := cell_of_heap (i := 7) (v := .int .i64 0) hh rfl
  obtain ⟨z8, zf8⟩ := cell_of_heap (i := 8) (v := .bool false) hh rfl
  clear hb hh HM0 HACC
  have HMF := Lib.hid (Mem.set9 [] (r := []) HM1.out (.int .i64 c.kind) (.int .i64 c.tx) (.int .i64 c.attempt) (.int .i64 c.stamp) (.int .i64 c.op) (.string c.key) (.string c.value) (.int .i64 c.mode) (.bool c.yes))
  go_wp2_with fail
  generalize (((((((((w1.setCell ⟨w.heap.size, 0, none⟩ (.int .i64 c.kind)).setCell ⟨w.heap.size, 1, none⟩ (.int .i64 c.tx)).setCell ⟨w.heap.size, 2, none⟩ (.int .i64 c.attempt)).setCell ⟨w.heap.size, 3, none⟩ (.int .i64 c.stamp)).setCell ⟨w.heap.size, 4, none⟩ (.int .i64 c.op)).setCell ⟨w.heap.size, 5, none⟩ (.string c.key)).setCell ⟨w.heap.size, 6, none⟩ (.string c.value)).setCell ⟨w.heap.size, 7, none⟩ (.int .i64 c.mode)).setCell ⟨w.heap.size, 8, none⟩ (.bool c.yes)) = w9 at *
  have hh := Mem.heapAt [] HMF.out
  have y0 := (cell_of_heap (i := 0) (v := .int .i64 c.kind) hh rfl).1
  have y1 := (cell_of_heap (i := 1) (v := .int .i64 c.tx) hh rfl).1
  have y2 := (cell_of_heap (i := 2) (v := .int .i64 c.attempt) hh rfl).1
  have y3 := (cell_of_heap (i := 3) (v := .int .i64 c.stamp) hh rfl).1
  have y4 := (cell_of_heap (i := 4) (v := .int .i64 c.op) hh rfl).1
  have y5 := (cell_of_heap (i := 5) (v := .string c.key) hh rfl).1
  have y6 := (cell_of_heap (i := 6) (v := .string c.value) hh rfl).1
  have y7 := (cell_of_heap (i := 7) (v := .int .i64 c.mode) hh rfl).1
  have y8 := (cell_of_heap (i := 8) (v := .bool c.yes) hh rfl).1
  exact bodyPost_ret (v := .tuple #[.int .i64 sh, .agg #[.int .i64 c.kind, .int .i64 c.tx, .int .i64 c.attempt, .int .i64 c.stamp, .int .i64 c.op, .string c.key, .string c.value, .int .i64 c.mode, .bool c.yes], .bool true]) (by simp [results, Tryd.results10, go_sem, y0, y1, y2, y3, y4, y5, y6, y7, y8]) rfl ⟨HE.out.symm, HMF.out.bel⟩
set_option maxRecDepth 100000 in
set_option maxHeartbeats 4000000 in
theorem next2 (M : Mem w0 D0 w (DrA g mg l d :: MapA mg ss :: r)) (ok : DOk ss l d) (hp : d.phase = 2) :
    Calls Tryd.prog 10 #[.pointer (some ⟨g, 0, none⟩)] w fun e w' => e = nextE ss l d ∧ Below w.heap.size w w' := by
  obtain ⟨pa, pc, ra, rc, tv, lv, hg⟩ := Mem.drAt M
  obtain ⟨c6, -⟩ := drC_cell hg 6 (.int .i64 d.phase) rfl
  rw [hp] at c6
  have hlg := World.block_lt_of_cell? w _ c6
  simp only at hlg
  have HM0 : Hid (Mem w [] (w.alloc (.cells #[.int .i64 0, .int .i64 0, .int .i64 0, .int .i64 0, .int .i64 0, .string ⟨#[]⟩, .string ⟨#[]⟩, .int .i64 0, .bool false] 38)) [BlockA w.heap.size #[.int .i64 0, .int .i64 0, .int .i64 0, .int .i64 0, .int .i64 0, .string ⟨#[]⟩, .string ⟨#[]⟩, .int .i64 0, .bool false] 38]) := Lib.hid ((Mem.nil w).block #[.int .i64 0, .int .i64 0, .int .i64 0, .int .i64 0, .int .i64 0, .string ⟨#[]⟩, .string ⟨#[]⟩, .int .i64 0, .bool false] 38)
  have HHO : Hid (∀ W, Below w.heap.size w W → Calls Tryd.prog 29 #[.pointer (some ⟨g, 0, none⟩)] W fun e w' => e = .returned (.int .i64 (homeM ss d)) ∧ Below W.heap.size W w') := Lib.hid fun W hb => (home_any (M.below hb) ok.tx).mono fun e w' hh => ⟨hh.1, by obtain ⟨k, hk⟩ := hh.2; rw [hk]; exact bel_drewN _ _⟩
  have HCM := Lib.hid fun W (hb : Below w.heap.size w W) => command_any 8 (M.below hb)
  have HE : Hid (nextE ss l d = .returned (.tuple #[.int .i64 (homeM ss d), Cmd.val (cmd0 d 8), .bool true])) := Lib.hid (nextE_mk (by unfold nextS; rw [hp]; rfl) (by unfold nextC; rw [hp]; rfl) (by rw [hp]; rfl))
  unfold Cmd.val at HCM HE
  generalize cmd0 d 8 = c at *
  generalize homeM ss d = sh at *
  clear hg M ok hp
  generalize nextE ss l d = ne at *
  go_enter Tryd.func10, Tryd.ntmps10
  go_wp2_with fail
  refine (HHO.out _ HM0.out.bel).mono ?_
  rintro e w1 ⟨rfl, hb⟩
  have HM1 := Lib.hid (HM0.out.below hb)
  clear hb HM0 HHO
  go_wp2_with fail
  refine (HCM.out _ HM1.out.bel).mono ?_
  rintro e w2 ⟨rfl, hb⟩
  have HM2 := Lib.hid (HM1.out.below hb)
  have hh := Mem.heapAt [] HM2.out
  obtain ⟨z0, zf0⟩ := cell_of_heap (i := 0) (v := .int .i64 0) hh rfl
  obtain ⟨z1, zf1⟩ := cell_of_heap (i := 1) (v := .int .i64 0) hh rfl
  obtain ⟨z2, zf2⟩ := cell_of_heap (i := 2) (v := .int .i64 0) hh rfl
  obtain ⟨z3, zf3⟩ := cell_of_heap (i := 3) (v := .int .i64 0) hh rfl
  obtain ⟨z4, zf4⟩ := cell_of_heap (i := 4) (v := .int .i64 0) hh rfl
  obtain ⟨z5, zf5⟩ := cell_of_heap (i := 5) (v := .string ⟨#[]⟩) hh rfl
  obtain ⟨z6, zf6⟩ := cell_of_heap (i := 6) (v := .string ⟨#[]⟩) hh rfl
  obtain ⟨z7, zf7⟩ := cell_of_heap (i := 7) (v := .int .i64 0) hh rfl
  obtain ⟨z8, zf8⟩ := cell_of_heap (i := 8) (v := .bool false) hh rfl
  clear hb hh HM1 HCM
  have HMF := Lib.hid (Mem.set9 [] (r := []) HM2.out (.int .i64 c.kind) (.int .i64 c.tx) (.int .i64 c.attempt) (.int .i64 c.stamp) (.int .i64 c.op) (.string c.key) (.string c.value) (.int .i64 c.mode) (.bool c.yes))
  go_wp2_with fail
  generalize (((((((((w2.setCell ⟨w.heap.size, 0, none⟩ (.int .i64 c.kind)).setCell ⟨w.heap.size, 1, none⟩ (.int .i64 c.tx)).setCell ⟨w.heap.size, 2, none⟩ (.int .i64 c.attempt)).setCell ⟨w.heap.size, 3, none⟩ (.int .i64 c.stamp)).setCell ⟨w.heap.size, 4, none⟩ (.int .i64 c.op)).setCell ⟨w.heap.size, 5, none⟩ (.string c.key)).setCell ⟨w.heap.size, 6, none⟩ (.string c.value)).setCell ⟨w.heap.size, 7, none⟩ (.int .i64 c.mode)).setCell ⟨w.heap.size, 8, none⟩ (.bool c.yes)) = w9 at *
  have hh := Mem.heapAt [] HMF.out
  have y0 := (cell_of_heap (i := 0) (v := .int .i64 c.kind) hh rfl).1
  have y1 := (cell_of_heap (i := 1) (v := .int .i64 c.tx) hh rfl).1
  have y2 := (cell_of_heap (i := 2) (v := .int .i64 c.attempt) hh rfl).1
  have y3 := (cell_of_heap (i := 3) (v := .int .i64 c.stamp) hh rfl).1
  have y4 := (cell_of_heap (i := 4) (v := .int .i64 c.op) hh rfl).1
  have y5 := (cell_of_heap (i := 5) (v := .string c.key) hh rfl).1
  have y6 := (cell_of_heap (i := 6) (v := .string c.value) hh rfl).1
  have y7 := (cell_of_heap (i := 7) (v := .int .i64 c.mode) hh rfl).1
  have y8 := (cell_of_heap (i := 8) (v := .bool c.yes) hh rfl).1
  exact bodyPost_ret (v := .tuple #[.int .i64 sh, .agg #[.int .i64 c.kind, .int .i64 c.tx, .int .i64 c.attempt, .int .i64 c.stamp, .int .i64 c.op, .string c.key, .string c.value, .int .i64 c.mode, .bool c.yes], .bool true]) (by simp [results, Tryd.results10, go_sem, y0, y1, y2, y3, y4, y5, y6, y7, y8]) rfl ⟨HE.out.symm, HMF.out.bel⟩
set_option maxRecDepth 100000 in
set_option maxHeartbeats 4000000 in
theorem next5 (M : Mem w0 D0 w (DrA g mg l d :: MapA mg ss :: r)) (ok : DOk ss l d) (hp : d.phase = 5) :
    Calls Tryd.prog 10 #[.pointer (some ⟨g, 0, none⟩)] w fun e w' => e = nextE ss l d ∧ Below w.heap.size w w' := by
  obtain ⟨pa, pc, ra, rc, tv, lv, hg⟩ := Mem.drAt M
  obtain ⟨c6, -⟩ := drC_cell hg 6 (.int .i64 d.phase) rfl
  rw [hp] at c6
  have hlg := World.block_lt_of_cell? w _ c6
  simp only at hlg
  have HM0 : Hid (Mem w [] (w.alloc (.cells #[.int .i64 0, .int .i64 0, .int .i64 0, .int .i64 0, .int .i64 0, .string ⟨#[]⟩, .string ⟨#[]⟩, .int .i64 0, .bool false] 38)) [BlockA w.heap.size #[.int .i64 0, .int .i64 0, .int .i64 0, .int .i64 0, .int .i64 0, .string ⟨#[]⟩, .string ⟨#[]⟩, .int .i64 0, .bool false] 38]) := Lib.hid ((Mem.nil w).block #[.int .i64 0, .int .i64 0, .int .i64 0, .int .i64 0, .int .i64 0, .string ⟨#[]⟩, .string ⟨#[]⟩, .int .i64 0, .bool false] 38)
  have HHO : Hid (∀ W, Below w.heap.size w W → Calls Tryd.prog 29 #[.pointer (some ⟨g, 0, none⟩)] W fun e w' => e = .returned (.int .i64 (homeM ss d)) ∧ Below W.heap.size W w') := Lib.hid fun W hb => (home_any (M.below hb) ok.tx).mono fun e w' hh => ⟨hh.1, by obtain ⟨k, hk⟩ := hh.2; rw [hk]; exact bel_drewN _ _⟩
  have HCM := Lib.hid fun W (hb : Below w.heap.size w W) => command_any 5 (M.below hb)
  have HE : Hid (nextE ss l d = .returned (.tuple #[.int .i64 (homeM ss d), Cmd.val (cmd0 d 5), .bool true])) := Lib.hid (nextE_mk (by unfold nextS; rw [hp]; rfl) (by unfold nextC; rw [hp]; rfl) (by rw [hp]; rfl))
  unfold Cmd.val at HCM HE
  generalize cmd0 d 5 = c at *
  generalize homeM ss d = sh at *
  clear hg M ok hp
  generalize nextE ss l d = ne at *
  go_enter Tryd.func10, Tryd.ntmps10
  go_wp2_with fail
  refine (HHO.out _ HM0.out.bel).mono ?_
  rintro e w1 ⟨rfl, hb⟩
  have HM1 := Lib.hid (HM0.out.below hb)
  clear hb HM0 HHO
  go_wp2_with fail
  refine (HCM.out _ HM1.out.bel).mono ?_
  rintro e w2 ⟨rfl, hb⟩
  have HM2 := Lib.hid (HM1.out.below hb)
  have hh := Mem.heapAt [] HM2.out
  obtain ⟨z0, zf0⟩ := cell_of_heap (i := 0) (v := .int .i64 0) hh rfl
  obtain ⟨z1, zf1⟩ := cell_of_heap (i := 1) (v := .int .i64 0) hh rfl
  obtain ⟨z2, zf2⟩ := cell_of_heap (i := 2) (v := .int .i64 0) hh rfl
  obtain ⟨z3, zf3⟩ := cell_of_heap (i := 3) (v := .int .i64 0) hh rfl
  obtain ⟨z4, zf4⟩ := cell_of_heap (i := 4) (v := .int .i64 0) hh rfl
  obtain ⟨z5, zf5⟩ := cell_of_heap (i := 5) (v := .string ⟨#[]⟩) hh rfl
  obtain ⟨z6, zf6⟩ := cell_of_heap (i := 6) (v := .string ⟨#[]⟩) hh rfl
  obtain ⟨z7, zf7⟩ := cell_of_heap (i := 7) (v := .int .i64 0) hh rfl
  obtain ⟨z8, zf8⟩ := cell_of_heap (i := 8) (v := .bool false) hh rfl
  clear hb hh HM1 HCM
  have HMF := Lib.hid (Mem.set9 [] (r := []) HM2.out (.int .i64 c.kind) (.int .i64 c.tx) (.int .i64 c.attempt) (.int .i64 c.stamp) (.int .i64 c.op) (.string c.key) (.string c.value) (.int .i64 c.mode) (.bool c.yes))
  go_wp2_with fail
  generalize (((((((((w2.setCell ⟨w.heap.size, 0, none⟩ (.int .i64 c.kind)).setCell ⟨w.heap.size, 1, none⟩ (.int .i64 c.tx)).setCell ⟨w.heap.size, 2, none⟩ (.int .i64 c.attempt)).setCell ⟨w.heap.size, 3, none⟩ (.int .i64 c.stamp)).setCell ⟨w.heap.size, 4, none⟩ (.int .i64 c.op)).setCell ⟨w.heap.size, 5, none⟩ (.string c.key)).setCell ⟨w.heap.size, 6, none⟩ (.string c.value)).setCell ⟨w.heap.size, 7, none⟩ (.int .i64 c.mode)).setCell ⟨w.heap.size, 8, none⟩ (.bool c.yes)) = w9 at *
  have hh := Mem.heapAt [] HMF.out
  have y0 := (cell_of_heap (i := 0) (v := .int .i64 c.kind) hh rfl).1
  have y1 := (cell_of_heap (i := 1) (v := .int .i64 c.tx) hh rfl).1
  have y2 := (cell_of_heap (i := 2) (v := .int .i64 c.attempt) hh rfl).1
  have y3 := (cell_of_heap (i := 3) (v := .int .i64 c.stamp) hh rfl).1
  have y4 := (cell_of_heap (i := 4) (v := .int .i64 c.op) hh rfl).1
  have y5 := (cell_of_heap (i := 5) (v := .string c.key) hh rfl).1
  have y6 := (cell_of_heap (i := 6) (v := .string c.value) hh rfl).1
  have y7 := (cell_of_heap (i := 7) (v := .int .i64 c.mode) hh rfl).1
  have y8 := (cell_of_heap (i := 8) (v := .bool c.yes) hh rfl).1
  exact bodyPost_ret (v := .tuple #[.int .i64 sh, .agg #[.int .i64 c.kind, .int .i64 c.tx, .int .i64 c.attempt, .int .i64 c.stamp, .int .i64 c.op, .string c.key, .string c.value, .int .i64 c.mode, .bool c.yes], .bool true]) (by simp [results, Tryd.results10, go_sem, y0, y1, y2, y3, y4, y5, y6, y7, y8]) rfl ⟨HE.out.symm, HMF.out.bel⟩
set_option maxRecDepth 100000 in
set_option maxHeartbeats 4000000 in
theorem next6 (M : Mem w0 D0 w (DrA g mg l d :: MapA mg ss :: r)) (ok : DOk ss l d) (hp : d.phase = 6) :
    Calls Tryd.prog 10 #[.pointer (some ⟨g, 0, none⟩)] w fun e w' => e = nextE ss l d ∧ Below w.heap.size w w' := by
  obtain ⟨pa, pc, ra, rc, tv, lv, hg⟩ := Mem.drAt M
  obtain ⟨c6, -⟩ := drC_cell hg 6 (.int .i64 d.phase) rfl
  rw [hp] at c6
  have hlg := World.block_lt_of_cell? w _ c6
  simp only at hlg
  have HM0 : Hid (Mem w [] (w.alloc (.cells #[.int .i64 0, .int .i64 0, .int .i64 0, .int .i64 0, .int .i64 0, .string ⟨#[]⟩, .string ⟨#[]⟩, .int .i64 0, .bool false] 38)) [BlockA w.heap.size #[.int .i64 0, .int .i64 0, .int .i64 0, .int .i64 0, .int .i64 0, .string ⟨#[]⟩, .string ⟨#[]⟩, .int .i64 0, .bool false] 38]) := Lib.hid ((Mem.nil w).block #[.int .i64 0, .int .i64 0, .int .i64 0, .int .i64 0, .int .i64 0, .string ⟨#[]⟩, .string ⟨#[]⟩, .int .i64 0, .bool false] 38)
  have HHO : Hid (∀ W, Below w.heap.size w W → Calls Tryd.prog 29 #[.pointer (some ⟨g, 0, none⟩)] W fun e w' => e = .returned (.int .i64 (homeM ss d)) ∧ Below W.heap.size W w') := Lib.hid fun W hb => (home_any (M.below hb) ok.tx).mono fun e w' hh => ⟨hh.1, by obtain ⟨k, hk⟩ := hh.2; rw [hk]; exact bel_drewN _ _⟩
  have HCM := Lib.hid fun W (hb : Below w.heap.size w W) => command_any 6 (M.below hb)
  have HE : Hid (nextE ss l d = .returned (.tuple #[.int .i64 (homeM ss d), Cmd.val (cmd0 d 6), .bool true])) := Lib.hid (nextE_mk (by unfold nextS; rw [hp]; rfl) (by unfold nextC; rw [hp]; rfl) (by rw [hp]; rfl))
  unfold Cmd.val at HCM HE
  generalize cmd0 d 6 = c at *
  generalize homeM ss d = sh at *
  clear hg M ok hp
  generalize nextE ss l d = ne at *
  go_enter Tryd.func10, Tryd.ntmps10
  go_wp2_with fail
  refine (HHO.out _ HM0.out.bel).mono ?_
  rintro e w1 ⟨rfl, hb⟩
  have HM1 := Lib.hid (HM0.out.below hb)
  clear hb HM0 HHO
  go_wp2_with fail
  refine (HCM.out _ HM1.out.bel).mono ?_
  rintro e w2 ⟨rfl, hb⟩
  have HM2 := Lib.hid (HM1.out.below hb)
  have hh := Mem.heapAt [] HM2.out
  obtain ⟨z0, zf0⟩ := cell_of_heap (i := 0) (v := .int .i64 0) hh rfl
  obtain ⟨z1, zf1⟩ := cell_of_heap (i := 1) (v := .int .i64 0) hh rfl
  obtain ⟨z2, zf2⟩ := cell_of_heap (i := 2) (v := .int .i64 0) hh rfl
  obtain ⟨z3, zf3⟩ := cell_of_heap (i := 3) (v := .int .i64 0) hh rfl
  obtain ⟨z4, zf4⟩ := cell_of_heap (i := 4) (v := .int .i64 0) hh rfl
  obtain ⟨z5, zf5⟩ := cell_of_heap (i := 5) (v := .string ⟨#[]⟩) hh rfl
  obtain ⟨z6, zf6⟩ := cell_of_heap (i := 6) (v := .string ⟨#[]⟩) hh rfl
  obtain ⟨z7, zf7⟩ := cell_of_heap (i := 7) (v := .int .i64 0) hh rfl
  obtain ⟨z8, zf8⟩ := cell_of_heap (i := 8) (v := .bool false) hh rfl
  clear hb hh HM1 HCM
  have HMF := Lib.hid (Mem.set9 [] (r := []) HM2.out (.int .i64 c.kind) (.int .i64 c.tx) (.int .i64 c.attempt) (.int .i64 c.stamp) (.int .i64 c.op) (.string c.key) (.string c.value) (.int .i64 c.mode) (.bool c.yes))
  go_wp2_with fail
  generalize (((((((((w2.setCell ⟨w.heap.size, 0, none⟩ (.int .i64 c.kind)).setCell ⟨w.heap.size, 1, none⟩ (.int .i64 c.tx)).setCell ⟨w.heap.size, 2, none⟩ (.int .i64 c.attempt)).setCell ⟨w.heap.size, 3, none⟩ (.int .i64 c.stamp)).setCell ⟨w.heap.size, 4, none⟩ (.int .i64 c.op)).setCell ⟨w.heap.size, 5, none⟩ (.string c.key)).setCell ⟨w.heap.size, 6, none⟩ (.string c.value)).setCell ⟨w.heap.size, 7, none⟩ (.int .i64 c.mode)).setCell ⟨w.heap.size, 8, none⟩ (.bool c.yes)) = w9 at *
  have hh := Mem.heapAt [] HMF.out
  have y0 := (cell_of_heap (i := 0) (v := .int .i64 c.kind) hh rfl).1
  have y1 := (cell_of_heap (i := 1) (v := .int .i64 c.tx) hh rfl).1
  have y2 := (cell_of_heap (i := 2) (v := .int .i64 c.attempt) hh rfl).1
  have y3 := (cell_of_heap (i := 3) (v := .int .i64 c.stamp) hh rfl).1
  have y4 := (cell_of_heap (i := 4) (v := .int .i64 c.op) hh rfl).1
  have y5 := (cell_of_heap (i := 5) (v := .string c.key) hh rfl).1
  have y6 := (cell_of_heap (i := 6) (v := .string c.value) hh rfl).1
  have y7 := (cell_of_heap (i := 7) (v := .int .i64 c.mode) hh rfl).1
  have y8 := (cell_of_heap (i := 8) (v := .bool c.yes) hh rfl).1
  exact bodyPost_ret (v := .tuple #[.int .i64 sh, .agg #[.int .i64 c.kind, .int .i64 c.tx, .int .i64 c.attempt, .int .i64 c.stamp, .int .i64 c.op, .string c.key, .string c.value, .int .i64 c.mode, .bool c.yes], .bool true]) (by simp [results, Tryd.results10, go_sem, y0, y1, y2, y3, y4, y5, y6, y7, y8]) rfl ⟨HE.out.symm, HMF.out.bel⟩
set_option maxRecDepth 100000 in
set_option maxHeartbeats 4000000 in
theorem next0 (M : Mem w0 D0 w (DrA g mg l d :: MapA mg ss :: r)) (ok : DOk ss l d) (hp : d.phase = 0) :
    Calls Tryd.prog 10 #[.pointer (some ⟨g, 0, none⟩)] w fun e w' => e = nextE ss l d ∧ Below w.heap.size w w' := by
  obtain ⟨pa, pc, ra, rc, tv, lv, hg⟩ := Mem.drAt M
  obtain ⟨c6, -⟩ := drC_cell hg 6 (.int .i64 d.phase) rfl
  rw [hp] at c6
  have hlg := World.block_lt_of_cell? w _ c6
  simp only at hlg
  have HM0 : Hid (Mem w [] (w.alloc (.cells #[.int .i64 0, .int .i64 0, .int .i64 0, .int .i64 0, .int .i64 0, .string ⟨#[]⟩, .string ⟨#[]⟩, .int .i64 0, .bool false] 38)) [BlockA w.heap.size #[.int .i64 0, .int .i64 0, .int .i64 0, .int .i64 0, .int .i64 0, .string ⟨#[]⟩, .string ⟨#[]⟩, .int .i64 0, .bool false] 38]) := Lib.hid ((Mem.nil w).block #[.int .i64 0, .int .i64 0, .int .i64 0, .int .i64 0, .int .i64 0, .string ⟨#[]⟩, .string ⟨#[]⟩, .int .i64 0, .bool false] 38)
  obtain ⟨c1, -⟩ := drC_cell hg 1 (.int .i64 d.stamp) rfl
  have HHO : Hid (∀ W, Below w.heap.size w W → Calls Tryd.prog 29 #[.pointer (some ⟨g, 0, none⟩)] W fun e w' => e = .returned (.int .i64 (homeM ss d)) ∧ Below W.heap.size W w') := Lib.hid fun W hb => (home_any (M.below hb) ok.tx).mono fun e w' hh => ⟨hh.1, by obtain ⟨k, hk⟩ := hh.2; rw [hk]; exact bel_drewN _ _⟩
  have HCM := Lib.hid (command_any 1 (M.below (bel_new w (.cells #[.int .i64 0, .int .i64 0, .int .i64 0, .int .i64 0, .int .i64 0, .string ⟨#[]⟩, .string ⟨#[]⟩, .int .i64 0, .bool false] 38))))
  have HE : Hid (nextE ss l d = .returned (.tuple #[.int .i64 (homeM ss d), Cmd.val ⟨(cmd0 d 1).kind, (cmd0 d 1).tx, (cmd0 d 1).attempt, d.stamp, (cmd0 d 1).op, (cmd0 d 1).key, (cmd0 d 1).value, (cmd0 d 1).mode, (cmd0 d 1).yes⟩, .bool true])) := Lib.hid (nextE_mk (by unfold nextS; rw [hp]; rfl) (by unfold nextC; rw [hp]; rfl) (by rw [hp]; rfl))
  unfold Cmd.val at HCM HE
  simp only at HE
  generalize cmd0 d 1 = c at *
  generalize homeM ss d = sh at *
  generalize d.stamp = st at *
  clear hg M ok hp
  generalize nextE ss l d = ne at *
  go_enter Tryd.func10, Tryd.ntmps10
  go_wp2_with fail
  refine HCM.out.mono ?_
  rintro e w1 ⟨rfl, hb⟩
  have HM1 := Lib.hid (HM0.out.below hb)
  have HM2 : Hid (Mem w [] (w1.alloc (.cells #[.int .i64 c.kind, .int .i64 c.tx, .int .i64 c.attempt, .int .i64 st, .int .i64 c.op, .string c.key, .string c.value, .int .i64 c.mode, .bool c.yes] 38)) [BlockA w1.heap.size #[.int .i64 c.kind, .int .i64 c.tx, .int .i64 c.attempt, .int .i64 st, .int .i64 c.op, .string c.key, .string c.value, .int .i64 c.mode, .bool c.yes] 38, BlockA w.heap.size #[.int .i64 0, .int .i64 0, .int .i64 0, .int .i64 0, .int .i64 0, .string ⟨#[]⟩, .string ⟨#[]⟩, .int .i64 0, .bool false] 38]) := Lib.hid (HM1.out.block #[.int .i64 c.kind, .int .i64 c.tx, .int .i64 c.attempt, .int .i64 st, .int .i64 c.op, .string c.key, .string c.value, .int .i64 c.mode, .bool c.yes] 38)
  have d1 := (HM1.out.bel.cell hlg).trans c1
  have hzg := World.block_lt_of_cell? w1 _ d1
  simp only at hzg
  clear hb HM1 HM0 HCM
  go_upto_region 7 with (fail)
  generalize w1.heap.size = b5 at *
  generalize (w1.alloc (.cells #[.int .i64 c.kind, .int .i64 c.tx, .int .i64 c.attempt, .int .i64 st, .int .i64 c.op, .string c.key, .string c.value, .int .i64 c.mode, .bool c.yes] 38)) = w5 at *
  have hh := Mem.heapAt [] HM2.out
  have u0 := (cell_of_heap (i := 0) (v := .int .i64 c.kind) hh rfl).1
  have u1 := (cell_of_heap (i := 1) (v := .int .i64 c.tx) hh rfl).1
  have u2 := (cell_of_heap (i := 2) (v := .int .i64 c.attempt) hh rfl).1
  have u3 := (cell_of_heap (i := 3) (v := .int .i64 st) hh rfl).1
  have u4 := (cell_of_heap (i := 4) (v := .int .i64 c.op) hh rfl).1
  have u5 := (cell_of_heap (i := 5) (v := .string c.key) hh rfl).1
  have u6 := (cell_of_heap (i := 6) (v := .string c.value) hh rfl).1
  have u7 := (cell_of_heap (i := 7) (v := .int .i64 c.mode) hh rfl).1
  have u8 := (cell_of_heap (i := 8) (v := .bool c.yes) hh rfl).1
  clear hh
  go_region_with (go_at_call 29; refine (HHO.out _ (HM2.out.below (bel_drew _)).bel).mono ?_; rintro e w6 ⟨rfl, hb6⟩; have HM6 := Lib.hid ((HM2.out.below (bel_drew _)).below hb6); have hh := Mem.heapAt [] HM6.out; have x0 := (cell_of_heap (i := 0) (v := .int .i64 c.kind) hh rfl).1; have x1 := (cell_of_heap (i := 1) (v := .int .i64 c.tx) hh rfl).1; have x2 := (cell_of_heap (i := 2) (v := .int .i64 c.attempt) hh rfl).1; have x3 := (cell_of_heap (i := 3) (v := .int .i64 st) hh rfl).1; have x4 := (cell_of_heap (i := 4) (v := .int .i64 c.op) hh rfl).1; have x5 := (cell_of_heap (i := 5) (v := .string c.key) hh rfl).1; have x6 := (cell_of_heap (i := 6) (v := .string c.value) hh rfl).1; have x7 := (cell_of_heap (i := 7) (v := .int .i64 c.mode) hh rfl).1; have x8 := (cell_of_heap (i := 8) (v := .bool c.yes) hh rfl).1; have hh2 := Mem.heapAt [BlockA b5 #[.int .i64 c.kind, .int .i64 c.tx, .int .i64 c.attempt, .int .i64 st, .int .i64 c.op, .string c.key, .string c.value, .int .i64 c.mode, .bool c.yes] 38] HM6.out; obtain ⟨z0, zf0⟩ := cell_of_heap (i := 0) (v := .int .i64 0) hh2 rfl; obtain ⟨z1, zf1⟩ := cell_of_heap (i := 1) (v := .int .i64 0) hh2 rfl; obtain ⟨z2, zf2⟩ := cell_of_heap (i := 2) (v := .int .i64 0) hh2 rfl; obtain ⟨z3, zf3⟩ := cell_of_heap (i := 3) (v := .int .i64 0) hh2 rfl; obtain ⟨z4, zf4⟩ := cell_of_heap (i := 4) (v := .int .i64 0) hh2 rfl; obtain ⟨z5, zf5⟩ := cell_of_heap (i := 5) (v := .string ⟨#[]⟩) hh2 rfl; obtain ⟨z6, zf6⟩ := cell_of_heap (i := 6) (v := .string ⟨#[]⟩) hh2 rfl; obtain ⟨z7, zf7⟩ := cell_of_heap (i := 7) (v := .int .i64 0) hh2 rfl; obtain ⟨z8, zf8⟩ := cell_of_heap (i := 8) (v := .bool false) hh2 rfl; clear hh hh2 hb6)
  all_goals
    have HMF := Lib.hid (Mem.set9 [BlockA b5 #[.int .i64 c.kind, .int .i64 c.tx, .int .i64 c.attempt, .int .i64 st, .int .i64 c.op, .string c.key, .string c.value, .int .i64 c.mode, .bool c.yes] 38] (r := []) HM6.out (.int .i64 c.kind) (.int .i64 c.tx) (.int .i64 c.attempt) (.int .i64 st) (.int .i64 c.op) (.string c.key) (.string c.value) (.int .i64 c.mode) (.bool c.yes))
    clear HM6 HM2
    go_wp2_with fail
    generalize (((((((((w6.setCell ⟨w.heap.size, 0, none⟩ (.int .i64 c.kind)).setCell ⟨w.heap.size, 1, none⟩ (.int .i64 c.tx)).setCell ⟨w.heap.size, 2, none⟩ (.int .i64 c.attempt)).setCell ⟨w.heap.size, 3, none⟩ (.int .i64 st)).setCell ⟨w.heap.size, 4, none⟩ (.int .i64 c.op)).setCell ⟨w.heap.size, 5, none⟩ (.string c.key)).setCell ⟨w.heap.size, 6, none⟩ (.string c.value)).setCell ⟨w.heap.size, 7, none⟩ (.int .i64 c.mode)).setCell ⟨w.heap.size, 8, none⟩ (.bool c.yes)) = w9 at *
    have hh := Mem.heapAt [BlockA b5 #[.int .i64 c.kind, .int .i64 c.tx, .int .i64 c.attempt, .int .i64 st, .int .i64 c.op, .string c.key, .string c.value, .int .i64 c.mode, .bool c.yes] 38] HMF.out
    have y0 := (cell_of_heap (i := 0) (v := .int .i64 c.kind) hh rfl).1
    have y1 := (cell_of_heap (i := 1) (v := .int .i64 c.tx) hh rfl).1
    have y2 := (cell_of_heap (i := 2) (v := .int .i64 c.attempt) hh rfl).1
    have y3 := (cell_of_heap (i := 3) (v := .int .i64 st) hh rfl).1
    have y4 := (cell_of_heap (i := 4) (v := .int .i64 c.op) hh rfl).1
    have y5 := (cell_of_heap (i := 5) (v := .string c.key) hh rfl).1
    have y6 := (cell_of_heap (i := 6) (v := .string c.value) hh rfl).1
    have y7 := (cell_of_heap (i := 7) (v := .int .i64 c.mode) hh rfl).1
    have y8 := (cell_of_heap (i := 8) (v := .bool c.yes) hh rfl).1
    exact bodyPost_ret (v := .tuple #[.int .i64 sh, .agg #[.int .i64 c.kind, .int .i64 c.tx, .int .i64 c.attempt, .int .i64 st, .int .i64 c.op, .string c.key, .string c.value, .int .i64 c.mode, .bool c.yes], .bool true]) (by simp [results, Tryd.results10, go_sem, y0, y1, y2, y3, y4, y5, y6, y7, y8]) rfl ⟨HE.out.symm, HMF.out.bel⟩
set_option maxRecDepth 100000 in
set_option maxHeartbeats 4000000 in
theorem next7 (M : Mem w0 D0 w (DrA g mg l d :: MapA mg ss :: r)) (ok : DOk ss l d) (hp : d.phase = 7) :
    Calls Tryd.prog 10 #[.pointer (some ⟨g, 0, none⟩)] w fun e w' => e = nextE ss l d ∧ Below w.heap.size w w' := by
  obtain ⟨x, xs, htl⟩ : ∃ x xs, d.tl = x :: xs := by
    cases h : d.tl with
    | nil => exact absurd h (ok.left hp)
    | cons x xs => exact ⟨x, xs, rfl⟩
  obtain ⟨pa, pc, ra, rc, t0, t1, t2, la, lc, MF⟩ := Mem.openF M hp
  have hg := Mem.heapAt [] MF
  have hq := Mem.qrowAt (drL g mg l d pa pc ra rc (.slice t0 t1 t2) (.slice la d.tl.length lc)) MF
  rw [htl] at hq
  obtain ⟨lb, lo, rfl, hx0⟩ := QRow.cell hq 0 (by simp [intsV])
  simp only [intsV, List.map_cons, List.getElem_cons_zero, Nat.add_zero] at hx0
  have hll := World.block_lt_of_cell? w _ hx0
  simp only at hll
  obtain ⟨c14, -⟩ := drC_cell hg 14 (.slice (some ⟨lb, lo, none⟩) d.tl.length lc) rfl
  obtain ⟨c15, -⟩ := drC_cell hg 15 (.int .i64 d.outcome) rfl
  rw [htl] at c14
  clear MF hq
  obtain ⟨c6, -⟩ := drC_cell hg 6 (.int .i64 d.phase) rfl
  rw [hp] at c6
  have hlg := World.block_lt_of_cell? w _ c6
  simp only at hlg
  have HM0 : Hid (Mem w [] (w.alloc (.cells #[.int .i64 0, .int .i64 0, .int .i64 0, .int .i64 0, .int .i64 0, .string ⟨#[]⟩, .string ⟨#[]⟩, .int .i64 0, .bool false] 38)) [BlockA w.heap.size #[.int .i64 0, .int .i64 0, .int .i64 0, .int .i64 0, .int .i64 0, .string ⟨#[]⟩, .string ⟨#[]⟩, .int .i64 0, .bool false] 38]) := Lib.hid ((Mem.nil w).block #[.int .i64 0, .int .i64 0, .int .i64 0, .int .i64 0, .int .i64 0, .string ⟨#[]⟩, .string ⟨#[]⟩, .int .i64 0, .bool false] 38)
  have HCM := Lib.hid (command_any 7 (M.below (bel_new w (.cells #[.int .i64 0, .int .i64 0, .int .i64 0, .int .i64 0, .int .i64 0, .string ⟨#[]⟩, .string ⟨#[]⟩, .int .i64 0, .bool false] 38))))
  have HE : Hid (nextE ss l d = .returned (.tuple #[.int .i64 x, Cmd.val ⟨(cmd0 d 7).kind, (cmd0 d 7).tx, (cmd0 d 7).attempt, (cmd0 d 7).stamp, x, (cmd0 d 7).key, (cmd0 d 7).value, (cmd0 d 7).mode, d.outcome == 2⟩, .bool true])) := Lib.hid (nextE_mk (by unfold nextS; rw [hp, htl]; rfl) (by unfold nextC; rw [hp, htl]; rfl) (by rw [hp]; rfl))
  unfold Cmd.val at HCM HE
  simp only at HE
  generalize cmd0 d 7 = c at *
  generalize d.outcome = oc at *
  simp only [List.length_cons] at c14
  generalize xs.length = xn at *
  clear hg M ok hp htl
  generalize nextE ss l d = ne at *
  have hxn : (0 : Int) < ((xn + 1 : Nat) : Int) := by omega
  go_enter Tryd.func10, Tryd.ntmps10
  go_wp2_with fail
  refine HCM.out.mono ?_
  rintro e w1 ⟨rfl, hb⟩
  have HM1 := Lib.hid (HM0.out.below hb)
  have HM2 : Hid (Mem w [] ((w1.alloc (.cells #[.int .i64 c.kind, .int .i64 c.tx, .int .i64 c.attempt, .int .i64 c.stamp, .int .i64 x, .string c.key, .string c.value, .int .i64 c.mode, .bool (oc == 2)] 38)).drew) [BlockA w1.heap.size #[.int .i64 c.kind, .int .i64 c.tx, .int .i64 c.attempt, .int .i64 c.stamp, .int .i64 x, .string c.key, .string c.value, .int .i64 c.mode, .bool (oc == 2)] 38, BlockA w.heap.size #[.int .i64 0, .int .i64 0, .int .i64 0, .int .i64 0, .int .i64 0, .string ⟨#[]⟩, .string ⟨#[]⟩, .int .i64 0, .bool false] 38]) := Lib.hid ((HM1.out.block #[.int .i64 c.kind, .int .i64 c.tx, .int .i64 c.attempt, .int .i64 c.stamp, .int .i64 x, .string c.key, .string c.value, .int .i64 c.mode, .bool (oc == 2)] 38).below (bel_drew _))
  have d14 := (HM1.out.bel.cell hlg).trans c14
  have d15 := (HM1.out.bel.cell hlg).trans c15
  have dx := (HM1.out.bel.cell (p := ⟨lb, lo, none⟩) hll).trans hx0
  have hzg := World.block_lt_of_cell? w1 _ d14
  have hzl := World.block_lt_of_cell? w1 _ dx
  have d6 := (HM1.out.bel.cell hlg).trans c6
  simp only at hzg hzl
  clear hb HM1 HM0 HCM
  go_wp2_with fail
  go_region
  all_goals
    go_wp2_with fail
    generalize w1.heap.size = b6 at *
    generalize ((w1.alloc (.cells #[.int .i64 c.kind, .int .i64 c.tx, .int .i64 c.attempt, .int .i64 c.stamp, .int .i64 x, .string c.key, .string c.value, .int .i64 c.mode, .bool (oc == 2)] 38)).drew) = w6 at *
    have hh := Mem.heapAt [] HM2.out
    have u0 := (cell_of_heap (i := 0) (v := .int .i64 c.kind) hh rfl).1
    have u1 := (cell_of_heap (i := 1) (v := .int .i64 c.tx) hh rfl).1
    have u2 := (cell_of_heap (i := 2) (v := .int .i64 c.attempt) hh rfl).1
    have u3 := (cell_of_heap (i := 3) (v := .int .i64 c.stamp) hh rfl).1
    have u4 := (cell_of_heap (i := 4) (v := .int .i64 x) hh rfl).1
    have u5 := (cell_of_heap (i := 5) (v := .string c.key) hh rfl).1
    have u6 := (cell_of_heap (i := 6) (v := .string c.value) hh rfl).1
    have u7 := (cell_of_heap (i := 7) (v := .int .i64 c.mode) hh rfl).1
    have u8 := (cell_of_heap (i := 8) (v := .bool (oc == 2)) hh rfl).1
    have hh2 := Mem.heapAt [BlockA b6 #[.int .i64 c.kind, .int .i64 c.tx, .int .i64 c.attempt, .int .i64 c.stamp, .int .i64 x, .string c.key, .string c.value, .int .i64 c.mode, .bool (oc == 2)] 38] HM2.out
    obtain ⟨z0, zf0⟩ := cell_of_heap (i := 0) (v := .int .i64 0) hh2 rfl
    obtain ⟨z1, zf1⟩ := cell_of_heap (i := 1) (v := .int .i64 0) hh2 rfl
    obtain ⟨z2, zf2⟩ := cell_of_heap (i := 2) (v := .int .i64 0) hh2 rfl
    obtain ⟨z3, zf3⟩ := cell_of_heap (i := 3) (v := .int .i64 0) hh2 rfl
    obtain ⟨z4, zf4⟩ := cell_of_heap (i := 4) (v := .int .i64 0) hh2 rfl
    obtain ⟨z5, zf5⟩ := cell_of_heap (i := 5) (v := .string ⟨#[]⟩) hh2 rfl
    obtain ⟨z6, zf6⟩ := cell_of_heap (i := 6) (v := .string ⟨#[]⟩) hh2 rfl
    obtain ⟨z7, zf7⟩ := cell_of_heap (i := 7) (v := .int .i64 0) hh2 rfl
    obtain ⟨z8, zf8⟩ := cell_of_heap (i := 8) (v := .bool false) hh2 rfl
    have e14 := (HM2.out.bel.cell hlg).trans c14
    have ex := (HM2.out.bel.cell (p := ⟨lb, lo, none⟩) hll).trans hx0
    have HMF := Lib.hid (Mem.below (Mem.set9 [BlockA b6 #[.int .i64 c.kind, .int .i64 c.tx, .int .i64 c.attempt, .int .i64 c.stamp, .int .i64 x, .string c.key, .string c.value, .int .i64 c.mode, .bool (oc == 2)] 38] (r := []) HM2.out (.int .i64 c.kind) (.int .i64 c.tx) (.int .i64 c.attempt) (.int .i64 c.stamp) (.int .i64 x) (.string c.key) (.string c.value) (.int .i64 c.mode) (.bool (oc == 2))) (bel_drew _))
    clear hh hh2 d14 dx d15 d6 HM2
    go_region
    all_goals
      go_wp2_with fail
      generalize (((((((((w6.setCell ⟨w.heap.size, 0, none⟩ (.int .i64 c.kind)).setCell ⟨w.heap.size, 1, none⟩ (.int .i64 c.tx)).setCell ⟨w.heap.size, 2, none⟩ (.int .i64 c.attempt)).setCell ⟨w.heap.size, 3, none⟩ (.int .i64 c.stamp)).setCell ⟨w.heap.size, 4, none⟩ (.int .i64 x)).setCell ⟨w.heap.size, 5, none⟩ (.string c.key)).setCell ⟨w.heap.size, 6, none⟩ (.string c.value)).setCell ⟨w.heap.size, 7, none⟩ (.int .i64 c.mode)).setCell ⟨w.heap.size, 8, none⟩ (.bool (oc == 2))).drew = w9 at *
      have hh := Mem.heapAt [BlockA b6 #[.int .i64 c.kind, .int .i64 c.tx, .int .i64 c.attempt, .int .i64 c.stamp, .int .i64 x, .string c.key, .string c.value, .int .i64 c.mode, .bool (oc == 2)] 38] HMF.out
      have y0 := (cell_of_heap (i := 0) (v := .int .i64 c.kind) hh rfl).1
      have y1 := (cell_of_heap (i := 1) (v := .int .i64 c.tx) hh rfl).1
      have y2 := (cell_of_heap (i := 2) (v := .int .i64 c.attempt) hh rfl).1
      have y3 := (cell_of_heap (i := 3) (v := .int .i64 c.stamp) hh rfl).1
      have y4 := (cell_of_heap (i := 4) (v := .int .i64 x) hh rfl).1
      have y5 := (cell_of_heap (i := 5) (v := .string c.key) hh rfl).1
      have y6 := (cell_of_heap (i := 6) (v := .string c.value) hh rfl).1
      have y7 := (cell_of_heap (i := 7) (v := .int .i64 c.mode) hh rfl).1
      have y8 := (cell_of_heap (i := 8) (v := .bool (oc == 2)) hh rfl).1
      exact bodyPost_ret (v := .tuple #[.int .i64 x, .agg #[.int .i64 c.kind, .int .i64 c.tx, .int .i64 c.attempt, .int .i64 c.stamp, .int .i64 x, .string c.key, .string c.value, .int .i64 c.mode, .bool (oc == 2)], .bool true]) (by simp [results, Tryd.results10, go_sem, y0, y1, y2, y3, y4, y5, y6, y7, y8]) rfl ⟨HE.out.symm, HMF.out.bel⟩
theorem next_any (M : Mem w0 D0 w (DrA g mg l d :: MapA mg ss :: r)) (ok : DOk ss l d) : Calls Tryd.prog 10 #[.pointer (some ⟨g, 0, none⟩)] w fun e w' => e = nextE ss l d ∧ Below w.heap.size w w' := by
  have h0 := ok.ph0
  have h8 := ok.ph8
  rcases (show d.phase = 0 ∨ d.phase = 1 ∨ d.phase = 2 ∨ d.phase = 3 ∨ d.phase = 4 ∨ d.phase = 5 ∨ d.phase = 6 ∨ d.phase = 7 ∨ d.phase = 8 by omega) with h | h | h | h | h | h | h | h | h
  · exact next0 M ok h
  · exact next1 M ok h
  · exact next2 M ok h
  · exact next3 M ok h
  · exact next4 M ok h
  · exact next5 M ok h
  · exact next6 M ok h
  · exact next7 M ok h
  · exact next8 M ok h
end
end Go.Proofs.YtmifgnibalbgjaaDoor

