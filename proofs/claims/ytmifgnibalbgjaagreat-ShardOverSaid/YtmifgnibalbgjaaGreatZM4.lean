/- What the shard's commands keep in memory. -/
import Derived.Test.YtmifgnibalbgjaaGreatZM3
import Derived.Test.YtmifgnibalbgjaaGreatZLAA
import Derived.Test.YtmifgnibalbgjaaGreatZLAC
import Derived.Deep.CutRange
import Derived.Deep.CutBlock
namespace Go.Proofs.YtmifgnibalbgjaaGreat
open Go.RowKit set_option linter.unusedVariables false set_option linter.unusedSimpArgs false
abbrev Le.arr (e : Le) : Array Value := #[.int .i64 e.att, .int .i64 e.last.kind, .int .i64 e.last.tx, .int .i64 e.last.att, .int .i64 e.last.stamp, .int .i64 e.last.op, .string e.last.key, .string e.last.value, .int .i64 e.last.mode, .bool e.last.yes, .slice e.a e.n e.c]
abbrev Rp.arr (r : Rp) : Array Value := #[.int .i64 r.code, .int .i64 r.state, .string r.v, .bool r.h]
def zeroR : Rp := ⟨0, 0, ⟨#[]⟩, false⟩
abbrev shT (g pc pl ps bl bd : Nat) (E : List (Int × Le)) (S : Sh) : List Asn := shB g S pc pl ps bl bd :: CellsA pc S.cells S.clast :: TabA pl S.locks :: StA ps S.rows :: KRowsA (intK Tryz.underlying3) Le.val Le.row bl E :: [KMapA (intK Tryz.underlying3) bd (dnV S.dones)]
/-- the command, the reply, who lives, and the shard. -/
def XM (w : World) (D : List Nat) (b0 b1 b2 : Nat) (c : Cm) (r : Rp) (x : Le) (L : List Asn) (W : World) : Prop :=
 Mem w D W (BlockA (b2) x.arr 108 :: BlockA (b1) r.arr 35 :: BlockA b0 c.arr 28 :: L)
section
variable {w W W' : World} {D : List Nat} {b0 b1 b2 : Nat} {c : Cm} {r : Rp} {x : Le} {L : List Asn}
theorem XM.hx [Stables L] (h : XM w D b0 b1 b2 c r x L W) : W.heap[b2]? = some (.cells x.arr 108 (0, 0)) := (Mem.get [] h).choose_spec.2
theorem XM.hr [Stables L] (h : XM w D b0 b1 b2 c r x L W) : W.heap[b1]? = some (.cells r.arr 35 (0, 0)) :=
 (Mem.get [BlockA (b2) x.arr 108] (A := BlockA (b1) r.arr 35) (r := BlockA b0 c.arr 28 :: L) h).choose_spec.2
theorem XM.hc [Stables L] (h : XM w D b0 b1 b2 c r x L W) : W.heap[b0]? = some (.cells c.arr 28 (0, 0)) :=
 (Mem.get [BlockA (b2) x.arr 108, BlockA (b1) r.arr 35] (A := BlockA b0 c.arr 28) (r := L) h).choose_spec.2
theorem XM.below [Stables L] (h : XM w D b0 b1 b2 c r x L W) (b : Below W.heap.size W W') : XM w D b0 b1 b2 c r x L W' := Mem.below h b
theorem XM.rest [Stables L] (h : XM w D b0 b1 b2 c r x L W) : Mem w D W L :=
 Mem.drop [] (A := BlockA b0 c.arr 28) (r := L) (Mem.drop [] (A := BlockA (b1) r.arr 35) (r := BlockA b0 c.arr 28 :: L) (Mem.drop [] h))
theorem XM.setR [Stables L] (h : XM w D b0 b1 b2 c r x L W) (q : Rp) : XM w D b0 b1 b2 c q x L ((((W.setCell ⟨b1, 0, none⟩ (.int .i64 q.code)).setCell ⟨b1, 1, none⟩ (.int .i64 q.state)).setCell ⟨b1, 2, none⟩ (.string q.v)).setCell ⟨b1, 3, none⟩ (.bool q.h)) := by
 have h1 := Mem.setAt [BlockA (b2) x.arr 108] (r := BlockA b0 c.arr 28 :: L) (i := 0) h (.int .i64 q.code)
 have h2 := Mem.setAt [BlockA (b2) x.arr 108] (r := BlockA b0 c.arr 28 :: L) (i := 1) h1 (.int .i64 q.state)
 have h3 := Mem.setAt [BlockA (b2) x.arr 108] (r := BlockA b0 c.arr 28 :: L) (i := 2) h2 (.string q.v)
 exact Mem.setAt [BlockA (b2) x.arr 108] (r := BlockA b0 c.arr 28 :: L) (i := 3) h3 (.bool q.h)
/-- the last command is stored into x. -/
theorem XM.setLast [Stables L] (h : XM w D b0 b1 b2 c r x L W) : XM w D b0 b1 b2 c r { x with last := c } L (((((((((W.setCell ⟨b2, 1, none⟩ (.int .i64 c.kind)).setCell ⟨b2, 2, none⟩ (.int .i64 c.tx)).setCell ⟨b2, 3, none⟩ (.int .i64 c.att)).setCell ⟨b2, 4, none⟩ (.int .i64 c.stamp)).setCell ⟨b2, 5, none⟩ (.int .i64 c.op)).setCell ⟨b2, 6, none⟩ (.string c.key)).setCell ⟨b2, 7, none⟩ (.string c.value)).setCell ⟨b2, 8, none⟩ (.int .i64 c.mode)).setCell ⟨b2, 9, none⟩ (.bool c.yes)) := by
 have h1 := Mem.setAt [] (r := BlockA (b1) r.arr 35 :: BlockA b0 c.arr 28 :: L) (i := 1) h (.int .i64 c.kind)
 have h2 := Mem.setAt [] (r := BlockA (b1) r.arr 35 :: BlockA b0 c.arr 28 :: L) (i := 2) h1 (.int .i64 c.tx)
 have h3 := Mem.setAt [] (r := BlockA (b1) r.arr 35 :: BlockA b0 c.arr 28 :: L) (i := 3) h2 (.int .i64 c.att)
 have h4 := Mem.setAt [] (r := BlockA (b1) r.arr 35 :: BlockA b0 c.arr 28 :: L) (i := 4) h3 (.int .i64 c.stamp)
 have h5 := Mem.setAt [] (r := BlockA (b1) r.arr 35 :: BlockA b0 c.arr 28 :: L) (i := 5) h4 (.int .i64 c.op)
 have h6 := Mem.setAt [] (r := BlockA (b1) r.arr 35 :: BlockA b0 c.arr 28 :: L) (i := 6) h5 (.string c.key)
 have h7 := Mem.setAt [] (r := BlockA (b1) r.arr 35 :: BlockA b0 c.arr 28 :: L) (i := 7) h6 (.string c.value)
 have h8 := Mem.setAt [] (r := BlockA (b1) r.arr 35 :: BlockA b0 c.arr 28 :: L) (i := 8) h7 (.int .i64 c.mode)
 have h9 := Mem.setAt [] (r := BlockA (b1) r.arr 35 :: BlockA b0 c.arr 28 :: L) (i := 9) h8 (.bool c.yes)
 have e : ((((((((((Le.arr x).set! 1 (.int .i64 c.kind)).set! 2 (.int .i64 c.tx)).set! 3 (.int .i64 c.att)).set! 4 (.int .i64 c.stamp)).set! 5 (.int .i64 c.op)).set! 6 (.string c.key)).set! 7 (.string c.value)).set! 8 (.int .i64 c.mode)).set! 9 (.bool c.yes)) = Le.arr { x with last := c } := by
  obtain ⟨x1, ⟨a1, a2, a3, a4, a5, a6, a7, a8, a9⟩, x2, x3, x4, x5⟩ := x
  kernel_rfl
 rw [e] at h9
 exact h9
theorem XM.setAtt [Stables L] (h : XM w D b0 b1 b2 c r x L W) (v : Int) : XM w D b0 b1 b2 c r { x with att := v } L (W.setCell ⟨b2, 0, none⟩ (.int .i64 v)) :=
 Mem.setAt [] (r := BlockA (b1) r.arr 35 :: BlockA b0 c.arr 28 :: L) (i := 0) h (.int .i64 v)
/-- all blocks made: the beginning. -/
theorem XM.begin [Stables L] (M : Mem w D w L) : XM w D w.heap.size (w.heap.size + 1) (w.heap.size + 2) c zeroR x L (((w.alloc (.cells c.arr 28)).alloc (.cells zeroR.arr 35)).alloc (.cells x.arr 108)) := by
 have h := ((M.block c.arr 28).block zeroR.arr 35).block x.arr 108
 rw [show ((w.alloc (.cells c.arr 28)).alloc (.cells zeroR.arr 35)).heap.size = w.heap.size + 2 by simp, show (w.alloc (.cells c.arr 28)).heap.size = w.heap.size + 1 by simp] at h
 exact h
end
def ltZ (a b : Int) : Bool := decide (a < b)
/-- x is stored anew among those who live: what it wrote lies where it lay. -/
theorem sh_store {w0 w : World} {D0 : List Nat} (l : List Asn) {r : List Asn} [Stables l] [Stables r] {bl : Nat} {E : List (Int × Le)} (h : Mem w0 D0 w (l ++ KRowsA (intK Tryz.underlying3) Le.val Le.row bl E :: r)) {tx : Int} (htx : i64 tx) (hn : E.length ≤ 100000)
  (x' : Le) (hx : x'.a = ((kGet tx E).getD ⟨0, zeroC, none, 0, 0, []⟩).a ∧ x'.n = ((kGet tx E).getD ⟨0, zeroC, none, 0, 0, []⟩).n ∧ x'.c = ((kGet tx E).getD ⟨0, zeroC, none, 0, 0, []⟩).c ∧ x'.ws = ((kGet tx E).getD ⟨0, zeroC, none, 0, 0, []⟩).ws) :
  ∃ w', (Instr.mapUpdate 96 (.map (some bl)) (.int .i64 tx) x'.val).run Tryz.prog w = .ok () w' ∧ Mem w0 D0 w' (l ++ KRowsA (intK Tryz.underlying3) Le.val Le.row bl (kPut ltZ tx x' E) :: r) := by
 obtain ⟨hx1, hx2, hx3, hx4⟩ := hx
 cases hg : kGet tx E with
 | none =>
  rw [hg] at hx1 hx2 hx3 hx4
  simp only [Option.getD_none] at hx1 hx2 hx3 hx4
  have M0 := h.new (Below.refl _ _) (As := [Le.row x']) (D' := []) (all_one ⟨by rw [hx1]; rfl, by rw [hx1, hx2, hx3, hx4]; exact Row.nil _ _ _⟩) (by simp)
  exact Mem.krNew l (row := Le.row) (enc := Le.val) (ordI Tryz.underlying3) Tryz.underlying96 (x := tx) (e := x') (wf_i64 htx) hg (by unfold maxLen; omega) M0
 | some x =>
  rw [hg] at hx1 hx2 hx3 hx4
  simp only [Option.getD_some] at hx1 hx2 hx3 hx4
  obtain ⟨A, B, rfl, hA, hB, hO⟩ := Mem.krOpen l h hg
  have hrow : Le.row x = Le.row x' := by unfold Le.row; rw [hx1, hx2, hx3, hx4]
  rw [hrow] at hO
  obtain ⟨w', h1, h2⟩ := Mem.krTurn (row := Le.row) (enc := Le.val) l (ordI Tryz.underlying3) Tryz.underlying96 (x := tx) (e := x) (e' := x') (wf_i64 htx) hA hB (by unfold maxLen; omega) hO
  refine ⟨w', h1, ?_⟩
  have e2 := kPut_split (ordI Tryz.underlying3) (v := x) (v' := x') hA hB
  have e3 : kPut ltZ tx x' (A ++ (tx, x) :: B) = A ++ (tx, x') :: B := e2
  rw [e3]
  exact h2
theorem lvE_put (tx : Int) (x : Le) (E : List (Int × Le)) : lvE (kPut ltZ tx x E) = kPut ltZ tx x.lv (lvE E) := (kPut_map ltZ Le.lv tx x E).symm
section
variable {w W : World} {D : List Nat} {b0 b1 b2 : Nat} {c : Cm} {r : Rp} {x : Le} {g pc pl ps bl bd : Nat} {E : List (Int × Le)} {S : Sh}
/-- what stands beside the table of locks. -/
abbrev tabR (b0 b1 b2 : Nat) (c : Cm) (r : Rp) (x : Le) (g pc pl ps bl bd : Nat) (E : List (Int × Le)) (S : Sh) : List Asn :=
 BlockA b2 x.arr 108 :: BlockA b1 r.arr 35 :: BlockA b0 c.arr 28 :: shB g S pc pl ps bl bd :: CellsA pc S.cells S.clast :: StA ps S.rows :: KRowsA (intK Tryz.underlying3) Le.val Le.row bl E :: [KMapA (intK Tryz.underlying3) bd (dnV S.dones)]
theorem XM.tab (h : XM w D b0 b1 b2 c r x (shT g pc pl ps bl bd E S) W) : Mem w D W (TabA pl S.locks :: tabR b0 b1 b2 c r x g pc pl ps bl bd E S) :=
 Mem.perm h (List.perm_middle (l₁ := [BlockA b2 x.arr 108, BlockA b1 r.arr 35, BlockA b0 c.arr 28, shB g S pc pl ps bl bd, CellsA pc S.cells S.clast]) (a := TabA pl S.locks))
theorem XM.untab {L : List Li} (h : Mem w D W (TabA pl L :: tabR b0 b1 b2 c r x g pc pl ps bl bd E S)) : XM w D b0 b1 b2 c r x (shT g pc pl ps bl bd E { S with locks := L }) W :=
 Mem.perm h (List.perm_middle (l₁ := [BlockA b2 x.arr 108, BlockA b1 r.arr 35, BlockA b0 c.arr 28, shB g S pc pl ps bl bd, CellsA pc S.cells S.clast]) (a := TabA pl L)).symm
/-- the reply's cells. -/
structure RAt (W : World) (b1 : Nat) (r : Rp) : Prop where
 c0 : W.cell? ⟨b1, 0, none⟩ = some (.int .i64 r.code)
 c1 : W.cell? ⟨b1, 1, none⟩ = some (.int .i64 r.state)
 c2 : W.cell? ⟨b1, 2, none⟩ = some (.string r.v)
 c3 : W.cell? ⟨b1, 3, none⟩ = some (.bool r.h)
 f0 : W.frozen? ⟨b1, 0, none⟩ = false
 f1 : W.frozen? ⟨b1, 1, none⟩ = false
 f2 : W.frozen? ⟨b1, 2, none⟩ = false
 f3 : W.frozen? ⟨b1, 3, none⟩ = false
theorem XM.rat {L : List Asn} [Stables L] (h : XM w D b0 b1 b2 c r x L W) : RAt W b1 r := by
 have hr := h.hr
 exact ⟨(cell_of_heap hr rfl).1, (cell_of_heap hr rfl).1, (cell_of_heap hr rfl).1, (cell_of_heap hr rfl).1, (cell_of_heap (i := 0) (v := .int .i64 r.code) hr rfl).2, (cell_of_heap (i := 1) (v := .int .i64 r.state) hr rfl).2, (cell_of_heap (i := 2) (v := .string r.v) hr rfl).2, (cell_of_heap (i := 3) (v := .bool r.h) hr rfl).2⟩
end
end Go.Proofs.YtmifgnibalbgjaaGreat
