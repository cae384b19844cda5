/- A writing: what is kept in memory. -/
import Derived.Test.YtmifgnibalbgjaaGreatZM7
namespace Go.Proofs.YtmifgnibalbgjaaGreat
open Go.RowKit set_option linter.unusedVariables false set_option linter.unusedSimpArgs false
abbrev Wr.arr (t : Wr) : Array Value := #[.string t.key, .string t.v, .bool t.h]
abbrev pmL (b0 b1 b2 : Nat) (c : Cm) (x : Le) (g pc pl ps bl bd : Nat) (S : Sh) : List Asn :=
 [BlockA b2 x.arr 108, BlockA b1 zeroR.arr 35, BlockA b0 c.arr 28, shB g S pc pl ps bl bd, CellsA pc S.cells S.clast, TabA pl S.locks, StA ps S.rows]
abbrev pmM (tx : Int) (X : Le) (A B : List (Int × Le)) (bl : Nat) : List Asn := KMapA (intK Tryz.underlying3) bl ((A ++ (tx, X) :: B).map fun p => (p.1, Le.val p.2)) :: A.map fun p => Le.row p.2
/-- the write, x, the shard with what x wrote taken out. -/
def PM (w : World) (D : List Nat) (b0 b1 b2 b3 : Nat) (c : Cm) (t : Wr) (x y : Le) (tx : Int) (X : Le) (A B : List (Int × Le)) (g pc pl ps bl bd : Nat) (S : Sh) (W : World) : Prop :=
 Mem w D W ((BlockA b3 t.arr 43 :: (pmL b0 b1 b2 c x g pc pl ps bl bd S ++ pmM tx X A B bl)) ++ Le.row y :: ((B.map fun p => Le.row p.2) ++ [KMapA (intK Tryz.underlying3) bd (dnV S.dones)]))
section
variable {w W W' : World} {D : List Nat} {b0 b1 b2 b3 : Nat} {c : Cm} {t : Wr} {x y X : Le} {tx : Int} {A B : List (Int × Le)} {g pc pl ps bl bd : Nat} {S : Sh} {E : List (Int × Le)}
instance stRows {A : List (Int × Le)} : Stables (A.map fun p => Le.row p.2) := stables_map (fun _ => inferInstance) A
theorem XM.write (h : XM w D b0 b1 b2 c zeroR X (shT g pc pl ps bl bd E S) W) (hg : kGet tx E = some X) (t : Wr) :
  ∃ A B, E = A ++ (tx, X) :: B ∧ (∀ p ∈ A, (intK (P := Tryz.prog) Tryz.underlying3).lt p.1 tx = true) ∧ (∀ p ∈ B, (intK (P := Tryz.prog) Tryz.underlying3).lt tx p.1 = true) ∧ PM w D b0 b1 b2 W.heap.size c t X X tx X A B g pc pl ps bl bd S (W.alloc (.cells t.arr 43)) := by
 obtain ⟨A, B, e, hA, hB, hO⟩ := Mem.krOpen (pmL b0 b1 b2 c X g pc pl ps bl bd S) (r := [KMapA (intK Tryz.underlying3) bd (dnV S.dones)]) h hg
 exact ⟨A, B, e, hA, hB, Mem.block hO t.arr 43⟩
theorem PM.below (h : PM w D b0 b1 b2 b3 c t x y tx X A B g pc pl ps bl bd S W) (b : Below W.heap.size W W') : PM w D b0 b1 b2 b3 c t x y tx X A B g pc pl ps bl bd S W' := Mem.below h b
theorem PM.row (h : PM w D b0 b1 b2 b3 c t x y tx X A B g pc pl ps bl bd S W) : Row W 43 3 y.a y.n y.c (wrFlat y.ws) := Mem.rowAt _ h
theorem PM.h3 (h : PM w D b0 b1 b2 b3 c t x y tx X A B g pc pl ps bl bd S W) : W.heap[b3]? = some (.cells t.arr 43 (0, 0)) := (Mem.get [] (A := BlockA b3 t.arr 43) (r := (pmL b0 b1 b2 c x g pc pl ps bl bd S ++ pmM tx X A B bl) ++ Le.row y :: ((B.map fun p => Le.row p.2) ++ [KMapA (intK Tryz.underlying3) bd (dnV S.dones)])) (by simpa [PM] using h)).choose_spec.2
theorem PM.h2 (h : PM w D b0 b1 b2 b3 c t x y tx X A B g pc pl ps bl bd S W) : W.heap[b2]? = some (.cells x.arr 108 (0, 0)) := (Mem.get [BlockA b3 t.arr 43] (A := BlockA b2 x.arr 108) (r := BlockA b1 zeroR.arr 35 :: BlockA b0 c.arr 28 :: shB g S pc pl ps bl bd :: CellsA pc S.cells S.clast :: TabA pl S.locks :: StA ps S.rows :: (pmM tx X A B bl ++ Le.row y :: ((B.map fun p => Le.row p.2) ++ [KMapA (intK Tryz.underlying3) bd (dnV S.dones)]))) (by simpa [PM] using h)).choose_spec.2
theorem PM.h0 (h : PM w D b0 b1 b2 b3 c t x y tx X A B g pc pl ps bl bd S W) : W.heap[b0]? = some (.cells c.arr 28 (0, 0)) := (Mem.get [BlockA b3 t.arr 43, BlockA b2 x.arr 108, BlockA b1 zeroR.arr 35] (A := BlockA b0 c.arr 28) (r := shB g S pc pl ps bl bd :: CellsA pc S.cells S.clast :: TabA pl S.locks :: StA ps S.rows :: (pmM tx X A B bl ++ Le.row y :: ((B.map fun p => Le.row p.2) ++ [KMapA (intK Tryz.underlying3) bd (dnV S.dones)]))) (by simpa [PM] using h)).choose_spec.2
theorem PM.hg (h : PM w D b0 b1 b2 b3 c t x y tx X A B g pc pl ps bl bd S W) : W.cell? ⟨g, 5, none⟩ = some (.map (some bl)) := (cell_of_heap (Mem.get [BlockA b3 t.arr 43, BlockA b2 x.arr 108, BlockA b1 zeroR.arr 35, BlockA b0 c.arr 28] (A := shB g S pc pl ps bl bd) (r := CellsA pc S.cells S.clast :: TabA pl S.locks :: StA ps S.rows :: (pmM tx X A B bl ++ Le.row y :: ((B.map fun p => Le.row p.2) ++ [KMapA (intK Tryz.underlying3) bd (dnV S.dones)]))) (by simpa [PM] using h)).choose_spec.2 rfl).1
theorem PM.setRow (h : PM w D b0 b1 b2 b3 c t x y tx X A B g pc pl ps bl bd S W) {gr : Nat} (ha : y.a = some ⟨gr, 0, none⟩) (p : Nat) (hp : p < y.ws.length) (u : Wr) :
  PM w D b0 b1 b2 b3 c t x { y with ws := y.ws.set p u } tx X A B g pc pl ps bl bd S (((W.setCell ⟨gr, p * 3, none⟩ (.string u.key)).setCell ⟨gr, p * 3 + 1, none⟩ (.string u.v)).setCell ⟨gr, p * 3 + 2, none⟩ (.bool u.h)) := by
 obtain ⟨ya, yl, yaa, yn, yc, yws⟩ := y
 simp only at ha hp ⊢
 subst ha
 have h1 := Mem.rowSet _ h (p * 3) (.string u.key)
 have h2 := Mem.rowSet _ h1 (p * 3 + 1) (.string u.v)
 have h3 := Mem.rowSet _ h2 (p * 3 + 2) (.bool u.h)
 have hset : ∀ (l : List Wr) (q : Nat), q < l.length → (((wrFlat l).set (q * 3) (.string u.key)).set (q * 3 + 1) (.string u.v)).set (q * 3 + 2) (.bool u.h) = wrFlat (l.set q u) := by
  intro l
  induction l with
  | nil => intro q hq; simp at hq
  | cons z r ih =>
   intro q hq
   cases q with
   | zero => simp [wrFlat]
   | succ q =>
    have := ih q (by simpa using hq)
    rw [show (q + 1) * 3 = q * 3 + 1 + 1 + 1 by omega]
    simp only [wrFlat, List.set_cons_succ]
    rw [this]
 rw [hset yws p hp] at h3
 exact h3
theorem PM.turn (h : PM w D b0 b1 b2 b3 c t x y tx X A B g pc pl ps bl bd S W) {a' : Option Addr} {n' c' : Nat} {ws' : List Wr} (hr : Row W' 43 3 a' n' c' (wrFlat ws')) (ht : Touch (blkOf y.a) W W') (hf : Fresh W y.a a') :
  PM w D b0 b1 b2 b3 c t x { y with a := a', n := n', c := c', ws := ws' } tx X A B g pc pl ps bl bd S W' := Mem.rowTurn _ h hr ht hf
/-- what stands behind the first two blocks. -/
abbrev pmR (b0 b1 : Nat) (c : Cm) (y : Le) (tx : Int) (X : Le) (A B : List (Int × Le)) (g pc pl ps bl bd : Nat) (S : Sh) : List Asn :=
 BlockA b1 zeroR.arr 35 :: BlockA b0 c.arr 28 :: shB g S pc pl ps bl bd :: CellsA pc S.cells S.clast :: TabA pl S.locks :: StA ps S.rows :: (pmM tx X A B bl ++ Le.row y :: ((B.map fun p => Le.row p.2) ++ [KMapA (intK Tryz.underlying3) bd (dnV S.dones)]))
theorem PM.flat : PM w D b0 b1 b2 b3 c t x y tx X A B g pc pl ps bl bd S W ↔ Mem w D W (BlockA b3 t.arr 43 :: BlockA b2 x.arr 108 :: pmR b0 b1 c y tx X A B g pc pl ps bl bd S) := Iff.rfl
theorem PM.setWs (h : PM w D b0 b1 b2 b3 c t x y tx X A B g pc pl ps bl bd S W) (a : Option Addr) (n k : Nat) (ws : List Wr) : PM w D b0 b1 b2 b3 c t { x with a := a, n := n, c := k, ws := ws } y tx X A B g pc pl ps bl bd S (W.setCell ⟨b2, 10, none⟩ (.slice a n k)) := by
 have h1 := Mem.setAt [BlockA b3 t.arr 43] (r := pmR b0 b1 c y tx X A B g pc pl ps bl bd S) (i := 10) (PM.flat.1 h) (.slice a n k)
 exact PM.flat.2 h1
theorem PM.setLast (h : PM w D b0 b1 b2 b3 c t x y tx X A B g pc pl ps bl bd S W) : PM w D b0 b1 b2 b3 c t { x with last := c } y tx X A B g pc pl ps bl bd S (((((((((W.setCell ⟨b2, 1, none⟩ (.int .i64 c.kind)).setCell ⟨b2, 2, none⟩ (.int .i64 c.tx)).setCell ⟨b2, 3, none⟩ (.int .i64 c.att)).setCell ⟨b2, 4, none⟩ (.int .i64 c.stamp)).setCell ⟨b2, 5, none⟩ (.int .i64 c.op)).setCell ⟨b2, 6, none⟩ (.string c.key)).setCell ⟨b2, 7, none⟩ (.string c.value)).setCell ⟨b2, 8, none⟩ (.int .i64 c.mode)).setCell ⟨b2, 9, none⟩ (.bool c.yes)) := by
 have h0 := PM.flat.1 h
 have h1 := Mem.setAt [BlockA b3 t.arr 43] (r := pmR b0 b1 c y tx X A B g pc pl ps bl bd S) (i := 1) h0 (.int .i64 c.kind)
 have h2 := Mem.setAt [BlockA b3 t.arr 43] (r := pmR b0 b1 c y tx X A B g pc pl ps bl bd S) (i := 2) h1 (.int .i64 c.tx)
 have h3 := Mem.setAt [BlockA b3 t.arr 43] (r := pmR b0 b1 c y tx X A B g pc pl ps bl bd S) (i := 3) h2 (.int .i64 c.att)
 have h4 := Mem.setAt [BlockA b3 t.arr 43] (r := pmR b0 b1 c y tx X A B g pc pl ps bl bd S) (i := 4) h3 (.int .i64 c.stamp)
 have h5 := Mem.setAt [BlockA b3 t.arr 43] (r := pmR b0 b1 c y tx X A B g pc pl ps bl bd S) (i := 5) h4 (.int .i64 c.op)
 have h6 := Mem.setAt [BlockA b3 t.arr 43] (r := pmR b0 b1 c y tx X A B g pc pl ps bl bd S) (i := 6) h5 (.string c.key)
 have h7 := Mem.setAt [BlockA b3 t.arr 43] (r := pmR b0 b1 c y tx X A B g pc pl ps bl bd S) (i := 7) h6 (.string c.value)
 have h8 := Mem.setAt [BlockA b3 t.arr 43] (r := pmR b0 b1 c y tx X A B g pc pl ps bl bd S) (i := 8) h7 (.int .i64 c.mode)
 have h9 := Mem.setAt [BlockA b3 t.arr 43] (r := pmR b0 b1 c y tx X A B g pc pl ps bl bd S) (i := 9) h8 (.bool c.yes)
 have e : ((((((((((Le.arr x).set! 1 (.int .i64 c.kind)).set! 2 (.int .i64 c.tx)).set! 3 (.int .i64 c.att)).set! 4 (.int .i64 c.stamp)).set! 5 (.int .i64 c.op)).set! 6 (.string c.key)).set! 7 (.string c.value)).set! 8 (.int .i64 c.mode)).set! 9 (.bool c.yes)) = Le.arr { x with last := c } := by
  obtain ⟨x1, ⟨a1, a2, a3, a4, a5, a6, a7, a8, a9⟩, x2, x3, x4, x5⟩ := x
  kernel_rfl
 rw [e] at h9
 exact PM.flat.2 h9
/-- x is stored: the shard is whole again. -/
theorem PM.store (h : PM w D b0 b1 b2 b3 c t x y tx X A B g pc pl ps bl bd S W) (htx : i64 tx) (hx : x.a = y.a ∧ x.n = y.n ∧ x.c = y.c ∧ x.ws = y.ws) (hA : ∀ p ∈ A, (intK (P := Tryz.prog) Tryz.underlying3).lt p.1 tx = true) (hB : ∀ p ∈ B, (intK (P := Tryz.prog) Tryz.underlying3).lt tx p.1 = true) (hn : (A ++ (tx, X) :: B).length ≤ 100000) :
  ∃ w', (Instr.mapUpdate 96 (.map (some bl)) (.int .i64 tx) x.val).run Tryz.prog W = .ok () w' ∧ XM w D b0 b1 b2 c zeroR x (shT g pc pl ps bl bd (kPut ltZ tx x (A ++ (tx, X) :: B)) S) w' := by
 have hrow : Le.row y = Le.row x := by unfold Le.row; rw [hx.1, hx.2.1, hx.2.2.1, hx.2.2.2]
 unfold PM at h
 rw [hrow] at h
 have h1 := Mem.drop [] (A := BlockA b3 t.arr 43) (r := (pmL b0 b1 b2 c x g pc pl ps bl bd S ++ pmM tx X A B bl) ++ Le.row x :: ((B.map fun p => Le.row p.2) ++ [KMapA (intK Tryz.underlying3) bd (dnV S.dones)])) h
 obtain ⟨w', r1, r2⟩ := Mem.krTurn (row := Le.row) (enc := Le.val) (pmL b0 b1 b2 c x g pc pl ps bl bd S) (r := [KMapA (intK Tryz.underlying3) bd (dnV S.dones)]) (ordI Tryz.underlying3) Tryz.underlying96 (x := tx) (e := X) (e' := x) (wf_i64 htx) hA hB (by unfold maxLen; omega) h1
 refine ⟨w', r1, ?_⟩
 have e2 : kPut ltZ tx x (A ++ (tx, X) :: B) = A ++ (tx, x) :: B := kPut_split (ordI (P := Tryz.prog) Tryz.underlying3) (v := X) (v' := x) hA hB
 rw [e2]
 exact r2
end
end Go.Proofs.YtmifgnibalbgjaaGreat
