/- The table of transactions is asked. -/
import Derived.Test.YtmifgnibalbgjaaGreatZM5
namespace Go.Proofs.YtmifgnibalbgjaaGreat
open Go.RowKit set_option linter.unusedVariables false set_option linter.unusedSimpArgs false
def stR (n : (Int × Int) × List Rw) : Rp := ⟨n.1.2, n.1.1, ⟨#[]⟩, false⟩
def tabM (S : Sh) (c : Cm) : Rp × Sh :=
 if c.kind = 1 then (stR (openM S.rows c.tx c.att c.stamp S.clock), { S with rows := (openM S.rows c.tx c.att c.stamp S.clock).2 })
 else if c.kind = 5 then (stR (decideM S.rows c.tx c.att), { S with rows := (decideM S.rows c.tx c.att).2 })
 else if c.kind = 6 then (stR (killM S.rows c.tx c.att S.clock), { S with rows := (killM S.rows c.tx c.att S.clock).2 })
 else (stR (beatM S.rows c.tx c.att S.clock), { S with rows := (beatM S.rows c.tx c.att S.clock).2 })
/-- the command, the reply told, the reply made, and the shard. -/
def TM (w : World) (D : List Nat) (b0 b1 b2 : Nat) (c : Cm) (r q : Rp) (L : List Asn) (W : World) : Prop :=
 Mem w D W (BlockA b2 q.arr 35 :: BlockA b1 r.arr 35 :: BlockA b0 c.arr 28 :: L)
section
variable {w W W' : World} {D : List Nat} {b0 b1 b2 : Nat} {c : Cm} {r q : Rp} {L : List Asn}
theorem TM.below [Stables L] (h : TM w D b0 b1 b2 c r q L W) (b : Below W.heap.size W W') : TM w D b0 b1 b2 c r q L W' := Mem.below h b
theorem TM.rest [Stables L] (h : TM w D b0 b1 b2 c r q L W) : Mem w D W L :=
 Mem.drop [] (A := BlockA b0 c.arr 28) (r := L) (Mem.drop [] (A := BlockA b1 r.arr 35) (r := BlockA b0 c.arr 28 :: L) (Mem.drop [] h))
theorem rat_of {b : Nat} (hr : W.heap[b]? = some (.cells r.arr 35 (0, 0))) : RAt W b r :=
 ⟨(cell_of_heap hr rfl).1, (cell_of_heap hr rfl).1, (cell_of_heap hr rfl).1, (cell_of_heap hr rfl).1, (cell_of_heap (i := 0) (v := .int .i64 r.code) hr rfl).2, (cell_of_heap (i := 1) (v := .int .i64 r.state) hr rfl).2, (cell_of_heap (i := 2) (v := .string r.v) hr rfl).2, (cell_of_heap (i := 3) (v := .bool r.h) hr rfl).2⟩
theorem TM.r2 [Stables L] (h : TM w D b0 b1 b2 c r q L W) : RAt W b2 q := rat_of (Mem.get [] h).choose_spec.2
theorem TM.r1 [Stables L] (h : TM w D b0 b1 b2 c r q L W) : RAt W b1 r := rat_of (Mem.get [BlockA b2 q.arr 35] (A := BlockA b1 r.arr 35) (r := BlockA b0 c.arr 28 :: L) h).choose_spec.2
theorem TM.hc [Stables L] (h : TM w D b0 b1 b2 c r q L W) : W.heap[b0]? = some (.cells c.arr 28 (0, 0)) :=
 (Mem.get [BlockA b2 q.arr 35, BlockA b1 r.arr 35] (A := BlockA b0 c.arr 28) (r := L) h).choose_spec.2
theorem TM.set2 [Stables L] (h : TM w D b0 b1 b2 c r q L W) (n m : Int) : TM w D b0 b1 b2 c r ⟨n, m, q.v, q.h⟩ L ((W.setCell ⟨b2, 1, none⟩ (.int .i64 m)).setCell ⟨b2, 0, none⟩ (.int .i64 n)) := by
 have h1 := Mem.setAt [] (r := BlockA b1 r.arr 35 :: BlockA b0 c.arr 28 :: L) (i := 1) h (.int .i64 m)
 exact Mem.setAt [] (r := BlockA b1 r.arr 35 :: BlockA b0 c.arr 28 :: L) (i := 0) h1 (.int .i64 n)
theorem TM.fin {g pc pl ps bl bd : Nat} {E : List (Int × Le)} {S S' : Sh} (h : TM w D b0 b1 b2 c r q (shT g pc pl ps bl bd E S) W) (e : lvE E = S'.lives) (hS : shT g pc pl ps bl bd E S = shT g pc pl ps bl bd E S') :
  ∀ W5, W5 = ((((W.setCell ⟨b1, 0, none⟩ (.int .i64 q.code)).setCell ⟨b1, 1, none⟩ (.int .i64 q.state)).setCell ⟨b1, 2, none⟩ (.string q.v)).setCell ⟨b1, 3, none⟩ (.bool q.h)) → RAt W5 b1 q ∧ CmPost w D g (q, S') (.returned q.val) W5 := by
 intro W5 hW5
 have h1 := Mem.setAt [BlockA b2 q.arr 35] (r := BlockA b0 c.arr 28 :: shT g pc pl ps bl bd E S) (i := 0) h (.int .i64 q.code)
 have h2 := Mem.setAt [BlockA b2 q.arr 35] (r := BlockA b0 c.arr 28 :: shT g pc pl ps bl bd E S) (i := 1) h1 (.int .i64 q.state)
 have h3 := Mem.setAt [BlockA b2 q.arr 35] (r := BlockA b0 c.arr 28 :: shT g pc pl ps bl bd E S) (i := 2) h2 (.string q.v)
 have h4 : TM w D b0 b1 b2 c q q (shT g pc pl ps bl bd E S) _ := Mem.setAt [BlockA b2 q.arr 35] (r := BlockA b0 c.arr 28 :: shT g pc pl ps bl bd E S) (i := 3) h3 (.bool q.h)
 rw [← hW5] at h4
 have h5 := TM.rest h4
 rw [hS] at h5
 exact ⟨TM.r1 h4, rfl, Mem.shShut S' e h5⟩
theorem TM.st {g pc pl ps bl bd : Nat} {E : List (Int × Le)} {S : Sh} (h : TM w D b0 b1 b2 c r q (shT g pc pl ps bl bd E S) W) {f : Nat} {args : Array Value} {x : (Int × Int) × List Rw} (hc : ∀ D', StA ps S.rows W D' → Calls Tryz.prog f args W (StPost W D' ps x)) :
  Calls Tryz.prog f args W fun e w' => e = .returned (.tuple #[.int .i64 x.1.1, .int .i64 x.1.2]) ∧ TM w D b0 b1 b2 c r q (shT g pc pl ps bl bd E { S with rows := x.2 }) w' := by
 have h1 := Mem.perm h (List.perm_middle (l₁ := [BlockA b2 q.arr 35, BlockA b1 r.arr 35, BlockA b0 c.arr 28, shB g S pc pl ps bl bd, CellsA pc S.cells S.clast, TabA pl S.locks]) (a := StA ps S.rows) (l₂ := [KRowsA (intK Tryz.underlying3) Le.val Le.row bl E, KMapA (intK Tryz.underlying3) bd (dnV S.dones)]))
 refine (Mem.head h1 (Q := fun e => e = .returned (.tuple #[.int .i64 x.1.1, .int .i64 x.1.2])) (B := fun _ => [StA ps x.2]) (fun D' hD' => hc D' hD')).mono fun e w' ⟨he, hm⟩ => ⟨he, ?_⟩
 exact Mem.perm hm (List.perm_middle (l₁ := [BlockA b2 q.arr 35, BlockA b1 r.arr 35, BlockA b0 c.arr 28, shB g S pc pl ps bl bd, CellsA pc S.cells S.clast, TabA pl S.locks]) (a := StA ps x.2) (l₂ := [KRowsA (intK Tryz.underlying3) Le.val Le.row bl E, KMapA (intK Tryz.underlying3) bd (dnV S.dones)])).symm
end
set_option maxRecDepth 100000 in
set_option maxHeartbeats 8000000 in
theorem table_open (g : Nat) (S : Sh) (c : Cm) (w : World) {D : List Nat} (h : ShA g S w D) (htx : i64 c.tx) (hk : c.kind = 1) (hl : Rises S.rows) (hn : S.rows.length ≤ 1000) :
  Calls Tryz.prog 37 #[.pointer (some ⟨g, 0, none⟩), c.val] w (CmPost w D g (tabM S c)) := by
 obtain ⟨pc, pl, ps, bl, bd, E, e, M⟩ := Mem.shOpen (Mem.start h)
 obtain ⟨k, tx, att, stamp, op, key, value, mode, yes⟩ := c
 simp only at hk
 subst hk
 try simp only at htx
 have hm : tabM S ⟨1, tx, att, stamp, op, key, value, mode, yes⟩ = (stR (openM S.rows tx att stamp S.clock), { S with rows := (openM S.rows tx att stamp S.clock).2 }) := rfl
 rw [hm]
 have HX0 : Hid (TM w D w.heap.size (w.heap.size + 1) (w.heap.size + 2) ⟨1, tx, att, stamp, op, key, value, mode, yes⟩ zeroR zeroR (shT g pc pl ps bl bd E S) (((w.alloc (.cells #[.int .i64 1, .int .i64 tx, .int .i64 att, .int .i64 stamp, .int .i64 op, .string key, .string value, .int .i64 mode, .bool yes] 28)).alloc (.cells #[.int .i64 0, .int .i64 0, .string ⟨#[]⟩, .bool false] 35)).alloc (.cells #[.int .i64 0, .int .i64 0, .string ⟨#[]⟩, .bool false] 35))) := Lib.hid (by
  have h := ((M.block (Cm.arr ⟨1, tx, att, stamp, op, key, value, mode, yes⟩) 28).block zeroR.arr 35).block zeroR.arr 35
  rw [show ((w.alloc (.cells (Cm.arr ⟨1, tx, att, stamp, op, key, value, mode, yes⟩) 28)).alloc (.cells zeroR.arr 35)).heap.size = w.heap.size + 2 by simp, show (w.alloc (.cells (Cm.arr ⟨1, tx, att, stamp, op, key, value, mode, yes⟩) 28)).heap.size = w.heap.size + 1 by simp] at h
  exact h)
 have HCT := Lib.hid fun (W : World) (D' : List Nat) (hD' : StA ps S.rows W D') => st_open ps S.rows tx att stamp S.clock W hD' hl hn
 generalize openM S.rows tx att stamp S.clock = pp at HCT ⊢
 obtain ⟨⟨p1, p2⟩, pl2⟩ := pp
 try simp only at HCT
 clear hm M h
 go_enter Tryz.func37, Tryz.ntmps37
 go_wp2_with fail
 obtain ⟨w1, hw1⟩ : ∃ w1, w1 = ((w.alloc (.cells #[.int .i64 1, .int .i64 tx, .int .i64 att, .int .i64 stamp, .int .i64 op, .string key, .string value, .int .i64 mode, .bool yes] 28)).alloc (.cells #[.int .i64 0, .int .i64 0, .string ⟨#[]⟩, .bool false] 35)).alloc (.cells #[.int .i64 0, .int .i64 0, .string ⟨#[]⟩, .bool false] 35) := ⟨_, rfl⟩
 rw [← hw1] at HX0 ⊢
 clear hw1
 have HXD := TM.below HX0.out (bel_drew w1)
 have HST := Lib.hid ((TM.st HXD (f := 84) (args := #[.pointer (some ⟨ps, 0, none⟩), .int .i64 tx, .int .i64 att, .int .i64 stamp, .int .i64 S.clock]) (x := ((p1, p2), pl2)) (fun D' hD' => HCT.out _ D' hD')).mono
  (R' := fun e' w' => e' = .returned (.tuple #[.int .i64 p1, .int .i64 p2]) ∧ RAt w' (w.heap.size + 2) zeroR ∧ (w'.cell? ⟨g, 4, none⟩ = some (.pointer (some ⟨ps, 0, none⟩)) ∧ w'.cell? ⟨g, 0, none⟩ = some (.int .i64 S.clock) ∧ w'.cell? ⟨w.heap.size, 1, none⟩ = some (.int .i64 tx) ∧ w'.cell? ⟨w.heap.size, 2, none⟩ = some (.int .i64 att) ∧ w'.cell? ⟨w.heap.size, 3, none⟩ = some (.int .i64 stamp)) ∧ TM w D w.heap.size (w.heap.size + 1) (w.heap.size + 2) ⟨1, tx, att, stamp, op, key, value, mode, yes⟩ zeroR zeroR (shT g pc pl ps bl bd E { S with rows := pl2 }) w') (fun e' w' ⟨he, hm⟩ => by
   have hA := Mem.shAt (TM.rest hm) htx
   have hc := hm.hc
   exact ⟨he, TM.r2 hm, ⟨hA.c4, hA.c0, (cell_of_heap hc rfl).1, (cell_of_heap hc rfl).1, (cell_of_heap hc rfl).1⟩, hm⟩))
 have hA := Mem.shAt (TM.rest HX0.out) htx
 have hc := HX0.out.hc
 have hS0 : w1.drew.cell? ⟨g, 4, none⟩ = some (.pointer (some ⟨ps, 0, none⟩)) ∧ w1.drew.cell? ⟨g, 0, none⟩ = some (.int .i64 S.clock) ∧ w1.drew.cell? ⟨w.heap.size, 1, none⟩ = some (.int .i64 tx) ∧ w1.drew.cell? ⟨w.heap.size, 2, none⟩ = some (.int .i64 att) ∧ w1.drew.cell? ⟨w.heap.size, 3, none⟩ = some (.int .i64 stamp) := ⟨hA.c4, hA.c0, (cell_of_heap hc rfl).1, (cell_of_heap hc rfl).1, (cell_of_heap hc rfl).1⟩
 have HR : Hid (∀ W, TM w D w.heap.size (w.heap.size + 1) (w.heap.size + 2) ⟨1, tx, att, stamp, op, key, value, mode, yes⟩ zeroR ⟨p2, p1, ⟨#[]⟩, false⟩ (shT g pc pl ps bl bd E { S with rows := pl2 }) W → ∀ W5, W5 = ((((W.setCell ⟨w.heap.size + 1, 0, none⟩ (.int .i64 p2)).setCell ⟨w.heap.size + 1, 1, none⟩ (.int .i64 p1)).setCell ⟨w.heap.size + 1, 2, none⟩ (.string ⟨#[]⟩)).setCell ⟨w.heap.size + 1, 3, none⟩ (.bool false)) → RAt W5 (w.heap.size + 1) ⟨p2, p1, ⟨#[]⟩, false⟩ ∧ CmPost w D g (stR ((p1, p2), pl2), { S with rows := pl2 }) (.returned (.agg #[.int .i64 p2, .int .i64 p1, .string ⟨#[]⟩, .bool false])) W5) := Lib.hid fun W hW => TM.fin (q := (⟨p2, p1, ⟨#[]⟩, false⟩ : Rp)) (S' := { S with rows := pl2 }) hW e rfl
 clear hA hc HXD HX0
 refine wp_region_till (fun W => W.cell? ⟨g, 4, none⟩ = some (.pointer (some ⟨ps, 0, none⟩)) ∧ W.cell? ⟨g, 0, none⟩ = some (.int .i64 S.clock) ∧ W.cell? ⟨w.heap.size, 1, none⟩ = some (.int .i64 tx) ∧ W.cell? ⟨w.heap.size, 2, none⟩ = some (.int .i64 att) ∧ W.cell? ⟨w.heap.size, 3, none⟩ = some (.int .i64 stamp)) 21 (by kernel_rfl) (hS0) (fun hM hS => ?_)
 refine till_op (v := ?_) 0 [1, 2, 3, 14, 15, 16, 18, 19, 20] hM rfl (by kernel_rfl) (by kernel_rfl) (by kernel_rfl) (by kernel_rfl) rfl (fun _ _ _ h => h) (Or.inl ⟨by rfl, ?_⟩) hS (fun hM => ?_)
 rotate_left
 ·intro W hSw
  (try dsimp only at hSw)
  go_simp
  try with_reducible rfl
 try simp only [Act.put, List.setIfInBounds_toArray, List.set_cons_zero, List.set_cons_succ]
 refine till_op (v := ?_) 1 [2, 3, 14, 15, 16, 18, 19, 20] hM rfl (by kernel_rfl) (by kernel_rfl) (by kernel_rfl) (by kernel_rfl) rfl (fun _ _ _ h => h) (Or.inl ⟨by rfl, ?_⟩) hS (fun hM => ?_)
 rotate_left
 ·intro W hSw
  (try dsimp only at hSw)
  go_simp
  try with_reducible rfl
 try simp only [Act.put, List.setIfInBounds_toArray, List.set_cons_zero, List.set_cons_succ]
 refine till_op (v := ?_) 2 [3, 14, 15, 16, 18, 19, 20] hM rfl (by kernel_rfl) (by kernel_rfl) (by kernel_rfl) (by kernel_rfl) rfl (fun _ _ _ h => h) (Or.inl ⟨by rfl, ?_⟩) hS (fun hM => ?_)
 rotate_left
 ·intro W hSw
  (try dsimp only at hSw)
  go_simp
  try with_reducible rfl
 try simp only [Act.put, List.setIfInBounds_toArray, List.set_cons_zero, List.set_cons_succ]
 refine till_op (v := ?_) 3 [14, 15, 16, 18, 19, 20] hM rfl (by kernel_rfl) (by kernel_rfl) (by kernel_rfl) (by kernel_rfl) rfl (fun _ _ _ h => h) (Or.inl ⟨by rfl, ?_⟩) hS (fun hM => ?_)
 rotate_left
 ·intro W hSw
  (try dsimp only at hSw)
  go_simp
  try with_reducible rfl
 try simp only [Act.put, List.setIfInBounds_toArray, List.set_cons_zero, List.set_cons_succ]
 refine till_op (v := ?_) 4 [5, 14, 15, 16, 18, 19, 20] hM rfl (by kernel_rfl) (by kernel_rfl) (by kernel_rfl) (by kernel_rfl) rfl (fun _ _ _ h => h) (Or.inl ⟨by rfl, ?_⟩) hS (fun hM => ?_)
 rotate_left
 ·intro W hSw
  (try dsimp only at hSw)
  go_simp
  try with_reducible rfl
 try simp only [Act.put, List.setIfInBounds_toArray, List.set_cons_zero, List.set_cons_succ]
 refine till_op (v := ?_) 5 [14, 15, 16, 18, 19, 20] hM rfl (by kernel_rfl) (by kernel_rfl) (by kernel_rfl) (by kernel_rfl) rfl (fun _ _ _ h => h) (Or.inl ⟨by rfl, ?_⟩) hS (fun hM => ?_)
 rotate_left
 ·intro W hSw
  (try dsimp only at hSw)
  go_simp
  try with_reducible rfl
 try simp only [Act.put, List.setIfInBounds_toArray, List.set_cons_zero, List.set_cons_succ]
 refine till_op (v := ?_) 6 [7, 14, 15, 16, 18, 19, 20] hM rfl (by kernel_rfl) (by kernel_rfl) (by kernel_rfl) (by kernel_rfl) rfl (fun _ _ _ h => h) (Or.inl ⟨by rfl, ?_⟩) hS (fun hM => ?_)
 rotate_left
 ·intro W hSw
  (try dsimp only at hSw)
  go_simp
  try with_reducible rfl
 try simp only [Act.put, List.setIfInBounds_toArray, List.set_cons_zero, List.set_cons_succ]
 refine till_op (v := ?_) 7 [14, 15, 16, 18, 19, 20] hM rfl (by kernel_rfl) (by kernel_rfl) (by kernel_rfl) (by kernel_rfl) rfl (fun _ _ _ h => h) (Or.inl ⟨by rfl, ?_⟩) hS (fun hM => ?_)
 rotate_left
 ·intro W hSw
  (try dsimp only at hSw)
  go_simp
  try with_reducible rfl
 try simp only [Act.put, List.setIfInBounds_toArray, List.set_cons_zero, List.set_cons_succ]
 refine till_op (v := ?_) 8 [9, 14, 15, 16, 18, 19, 20] hM rfl (by kernel_rfl) (by kernel_rfl) (by kernel_rfl) (by kernel_rfl) rfl (fun _ _ _ h => h) (Or.inl ⟨by rfl, ?_⟩) hS (fun hM => ?_)
 rotate_left
 ·intro W hSw
  (try dsimp only at hSw)
  go_simp
  try with_reducible rfl
 try simp only [Act.put, List.setIfInBounds_toArray, List.set_cons_zero, List.set_cons_succ]
 refine till_op (v := ?_) 9 [14, 15, 16, 18, 19, 20] hM rfl (by kernel_rfl) (by kernel_rfl) (by kernel_rfl) (by kernel_rfl) rfl (fun _ _ _ h => h) (Or.inl ⟨by rfl, ?_⟩) hS (fun hM => ?_)
 rotate_left
 ·intro W hSw
  (try dsimp only at hSw)
  go_simp
  try with_reducible rfl
 try simp only [Act.put, List.setIfInBounds_toArray, List.set_cons_zero, List.set_cons_succ]
 refine till_op (v := ?_) 10 [11, 12, 13, 14, 15, 16, 18, 19, 20] hM rfl (by kernel_rfl) (by kernel_rfl) (by kernel_rfl) (by kernel_rfl) rfl (fun _ _ _ h => h) (Or.inl ⟨by rfl, ?_⟩) hS (fun hM => ?_)
 rotate_left
 ·intro W hSw
  (try dsimp only at hSw)
  go_simp
  try with_reducible rfl
 try simp only [Act.put, List.setIfInBounds_toArray, List.set_cons_zero, List.set_cons_succ]
 refine till_op (v := ?_) 11 [12, 13, 14, 15, 16, 18, 19, 20] hM rfl (by kernel_rfl) (by kernel_rfl) (by kernel_rfl) (by kernel_rfl) rfl (fun _ _ _ h => h) (Or.inl ⟨by rfl, ?_⟩) hS (fun hM => ?_)
 rotate_left
 ·intro W hSw
  (try dsimp only at hSw)
  go_simp
  try with_reducible rfl
 try simp only [Act.put, List.setIfInBounds_toArray, List.set_cons_zero, List.set_cons_succ]
 refine till_op (v := ?_) 12 [13, 14, 15, 16, 18, 19, 20] hM rfl (by kernel_rfl) (by kernel_rfl) (by kernel_rfl) (by kernel_rfl) rfl (fun _ _ _ h => h) (Or.inl ⟨by rfl, ?_⟩) hS (fun hM => ?_)
 rotate_left
 ·intro W hSw
  (try dsimp only at hSw)
  go_simp
  try with_reducible rfl
 try simp only [Act.put, List.setIfInBounds_toArray, List.set_cons_zero, List.set_cons_succ]
 refine till_op (v := ?_) 13 [14, 15, 16, 18, 19, 20] hM rfl (by kernel_rfl) (by kernel_rfl) (by kernel_rfl) (by kernel_rfl) rfl (fun _ _ _ h => h) (Or.inl ⟨by rfl, ?_⟩) hS (fun hM => ?_)
 rotate_left
 ·intro W hSw
  (try dsimp only at hSw)
  go_simp
  try with_reducible rfl
 try simp only [Act.put, List.setIfInBounds_toArray, List.set_cons_zero, List.set_cons_succ]
 refine till_one 14 hM rfl (by kernel_rfl) (fun K hK => ?_)
 go_simp
 go_at_call 84
 refine HST.out.mono ?_
 rintro e w5 ⟨rfl, ⟨c0, c1, c2, c3, f0, f1, f2, f3⟩, hS5, hM5⟩
 simp only [zeroR] at c0 c1 c2 c3
 refine hK _ _ (fun _ => hS5) (fun hM => ?_)
 have hS := hS5
 clear hK K
 try simp only [Act.put, List.setIfInBounds_toArray, List.set_cons_zero, List.set_cons_succ]
 refine till_op (v := ?_) 15 [16, 18, 19, 20] hM rfl (by kernel_rfl) (by kernel_rfl) (by kernel_rfl) (by kernel_rfl) rfl (fun _ _ _ h => h) (Or.inl ⟨by rfl, ?_⟩) hS (fun hM => ?_)
 rotate_left
 ·intro W hSw
  (try dsimp only at hSw)
  go_simp
  try with_reducible rfl
 try simp only [Act.put, List.setIfInBounds_toArray, List.set_cons_zero, List.set_cons_succ]
 refine till_op (v := ?_) 16 [18, 19, 20] hM rfl (by kernel_rfl) (by kernel_rfl) (by kernel_rfl) (by kernel_rfl) rfl (fun _ _ _ h => h) (Or.inl ⟨by rfl, ?_⟩) hS (fun hM => ?_)
 rotate_left
 ·intro W hSw
  (try dsimp only at hSw)
  go_simp
  try with_reducible rfl
 try simp only [Act.put, List.setIfInBounds_toArray, List.set_cons_zero, List.set_cons_succ]
 refine till_op (v := ?_) 17 [20] hM rfl (by kernel_rfl) (by kernel_rfl) (by kernel_rfl) (by kernel_rfl) rfl (fun _ _ _ h => h) (Or.inl ⟨by rfl, ?_⟩) hS (fun hM => ?_)
 rotate_left
 ·intro W hSw
  (try dsimp only at hSw)
  go_simp
  try with_reducible rfl
 try simp only [Act.put, List.setIfInBounds_toArray, List.set_cons_zero, List.set_cons_succ]
 refine till_op (v := ?_) 18 [19, 20] hM rfl (by kernel_rfl) (by kernel_rfl) (by kernel_rfl) (by kernel_rfl) rfl (fun _ _ _ h => h) (Or.inl ⟨by rfl, ?_⟩) hS (fun hM => ?_)
 rotate_left
 ·intro W hSw
  (try dsimp only at hSw)
  go_simp
  try with_reducible rfl
 try simp only [Act.put, List.setIfInBounds_toArray, List.set_cons_zero, List.set_cons_succ]
 have hM6 := TM.set2 hM5 p2 p1
 have HM4 : Hid (TM w D w.heap.size (w.heap.size + 1) (w.heap.size + 2) ⟨1, tx, att, stamp, op, key, value, mode, yes⟩ zeroR ⟨p2, p1, ⟨#[]⟩, false⟩ (shT g pc pl ps bl bd E { S with rows := pl2 }) _) := Lib.hid hM6
 have h51 := Mem.setAt [] (i := 1) hM5 (.int .i64 p1)
 have hSA := Mem.shAt (TM.rest (q := ⟨0, p1, ⟨#[]⟩, false⟩) h51) htx
 have hSC := TM.hc (q := ⟨0, p1, ⟨#[]⟩, false⟩) h51
 have hS6 : (w5.setCell ⟨w.heap.size + 2, 1, none⟩ (.int .i64 p1)).cell? ⟨g, 4, none⟩ = some (.pointer (some ⟨ps, 0, none⟩)) ∧ (w5.setCell ⟨w.heap.size + 2, 1, none⟩ (.int .i64 p1)).cell? ⟨g, 0, none⟩ = some (.int .i64 S.clock) ∧ (w5.setCell ⟨w.heap.size + 2, 1, none⟩ (.int .i64 p1)).cell? ⟨w.heap.size, 1, none⟩ = some (.int .i64 tx) ∧ (w5.setCell ⟨w.heap.size + 2, 1, none⟩ (.int .i64 p1)).cell? ⟨w.heap.size, 2, none⟩ = some (.int .i64 att) ∧ (w5.setCell ⟨w.heap.size + 2, 1, none⟩ (.int .i64 p1)).cell? ⟨w.heap.size, 3, none⟩ = some (.int .i64 stamp) := ⟨hSA.c4, hSA.c0, (cell_of_heap hSC rfl).1, (cell_of_heap hSC rfl).1, (cell_of_heap hSC rfl).1⟩
 clear hM6 h51 hSA hSC hM5
 refine till_one 19 hM rfl (by kernel_rfl) (fun K hK => ?_)
 go_simp
 refine hK _ _ (fun _ => hS6) (fun hM => ?_)
 have hS := hS6
 clear hK K
 try simp only [Act.put, List.setIfInBounds_toArray, List.set_cons_zero, List.set_cons_succ]
 refine till_one 20 hM rfl (by kernel_rfl) (fun K hK => ?_)
 go_simp
 refine hK _ _ (fun _ => hS6) (fun hM => ?_)
 have hS := hS6
 clear hK K
 try simp only [Act.put, List.setIfInBounds_toArray, List.set_cons_zero, List.set_cons_succ]
 refine till_one 21 hM rfl (by kernel_rfl) (fun K hK => ?_)
 go_simp
 refine hK _ _ (fun h => absurd rfl h) (fun hM => ?_)
 clear hK K
 try simp only [Act.put, List.setIfInBounds_toArray, List.set_cons_zero, List.set_cons_succ]
 refine till_done (by kernel_rfl) ?_ _
 generalize hW4 : (w5.setCell ⟨w.heap.size + 2, 1, none⟩ (.int .i64 p1)).setCell ⟨w.heap.size + 2, 0, none⟩ (.int .i64 p2) = W4 at *
 clear hW4
 have hq := HM4.out
 obtain ⟨c0, c1, c2, c3, -, -, -, -⟩ := TM.r2 hq
 obtain ⟨d0, d1, d2, d3, f0, f1, f2, f3⟩ := TM.r1 hq
 simp only [zeroR] at d0 d1 d2 d3 c0 c1 c2 c3
 have HEND := Lib.hid (HR.out _ hq)
 clear HM4 hq HR
 go_wp2_with fail
 obtain ⟨W5, hW5⟩ : ∃ W5, W5 = ((((W4.setCell ⟨w.heap.size + 1, 0, none⟩ (.int .i64 p2)).setCell ⟨w.heap.size + 1, 1, none⟩ (.int .i64 p1)).setCell ⟨w.heap.size + 1, 2, none⟩ (.string ⟨#[]⟩)).setCell ⟨w.heap.size + 1, 3, none⟩ (.bool false)) := ⟨_, rfl⟩
 rw [← hW5]
 obtain ⟨⟨v0, v1, v2, v3, -, -, -, -⟩, hR⟩ := HEND.out W5 hW5
 simp only at v0 v1 v2 v3
 clear hW5
 refine bodyPost_ret (by simp [results, Tryz.results37, go_sem, v0, v1, v2, v3]; try rfl) rfl ?_
 exact hR
set_option maxRecDepth 100000 in
set_option maxHeartbeats 8000000 in
theorem table_decide (g : Nat) (S : Sh) (c : Cm) (w : World) {D : List Nat} (h : ShA g S w D) (htx : i64 c.tx) (hk : c.kind = 5) (hl : Rises S.rows) (hn : S.rows.length ≤ 1000) :
  Calls Tryz.prog 37 #[.pointer (some ⟨g, 0, none⟩), c.val] w (CmPost w D g (tabM S c)) := by
 obtain ⟨pc, pl, ps, bl, bd, E, e, M⟩ := Mem.shOpen (Mem.start h)
 obtain ⟨k, tx, att, stamp, op, key, value, mode, yes⟩ := c
 simp only at hk
 subst hk
 try simp only at htx
 have hm : tabM S ⟨5, tx, att, stamp, op, key, value, mode, yes⟩ = (stR (decideM S.rows tx att), { S with rows := (decideM S.rows tx att).2 }) := rfl
 rw [hm]
 have HX0 : Hid (TM w D w.heap.size (w.heap.size + 1) (w.heap.size + 2) ⟨5, tx, att, stamp, op, key, value, mode, yes⟩ zeroR zeroR (shT g pc pl ps bl bd E S) (((w.alloc (.cells #[.int .i64 5, .int .i64 tx, .int .i64 att, .int .i64 stamp, .int .i64 op, .string key, .string value, .int .i64 mode, .bool yes] 28)).alloc (.cells #[.int .i64 0, .int .i64 0, .string ⟨#[]⟩, .bool false] 35)).alloc (.cells #[.int .i64 0, .int .i64 0, .string ⟨#[]⟩, .bool false] 35))) := Lib.hid (by
  have h := ((M.block (Cm.arr ⟨5, tx, att, stamp, op, key, value, mode, yes⟩) 28).block zeroR.arr 35).block zeroR.arr 35
  rw [show ((w.alloc (.cells (Cm.arr ⟨5, tx, att, stamp, op, key, value, mode, yes⟩) 28)).alloc (.cells zeroR.arr 35)).heap.size = w.heap.size + 2 by simp, show (w.alloc (.cells (Cm.arr ⟨5, tx, att, stamp, op, key, value, mode, yes⟩) 28)).heap.size = w.heap.size + 1 by simp] at h
  exact h)
 have HCT := Lib.hid fun (W : World) (D' : List Nat) (hD' : StA ps S.rows W D') => st_decide ps S.rows tx att W hD' hl hn
 generalize decideM S.rows tx att = pp at HCT ⊢
 obtain ⟨⟨p1, p2⟩, pl2⟩ := pp
 try simp only at HCT
 clear hm M h
 go_enter Tryz.func37, Tryz.ntmps37
 go_wp2_with fail
 obtain ⟨w1, hw1⟩ : ∃ w1, w1 = ((w.alloc (.cells #[.int .i64 5, .int .i64 tx, .int .i64 att, .int .i64 stamp, .int .i64 op, .string key, .string value, .int .i64 mode, .bool yes] 28)).alloc (.cells #[.int .i64 0, .int .i64 0, .string ⟨#[]⟩, .bool false] 35)).alloc (.cells #[.int .i64 0, .int .i64 0, .string ⟨#[]⟩, .bool false] 35) := ⟨_, rfl⟩
 rw [← hw1] at HX0 ⊢
 clear hw1
 have HXD := TM.below HX0.out (bel_drew w1)
 have HST := Lib.hid ((TM.st HXD (f := 85) (args := #[.pointer (some ⟨ps, 0, none⟩), .int .i64 tx, .int .i64 att]) (x := ((p1, p2), pl2)) (fun D' hD' => HCT.out _ D' hD')).mono
  (R' := fun e' w' => e' = .returned (.tuple #[.int .i64 p1, .int .i64 p2]) ∧ RAt w' (w.heap.size + 2) zeroR ∧ (w'.cell? ⟨g, 4, none⟩ = some (.pointer (some ⟨ps, 0, none⟩)) ∧ w'.cell? ⟨g, 0, none⟩ = some (.int .i64 S.clock) ∧ w'.cell? ⟨w.heap.size, 1, none⟩ = some (.int .i64 tx) ∧ w'.cell? ⟨w.heap.size, 2, none⟩ = some (.int .i64 att) ∧ w'.cell? ⟨w.heap.size, 3, none⟩ = some (.int .i64 stamp)) ∧ TM w D w.heap.size (w.heap.size + 1) (w.heap.size + 2) ⟨5, tx, att, stamp, op, key, value, mode, yes⟩ zeroR zeroR (shT g pc pl ps bl bd E { S with rows := pl2 }) w') (fun e' w' ⟨he, hm⟩ => by
   have hA := Mem.shAt (TM.rest hm) htx
   have hc := hm.hc
   exact ⟨he, TM.r2 hm, ⟨hA.c4, hA.c0, (cell_of_heap hc rfl).1, (cell_of_heap hc rfl).1, (cell_of_heap hc rfl).1⟩, hm⟩))
 have hA := Mem.shAt (TM.rest HX0.out) htx
 have hc := HX0.out.hc
 have hS0 : w1.drew.cell? ⟨g, 4, none⟩ = some (.pointer (some ⟨ps, 0, none⟩)) ∧ w1.drew.cell? ⟨g, 0, none⟩ = some (.int .i64 S.clock) ∧ w1.drew.cell? ⟨w.heap.size, 1, none⟩ = some (.int .i64 tx) ∧ w1.drew.cell? ⟨w.heap.size, 2, none⟩ = some (.int .i64 att) ∧ w1.drew.cell? ⟨w.heap.size, 3, none⟩ = some (.int .i64 stamp) := ⟨hA.c4, hA.c0, (cell_of_heap hc rfl).1, (cell_of_heap hc rfl).1, (cell_of_heap hc rfl).1⟩
 have HR : Hid (∀ W, TM w D w.heap.size (w.heap.size + 1) (w.heap.size + 2) ⟨5, tx, att, stamp, op, key, value, mode, yes⟩ zeroR ⟨p2, p1, ⟨#[]⟩, false⟩ (shT g pc pl ps bl bd E { S with rows := pl2 }) W → ∀ W5, W5 = ((((W.setCell ⟨w.heap.size + 1, 0, none⟩ (.int .i64 p2)).setCell ⟨w.heap.size + 1, 1, none⟩ (.int .i64 p1)).setCell ⟨w.heap.size + 1, 2, none⟩ (.string ⟨#[]⟩)).setCell ⟨w.heap.size + 1, 3, none⟩ (.bool false)) → RAt W5 (w.heap.size + 1) ⟨p2, p1, ⟨#[]⟩, false⟩ ∧ CmPost w D g (stR ((p1, p2), pl2), { S with rows := pl2 }) (.returned (.agg #[.int .i64 p2, .int .i64 p1, .string ⟨#[]⟩, .bool false])) W5) := Lib.hid fun W hW => TM.fin (q := (⟨p2, p1, ⟨#[]⟩, false⟩ : Rp)) (S' := { S with rows := pl2 }) hW e rfl
 clear hA hc HXD HX0
 refine wp_region_till (fun W => W.cell? ⟨g, 4, none⟩ = some (.pointer (some ⟨ps, 0, none⟩)) ∧ W.cell? ⟨g, 0, none⟩ = some (.int .i64 S.clock) ∧ W.cell? ⟨w.heap.size, 1, none⟩ = some (.int .i64 tx) ∧ W.cell? ⟨w.heap.size, 2, none⟩ = some (.int .i64 att) ∧ W.cell? ⟨w.heap.size, 3, none⟩ = some (.int .i64 stamp)) 15 (by kernel_rfl) (hS0) (fun hM hS => ?_)
 refine till_op (v := ?_) 0 [1, 2, 3, 8, 9, 10, 12, 13, 14] hM rfl (by kernel_rfl) (by kernel_rfl) (by kernel_rfl) (by kernel_rfl) rfl (fun _ _ _ h => h) (Or.inl ⟨by rfl, ?_⟩) hS (fun hM => ?_)
 rotate_left
 ·intro W hSw
  (try dsimp only at hSw)
  go_simp
  try with_reducible rfl
 try simp only [Act.put, List.setIfInBounds_toArray, List.set_cons_zero, List.set_cons_succ]
 refine till_op (v := ?_) 1 [2, 3, 8, 9, 10, 12, 13, 14] hM rfl (by kernel_rfl) (by kernel_rfl) (by kernel_rfl) (by kernel_rfl) rfl (fun _ _ _ h => h) (Or.inl ⟨by rfl, ?_⟩) hS (fun hM => ?_)
 rotate_left
 ·intro W hSw
  (try dsimp only at hSw)
  go_simp
  try with_reducible rfl
 try simp only [Act.put, List.setIfInBounds_toArray, List.set_cons_zero, List.set_cons_succ]
 refine till_op (v := ?_) 2 [3, 8, 9, 10, 12, 13, 14] hM rfl (by kernel_rfl) (by kernel_rfl) (by kernel_rfl) (by kernel_rfl) rfl (fun _ _ _ h => h) (Or.inl ⟨by rfl, ?_⟩) hS (fun hM => ?_)
 rotate_left
 ·intro W hSw
  (try dsimp only at hSw)
  go_simp
  try with_reducible rfl
 try simp only [Act.put, List.setIfInBounds_toArray, List.set_cons_zero, List.set_cons_succ]
 refine till_op (v := ?_) 3 [8, 9, 10, 12, 13, 14] hM rfl (by kernel_rfl) (by kernel_rfl) (by kernel_rfl) (by kernel_rfl) rfl (fun _ _ _ h => h) (Or.inl ⟨by rfl, ?_⟩) hS (fun hM => ?_)
 rotate_left
 ·intro W hSw
  (try dsimp only at hSw)
  go_simp
  try with_reducible rfl
 try simp only [Act.put, List.setIfInBounds_toArray, List.set_cons_zero, List.set_cons_succ]
 refine till_op (v := ?_) 4 [5, 8, 9, 10, 12, 13, 14] hM rfl (by kernel_rfl) (by kernel_rfl) (by kernel_rfl) (by kernel_rfl) rfl (fun _ _ _ h => h) (Or.inl ⟨by rfl, ?_⟩) hS (fun hM => ?_)
 rotate_left
 ·intro W hSw
  (try dsimp only at hSw)
  go_simp
  try with_reducible rfl
 try simp only [Act.put, List.setIfInBounds_toArray, List.set_cons_zero, List.set_cons_succ]
 refine till_op (v := ?_) 5 [8, 9, 10, 12, 13, 14] hM rfl (by kernel_rfl) (by kernel_rfl) (by kernel_rfl) (by kernel_rfl) rfl (fun _ _ _ h => h) (Or.inl ⟨by rfl, ?_⟩) hS (fun hM => ?_)
 rotate_left
 ·intro W hSw
  (try dsimp only at hSw)
  go_simp
  try with_reducible rfl
 try simp only [Act.put, List.setIfInBounds_toArray, List.set_cons_zero, List.set_cons_succ]
 refine till_op (v := ?_) 6 [7, 8, 9, 10, 12, 13, 14] hM rfl (by kernel_rfl) (by kernel_rfl) (by kernel_rfl) (by kernel_rfl) rfl (fun _ _ _ h => h) (Or.inl ⟨by rfl, ?_⟩) hS (fun hM => ?_)
 rotate_left
 ·intro W hSw
  (try dsimp only at hSw)
  go_simp
  try with_reducible rfl
 try simp only [Act.put, List.setIfInBounds_toArray, List.set_cons_zero, List.set_cons_succ]
 refine till_op (v := ?_) 7 [8, 9, 10, 12, 13, 14] hM rfl (by kernel_rfl) (by kernel_rfl) (by kernel_rfl) (by kernel_rfl) rfl (fun _ _ _ h => h) (Or.inl ⟨by rfl, ?_⟩) hS (fun hM => ?_)
 rotate_left
 ·intro W hSw
  (try dsimp only at hSw)
  go_simp
  try with_reducible rfl
 try simp only [Act.put, List.setIfInBounds_toArray, List.set_cons_zero, List.set_cons_succ]
 refine till_one 8 hM rfl (by kernel_rfl) (fun K hK => ?_)
 go_simp
 go_at_call 85
 refine HST.out.mono ?_
 rintro e w5 ⟨rfl, ⟨c0, c1, c2, c3, f0, f1, f2, f3⟩, hS5, hM5⟩
 simp only [zeroR] at c0 c1 c2 c3
 refine hK _ _ (fun _ => hS5) (fun hM => ?_)
 have hS := hS5
 clear hK K
 try simp only [Act.put, List.setIfInBounds_toArray, List.set_cons_zero, List.set_cons_succ]
 refine till_op (v := ?_) 9 [10, 12, 13, 14] hM rfl (by kernel_rfl) (by kernel_rfl) (by kernel_rfl) (by kernel_rfl) rfl (fun _ _ _ h => h) (Or.inl ⟨by rfl, ?_⟩) hS (fun hM => ?_)
 rotate_left
 ·intro W hSw
  (try dsimp only at hSw)
  go_simp
  try with_reducible rfl
 try simp only [Act.put, List.setIfInBounds_toArray, List.set_cons_zero, List.set_cons_succ]
 refine till_op (v := ?_) 10 [12, 13, 14] hM rfl (by kernel_rfl) (by kernel_rfl) (by kernel_rfl) (by kernel_rfl) rfl (fun _ _ _ h => h) (Or.inl ⟨by rfl, ?_⟩) hS (fun hM => ?_)
 rotate_left
 ·intro W hSw
  (try dsimp only at hSw)
  go_simp
  try with_reducible rfl
 try simp only [Act.put, List.setIfInBounds_toArray, List.set_cons_zero, List.set_cons_succ]
 refine till_op (v := ?_) 11 [14] hM rfl (by kernel_rfl) (by kernel_rfl) (by kernel_rfl) (by kernel_rfl) rfl (fun _ _ _ h => h) (Or.inl ⟨by rfl, ?_⟩) hS (fun hM => ?_)
 rotate_left
 ·intro W hSw
  (try dsimp only at hSw)
  go_simp
  try with_reducible rfl
 try simp only [Act.put, List.setIfInBounds_toArray, List.set_cons_zero, List.set_cons_succ]
 refine till_op (v := ?_) 12 [13, 14] hM rfl (by kernel_rfl) (by kernel_rfl) (by kernel_rfl) (by kernel_rfl) rfl (fun _ _ _ h => h) (Or.inl ⟨by rfl, ?_⟩) hS (fun hM => ?_)
 rotate_left
 ·intro W hSw
  (try dsimp only at hSw)
  go_simp
  try with_reducible rfl
 try simp only [Act.put, List.setIfInBounds_toArray, List.set_cons_zero, List.set_cons_succ]
 have hM6 := TM.set2 hM5 p2 p1
 have HM4 : Hid (TM w D w.heap.size (w.heap.size + 1) (w.heap.size + 2) ⟨5, tx, att, stamp, op, key, value, mode, yes⟩ zeroR ⟨p2, p1, ⟨#[]⟩, false⟩ (shT g pc pl ps bl bd E { S with rows := pl2 }) _) := Lib.hid hM6
 have h51 := Mem.setAt [] (i := 1) hM5 (.int .i64 p1)
 have hSA := Mem.shAt (TM.rest (q := ⟨0, p1, ⟨#[]⟩, false⟩) h51) htx
 have hSC := TM.hc (q := ⟨0, p1, ⟨#[]⟩, false⟩) h51
 have hS6 : (w5.setCell ⟨w.heap.size + 2, 1, none⟩ (.int .i64 p1)).cell? ⟨g, 4, none⟩ = some (.pointer (some ⟨ps, 0, none⟩)) ∧ (w5.setCell ⟨w.heap.size + 2, 1, none⟩ (.int .i64 p1)).cell? ⟨g, 0, none⟩ = some (.int .i64 S.clock) ∧ (w5.setCell ⟨w.heap.size + 2, 1, none⟩ (.int .i64 p1)).cell? ⟨w.heap.size, 1, none⟩ = some (.int .i64 tx) ∧ (w5.setCell ⟨w.heap.size + 2, 1, none⟩ (.int .i64 p1)).cell? ⟨w.heap.size, 2, none⟩ = some (.int .i64 att) ∧ (w5.setCell ⟨w.heap.size + 2, 1, none⟩ (.int .i64 p1)).cell? ⟨w.heap.size, 3, none⟩ = some (.int .i64 stamp) := ⟨hSA.c4, hSA.c0, (cell_of_heap hSC rfl).1, (cell_of_heap hSC rfl).1, (cell_of_heap hSC rfl).1⟩
 clear hM6 h51 hSA hSC hM5
 refine till_one 13 hM rfl (by kernel_rfl) (fun K hK => ?_)
 go_simp
 refine hK _ _ (fun _ => hS6) (fun hM => ?_)
 have hS := hS6
 clear hK K
 try simp only [Act.put, List.setIfInBounds_toArray, List.set_cons_zero, List.set_cons_succ]
 refine till_one 14 hM rfl (by kernel_rfl) (fun K hK => ?_)
 go_simp
 refine hK _ _ (fun _ => hS6) (fun hM => ?_)
 have hS := hS6
 clear hK K
 try simp only [Act.put, List.setIfInBounds_toArray, List.set_cons_zero, List.set_cons_succ]
 refine till_one 15 hM rfl (by kernel_rfl) (fun K hK => ?_)
 go_simp
 refine hK _ _ (fun h => absurd rfl h) (fun hM => ?_)
 clear hK K
 try simp only [Act.put, List.setIfInBounds_toArray, List.set_cons_zero, List.set_cons_succ]
 refine till_done (by kernel_rfl) ?_ _
 generalize hW4 : (w5.setCell ⟨w.heap.size + 2, 1, none⟩ (.int .i64 p1)).setCell ⟨w.heap.size + 2, 0, none⟩ (.int .i64 p2) = W4 at *
 clear hW4
 have hq := HM4.out
 obtain ⟨c0, c1, c2, c3, -, -, -, -⟩ := TM.r2 hq
 obtain ⟨d0, d1, d2, d3, f0, f1, f2, f3⟩ := TM.r1 hq
 simp only [zeroR] at d0 d1 d2 d3 c0 c1 c2 c3
 have HEND := Lib.hid (HR.out _ hq)
 clear HM4 hq HR
 go_wp2_with fail
 obtain ⟨W5, hW5⟩ : ∃ W5, W5 = ((((W4.setCell ⟨w.heap.size + 1, 0, none⟩ (.int .i64 p2)).setCell ⟨w.heap.size + 1, 1, none⟩ (.int .i64 p1)).setCell ⟨w.heap.size + 1, 2, none⟩ (.string ⟨#[]⟩)).setCell ⟨w.heap.size + 1, 3, none⟩ (.bool false)) := ⟨_, rfl⟩
 rw [← hW5]
 obtain ⟨⟨v0, v1, v2, v3, -, -, -, -⟩, hR⟩ := HEND.out W5 hW5
 simp only at v0 v1 v2 v3
 clear hW5
 refine bodyPost_ret (by simp [results, Tryz.results37, go_sem, v0, v1, v2, v3]; try rfl) rfl ?_
 exact hR
set_option maxRecDepth 100000 in
set_option maxHeartbeats 8000000 in
theorem table_kill (g : Nat) (S : Sh) (c : Cm) (w : World) {D : List Nat} (h : ShA g S w D) (htx : i64 c.tx) (hk : c.kind = 6) (hl : Rises S.rows) (hn : S.rows.length ≤ 1000) :
  Calls Tryz.prog 37 #[.pointer (some ⟨g, 0, none⟩), c.val] w (CmPost w D g (tabM S c)) := by
 obtain ⟨pc, pl, ps, bl, bd, E, e, M⟩ := Mem.shOpen (Mem.start h)
 obtain ⟨k, tx, att, stamp, op, key, value, mode, yes⟩ := c
 simp only at hk
 subst hk
 try simp only at htx
 have hm : tabM S ⟨6, tx, att, stamp, op, key, value, mode, yes⟩ = (stR (killM S.rows tx att S.clock), { S with rows := (killM S.rows tx att S.clock).2 }) := rfl
 rw [hm]
 have HX0 : Hid (TM w D w.heap.size (w.heap.size + 1) (w.heap.size + 2) ⟨6, tx, att, stamp, op, key, value, mode, yes⟩ zeroR zeroR (shT g pc pl ps bl bd E S) (((w.alloc (.cells #[.int .i64 6, .int .i64 tx, .int .i64 att, .int .i64 stamp, .int .i64 op, .string key, .string value, .int .i64 mode, .bool yes] 28)).alloc (.cells #[.int .i64 0, .int .i64 0, .string ⟨#[]⟩, .bool false] 35)).alloc (.cells #[.int .i64 0, .int .i64 0, .string ⟨#[]⟩, .bool false] 35))) := Lib.hid (by
  have h := ((M.block (Cm.arr ⟨6, tx, att, stamp, op, key, value, mode, yes⟩) 28).block zeroR.arr 35).block zeroR.arr 35
  rw [show ((w.alloc (.cells (Cm.arr ⟨6, tx, att, stamp, op, key, value, mode, yes⟩) 28)).alloc (.cells zeroR.arr 35)).heap.size = w.heap.size + 2 by simp, show (w.alloc (.cells (Cm.arr ⟨6, tx, att, stamp, op, key, value, mode, yes⟩) 28)).heap.size = w.heap.size + 1 by simp] at h
  exact h)
 have HCT := Lib.hid fun (W : World) (D' : List Nat) (hD' : StA ps S.rows W D') => st_kill ps S.rows tx att S.clock W hD' hl hn
 generalize killM S.rows tx att S.clock = pp at HCT ⊢
 obtain ⟨⟨p1, p2⟩, pl2⟩ := pp
 try simp only at HCT
 clear hm M h
 go_enter Tryz.func37, Tryz.ntmps37
 go_wp2_with fail
 obtain ⟨w1, hw1⟩ : ∃ w1, w1 = ((w.alloc (.cells #[.int .i64 6, .int .i64 tx, .int .i64 att, .int .i64 stamp, .int .i64 op, .string key, .string value, .int .i64 mode, .bool yes] 28)).alloc (.cells #[.int .i64 0, .int .i64 0, .string ⟨#[]⟩, .bool false] 35)).alloc (.cells #[.int .i64 0, .int .i64 0, .string ⟨#[]⟩, .bool false] 35) := ⟨_, rfl⟩
 rw [← hw1] at HX0 ⊢
 clear hw1
 have HXD := TM.below HX0.out (bel_drew w1)
 have HST := Lib.hid ((TM.st HXD (f := 86) (args := #[.pointer (some ⟨ps, 0, none⟩), .int .i64 tx, .int .i64 att, .int .i64 S.clock]) (x := ((p1, p2), pl2)) (fun D' hD' => HCT.out _ D' hD')).mono
  (R' := fun e' w' => e' = .returned (.tuple #[.int .i64 p1, .int .i64 p2]) ∧ RAt w' (w.heap.size + 2) zeroR ∧ (w'.cell? ⟨g, 4, none⟩ = some (.pointer (some ⟨ps, 0, none⟩)) ∧ w'.cell? ⟨g, 0, none⟩ = some (.int .i64 S.clock) ∧ w'.cell? ⟨w.heap.size, 1, none⟩ = some (.int .i64 tx) ∧ w'.cell? ⟨w.heap.size, 2, none⟩ = some (.int .i64 att) ∧ w'.cell? ⟨w.heap.size, 3, none⟩ = some (.int .i64 stamp)) ∧ TM w D w.heap.size (w.heap.size + 1) (w.heap.size + 2) ⟨6, tx, att, stamp, op, key, value, mode, yes⟩ zeroR zeroR (shT g pc pl ps bl bd E { S with rows := pl2 }) w') (fun e' w' ⟨he, hm⟩ => by
   have hA := Mem.shAt (TM.rest hm) htx
   have hc := hm.hc
   exact ⟨he, TM.r2 hm, ⟨hA.c4, hA.c0, (cell_of_heap hc rfl).1, (cell_of_heap hc rfl).1, (cell_of_heap hc rfl).1⟩, hm⟩))
 have hA := Mem.shAt (TM.rest HX0.out) htx
 have hc := HX0.out.hc
 have hS0 : w1.drew.cell? ⟨g, 4, none⟩ = some (.pointer (some ⟨ps, 0, none⟩)) ∧ w1.drew.cell? ⟨g, 0, none⟩ = some (.int .i64 S.clock) ∧ w1.drew.cell? ⟨w.heap.size, 1, none⟩ = some (.int .i64 tx) ∧ w1.drew.cell? ⟨w.heap.size, 2, none⟩ = some (.int .i64 att) ∧ w1.drew.cell? ⟨w.heap.size, 3, none⟩ = some (.int .i64 stamp) := ⟨hA.c4, hA.c0, (cell_of_heap hc rfl).1, (cell_of_heap hc rfl).1, (cell_of_heap hc rfl).1⟩
 have HR : Hid (∀ W, TM w D w.heap.size (w.heap.size + 1) (w.heap.size + 2) ⟨6, tx, att, stamp, op, key, value, mode, yes⟩ zeroR ⟨p2, p1, ⟨#[]⟩, false⟩ (shT g pc pl ps bl bd E { S with rows := pl2 }) W → ∀ W5, W5 = ((((W.setCell ⟨w.heap.size + 1, 0, none⟩ (.int .i64 p2)).setCell ⟨w.heap.size + 1, 1, none⟩ (.int .i64 p1)).setCell ⟨w.heap.size + 1, 2, none⟩ (.string ⟨#[]⟩)).setCell ⟨w.heap.size + 1, 3, none⟩ (.bool false)) → RAt W5 (w.heap.size + 1) ⟨p2, p1, ⟨#[]⟩, false⟩ ∧ CmPost w D g (stR ((p1, p2), pl2), { S with rows := pl2 }) (.returned (.agg #[.int .i64 p2, .int .i64 p1, .string ⟨#[]⟩, .bool false])) W5) := Lib.hid fun W hW => TM.fin (q := (⟨p2, p1, ⟨#[]⟩, false⟩ : Rp)) (S' := { S with rows := pl2 }) hW e rfl
 clear hA hc HXD HX0
 refine wp_region_till (fun W => W.cell? ⟨g, 4, none⟩ = some (.pointer (some ⟨ps, 0, none⟩)) ∧ W.cell? ⟨g, 0, none⟩ = some (.int .i64 S.clock) ∧ W.cell? ⟨w.heap.size, 1, none⟩ = some (.int .i64 tx) ∧ W.cell? ⟨w.heap.size, 2, none⟩ = some (.int .i64 att) ∧ W.cell? ⟨w.heap.size, 3, none⟩ = some (.int .i64 stamp)) 19 (by kernel_rfl) (hS0) (fun hM hS => ?_)
 refine till_op (v := ?_) 0 [1, 2, 3, 12, 13, 14, 16, 17, 18] hM rfl (by kernel_rfl) (by kernel_rfl) (by kernel_rfl) (by kernel_rfl) rfl (fun _ _ _ h => h) (Or.inl ⟨by rfl, ?_⟩) hS (fun hM => ?_)
 rotate_left
 ·intro W hSw
  (try dsimp only at hSw)
  go_simp
  try with_reducible rfl
 try simp only [Act.put, List.setIfInBounds_toArray, List.set_cons_zero, List.set_cons_succ]
 refine till_op (v := ?_) 1 [2, 3, 12, 13, 14, 16, 17, 18] hM rfl (by kernel_rfl) (by kernel_rfl) (by kernel_rfl) (by kernel_rfl) rfl (fun _ _ _ h => h) (Or.inl ⟨by rfl, ?_⟩) hS (fun hM => ?_)
 rotate_left
 ·intro W hSw
  (try dsimp only at hSw)
  go_simp
  try with_reducible rfl
 try simp only [Act.put, List.setIfInBounds_toArray, List.set_cons_zero, List.set_cons_succ]
 refine till_op (v := ?_) 2 [3, 12, 13, 14, 16, 17, 18] hM rfl (by kernel_rfl) (by kernel_rfl) (by kernel_rfl) (by kernel_rfl) rfl (fun _ _ _ h => h) (Or.inl ⟨by rfl, ?_⟩) hS (fun hM => ?_)
 rotate_left
 ·intro W hSw
  (try dsimp only at hSw)
  go_simp
  try with_reducible rfl
 try simp only [Act.put, List.setIfInBounds_toArray, List.set_cons_zero, List.set_cons_succ]
 refine till_op (v := ?_) 3 [12, 13, 14, 16, 17, 18] hM rfl (by kernel_rfl) (by kernel_rfl) (by kernel_rfl) (by kernel_rfl) rfl (fun _ _ _ h => h) (Or.inl ⟨by rfl, ?_⟩) hS (fun hM => ?_)
 rotate_left
 ·intro W hSw
  (try dsimp only at hSw)
  go_simp
  try with_reducible rfl
 try simp only [Act.put, List.setIfInBounds_toArray, List.set_cons_zero, List.set_cons_succ]
 refine till_op (v := ?_) 4 [5, 12, 13, 14, 16, 17, 18] hM rfl (by kernel_rfl) (by kernel_rfl) (by kernel_rfl) (by kernel_rfl) rfl (fun _ _ _ h => h) (Or.inl ⟨by rfl, ?_⟩) hS (fun hM => ?_)
 rotate_left
 ·intro W hSw
  (try dsimp only at hSw)
  go_simp
  try with_reducible rfl
 try simp only [Act.put, List.setIfInBounds_toArray, List.set_cons_zero, List.set_cons_succ]
 refine till_op (v := ?_) 5 [12, 13, 14, 16, 17, 18] hM rfl (by kernel_rfl) (by kernel_rfl) (by kernel_rfl) (by kernel_rfl) rfl (fun _ _ _ h => h) (Or.inl ⟨by rfl, ?_⟩) hS (fun hM => ?_)
 rotate_left
 ·intro W hSw
  (try dsimp only at hSw)
  go_simp
  try with_reducible rfl
 try simp only [Act.put, List.setIfInBounds_toArray, List.set_cons_zero, List.set_cons_succ]
 refine till_op (v := ?_) 6 [7, 12, 13, 14, 16, 17, 18] hM rfl (by kernel_rfl) (by kernel_rfl) (by kernel_rfl) (by kernel_rfl) rfl (fun _ _ _ h => h) (Or.inl ⟨by rfl, ?_⟩) hS (fun hM => ?_)
 rotate_left
 ·intro W hSw
  (try dsimp only at hSw)
  go_simp
  try with_reducible rfl
 try simp only [Act.put, List.setIfInBounds_toArray, List.set_cons_zero, List.set_cons_succ]
 refine till_op (v := ?_) 7 [12, 13, 14, 16, 17, 18] hM rfl (by kernel_rfl) (by kernel_rfl) (by kernel_rfl) (by kernel_rfl) rfl (fun _ _ _ h => h) (Or.inl ⟨by rfl, ?_⟩) hS (fun hM => ?_)
 rotate_left
 ·intro W hSw
  (try dsimp only at hSw)
  go_simp
  try with_reducible rfl
 try simp only [Act.put, List.setIfInBounds_toArray, List.set_cons_zero, List.set_cons_succ]
 refine till_op (v := ?_) 8 [9, 10, 11, 12, 13, 14, 16, 17, 18] hM rfl (by kernel_rfl) (by kernel_rfl) (by kernel_rfl) (by kernel_rfl) rfl (fun _ _ _ h => h) (Or.inl ⟨by rfl, ?_⟩) hS (fun hM => ?_)
 rotate_left
 ·intro W hSw
  (try dsimp only at hSw)
  go_simp
  try with_reducible rfl
 try simp only [Act.put, List.setIfInBounds_toArray, List.set_cons_zero, List.set_cons_succ]
 refine till_op (v := ?_) 9 [10, 11, 12, 13, 14, 16, 17, 18] hM rfl (by kernel_rfl) (by kernel_rfl) (by kernel_rfl) (by kernel_rfl) rfl (fun _ _ _ h => h) (Or.inl ⟨by rfl, ?_⟩) hS (fun hM => ?_)
 rotate_left
 ·intro W hSw
  (try dsimp only at hSw)
  go_simp
  try with_reducible rfl
 try simp only [Act.put, List.setIfInBounds_toArray, List.set_cons_zero, List.set_cons_succ]
 refine till_op (v := ?_) 10 [11, 12, 13, 14, 16, 17, 18] hM rfl (by kernel_rfl) (by kernel_rfl) (by kernel_rfl) (by kernel_rfl) rfl (fun _ _ _ h => h) (Or.inl ⟨by rfl, ?_⟩) hS (fun hM => ?_)
 rotate_left
 ·intro W hSw
  (try dsimp only at hSw)
  go_simp
  try with_reducible rfl
 try simp only [Act.put, List.setIfInBounds_toArray, List.set_cons_zero, List.set_cons_succ]
 refine till_op (v := ?_) 11 [12, 13, 14, 16, 17, 18] hM rfl (by kernel_rfl) (by kernel_rfl) (by kernel_rfl) (by kernel_rfl) rfl (fun _ _ _ h => h) (Or.inl ⟨by rfl, ?_⟩) hS (fun hM => ?_)
 rotate_left
 ·intro W hSw
  (try dsimp only at hSw)
  go_simp
  try with_reducible rfl
 try simp only [Act.put, List.setIfInBounds_toArray, List.set_cons_zero, List.set_cons_succ]
 refine till_one 12 hM rfl (by kernel_rfl) (fun K hK => ?_)
 go_simp
 go_at_call 86
 refine HST.out.mono ?_
 rintro e w5 ⟨rfl, ⟨c0, c1, c2, c3, f0, f1, f2, f3⟩, hS5, hM5⟩
 simp only [zeroR] at c0 c1 c2 c3
 refine hK _ _ (fun _ => hS5) (fun hM => ?_)
 have hS := hS5
 clear hK K
 try simp only [Act.put, List.setIfInBounds_toArray, List.set_cons_zero, List.set_cons_succ]
 refine till_op (v := ?_) 13 [14, 16, 17, 18] hM rfl (by kernel_rfl) (by kernel_rfl) (by kernel_rfl) (by kernel_rfl) rfl (fun _ _ _ h => h) (Or.inl ⟨by rfl, ?_⟩) hS (fun hM => ?_)
 rotate_left
 ·intro W hSw
  (try dsimp only at hSw)
  go_simp
  try with_reducible rfl
 try simp only [Act.put, List.setIfInBounds_toArray, List.set_cons_zero, List.set_cons_succ]
 refine till_op (v := ?_) 14 [16, 17, 18] hM rfl (by kernel_rfl) (by kernel_rfl) (by kernel_rfl) (by kernel_rfl) rfl (fun _ _ _ h => h) (Or.inl ⟨by rfl, ?_⟩) hS (fun hM => ?_)
 rotate_left
 ·intro W hSw
  (try dsimp only at hSw)
  go_simp
  try with_reducible rfl
 try simp only [Act.put, List.setIfInBounds_toArray, List.set_cons_zero, List.set_cons_succ]
 refine till_op (v := ?_) 15 [18] hM rfl (by kernel_rfl) (by kernel_rfl) (by kernel_rfl) (by kernel_rfl) rfl (fun _ _ _ h => h) (Or.inl ⟨by rfl, ?_⟩) hS (fun hM => ?_)
 rotate_left
 ·intro W hSw
  (try dsimp only at hSw)
  go_simp
  try with_reducible rfl
 try simp only [Act.put, List.setIfInBounds_toArray, List.set_cons_zero, List.set_cons_succ]
 refine till_op (v := ?_) 16 [17, 18] hM rfl (by kernel_rfl) (by kernel_rfl) (by kernel_rfl) (by kernel_rfl) rfl (fun _ _ _ h => h) (Or.inl ⟨by rfl, ?_⟩) hS (fun hM => ?_)
 rotate_left
 ·intro W hSw
  (try dsimp only at hSw)
  go_simp
  try with_reducible rfl
 try simp only [Act.put, List.setIfInBounds_toArray, List.set_cons_zero, List.set_cons_succ]
 have hM6 := TM.set2 hM5 p2 p1
 have HM4 : Hid (TM w D w.heap.size (w.heap.size + 1) (w.heap.size + 2) ⟨6, tx, att, stamp, op, key, value, mode, yes⟩ zeroR ⟨p2, p1, ⟨#[]⟩, false⟩ (shT g pc pl ps bl bd E { S with rows := pl2 }) _) := Lib.hid hM6
 have h51 := Mem.setAt [] (i := 1) hM5 (.int .i64 p1)
 have hSA := Mem.shAt (TM.rest (q := ⟨0, p1, ⟨#[]⟩, false⟩) h51) htx
 have hSC := TM.hc (q := ⟨0, p1, ⟨#[]⟩, false⟩) h51
 have hS6 : (w5.setCell ⟨w.heap.size + 2, 1, none⟩ (.int .i64 p1)).cell? ⟨g, 4, none⟩ = some (.pointer (some ⟨ps, 0, none⟩)) ∧ (w5.setCell ⟨w.heap.size + 2, 1, none⟩ (.int .i64 p1)).cell? ⟨g, 0, none⟩ = some (.int .i64 S.clock) ∧ (w5.setCell ⟨w.heap.size + 2, 1, none⟩ (.int .i64 p1)).cell? ⟨w.heap.size, 1, none⟩ = some (.int .i64 tx) ∧ (w5.setCell ⟨w.heap.size + 2, 1, none⟩ (.int .i64 p1)).cell? ⟨w.heap.size, 2, none⟩ = some (.int .i64 att) ∧ (w5.setCell ⟨w.heap.size + 2, 1, none⟩ (.int .i64 p1)).cell? ⟨w.heap.size, 3, none⟩ = some (.int .i64 stamp) := ⟨hSA.c4, hSA.c0, (cell_of_heap hSC rfl).1, (cell_of_heap hSC rfl).1, (cell_of_heap hSC rfl).1⟩
 clear hM6 h51 hSA hSC hM5
 refine till_one 17 hM rfl (by kernel_rfl) (fun K hK => ?_)
 go_simp
 refine hK _ _ (fun _ => hS6) (fun hM => ?_)
 have hS := hS6
 clear hK K
 try simp only [Act.put, List.setIfInBounds_toArray, List.set_cons_zero, List.set_cons_succ]
 refine till_one 18 hM rfl (by kernel_rfl) (fun K hK => ?_)
 go_simp
 refine hK _ _ (fun _ => hS6) (fun hM => ?_)
 have hS := hS6
 clear hK K
 try simp only [Act.put, List.setIfInBounds_toArray, List.set_cons_zero, List.set_cons_succ]
 refine till_one 19 hM rfl (by kernel_rfl) (fun K hK => ?_)
 go_simp
 refine hK _ _ (fun h => absurd rfl h) (fun hM => ?_)
 clear hK K
 try simp only [Act.put, List.setIfInBounds_toArray, List.set_cons_zero, List.set_cons_succ]
 refine till_done (by kernel_rfl) ?_ _
 generalize hW4 : (w5.setCell ⟨w.heap.size + 2, 1, none⟩ (.int .i64 p1)).setCell ⟨w.heap.size + 2, 0, none⟩ (.int .i64 p2) = W4 at *
 clear hW4
 have hq := HM4.out
 obtain ⟨c0, c1, c2, c3, -, -, -, -⟩ := TM.r2 hq
 obtain ⟨d0, d1, d2, d3, f0, f1, f2, f3⟩ := TM.r1 hq
 simp only [zeroR] at d0 d1 d2 d3 c0 c1 c2 c3
 have HEND := Lib.hid (HR.out _ hq)
 clear HM4 hq HR
 go_wp2_with fail
 obtain ⟨W5, hW5⟩ : ∃ W5, W5 = ((((W4.setCell ⟨w.heap.size + 1, 0, none⟩ (.int .i64 p2)).setCell ⟨w.heap.size + 1, 1, none⟩ (.int .i64 p1)).setCell ⟨w.heap.size + 1, 2, none⟩ (.string ⟨#[]⟩)).setCell ⟨w.heap.size + 1, 3, none⟩ (.bool false)) := ⟨_, rfl⟩
 rw [← hW5]
 obtain ⟨⟨v0, v1, v2, v3, -, -, -, -⟩, hR⟩ := HEND.out W5 hW5
 simp only at v0 v1 v2 v3
 clear hW5
 refine bodyPost_ret (by simp [results, Tryz.results37, go_sem, v0, v1, v2, v3]; try rfl) rfl ?_
 exact hR
set_option maxRecDepth 100000 in
set_option maxHeartbeats 8000000 in
theorem table_beat (g : Nat) (S : Sh) (c : Cm) (w : World) {D : List Nat} (h : ShA g S w D) (htx : i64 c.tx) (hk : c.kind = 8) (hl : Rises S.rows) (hn : S.rows.length ≤ 1000) :
  Calls Tryz.prog 37 #[.pointer (some ⟨g, 0, none⟩), c.val] w (CmPost w D g (tabM S c)) := by
 obtain ⟨pc, pl, ps, bl, bd, E, e, M⟩ := Mem.shOpen (Mem.start h)
 obtain ⟨k, tx, att, stamp, op, key, value, mode, yes⟩ := c
 simp only at hk
 subst hk
 try simp only at htx
 have hm : tabM S ⟨8, tx, att, stamp, op, key, value, mode, yes⟩ = (stR (beatM S.rows tx att S.clock), { S with rows := (beatM S.rows tx att S.clock).2 }) := rfl
 rw [hm]
 have HX0 : Hid (TM w D w.heap.size (w.heap.size + 1) (w.heap.size + 2) ⟨8, tx, att, stamp, op, key, value, mode, yes⟩ zeroR zeroR (shT g pc pl ps bl bd E S) (((w.alloc (.cells #[.int .i64 8, .int .i64 tx, .int .i64 att, .int .i64 stamp, .int .i64 op, .string key, .string value, .int .i64 mode, .bool yes] 28)).alloc (.cells #[.int .i64 0, .int .i64 0, .string ⟨#[]⟩, .bool false] 35)).alloc (.cells #[.int .i64 0, .int .i64 0, .string ⟨#[]⟩, .bool false] 35))) := Lib.hid (by
  have h := ((M.block (Cm.arr ⟨8, tx, att, stamp, op, key, value, mode, yes⟩) 28).block zeroR.arr 35).block zeroR.arr 35
  rw [show ((w.alloc (.cells (Cm.arr ⟨8, tx, att, stamp, op, key, value, mode, yes⟩) 28)).alloc (.cells zeroR.arr 35)).heap.size = w.heap.size + 2 by simp, show (w.alloc (.cells (Cm.arr ⟨8, tx, att, stamp, op, key, value, mode, yes⟩) 28)).heap.size = w.heap.size + 1 by simp] at h
  exact h)
 have HCT := Lib.hid fun (W : World) (D' : List Nat) (hD' : StA ps S.rows W D') => st_beat ps S.rows tx att S.clock W hD' hl hn
 generalize beatM S.rows tx att S.clock = pp at HCT ⊢
 obtain ⟨⟨p1, p2⟩, pl2⟩ := pp
 try simp only at HCT
 clear hm M h
 go_enter Tryz.func37, Tryz.ntmps37
 go_wp2_with fail
 obtain ⟨w1, hw1⟩ : ∃ w1, w1 = ((w.alloc (.cells #[.int .i64 8, .int .i64 tx, .int .i64 att, .int .i64 stamp, .int .i64 op, .string key, .string value, .int .i64 mode, .bool yes] 28)).alloc (.cells #[.int .i64 0, .int .i64 0, .string ⟨#[]⟩, .bool false] 35)).alloc (.cells #[.int .i64 0, .int .i64 0, .string ⟨#[]⟩, .bool false] 35) := ⟨_, rfl⟩
 rw [← hw1] at HX0 ⊢
 clear hw1
 have HXD := TM.below HX0.out (bel_drew w1)
 have HST := Lib.hid ((TM.st HXD (f := 87) (args := #[.pointer (some ⟨ps, 0, none⟩), .int .i64 tx, .int .i64 att, .int .i64 S.clock]) (x := ((p1, p2), pl2)) (fun D' hD' => HCT.out _ D' hD')).mono
  (R' := fun e' w' => e' = .returned (.tuple #[.int .i64 p1, .int .i64 p2]) ∧ RAt w' (w.heap.size + 2) zeroR ∧ (w'.cell? ⟨g, 4, none⟩ = some (.pointer (some ⟨ps, 0, none⟩)) ∧ w'.cell? ⟨g, 0, none⟩ = some (.int .i64 S.clock) ∧ w'.cell? ⟨w.heap.size, 1, none⟩ = some (.int .i64 tx) ∧ w'.cell? ⟨w.heap.size, 2, none⟩ = some (.int .i64 att) ∧ w'.cell? ⟨w.heap.size, 3, none⟩ = some (.int .i64 stamp)) ∧ TM w D w.heap.size (w.heap.size + 1) (w.heap.size + 2) ⟨8, tx, att, stamp, op, key, value, mode, yes⟩ zeroR zeroR (shT g pc pl ps bl bd E { S with rows := pl2 }) w') (fun e' w' ⟨he, hm⟩ => by
   have hA := Mem.shAt (TM.rest hm) htx
   have hc := hm.hc
   exact ⟨he, TM.r2 hm, ⟨hA.c4, hA.c0, (cell_of_heap hc rfl).1, (cell_of_heap hc rfl).1, (cell_of_heap hc rfl).1⟩, hm⟩))
 have hA := Mem.shAt (TM.rest HX0.out) htx
 have hc := HX0.out.hc
 have hS0 : w1.drew.cell? ⟨g, 4, none⟩ = some (.pointer (some ⟨ps, 0, none⟩)) ∧ w1.drew.cell? ⟨g, 0, none⟩ = some (.int .i64 S.clock) ∧ w1.drew.cell? ⟨w.heap.size, 1, none⟩ = some (.int .i64 tx) ∧ w1.drew.cell? ⟨w.heap.size, 2, none⟩ = some (.int .i64 att) ∧ w1.drew.cell? ⟨w.heap.size, 3, none⟩ = some (.int .i64 stamp) := ⟨hA.c4, hA.c0, (cell_of_heap hc rfl).1, (cell_of_heap hc rfl).1, (cell_of_heap hc rfl).1⟩
 have HR : Hid (∀ W, TM w D w.heap.size (w.heap.size + 1) (w.heap.size + 2) ⟨8, tx, att, stamp, op, key, value, mode, yes⟩ zeroR ⟨p2, p1, ⟨#[]⟩, false⟩ (shT g pc pl ps bl bd E { S with rows := pl2 }) W → ∀ W5, W5 = ((((W.setCell ⟨w.heap.size + 1, 0, none⟩ (.int .i64 p2)).setCell ⟨w.heap.size + 1, 1, none⟩ (.int .i64 p1)).setCell ⟨w.heap.size + 1, 2, none⟩ (.string ⟨#[]⟩)).setCell ⟨w.heap.size + 1, 3, none⟩ (.bool false)) → RAt W5 (w.heap.size + 1) ⟨p2, p1, ⟨#[]⟩, false⟩ ∧ CmPost w D g (stR ((p1, p2), pl2), { S with rows := pl2 }) (.returned (.agg #[.int .i64 p2, .int .i64 p1, .string ⟨#[]⟩, .bool false])) W5) := Lib.hid fun W hW => TM.fin (q := (⟨p2, p1, ⟨#[]⟩, false⟩ : Rp)) (S' := { S with rows := pl2 }) hW e rfl
 clear hA hc HXD HX0
 refine wp_region_till (fun W => W.cell? ⟨g, 4, none⟩ = some (.pointer (some ⟨ps, 0, none⟩)) ∧ W.cell? ⟨g, 0, none⟩ = some (.int .i64 S.clock) ∧ W.cell? ⟨w.heap.size, 1, none⟩ = some (.int .i64 tx) ∧ W.cell? ⟨w.heap.size, 2, none⟩ = some (.int .i64 att) ∧ W.cell? ⟨w.heap.size, 3, none⟩ = some (.int .i64 stamp)) 19 (by kernel_rfl) (hS0) (fun hM hS => ?_)
 refine till_op (v := ?_) 0 [1, 2, 3, 12, 13, 14, 16, 17, 18] hM rfl (by kernel_rfl) (by kernel_rfl) (by kernel_rfl) (by kernel_rfl) rfl (fun _ _ _ h => h) (Or.inl ⟨by rfl, ?_⟩) hS (fun hM => ?_)
 rotate_left
 ·intro W hSw
  (try dsimp only at hSw)
  go_simp
  try with_reducible rfl
 try simp only [Act.put, List.setIfInBounds_toArray, List.set_cons_zero, List.set_cons_succ]
 refine till_op (v := ?_) 1 [2, 3, 12, 13, 14, 16, 17, 18] hM rfl (by kernel_rfl) (by kernel_rfl) (by kernel_rfl) (by kernel_rfl) rfl (fun _ _ _ h => h) (Or.inl ⟨by rfl, ?_⟩) hS (fun hM => ?_)
 rotate_left
 ·intro W hSw
  (try dsimp only at hSw)
  go_simp
  try with_reducible rfl
 try simp only [Act.put, List.setIfInBounds_toArray, List.set_cons_zero, List.set_cons_succ]
 refine till_op (v := ?_) 2 [3, 12, 13, 14, 16, 17, 18] hM rfl (by kernel_rfl) (by kernel_rfl) (by kernel_rfl) (by kernel_rfl) rfl (fun _ _ _ h => h) (Or.inl ⟨by rfl, ?_⟩) hS (fun hM => ?_)
 rotate_left
 ·intro W hSw
  (try dsimp only at hSw)
  go_simp
  try with_reducible rfl
 try simp only [Act.put, List.setIfInBounds_toArray, List.set_cons_zero, List.set_cons_succ]
 refine till_op (v := ?_) 3 [12, 13, 14, 16, 17, 18] hM rfl (by kernel_rfl) (by kernel_rfl) (by kernel_rfl) (by kernel_rfl) rfl (fun _ _ _ h => h) (Or.inl ⟨by rfl, ?_⟩) hS (fun hM => ?_)
 rotate_left
 ·intro W hSw
  (try dsimp only at hSw)
  go_simp
  try with_reducible rfl
 try simp only [Act.put, List.setIfInBounds_toArray, List.set_cons_zero, List.set_cons_succ]
 refine till_op (v := ?_) 4 [5, 12, 13, 14, 16, 17, 18] hM rfl (by kernel_rfl) (by kernel_rfl) (by kernel_rfl) (by kernel_rfl) rfl (fun _ _ _ h => h) (Or.inl ⟨by rfl, ?_⟩) hS (fun hM => ?_)
 rotate_left
 ·intro W hSw
  (try dsimp only at hSw)
  go_simp
  try with_reducible rfl
 try simp only [Act.put, List.setIfInBounds_toArray, List.set_cons_zero, List.set_cons_succ]
 refine till_op (v := ?_) 5 [12, 13, 14, 16, 17, 18] hM rfl (by kernel_rfl) (by kernel_rfl) (by kernel_rfl) (by kernel_rfl) rfl (fun _ _ _ h => h) (Or.inl ⟨by rfl, ?_⟩) hS (fun hM => ?_)
 rotate_left
 ·intro W hSw
  (try dsimp only at hSw)
  go_simp
  try with_reducible rfl
 try simp only [Act.put, List.setIfInBounds_toArray, List.set_cons_zero, List.set_cons_succ]
 refine till_op (v := ?_) 6 [7, 12, 13, 14, 16, 17, 18] hM rfl (by kernel_rfl) (by kernel_rfl) (by kernel_rfl) (by kernel_rfl) rfl (fun _ _ _ h => h) (Or.inl ⟨by rfl, ?_⟩) hS (fun hM => ?_)
 rotate_left
 ·intro W hSw
  (try dsimp only at hSw)
  go_simp
  try with_reducible rfl
 try simp only [Act.put, List.setIfInBounds_toArray, List.set_cons_zero, List.set_cons_succ]
 refine till_op (v := ?_) 7 [12, 13, 14, 16, 17, 18] hM rfl (by kernel_rfl) (by kernel_rfl) (by kernel_rfl) (by kernel_rfl) rfl (fun _ _ _ h => h) (Or.inl ⟨by rfl, ?_⟩) hS (fun hM => ?_)
 rotate_left
 ·intro W hSw
  (try dsimp only at hSw)
  go_simp
  try with_reducible rfl
 try simp only [Act.put, List.setIfInBounds_toArray, List.set_cons_zero, List.set_cons_succ]
 refine till_op (v := ?_) 8 [9, 10, 11, 12, 13, 14, 16, 17, 18] hM rfl (by kernel_rfl) (by kernel_rfl) (by kernel_rfl) (by kernel_rfl) rfl (fun _ _ _ h => h) (Or.inl ⟨by rfl, ?_⟩) hS (fun hM => ?_)
 rotate_left
 ·intro W hSw
  (try dsimp only at hSw)
  go_simp
  try with_reducible rfl
 try simp only [Act.put, List.setIfInBounds_toArray, List.set_cons_zero, List.set_cons_succ]
 refine till_op (v := ?_) 9 [10, 11, 12, 13, 14, 16, 17, 18] hM rfl (by kernel_rfl) (by kernel_rfl) (by kernel_rfl) (by kernel_rfl) rfl (fun _ _ _ h => h) (Or.inl ⟨by rfl, ?_⟩) hS (fun hM => ?_)
 rotate_left
 ·intro W hSw
  (try dsimp only at hSw)
  go_simp
  try with_reducible rfl
 try simp only [Act.put, List.setIfInBounds_toArray, List.set_cons_zero, List.set_cons_succ]
 refine till_op (v := ?_) 10 [11, 12, 13, 14, 16, 17, 18] hM rfl (by kernel_rfl) (by kernel_rfl) (by kernel_rfl) (by kernel_rfl) rfl (fun _ _ _ h => h) (Or.inl ⟨by rfl, ?_⟩) hS (fun hM => ?_)
 rotate_left
 ·intro W hSw
  (try dsimp only at hSw)
  go_simp
  try with_reducible rfl
 try simp only [Act.put, List.setIfInBounds_toArray, List.set_cons_zero, List.set_cons_succ]
 refine till_op (v := ?_) 11 [12, 13, 14, 16, 17, 18] hM rfl (by kernel_rfl) (by kernel_rfl) (by kernel_rfl) (by kernel_rfl) rfl (fun _ _ _ h => h) (Or.inl ⟨by rfl, ?_⟩) hS (fun hM => ?_)
 rotate_left
 ·intro W hSw
  (try dsimp only at hSw)
  go_simp
  try with_reducible rfl
 try simp only [Act.put, List.setIfInBounds_toArray, List.set_cons_zero, List.set_cons_succ]
 refine till_one 12 hM rfl (by kernel_rfl) (fun K hK => ?_)
 go_simp
 go_at_call 87
 refine HST.out.mono ?_
 rintro e w5 ⟨rfl, ⟨c0, c1, c2, c3, f0, f1, f2, f3⟩, hS5, hM5⟩
 simp only [zeroR] at c0 c1 c2 c3
 refine hK _ _ (fun _ => hS5) (fun hM => ?_)
 have hS := hS5
 clear hK K
 try simp only [Act.put, List.setIfInBounds_toArray, List.set_cons_zero, List.set_cons_succ]
 refine till_op (v := ?_) 13 [14, 16, 17, 18] hM rfl (by kernel_rfl) (by kernel_rfl) (by kernel_rfl) (by kernel_rfl) rfl (fun _ _ _ h => h) (Or.inl ⟨by rfl, ?_⟩) hS (fun hM => ?_)
 rotate_left
 ·intro W hSw
  (try dsimp only at hSw)
  go_simp
  try with_reducible rfl
 try simp only [Act.put, List.setIfInBounds_toArray, List.set_cons_zero, List.set_cons_succ]
 refine till_op (v := ?_) 14 [16, 17, 18] hM rfl (by kernel_rfl) (by kernel_rfl) (by kernel_rfl) (by kernel_rfl) rfl (fun _ _ _ h => h) (Or.inl ⟨by rfl, ?_⟩) hS (fun hM => ?_)
 rotate_left
 ·intro W hSw
  (try dsimp only at hSw)
  go_simp
  try with_reducible rfl
 try simp only [Act.put, List.setIfInBounds_toArray, List.set_cons_zero, List.set_cons_succ]
 refine till_op (v := ?_) 15 [18] hM rfl (by kernel_rfl) (by kernel_rfl) (by kernel_rfl) (by kernel_rfl) rfl (fun _ _ _ h => h) (Or.inl ⟨by rfl, ?_⟩) hS (fun hM => ?_)
 rotate_left
 ·intro W hSw
  (try dsimp only at hSw)
  go_simp
  try with_reducible rfl
 try simp only [Act.put, List.setIfInBounds_toArray, List.set_cons_zero, List.set_cons_succ]
 refine till_op (v := ?_) 16 [17, 18] hM rfl (by kernel_rfl) (by kernel_rfl) (by kernel_rfl) (by kernel_rfl) rfl (fun _ _ _ h => h) (Or.inl ⟨by rfl, ?_⟩) hS (fun hM => ?_)
 rotate_left
 ·intro W hSw
  (try dsimp only at hSw)
  go_simp
  try with_reducible rfl
 try simp only [Act.put, List.setIfInBounds_toArray, List.set_cons_zero, List.set_cons_succ]
 have hM6 := TM.set2 hM5 p2 p1
 have HM4 : Hid (TM w D w.heap.size (w.heap.size + 1) (w.heap.size + 2) ⟨8, tx, att, stamp, op, key, value, mode, yes⟩ zeroR ⟨p2, p1, ⟨#[]⟩, false⟩ (shT g pc pl ps bl bd E { S with rows := pl2 }) _) := Lib.hid hM6
 have h51 := Mem.setAt [] (i := 1) hM5 (.int .i64 p1)
 have hSA := Mem.shAt (TM.rest (q := ⟨0, p1, ⟨#[]⟩, false⟩) h51) htx
 have hSC := TM.hc (q := ⟨0, p1, ⟨#[]⟩, false⟩) h51
 have hS6 : (w5.setCell ⟨w.heap.size + 2, 1, none⟩ (.int .i64 p1)).cell? ⟨g, 4, none⟩ = some (.pointer (some ⟨ps, 0, none⟩)) ∧ (w5.setCell ⟨w.heap.size + 2, 1, none⟩ (.int .i64 p1)).cell? ⟨g, 0, none⟩ = some (.int .i64 S.clock) ∧ (w5.setCell ⟨w.heap.size + 2, 1, none⟩ (.int .i64 p1)).cell? ⟨w.heap.size, 1, none⟩ = some (.int .i64 tx) ∧ (w5.setCell ⟨w.heap.size + 2, 1, none⟩ (.int .i64 p1)).cell? ⟨w.heap.size, 2, none⟩ = some (.int .i64 att) ∧ (w5.setCell ⟨w.heap.size + 2, 1, none⟩ (.int .i64 p1)).cell? ⟨w.heap.size, 3, none⟩ = some (.int .i64 stamp) := ⟨hSA.c4, hSA.c0, (cell_of_heap hSC rfl).1, (cell_of_heap hSC rfl).1, (cell_of_heap hSC rfl).1⟩
 clear hM6 h51 hSA hSC hM5
 refine till_one 17 hM rfl (by kernel_rfl) (fun K hK => ?_)
 go_simp
 refine hK _ _ (fun _ => hS6) (fun hM => ?_)
 have hS := hS6
 clear hK K
 try simp only [Act.put, List.setIfInBounds_toArray, List.set_cons_zero, List.set_cons_succ]
 refine till_one 18 hM rfl (by kernel_rfl) (fun K hK => ?_)
 go_simp
 refine hK _ _ (fun _ => hS6) (fun hM => ?_)
 have hS := hS6
 clear hK K
 try simp only [Act.put, List.setIfInBounds_toArray, List.set_cons_zero, List.set_cons_succ]
 refine till_one 19 hM rfl (by kernel_rfl) (fun K hK => ?_)
 go_simp
 refine hK _ _ (fun h => absurd rfl h) (fun hM => ?_)
 clear hK K
 try simp only [Act.put, List.setIfInBounds_toArray, List.set_cons_zero, List.set_cons_succ]
 refine till_done (by kernel_rfl) ?_ _
 generalize hW4 : (w5.setCell ⟨w.heap.size + 2, 1, none⟩ (.int .i64 p1)).setCell ⟨w.heap.size + 2, 0, none⟩ (.int .i64 p2) = W4 at *
 clear hW4
 have hq := HM4.out
 obtain ⟨c0, c1, c2, c3, -, -, -, -⟩ := TM.r2 hq
 obtain ⟨d0, d1, d2, d3, f0, f1, f2, f3⟩ := TM.r1 hq
 simp only [zeroR] at d0 d1 d2 d3 c0 c1 c2 c3
 have HEND := Lib.hid (HR.out _ hq)
 clear HM4 hq HR
 go_wp2_with fail
 obtain ⟨W5, hW5⟩ : ∃ W5, W5 = ((((W4.setCell ⟨w.heap.size + 1, 0, none⟩ (.int .i64 p2)).setCell ⟨w.heap.size + 1, 1, none⟩ (.int .i64 p1)).setCell ⟨w.heap.size + 1, 2, none⟩ (.string ⟨#[]⟩)).setCell ⟨w.heap.size + 1, 3, none⟩ (.bool false)) := ⟨_, rfl⟩
 rw [← hW5]
 obtain ⟨⟨v0, v1, v2, v3, -, -, -, -⟩, hR⟩ := HEND.out W5 hW5
 simp only at v0 v1 v2 v3
 clear hW5
 refine bodyPost_ret (by simp [results, Tryz.results37, go_sem, v0, v1, v2, v3]; try rfl) rfl ?_
 exact hR
end Go.Proofs.YtmifgnibalbgjaaGreat
