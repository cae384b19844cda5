/- A lock is asked for. -/
import Derived.Test.YtmifgnibalbgjaaGreatZM4
namespace Go.Proofs.YtmifgnibalbgjaaGreat
open Go.RowKit set_option linter.unusedVariables false set_option linter.unusedSimpArgs false
def codeR (n : Int) : Rp := ⟨n, 0, ⟨#[]⟩, false⟩
def lockM (S : Sh) (c : Cm) : Rp × Sh :=
 (codeR (askL S.locks c.tx c.key c.mode).1, { S with locks := (askL S.locks c.tx c.key c.mode).2, lives := kPut ltZ c.tx ⟨c.att, c, (liveM S c.tx).ws⟩ S.lives })
/-- what a command leaves. -/
def CmPost (w : World) (D : List Nat) (g : Nat) (x : Rp × Sh) (e : Ending) (w' : World) : Prop := e = .returned x.1.val ∧ Mem w D w' [ShA g x.2]
set_option maxRecDepth 100000 in
set_option maxHeartbeats 8000000 in
theorem lock_any (g : Nat) (S : Sh) (c : Cm) (w : World) {D : List Nat} (h : ShA g S w D) (htx : i64 c.tx) (hn : S.lives.length ≤ 1000) (ok : LOk S.locks) (hb : Sm 400 S.locks) :
  Calls Tryz.prog 39 #[.pointer (some ⟨g, 0, none⟩), c.val] w (CmPost w D g (lockM S c)) := by
 obtain ⟨pc, pl, ps, bl, bd, E, e, M⟩ := Mem.shOpen (Mem.start h)
 have HA := Lib.hid fun W (hb : Below w.heap.size w W) => Mem.shAt (M.below hb) htx
 have HX0 := Lib.hid (XM.begin (c := c) (x := (kGet c.tx E).getD ⟨0, zeroC, none, 0, 0, []⟩) (L := shT g pc pl ps bl bd E S) M)
 have HFIN : Hid (∀ W, Mem w D W (shT g pc pl ps bl bd (kPut ltZ c.tx ⟨c.att, c, ((kGet c.tx E).getD ⟨0, zeroC, none, 0, 0, []⟩).a, ((kGet c.tx E).getD ⟨0, zeroC, none, 0, 0, []⟩).n, ((kGet c.tx E).getD ⟨0, zeroC, none, 0, 0, []⟩).c, ((kGet c.tx E).getD ⟨0, zeroC, none, 0, 0, []⟩).ws⟩ E) { S with locks := (askL S.locks c.tx c.key c.mode).2 }) → CmPost w D g (lockM S c) (.returned (.agg #[.int .i64 (askL S.locks c.tx c.key c.mode).1, .int .i64 0, .string ⟨#[]⟩, .bool false])) W) := Lib.hid fun W hM => ⟨rfl, Mem.shShut { S with locks := (askL S.locks c.tx c.key c.mode).2, lives := kPut ltZ c.tx ⟨c.att, c, (liveM S c.tx).ws⟩ S.lives } (by
  rw [lvE_put, e]
  obtain ⟨-, e2⟩ := livesM_E e c.tx
  rw [e2]; rfl) hM⟩
 have hEl : E.length ≤ 1000 := by have := congrArg List.length e; simp [lvE] at this; omega
 obtain ⟨k, tx, att, stamp, op, key, value, mode, yes⟩ := c
 try simp only at HA
 try simp only at htx
 try simp only at HX0
 try simp only
 have hb1 := bel_one (bel_new w (.cells #[.int .i64 k, .int .i64 tx, .int .i64 att, .int .i64 stamp, .int .i64 op, .string key, .string value, .int .i64 mode, .bool yes] 28)) (.cells #[.int .i64 0, .int .i64 0, .string ⟨#[]⟩, .bool false] 35)
 have hcs := hp_old (w.alloc (.cells #[.int .i64 k, .int .i64 tx, .int .i64 att, .int .i64 stamp, .int .i64 op, .string key, .string value, .int .i64 mode, .bool yes] 28)) (.cells #[.int .i64 0, .int .i64 0, .string ⟨#[]⟩, .bool false] 35) _ w.heap.size (by simp) (heap_new w (.cells #[.int .i64 k, .int .i64 tx, .int .i64 att, .int .i64 stamp, .int .i64 op, .string key, .string value, .int .i64 mode, .bool yes] 28))
 obtain ⟨w1, hw1⟩ : ∃ w1, w1 = (w.alloc (.cells #[.int .i64 k, .int .i64 tx, .int .i64 att, .int .i64 stamp, .int .i64 op, .string key, .string value, .int .i64 mode, .bool yes] 28)).alloc (.cells #[.int .i64 0, .int .i64 0, .string ⟨#[]⟩, .bool false] 35) := ⟨_, rfl⟩
 have hsz : w1.heap.size = w.heap.size + 2 := by rw [hw1]; simp
 rw [← hw1] at hb1 hcs
 have hc5 := (HA.out _ hb1).c5
 have hc5a := fun o => (HA.out _ (bel_one hb1 o)).c5
 have htx0 := (cell_of_heap (i := 1) (v := .int .i64 tx) hcs rfl).1
 have htxa := fun o => ((bel_new w1 o).cell (World.block_lt_of_cell? w1 _ htx0)).trans htx0
 have hl0 := (HA.out _ (hb1.drew)).lives1
 have hl1 := fun o => (HA.out _ ((bel_one hb1 o).drew)).lives1
 have HX1 : Hid (XM w D w.heap.size (w.heap.size + 1) w1.heap.size ⟨k, tx, att, stamp, op, key, value, mode, yes⟩ zeroR ((kGet tx E).getD ⟨0, zeroC, none, 0, 0, []⟩) (shT g pc pl ps bl bd E S) (w1.alloc (.cells (Le.arr ((kGet tx E).getD ⟨0, zeroC, none, 0, 0, []⟩)) 108)).drew) := Lib.hid (by
  have h1 := HX0.out
  rw [show ((w.alloc (.cells (Cm.arr ⟨k, tx, att, stamp, op, key, value, mode, yes⟩) 28)).alloc (.cells zeroR.arr 35)) = w1 from hw1.symm] at h1
  rw [hsz]
  exact XM.below h1 (bel_drew _))
 have HSZ := Lib.hid hsz
 have hne1 : ¬ w.heap.size = w1.heap.size := by omega
 have hne2 : ¬ w1.heap.size = w.heap.size := by omega
 clear HX0 M hb1 hcs hsz
 have HOK := Lib.hid ok
 have HSM := Lib.hid hb
 clear h e ok hb hn
 generalize CmPost w D g (lockM S ⟨k, tx, att, stamp, op, key, value, mode, yes⟩) = R at *
 generalize hXX : (kGet tx E).getD ⟨0, zeroC, none, 0, 0, []⟩ = X at *
 have HXX := Lib.hid hXX
 clear hXX
 obtain ⟨xatt, ⟨xk, xtx, xat, xst, xop, xkey, xval, xmode, xyes⟩, xa, xn, xc, xws⟩ := X
 simp only at hl0 hl1 HX1 HFIN
 go_enter Tryz.func39, Tryz.ntmps39
 go_wp2_with fail
 rw [← hw1]
 clear hw1
 go_region
 obtain ⟨W2, hW2⟩ : ∃ W2, W2 = (w1.alloc (.cells #[.int .i64 xatt, .int .i64 xk, .int .i64 xtx, .int .i64 xat, .int .i64 xst, .int .i64 xop, .string xkey, .string xval, .int .i64 xmode, .bool xyes, .slice xa xn xc] 108)).drew := ⟨_, rfl⟩
 rw [← hW2] at HX1 ⊢
 clear hW2 hc5 hc5a htx0 htxa hl0 hl1
 go_upto_region 2 with (fail)
 go_cut [] from 6 to 17 (fun wx => Hid (XM w D w.heap.size (w.heap.size + 1) w1.heap.size ⟨k, tx, att, stamp, op, key, value, mode, yes⟩ zeroR ⟨att, ⟨k, tx, att, stamp, op, key, value, mode, yes⟩, xa, xn, xc, xws⟩ (shT g pc pl ps bl bd E S) wx))
 case first =>
  have hx := HX1.out.hx
  have hc := HX1.out.hc
  have hk0 := (cell_of_heap (i := 0) (v := .int .i64 k) hc rfl).1
  have hk1 := (cell_of_heap (i := 1) (v := .int .i64 tx) hc rfl).1
  have hk2 := (cell_of_heap (i := 2) (v := .int .i64 att) hc rfl).1
  have hk3 := (cell_of_heap (i := 3) (v := .int .i64 stamp) hc rfl).1
  have hk4 := (cell_of_heap (i := 4) (v := .int .i64 op) hc rfl).1
  have hk5 := (cell_of_heap (i := 5) (v := .string key) hc rfl).1
  have hk6 := (cell_of_heap (i := 6) (v := .string value) hc rfl).1
  have hk7 := (cell_of_heap (i := 7) (v := .int .i64 mode) hc rfl).1
  have hk8 := (cell_of_heap (i := 8) (v := .bool yes) hc rfl).1
  have hx0 := (cell_of_heap (i := 0) (v := .int .i64 xatt) hx rfl).1
  have fx0 := (cell_of_heap (i := 0) (v := .int .i64 xatt) hx rfl).2
  have hx1 := (cell_of_heap (i := 1) (v := .int .i64 xk) hx rfl).1
  have fx1 := (cell_of_heap (i := 1) (v := .int .i64 xk) hx rfl).2
  have hx2 := (cell_of_heap (i := 2) (v := .int .i64 xtx) hx rfl).1
  have fx2 := (cell_of_heap (i := 2) (v := .int .i64 xtx) hx rfl).2
  have hx3 := (cell_of_heap (i := 3) (v := .int .i64 xat) hx rfl).1
  have fx3 := (cell_of_heap (i := 3) (v := .int .i64 xat) hx rfl).2
  have hx4 := (cell_of_heap (i := 4) (v := .int .i64 xst) hx rfl).1
  have fx4 := (cell_of_heap (i := 4) (v := .int .i64 xst) hx rfl).2
  have hx5 := (cell_of_heap (i := 5) (v := .int .i64 xop) hx rfl).1
  have fx5 := (cell_of_heap (i := 5) (v := .int .i64 xop) hx rfl).2
  have hx6 := (cell_of_heap (i := 6) (v := .string xkey) hx rfl).1
  have fx6 := (cell_of_heap (i := 6) (v := .string xkey) hx rfl).2
  have hx7 := (cell_of_heap (i := 7) (v := .string xval) hx rfl).1
  have fx7 := (cell_of_heap (i := 7) (v := .string xval) hx rfl).2
  have hx8 := (cell_of_heap (i := 8) (v := .int .i64 xmode) hx rfl).1
  have fx8 := (cell_of_heap (i := 8) (v := .int .i64 xmode) hx rfl).2
  have hx9 := (cell_of_heap (i := 9) (v := .bool xyes) hx rfl).1
  have fx9 := (cell_of_heap (i := 9) (v := .bool xyes) hx rfl).2
  clear hx hc
  go_region
  all_goals
   go_wp2_with fail
   go_meet
   case rel =>
    first
     | exact Lib.hid (((HX1.out.setAtt att).setLast).below (bel_drew _))
     | exact Lib.hid (((HX1.out.setLast).setAtt att).below (bel_drew _))
     | (fail "none")
 case rest =>
  generalize wc = W3 at *
  have H3 := hcut
  clear hcut HX1 hne1 hne2
  go_wp2_with fail
  go_cut [] from 6 to 24 (fun wx => Hid (XM w D w.heap.size (w.heap.size + 1) w1.heap.size ⟨k, tx, att, stamp, op, key, value, mode, yes⟩ zeroR ⟨att, ⟨k, tx, att, stamp, op, key, value, mode, yes⟩, xa, xn, xc, xws⟩ (shT g pc pl ps bl bd (kPut ltZ tx ⟨att, ⟨k, tx, att, stamp, op, key, value, mode, yes⟩, xa, xn, xc, xws⟩ E) S) wx))
  case first =>
   have hA := Mem.shAt (XM.rest H3.out) htx
   have hc := H3.out.hc
   have hx := H3.out.hx
   have hg5 := hA.c5
   have hk1 := (cell_of_heap (i := 1) (v := .int .i64 tx) hc rfl).1
   have hx0 := (cell_of_heap (i := 0) (v := .int .i64 att) hx rfl).1
   have hx1 := (cell_of_heap (i := 1) (v := .int .i64 k) hx rfl).1
   have hx2 := (cell_of_heap (i := 2) (v := .int .i64 tx) hx rfl).1
   have hx3 := (cell_of_heap (i := 3) (v := .int .i64 att) hx rfl).1
   have hx4 := (cell_of_heap (i := 4) (v := .int .i64 stamp) hx rfl).1
   have hx5 := (cell_of_heap (i := 5) (v := .int .i64 op) hx rfl).1
   have hx6 := (cell_of_heap (i := 6) (v := .string key) hx rfl).1
   have hx7 := (cell_of_heap (i := 7) (v := .string value) hx rfl).1
   have hx8 := (cell_of_heap (i := 8) (v := .int .i64 mode) hx rfl).1
   have hx9 := (cell_of_heap (i := 9) (v := .bool yes) hx rfl).1
   have hx10 := (cell_of_heap (i := 10) (v := .slice xa xn xc) hx rfl).1
   have HBD := XM.below H3.out (bel_drew W3)
   have HRUN := sh_store [BlockA w1.heap.size (Le.arr ⟨att, ⟨k, tx, att, stamp, op, key, value, mode, yes⟩, xa, xn, xc, xws⟩) 108, BlockA (w.heap.size + 1) (Rp.arr zeroR) 35, BlockA w.heap.size (Cm.arr ⟨k, tx, att, stamp, op, key, value, mode, yes⟩) 28, shB g S pc pl ps bl bd, CellsA pc S.cells S.clast, TabA pl S.locks, StA ps S.rows] (r := [KMapA (intK Tryz.underlying3) bd (dnV S.dones)]) HBD htx (by omega) ⟨att, ⟨k, tx, att, stamp, op, key, value, mode, yes⟩, xa, xn, xc, xws⟩ ⟨by rw [HXX.out], by rw [HXX.out], by rw [HXX.out], by rw [HXX.out]⟩
   obtain ⟨w9, HR, HM9⟩ := HRUN
   have HN : Hid (XM w D w.heap.size (w.heap.size + 1) w1.heap.size ⟨k, tx, att, stamp, op, key, value, mode, yes⟩ zeroR ⟨att, ⟨k, tx, att, stamp, op, key, value, mode, yes⟩, xa, xn, xc, xws⟩ (shT g pc pl ps bl bd (kPut ltZ tx ⟨att, ⟨k, tx, att, stamp, op, key, value, mode, yes⟩, xa, xn, xc, xws⟩ E) S) w9) := Lib.hid HM9
   clear HM9 hA hc hx HBD
   have hS0 : W3.drew.cell? ⟨g, 5, none⟩ = some (.map (some bl)) ∧ W3.drew.cell? ⟨w.heap.size, 1, none⟩ = some (.int .i64 tx) ∧ W3.drew.cell? ⟨w1.heap.size, 0, none⟩ = some (.int .i64 att) ∧ W3.drew.cell? ⟨w1.heap.size, 1, none⟩ = some (.int .i64 k) ∧ W3.drew.cell? ⟨w1.heap.size, 2, none⟩ = some (.int .i64 tx) ∧ W3.drew.cell? ⟨w1.heap.size, 3, none⟩ = some (.int .i64 att) ∧ W3.drew.cell? ⟨w1.heap.size, 4, none⟩ = some (.int .i64 stamp) ∧ W3.drew.cell? ⟨w1.heap.size, 5, none⟩ = some (.int .i64 op) ∧ W3.drew.cell? ⟨w1.heap.size, 6, none⟩ = some (.string key) ∧ W3.drew.cell? ⟨w1.heap.size, 7, none⟩ = some (.string value) ∧ W3.drew.cell? ⟨w1.heap.size, 8, none⟩ = some (.int .i64 mode) ∧ W3.drew.cell? ⟨w1.heap.size, 9, none⟩ = some (.bool yes) ∧ W3.drew.cell? ⟨w1.heap.size, 10, none⟩ = some (.slice xa xn xc) := ⟨hg5, hk1, hx0, hx1, hx2, hx3, hx4, hx5, hx6, hx7, hx8, hx9, hx10⟩
   clear hg5 hk1 hx0 hx1 hx2 hx3 hx4 hx5 hx6 hx7 hx8 hx9 hx10
   refine wp_region_till (fun W => W.cell? ⟨g, 5, none⟩ = some (.map (some bl)) ∧ W.cell? ⟨w.heap.size, 1, none⟩ = some (.int .i64 tx) ∧ W.cell? ⟨w1.heap.size, 0, none⟩ = some (.int .i64 att) ∧ W.cell? ⟨w1.heap.size, 1, none⟩ = some (.int .i64 k) ∧ W.cell? ⟨w1.heap.size, 2, none⟩ = some (.int .i64 tx) ∧ W.cell? ⟨w1.heap.size, 3, none⟩ = some (.int .i64 att) ∧ W.cell? ⟨w1.heap.size, 4, none⟩ = some (.int .i64 stamp) ∧ W.cell? ⟨w1.heap.size, 5, none⟩ = some (.int .i64 op) ∧ W.cell? ⟨w1.heap.size, 6, none⟩ = some (.string key) ∧ W.cell? ⟨w1.heap.size, 7, none⟩ = some (.string value) ∧ W.cell? ⟨w1.heap.size, 8, none⟩ = some (.int .i64 mode) ∧ W.cell? ⟨w1.heap.size, 9, none⟩ = some (.bool yes) ∧ W.cell? ⟨w1.heap.size, 10, none⟩ = some (.slice xa xn xc)) 7 (by kernel_rfl) (hS0) (fun hM hS => ?_)
   refine till_op (v := ?_) 0 [1, 2, 3] hM rfl (by kernel_rfl) (by kernel_rfl) (by kernel_rfl) (by kernel_rfl) rfl (fun _ _ _ h => h) (Or.inl ⟨by rfl, ?_⟩) hS (fun hM => ?_)
   rotate_left
   ·intro W hSw
    (try dsimp only at hSw)
    go_simp
    try with_reducible rfl
   try simp only [Act.put, List.setIfInBounds_toArray, List.set_cons_zero, List.set_cons_succ]
   refine till_op (v := ?_) 1 [2, 3] hM rfl (by kernel_rfl) (by kernel_rfl) (by kernel_rfl) (by kernel_rfl) rfl (fun _ _ _ h => h) (Or.inl ⟨by rfl, ?_⟩) hS (fun hM => ?_)
   rotate_left
   ·intro W hSw
    (try dsimp only at hSw)
    go_simp
    try with_reducible rfl
   try simp only [Act.put, List.setIfInBounds_toArray, List.set_cons_zero, List.set_cons_succ]
   refine till_op (v := ?_) 2 [3] hM rfl (by kernel_rfl) (by kernel_rfl) (by kernel_rfl) (by kernel_rfl) rfl (fun _ _ _ h => h) (Or.inl ⟨by rfl, ?_⟩) hS (fun hM => ?_)
   rotate_left
   ·intro W hSw
    (try dsimp only at hSw)
    go_simp
    try with_reducible rfl
   try simp only [Act.put, List.setIfInBounds_toArray, List.set_cons_zero, List.set_cons_succ]
   refine till_op (v := ?_) 3 [] hM rfl (by kernel_rfl) (by kernel_rfl) (by kernel_rfl) (by kernel_rfl) rfl (fun _ _ _ h => h) (Or.inl ⟨by rfl, ?_⟩) hS (fun hM => ?_)
   rotate_left
   ·intro W hSw
    (try dsimp only at hSw)
    go_simp
    try with_reducible rfl
   try simp only [Act.put, List.setIfInBounds_toArray, List.set_cons_zero, List.set_cons_succ]
   refine till_op (v := ?_) 4 [5] hM rfl (by kernel_rfl) (by kernel_rfl) (by kernel_rfl) (by kernel_rfl) rfl (fun _ _ _ h => h) (Or.inl ⟨by rfl, ?_⟩) hS (fun hM => ?_)
   rotate_left
   ·intro W hSw
    (try dsimp only at hSw)
    go_simp
    try with_reducible rfl
   try simp only [Act.put, List.setIfInBounds_toArray, List.set_cons_zero, List.set_cons_succ]
   refine till_op (v := ?_) 5 [] hM rfl (by kernel_rfl) (by kernel_rfl) (by kernel_rfl) (by kernel_rfl) rfl (fun _ _ _ h => h) (Or.inl ⟨by rfl, ?_⟩) hS (fun hM => ?_)
   rotate_left
   ·intro W hSw
    (try dsimp only at hSw)
    go_simp
    try with_reducible rfl
   try simp only [Act.put, List.setIfInBounds_toArray, List.set_cons_zero, List.set_cons_succ]
   refine till_op (v := ?_) 6 [] hM rfl (by kernel_rfl) (by kernel_rfl) (by kernel_rfl) (by kernel_rfl) rfl (fun _ _ _ h => h) (Or.inl ⟨by rfl, ?_⟩) hS (fun hM => ?_)
   rotate_left
   ·intro W hSw
    (try dsimp only at hSw)
    go_simp
    try with_reducible rfl
   try simp only [Act.put, List.setIfInBounds_toArray, List.set_cons_zero, List.set_cons_succ]
   refine till_one 7 hM rfl (by kernel_rfl) (fun K hK => ?_)
   refine step_mapUpdateR rfl (.tmp 21) (.tmp 23) (.tmp 24) 96 rfl _ _ _ rfl rfl rfl HR ?_
   refine hK _ _ (fun h => absurd rfl h) (fun hM => ?_)
   clear hK K
   try simp only [Act.put, List.setIfInBounds_toArray, List.set_cons_zero, List.set_cons_succ]
   refine till_done (by kernel_rfl) ?_ _
   go_wp2_with fail
   go_meet
   case rel => exact HN
  case rest =>
   generalize wc = W4 at *
   have H4 := hcut
   clear hcut H3
   have HASK := Lib.hid ((mem_task (XM.tab (XM.below H4.out (bel_drew W4))) HOK.out HSM.out (o := tx) (k := key) (m := mode) rfl).mono
    (R' := fun e' w' => e' = .returned (.int .i64 (askL S.locks tx key mode).1) ∧ RAt w' (w.heap.size + 1) zeroR ∧ (w'.cell? ⟨g, 3, none⟩ = some (.pointer (some ⟨pl, 0, none⟩)) ∧ w'.cell? ⟨w.heap.size, 1, none⟩ = some (.int .i64 tx) ∧ w'.cell? ⟨w.heap.size, 5, none⟩ = some (.string key) ∧ w'.cell? ⟨w.heap.size, 7, none⟩ = some (.int .i64 mode)) ∧ ∀ W5, W5 = ((((w'.setCell ⟨w.heap.size + 1, 0, none⟩ (.int .i64 (askL S.locks tx key mode).1)).setCell ⟨w.heap.size + 1, 1, none⟩ (.int .i64 0)).setCell ⟨w.heap.size + 1, 2, none⟩ (.string ⟨#[]⟩)).setCell ⟨w.heap.size + 1, 3, none⟩ (.bool false)) → RAt W5 (w.heap.size + 1) (codeR (askL S.locks tx key mode).1) ∧ R (.returned (.agg #[.int .i64 (askL S.locks tx key mode).1, .int .i64 0, .string ⟨#[]⟩, .bool false])) W5) (fun e' w' ⟨he, hm⟩ => by
     have h1 := XM.untab hm
     have hc := h1.hc
     refine ⟨he, h1.rat, ⟨(Mem.shAt (XM.rest h1) htx).c3, (cell_of_heap hc rfl).1, (cell_of_heap hc rfl).1, (cell_of_heap hc rfl).1⟩, fun W5 hW5 => ?_⟩
     have h2 := XM.setR h1 (codeR (askL S.locks tx key mode).1)
     subst hW5
     exact ⟨h2.rat, HFIN.out _ (XM.rest h2)⟩))
   have hA := Mem.shAt (XM.rest H4.out) htx
   have hc := H4.out.hc
   have hg3 := hA.c3
   have hk1 := (cell_of_heap (i := 1) (v := .int .i64 tx) hc rfl).1
   have hk5 := (cell_of_heap (i := 5) (v := .string key) hc rfl).1
   have hk7 := (cell_of_heap (i := 7) (v := .int .i64 mode) hc rfl).1
   have hS0 : W4.drew.cell? ⟨g, 3, none⟩ = some (.pointer (some ⟨pl, 0, none⟩)) ∧ W4.drew.cell? ⟨w.heap.size, 1, none⟩ = some (.int .i64 tx) ∧ W4.drew.cell? ⟨w.heap.size, 5, none⟩ = some (.string key) ∧ W4.drew.cell? ⟨w.heap.size, 7, none⟩ = some (.int .i64 mode) := ⟨hg3, hk1, hk5, hk7⟩
   clear hA hc H4 HFIN HA HOK HSM HXX hg3 hk1 hk5 hk7
   generalize (askL S.locks tx key mode).1 = ac at *
   go_wp2_with fail
   refine wp_region_till (fun W => W.cell? ⟨g, 3, none⟩ = some (.pointer (some ⟨pl, 0, none⟩)) ∧ W.cell? ⟨w.heap.size, 1, none⟩ = some (.int .i64 tx) ∧ W.cell? ⟨w.heap.size, 5, none⟩ = some (.string key) ∧ W.cell? ⟨w.heap.size, 7, none⟩ = some (.int .i64 mode)) 12 (by kernel_rfl) (hS0) (fun hM hS => ?_)
   refine till_op (v := ?_) 0 [1, 2, 3, 10, 11] hM rfl (by kernel_rfl) (by kernel_rfl) (by kernel_rfl) (by kernel_rfl) rfl (fun _ _ _ h => h) (Or.inl ⟨by rfl, ?_⟩) hS (fun hM => ?_)
   rotate_left
   ·intro W hSw
    (try dsimp only at hSw)
    go_simp
    try with_reducible rfl
   try simp only [Act.put, List.setIfInBounds_toArray, List.set_cons_zero, List.set_cons_succ]
   refine till_op (v := ?_) 1 [2, 3, 10, 11] hM rfl (by kernel_rfl) (by kernel_rfl) (by kernel_rfl) (by kernel_rfl) rfl (fun _ _ _ h => h) (Or.inl ⟨by rfl, ?_⟩) hS (fun hM => ?_)
   rotate_left
   ·intro W hSw
    (try dsimp only at hSw)
    go_simp
    try with_reducible rfl
   try simp only [Act.put, List.setIfInBounds_toArray, List.set_cons_zero, List.set_cons_succ]
   refine till_op (v := ?_) 2 [3, 10, 11] hM rfl (by kernel_rfl) (by kernel_rfl) (by kernel_rfl) (by kernel_rfl) rfl (fun _ _ _ h => h) (Or.inl ⟨by rfl, ?_⟩) hS (fun hM => ?_)
   rotate_left
   ·intro W hSw
    (try dsimp only at hSw)
    go_simp
    try with_reducible rfl
   try simp only [Act.put, List.setIfInBounds_toArray, List.set_cons_zero, List.set_cons_succ]
   refine till_op (v := ?_) 3 [10, 11] hM rfl (by kernel_rfl) (by kernel_rfl) (by kernel_rfl) (by kernel_rfl) rfl (fun _ _ _ h => h) (Or.inl ⟨by rfl, ?_⟩) hS (fun hM => ?_)
   rotate_left
   ·intro W hSw
    (try dsimp only at hSw)
    go_simp
    try with_reducible rfl
   try simp only [Act.put, List.setIfInBounds_toArray, List.set_cons_zero, List.set_cons_succ]
   refine till_op (v := ?_) 4 [5, 10, 11] hM rfl (by kernel_rfl) (by kernel_rfl) (by kernel_rfl) (by kernel_rfl) rfl (fun _ _ _ h => h) (Or.inl ⟨by rfl, ?_⟩) hS (fun hM => ?_)
   rotate_left
   ·intro W hSw
    (try dsimp only at hSw)
    go_simp
    try with_reducible rfl
   try simp only [Act.put, List.setIfInBounds_toArray, List.set_cons_zero, List.set_cons_succ]
   refine till_op (v := ?_) 5 [10, 11] hM rfl (by kernel_rfl) (by kernel_rfl) (by kernel_rfl) (by kernel_rfl) rfl (fun _ _ _ h => h) (Or.inl ⟨by rfl, ?_⟩) hS (fun hM => ?_)
   rotate_left
   ·intro W hSw
    (try dsimp only at hSw)
    go_simp
    try with_reducible rfl
   try simp only [Act.put, List.setIfInBounds_toArray, List.set_cons_zero, List.set_cons_succ]
   refine till_op (v := ?_) 6 [7, 10, 11] hM rfl (by kernel_rfl) (by kernel_rfl) (by kernel_rfl) (by kernel_rfl) rfl (fun _ _ _ h => h) (Or.inl ⟨by rfl, ?_⟩) hS (fun hM => ?_)
   rotate_left
   ·intro W hSw
    (try dsimp only at hSw)
    go_simp
    try with_reducible rfl
   try simp only [Act.put, List.setIfInBounds_toArray, List.set_cons_zero, List.set_cons_succ]
   refine till_op (v := ?_) 7 [10, 11] hM rfl (by kernel_rfl) (by kernel_rfl) (by kernel_rfl) (by kernel_rfl) rfl (fun _ _ _ h => h) (Or.inl ⟨by rfl, ?_⟩) hS (fun hM => ?_)
   rotate_left
   ·intro W hSw
    (try dsimp only at hSw)
    go_simp
    try with_reducible rfl
   try simp only [Act.put, List.setIfInBounds_toArray, List.set_cons_zero, List.set_cons_succ]
   refine till_op (v := ?_) 8 [9, 10, 11] hM rfl (by kernel_rfl) (by kernel_rfl) (by kernel_rfl) (by kernel_rfl) rfl (fun _ _ _ h => h) (Or.inl ⟨by rfl, ?_⟩) hS (fun hM => ?_)
   rotate_left
   ·intro W hSw
    (try dsimp only at hSw)
    go_simp
    try with_reducible rfl
   try simp only [Act.put, List.setIfInBounds_toArray, List.set_cons_zero, List.set_cons_succ]
   refine till_op (v := ?_) 9 [10, 11] hM rfl (by kernel_rfl) (by kernel_rfl) (by kernel_rfl) (by kernel_rfl) rfl (fun _ _ _ h => h) (Or.inl ⟨by rfl, ?_⟩) hS (fun hM => ?_)
   rotate_left
   ·intro W hSw
    (try dsimp only at hSw)
    go_simp
    try with_reducible rfl
   try simp only [Act.put, List.setIfInBounds_toArray, List.set_cons_zero, List.set_cons_succ]
   refine till_one 10 hM rfl (by kernel_rfl) (fun K hK => ?_)
   go_simp
   go_at_call 88
   refine HASK.out.mono ?_
   rintro e w5 ⟨rfl, ⟨c0, c1, c2, c3, f0, f1, f2, f3⟩, hS5, hfin⟩
   simp only [zeroR] at c0 c1 c2 c3
   refine hK _ _ (fun _ => hS5) (fun hM => ?_)
   have hS := hS5
   clear hK K
   try simp only [Act.put, List.setIfInBounds_toArray, List.set_cons_zero, List.set_cons_succ]
   refine till_one 11 hM rfl (by kernel_rfl) (fun K hK => ?_)
   go_simp
   refine hK _ _ (fun _ => hS5) (fun hM => ?_)
   have hS := hS5
   clear hK K
   try simp only [Act.put, List.setIfInBounds_toArray, List.set_cons_zero, List.set_cons_succ]
   refine till_one 12 hM rfl (by kernel_rfl) (fun K hK => ?_)
   go_simp
   refine hK _ _ (fun h => absurd rfl h) (fun hM => ?_)
   clear hK K
   try simp only [Act.put, List.setIfInBounds_toArray, List.set_cons_zero, List.set_cons_succ]
   refine till_done (by kernel_rfl) ?_ _
   obtain ⟨W5, hW5⟩ : ∃ W5, W5 = ((((w5.setCell ⟨w.heap.size + 1, 0, none⟩ (.int .i64 ac)).setCell ⟨w.heap.size + 1, 1, none⟩ (.int .i64 0)).setCell ⟨w.heap.size + 1, 2, none⟩ (.string ⟨#[]⟩)).setCell ⟨w.heap.size + 1, 3, none⟩ (.bool false)) := ⟨_, rfl⟩
   rw [← hW5]
   obtain ⟨⟨v0, v1, v2, v3, -, -, -, -⟩, hR⟩ := hfin W5 hW5
   simp only [codeR] at v0 v1 v2 v3
   clear hfin hW5 c0 c1 c2 c3 f0 f1 f2 f3
   go_wp2_with fail
   refine bodyPost_ret (by simp [results, Tryz.results39, go_sem, v0, v1, v2, v3]; try rfl) rfl ?_
   exact hR
end Go.Proofs.YtmifgnibalbgjaaGreat
/- What a live one wrote to a key. -/
namespace Go.Proofs.YtmifgnibalbgjaaGreat
open Go.RowKit set_option linter.unusedVariables false set_option linter.unusedSimpArgs false
abbrev SortW (l : List Wr) : Prop := l.Pairwise fun a b => ltS a.key b.key = true
/-- what one wrote: where it is, or would be. -/
def posW (l : List Wr) (k : ByteArray) : Nat := posBy (fun w => ltS w.key k) l
def hasW (l : List Wr) (k : ByteArray) : Bool := l.any fun w => decide (w.key = k)
def wrW (l : List Wr) (k : ByteArray) : Wr := (l[posW l k]?).getD ⟨⟨#[]⟩, ⟨#[]⟩, false⟩
theorem posW_ge {l : List Wr} (hs : SortW l) (k : ByteArray) (j : Nat) (h : j < l.length) (hj : posW l k ≤ j) : ltS l[j].key k = false :=
 posBy_ge (fun l : Wr => ltS l.key k) (fun a b => ltS a.key b.key = true) (fun a b hab ha => by
  cases hb : ltS b.key k with
  | false => rfl
  | true => rw [ltS_trans hab hb] at ha; cases ha) l hs j h hj
theorem posW_lt {l : List Wr} (k : ByteArray) (j : Nat) (h : j < l.length) (hj : j < posW l k) : ltS l[j].key k = true := posBy_lt (fun l : Wr => ltS l.key k) l j h hj
theorem posW_le (l : List Wr) (k : ByteArray) : posW l k ≤ l.length := posBy_le _ _
theorem hasW_iff {l : List Wr} (hs : SortW l) (k : ByteArray) : hasW l k = true ↔ ∃ h : posW l k < l.length, (l[posW l k]'h).key = k := by
 constructor
 ·intro h
  obtain ⟨m, hm, e⟩ := List.any_eq_true.1 h
  obtain ⟨j, hj, rfl⟩ := List.getElem_of_mem hm
  have e' : l[j].key = k := by simpa using e
  have h1 : posW l k ≤ j := by
   rcases Nat.lt_or_ge j (posW l k) with h | h
   ·have := posW_lt k j hj h; rw [e', ltS_irrefl] at this; cases this
   ·exact h
  have h2 : posW l k < l.length := by omega
  have h3 := posW_ge hs k _ h2 (Nat.le_refl _)
  refine ⟨h2, ?_⟩
  rcases Nat.lt_or_ge (posW l k) j with h | h
  ·have := List.pairwise_iff_getElem.1 hs _ _ h2 hj h
   rw [e'] at this; rw [this] at h3; cases h3
  ·obtain rfl : j = posW l k := by omega
   exact e'
 ·rintro ⟨h, e⟩
  exact List.any_eq_true.2 ⟨_, List.getElem_mem h, by simpa using e⟩
theorem foundW {l : List Wr} (hs : SortW l) (k : ByteArray) : foundAt (fun (x : Wr) (t : ByteArray) => cmpS x.key t) l k (posW l k) = hasW l k := by
 rw [Bool.eq_iff_iff, hasW_iff hs]
 unfold foundAt
 simp only [decide_eq_true_eq]
 constructor
 ·rintro ⟨_, h, e⟩; exact ⟨h, (cmpS_zero _ _).1 e⟩
 ·rintro ⟨h, e⟩; exact ⟨h, h, (cmpS_zero _ _).2 e⟩
set_option maxRecDepth 100000 in
set_option maxHeartbeats 800000 in
theorem wrote_any (x : Le) (k : ByteArray) (w : World) (hr : Row w 43 3 x.a x.n x.c (wrFlat x.ws)) (hs : SortW x.ws) (hn : x.ws.length ≤ 1000000) :
  Calls Tryz.prog 90 #[x.val, .string k] w fun e w' => e = .returned (.tuple #[.int .i64 (posW x.ws k), .bool (hasW x.ws k)]) ∧ Below w.heap.size w w' := by
 have hnl : x.n = x.ws.length := by have := hr.len; rw [wrFlat_len] at this; omega
 have HB := Lib.hid fun W (hb : Below w.heap.size w W) => wrote_bsf (fun (x : Wr) (t : ByteArray) => cmpS x.key t) wrote1_any x.a x.n x.c x.ws k (posW x.ws k) W (hr.below hb) (by omega) (posW_le _ _)
  (fun j hj hl => (cmpS_neg _ _).2 (posW_lt k j hj hl)) (fun j hj hl => by
   have h1 := posW_ge hs k j hj hl
   rcases Int.lt_or_le (cmpS x.ws[j].key k) 0 with h2 | h2
   ·rw [(cmpS_neg _ _).1 h2] at h1; cases h1
   ·exact h2)
 rw [foundW hs] at HB
 clear hr hs hn hnl
 obtain ⟨xatt, ⟨xk, xtx, xat, xst, xop, xkey, xval, xmode, xyes⟩, xa, xn, xc, xws⟩ := x
 simp only at HB ⊢
 generalize posW xws k = p at *
 generalize hasW xws k = q at *
 have HB2 := Lib.hid (HB.out _ (bel_new w (.cells #[.int .i64 xatt, .int .i64 xk, .int .i64 xtx, .int .i64 xat, .int .i64 xst, .int .i64 xop, .string xkey, .string xval, .int .i64 xmode, .bool xyes, .slice xa xn xc] 108)))
 have hbl := Lib.hid (bel_new w (.cells #[.int .i64 xatt, .int .i64 xk, .int .i64 xtx, .int .i64 xat, .int .i64 xst, .int .i64 xop, .string xkey, .string xval, .int .i64 xmode, .bool xyes, .slice xa xn xc] 108))
 clear HB
 go_enter Tryz.func90, Tryz.ntmps90
 go_wp2_with fail
 refine HB2.out.mono ?_
 rintro e w1 ⟨rfl, hb⟩
 have HB3 := Lib.hid (hbl.out.trans (hb.mono hbl.out.size))
 clear hb
 go_wp2_with fail
 go_ret2
 exact ⟨rfl, HB3.out⟩
/-- the row of a live one. -/
theorem sh_row {w0 w : World} {D0 : List Nat} (l : List Asn) {r : List Asn} [Stables l] [Stables r] {bl : Nat} {E : List (Int × Le)} (h : Mem w0 D0 w (l ++ KRowsA (intK Tryz.underlying3) Le.val Le.row bl E :: r)) {tx : Int} {x : Le} (hx : kGet tx E = some x) : Row w 43 3 x.a x.n x.c (wrFlat x.ws) := by
 obtain ⟨A, B, hE, hA, hB, hO⟩ := Mem.krOpen l h hx
 have sA : Stables (A.map fun p => Le.row p.2) := stables_map (fun _ => inferInstance) A
 have sB : Stables (B.map fun p => Le.row p.2) := stables_map (fun _ => inferInstance) B
 exact Mem.rowAt _ hO
theorem tab_at {w0 w : World} {D0 : List Nat} {pl : Nat} {L : List Li} {r : List Asn} [Stables r] (h : Mem w0 D0 w (TabA pl L :: r)) (ok : LOk L) (hb : Sm 400 L) (tx : Int) (k : ByteArray) :
  Calls Tryz.prog 89 #[.pointer (some ⟨pl, 0, none⟩), .int .i64 tx, .string k] w fun e w' => e = .returned (.int .i64 (ofH (lineL L k).hs tx)) ∧ Below w.heap.size w w' := by
 obtain ⟨D, hA⟩ := Mem.get [] h
 exact tab_holds pl L tx k w D hA ok.s (by have := hb.1; omega)
end Go.Proofs.YtmifgnibalbgjaaGreat
