/- An attempt is ended. -/
import Derived.Test.YtmifgnibalbgjaaGreatZN1
namespace Go.Proofs.YtmifgnibalbgjaaGreat
open Go.RowKit set_option linter.unusedVariables false set_option linter.unusedSimpArgs false
theorem finM_over {S : Sh} {c : Cm} (h : overM S c.tx c.att = true) : finM S c = (codeR 0, S) := by unfold finM; rw [if_pos h]
theorem finM_state {S : Sh} {c : Cm} (h : overM S c.tx c.att = false) (h2 : livesM S c.tx = true) (h3 : (liveM S c.tx).att < c.att) : finM S c = (codeR 8, S) := by
 unfold finM
 rw [if_neg (by rw [h]; decide), if_pos (by rw [h2, decide_eq_true h3]; rfl)]
theorem finM_none {S : Sh} {c : Cm} (h : overM S c.tx c.att = false) (h2 : livesM S c.tx = false) : finM S c = (codeR 0, doneS S c) := by
 unfold finM
 rw [if_neg (by rw [h]; decide), if_neg (by rw [h2]; simp), if_neg (by rw [h2]; simp)]
theorem finM_newer {S : Sh} {c : Cm} (h : overM S c.tx c.att = false) (h3 : c.att < (liveM S c.tx).att) : finM S c = (codeR 0, doneS S c) := by
 unfold finM
 rw [if_neg (by rw [h]; decide), if_neg (by simp; intro _; omega), if_neg (by simp; intro _; omega)]
theorem finM_end {S : Sh} {c : Cm} (h : overM S c.tx c.att = false) (h2 : livesM S c.tx = true) (h3 : (liveM S c.tx).att = c.att) : finM S c = (codeR 0, goneS (if isW c (liveM S c.tx).ws then flushS (doneS S c) (liveM S c.tx).ws else doneS S c) c.tx) := by
 unfold finM
 rw [if_neg (by rw [h]; decide), if_neg (by simp; intro _; omega), if_pos (by rw [h2, decide_eq_true h3]; rfl)]
section
variable {w W W' : World} {D : List Nat} {b0 b1 b2 : Nat} {c : Cm} {r : Rp} {x : Le} {g pc pl ps bl bd : Nat} {E : List (Int × Le)} {S : Sh}
theorem XM.shut (h : XM w D b0 b1 b2 c r x (shT g pc pl ps bl bd E S) W) (e : lvE E = S.lives) : ∃ D', ShA g S W D' := by
 exact Mem.get [] (A := ShA g S) (r := []) (Mem.shShut S e (XM.rest h))
theorem XM.done (h : XM w D b0 b1 b2 c r x (shT g pc pl ps bl bd E S) W) (htx : i64 c.tx) (hn : S.dones.length ≤ 1000) :
  ∃ w', (Instr.mapUpdate 97 (.map (some bd)) (.int .i64 c.tx) (.int .i64 c.att)).run Tryz.prog W = .ok () w' ∧ XM w D b0 b1 b2 c r x (shT g pc pl ps bl bd E (doneS S c)) w' := by
 obtain ⟨w', h1, h2⟩ := Mem.kStore [BlockA b2 x.arr 108, BlockA b1 r.arr 35, BlockA b0 c.arr 28, shB g S pc pl ps bl bd, CellsA pc S.cells S.clast, TabA pl S.locks, StA ps S.rows, KRowsA (intK Tryz.underlying3) Le.val Le.row bl E] (r := []) h Tryz.underlying97 (x := c.tx) (wf_i64 htx) (.int .i64 c.att) (by unfold dnV maxLen; rw [List.length_map]; omega)
 refine ⟨w', h1, ?_⟩
 have e : kPut (intK (P := Tryz.prog) Tryz.underlying3).lt c.tx (.int .i64 c.att) (dnV S.dones) = dnV (doneS S c).dones := kPut_map ltZ (fun n : Int => Value.int .i64 n) c.tx c.att S.dones
 rw [e] at h2
 exact h2
theorem XM.drop (h : XM w D b0 b1 b2 c r x (shT g pc pl ps bl bd E S) W) (htx : i64 c.tx) (ty : Nat) :
  ∃ w', (Builtin.delete_ #[96, 3] ty #[.map (some bl), .int .i64 c.tx]).run Tryz.prog W = .ok (.tuple #[]) w' ∧ XM w D b0 b1 b2 c r x (shT g pc pl ps bl bd (kDel c.tx E) S) w' :=
 Mem.krDrop [BlockA b2 x.arr 108, BlockA b1 r.arr 35, BlockA b0 c.arr 28, shB g S pc pl ps bl bd, CellsA pc S.cells S.clast, TabA pl S.locks, StA ps S.rows] (r := [KMapA (intK Tryz.underlying3) bd (dnV S.dones)]) (row := Le.row) (enc := Le.val) (ordI Tryz.underlying3) Tryz.underlying96 (x := c.tx) (wf_i64 htx) h ty
theorem XM.leave (h : XM w D b0 b1 b2 c r x (shT g pc pl ps bl bd E S) W) (ok : LOk S.locks) (hb : Sm 400 S.locks) (o : Int) :
  Calls Tryz.prog 83 #[.pointer (some ⟨pl, 0, none⟩), .int .i64 o] W fun e w' => (∃ v, e = .returned v) ∧ XM w D b0 b1 b2 c r x (shT g pc pl ps bl bd E { S with locks := (leaveL S.locks o).2 }) w' := by
 refine (mem_tleave (XM.tab h) ok hb o).mono ?_
 rintro e w' ⟨a, k, rfl, hm⟩
 exact ⟨⟨_, rfl⟩, XM.untab (Mem.drop [] (A := RowI a k (riseI (leaveL S.locks o).1)) (r := TabA pl (leaveL S.locks o).2 :: tabR b0 b1 b2 c r x g pc pl ps bl bd E S) hm)⟩
theorem XM.cput (h : XM w D b0 b1 b2 c r x (shT g pc pl ps bl bd E S) W) (ok : COk 1000 S.cells) (k v : ByteArray) (hs : Bool) (t : Int) (hk : k.size ≤ maxLen) (hv : v.size ≤ maxLen) :
  Calls Tryz.prog 82 #[.pointer (some ⟨pc, 0, none⟩), .string k, .string v, .bool hs, .int .i64 t] W fun e w' => (∃ v, e = .returned v) ∧ XM w D b0 b1 b2 c r x (shT g pc pl ps bl bd E { S with cells := (cputM S.cells S.clast k v hs t).2.1, clast := (cputM S.cells S.clast k v hs t).2.2 }) w' := by
 have h1 := Mem.perm h (List.perm_middle (l₁ := [BlockA b2 x.arr 108, BlockA b1 r.arr 35, BlockA b0 c.arr 28, shB g S pc pl ps bl bd]) (a := CellsA pc S.cells S.clast) (l₂ := [TabA pl S.locks, StA ps S.rows, KRowsA (intK Tryz.underlying3) Le.val Le.row bl E, KMapA (intK Tryz.underlying3) bd (dnV S.dones)]))
 refine (Mem.head h1 (Q := fun e => e = .returned (.int .i64 (cputM S.cells S.clast k v hs t).1)) (B := fun _ => [CellsA pc (cputM S.cells S.clast k v hs t).2.1 (cputM S.cells S.clast k v hs t).2.2]) (fun D' hD' => cells_put hD' ok k v hs t hk hv)).mono fun e w' ⟨he, hm⟩ => ⟨⟨_, he⟩, ?_⟩
 exact Mem.perm hm (List.perm_middle (l₁ := [BlockA b2 x.arr 108, BlockA b1 r.arr 35, BlockA b0 c.arr 28, shB g S pc pl ps bl bd]) (a := CellsA pc (cputM S.cells S.clast k v hs t).2.1 (cputM S.cells S.clast k v hs t).2.2) (l₂ := [TabA pl S.locks, StA ps S.rows, KRowsA (intK Tryz.underlying3) Le.val Le.row bl E, KMapA (intK Tryz.underlying3) bd (dnV S.dones)])).symm
theorem XM.mom (h : XM w D b0 b1 b2 c r x (shT g pc pl ps bl bd E S) W) (m : Int) : XM w D b0 b1 b2 c r x (shT g pc pl ps bl bd E { S with moment := m }) (W.setCell ⟨g, 1, none⟩ (.int .i64 m)) :=
 Mem.setAt [BlockA b2 x.arr 108, BlockA b1 r.arr 35, BlockA b0 c.arr 28] (r := CellsA pc S.cells S.clast :: TabA pl S.locks :: StA ps S.rows :: KRowsA (intK Tryz.underlying3) Le.val Le.row bl E :: [KMapA (intK Tryz.underlying3) bd (dnV S.dones)]) (i := 1) h (.int .i64 m)
theorem XM.hg (h : XM w D b0 b1 b2 c r x (shT g pc pl ps bl bd E S) W) : W.frozen? ⟨g, 1, none⟩ = false ∧ W.frozen? ⟨g, 0, none⟩ = false := by
 have hB := (Mem.get [BlockA b2 x.arr 108, BlockA b1 r.arr 35, BlockA b0 c.arr 28] (A := shB g S pc pl ps bl bd) (r := CellsA pc S.cells S.clast :: TabA pl S.locks :: StA ps S.rows :: KRowsA (intK Tryz.underlying3) Le.val Le.row bl E :: [KMapA (intK Tryz.underlying3) bd (dnV S.dones)]) h).choose_spec.2
 exact ⟨(cell_of_heap (i := 1) (v := .int .i64 S.moment) hB rfl).2, (cell_of_heap (i := 0) (v := .int .i64 S.clock) hB rfl).2⟩
theorem XM.wrow (h : XM w D b0 b1 b2 c r x (shT g pc pl ps bl bd E S) W) {tx : Int} {X : Le} (hx : kGet tx E = some X) : Row W 43 3 X.a X.n X.c (wrFlat X.ws) :=
 sh_row [BlockA b2 x.arr 108, BlockA b1 r.arr 35, BlockA b0 c.arr 28, shB g S pc pl ps bl bd, CellsA pc S.cells S.clast, TabA pl S.locks, StA ps S.rows] (r := [KMapA (intK Tryz.underlying3) bd (dnV S.dones)]) h hx
end
theorem lvE_del (tx : Int) (E : List (Int × Le)) : lvE (kDel tx E) = kDel tx (lvE E) := (kDel_map Le.lv tx E).symm
/-- what is put of a row of writings, so far. -/
def flushI (S : Sh) (t : Int) (ws : List Wr) (i : Nat) : Sh := { S with moment := t, cells := (flushC t (ws.take i) S.cells S.clast).1, clast := (flushC t (ws.take i) S.cells S.clast).2 }
theorem flushI_next (S : Sh) (t : Int) (ws : List Wr) {i : Nat} (h : i < ws.length) : flushI S t ws (i + 1) = { flushI S t ws i with cells := (cputM (flushI S t ws i).cells (flushI S t ws i).clast ws[i].key ws[i].v ws[i].h t).2.1, clast := (cputM (flushI S t ws i).cells (flushI S t ws i).clast ws[i].key ws[i].v ws[i].h t).2.2 } := by
 unfold flushI
 rw [List.take_succ_eq_append_getElem h, flushC_snoc]
theorem flushI_all (S : Sh) (t : Int) (ws : List Wr) : flushI S t ws ws.length = { S with moment := t, cells := (flushC t ws S.cells S.clast).1, clast := (flushC t ws S.cells S.clast).2 } := by
 unfold flushI
 rw [List.take_length]
theorem flushI_ok {K : List ByteArray} {N : Nat} {S : Sh} {t : Int} (h : CI K N S.cells S.clast) (ht : 1 ≤ t ∧ t ≤ 1099511627776) (hl : S.clast ≤ t) {ws : List Wr} (hs : SortW ws) (hw : ∀ w ∈ ws, WOk K w) (i : Nat) (hK : K.length ≤ 900) (hN : N ≤ 900) : COk 1000 (flushI S t ws i).cells :=
 (h.flush ht hl (ws := ws.take i) (hs.sublist (List.take_sublist ..)) (fun w hw' => hw w (List.mem_of_mem_take hw'))).1.ok (by omega) (by omega)
set_option maxRecDepth 100000 in
set_option maxHeartbeats 16000000 in
theorem sfin_any (g : Nat) (S : Sh) (c : Cm) (w : World) {D : List Nat} (h : ShA g S w D) (htx : i64 c.tx) (K : List ByteArray) (n : Nat) (hS : SInv K n S) (hn : n ≤ 390) (hK : K.length ≤ 900) :
  Calls Tryz.prog 36 #[.pointer (some ⟨g, 0, none⟩), c.val] w (CmPost w D g (finM S c)) := by
 obtain ⟨pc, pl, ps, bl, bd, E, e, M⟩ := Mem.shOpen (Mem.start h)
 have HA := Lib.hid fun W (hb : Below w.heap.size w W) => Mem.shAt (M.below hb) htx
 have HX0 := Lib.hid (XM.begin (c := c) (x := (kGet c.tx E).getD ⟨0, zeroC, none, 0, 0, []⟩) (L := shT g pc pl ps bl bd E S) M)
 obtain ⟨k, tx, att, stamp, op, key, value, mode, yes⟩ := c
 try simp only at HA
 try simp only at htx
 try simp only at HX0
 try simp only
 have hb1 := bel_one (bel_new w (.cells #[.int .i64 k, .int .i64 tx, .int .i64 att, .int .i64 stamp, .int .i64 op, .string key, .string value, .int .i64 mode, .bool yes] 28)) (.cells #[.int .i64 0, .int .i64 0, .string ⟨#[]⟩, .bool false] 35)
 have hcs := hp_old (w.alloc (.cells #[.int .i64 k, .int .i64 tx, .int .i64 att, .int .i64 stamp, .int .i64 op, .string key, .string value, .int .i64 mode, .bool yes] 28)) (.cells #[.int .i64 0, .int .i64 0, .string ⟨#[]⟩, .bool false] 35) _ w.heap.size (by simp) (heap_new w (.cells #[.int .i64 k, .int .i64 tx, .int .i64 att, .int .i64 stamp, .int .i64 op, .string key, .string value, .int .i64 mode, .bool yes] 28))
 obtain ⟨w1, hw1⟩ : ∃ w1, w1 = (w.alloc (.cells #[.int .i64 k, .int .i64 tx, .int .i64 att, .int .i64 stamp, .int .i64 op, .string key, .string value, .int .i64 mode, .bool yes] 28)).alloc (.cells #[.int .i64 0, .int .i64 0, .string ⟨#[]⟩, .bool false] 35) := ⟨_, rfl⟩
 have hsz : w1.heap.size = w.heap.size + 2 := by rw [hw1]; simp
 rw [← hw1] at hb1 hcs
 have hc5 := (HA.out _ hb1).c5
 have hc5a := fun o => (HA.out _ (bel_one hb1 o)).c5
 have htx0 := (cell_of_heap (i := 1) (v := .int .i64 tx) hcs rfl).1
 have htxa := fun o => ((bel_new w1 o).cell (World.block_lt_of_cell? w1 _ htx0)).trans htx0
 have hl0 := (HA.out _ (hb1.drew)).lives
 have hl1 := fun o => (HA.out _ ((bel_one hb1 o).drew)).lives
 have HX1 : Hid (XM w D w.heap.size (w.heap.size + 1) w1.heap.size ⟨k, tx, att, stamp, op, key, value, mode, yes⟩ zeroR ((kGet tx E).getD ⟨0, zeroC, none, 0, 0, []⟩) (shT g pc pl ps bl bd E S) (w1.alloc (.cells (Le.arr ((kGet tx E).getD ⟨0, zeroC, none, 0, 0, []⟩)) 108)).drew) := Lib.hid (by
  have h1 := HX0.out
  rw [show ((w.alloc (.cells (Cm.arr ⟨k, tx, att, stamp, op, key, value, mode, yes⟩) 28)).alloc (.cells zeroR.arr 35)) = w1 from hw1.symm] at h1
  rw [hsz]
  exact XM.below h1 (bel_drew _))
 have HSZ := Lib.hid hsz
 have hne1 : ¬ w.heap.size = w1.heap.size := by omega
 have hne2 : ¬ w1.heap.size = w.heap.size := by omega
 clear HX0 M hb1 hcs hsz
 have HOK := Lib.hid hS.locks
 have HSM := Lib.hid (hS.lsm.mono (by omega : n ≤ 400))
 have HDN := Lib.hid (Nat.le_trans hS.dlen (by omega : n ≤ 1000))
 have HE := Lib.hid e
 have HSI := Lib.hid hS
 have HKN := Lib.hid (And.intro hn hK)
 obtain ⟨e1, e2⟩ := livesM_E e tx
 have HE1 := Lib.hid e1
 have HE2 := Lib.hid e2
 clear h e hS hn hK e1 e2
 generalize hXX : (kGet tx E).getD ⟨0, zeroC, none, 0, 0, []⟩ = X at *
 have HXX := Lib.hid hXX
 clear hXX
 obtain ⟨xatt, ⟨xk, xtx, xat, xst, xop, xkey, xval, xmode, xyes⟩, xa, xn, xc, xws⟩ := X
 try simp only at hl0
 try simp only at hl1
 try simp only at HX1
 cases hbb : (kGet tx E).isSome with
 | false =>
  simp only [hbb] at hl0 hl1
  go_enter Tryz.func36, Tryz.ntmps36
  go_wp2_with fail
  rw [← hw1]
  clear hw1
  go_region
  obtain ⟨W2, hW2⟩ : ∃ W2, W2 = (w1.alloc (.cells #[.int .i64 xatt, .int .i64 xk, .int .i64 xtx, .int .i64 xat, .int .i64 xst, .int .i64 xop, .string xkey, .string xval, .int .i64 xmode, .bool xyes, .slice xa xn xc] 108)).drew := ⟨_, rfl⟩
  rw [← hW2] at HX1 ⊢
  clear hW2 hc5 hc5a htx0 htxa hl0 hl1
  have hc := HX1.out.hc
  have hx := HX1.out.hx
  have hk1 := (cell_of_heap (i := 1) (v := .int .i64 tx) hc rfl).1
  have hk2 := (cell_of_heap (i := 2) (v := .int .i64 att) hc rfl).1
  have hx0 := (cell_of_heap (i := 0) (v := .int .i64 xatt) hx rfl).1
  obtain ⟨D', hD'⟩ := XM.shut HX1.out HE.out
  have HOV := Lib.hid (over_any g S tx att W2 hD' htx)
  clear hc hx hD'
  cases hov : overM S tx att with
  | true =>
   have HGM : Hid (finM S ⟨k, tx, att, stamp, op, key, value, mode, yes⟩ = (codeR 0, S)) := Lib.hid (finM_over hov)
   rw [hov] at HOV
   clear hov
   have HEND := Lib.hid (XM.fin (q := (⟨0, 0, ⟨#[]⟩, false⟩ : Rp)) (S' := S) HX1.out HE.out rfl)
   have HRT := HX1.out.rat
   obtain ⟨c0, c1, c2, c3, f0, f1, f2, f3⟩ := HRT
   simp only [zeroR] at c0 c1 c2 c3
   go_wp2_with fail
   refine HOV.out.mono ?_
   rintro e w3 ⟨rfl, rfl⟩
   clear HOV
   go_wp2_with fail
   obtain ⟨W5, hW5⟩ : ∃ W5, W5 = ((((W2.setCell ⟨w.heap.size + 1, 0, none⟩ (.int .i64 0)).setCell ⟨w.heap.size + 1, 1, none⟩ (.int .i64 0)).setCell ⟨w.heap.size + 1, 2, none⟩ (.string ⟨#[]⟩)).setCell ⟨w.heap.size + 1, 3, none⟩ (.bool false)) := ⟨_, rfl⟩
   rw [← hW5]
   obtain ⟨⟨v0, v1, v2, v3, -, -, -, -⟩, hR⟩ := HEND.out W5 hW5
   simp only at v0 v1 v2 v3
   clear hW5
   refine bodyPost_ret (by simp [results, Tryz.results36, go_sem, v0, v1, v2, v3]; try rfl) rfl ?_
   rw [HGM.out]
   exact hR
  | false =>
   rw [hov] at HOV
   have HOF := Lib.hid hov
   clear hov
   go_wp2_with fail
   refine HOV.out.mono ?_
   rintro e w3 ⟨rfl, rfl⟩
   clear HOV
   clear hk1
   go_wp2_with fail
   clear hx0 hk2
   have HGM : Hid (finM S ⟨k, tx, att, stamp, op, key, value, mode, yes⟩ = (codeR 0, doneS S ⟨k, tx, att, stamp, op, key, value, mode, yes⟩)) := Lib.hid (finM_none (c := ⟨k, tx, att, stamp, op, key, value, mode, yes⟩) HOF.out (by rw [HE1.out]; exact hbb))
   have hA := Mem.shAt (XM.rest HX1.out) htx
   have hc := HX1.out.hc
   have hS0 : W2.drew.cell? ⟨g, 6, none⟩ = some (.map (some bd)) ∧ W2.drew.cell? ⟨w.heap.size, 1, none⟩ = some (.int .i64 tx) ∧ W2.drew.cell? ⟨w.heap.size, 2, none⟩ = some (.int .i64 att) := ⟨hA.c6, (cell_of_heap (i := 1) (v := .int .i64 tx) hc rfl).1, (cell_of_heap (i := 2) (v := .int .i64 att) hc rfl).1⟩
   obtain ⟨w9, HR, HM9⟩ := XM.done (XM.below HX1.out (bel_drew W2)) htx HDN.out
   have HN := Lib.hid HM9
   clear HM9 hA hc
   refine wp_region_till (fun W => W.cell? ⟨g, 6, none⟩ = some (.map (some bd)) ∧ W.cell? ⟨w.heap.size, 1, none⟩ = some (.int .i64 tx) ∧ W.cell? ⟨w.heap.size, 2, none⟩ = some (.int .i64 att)) 8 (by kernel_rfl) (hS0) (fun hM hS => ?_)
   refine till_op (v := ?_) 0 [1, 2, 3] hM rfl (by kernel_rfl) (by kernel_rfl) (by kernel_rfl) (by kernel_rfl) rfl (fun _ _ _ h => h) (Or.inl ⟨by rfl, ?_⟩) hS (fun hM => ?_)
   rotate_left
   ·intro W hSw
    (try dsimp only at hSw)
    go_simp
    try with_reducible rfl
   try simp only [Act.put, List.setIfInBounds_toArray, List.set_cons_zero, List.set_cons_succ]
   refine till_op (v := ?_) 1 [2, 3] hM rfl (by kernel_rfl) (by kernel_rfl) (by kernel_rfl) (by kernel_rfl) rfl (fun _ _ _ h => h) (Or.inl ⟨by rfl, ?_⟩) hS (fun hM => ?_)
   rotate_left
   ·intro W hSw
    (try dsimp only at hSw)
    go_simp
    try with_reducible rfl
   try simp only [Act.put, List.setIfInBounds_toArray, List.set_cons_zero, List.set_cons_succ]
   refine till_op (v := ?_) 2 [3] hM rfl (by kernel_rfl) (by kernel_rfl) (by kernel_rfl) (by kernel_rfl) rfl (fun _ _ _ h => h) (Or.inl ⟨by rfl, ?_⟩) hS (fun hM => ?_)
   rotate_left
   ·intro W hSw
    (try dsimp only at hSw)
    go_simp
    try with_reducible rfl
   try simp only [Act.put, List.setIfInBounds_toArray, List.set_cons_zero, List.set_cons_succ]
   refine till_op (v := ?_) 3 [] hM rfl (by kernel_rfl) (by kernel_rfl) (by kernel_rfl) (by kernel_rfl) rfl (fun _ _ _ h => h) (Or.inl ⟨by rfl, ?_⟩) hS (fun hM => ?_)
   rotate_left
   ·intro W hSw
    (try dsimp only at hSw)
    go_simp
    try with_reducible rfl
   try simp only [Act.put, List.setIfInBounds_toArray, List.set_cons_zero, List.set_cons_succ]
   refine till_op (v := ?_) 4 [5] hM rfl (by kernel_rfl) (by kernel_rfl) (by kernel_rfl) (by kernel_rfl) rfl (fun _ _ _ h => h) (Or.inl ⟨by rfl, ?_⟩) hS (fun hM => ?_)
   rotate_left
   ·intro W hSw
    (try dsimp only at hSw)
    go_simp
    try with_reducible rfl
   try simp only [Act.put, List.setIfInBounds_toArray, List.set_cons_zero, List.set_cons_succ]
   refine till_op (v := ?_) 5 [] hM rfl (by kernel_rfl) (by kernel_rfl) (by kernel_rfl) (by kernel_rfl) rfl (fun _ _ _ h => h) (Or.inl ⟨by rfl, ?_⟩) hS (fun hM => ?_)
   rotate_left
   ·intro W hSw
    (try dsimp only at hSw)
    go_simp
    try with_reducible rfl
   try simp only [Act.put, List.setIfInBounds_toArray, List.set_cons_zero, List.set_cons_succ]
   refine till_op (v := ?_) 6 [7] hM rfl (by kernel_rfl) (by kernel_rfl) (by kernel_rfl) (by kernel_rfl) rfl (fun _ _ _ h => h) (Or.inl ⟨by rfl, ?_⟩) hS (fun hM => ?_)
   rotate_left
   ·intro W hSw
    (try dsimp only at hSw)
    go_simp
    try with_reducible rfl
   try simp only [Act.put, List.setIfInBounds_toArray, List.set_cons_zero, List.set_cons_succ]
   refine till_op (v := ?_) 7 [] hM rfl (by kernel_rfl) (by kernel_rfl) (by kernel_rfl) (by kernel_rfl) rfl (fun _ _ _ h => h) (Or.inl ⟨by rfl, ?_⟩) hS (fun hM => ?_)
   rotate_left
   ·intro W hSw
    (try dsimp only at hSw)
    go_simp
    try with_reducible rfl
   try simp only [Act.put, List.setIfInBounds_toArray, List.set_cons_zero, List.set_cons_succ]
   refine till_one 8 hM rfl (by kernel_rfl) (fun K hK => ?_)
   refine step_mapUpdateR rfl (.tmp 40) (.tmp 42) (.tmp 44) 97 rfl _ _ _ rfl rfl rfl HR ?_
   refine hK _ _ (fun h => absurd rfl h) (fun hM => ?_)
   clear hK K
   try simp only [Act.put, List.setIfInBounds_toArray, List.set_cons_zero, List.set_cons_succ]
   refine till_done (by kernel_rfl) ?_ _
   have hx := HN.out.hx
   have hc := HN.out.hc
   have hx0 := (cell_of_heap (i := 0) (v := .int .i64 xatt) hx rfl).1
   have hk2 := (cell_of_heap (i := 2) (v := .int .i64 att) hc rfl).1
   clear hx hc HR
   have HEND := Lib.hid (XM.fin (q := (⟨0, 0, ⟨#[]⟩, false⟩ : Rp)) (S' := (doneS S ⟨k, tx, att, stamp, op, key, value, mode, yes⟩)) HN.out HE.out rfl)
   have HRT := HN.out.rat
   obtain ⟨c0, c1, c2, c3, f0, f1, f2, f3⟩ := HRT
   simp only [zeroR] at c0 c1 c2 c3
   clear HN HSI HDN HE1 HE2 HX1
   go_wp2_with fail
   obtain ⟨W5, hW5⟩ : ∃ W5, W5 = ((((w9.setCell ⟨w.heap.size + 1, 0, none⟩ (.int .i64 0)).setCell ⟨w.heap.size + 1, 1, none⟩ (.int .i64 0)).setCell ⟨w.heap.size + 1, 2, none⟩ (.string ⟨#[]⟩)).setCell ⟨w.heap.size + 1, 3, none⟩ (.bool false)) := ⟨_, rfl⟩
   rw [← hW5]
   obtain ⟨⟨v0, v1, v2, v3, -, -, -, -⟩, hR⟩ := HEND.out W5 hW5
   simp only at v0 v1 v2 v3
   clear hW5
   refine bodyPost_ret (by simp [results, Tryz.results36, go_sem, v0, v1, v2, v3]; try rfl) rfl ?_
   rw [HGM.out]
   exact hR
 | true =>
  simp only [hbb] at hl0 hl1
  go_enter Tryz.func36, Tryz.ntmps36
  go_wp2_with fail
  rw [← hw1]
  clear hw1
  go_region
  obtain ⟨W2, hW2⟩ : ∃ W2, W2 = (w1.alloc (.cells #[.int .i64 xatt, .int .i64 xk, .int .i64 xtx, .int .i64 xat, .int .i64 xst, .int .i64 xop, .string xkey, .string xval, .int .i64 xmode, .bool xyes, .slice xa xn xc] 108)).drew := ⟨_, rfl⟩
  rw [← hW2] at HX1 ⊢
  clear hW2 hc5 hc5a htx0 htxa hl0 hl1
  have hc := HX1.out.hc
  have hx := HX1.out.hx
  have hk1 := (cell_of_heap (i := 1) (v := .int .i64 tx) hc rfl).1
  have hk2 := (cell_of_heap (i := 2) (v := .int .i64 att) hc rfl).1
  have hx0 := (cell_of_heap (i := 0) (v := .int .i64 xatt) hx rfl).1
  obtain ⟨D', hD'⟩ := XM.shut HX1.out HE.out
  have HOV := Lib.hid (over_any g S tx att W2 hD' htx)
  clear hc hx hD'
  cases hov : overM S tx att with
  | true =>
   have HGM : Hid (finM S ⟨k, tx, att, stamp, op, key, value, mode, yes⟩ = (codeR 0, S)) := Lib.hid (finM_over hov)
   rw [hov] at HOV
   clear hov
   have HEND := Lib.hid (XM.fin (q := (⟨0, 0, ⟨#[]⟩, false⟩ : Rp)) (S' := S) HX1.out HE.out rfl)
   have HRT := HX1.out.rat
   obtain ⟨c0, c1, c2, c3, f0, f1, f2, f3⟩ := HRT
   simp only [zeroR] at c0 c1 c2 c3
   go_wp2_with fail
   refine HOV.out.mono ?_
   rintro e w3 ⟨rfl, rfl⟩
   clear HOV
   go_wp2_with fail
   obtain ⟨W5, hW5⟩ : ∃ W5, W5 = ((((W2.setCell ⟨w.heap.size + 1, 0, none⟩ (.int .i64 0)).setCell ⟨w.heap.size + 1, 1, none⟩ (.int .i64 0)).setCell ⟨w.heap.size + 1, 2, none⟩ (.string ⟨#[]⟩)).setCell ⟨w.heap.size + 1, 3, none⟩ (.bool false)) := ⟨_, rfl⟩
   rw [← hW5]
   obtain ⟨⟨v0, v1, v2, v3, -, -, -, -⟩, hR⟩ := HEND.out W5 hW5
   simp only at v0 v1 v2 v3
   clear hW5
   refine bodyPost_ret (by simp [results, Tryz.results36, go_sem, v0, v1, v2, v3]; try rfl) rfl ?_
   rw [HGM.out]
   exact hR
  | false =>
   rw [hov] at HOV
   have HOF := Lib.hid hov
   clear hov
   have hkg : kGet tx E = some ⟨xatt, ⟨xk, xtx, xat, xst, xop, xkey, xval, xmode, xyes⟩, xa, xn, xc, xws⟩ := by
    cases hq : kGet tx E with
    | none => rw [hq] at hbb; cases hbb
    | some y => have := HXX.out; rw [hq] at this; simp only [Option.getD_some] at this; rw [this]
   rcases Int.lt_trichotomy xatt att with hlt | heq | hgt
   ·have HGM : Hid (finM S ⟨k, tx, att, stamp, op, key, value, mode, yes⟩ = (codeR 8, S)) := Lib.hid (finM_state (c := ⟨k, tx, att, stamp, op, key, value, mode, yes⟩) HOF.out (by rw [HE1.out]; exact hbb) (by simp only [HE2.out]; exact hlt))
    have HEND := Lib.hid (XM.fin (q := (⟨8, 0, ⟨#[]⟩, false⟩ : Rp)) (S' := S) HX1.out HE.out rfl)
    have HRT := HX1.out.rat
    obtain ⟨c0, c1, c2, c3, f0, f1, f2, f3⟩ := HRT
    simp only [zeroR] at c0 c1 c2 c3
    go_wp2_with fail
    refine HOV.out.mono ?_
    rintro e w3 ⟨rfl, rfl⟩
    clear HOV
    clear hk1
    go_wp2_with fail
    obtain ⟨W5, hW5⟩ : ∃ W5, W5 = ((((W2.setCell ⟨w.heap.size + 1, 0, none⟩ (.int .i64 8)).setCell ⟨w.heap.size + 1, 1, none⟩ (.int .i64 0)).setCell ⟨w.heap.size + 1, 2, none⟩ (.string ⟨#[]⟩)).setCell ⟨w.heap.size + 1, 3, none⟩ (.bool false)) := ⟨_, rfl⟩
    rw [← hW5]
    obtain ⟨⟨v0, v1, v2, v3, -, -, -, -⟩, hR⟩ := HEND.out W5 hW5
    simp only at v0 v1 v2 v3
    clear hW5
    refine bodyPost_ret (by simp [results, Tryz.results36, go_sem, v0, v1, v2, v3]; try rfl) rfl ?_
    rw [HGM.out]
    exact hR
   ·obtain rfl : att = xatt := heq.symm
    have hlt0 : ¬ att < att := by omega
    go_wp2_with fail
    refine HOV.out.mono ?_
    rintro e w3 ⟨rfl, rfl⟩
    clear HOV
    clear hk1
    go_wp2_with fail
    clear hx0 hk2 hlt0
    have HKG := Lib.hid hkg
    have HGM : Hid (finM S ⟨k, tx, att, stamp, op, key, value, mode, yes⟩ = (codeR 0, goneS (if isW ⟨k, tx, att, stamp, op, key, value, mode, yes⟩ xws = true then flushS (doneS S ⟨k, tx, att, stamp, op, key, value, mode, yes⟩) xws else (doneS S ⟨k, tx, att, stamp, op, key, value, mode, yes⟩)) tx)) := Lib.hid (by
     have h1 := finM_end (c := ⟨k, tx, att, stamp, op, key, value, mode, yes⟩) HOF.out (by rw [HE1.out]; exact hbb) (by simp only [HE2.out]; rfl)
     rw [h1]
     simp only [HE2.out, Le.lv])
    clear hbb hkg
    have hA := Mem.shAt (XM.rest HX1.out) htx
    have hc := HX1.out.hc
    have hS0 : W2.drew.cell? ⟨g, 6, none⟩ = some (.map (some bd)) ∧ W2.drew.cell? ⟨w.heap.size, 1, none⟩ = some (.int .i64 tx) ∧ W2.drew.cell? ⟨w.heap.size, 2, none⟩ = some (.int .i64 att) := ⟨hA.c6, (cell_of_heap (i := 1) (v := .int .i64 tx) hc rfl).1, (cell_of_heap (i := 2) (v := .int .i64 att) hc rfl).1⟩
    obtain ⟨w9, HR, HM9⟩ := XM.done (XM.below HX1.out (bel_drew W2)) htx HDN.out
    have HN := Lib.hid HM9
    clear HM9 hA hc
    refine wp_region_till (fun W => W.cell? ⟨g, 6, none⟩ = some (.map (some bd)) ∧ W.cell? ⟨w.heap.size, 1, none⟩ = some (.int .i64 tx) ∧ W.cell? ⟨w.heap.size, 2, none⟩ = some (.int .i64 att)) 8 (by kernel_rfl) (hS0) (fun hM hS => ?_)
    refine till_op (v := ?_) 0 [1, 2, 3] hM rfl (by kernel_rfl) (by kernel_rfl) (by kernel_rfl) (by kernel_rfl) rfl (fun _ _ _ h => h) (Or.inl ⟨by rfl, ?_⟩) hS (fun hM => ?_)
    rotate_left
    ·intro W hSw
     (try dsimp only at hSw)
     go_simp
     try with_reducible rfl
    try simp only [Act.put, List.setIfInBounds_toArray, List.set_cons_zero, List.set_cons_succ]
    refine till_op (v := ?_) 1 [2, 3] hM rfl (by kernel_rfl) (by kernel_rfl) (by kernel_rfl) (by kernel_rfl) rfl (fun _ _ _ h => h) (Or.inl ⟨by rfl, ?_⟩) hS (fun hM => ?_)
    rotate_left
    ·intro W hSw
     (try dsimp only at hSw)
     go_simp
     try with_reducible rfl
    try simp only [Act.put, List.setIfInBounds_toArray, List.set_cons_zero, List.set_cons_succ]
    refine till_op (v := ?_) 2 [3] hM rfl (by kernel_rfl) (by kernel_rfl) (by kernel_rfl) (by kernel_rfl) rfl (fun _ _ _ h => h) (Or.inl ⟨by rfl, ?_⟩) hS (fun hM => ?_)
    rotate_left
    ·intro W hSw
     (try dsimp only at hSw)
     go_simp
     try with_reducible rfl
    try simp only [Act.put, List.setIfInBounds_toArray, List.set_cons_zero, List.set_cons_succ]
    refine till_op (v := ?_) 3 [] hM rfl (by kernel_rfl) (by kernel_rfl) (by kernel_rfl) (by kernel_rfl) rfl (fun _ _ _ h => h) (Or.inl ⟨by rfl, ?_⟩) hS (fun hM => ?_)
    rotate_left
    ·intro W hSw
     (try dsimp only at hSw)
     go_simp
     try with_reducible rfl
    try simp only [Act.put, List.setIfInBounds_toArray, List.set_cons_zero, List.set_cons_succ]
    refine till_op (v := ?_) 4 [5] hM rfl (by kernel_rfl) (by kernel_rfl) (by kernel_rfl) (by kernel_rfl) rfl (fun _ _ _ h => h) (Or.inl ⟨by rfl, ?_⟩) hS (fun hM => ?_)
    rotate_left
    ·intro W hSw
     (try dsimp only at hSw)
     go_simp
     try with_reducible rfl
    try simp only [Act.put, List.setIfInBounds_toArray, List.set_cons_zero, List.set_cons_succ]
    refine till_op (v := ?_) 5 [] hM rfl (by kernel_rfl) (by kernel_rfl) (by kernel_rfl) (by kernel_rfl) rfl (fun _ _ _ h => h) (Or.inl ⟨by rfl, ?_⟩) hS (fun hM => ?_)
    rotate_left
    ·intro W hSw
     (try dsimp only at hSw)
     go_simp
     try with_reducible rfl
    try simp only [Act.put, List.setIfInBounds_toArray, List.set_cons_zero, List.set_cons_succ]
    refine till_op (v := ?_) 6 [7] hM rfl (by kernel_rfl) (by kernel_rfl) (by kernel_rfl) (by kernel_rfl) rfl (fun _ _ _ h => h) (Or.inl ⟨by rfl, ?_⟩) hS (fun hM => ?_)
    rotate_left
    ·intro W hSw
     (try dsimp only at hSw)
     go_simp
     try with_reducible rfl
    try simp only [Act.put, List.setIfInBounds_toArray, List.set_cons_zero, List.set_cons_succ]
    refine till_op (v := ?_) 7 [] hM rfl (by kernel_rfl) (by kernel_rfl) (by kernel_rfl) (by kernel_rfl) rfl (fun _ _ _ h => h) (Or.inl ⟨by rfl, ?_⟩) hS (fun hM => ?_)
    rotate_left
    ·intro W hSw
     (try dsimp only at hSw)
     go_simp
     try with_reducible rfl
    try simp only [Act.put, List.setIfInBounds_toArray, List.set_cons_zero, List.set_cons_succ]
    refine till_one 8 hM rfl (by kernel_rfl) (fun K hK => ?_)
    refine step_mapUpdateR rfl (.tmp 40) (.tmp 42) (.tmp 44) 97 rfl _ _ _ rfl rfl rfl HR ?_
    refine hK _ _ (fun h => absurd rfl h) (fun hM => ?_)
    clear hK K
    try simp only [Act.put, List.setIfInBounds_toArray, List.set_cons_zero, List.set_cons_succ]
    refine till_done (by kernel_rfl) ?_ _
    clear HX1 HR
    have hx := HN.out.hx
    have hc := HN.out.hc
    have hxn : xn = xws.length := by have := (XM.wrow HN.out HKG.out).len; rw [wrFlat_len] at this; simp only at this; omega
    obtain rfl : xws.length = xn := hxn.symm
    have hx0 := (cell_of_heap (i := 0) (v := .int .i64 att) hx rfl).1
    have hx10 := (cell_of_heap (i := 10) (v := .slice xa xws.length xc) hx rfl).1
    have hk2 := (cell_of_heap (i := 2) (v := .int .i64 att) hc rfl).1
    have hk8 := (cell_of_heap (i := 8) (v := .bool yes) hc rfl).1
    clear hx hc
    have HWS := Lib.hid (show LvOk K S.locks tx (Le.lv ⟨att, ⟨xk, xtx, xat, xst, xop, xkey, xval, xmode, xyes⟩, xa, xws.length, xc, xws⟩) by have := HSI.out.ofLive tx; rw [HE2.out] at this; exact this)
    go_upto_region 9 with (fail)
    go_cut [62] from 55 to 61 (fun v wx => v = .bool (isW ⟨k, tx, att, stamp, op, key, value, mode, yes⟩ xws) ∧ wx = w9)
    case first =>
     cases yes with
     | false =>
      go_wp2_with fail
      go_meet
      case rel => exact ⟨by simp [isW], rfl⟩
     | true =>
      by_cases hp : 0 < xws.length
      ·have hd0 : decide ((0 : Int) < (xws.length : Nat)) = true := decide_eq_true (by omega)
       go_wp2_with fail
       go_meet
       case rel => exact ⟨by simp [isW, hp], rfl⟩
      ·have hd0 : decide ((0 : Int) < (xws.length : Nat)) = false := decide_eq_false (by omega)
       go_wp2_with fail
       go_meet
       case rel => exact ⟨by simp [isW, hp], rfl⟩
    case rest =>
     obtain ⟨rfl, rfl⟩ := hcut
     obtain ⟨bw, hbw⟩ : ∃ bw, bw = isW ⟨k, tx, att, stamp, op, key, value, mode, yes⟩ xws := ⟨_, rfl⟩
     have HBW := Lib.hid hbw
     rw [← hbw]
     clear hbw hk8 hx0 hk2
     go_upto_if 62 with (fail)
     go_cut [8] from 63 to 94 (fun _ wx => Hid (XM w D w.heap.size (w.heap.size + 1) w1.heap.size ⟨k, tx, att, stamp, op, key, value, mode, yes⟩ zeroR ⟨att, ⟨xk, xtx, xat, xst, xop, xkey, xval, xmode, xyes⟩, xa, xws.length, xc, xws⟩ (shT g pc pl ps bl bd E (if isW ⟨k, tx, att, stamp, op, key, value, mode, yes⟩ xws = true then flushS (doneS S ⟨k, tx, att, stamp, op, key, value, mode, yes⟩) xws else (doneS S ⟨k, tx, att, stamp, op, key, value, mode, yes⟩))) wx))
     case first =>
      cases bw with
      | false =>
       have HN2 : Hid (XM w D w.heap.size (w.heap.size + 1) w1.heap.size ⟨k, tx, att, stamp, op, key, value, mode, yes⟩ zeroR ⟨att, ⟨xk, xtx, xat, xst, xop, xkey, xval, xmode, xyes⟩, xa, xws.length, xc, xws⟩ (shT g pc pl ps bl bd E (if isW ⟨k, tx, att, stamp, op, key, value, mode, yes⟩ xws = true then flushS (doneS S ⟨k, tx, att, stamp, op, key, value, mode, yes⟩) xws else (doneS S ⟨k, tx, att, stamp, op, key, value, mode, yes⟩))) wc) := Lib.hid (by rw [if_neg (by rw [← HBW.out]; decide)]; exact HN.out)
       go_wp2_with fail
       go_meet
       case rel => exact HN2
      | true =>
       have hg1 := (Mem.shAt (XM.rest HN.out) htx).c1
       have hf1 := HN.out.hg.1
       have hg1' : wc.cell? ⟨g, 1, none⟩ = some (.int .i64 S.moment) := hg1
       obtain ⟨t, ht⟩ : ∃ t, t = momS S := ⟨_, rfl⟩
       have HT := Lib.hid ht
       have hmo := HSI.out.moment
       have hmin : min (S.moment + 1) 1099511627776 = t := ht.symm
       have HM1 : Hid (XM w D w.heap.size (w.heap.size + 1) w1.heap.size ⟨k, tx, att, stamp, op, key, value, mode, yes⟩ zeroR ⟨att, ⟨xk, xtx, xat, xst, xop, xkey, xval, xmode, xyes⟩, xa, xws.length, xc, xws⟩ (shT g pc pl ps bl bd E (flushI (doneS S ⟨k, tx, att, stamp, op, key, value, mode, yes⟩) t xws 0)) (wc.setCell ⟨g, 1, none⟩ (.int .i64 t))) := Lib.hid (XM.mom HN.out t)
       have hx10' : (wc.setCell ⟨g, 1, none⟩ (.int .i64 t)).cell? ⟨w1.heap.size, 10, none⟩ = some (.slice xa xws.length xc) := (cell_of_heap (i := 10) (v := .slice xa xws.length xc) HM1.out.hx rfl).1
       have hwr : wrap64 (S.moment + 1) = S.moment + 1 := by unfold wrap64; omega
       have hxl : xws.length ≤ 900 := Nat.le_trans (wok_len HWS.out.sort (fun w hw => (HWS.out.ws w hw).1)) HKN.out.2
       clear hg1 ht hmo hx10 HN
       generalize hmv : S.moment = mv at *
       clear hmv
       go_wp2_with fail
       go_loopw [8, 75] (fun v8 jv wr => ∃ i : Nat, i ≤ xws.length ∧ jv = .int .i64 (i : Nat) ∧ Hid (XM w D w.heap.size (w.heap.size + 1) w1.heap.size ⟨k, tx, att, stamp, op, key, value, mode, yes⟩ zeroR ⟨att, ⟨xk, xtx, xat, xst, xop, xkey, xval, xmode, xyes⟩, xa, xws.length, xc, xws⟩ (shT g pc pl ps bl bd E (flushI (doneS S ⟨k, tx, att, stamp, op, key, value, mode, yes⟩) t xws i)) wr)) (fun _ jv _ => xws.length - (intOf jv).toNat)
       case atStart => exact ⟨0, Nat.zero_le _, rfl, HM1⟩
       case round =>
        obtain ⟨W0, rfl⟩ : ∃ W0, W0 = wr := ⟨_, rfl⟩
        obtain ⟨i, hi, rfl, hS⟩ := hrel
        clear HM1 hx10'
        by_cases hlt : i < xws.length
        ·obtain ⟨ga, hga, y0, y1, y2⟩ := wrAt_row (XM.wrow hS.out HKG.out) i hlt
         simp only at hga
         subst hga
         have hwo := (HWS.out.ws _ (List.getElem_mem hlt)).1
         have hnx := flushI_next (doneS S ⟨k, tx, att, stamp, op, key, value, mode, yes⟩) t xws hlt
         have htm := (momS_ok HSI.out).1
         have hln := HSI.out.last
         have hlm := (momS_ok HSI.out).2
         rw [← HT.out] at htm hlm
         have hok := flushI_ok (S := (doneS S ⟨k, tx, att, stamp, op, key, value, mode, yes⟩)) (t := t) HSI.out.cells htm (by show S.clast ≤ t; omega) HWS.out.sort (fun w hw => (HWS.out.ws w hw).1) i HKN.out.2 (by have := HKN.out.1; omega)
         have HOK2 := Lib.hid hok
         have HNX := Lib.hid hnx
         clear htm hln hlm hok hnx
         generalize xws[i] = y at *
         obtain ⟨yk, yv, yh⟩ := y
         simp only at y0 y1 y2
         have HWO := Lib.hid hwo
         have HB0 := Lib.hid (XM.below hS.out (bel_new W0 (.cells #[.string yk, .string yv, .bool yh] 43)))
         have hq := heap_new W0 (.cells #[.string yk, .string yv, .bool yh] 43)
         clear hwo hS
         go_wp2_with fail
         obtain ⟨W7, hW7⟩ : ∃ W7, W7 = W0.alloc (.cells #[.string yk, .string yv, .bool yh] 43) := ⟨_, rfl⟩
         rw [← hW7] at HB0 hq ⊢
         clear hW7 y0 y1 y2
         generalize W0.heap.size = b8 at *
         have hA := Mem.shAt (XM.rest HB0.out) htx
         have HCP := Lib.hid (XM.cput (XM.below HB0.out (bel_drew W7)) HOK2.out yk yv yh t (by have := HWO.out.key; simp only at this; unfold maxLen; omega) (by have := HWO.out.val; simp only at this; unfold maxLen; omega))
         have hS0 : W7.drew.cell? ⟨g, 2, none⟩ = some (.pointer (some ⟨pc, 0, none⟩)) ∧ W7.drew.cell? ⟨b8, 0, none⟩ = some (.string yk) ∧ W7.drew.cell? ⟨b8, 1, none⟩ = some (.string yv) ∧ W7.drew.cell? ⟨b8, 2, none⟩ = some (.bool yh) ∧ W7.drew.cell? ⟨g, 1, none⟩ = some (.int .i64 t) := ⟨hA.c2, (cell_of_heap (i := 0) (v := .string yk) hq rfl).1, (cell_of_heap (i := 1) (v := .string yv) hq rfl).1, (cell_of_heap (i := 2) (v := .bool yh) hq rfl).1, hA.c1⟩
         clear hA hq HB0
         refine wp_region_till (fun W => W.cell? ⟨g, 2, none⟩ = some (.pointer (some ⟨pc, 0, none⟩)) ∧ W.cell? ⟨b8, 0, none⟩ = some (.string yk) ∧ W.cell? ⟨b8, 1, none⟩ = some (.string yv) ∧ W.cell? ⟨b8, 2, none⟩ = some (.bool yh) ∧ W.cell? ⟨g, 1, none⟩ = some (.int .i64 t)) 14 (by kernel_rfl) (hS0) (fun hM hS => ?_)
         refine till_op (v := ?_) 0 [1, 2, 3] hM rfl (by kernel_rfl) (by kernel_rfl) (by kernel_rfl) (by kernel_rfl) rfl (fun _ _ _ h => h) (Or.inl ⟨by rfl, ?_⟩) hS (fun hM => ?_)
         rotate_left
         ·intro W hSw
          (try dsimp only at hSw)
          go_simp
          try with_reducible rfl
         try simp only [Act.put, List.setIfInBounds_toArray, List.set_cons_zero, List.set_cons_succ]
         refine till_op (v := ?_) 1 [2, 3] hM rfl (by kernel_rfl) (by kernel_rfl) (by kernel_rfl) (by kernel_rfl) rfl (fun _ _ _ h => h) (Or.inl ⟨by rfl, ?_⟩) hS (fun hM => ?_)
         rotate_left
         ·intro W hSw
          (try dsimp only at hSw)
          go_simp
          try with_reducible rfl
         try simp only [Act.put, List.setIfInBounds_toArray, List.set_cons_zero, List.set_cons_succ]
         refine till_op (v := ?_) 2 [3] hM rfl (by kernel_rfl) (by kernel_rfl) (by kernel_rfl) (by kernel_rfl) rfl (fun _ _ _ h => h) (Or.inl ⟨by rfl, ?_⟩) hS (fun hM => ?_)
         rotate_left
         ·intro W hSw
          (try dsimp only at hSw)
          go_simp
          try with_reducible rfl
         try simp only [Act.put, List.setIfInBounds_toArray, List.set_cons_zero, List.set_cons_succ]
         refine till_op (v := ?_) 3 [] hM rfl (by kernel_rfl) (by kernel_rfl) (by kernel_rfl) (by kernel_rfl) rfl (fun _ _ _ h => h) (Or.inl ⟨by rfl, ?_⟩) hS (fun hM => ?_)
         rotate_left
         ·intro W hSw
          (try dsimp only at hSw)
          go_simp
          try with_reducible rfl
         try simp only [Act.put, List.setIfInBounds_toArray, List.set_cons_zero, List.set_cons_succ]
         refine till_op (v := ?_) 4 [5] hM rfl (by kernel_rfl) (by kernel_rfl) (by kernel_rfl) (by kernel_rfl) rfl (fun _ _ _ h => h) (Or.inl ⟨by rfl, ?_⟩) hS (fun hM => ?_)
         rotate_left
         ·intro W hSw
          (try dsimp only at hSw)
          go_simp
          try with_reducible rfl
         try simp only [Act.put, List.setIfInBounds_toArray, List.set_cons_zero, List.set_cons_succ]
         refine till_op (v := ?_) 5 [] hM rfl (by kernel_rfl) (by kernel_rfl) (by kernel_rfl) (by kernel_rfl) rfl (fun _ _ _ h => h) (Or.inl ⟨by rfl, ?_⟩) hS (fun hM => ?_)
         rotate_left
         ·intro W hSw
          (try dsimp only at hSw)
          go_simp
          try with_reducible rfl
         try simp only [Act.put, List.setIfInBounds_toArray, List.set_cons_zero, List.set_cons_succ]
         refine till_op (v := ?_) 6 [7] hM rfl (by kernel_rfl) (by kernel_rfl) (by kernel_rfl) (by kernel_rfl) rfl (fun _ _ _ h => h) (Or.inl ⟨by rfl, ?_⟩) hS (fun hM => ?_)
         rotate_left
         ·intro W hSw
          (try dsimp only at hSw)
          go_simp
          try with_reducible rfl
         try simp only [Act.put, List.setIfInBounds_toArray, List.set_cons_zero, List.set_cons_succ]
         refine till_op (v := ?_) 7 [] hM rfl (by kernel_rfl) (by kernel_rfl) (by kernel_rfl) (by kernel_rfl) rfl (fun _ _ _ h => h) (Or.inl ⟨by rfl, ?_⟩) hS (fun hM => ?_)
         rotate_left
         ·intro W hSw
          (try dsimp only at hSw)
          go_simp
          try with_reducible rfl
         try simp only [Act.put, List.setIfInBounds_toArray, List.set_cons_zero, List.set_cons_succ]
         refine till_op (v := ?_) 8 [9] hM rfl (by kernel_rfl) (by kernel_rfl) (by kernel_rfl) (by kernel_rfl) rfl (fun _ _ _ h => h) (Or.inl ⟨by rfl, ?_⟩) hS (fun hM => ?_)
         rotate_left
         ·intro W hSw
          (try dsimp only at hSw)
          go_simp
          try with_reducible rfl
         try simp only [Act.put, List.setIfInBounds_toArray, List.set_cons_zero, List.set_cons_succ]
         refine till_op (v := ?_) 9 [] hM rfl (by kernel_rfl) (by kernel_rfl) (by kernel_rfl) (by kernel_rfl) rfl (fun _ _ _ h => h) (Or.inl ⟨by rfl, ?_⟩) hS (fun hM => ?_)
         rotate_left
         ·intro W hSw
          (try dsimp only at hSw)
          go_simp
          try with_reducible rfl
         try simp only [Act.put, List.setIfInBounds_toArray, List.set_cons_zero, List.set_cons_succ]
         refine till_op (v := ?_) 10 [11, 12, 13] hM rfl (by kernel_rfl) (by kernel_rfl) (by kernel_rfl) (by kernel_rfl) rfl (fun _ _ _ h => h) (Or.inl ⟨by rfl, ?_⟩) hS (fun hM => ?_)
         rotate_left
         ·intro W hSw
          (try dsimp only at hSw)
          go_simp
          try with_reducible rfl
         try simp only [Act.put, List.setIfInBounds_toArray, List.set_cons_zero, List.set_cons_succ]
         refine till_op (v := ?_) 11 [12, 13] hM rfl (by kernel_rfl) (by kernel_rfl) (by kernel_rfl) (by kernel_rfl) rfl (fun _ _ _ h => h) (Or.inl ⟨by rfl, ?_⟩) hS (fun hM => ?_)
         rotate_left
         ·intro W hSw
          (try dsimp only at hSw)
          go_simp
          try with_reducible rfl
         try simp only [Act.put, List.setIfInBounds_toArray, List.set_cons_zero, List.set_cons_succ]
         refine till_op (v := ?_) 12 [13] hM rfl (by kernel_rfl) (by kernel_rfl) (by kernel_rfl) (by kernel_rfl) rfl (fun _ _ _ h => h) (Or.inl ⟨by rfl, ?_⟩) hS (fun hM => ?_)
         rotate_left
         ·intro W hSw
          (try dsimp only at hSw)
          go_simp
          try with_reducible rfl
         try simp only [Act.put, List.setIfInBounds_toArray, List.set_cons_zero, List.set_cons_succ]
         refine till_op (v := ?_) 13 [] hM rfl (by kernel_rfl) (by kernel_rfl) (by kernel_rfl) (by kernel_rfl) rfl (fun _ _ _ h => h) (Or.inl ⟨by rfl, ?_⟩) hS (fun hM => ?_)
         rotate_left
         ·intro W hSw
          (try dsimp only at hSw)
          go_simp
          try with_reducible rfl
         try simp only [Act.put, List.setIfInBounds_toArray, List.set_cons_zero, List.set_cons_succ]
         refine till_one 14 hM rfl (by kernel_rfl) (fun K hK => ?_)
         go_simp
         go_at_call 82
         refine HCP.out.mono ?_
         rintro e w8 ⟨⟨rv, rfl⟩, hm8⟩
         refine hK _ _ (fun h => absurd rfl h) (fun hM => ?_)
         clear hK K
         try simp only [Act.put, List.setIfInBounds_toArray, List.set_cons_zero, List.set_cons_succ]
         refine till_done (by kernel_rfl) ?_ _
         have HF8 := Lib.hid hm8
         clear hm8 HCP
         go_wp2_with fail
         go_roundw
         case rel => exact ⟨i + 1, by omega, by go_num, Lib.hid (by rw [HNX.out]; exact HF8.out)⟩
         case measure => simp [intOf]; omega
        ·obtain rfl : i = xws.length := by omega
         have HF8 : Hid (XM w D w.heap.size (w.heap.size + 1) w1.heap.size ⟨k, tx, att, stamp, op, key, value, mode, yes⟩ zeroR ⟨att, ⟨xk, xtx, xat, xst, xop, xkey, xval, xmode, xyes⟩, xa, xws.length, xc, xws⟩ (shT g pc pl ps bl bd E (if isW ⟨k, tx, att, stamp, op, key, value, mode, yes⟩ xws = true then flushS (doneS S ⟨k, tx, att, stamp, op, key, value, mode, yes⟩) xws else (doneS S ⟨k, tx, att, stamp, op, key, value, mode, yes⟩))) W0) := Lib.hid (by
          rw [if_pos HBW.out.symm]
          have h8 := hS.out
          rw [flushI_all, HT.out] at h8
          exact h8)
         clear hS
         go_wp2_with fail
         go_meet
         case rel => exact HF8
     case rest =>
      generalize wc = W6 at *
      have H5 := hcut
      clear hcut HN hx10
      generalize hS2 : (if isW ⟨k, tx, att, stamp, op, key, value, mode, yes⟩ xws = true then flushS (doneS S ⟨k, tx, att, stamp, op, key, value, mode, yes⟩) xws else (doneS S ⟨k, tx, att, stamp, op, key, value, mode, yes⟩)) = S2 at *
      have hL2 : S2.locks = S.locks ∧ S2.lives = S.lives := by
       rw [← hS2]
       split <;> exact ⟨rfl, rfl⟩
      have HL2 := Lib.hid hL2
      clear hS2 hL2
      have HLV := Lib.hid (XM.leave (XM.below H5.out (bel_drew W6)) (by rw [HL2.out.1]; exact HOK.out) (by rw [HL2.out.1]; exact HSM.out) tx)
      have hA := Mem.shAt (XM.rest H5.out) htx
      have hc := H5.out.hc
      have hS0 : W6.drew.cell? ⟨g, 3, none⟩ = some (.pointer (some ⟨pl, 0, none⟩)) ∧ W6.drew.cell? ⟨w.heap.size, 1, none⟩ = some (.int .i64 tx) := ⟨hA.c3, (cell_of_heap (i := 1) (v := .int .i64 tx) hc rfl).1⟩
      clear hA hc H5
      go_wp2_with fail
      refine wp_region_till (fun W => W.cell? ⟨g, 3, none⟩ = some (.pointer (some ⟨pl, 0, none⟩)) ∧ W.cell? ⟨w.heap.size, 1, none⟩ = some (.int .i64 tx)) 6 (by kernel_rfl) (hS0) (fun hM hS => ?_)
      refine till_op (v := ?_) 0 [1, 2, 3] hM rfl (by kernel_rfl) (by kernel_rfl) (by kernel_rfl) (by kernel_rfl) rfl (fun _ _ _ h => h) (Or.inl ⟨by rfl, ?_⟩) hS (fun hM => ?_)
      rotate_left
      ·intro W hSw
       (try dsimp only at hSw)
       go_simp
       try with_reducible rfl
      try simp only [Act.put, List.setIfInBounds_toArray, List.set_cons_zero, List.set_cons_succ]
      refine till_op (v := ?_) 1 [2, 3] hM rfl (by kernel_rfl) (by kernel_rfl) (by kernel_rfl) (by kernel_rfl) rfl (fun _ _ _ h => h) (Or.inl ⟨by rfl, ?_⟩) hS (fun hM => ?_)
      rotate_left
      ·intro W hSw
       (try dsimp only at hSw)
       go_simp
       try with_reducible rfl
      try simp only [Act.put, List.setIfInBounds_toArray, List.set_cons_zero, List.set_cons_succ]
      refine till_op (v := ?_) 2 [3] hM rfl (by kernel_rfl) (by kernel_rfl) (by kernel_rfl) (by kernel_rfl) rfl (fun _ _ _ h => h) (Or.inl ⟨by rfl, ?_⟩) hS (fun hM => ?_)
      rotate_left
      ·intro W hSw
       (try dsimp only at hSw)
       go_simp
       try with_reducible rfl
      try simp only [Act.put, List.setIfInBounds_toArray, List.set_cons_zero, List.set_cons_succ]
      refine till_op (v := ?_) 3 [] hM rfl (by kernel_rfl) (by kernel_rfl) (by kernel_rfl) (by kernel_rfl) rfl (fun _ _ _ h => h) (Or.inl ⟨by rfl, ?_⟩) hS (fun hM => ?_)
      rotate_left
      ·intro W hSw
       (try dsimp only at hSw)
       go_simp
       try with_reducible rfl
      try simp only [Act.put, List.setIfInBounds_toArray, List.set_cons_zero, List.set_cons_succ]
      refine till_op (v := ?_) 4 [5] hM rfl (by kernel_rfl) (by kernel_rfl) (by kernel_rfl) (by kernel_rfl) rfl (fun _ _ _ h => h) (Or.inl ⟨by rfl, ?_⟩) hS (fun hM => ?_)
      rotate_left
      ·intro W hSw
       (try dsimp only at hSw)
       go_simp
       try with_reducible rfl
      try simp only [Act.put, List.setIfInBounds_toArray, List.set_cons_zero, List.set_cons_succ]
      refine till_op (v := ?_) 5 [] hM rfl (by kernel_rfl) (by kernel_rfl) (by kernel_rfl) (by kernel_rfl) rfl (fun _ _ _ h => h) (Or.inl ⟨by rfl, ?_⟩) hS (fun hM => ?_)
      rotate_left
      ·intro W hSw
       (try dsimp only at hSw)
       go_simp
       try with_reducible rfl
      try simp only [Act.put, List.setIfInBounds_toArray, List.set_cons_zero, List.set_cons_succ]
      refine till_one 6 hM rfl (by kernel_rfl) (fun K hK => ?_)
      go_simp
      go_at_call 83
      refine HLV.out.mono ?_
      rintro e w8 ⟨⟨rv, rfl⟩, hm8⟩
      refine hK _ _ (fun h => absurd rfl h) (fun hM => ?_)
      clear hK K
      try simp only [Act.put, List.setIfInBounds_toArray, List.set_cons_zero, List.set_cons_succ]
      refine till_done (by kernel_rfl) ?_ _
      have H8 := Lib.hid hm8
      clear hm8 HLV
      have hA := Mem.shAt (XM.rest H8.out) htx
      have hc := H8.out.hc
      have hS0 : w8.drew.cell? ⟨g, 5, none⟩ = some (.map (some bl)) ∧ w8.drew.cell? ⟨w.heap.size, 1, none⟩ = some (.int .i64 tx) := ⟨hA.c5, (cell_of_heap (i := 1) (v := .int .i64 tx) hc rfl).1⟩
      obtain ⟨w9b, HR17, hm9⟩ := XM.drop (XM.below H8.out (bel_drew w8)) htx 0
      have H9 := Lib.hid hm9
      clear hA hc H8 hm9
      go_wp2_with fail
      refine wp_region_till (fun W => W.cell? ⟨g, 5, none⟩ = some (.map (some bl)) ∧ W.cell? ⟨w.heap.size, 1, none⟩ = some (.int .i64 tx)) 6 (by kernel_rfl) (hS0) (fun hM hS => ?_)
      refine till_op (v := ?_) 0 [1, 2, 3] hM rfl (by kernel_rfl) (by kernel_rfl) (by kernel_rfl) (by kernel_rfl) rfl (fun _ _ _ h => h) (Or.inl ⟨by rfl, ?_⟩) hS (fun hM => ?_)
      rotate_left
      ·intro W hSw
       (try dsimp only at hSw)
       go_simp
       try with_reducible rfl
      try simp only [Act.put, List.setIfInBounds_toArray, List.set_cons_zero, List.set_cons_succ]
      refine till_op (v := ?_) 1 [2, 3] hM rfl (by kernel_rfl) (by kernel_rfl) (by kernel_rfl) (by kernel_rfl) rfl (fun _ _ _ h => h) (Or.inl ⟨by rfl, ?_⟩) hS (fun hM => ?_)
      rotate_left
      ·intro W hSw
       (try dsimp only at hSw)
       go_simp
       try with_reducible rfl
      try simp only [Act.put, List.setIfInBounds_toArray, List.set_cons_zero, List.set_cons_succ]
      refine till_op (v := ?_) 2 [3] hM rfl (by kernel_rfl) (by kernel_rfl) (by kernel_rfl) (by kernel_rfl) rfl (fun _ _ _ h => h) (Or.inl ⟨by rfl, ?_⟩) hS (fun hM => ?_)
      rotate_left
      ·intro W hSw
       (try dsimp only at hSw)
       go_simp
       try with_reducible rfl
      try simp only [Act.put, List.setIfInBounds_toArray, List.set_cons_zero, List.set_cons_succ]
      refine till_op (v := ?_) 3 [] hM rfl (by kernel_rfl) (by kernel_rfl) (by kernel_rfl) (by kernel_rfl) rfl (fun _ _ _ h => h) (Or.inl ⟨by rfl, ?_⟩) hS (fun hM => ?_)
      rotate_left
      ·intro W hSw
       (try dsimp only at hSw)
       go_simp
       try with_reducible rfl
      try simp only [Act.put, List.setIfInBounds_toArray, List.set_cons_zero, List.set_cons_succ]
      refine till_op (v := ?_) 4 [5] hM rfl (by kernel_rfl) (by kernel_rfl) (by kernel_rfl) (by kernel_rfl) rfl (fun _ _ _ h => h) (Or.inl ⟨by rfl, ?_⟩) hS (fun hM => ?_)
      rotate_left
      ·intro W hSw
       (try dsimp only at hSw)
       go_simp
       try with_reducible rfl
      try simp only [Act.put, List.setIfInBounds_toArray, List.set_cons_zero, List.set_cons_succ]
      refine till_op (v := ?_) 5 [] hM rfl (by kernel_rfl) (by kernel_rfl) (by kernel_rfl) (by kernel_rfl) rfl (fun _ _ _ h => h) (Or.inl ⟨by rfl, ?_⟩) hS (fun hM => ?_)
      rotate_left
      ·intro W hSw
       (try dsimp only at hSw)
       go_simp
       try with_reducible rfl
      try simp only [Act.put, List.setIfInBounds_toArray, List.set_cons_zero, List.set_cons_succ]
      refine till_one 6 hM rfl (by kernel_rfl) (fun K hK => ?_)
      refine step_deleteR rfl (.tmp 105) (.tmp 107) 96 3 rfl _ _ rfl rfl HR17 ?_
      refine hK _ _ (fun h => absurd rfl h) (fun hM => ?_)
      clear hK K
      try simp only [Act.put, List.setIfInBounds_toArray, List.set_cons_zero, List.set_cons_succ]
      refine till_done (by kernel_rfl) ?_ _
      have HEND := Lib.hid (XM.fin (q := (⟨0, 0, ⟨#[]⟩, false⟩ : Rp)) (S' := (goneS S2 tx)) H9.out (by rw [lvE_del, HE.out]; show kDel tx S.lives = kDel tx S2.lives; rw [HL2.out.2]) rfl)
      have HRT := H9.out.rat
      obtain ⟨c0, c1, c2, c3, f0, f1, f2, f3⟩ := HRT
      simp only [zeroR] at c0 c1 c2 c3
      clear H9
      go_wp2_with fail
      obtain ⟨W5, hW5⟩ : ∃ W5, W5 = ((((w9b.setCell ⟨w.heap.size + 1, 0, none⟩ (.int .i64 0)).setCell ⟨w.heap.size + 1, 1, none⟩ (.int .i64 0)).setCell ⟨w.heap.size + 1, 2, none⟩ (.string ⟨#[]⟩)).setCell ⟨w.heap.size + 1, 3, none⟩ (.bool false)) := ⟨_, rfl⟩
      rw [← hW5]
      obtain ⟨⟨v0, v1, v2, v3, -, -, -, -⟩, hR⟩ := HEND.out W5 hW5
      simp only at v0 v1 v2 v3
      clear hW5
      refine bodyPost_ret (by simp [results, Tryz.results36, go_sem, v0, v1, v2, v3]; try rfl) rfl ?_
      rw [HGM.out]
      exact hR
   ·have hlt0 : ¬ xatt < att := by omega
    go_wp2_with fail
    refine HOV.out.mono ?_
    rintro e w3 ⟨rfl, rfl⟩
    clear HOV
    clear hk1
    go_wp2_with fail
    clear hx0 hk2 hlt0
    have HGM : Hid (finM S ⟨k, tx, att, stamp, op, key, value, mode, yes⟩ = (codeR 0, doneS S ⟨k, tx, att, stamp, op, key, value, mode, yes⟩)) := Lib.hid (finM_newer (c := ⟨k, tx, att, stamp, op, key, value, mode, yes⟩) HOF.out (by simp only [HE2.out]; exact hgt))
    have hA := Mem.shAt (XM.rest HX1.out) htx
    have hc := HX1.out.hc
    have hS0 : W2.drew.cell? ⟨g, 6, none⟩ = some (.map (some bd)) ∧ W2.drew.cell? ⟨w.heap.size, 1, none⟩ = some (.int .i64 tx) ∧ W2.drew.cell? ⟨w.heap.size, 2, none⟩ = some (.int .i64 att) := ⟨hA.c6, (cell_of_heap (i := 1) (v := .int .i64 tx) hc rfl).1, (cell_of_heap (i := 2) (v := .int .i64 att) hc rfl).1⟩
    obtain ⟨w9, HR, HM9⟩ := XM.done (XM.below HX1.out (bel_drew W2)) htx HDN.out
    have HN := Lib.hid HM9
    clear HM9 hA hc
    refine wp_region_till (fun W => W.cell? ⟨g, 6, none⟩ = some (.map (some bd)) ∧ W.cell? ⟨w.heap.size, 1, none⟩ = some (.int .i64 tx) ∧ W.cell? ⟨w.heap.size, 2, none⟩ = some (.int .i64 att)) 8 (by kernel_rfl) (hS0) (fun hM hS => ?_)
    refine till_op (v := ?_) 0 [1, 2, 3] hM rfl (by kernel_rfl) (by kernel_rfl) (by kernel_rfl) (by kernel_rfl) rfl (fun _ _ _ h => h) (Or.inl ⟨by rfl, ?_⟩) hS (fun hM => ?_)
    rotate_left
    ·intro W hSw
     (try dsimp only at hSw)
     go_simp
     try with_reducible rfl
    try simp only [Act.put, List.setIfInBounds_toArray, List.set_cons_zero, List.set_cons_succ]
    refine till_op (v := ?_) 1 [2, 3] hM rfl (by kernel_rfl) (by kernel_rfl) (by kernel_rfl) (by kernel_rfl) rfl (fun _ _ _ h => h) (Or.inl ⟨by rfl, ?_⟩) hS (fun hM => ?_)
    rotate_left
    ·intro W hSw
     (try dsimp only at hSw)
     go_simp
     try with_reducible rfl
    try simp only [Act.put, List.setIfInBounds_toArray, List.set_cons_zero, List.set_cons_succ]
    refine till_op (v := ?_) 2 [3] hM rfl (by kernel_rfl) (by kernel_rfl) (by kernel_rfl) (by kernel_rfl) rfl (fun _ _ _ h => h) (Or.inl ⟨by rfl, ?_⟩) hS (fun hM => ?_)
    rotate_left
    ·intro W hSw
     (try dsimp only at hSw)
     go_simp
     try with_reducible rfl
    try simp only [Act.put, List.setIfInBounds_toArray, List.set_cons_zero, List.set_cons_succ]
    refine till_op (v := ?_) 3 [] hM rfl (by kernel_rfl) (by kernel_rfl) (by kernel_rfl) (by kernel_rfl) rfl (fun _ _ _ h => h) (Or.inl ⟨by rfl, ?_⟩) hS (fun hM => ?_)
    rotate_left
    ·intro W hSw
     (try dsimp only at hSw)
     go_simp
     try with_reducible rfl
    try simp only [Act.put, List.setIfInBounds_toArray, List.set_cons_zero, List.set_cons_succ]
    refine till_op (v := ?_) 4 [5] hM rfl (by kernel_rfl) (by kernel_rfl) (by kernel_rfl) (by kernel_rfl) rfl (fun _ _ _ h => h) (Or.inl ⟨by rfl, ?_⟩) hS (fun hM => ?_)
    rotate_left
    ·intro W hSw
     (try dsimp only at hSw)
     go_simp
     try with_reducible rfl
    try simp only [Act.put, List.setIfInBounds_toArray, List.set_cons_zero, List.set_cons_succ]
    refine till_op (v := ?_) 5 [] hM rfl (by kernel_rfl) (by kernel_rfl) (by kernel_rfl) (by kernel_rfl) rfl (fun _ _ _ h => h) (Or.inl ⟨by rfl, ?_⟩) hS (fun hM => ?_)
    rotate_left
    ·intro W hSw
     (try dsimp only at hSw)
     go_simp
     try with_reducible rfl
    try simp only [Act.put, List.setIfInBounds_toArray, List.set_cons_zero, List.set_cons_succ]
    refine till_op (v := ?_) 6 [7] hM rfl (by kernel_rfl) (by kernel_rfl) (by kernel_rfl) (by kernel_rfl) rfl (fun _ _ _ h => h) (Or.inl ⟨by rfl, ?_⟩) hS (fun hM => ?_)
    rotate_left
    ·intro W hSw
     (try dsimp only at hSw)
     go_simp
     try with_reducible rfl
    try simp only [Act.put, List.setIfInBounds_toArray, List.set_cons_zero, List.set_cons_succ]
    refine till_op (v := ?_) 7 [] hM rfl (by kernel_rfl) (by kernel_rfl) (by kernel_rfl) (by kernel_rfl) rfl (fun _ _ _ h => h) (Or.inl ⟨by rfl, ?_⟩) hS (fun hM => ?_)
    rotate_left
    ·intro W hSw
     (try dsimp only at hSw)
     go_simp
     try with_reducible rfl
    try simp only [Act.put, List.setIfInBounds_toArray, List.set_cons_zero, List.set_cons_succ]
    refine till_one 8 hM rfl (by kernel_rfl) (fun K hK => ?_)
    refine step_mapUpdateR rfl (.tmp 40) (.tmp 42) (.tmp 44) 97 rfl _ _ _ rfl rfl rfl HR ?_
    refine hK _ _ (fun h => absurd rfl h) (fun hM => ?_)
    clear hK K
    try simp only [Act.put, List.setIfInBounds_toArray, List.set_cons_zero, List.set_cons_succ]
    refine till_done (by kernel_rfl) ?_ _
    have hx := HN.out.hx
    have hc := HN.out.hc
    have hx0 := (cell_of_heap (i := 0) (v := .int .i64 xatt) hx rfl).1
    have hk2 := (cell_of_heap (i := 2) (v := .int .i64 att) hc rfl).1
    clear hx hc HR
    have HEND := Lib.hid (XM.fin (q := (⟨0, 0, ⟨#[]⟩, false⟩ : Rp)) (S' := (doneS S ⟨k, tx, att, stamp, op, key, value, mode, yes⟩)) HN.out HE.out rfl)
    have HRT := HN.out.rat
    obtain ⟨c0, c1, c2, c3, f0, f1, f2, f3⟩ := HRT
    simp only [zeroR] at c0 c1 c2 c3
    have hne : (xatt != att) = true := by simp; omega
    clear HN HSI HDN HE1 HE2 HX1
    go_wp2_with fail
    obtain ⟨W5, hW5⟩ : ∃ W5, W5 = ((((w9.setCell ⟨w.heap.size + 1, 0, none⟩ (.int .i64 0)).setCell ⟨w.heap.size + 1, 1, none⟩ (.int .i64 0)).setCell ⟨w.heap.size + 1, 2, none⟩ (.string ⟨#[]⟩)).setCell ⟨w.heap.size + 1, 3, none⟩ (.bool false)) := ⟨_, rfl⟩
    rw [← hW5]
    obtain ⟨⟨v0, v1, v2, v3, -, -, -, -⟩, hR⟩ := HEND.out W5 hW5
    simp only at v0 v1 v2 v3
    clear hW5
    refine bodyPost_ret (by simp [results, Tryz.results36, go_sem, v0, v1, v2, v3]; try rfl) rfl ?_
    rw [HGM.out]
    exact hR
end Go.Proofs.YtmifgnibalbgjaaGreat
