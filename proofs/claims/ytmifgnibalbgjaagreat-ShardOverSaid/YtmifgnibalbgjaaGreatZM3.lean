/- Which locks, readings and writings come too late. -/
import Derived.Test.YtmifgnibalbgjaaGreatZM2
import Derived.Test.YtmifgnibalbgjaaGreatZLK
import Derived.Handy
import Derived.Test.YtmifgnibalbgjaaGreatZOwn
import Derived.Lib.SliceRun
namespace Go.Proofs.YtmifgnibalbgjaaGreat
open Go.RowKit
def lateM (S : Sh) (c : Cm) : Int :=
  if overM S c.tx c.att || livesM S c.tx && decide (c.att < (liveM S c.tx).att) then 9
  else if livesM S c.tx && decide ((liveM S c.tx).att < c.att) then 8
  else if livesM S c.tx && (decide (c.op < (liveM S c.tx).last.op) || decide (c.op = (liveM S c.tx).last.op) && !decide (c = (liveM S c.tx).last)) then 9
  else 0
abbrev i64 (n : Int) : Prop := -9223372036854775808 ≤ n ∧ n ≤ 9223372036854775807
/-- A shard opened: its cells, what it knows of a transaction. -/
structure ShAt (g : Nat) (S : Sh) (tx : Int) (w : World) (pc pl ps bl bd : Nat) (E : List (Int × Le)) : Prop where
  c0 : w.cell? ⟨g, 0, none⟩ = some (.int .i64 S.clock)
  c1 : w.cell? ⟨g, 1, none⟩ = some (.int .i64 S.moment)
  c2 : w.cell? ⟨g, 2, none⟩ = some (.pointer (some ⟨pc, 0, none⟩))
  c3 : w.cell? ⟨g, 3, none⟩ = some (.pointer (some ⟨pl, 0, none⟩))
  c4 : w.cell? ⟨g, 4, none⟩ = some (.pointer (some ⟨ps, 0, none⟩))
  c5 : w.cell? ⟨g, 5, none⟩ = some (.map (some bl))
  c6 : w.cell? ⟨g, 6, none⟩ = some (.map (some bd))
  lives : (Instr.lookup 96 (.map (some bl)) (.int .i64 tx) true).run Tryz.prog w = .ok (.tuple #[((kGet tx E).getD ⟨0, zeroC, none, 0, 0, []⟩).val, .bool (kGet tx E).isSome]) w
  lives1 : (Instr.lookup 96 (.map (some bl)) (.int .i64 tx) false).run Tryz.prog w = .ok (((kGet tx E).getD ⟨0, zeroC, none, 0, 0, []⟩).val) w
  dones : (Instr.lookup 97 (.map (some bd)) (.int .i64 tx) true).run Tryz.prog w = .ok (.tuple #[.int .i64 ((kGet tx S.dones).getD 0), .bool (kGet tx S.dones).isSome]) w
  lt : g < w.heap.size
abbrev shB (g : Nat) (S : Sh) (pc pl ps bl bd : Nat) : Asn := BlockA g #[.int .i64 S.clock, .int .i64 S.moment, .pointer (some ⟨pc, 0, none⟩), .pointer (some ⟨pl, 0, none⟩), .pointer (some ⟨ps, 0, none⟩), .map (some bl), .map (some bd)] 99
theorem Mem.shAt {w0 w : World} {D0 : List Nat} {g pc pl ps bl bd : Nat} {E : List (Int × Le)} {S : Sh} {r : List Asn} [Stables r] (h : Mem w0 D0 w
    (shB g S pc pl ps bl bd :: CellsA pc S.cells S.clast :: TabA pl S.locks :: StA ps S.rows :: KRowsA (intK Tryz.underlying3) Le.val Le.row bl E :: KMapA (intK Tryz.underlying3) bd (dnV S.dones) :: r)) {tx : Int} (htx : i64 tx) : ShAt g S tx w pc pl ps bl bd E := by
  have hB := (Mem.get [] (A := shB g S pc pl ps bl bd) (r := CellsA pc S.cells S.clast :: TabA pl S.locks :: StA ps S.rows :: KRowsA (intK Tryz.underlying3) Le.val Le.row bl E :: KMapA (intK Tryz.underlying3) bd (dnV S.dones) :: r) h).choose_spec.2
  obtain ⟨h1, h2⟩ := sh_lives h htx
  exact ⟨(cell_of_heap hB rfl).1, (cell_of_heap hB rfl).1, (cell_of_heap hB rfl).1, (cell_of_heap hB rfl).1, (cell_of_heap hB rfl).1, (cell_of_heap hB rfl).1, (cell_of_heap hB rfl).1, h1, h2, sh_dones h htx, lt_of_heap hB⟩
theorem livesM_E {S : Sh} {E : List (Int × Le)} (e : lvE E = S.lives) (tx : Int) : livesM S tx = (kGet tx E).isSome ∧ liveM S tx = ((kGet tx E).getD ⟨0, zeroC, none, 0, 0, []⟩).lv := by
  unfold livesM liveM
  rw [← e, lvE_get]
  cases kGet tx E <;> exact ⟨rfl, rfl⟩
def lateB (ov b : Bool) (att xatt op xop : Int) (ne : Bool) : Int :=
  if ov || b && decide (att < xatt) then 9
  else if b && decide (xatt < att) then 8
  else if b && (decide (op < xop) || decide (op = xop) && ne) then 9
  else 0
theorem lateM_E {S : Sh} {E : List (Int × Le)} (e : lvE E = S.lives) (c : Cm) : lateM S c = lateB (overM S c.tx c.att) (kGet c.tx E).isSome c.att ((kGet c.tx E).getD ⟨0, zeroC, none, 0, 0, []⟩).att c.op ((kGet c.tx E).getD ⟨0, zeroC, none, 0, 0, []⟩).last.op (!decide (c = ((kGet c.tx E).getD ⟨0, zeroC, none, 0, 0, []⟩).last)) := by
  unfold lateM lateB
  obtain ⟨e1, e2⟩ := livesM_E e c.tx
  rw [e1, e2]; rfl
set_option maxRecDepth 100000 in
set_option maxHeartbeats 4000000 in
theorem late_any (g : Nat) (S : Sh) (c : Cm) (w : World) {D : List Nat} (h : ShA g S w D) (htx : i64 c.tx) :
    Calls Tryz.prog 38 #[.pointer (some ⟨g, 0, none⟩), c.val] w fun e w' => e = .returned (.int .i64 (lateM S c)) ∧ Below w.heap.size w w' := by
  obtain ⟨pc, pl, ps, bl, bd, E, e, M⟩ := Mem.shOpen (Mem.start h)
  have HA := Lib.hid fun W (hb : Below w.heap.size w W) => Mem.shAt (M.below hb) htx
  have HO := Lib.hid fun W (hb : Below w.heap.size w W) => over_any g S c.tx c.att W (Stable.keep (A := ShA g S) h fun x hx => hb.block x (Stable.lt (A := ShA g S) h x hx)) htx
  rw [lateM_E e c]
  have HCM := Lib.hid (fun W => cm_neq c ((kGet c.tx E).getD ⟨0, zeroC, none, 0, 0, []⟩).last W)
  generalize (!decide (c = ((kGet c.tx E).getD ⟨0, zeroC, none, 0, 0, []⟩).last)) = ne at *
  generalize overM S c.tx c.att = ov at *
  obtain ⟨k, tx, att, stamp, op, key, value, mode, yes⟩ := c
  simp only at HA HO htx HCM ⊢
  have hb1 := bel_new w (.cells #[.int .i64 k, .int .i64 tx, .int .i64 att, .int .i64 stamp, .int .i64 op, .string key, .string value, .int .i64 mode, .bool yes] 28)
  have hcs := heap_new w (.cells #[.int .i64 k, .int .i64 tx, .int .i64 att, .int .i64 stamp, .int .i64 op, .string key, .string value, .int .i64 mode, .bool yes] 28)
  obtain ⟨w1, hw1⟩ : ∃ w1, w1 = w.alloc (.cells #[.int .i64 k, .int .i64 tx, .int .i64 att, .int .i64 stamp, .int .i64 op, .string key, .string value, .int .i64 mode, .bool yes] 28) := ⟨_, rfl⟩
  rw [← hw1] at hb1 hcs
  have hc5 := (HA.out _ hb1).c5
  have hc5a := fun o => (HA.out _ (bel_one hb1 o)).c5
  have htx0 := (cell_of_heap (i := 1) (v := .int .i64 tx) hcs rfl).1
  have htxa := fun o => ((bel_new w1 o).cell (World.block_lt_of_cell? w1 _ htx0)).trans htx0
  have hl0 := (HA.out _ (hb1.drew)).lives
  have hl1 := fun o => (HA.out _ ((bel_one hb1 o).drew)).lives
  have HB1 := Lib.hid hb1
  have HCS := Lib.hid hcs
  clear M e h htx HA hb1 hcs
  generalize hX : (kGet tx E).getD ⟨0, zeroC, none, 0, 0, []⟩ = X at *
  generalize (kGet tx E).isSome = b at *
  clear hX
  obtain ⟨xatt, ⟨xk, xtx, xat, xst, xop, xkey, xval, xmode, xyes⟩, xa, xn, xc, xws⟩ := X
  simp only at hl0 hl1 HCM ⊢
  go_enter Tryz.func38, Tryz.ntmps38
  go_wp2_with fail
  rw [← hw1]
  clear hw1
  go_region
  obtain ⟨w2, hw2⟩ : ∃ w2, w2 = w1.alloc (.cells #[.int .i64 xatt, .int .i64 xk, .int .i64 xtx, .int .i64 xat, .int .i64 xst, .int .i64 xop, .string xkey, .string xval, .int .i64 xmode, .bool xyes, .slice xa xn xc] 108) := ⟨_, rfl⟩
  have hb2 := bel_new w1 (.cells #[.int .i64 xatt, .int .i64 xk, .int .i64 xtx, .int .i64 xat, .int .i64 xst, .int .i64 xop, .string xkey, .string xval, .int .i64 xmode, .bool xyes, .slice xa xn xc] 108)
  have hx2 := heap_new w1 (.cells #[.int .i64 xatt, .int .i64 xk, .int .i64 xtx, .int .i64 xat, .int .i64 xst, .int .i64 xop, .string xkey, .string xval, .int .i64 xmode, .bool xyes, .slice xa xn xc] 108)
  rw [← hw2] at hb2 hx2 ⊢
  clear hw2
  have hC2 := (hb2.block w.heap.size (lt_of_heap HCS.out)).trans HCS.out
  have HB3 := Lib.hid ((HB1.out.trans (hb2.mono HB1.out.size)).drew)
  have HO2 := Lib.hid (HO.out _ HB3.out)
  have hK0 := (cell_of_heap (i := 0) (v := .int .i64 k) hC2 rfl).1
  have hK1 := (cell_of_heap (i := 1) (v := .int .i64 tx) hC2 rfl).1
  have hK2 := (cell_of_heap (i := 2) (v := .int .i64 att) hC2 rfl).1
  have hK3 := (cell_of_heap (i := 3) (v := .int .i64 stamp) hC2 rfl).1
  have hK4 := (cell_of_heap (i := 4) (v := .int .i64 op) hC2 rfl).1
  have hK5 := (cell_of_heap (i := 5) (v := .string key) hC2 rfl).1
  have hK6 := (cell_of_heap (i := 6) (v := .string value) hC2 rfl).1
  have hK7 := (cell_of_heap (i := 7) (v := .int .i64 mode) hC2 rfl).1
  have hK8 := (cell_of_heap (i := 8) (v := .bool yes) hC2 rfl).1
  have hX0 := (cell_of_heap (i := 0) (v := .int .i64 xatt) hx2 rfl).1
  have hX1 := (cell_of_heap (i := 1) (v := .int .i64 xk) hx2 rfl).1
  have hX2 := (cell_of_heap (i := 2) (v := .int .i64 xtx) hx2 rfl).1
  have hX3 := (cell_of_heap (i := 3) (v := .int .i64 xat) hx2 rfl).1
  have hX4 := (cell_of_heap (i := 4) (v := .int .i64 xst) hx2 rfl).1
  have hX5 := (cell_of_heap (i := 5) (v := .int .i64 xop) hx2 rfl).1
  have hX6 := (cell_of_heap (i := 6) (v := .string xkey) hx2 rfl).1
  have hX7 := (cell_of_heap (i := 7) (v := .string xval) hx2 rfl).1
  have hX8 := (cell_of_heap (i := 8) (v := .int .i64 xmode) hx2 rfl).1
  have hX9 := (cell_of_heap (i := 9) (v := .bool xyes) hx2 rfl).1
  have hcm := HCM.out
  clear hC2 hx2 hb2 hc5 hc5a htx0 htxa hl0 hl1 HCM HO
  go_wp2_with fail
  refine HO2.out.mono ?_
  rintro e w3 ⟨rfl, rfl⟩
  cases ov with
  | true =>
    go_wp2_with fail
    go_ret
    exact ⟨by simp [lateB], HB3.out⟩
  | false =>
    cases b with
    | false =>
      go_wp2_with fail
      go_ret
      exact ⟨by simp [lateB], HB3.out⟩
    | true =>
      by_cases h1 : att < xatt
      · go_wp2_with fail
        go_ret
        exact ⟨by simp [lateB, h1], HB3.out⟩
      by_cases h2 : xatt < att
      · go_wp2_with fail
        go_ret
        exact ⟨by simp [lateB, h1, h2], HB3.out⟩
      by_cases h3 : op < xop
      · go_wp2_with fail
        go_ret
        exact ⟨by simp [lateB, h1, h2, h3], HB3.out⟩
      by_cases h4 : op = xop
      · subst h4
        cases ne with
        | true =>
          go_wp2_with fail
          go_ret
          exact ⟨by simp [lateB, h1, h2], HB3.out⟩
        | false =>
          have HQ : Hid (lateB false true att xatt op op false = 0) := Lib.hid (by simp only [lateB, decide_eq_false h1, decide_eq_false h2]; simp)
          go_wp2_with fail
          go_ret
          exact ⟨by rw [HQ.out]; rfl, HB3.out⟩
      · have h4b : (op == xop) = false := by simpa using h4
        have HQ : Hid (lateB false true att xatt op xop ne = 0) := Lib.hid (by simp only [lateB, decide_eq_false h1, decide_eq_false h2, decide_eq_false h3, decide_eq_false h4]; simp)
        go_wp2_with fail
        go_ret
        exact ⟨by rw [HQ.out]; rfl, HB3.out⟩
end Go.Proofs.YtmifgnibalbgjaaGreat
/- line, Holds, Waits. -/
namespace Go.Proofs.YtmifgnibalbgjaaGreat
open Go.RowKit
theorem row_max {w : World} {E k n c : Nat} {a : Option Addr} {xs : List Value} (h : Row w E k a n c xs) : n ≤ maxLen := by
  rcases h.out with ⟨_, h0, _, _⟩ | ⟨g, cur, e, hg, h1, h2, h3, h4, _⟩
  · rw [h0]; exact Nat.zero_le _
  · omega
/-- a line's rows, read. -/
theorem rowsOf_read {w0 w : World} {D0 : List Nat} (l : List Asn) {X : List Ln} {L : List Li} {r : List Asn} [Stables l] [Stables r] (h : Mem w0 D0 w (l ++ (rowsOf X L ++ r))) {i : Nat} (hx : i < X.length) (hl : i < L.length) :
    Row w 32 2 X[i].hs.a X[i].hs.n X[i].hs.c (hdFlat L[i].hs) ∧ Row w 32 2 X[i].qs.a X[i].qs.n X[i].qs.c (hdFlat L[i].qs) := by
  rw [rowsOf_at hx hl] at h
  constructor
  · exact Mem.rowAt (l ++ rowsOf (X.take i) (L.take i)) (r := RowH X[i].qs L[i].qs :: (rowsOf (X.drop (i + 1)) (L.drop (i + 1)) ++ r)) (by simpa [List.append_assoc] using h)
  · exact Mem.rowAt (l ++ rowsOf (X.take i) (L.take i) ++ [RowH X[i].hs L[i].hs]) (r := rowsOf (X.drop (i + 1)) (L.drop (i + 1)) ++ r) (by simpa [List.append_assoc] using h)
/-- a line that was read. -/
def LineAt (w : World) (v : Value) (l : Li) : Prop := ∃ k hs qs, v = .agg #[.string k, slv hs, slv qs] ∧ HdsAt w hs.a hs.n l.hs ∧ HdsAt w qs.a qs.n l.qs ∧ hs.n ≤ maxLen ∧ qs.n ≤ maxLen
theorem lineL_has {L : List Li} {k : ByteArray} (h : hasL L k = true) (hl : posL L k < L.length) : lineL L k = L[posL L k] := by
  unfold lineL; rw [if_pos h, List.getElem?_eq_getElem hl]; rfl
set_option maxHeartbeats 800000 in
theorem tab_line (p : Nat) (L : List Li) (k : ByteArray) (w : World) (D : List Nat) (h : TabA p L w D) (hs : SortL L) (hb : L.length ≤ 1000000) :
    Calls Tryz.prog 80 #[.pointer (some ⟨p, 0, none⟩), .string k] w fun e w' => (∃ v, e = .returned v ∧ LineAt w' v (lineL L k)) ∧ Below w.heap.size w w' := by
  obtain ⟨la, n, c, X, hk, hm⟩ := Mem.table (Mem.start h)
  obtain ⟨k1, k2⟩ := keys_at hk
  have hl := lnrow_len (Mem.rowAt [BlockA p #[.slice la n c] 144] (r := rowsOf X L ++ []) hm)
  obtain ⟨hc, -⟩ := Mem.cellAt (i := 0) (v := .slice la n c) [] (r := RowA 66 3 la n c (lnFlat X) :: (rowsOf X L ++ [])) hm rfl
  have HF := Lib.hid fun W (hb' : Below w.heap.size w W) => tab_find p la n c X L k W ((hb'.cell (World.block_lt_of_cell? w _ hc)).trans hc) ((Mem.rowAt [BlockA p #[.slice la n c] 144] (r := rowsOf X L ++ []) hm).below hb') hk hs hb
  cases hh : hasL L k with
  | false =>
    have hv : lineL L k = ⟨ByteArray.empty, [], []⟩ := by unfold lineL; rw [hh]; rfl
    rw [hh] at HF
    rw [hv]
    clear hm hk k1 k2 hs hh hv hc h
    go_enter Tryz.func80, Tryz.ntmps80
    go_wp2_with fail
    refine (HF.out _ (bel_new _ _)).mono ?_
    rintro e w1 ⟨rfl, hb⟩
    have hblk : w1.heap[w.heap.size]? = some (.cells #[.string ⟨#[]⟩, .slice none 0 0, .slice none 0 0] 66 (0, 0)) := (hb.block _ (by simp only [World.size_alloc]; omega)).trans (heap_new w _)
    obtain ⟨z0, y0⟩ := cell_of_heap (i := 0) (v := .string ⟨#[]⟩) hblk rfl
    obtain ⟨z1, y1⟩ := cell_of_heap (i := 1) (v := .slice none 0 0) hblk rfl
    obtain ⟨z2, y2⟩ := cell_of_heap (i := 2) (v := .slice none 0 0) hblk rfl
    have HB := Lib.hid ((bel_new w _).trans (hb.mono (by simp only [World.size_alloc]; omega)))
    have HBL := Lib.hid hblk
    clear hb hblk
    go_wp2_with fail
    have hB3 : Below w.heap.size w (((w1.setCell ⟨w.heap.size, 0, none⟩ (.string ⟨#[]⟩)).setCell ⟨w.heap.size, 1, none⟩ (.slice none 0 0)).setCell ⟨w.heap.size, 2, none⟩ (.slice none 0 0)) := ((HB.out.setCell (Nat.le_refl _) _).setCell (Nat.le_refl _) _).setCell (Nat.le_refl _) _
    have hh3 := heap_set (i := 2) (heap_set (i := 1) (heap_set (i := 0) HBL.out (.string ⟨#[]⟩)) (.slice none 0 0)) (.slice none 0 0)
    obtain ⟨W3, hW3⟩ : ∃ W3, W3 = (((w1.setCell ⟨w.heap.size, 0, none⟩ (.string ⟨#[]⟩)).setCell ⟨w.heap.size, 1, none⟩ (.slice none 0 0)).setCell ⟨w.heap.size, 2, none⟩ (.slice none 0 0)) := ⟨_, rfl⟩
    rw [← hW3] at hB3 hh3 ⊢
    obtain ⟨v0, -⟩ := cell_of_heap (i := 0) (v := .string ⟨#[]⟩) hh3 rfl
    obtain ⟨v1, -⟩ := cell_of_heap (i := 1) (v := .slice none 0 0) hh3 rfl
    obtain ⟨v2, -⟩ := cell_of_heap (i := 2) (v := .slice none 0 0) hh3 rfl
    refine bodyPost_ret (by simp [results, Tryz.results80, go_sem, v0, v1, v2]; try rfl) rfl ?_
    exact ⟨⟨_, rfl, _, ⟨none, 0, 0⟩, ⟨none, 0, 0⟩, rfl, ⟨rfl, fun j h => by cases h⟩, ⟨rfl, fun j h => by cases h⟩, Nat.zero_le _, Nat.zero_le _⟩, hB3⟩
  | true =>
    obtain ⟨hpl, _⟩ := (hasL_iff hs k).1 hh
    have hv := lineL_has hh hpl
    rw [hh] at HF
    rw [hv]
    obtain ⟨r1, r2⟩ := rowsOf_read [BlockA p #[.slice la n c] 144, RowA 66 3 la n c (lnFlat X)] hm (i := posL L k) (by omega) hpl
    obtain ⟨g, rfl, hcs⟩ := lnAt_row (Mem.rowAt [BlockA p #[.slice la n c] 144] (r := rowsOf X L ++ []) hm) (posL L k) (by omega)
    have HR := Lib.hid (And.intro r1 r2)
    have hqn : posL L k < n := by omega
    clear hm hk k2 hs hh hv h r1 r2
    generalize X[posL L k] = z at hcs HR
    generalize L[posL L k] = l at HR ⊢
    rename_i hkey
    clear hl k1 hkey hpl
    generalize posL L k = q at *
    obtain ⟨zk, ⟨ha, hn, hcap⟩, ⟨qa, qn, qc⟩⟩ := z
    go_enter Tryz.func80, Tryz.ntmps80
    go_wp2_with fail
    refine (HF.out _ (bel_new _ _)).mono ?_
    rintro e w1 ⟨rfl, hb⟩
    have hblk : w1.heap[w.heap.size]? = some (.cells #[.string ⟨#[]⟩, .slice none 0 0, .slice none 0 0] 66 (0, 0)) := (hb.block _ (by simp only [World.size_alloc]; omega)).trans (heap_new w _)
    obtain ⟨z0, y0⟩ := cell_of_heap (i := 0) (v := .string ⟨#[]⟩) hblk rfl
    obtain ⟨z1, y1⟩ := cell_of_heap (i := 1) (v := .slice none 0 0) hblk rfl
    obtain ⟨z2, y2⟩ := cell_of_heap (i := 2) (v := .slice none 0 0) hblk rfl
    have HB := Lib.hid ((bel_new w _).trans (hb.mono (by simp only [World.size_alloc]; omega)))
    have hc1 := (HB.out.cell (World.block_lt_of_cell? w _ hc)).trans hc
    obtain ⟨x0, x1, x2⟩ := hcs.below HB.out
    simp only at x0 x1 x2
    have HBL := Lib.hid hblk
    clear hb hblk hc hcs
    go_wp2_with fail
    have hB3 : Below w.heap.size w (((w1.setCell ⟨w.heap.size, 0, none⟩ (.string zk)).setCell ⟨w.heap.size, 1, none⟩ (.slice ha hn hcap)).setCell ⟨w.heap.size, 2, none⟩ (.slice qa qn qc)) := ((HB.out.setCell (Nat.le_refl _) _).setCell (Nat.le_refl _) _).setCell (Nat.le_refl _) _
    have hh3 := heap_set (i := 2) (heap_set (i := 1) (heap_set (i := 0) HBL.out (.string zk)) (.slice ha hn hcap)) (.slice qa qn qc)
    obtain ⟨W3, hW3⟩ : ∃ W3, W3 = (((w1.setCell ⟨w.heap.size, 0, none⟩ (.string zk)).setCell ⟨w.heap.size, 1, none⟩ (.slice ha hn hcap)).setCell ⟨w.heap.size, 2, none⟩ (.slice qa qn qc)) := ⟨_, rfl⟩
    rw [← hW3] at hB3 hh3 ⊢
    obtain ⟨v0, -⟩ := cell_of_heap (i := 0) (v := .string zk) hh3 rfl
    obtain ⟨v1, -⟩ := cell_of_heap (i := 1) (v := .slice ha hn hcap) hh3 rfl
    obtain ⟨v2, -⟩ := cell_of_heap (i := 2) (v := .slice qa qn qc) hh3 rfl
    refine bodyPost_ret (by simp [results, Tryz.results80, go_sem, v0, v1, v2]; try rfl) rfl ?_
    exact ⟨⟨_, rfl, zk, ⟨ha, hn, hcap⟩, ⟨qa, qn, qc⟩, rfl, (HdsAt.row HR.out.1).below hB3, (HdsAt.row HR.out.2).below hB3, row_max HR.out.1, row_max HR.out.2⟩, hB3⟩
end Go.Proofs.YtmifgnibalbgjaaGreat
/- Holds, Waits, Clone, Holders, Queue. -/
namespace Go.Proofs.YtmifgnibalbgjaaGreat
open Go.RowKit
theorem infoHd : (Tryz.prog.info? 32).map (fun i => (i.zero, i.size, i.bytes)) = some (some (.agg #[.int .i64 0, .int .i64 0]), 2, 16) := by kernel_rfl
theorem fld1 (k : ByteArray) (a b : Option Addr) (n c m d : Nat) (w : World) : (Instr.field 66 (.agg #[.string k, .slice a n c, .slice b m d]) 1).run Tryz.prog w = .ok (.slice a n c) w := by kernel_rfl
theorem fld2 (k : ByteArray) (a b : Option Addr) (n c m d : Nat) (w : World) : (Instr.field 66 (.agg #[.string k, .slice a n c, .slice b m d]) 2).run Tryz.prog w = .ok (.slice b m d) w := by kernel_rfl
set_option maxRecDepth 100000 in
set_option maxHeartbeats 800000 in
theorem tab_holds (p : Nat) (L : List Li) (o : Int) (k : ByteArray) (w : World) (D : List Nat) (h : TabA p L w D) (hs : SortL L) (hb : L.length ≤ 1000000) :
    Calls Tryz.prog 89 #[.pointer (some ⟨p, 0, none⟩), .int .i64 o, .string k] w fun e w' => e = .returned (.int .i64 (ofH (lineL L k).hs o)) ∧ Below w.heap.size w w' := by
  have HL := Lib.hid (tab_line p L k w D h hs hb)
  clear h hs hb
  generalize lineL L k = li at *
  go_enter Tryz.func89, Tryz.ntmps89
  go_wp2_with fail
  refine HL.out.mono ?_
  rintro e w1 ⟨⟨v, rfl, ky, ⟨ha, hn, hc⟩, ⟨qa, qn, qc⟩, rfl, h1, h2, h3, h4⟩, hb⟩
  have HB := Lib.hid hb
  have HO := Lib.hid (of_any ha hn hc li.hs o w1 h1 h3)
  clear hb h1 h2 h3 h4
  have hfl := fld1 ky ha qa hn hc qn qc
  have hf2 := fld2 ky ha qa hn hc qn qc
  simp only [slv]
  go_wp2_with fail
  refine HO.out.mono ?_
  rintro e w2 ⟨rfl, hb⟩
  have HB2 := Lib.hid (HB.out.trans (hb.mono HB.out.size))
  clear hb
  go_wp2_with fail
  go_ret
  exact ⟨rfl, HB2.out⟩
theorem hds_cells {w : World} {a : Addr} {n : Nat} {l : List Hd} (h : HdsAt w (some a) n l) : ∀ j u, (hdFlat l)[j]? = some u → w.cell? (a.add j) = some u := fun j u hu => by
  have hj : j < l.length * 2 := by
    rcases Nat.lt_or_ge j (l.length * 2) with h1 | h1
    · exact h1
    · rw [List.getElem?_eq_none (by rw [hdFlat_len]; exact h1)] at hu; cases hu
  obtain ⟨g, o, e, c0, c1⟩ := h.2 (j / 2) (by omega)
  obtain ⟨e0, e1⟩ := hdFlat_get l (j / 2) (by omega)
  obtain rfl : a = ⟨g, o, none⟩ := by simpa using e
  rw [Addr.add_lit]
  rcases Nat.mod_two_eq_zero_or_one j with hm | hm
  · have hj2 : j / 2 * 2 = j := by omega
    rw [hj2] at e0 c0
    rw [e0] at hu
    rw [c0]; exact hu
  · have hj2 : j / 2 * 2 + 1 = j := by omega
    rw [hj2] at e1
    rw [show o + j / 2 * 2 + 1 = o + j by omega] at c1
    rw [e1] at hu
    rw [c1]; exact hu
set_option maxRecDepth 100000 in
set_option maxHeartbeats 800000 in
theorem clone_any (a : Option Addr) (n c : Nat) (l : List Hd) (w : World) (h : HdsAt w a n l) (hn : n ≤ 1000000) :
    Calls Tryz.prog 79 #[.slice a n c] w fun e w' => ∃ s, e = .returned (slv s) ∧ Row w' 32 2 s.a s.n s.c (hdFlat l) ∧ Below w.heap.size w w' ∧ ∀ x ∈ blkOf s.a, w.heap.size ≤ x := by
  cases a with
  | none =>
    have hl : l = [] := by
      match l, h with
      | [], _ => rfl
      | x :: r, h => obtain ⟨g, o, e, _⟩ := h.2 0 (by simp); cases e
    subst hl
    obtain rfl : n = 0 := h.1
    clear h hn
    have hnil := fun w => Lib.run_eql_slice_nil (P := Tryz.prog) w 29 32 none 0 c 0 0 Tryz.underlying29
    go_enter Tryz.func79, Tryz.ntmps79
    go_wp2_with fail
    go_ret
    exact ⟨⟨none, 0, 0⟩, rfl, Row.nil _ _ _, Below.refl _ _, fun x hx => by cases hx⟩
  | some a =>
    have hr0 : Row (w.alloc (.cells #[] 32)) 32 2 (some ⟨w.heap.size, 0, none⟩) 0 0 [] := row_empty (heap_new w _)
    obtain ⟨i0, hi, hz0, hz1, hz2⟩ := info_parts infoHd
    obtain ⟨b', cap', w', hrun, hrow, ht, hf⟩ := run_append_row (P := Tryz.prog) (w.alloc (.cells #[] 32)) 29 29 32 i0 _ 2 16 Tryz.underlying29 hi hz0 hz1 hz2 (by rfl) (by decide) (some ⟨w.heap.size, 0, none⟩) 0 0 [] hr0 a n c (hdFlat l) (by rw [hdFlat_len, h.1]) (hds_cells (h.below (bel_new w _))) (hdFlat_one l) (by unfold maxLen; omega) (by omega)
    have HRUN := Lib.hid hrun
    have HF : Hid (Row w' 32 2 b' n cap' (hdFlat l) ∧ Below w.heap.size w w' ∧ ∀ x ∈ blkOf b', w.heap.size ≤ x) := Lib.hid ⟨by simpa using hrow, (NewB.lit (Nat.le_refl _)).bel (bel_new w _) ht, (NewB.lit (Nat.le_refl _)).next (_w' := w') (bel_new w _) hf⟩
    clear hrun hrow ht hf h hr0 hi hz0 hz1 hz2
    have hnil := fun w => Lib.run_eql_slice_nil (P := Tryz.prog) w 29 32 (some a) n c 0 0 Tryz.underlying29
    go_enter Tryz.func79, Tryz.ntmps79
    go_wp2_with (at_builtin; refine wpList_appendR _ rfl (.tmp 5) (.tmp 6) 29 29 rfl (.slice (some ⟨w.heap.size, 0, none⟩) 0 0) (.slice (some a) n c) rfl rfl HRUN.out ?_)
    go_ret
    exact ⟨⟨b', n, cap'⟩, rfl, HF.out⟩
/-- a table of no more than so many. -/
def Sm (N : Nat) (L : List Li) : Prop := L.length ≤ N ∧ ∀ l ∈ L, l.hs.length + l.qs.length ≤ N
theorem Sm.line {N : Nat} {L : List Li} (h : Sm N L) (k : ByteArray) : (lineL L k).hs.length + (lineL L k).qs.length ≤ N := by
  unfold lineL
  split
  · cases hq : L[posL L k]? with
    | none => simp
    | some l => exact h.2 l (List.mem_of_getElem? hq)
  · simp
set_option maxRecDepth 100000 in
set_option maxHeartbeats 800000 in
theorem tab_holders (p : Nat) (L : List Li) (k : ByteArray) (w : World) (D : List Nat) (h : TabA p L w D) (hs : SortL L) (hb : Sm 1000 L) :
    Calls Tryz.prog 34 #[.pointer (some ⟨p, 0, none⟩), .string k] w fun e w' => ∃ s, e = .returned (slv s) ∧ Row w' 32 2 s.a s.n s.c (hdFlat (lineL L k).hs) ∧ Below w.heap.size w w' ∧ ∀ x ∈ blkOf s.a, w.heap.size ≤ x := by
  have HL := Lib.hid (tab_line p L k w D h hs (by have := hb.1; omega))
  have hsm := hb.line k
  clear h hs hb
  generalize lineL L k = li at *
  go_enter Tryz.func34, Tryz.ntmps34
  go_wp2_with fail
  refine HL.out.mono ?_
  rintro e w1 ⟨⟨v, rfl, ky, ⟨ha, hn, hc⟩, ⟨qa, qn, qc⟩, rfl, h1, h2, h3, h4⟩, hb⟩
  have HB := Lib.hid hb
  have HO := Lib.hid (clone_any ha hn hc li.hs w1 h1 (by have := h1.1; simp only at this; omega))
  clear hb h1 h2 h3 h4
  have hfl := fld1 ky ha qa hn hc qn qc
  have hf2 := fld2 ky ha qa hn hc qn qc
  simp only [slv]
  go_wp2_with fail
  refine HO.out.mono ?_
  rintro e w2 ⟨⟨sa, sn, sc⟩, rfl, hr, hb, hf⟩
  have HF : Hid (Row w2 32 2 sa sn sc (hdFlat li.hs) ∧ Below w.heap.size w w2 ∧ ∀ x ∈ blkOf sa, w.heap.size ≤ x) := Lib.hid ⟨hr, HB.out.trans (hb.mono HB.out.size), fun x hx => Nat.le_trans HB.out.size (hf x hx)⟩
  clear hb hr hf
  simp only [slv]
  go_wp2_with fail
  go_ret
  exact ⟨⟨sa, sn, sc⟩, rfl, HF.out⟩
end Go.Proofs.YtmifgnibalbgjaaGreat
