/- Equal wholes are the same. -/
import Derived.Test.YtmifgnibalbgjaaGreatZQ3
import Derived.Test.YtmifgnibalbgjaaGreatZQ2
import Derived.Test.YtmifgnibalbgjaaGreatZLAU
namespace Go.Proofs.YtmifgnibalbgjaaGreat
open Go.RowKit set_option linter.unusedVariables false set_option linter.unusedSimpArgs false
/-- those who live, told: they can be read. -/
def LqsAt (w : World) (a : Option Addr) (n : Nat) (L : List (Int × Lv)) : Prop := n = L.length ∧ ∀ j (h : j < L.length), ∃ g o q, a = some ⟨g, o, none⟩ ∧ lvAt w g (o + j * 12) q ∧ q.1 = L[j].1 ∧ q.2.lv = L[j].2 ∧ WrsAt w q.2.a q.2.n q.2.ws
theorem LqsAt.below {w w' : World} {a : Option Addr} {n : Nat} {L : List (Int × Lv)} (h : LqsAt w a n L) (b : Below w.heap.size w w') : LqsAt w' a n L :=
 ⟨h.1, fun j hj => let ⟨g, o, q, e, h1, h2, h3, h4⟩ := h.2 j hj; ⟨g, o, q, e, h1.below b, h2, h3, h4.below b⟩⟩
/-- a whole that can be read. -/
def WhAt (W : World) (v : Value) (S : Sh) : Prop := ∃ a1 a2 a3 a4 a5 ak1 ak2 ak3 ak4 ak5, v = .agg #[.int .i64 S.clock, .int .i64 S.moment, .slice a1 S.cells.length ak1, .slice a2 S.locks.length ak2, .slice a3 S.rows.length ak3, .slice a4 S.lives.length ak4, .slice a5 S.dones.length ak5] ∧ CesAt W a1 S.cells.length S.cells ∧ LinesAt W a2 S.locks.length S.locks ∧ RwsAt W a3 S.rows.length S.rows ∧ LqsAt W a4 S.lives.length S.lives ∧ DnsAt W a5 S.dones.length S.dones
theorem WhAt.below {W W' : World} {v : Value} {S : Sh} (h : WhAt W v S) (b : Below W.heap.size W W') : WhAt W' v S :=
 let ⟨a1, a2, a3, a4, a5, k1, k2, k3, k4, k5, e, h1, h2, h3, h4, h5⟩ := h
 ⟨a1, a2, a3, a4, a5, k1, k2, k3, k4, k5, e, h1.below b, h2.below b, h3.below b, h4.below b, h5.below b⟩
theorem ceFlat_drop : ∀ (X : List (ByteArray × Ve)) (j : Nat), (ceFlat X).drop (j * 2) = ceFlat (X.drop j)
 | _, 0 => by simp
 | [], j + 1 => by simp [ceFlat]
 | p :: r, j + 1 => by
  rw [show (j + 1) * 2 = j * 2 + 1 + 1 by omega]
  simp only [ceFlat, List.drop_succ_cons]
  exact ceFlat_drop r j
theorem ceAt_row {w : World} {a : Option Addr} {n c : Nat} {X : List (ByteArray × Ve)} (h : Row w 64 2 a n c (ceFlat X)) (j : Nat) (hj : j < X.length) : ∃ g, a = some ⟨g, 0, none⟩ ∧ w.cell? ⟨g, j * 2, none⟩ = some (.string X[j].1) ∧ w.cell? ⟨g, j * 2 + 1, none⟩ = some (.slice X[j].2.a X[j].2.n X[j].2.c) := by
 have hl := ceFlat_len X
 have hg : ∀ i v, [Value.string X[j].1, .slice X[j].2.a X[j].2.n X[j].2.c][i]? = some v → (ceFlat X)[j * 2 + i]? = some v := fun i v hv => by
  rw [← List.getElem?_drop, ceFlat_drop, List.drop_eq_getElem_cons hj]
  show ([Value.string X[j].1, .slice X[j].2.a X[j].2.n X[j].2.c] ++ _)[i]? = some v
  rw [List.getElem?_append_left (List.getElem?_eq_some_iff.1 hv).1]
  exact hv
 obtain ⟨g, e, _⟩ := h.cellAt (j * 2) (by omega)
 have hc : ∀ i v, [Value.string X[j].1, .slice X[j].2.a X[j].2.n X[j].2.c][i]? = some v → w.cell? ⟨g, j * 2 + i, none⟩ = some v := fun i v hv => by
  obtain ⟨h1, h2⟩ := List.getElem?_eq_some_iff.1 (hg i v hv)
  obtain ⟨g', e', h3⟩ := h.cellAt (j * 2 + i) h1
  rw [e] at e'
  simp only [Option.some.injEq, Addr.mk.injEq, and_true] at e'
  subst e'
  rw [h3, h2]
 exact ⟨g, e, by simpa using hc 0 _ rfl, hc 1 _ rfl⟩
theorem ves_row {w0 W : World} {D0 : List Nat} {l : List Asn} [Stables l] {X : List (ByteArray × Ve)} {r : List Asn} [Stables r] (h : Mem w0 D0 W (l ++ ((X.map fun p => Ve.row p.2) ++ r))) {j : Nat} (hj : j < X.length) : Row W 162 3 X[j].2.a X[j].2.n X[j].2.c (veFlat X[j].2.l) := by
 have e : (X.map fun p => Ve.row p.2) = ((X.take j).map fun p => Ve.row p.2) ++ Ve.row X[j].2 :: ((X.drop (j + 1)).map fun p => Ve.row p.2) := by
  conv => lhs; rw [← List.take_append_drop j X, List.drop_eq_getElem_cons hj]
  rw [List.map_append, List.map_cons]
 rw [e] at h
 exact Mem.rowAt (l ++ ((X.take j).map fun p => Ve.row p.2)) (r := ((X.drop (j + 1)).map fun p => Ve.row p.2) ++ r) (by simpa using h)
/-- a whole that is told can be read. -/
theorem WholeP.at {w W' : World} {S : Sh} {e : Ending} (h : WholeP w S e W') : (∃ v, e = .returned v ∧ WhAt W' v S) ∧ Below w.heap.size w W' := by
 obtain ⟨X1, X2, X4, a1, a2, a3, a4, a5, k1, k2, k3, k4, k5, rfl, h1, h2, h4, hm⟩ := h
 have hb := hm.bel
 have m1 := Mem.drop [] hm
 have m2 : Mem w [] W' ([RowA 64 2 a1 S.cells.length k1 (ceFlat X1)] ++ ((X1.map fun p => Ve.row p.2) ++ ((RowA 66 3 a2 S.locks.length k2 (lnFlat X2) :: rowsOf X2 S.locks) ++ ([RowA 85 5 a3 S.rows.length k3 (rwFlat S.rows)] ++ (RowA 41 12 a4 S.lives.length k4 (lqFlat X4) :: (X4.map fun p => Le.row p.2)))))) := by simpa using m1
 have m3 : Mem w [] W' (RowA 66 3 a2 S.locks.length k2 (lnFlat X2) :: (rowsOf X2 S.locks ++ [])) := by
  have h9 : Mem w [] W' ((RowA 66 3 a2 S.locks.length k2 (lnFlat X2) :: rowsOf X2 S.locks) ++ ((RowA 64 2 a1 S.cells.length k1 (ceFlat X1) :: (X1.map fun p => Ve.row p.2)) ++ ([RowA 85 5 a3 S.rows.length k3 (rwFlat S.rows)] ++ (RowA 41 12 a4 S.lives.length k4 (lqFlat X4) :: (X4.map fun p => Le.row p.2))))) := Mem.perm m1 (perm_ct fun x => by simp only [cnt_cons, cnt_append, cnt_nil]; omega)
  have h10 := Mem.cutEnd _ h9
  simpa using h10
 have m4 : Mem w [] W' ([RowA 41 12 a4 S.lives.length k4 (lqFlat X4)] ++ ((X4.map fun p => Le.row p.2) ++ ((RowA 64 2 a1 S.cells.length k1 (ceFlat X1) :: (X1.map fun p => Ve.row p.2)) ++ ([RowA 85 5 a3 S.rows.length k3 (rwFlat S.rows)] ++ (RowA 66 3 a2 S.locks.length k2 (lnFlat X2) :: rowsOf X2 S.locks))))) := Mem.perm m1 (perm_ct fun x => by simp only [cnt_cons, cnt_append, cnt_nil]; omega)
 have m5 : Mem w [] W' (RowA 85 5 a3 S.rows.length k3 (rwFlat S.rows) :: ((RowA 64 2 a1 S.cells.length k1 (ceFlat X1) :: (X1.map fun p => Ve.row p.2)) ++ ((RowA 66 3 a2 S.locks.length k2 (lnFlat X2) :: rowsOf X2 S.locks) ++ (RowA 41 12 a4 S.lives.length k4 (lqFlat X4) :: (X4.map fun p => Le.row p.2))))) := Mem.perm m1 (perm_ct fun x => by simp only [cnt_cons, cnt_append, cnt_nil]; omega)
 have e1 : S.cells.length = X1.length := by rw [← h1]; simp [vesC]
 have e4 : S.lives.length = X4.length := by rw [← h4]; simp [lvE]
 refine ⟨⟨_, rfl, a1, a2, a3, a4, a5, k1, k2, k3, k4, k5, rfl, ⟨rfl, fun j hj => ?_⟩, (LinesC.mem h2 m3).at, RwsAt.row (Mem.rowAt [] m5), ⟨rfl, fun j hj => ?_⟩, DnsAt.row (Mem.rowAt [] hm)⟩, hb⟩
 ·have hj' : j < X1.length := by omega
  obtain ⟨g, e, c0, c1⟩ := ceAt_row (Mem.rowAt [] (r := (X1.map fun p => Ve.row p.2) ++ ((RowA 66 3 a2 S.locks.length k2 (lnFlat X2) :: rowsOf X2 S.locks) ++ ([RowA 85 5 a3 S.rows.length k3 (rwFlat S.rows)] ++ (RowA 41 12 a4 S.lives.length k4 (lqFlat X4) :: (X4.map fun p => Le.row p.2))))) m2) j hj'
  have hr := ves_row m2 hj'
  have hx : S.cells[j] = (X1[j].1, X1[j].2.l) := by
   have : (vesC X1)[j]'(by rw [h1]; exact hj) = (X1[j].1, X1[j].2.l) := by unfold vesC; exact List.getElem_map _
   rw [← this]
   congr 1
   exact h1.symm
  rw [hx]
  exact ⟨g, 0, _, _, _, e, by rw [Nat.zero_add]; exact c0, by rw [Nat.zero_add]; exact c1, VesAt.row hr⟩
 ·have hj' : j < X4.length := by omega
  obtain ⟨g, e, c0⟩ := lvAt_row (Mem.rowAt [] (r := (X4.map fun p => Le.row p.2) ++ ((RowA 64 2 a1 S.cells.length k1 (ceFlat X1) :: (X1.map fun p => Ve.row p.2)) ++ ([RowA 85 5 a3 S.rows.length k3 (rwFlat S.rows)] ++ (RowA 66 3 a2 S.locks.length k2 (lnFlat X2) :: rowsOf X2 S.locks)))) m4) j hj'
  have hr := lvs_row m4 hj'
  have hx : S.lives[j] = (X4[j].1, X4[j].2.lv) := by
   have : (lvE X4)[j]'(by rw [h4]; exact hj) = (X4[j].1, X4[j].2.lv) := by unfold lvE; exact List.getElem_map _
   rw [← this]
   congr 1
   exact h4.symm
  rw [hx]
  exact ⟨g, 0, X4[j], e, by rw [Nat.zero_add]; exact c0, rfl, rfl, WrsAt.row hr⟩
set_option maxRecDepth 100000 in
set_option maxHeartbeats 16000000 in
theorem same_whole (v u : Value) (S : Sh) (w : World) (hv : WhAt w v S) (hu : WhAt w u S) {K : List ByteArray} {n : Nat} (hS : SInv K n S) (hn : n ≤ 390) (hK : K.length ≤ 900) :
  Calls Tryz.prog 20 #[v, u] w fun e w' => e = .returned (.bool true) ∧ Below w.heap.size w w' := by
 obtain ⟨a1, a2, a3, a4, a5, ak1, ak2, ak3, ak4, ak5, rfl, p1, p2, p3, p4, p5⟩ := hv
 obtain ⟨b1, b2, b3, b4, b5, bk1, bk2, bk3, bk4, bk5, rfl, q1, q2, q3, q4, q5⟩ := hu
 have hl1 : S.cells.length ≤ 1000 := Nat.le_trans hS.cells.len (by omega)
 have hl2 : S.locks.length ≤ 1000 := Nat.le_trans hS.lsm.1 (by omega)
 have hl3 : S.rows.length ≤ 1000 := Nat.le_trans hS.rows.2 (by omega)
 have hl4 : S.lives.length ≤ 1000 := Nat.le_trans hS.llen (by omega)
 have hl5 : S.dones.length ≤ 1000 := Nat.le_trans hS.dlen (by omega)
 have HC1 := Lib.hid fun W (hb : Below w.heap.size w W) => same_cells a1 b1 S.cells.length S.cells.length ak1 bk1 S.cells W (p1.below hb) (q1.below hb) (by omega) (fun q hq => by have h1 := hS.cells.vers q.1; rw [hS.cells.get hq] at h1; exact Nat.le_trans h1.len (by omega))
 have HC3 := Lib.hid fun W (hb : Below w.heap.size w W) => same_Rws a3 b3 S.rows.length S.rows.length ak3 bk3 S.rows W (p3.below hb) (q3.below hb) (by omega)
 have HC5 := Lib.hid fun W (hb : Below w.heap.size w W) => same_Dns a5 b5 S.dones.length S.dones.length ak5 bk5 S.dones W (p5.below hb) (q5.below hb) (by omega)
 have HL := Lib.hid (And.intro p2 q2)
 have HV := Lib.hid (And.intro p4 q4)
 have HLN := Lib.hid (fun (l : Li) (hl : l ∈ S.locks) => (by have h1 := hS.lsm.2 l hl; exact ⟨by omega, by omega⟩ : l.hs.length ≤ 1000 ∧ l.qs.length ≤ 1000))
 have HVN := Lib.hid (fun (q : Int × Lv) (hq : q ∈ S.lives) => (by
  have h1 := hS.live q.1 q.2 (kGet_of_mem ordZ hS.lrise hq)
  exact Nat.le_trans (wok_len h1.sort fun x hx => (h1.ws x hx).1) (by omega) : q.2.ws.length ≤ 1000))
 have M0 : Hid (Mem w [] ((w.alloc (.cells #[.int .i64 S.clock, .int .i64 S.moment, .slice a1 S.cells.length ak1, .slice a2 S.locks.length ak2, .slice a3 S.rows.length ak3, .slice a4 S.lives.length ak4, .slice a5 S.dones.length ak5] 55)).alloc (.cells #[.int .i64 S.clock, .int .i64 S.moment, .slice b1 S.cells.length bk1, .slice b2 S.locks.length bk2, .slice b3 S.rows.length bk3, .slice b4 S.lives.length bk4, .slice b5 S.dones.length bk5] 55)) [BlockA (w.heap.size + 1) #[.int .i64 S.clock, .int .i64 S.moment, .slice b1 S.cells.length bk1, .slice b2 S.locks.length bk2, .slice b3 S.rows.length bk3, .slice b4 S.lives.length bk4, .slice b5 S.dones.length bk5] 55, BlockA w.heap.size #[.int .i64 S.clock, .int .i64 S.moment, .slice a1 S.cells.length ak1, .slice a2 S.locks.length ak2, .slice a3 S.rows.length ak3, .slice a4 S.lives.length ak4, .slice a5 S.dones.length ak5] 55]) := Lib.hid (by
  have h := ((Mem.nil w).block #[.int .i64 S.clock, .int .i64 S.moment, .slice a1 S.cells.length ak1, .slice a2 S.locks.length ak2, .slice a3 S.rows.length ak3, .slice a4 S.lives.length ak4, .slice a5 S.dones.length ak5] 55).block #[.int .i64 S.clock, .int .i64 S.moment, .slice b1 S.cells.length bk1, .slice b2 S.locks.length bk2, .slice b3 S.rows.length bk3, .slice b4 S.lives.length bk4, .slice b5 S.dones.length bk5] 55
  rw [show (w.alloc (.cells #[.int .i64 S.clock, .int .i64 S.moment, .slice a1 S.cells.length ak1, .slice a2 S.locks.length ak2, .slice a3 S.rows.length ak3, .slice a4 S.lives.length ak4, .slice a5 S.dones.length ak5] 55)).heap.size = w.heap.size + 1 by simp] at h
  exact h)
 clear p1 p2 p3 p4 p5 q1 q2 q3 q4 q5 hS
 go_enter Tryz.func20, Tryz.ntmps20
 go_upto_region 1 with (fail)
 obtain ⟨w1, hw1⟩ : ∃ w1, w1 = (w.alloc (.cells #[.int .i64 S.clock, .int .i64 S.moment, .slice a1 S.cells.length ak1, .slice a2 S.locks.length ak2, .slice a3 S.rows.length ak3, .slice a4 S.lives.length ak4, .slice a5 S.dones.length ak5] 55)).alloc (.cells #[.int .i64 S.clock, .int .i64 S.moment, .slice b1 S.cells.length bk1, .slice b2 S.locks.length bk2, .slice b3 S.rows.length bk3, .slice b4 S.lives.length bk4, .slice b5 S.dones.length bk5] 55) := ⟨_, rfl⟩
 rw [← hw1] at M0 ⊢
 clear hw1
 have hq1 := (Mem.get [] M0.out).choose_spec.2
 have hq0 := Mem.blk M0.out (g := w.heap.size) (cur := #[.int .i64 S.clock, .int .i64 S.moment, .slice a1 S.cells.length ak1, .slice a2 S.locks.length ak2, .slice a3 S.rows.length ak3, .slice a4 S.lives.length ak4, .slice a5 S.dones.length ak5]) (T := 55) (by simp)
 have y0 := (cell_of_heap (i := 0) (v := .int .i64 S.clock) hq1 rfl).1
 have y1 := (cell_of_heap (i := 1) (v := .int .i64 S.moment) hq1 rfl).1
 have y2 := (cell_of_heap (i := 2) (v := .slice b1 S.cells.length bk1) hq1 rfl).1
 have y3 := (cell_of_heap (i := 3) (v := .slice b2 S.locks.length bk2) hq1 rfl).1
 have y4 := (cell_of_heap (i := 4) (v := .slice b3 S.rows.length bk3) hq1 rfl).1
 have y5 := (cell_of_heap (i := 5) (v := .slice b4 S.lives.length bk4) hq1 rfl).1
 have y6 := (cell_of_heap (i := 6) (v := .slice b5 S.dones.length bk5) hq1 rfl).1
 have x0 := (cell_of_heap (i := 0) (v := .int .i64 S.clock) hq0 rfl).1
 have x1 := (cell_of_heap (i := 1) (v := .int .i64 S.moment) hq0 rfl).1
 have x2 := (cell_of_heap (i := 2) (v := .slice a1 S.cells.length ak1) hq0 rfl).1
 have x3 := (cell_of_heap (i := 3) (v := .slice a2 S.locks.length ak2) hq0 rfl).1
 have x4 := (cell_of_heap (i := 4) (v := .slice a3 S.rows.length ak3) hq0 rfl).1
 have x5 := (cell_of_heap (i := 5) (v := .slice a4 S.lives.length ak4) hq0 rfl).1
 have x6 := (cell_of_heap (i := 6) (v := .slice a5 S.dones.length ak5) hq0 rfl).1
 clear hq0 hq1
 go_wp2_with fail
 refine (HC1.out _ M0.out.bel).mono ?_
 rintro e w2 ⟨rfl, hb⟩
 have M1 := Lib.hid (M0.out.below hb)
 clear x0 y0 x1 y1 x2 y2 x3 y3 x4 y4 x5 y5 x6 y6 hb M0 HC1
 have hq1 := (Mem.get [] M1.out).choose_spec.2
 have hq0 := Mem.blk M1.out (g := w.heap.size) (cur := #[.int .i64 S.clock, .int .i64 S.moment, .slice a1 S.cells.length ak1, .slice a2 S.locks.length ak2, .slice a3 S.rows.length ak3, .slice a4 S.lives.length ak4, .slice a5 S.dones.length ak5]) (T := 55) (by simp)
 have y0 := (cell_of_heap (i := 0) (v := .int .i64 S.clock) hq1 rfl).1
 have y1 := (cell_of_heap (i := 1) (v := .int .i64 S.moment) hq1 rfl).1
 have y2 := (cell_of_heap (i := 2) (v := .slice b1 S.cells.length bk1) hq1 rfl).1
 have y3 := (cell_of_heap (i := 3) (v := .slice b2 S.locks.length bk2) hq1 rfl).1
 have y4 := (cell_of_heap (i := 4) (v := .slice b3 S.rows.length bk3) hq1 rfl).1
 have y5 := (cell_of_heap (i := 5) (v := .slice b4 S.lives.length bk4) hq1 rfl).1
 have y6 := (cell_of_heap (i := 6) (v := .slice b5 S.dones.length bk5) hq1 rfl).1
 have x0 := (cell_of_heap (i := 0) (v := .int .i64 S.clock) hq0 rfl).1
 have x1 := (cell_of_heap (i := 1) (v := .int .i64 S.moment) hq0 rfl).1
 have x2 := (cell_of_heap (i := 2) (v := .slice a1 S.cells.length ak1) hq0 rfl).1
 have x3 := (cell_of_heap (i := 3) (v := .slice a2 S.locks.length ak2) hq0 rfl).1
 have x4 := (cell_of_heap (i := 4) (v := .slice a3 S.rows.length ak3) hq0 rfl).1
 have x5 := (cell_of_heap (i := 5) (v := .slice a4 S.lives.length ak4) hq0 rfl).1
 have x6 := (cell_of_heap (i := 6) (v := .slice a5 S.dones.length ak5) hq0 rfl).1
 clear hq0 hq1
 go_wp2_with fail
 refine (HC3.out _ M1.out.bel).mono ?_
 rintro e w3 ⟨rfl, hb⟩
 have M2 := Lib.hid (M1.out.below hb)
 clear x0 y0 x1 y1 x2 y2 x3 y3 x4 y4 x5 y5 x6 y6 hb M1 HC3
 have hq1 := (Mem.get [] M2.out).choose_spec.2
 have hq0 := Mem.blk M2.out (g := w.heap.size) (cur := #[.int .i64 S.clock, .int .i64 S.moment, .slice a1 S.cells.length ak1, .slice a2 S.locks.length ak2, .slice a3 S.rows.length ak3, .slice a4 S.lives.length ak4, .slice a5 S.dones.length ak5]) (T := 55) (by simp)
 have y0 := (cell_of_heap (i := 0) (v := .int .i64 S.clock) hq1 rfl).1
 have y1 := (cell_of_heap (i := 1) (v := .int .i64 S.moment) hq1 rfl).1
 have y2 := (cell_of_heap (i := 2) (v := .slice b1 S.cells.length bk1) hq1 rfl).1
 have y3 := (cell_of_heap (i := 3) (v := .slice b2 S.locks.length bk2) hq1 rfl).1
 have y4 := (cell_of_heap (i := 4) (v := .slice b3 S.rows.length bk3) hq1 rfl).1
 have y5 := (cell_of_heap (i := 5) (v := .slice b4 S.lives.length bk4) hq1 rfl).1
 have y6 := (cell_of_heap (i := 6) (v := .slice b5 S.dones.length bk5) hq1 rfl).1
 have x0 := (cell_of_heap (i := 0) (v := .int .i64 S.clock) hq0 rfl).1
 have x1 := (cell_of_heap (i := 1) (v := .int .i64 S.moment) hq0 rfl).1
 have x2 := (cell_of_heap (i := 2) (v := .slice a1 S.cells.length ak1) hq0 rfl).1
 have x3 := (cell_of_heap (i := 3) (v := .slice a2 S.locks.length ak2) hq0 rfl).1
 have x4 := (cell_of_heap (i := 4) (v := .slice a3 S.rows.length ak3) hq0 rfl).1
 have x5 := (cell_of_heap (i := 5) (v := .slice a4 S.lives.length ak4) hq0 rfl).1
 have x6 := (cell_of_heap (i := 6) (v := .slice a5 S.dones.length ak5) hq0 rfl).1
 clear hq0 hq1
 go_wp2_with fail
 refine (HC5.out _ M2.out.bel).mono ?_
 rintro e w4 ⟨rfl, hb⟩
 have M3 := Lib.hid (M2.out.below hb)
 clear x0 y0 x1 y1 x2 y2 x3 y3 x4 y4 x5 y5 x6 y6 hb M2 HC5
 have hq1 := (Mem.get [] M3.out).choose_spec.2
 have hq0 := Mem.blk M3.out (g := w.heap.size) (cur := #[.int .i64 S.clock, .int .i64 S.moment, .slice a1 S.cells.length ak1, .slice a2 S.locks.length ak2, .slice a3 S.rows.length ak3, .slice a4 S.lives.length ak4, .slice a5 S.dones.length ak5]) (T := 55) (by simp)
 have y0 := (cell_of_heap (i := 0) (v := .int .i64 S.clock) hq1 rfl).1
 have y1 := (cell_of_heap (i := 1) (v := .int .i64 S.moment) hq1 rfl).1
 have y2 := (cell_of_heap (i := 2) (v := .slice b1 S.cells.length bk1) hq1 rfl).1
 have y3 := (cell_of_heap (i := 3) (v := .slice b2 S.locks.length bk2) hq1 rfl).1
 have y4 := (cell_of_heap (i := 4) (v := .slice b3 S.rows.length bk3) hq1 rfl).1
 have y5 := (cell_of_heap (i := 5) (v := .slice b4 S.lives.length bk4) hq1 rfl).1
 have y6 := (cell_of_heap (i := 6) (v := .slice b5 S.dones.length bk5) hq1 rfl).1
 have x0 := (cell_of_heap (i := 0) (v := .int .i64 S.clock) hq0 rfl).1
 have x1 := (cell_of_heap (i := 1) (v := .int .i64 S.moment) hq0 rfl).1
 have x2 := (cell_of_heap (i := 2) (v := .slice a1 S.cells.length ak1) hq0 rfl).1
 have x3 := (cell_of_heap (i := 3) (v := .slice a2 S.locks.length ak2) hq0 rfl).1
 have x4 := (cell_of_heap (i := 4) (v := .slice a3 S.rows.length ak3) hq0 rfl).1
 have x5 := (cell_of_heap (i := 5) (v := .slice a4 S.lives.length ak4) hq0 rfl).1
 have x6 := (cell_of_heap (i := 6) (v := .slice a5 S.dones.length ak5) hq0 rfl).1
 clear hq0 hq1
 go_wp2_with fail
 clear x0 y0 x1 y1 x2 y2 x3 y3 x4 y4 x5 y5 x6 y6
 go_loopw [68] (fun jv wr => ∃ j : Nat, j ≤ S.locks.length ∧ jv = .int .i64 (j : Nat) ∧ Hid (Mem w [] wr [BlockA (w.heap.size + 1) #[.int .i64 S.clock, .int .i64 S.moment, .slice b1 S.cells.length bk1, .slice b2 S.locks.length bk2, .slice b3 S.rows.length bk3, .slice b4 S.lives.length bk4, .slice b5 S.dones.length bk5] 55, BlockA w.heap.size #[.int .i64 S.clock, .int .i64 S.moment, .slice a1 S.cells.length ak1, .slice a2 S.locks.length ak2, .slice a3 S.rows.length ak3, .slice a4 S.lives.length ak4, .slice a5 S.dones.length ak5] 55])) (fun jv _ => S.locks.length - (intOf jv).toNat)
 case atStart => exact ⟨0, Nat.zero_le _, rfl, M3⟩
 case round =>
  obtain ⟨W1, rfl⟩ : ∃ W1, W1 = wr := ⟨_, rfl⟩
  obtain ⟨j, hj, rfl, hS⟩ := hrel
  clear M3
  have M4 := hS
  clear hS
  have hq1 := (Mem.get [] M4.out).choose_spec.2
  have hq0 := Mem.blk M4.out (g := w.heap.size) (cur := #[.int .i64 S.clock, .int .i64 S.moment, .slice a1 S.cells.length ak1, .slice a2 S.locks.length ak2, .slice a3 S.rows.length ak3, .slice a4 S.lives.length ak4, .slice a5 S.dones.length ak5]) (T := 55) (by simp)
  have y0 := (cell_of_heap (i := 0) (v := .int .i64 S.clock) hq1 rfl).1
  have y1 := (cell_of_heap (i := 1) (v := .int .i64 S.moment) hq1 rfl).1
  have y2 := (cell_of_heap (i := 2) (v := .slice b1 S.cells.length bk1) hq1 rfl).1
  have y3 := (cell_of_heap (i := 3) (v := .slice b2 S.locks.length bk2) hq1 rfl).1
  have y4 := (cell_of_heap (i := 4) (v := .slice b3 S.rows.length bk3) hq1 rfl).1
  have y5 := (cell_of_heap (i := 5) (v := .slice b4 S.lives.length bk4) hq1 rfl).1
  have y6 := (cell_of_heap (i := 6) (v := .slice b5 S.dones.length bk5) hq1 rfl).1
  have x0 := (cell_of_heap (i := 0) (v := .int .i64 S.clock) hq0 rfl).1
  have x1 := (cell_of_heap (i := 1) (v := .int .i64 S.moment) hq0 rfl).1
  have x2 := (cell_of_heap (i := 2) (v := .slice a1 S.cells.length ak1) hq0 rfl).1
  have x3 := (cell_of_heap (i := 3) (v := .slice a2 S.locks.length ak2) hq0 rfl).1
  have x4 := (cell_of_heap (i := 4) (v := .slice a3 S.rows.length ak3) hq0 rfl).1
  have x5 := (cell_of_heap (i := 5) (v := .slice a4 S.lives.length ak4) hq0 rfl).1
  have x6 := (cell_of_heap (i := 6) (v := .slice a5 S.dones.length ak5) hq0 rfl).1
  clear hq0 hq1
  by_cases hlt : j < S.locks.length
  ·obtain ⟨g, o, x, rfl, ⟨hx0, hx1, hx2⟩, hxk, hxh, hxq, -, -⟩ := (HL.out.1.below M4.out.bel).2 j hlt
   obtain ⟨g2, o2, y, rfl, ⟨hy0, hy1, hy2⟩, hyk, hyh, hyq, -, -⟩ := (HL.out.2.below M4.out.bel).2 j hlt
   obtain ⟨hn1, hn2⟩ := HLN.out _ (List.getElem_mem hlt)
   rw [hxk] at hx0
   rw [hyk] at hy0
   obtain ⟨xk, ⟨xha, xhn, xhc⟩, ⟨xqa, xqn, xqc⟩⟩ := x
   obtain ⟨yk, ⟨yha, yhn, yhc⟩, ⟨yqa, yqn, yqc⟩⟩ := y
   simp only at hx1 hx2 hy1 hy2 hxh hxq hyh hyq
   clear hxk hyk
   have HSH := Lib.hid fun W (hb : Below W1.heap.size W1 W) => same_h xha yha xhn yhn xhc yhc S.locks[j].hs W (hxh.below hb) (hyh.below hb) (by have := hxh.1; omega)
   have HSQ := Lib.hid fun W (hb : Below W1.heap.size W1 W) => same_h xqa yqa xqn yqn xqc yqc S.locks[j].qs W (hxq.below hb) (hyq.below hb) (by have := hxq.1; omega)
   clear hxh hxq hyh hyq hn1 hn2
   generalize S.locks[j].key = kk at *
   have hb5 := bel_one (bel_new W1 (.cells #[.string kk, .slice xha xhn xhc, .slice xqa xqn xqc] 66)) (.cells #[.string kk, .slice yha yhn yhc, .slice yqa yqn yqc] 66)
   have M5 := Lib.hid (M4.out.below hb5)
   have hB1 : ((W1.alloc (.cells #[.string kk, .slice xha xhn xhc, .slice xqa xqn xqc] 66)).alloc (.cells #[.string kk, .slice yha yhn yhc, .slice yqa yqn yqc] 66)).heap[W1.heap.size]? = some (.cells #[.string kk, .slice xha xhn xhc, .slice xqa xqn xqc] 66 (0, 0)) := hp_old _ _ _ _ (by simp) (heap_new W1 _)
   have hB2 : ((W1.alloc (.cells #[.string kk, .slice xha xhn xhc, .slice xqa xqn xqc] 66)).alloc (.cells #[.string kk, .slice yha yhn yhc, .slice yqa yqn yqc] 66)).heap[W1.heap.size + 1]? = some (.cells #[.string kk, .slice yha yhn yhc, .slice yqa yqn yqc] 66 (0, 0)) := heap_alloc_at _ _ _ (by simp)
   have y3a := fun o => ((bel_new W1 o).cell (World.block_lt_of_cell? W1 _ y3)).trans y3
   have hy0a := fun o => ((bel_new W1 o).cell (World.block_lt_of_cell? W1 _ hy0)).trans hy0
   have hy1a := fun o => ((bel_new W1 o).cell (World.block_lt_of_cell? W1 _ hy1)).trans hy1
   have hy2a := fun o => ((bel_new W1 o).cell (World.block_lt_of_cell? W1 _ hy2)).trans hy2
   have hjn : (j : Int) < (S.locks.length : Int) := by omega
   have hjz : (0 : Int) ≤ (j : Int) := by omega
   go_upto_region 7 with (fail)
   obtain ⟨W2, hW2⟩ : ∃ W2, W2 = (W1.alloc (.cells #[.string kk, .slice xha xhn xhc, .slice xqa xqn xqc] 66)).alloc (.cells #[.string kk, .slice yha yhn yhc, .slice yqa yqn yqc] 66) := ⟨_, rfl⟩
   rw [← hW2] at M5 hB1 hB2 hb5 ⊢
   clear hW2 x0 y0 x1 y1 x2 y2 x3 y3 x4 y4 x5 y5 x6 y6 hx0 hx1 hx2 hy0 hy1 hy2 y3a hy0a hy1a hy2a M4
   have u0 := (cell_of_heap (i := 0) (v := .string kk) hB1 rfl).1
   have u1 := (cell_of_heap (i := 1) (v := .slice xha xhn xhc) hB1 rfl).1
   have u2 := (cell_of_heap (i := 2) (v := .slice xqa xqn xqc) hB1 rfl).1
   have t0 := (cell_of_heap (i := 0) (v := .string kk) hB2 rfl).1
   have t1 := (cell_of_heap (i := 1) (v := .slice yha yhn yhc) hB2 rfl).1
   have t2 := (cell_of_heap (i := 2) (v := .slice yqa yqn yqc) hB2 rfl).1
   clear hB1 hB2
   go_wp2_with fail
   refine (HSH.out _ hb5).mono ?_
   rintro e W3 ⟨rfl, hb⟩
   have u2w := (hb.cell (World.block_lt_of_cell? W2 _ u2)).trans u2
   have t2w := (hb.cell (World.block_lt_of_cell? W2 _ t2)).trans t2
   have M6 := Lib.hid (M5.out.below hb)
   have hb6 := hb5.trans (hb.mono hb5.size)
   clear u0 u1 u2 t0 t1 t2 hb hb5 M5 HSH
   go_wp2_with fail
   refine (HSQ.out _ hb6).mono ?_
   rintro e W4 ⟨rfl, hb⟩
   have M7 := Lib.hid (M6.out.below hb)
   clear u2w t2w hb hb6 M6 HSQ
   go_wp2_with fail
   go_roundw
   case rel => exact ⟨j + 1, by omega, by go_num, M7⟩
   case measure => simp [intOf]; omega
  ·obtain rfl : j = S.locks.length := by omega
   go_wp2_with fail
   clear x0 y0 x1 y1 x2 y2 x3 y3 x4 y4 x5 y5 x6 y6
   go_loopw [103] (fun jv wr => ∃ j : Nat, j ≤ S.lives.length ∧ jv = .int .i64 (j : Nat) ∧ Hid (Mem w [] wr [BlockA (w.heap.size + 1) #[.int .i64 S.clock, .int .i64 S.moment, .slice b1 S.cells.length bk1, .slice b2 S.locks.length bk2, .slice b3 S.rows.length bk3, .slice b4 S.lives.length bk4, .slice b5 S.dones.length bk5] 55, BlockA w.heap.size #[.int .i64 S.clock, .int .i64 S.moment, .slice a1 S.cells.length ak1, .slice a2 S.locks.length ak2, .slice a3 S.rows.length ak3, .slice a4 S.lives.length ak4, .slice a5 S.dones.length ak5] 55])) (fun jv _ => S.lives.length - (intOf jv).toNat)
   case atStart => exact ⟨0, Nat.zero_le _, rfl, M4⟩
   case round =>
    obtain ⟨W1, rfl⟩ : ∃ W1, W1 = wr := ⟨_, rfl⟩
    obtain ⟨j, hj, rfl, hS⟩ := hrel
    clear M4
    have M4 := hS
    clear hS
    have hq1 := (Mem.get [] M4.out).choose_spec.2
    have hq0 := Mem.blk M4.out (g := w.heap.size) (cur := #[.int .i64 S.clock, .int .i64 S.moment, .slice a1 S.cells.length ak1, .slice a2 S.locks.length ak2, .slice a3 S.rows.length ak3, .slice a4 S.lives.length ak4, .slice a5 S.dones.length ak5]) (T := 55) (by simp)
    have y0 := (cell_of_heap (i := 0) (v := .int .i64 S.clock) hq1 rfl).1
    have y1 := (cell_of_heap (i := 1) (v := .int .i64 S.moment) hq1 rfl).1
    have y2 := (cell_of_heap (i := 2) (v := .slice b1 S.cells.length bk1) hq1 rfl).1
    have y3 := (cell_of_heap (i := 3) (v := .slice b2 S.locks.length bk2) hq1 rfl).1
    have y4 := (cell_of_heap (i := 4) (v := .slice b3 S.rows.length bk3) hq1 rfl).1
    have y5 := (cell_of_heap (i := 5) (v := .slice b4 S.lives.length bk4) hq1 rfl).1
    have y6 := (cell_of_heap (i := 6) (v := .slice b5 S.dones.length bk5) hq1 rfl).1
    have x0 := (cell_of_heap (i := 0) (v := .int .i64 S.clock) hq0 rfl).1
    have x1 := (cell_of_heap (i := 1) (v := .int .i64 S.moment) hq0 rfl).1
    have x2 := (cell_of_heap (i := 2) (v := .slice a1 S.cells.length ak1) hq0 rfl).1
    have x3 := (cell_of_heap (i := 3) (v := .slice a2 S.locks.length ak2) hq0 rfl).1
    have x4 := (cell_of_heap (i := 4) (v := .slice a3 S.rows.length ak3) hq0 rfl).1
    have x5 := (cell_of_heap (i := 5) (v := .slice a4 S.lives.length ak4) hq0 rfl).1
    have x6 := (cell_of_heap (i := 6) (v := .slice a5 S.dones.length ak5) hq0 rfl).1
    clear hq0 hq1
    by_cases hlt : j < S.lives.length
    ·obtain ⟨g, o, x, rfl, hx, hxk, hxl, hxw⟩ := (HV.out.1.below M4.out.bel).2 j hlt
     obtain ⟨g2, o2, y, rfl, hy, hyk, hyl, hyw⟩ := (HV.out.2.below M4.out.bel).2 j hlt
     have hwn := HVN.out _ (List.getElem_mem hlt)
     generalize S.lives[j] = z at *
     obtain ⟨ztx, zat, ⟨zk, zct, zca, zst, zop, zky, zvl, zmo, zys⟩, zws⟩ := z
     obtain ⟨xtx, xat, ⟨xk, xct, xca, xst, xop, xky, xvl, xmo, xys⟩, xa, xn, xc, xws⟩ := x
     obtain ⟨ytx, yat, ⟨yk, yct, yca, yst, yop, yky, yvl, ymo, yys⟩, ya, yn, yc, yws⟩ := y
     simp only [Le.lv, Lv.mk.injEq, Cm.mk.injEq] at hxk hxl hyk hyl
     obtain ⟨rfl, ⟨rfl, rfl, rfl, rfl, rfl, rfl, rfl, rfl, rfl⟩, rfl⟩ := hxl
     obtain ⟨rfl, ⟨rfl, rfl, rfl, rfl, rfl, rfl, rfl, rfl, rfl⟩, rfl⟩ := hyl
     subst hxk
     subst hyk
     simp only [lvAt] at hx hy
     obtain ⟨hx0, hx1, hx2, hx3, hx4, hx5, hx6, hx7, hx8, hx9, hx10, hx11⟩ := hx
     obtain ⟨hy0, hy1, hy2, hy3, hy4, hy5, hy6, hy7, hy8, hy9, hy10, hy11⟩ := hy
     have HSW := Lib.hid fun W (hb : Below W1.heap.size W1 W) => same_Wrs xa ya xn yn xc yc yws W (hxw.below hb) (hyw.below hb) (by have h8 : xn = yws.length := hxw.1; have h9 : yws.length ≤ 1000 := hwn; omega)
     clear hxw hyw hwn
     have hb5 := bel_one (bel_new W1 (.cells #[.int .i64 ytx, .int .i64 yat, .int .i64 yk, .int .i64 yct, .int .i64 yca, .int .i64 yst, .int .i64 yop, .string yky, .string yvl, .int .i64 ymo, .bool yys, .slice xa xn xc] 41)) (.cells #[.int .i64 ytx, .int .i64 yat, .int .i64 yk, .int .i64 yct, .int .i64 yca, .int .i64 yst, .int .i64 yop, .string yky, .string yvl, .int .i64 ymo, .bool yys, .slice ya yn yc] 41)
     have M5 := Lib.hid (M4.out.below hb5)
     have hB1 : ((W1.alloc (.cells #[.int .i64 ytx, .int .i64 yat, .int .i64 yk, .int .i64 yct, .int .i64 yca, .int .i64 yst, .int .i64 yop, .string yky, .string yvl, .int .i64 ymo, .bool yys, .slice xa xn xc] 41)).alloc (.cells #[.int .i64 ytx, .int .i64 yat, .int .i64 yk, .int .i64 yct, .int .i64 yca, .int .i64 yst, .int .i64 yop, .string yky, .string yvl, .int .i64 ymo, .bool yys, .slice ya yn yc] 41)).heap[W1.heap.size]? = some (.cells #[.int .i64 ytx, .int .i64 yat, .int .i64 yk, .int .i64 yct, .int .i64 yca, .int .i64 yst, .int .i64 yop, .string yky, .string yvl, .int .i64 ymo, .bool yys, .slice xa xn xc] 41 (0, 0)) := hp_old _ _ _ _ (by simp) (heap_new W1 _)
     have hB2 : ((W1.alloc (.cells #[.int .i64 ytx, .int .i64 yat, .int .i64 yk, .int .i64 yct, .int .i64 yca, .int .i64 yst, .int .i64 yop, .string yky, .string yvl, .int .i64 ymo, .bool yys, .slice xa xn xc] 41)).alloc (.cells #[.int .i64 ytx, .int .i64 yat, .int .i64 yk, .int .i64 yct, .int .i64 yca, .int .i64 yst, .int .i64 yop, .string yky, .string yvl, .int .i64 ymo, .bool yys, .slice ya yn yc] 41)).heap[W1.heap.size + 1]? = some (.cells #[.int .i64 ytx, .int .i64 yat, .int .i64 yk, .int .i64 yct, .int .i64 yca, .int .i64 yst, .int .i64 yop, .string yky, .string yvl, .int .i64 ymo, .bool yys, .slice ya yn yc] 41 (0, 0)) := heap_alloc_at _ _ _ (by simp)
     have y5a := fun o => ((bel_new W1 o).cell (World.block_lt_of_cell? W1 _ y5)).trans y5
     have hy0a := fun o => ((bel_new W1 o).cell (World.block_lt_of_cell? W1 _ hy0)).trans hy0
     have hy1a := fun o => ((bel_new W1 o).cell (World.block_lt_of_cell? W1 _ hy1)).trans hy1
     have hy2a := fun o => ((bel_new W1 o).cell (World.block_lt_of_cell? W1 _ hy2)).trans hy2
     have hy3a := fun o => ((bel_new W1 o).cell (World.block_lt_of_cell? W1 _ hy3)).trans hy3
     have hy4a := fun o => ((bel_new W1 o).cell (World.block_lt_of_cell? W1 _ hy4)).trans hy4
     have hy5a := fun o => ((bel_new W1 o).cell (World.block_lt_of_cell? W1 _ hy5)).trans hy5
     have hy6a := fun o => ((bel_new W1 o).cell (World.block_lt_of_cell? W1 _ hy6)).trans hy6
     have hy7a := fun o => ((bel_new W1 o).cell (World.block_lt_of_cell? W1 _ hy7)).trans hy7
     have hy8a := fun o => ((bel_new W1 o).cell (World.block_lt_of_cell? W1 _ hy8)).trans hy8
     have hy9a := fun o => ((bel_new W1 o).cell (World.block_lt_of_cell? W1 _ hy9)).trans hy9
     have hy10a := fun o => ((bel_new W1 o).cell (World.block_lt_of_cell? W1 _ hy10)).trans hy10
     have hy11a := fun o => ((bel_new W1 o).cell (World.block_lt_of_cell? W1 _ hy11)).trans hy11
     have hjn : (j : Int) < (S.lives.length : Int) := by omega
     have hjz : (0 : Int) ≤ (j : Int) := by omega
     go_upto_region 14 with (fail)
     obtain ⟨W2, hW2⟩ : ∃ W2, W2 = (W1.alloc (.cells #[.int .i64 ytx, .int .i64 yat, .int .i64 yk, .int .i64 yct, .int .i64 yca, .int .i64 yst, .int .i64 yop, .string yky, .string yvl, .int .i64 ymo, .bool yys, .slice xa xn xc] 41)).alloc (.cells #[.int .i64 ytx, .int .i64 yat, .int .i64 yk, .int .i64 yct, .int .i64 yca, .int .i64 yst, .int .i64 yop, .string yky, .string yvl, .int .i64 ymo, .bool yys, .slice ya yn yc] 41) := ⟨_, rfl⟩
     rw [← hW2] at M5 hB1 hB2 hb5 ⊢
     clear hW2 x0 y0 x1 y1 x2 y2 x3 y3 x4 y4 x5 y5 x6 y6 hx0 hy0 hy0a hx1 hy1 hy1a hx2 hy2 hy2a hx3 hy3 hy3a hx4 hy4 hy4a hx5 hy5 hy5a hx6 hy6 hy6a hx7 hy7 hy7a hx8 hy8 hy8a hx9 hy9 hy9a hx10 hy10 hy10a hx11 hy11 hy11a y5a M4
     have u0 := (cell_of_heap (i := 0) (v := .int .i64 ytx) hB1 rfl).1
     have t0 := (cell_of_heap (i := 0) (v := .int .i64 ytx) hB2 rfl).1
     have u1 := (cell_of_heap (i := 1) (v := .int .i64 yat) hB1 rfl).1
     have t1 := (cell_of_heap (i := 1) (v := .int .i64 yat) hB2 rfl).1
     have u2 := (cell_of_heap (i := 2) (v := .int .i64 yk) hB1 rfl).1
     have t2 := (cell_of_heap (i := 2) (v := .int .i64 yk) hB2 rfl).1
     have u3 := (cell_of_heap (i := 3) (v := .int .i64 yct) hB1 rfl).1
     have t3 := (cell_of_heap (i := 3) (v := .int .i64 yct) hB2 rfl).1
     have u4 := (cell_of_heap (i := 4) (v := .int .i64 yca) hB1 rfl).1
     have t4 := (cell_of_heap (i := 4) (v := .int .i64 yca) hB2 rfl).1
     have u5 := (cell_of_heap (i := 5) (v := .int .i64 yst) hB1 rfl).1
     have t5 := (cell_of_heap (i := 5) (v := .int .i64 yst) hB2 rfl).1
     have u6 := (cell_of_heap (i := 6) (v := .int .i64 yop) hB1 rfl).1
     have t6 := (cell_of_heap (i := 6) (v := .int .i64 yop) hB2 rfl).1
     have u7 := (cell_of_heap (i := 7) (v := .string yky) hB1 rfl).1
     have t7 := (cell_of_heap (i := 7) (v := .string yky) hB2 rfl).1
     have u8 := (cell_of_heap (i := 8) (v := .string yvl) hB1 rfl).1
     have t8 := (cell_of_heap (i := 8) (v := .string yvl) hB2 rfl).1
     have u9 := (cell_of_heap (i := 9) (v := .int .i64 ymo) hB1 rfl).1
     have t9 := (cell_of_heap (i := 9) (v := .int .i64 ymo) hB2 rfl).1
     have u10 := (cell_of_heap (i := 10) (v := .bool yys) hB1 rfl).1
     have t10 := (cell_of_heap (i := 10) (v := .bool yys) hB2 rfl).1
     have u11 := (cell_of_heap (i := 11) (v := .slice xa xn xc) hB1 rfl).1
     have t11 := (cell_of_heap (i := 11) (v := .slice ya yn yc) hB2 rfl).1
     clear hB1 hB2
     go_wp2_with fail
     refine (HSW.out _ hb5).mono ?_
     rintro e W3 ⟨rfl, hb⟩
     have M6 := Lib.hid (M5.out.below hb)
     clear u0 t0 u1 t1 u2 t2 u3 t3 u4 t4 u5 t5 u6 t6 u7 t7 u8 t8 u9 t9 u10 t10 u11 t11 hb hb5 M5 HSW
     go_wp2_with fail
     go_roundw
     case rel => exact ⟨j + 1, by omega, by go_num, M6⟩
     case measure => simp [intOf]; omega
    ·obtain rfl : j = S.lives.length := by omega
     have HB := Lib.hid M4.out.bel
     clear M4 x0 y0 x1 y1 x2 y2 x3 y3 x4 y4 x5 y5 x6 y6
     go_wp2_with fail
     go_ret
     exact ⟨rfl, HB.out⟩
end Go.Proofs.YtmifgnibalbgjaaGreat
