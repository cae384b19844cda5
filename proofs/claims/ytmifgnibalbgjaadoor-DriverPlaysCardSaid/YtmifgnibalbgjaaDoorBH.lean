/- What the document's driver asks for. -/
import Derived.Test.YtmifgnibalbgjaaDoorBG
namespace Go.Proofs.YtmifgnibalbgjaaDoor
open Go.RowKit
abbrev C9 (k tx t st op : Int) (y v : ByteArray) (m : Int) (b : Bool) : Array Value := #[.int .i64 k, .int .i64 tx, .int .i64 t, .int .i64 st, .int .i64 op, .string y, .string v, .int .i64 m, .bool b]
/-- the memory of a Next: the command, and the result. -/
def NX (w : World) (C : Array Value) (W : World) : Prop := Mem w [] W [BlockA (w.heap.size + 1) C 38, BlockA w.heap.size (C9 0 0 0 0 0 ⟨#[]⟩ ⟨#[]⟩ 0 false) 38]
theorem NX.below {w W W' : World} {C : Array Value} (h : NX w C W) (b : Below W.heap.size W W') : NX w C W' := Mem.below h b
theorem NX.set {w W : World} {C : Array Value} (h : NX w C W) (i : Nat) (v : Value) : NX w (C.set! i v) (W.setCell ⟨w.heap.size + 1, i, none⟩ v) := Mem.setAt [] (i := i) h v
theorem NX.mine {w W : World} {C : Array Value} (h : NX w C W) : W.heap[w.heap.size + 1]? = some (.cells C 38 (0, 0)) := Mem.heapAt [] h
theorem NX.res {w W : World} {C : Array Value} (h : NX w C W) : W.heap[w.heap.size]? = some (.cells (C9 0 0 0 0 0 ⟨#[]⟩ ⟨#[]⟩ 0 false) 38 (0, 0)) := Mem.heapAt [BlockA (w.heap.size + 1) C 38] (r := []) h
theorem NX.bel {w W : World} {C : Array Value} (h : NX w C W) : Below w.heap.size w W := Mem.bel h
/-- its cells. -/
structure RdAt (W : World) (g : Nat) (S P : Value) (r : Rd) : Prop where
  c0 : W.cell? ⟨g, 0, none⟩ = some (.int .i64 r.tx)
  c1 : W.cell? ⟨g, 1, none⟩ = some (.int .i64 r.stamp)
  c3 : W.cell? ⟨g, 3, none⟩ = some S
  c4 : W.cell? ⟨g, 4, none⟩ = some P
  c5 : W.cell? ⟨g, 5, none⟩ = some (.int .i64 r.attempt)
  c6 : W.cell? ⟨g, 6, none⟩ = some (.int .i64 r.asks)
  c7 : W.cell? ⟨g, 7, none⟩ = some (.int .i64 r.i)
  c8 : W.cell? ⟨g, 8, none⟩ = some (.string r.write.v)
  c9 : W.cell? ⟨g, 9, none⟩ = some (.bool r.write.h)
  c11 : W.cell? ⟨g, 11, none⟩ = some (.int .i64 r.fin)
  c12 : W.cell? ⟨g, 12, none⟩ = some (.int .i64 r.told)
  lt : g < W.heap.size
theorem Mem.rdAt {w0 w : World} {D0 : List Nat} {g : Nat} {S P : Value} {r : Rd} {q : List Asn} (M : Mem w0 D0 w (RefA g S P r :: q)) : RdAt w g S P r := by
  obtain ⟨ra, rc, hg⟩ := Mem.refAt M
  exact ⟨(rdC_cell hg 0 _ rfl).1, (rdC_cell hg 1 _ rfl).1, (rdC_cell hg 3 _ rfl).1, (rdC_cell hg 4 _ rfl).1, (rdC_cell hg 5 _ rfl).1, (rdC_cell hg 6 _ rfl).1, (rdC_cell hg 7 _ rfl).1, (rdC_cell hg 8 _ rfl).1, (rdC_cell hg 9 _ rfl).1, (rdC_cell hg 11 _ rfl).1, (rdC_cell hg 12 _ rfl).1, lt_of_heap hg⟩
def rnE (ss : List ByteArray) (l : List Opp) (r : Rd) : Ending := .returned (.tuple #[.int .i64 (rnS ss l r), Cmd.val (rnC ss l r), .bool (decide (r.asks ≠ 0))])
theorem rnE_mk {ss : List ByteArray} {l : List Opp} {r : Rd} {s : Int} {c : Cmd} {b : Bool} (h1 : rnS ss l r = s) (h2 : rnC ss l r = c) (h3 : decide (r.asks ≠ 0) = b) : rnE ss l r = .returned (.tuple #[.int .i64 s, Cmd.val c, .bool b]) := by
  unfold rnE; rw [h1, h2, h3]
section
variable {w0 w : World} {g : Nat} {r : Rd} {q : List Asn} [Stables q] {sa pa : Option Addr} {sn sc pn pc : Nat} {ss : List ByteArray} {l : List Opp}
set_option maxRecDepth 100000 in
set_option maxHeartbeats 8000000 in
theorem rnext0 (M : Mem w0 [] w (RefA g (.slice sa sn sc) (.slice pa pn pc) r :: q)) (hs : StrsAt w0 sa sn ss) (hl : OpsAt w0 pa pn l) (h7 : sn ≤ 7) (hn : pn ≤ 1000) (htx : 0 ≤ r.tx) (hk : r.asks = 0) :
    Calls Tryd.prog 15 #[.pointer (some ⟨g, 0, none⟩)] w fun e w' => e = rnE ss l r ∧ Below w.heap.size w w' := by
  have HC : Hid (∀ W, Below w.heap.size w W → RdAt W g (.slice sa sn sc) (.slice pa pn pc) r) := Lib.hid fun W hb => Mem.rdAt (M.below hb)
  have HST : Hid (∀ W, Below w.heap.size w W → StrsAt W sa sn ss) := Lib.hid fun W hb => hs.keep (M.below hb).bel
  have HOP : Hid (∀ W, Below w.heap.size w W → OpsAt W pa pn l) := Lib.hid fun W hb => hl.below (M.below hb).bel
  have hsl : sn = ss.length := hs.1
  have HE : Hid (rnE ss l r = .returned (.tuple #[.int .i64 0, Cmd.val czero, .bool false])) := Lib.hid (rnE_mk (by simp [rnS, hk]) (by simp [rnC, hk]) (by simp [hk]))
  unfold Cmd.val czero at HE
  clear M hs hl hsl
  generalize rnE ss l r = ne at *
  obtain ⟨tx, stamp, tries, attempt, asks, i, write, rs, fin, told, quit⟩ := r
  obtain ⟨wv, wh⟩ := write
  simp only at hk htx HE
  subst hk
  have hb0 := (HC.out w (Below.refl _ _))
  obtain ⟨t0, t1, t3, t4, t5, t6, t7, t8, t9, t11, t12, tg⟩ := hb0
  simp only at t0 t1 t5 t6 t7 t8 t9 t11 t12
  have N0 : Hid (Mem w [] (w.alloc (.cells (C9 0 0 0 0 0 ⟨#[]⟩ ⟨#[]⟩ 0 false) 38)) [BlockA w.heap.size (C9 0 0 0 0 0 ⟨#[]⟩ ⟨#[]⟩ 0 false) 38]) := Lib.hid ((Mem.nil w).block _ 38)
  go_enter Tryd.func15, Tryd.ntmps15
  go_wp2_with fail
  exact bodyPost_ret (v := .tuple #[.int .i64 0, .agg #[.int .i64 0, .int .i64 0, .int .i64 0, .int .i64 0, .int .i64 0, .string ⟨#[]⟩, .string ⟨#[]⟩, .int .i64 0, .bool false], .bool false]) (by simp [results, Tryd.results15, go_sem]) rfl ⟨HE.out.symm, N0.out.bel⟩
set_option maxRecDepth 100000 in
set_option maxHeartbeats 8000000 in
theorem rnext1 (M : Mem w0 [] w (RefA g (.slice sa sn sc) (.slice pa pn pc) r :: q)) (hs : StrsAt w0 sa sn ss) (hl : OpsAt w0 pa pn l) (h7 : sn ≤ 7) (hn : pn ≤ 1000) (htx : 0 ≤ r.tx) (hk : r.asks = 1) :
    Calls Tryd.prog 15 #[.pointer (some ⟨g, 0, none⟩)] w fun e w' => e = rnE ss l r ∧ Below w.heap.size w w' := by
  have HC : Hid (∀ W, Below w.heap.size w W → RdAt W g (.slice sa sn sc) (.slice pa pn pc) r) := Lib.hid fun W hb => Mem.rdAt (M.below hb)
  have HST : Hid (∀ W, Below w.heap.size w W → StrsAt W sa sn ss) := Lib.hid fun W hb => hs.keep (M.below hb).bel
  have HOP : Hid (∀ W, Below w.heap.size w W → OpsAt W pa pn l) := Lib.hid fun W hb => hl.below (M.below hb).bel
  have hsl : sn = ss.length := hs.1
  have HE : Hid (rnE ss l r = .returned (.tuple #[.int .i64 (r.tx % (ss.length + 1 : Nat)), Cmd.val ⟨1, r.tx, r.attempt, r.stamp, 0, ⟨#[]⟩, ⟨#[]⟩, 0, false⟩, .bool true])) := Lib.hid (rnE_mk (by simp [rnS, hk]) (by simp [rnC, hk]) (by simp [hk]))
  unfold Cmd.val at HE
  rw [← hsl, show ((sn + 1 : Nat) : Int) = (sn : Int) + 1 by omega] at HE
  clear M hs hl hsl
  generalize rnE ss l r = ne at *
  obtain ⟨tx, stamp, tries, attempt, asks, i, write, rs, fin, told, quit⟩ := r
  obtain ⟨wv, wh⟩ := write
  simp only at hk htx HE
  subst hk
  have hb0 := (HC.out w (Below.refl _ _))
  obtain ⟨t0, t1, t3, t4, t5, t6, t7, t8, t9, t11, t12, tg⟩ := hb0
  simp only at t0 t1 t5 t6 t7 t8 t9 t11 t12
  have N0 : Hid (Mem w [] (w.alloc (.cells (C9 0 0 0 0 0 ⟨#[]⟩ ⟨#[]⟩ 0 false) 38)) [BlockA w.heap.size (C9 0 0 0 0 0 ⟨#[]⟩ ⟨#[]⟩ 0 false) 38]) := Lib.hid ((Mem.nil w).block _ 38)
  have hne : ((sn : Int) + 1 == 0) = false := by rw [beq_eq_false_iff_ne]; omega
  go_enter Tryd.func15, Tryd.ntmps15
  go_upto_region 3 with (fail)
  clear t0 t1 t3 t4 t5 t6 t7 t8 t9 t11 t12 tg
  obtain ⟨t0, t1, t3, t4, t5, t6, t7, t8, t9, t11, t12, tg⟩ := HC.out _ N0.out.bel
  simp only at t0 t1 t5 t6 t7 t8 t9 t11 t12
  obtain ⟨W0, hW0⟩ : ∃ W0, W0 = w.alloc (.cells (C9 0 0 0 0 0 ⟨#[]⟩ ⟨#[]⟩ 0 false) 38) := ⟨_, rfl⟩
  have HZ0 : Hid (W0.heap.size = w.heap.size + 1) := Lib.hid (by rw [hW0]; simp)
  rw [← hW0] at t0 t1 t3 t4 t5 t6 t7 t8 t9 t11 t12 tg N0 ⊢
  clear hW0
  go_cut [5] from 14 to 26 (fun v5 wx => v5 = .pointer (some ⟨w.heap.size + 1, 0, none⟩) ∧ Hid (NX w (C9 1 tx attempt 0 0 ⟨#[]⟩ ⟨#[]⟩ 0 false) wx))
  case first =>
    have N1 : Hid (NX w (C9 1 tx attempt 0 0 ⟨#[]⟩ ⟨#[]⟩ 0 false) ((W0.drew).alloc (.cells (C9 1 tx attempt 0 0 ⟨#[]⟩ ⟨#[]⟩ 0 false) 38))) := Lib.hid (by
      have h := (N0.out.below (bel_drew _)).block (C9 1 tx attempt 0 0 ⟨#[]⟩ ⟨#[]⟩ 0 false) 38
      rw [show W0.drew.heap.size = w.heap.size + 1 from HZ0.out] at h
      exact h)
    have N2 : Hid (NX w (C9 1 tx attempt 0 0 ⟨#[]⟩ ⟨#[]⟩ 0 false) ((W0.alloc (.cells (C9 1 tx attempt 0 0 ⟨#[]⟩ ⟨#[]⟩ 0 false) 38)).drew)) := Lib.hid (by
      have h := (N0.out.block (C9 1 tx attempt 0 0 ⟨#[]⟩ ⟨#[]⟩ 0 false) 38).below (bel_drew _)
      rw [HZ0.out] at h
      exact h)
    go_region
    all_goals
      go_wp2_with fail
      go_meet
      case rel => exact ⟨by rw [← HZ0.out], by first | exact N1 | exact N2⟩
  case rest =>
  obtain ⟨rfl, N1⟩ := hcut
  clear t0 t1 t3 t4 t5 t6 t7 t8 t9 t11 t12 tg
  clear N0 HZ0
  obtain ⟨t0, t1, t3, t4, t5, t6, t7, t8, t9, t11, t12, tg⟩ := HC.out _ N1.out.bel
  simp only at t0 t1 t5 t6 t7 t8 t9 t11 t12
  clear tg
  go_wp2_with fail
  go_quiet (fail)
  have N2 := Lib.hid (N1.out.below (bel_drewN _ nq))
  generalize hW2 : wc.drewN nq = W2 at *
  clear hW2 N1 t0 t1 t3 t4 t5 t6 t7 t8 t9 t11 t12
  obtain ⟨t0, t1, t3, t4, t5, t6, t7, t8, t9, t11, t12, tg⟩ := HC.out _ N2.out.bel
  simp only at t0 t1 t5 t6 t7 t8 t9 t11 t12
  go_upto_if 42 with (fail)
  go_cut [] from 43 to 47 (fun wx => Hid (NX w (C9 1 tx attempt stamp 0 ⟨#[]⟩ ⟨#[]⟩ 0 false) wx))
  case first =>
    have hh := N2.out.mine
    obtain ⟨u0, uf0⟩ := cell_of_heap (i := 0) (v := .int .i64 1) hh rfl
    obtain ⟨u1, uf1⟩ := cell_of_heap (i := 1) (v := .int .i64 tx) hh rfl
    obtain ⟨u2, uf2⟩ := cell_of_heap (i := 2) (v := .int .i64 attempt) hh rfl
    obtain ⟨u3, uf3⟩ := cell_of_heap (i := 3) (v := .int .i64 0) hh rfl
    obtain ⟨u4, uf4⟩ := cell_of_heap (i := 4) (v := .int .i64 0) hh rfl
    obtain ⟨u5, uf5⟩ := cell_of_heap (i := 5) (v := .string ⟨#[]⟩) hh rfl
    obtain ⟨u6, uf6⟩ := cell_of_heap (i := 6) (v := .string ⟨#[]⟩) hh rfl
    obtain ⟨u7, uf7⟩ := cell_of_heap (i := 7) (v := .int .i64 0) hh rfl
    obtain ⟨u8, uf8⟩ := cell_of_heap (i := 8) (v := .bool false) hh rfl
    clear hh
    go_wp2_with fail
    go_meet
    case rel => exact Lib.hid (N2.out.set 3 (.int .i64 stamp))
  case rest =>
  have N3 := hcut
  clear hcut N2
  clear t0 t1 t3 t4 t5 t6 t7 t8 t9 t11 t12 tg
  obtain ⟨t0, t1, t3, t4, t5, t6, t7, t8, t9, t11, t12, tg⟩ := HC.out _ N3.out.bel
  simp only at t0 t1 t5 t6 t7 t8 t9 t11 t12
  go_upto_region 12 with (fail)
  clear t0 t1 t3 t4 t5 t6 t7 t8 t9 t11 t12 tg
  have hh := N3.out.mine
  obtain ⟨u0, uf0⟩ := cell_of_heap (i := 0) (v := .int .i64 1) hh rfl
  obtain ⟨u1, uf1⟩ := cell_of_heap (i := 1) (v := .int .i64 tx) hh rfl
  obtain ⟨u2, uf2⟩ := cell_of_heap (i := 2) (v := .int .i64 attempt) hh rfl
  obtain ⟨u3, uf3⟩ := cell_of_heap (i := 3) (v := .int .i64 stamp) hh rfl
  obtain ⟨u4, uf4⟩ := cell_of_heap (i := 4) (v := .int .i64 0) hh rfl
  obtain ⟨u5, uf5⟩ := cell_of_heap (i := 5) (v := .string ⟨#[]⟩) hh rfl
  obtain ⟨u6, uf6⟩ := cell_of_heap (i := 6) (v := .string ⟨#[]⟩) hh rfl
  obtain ⟨u7, uf7⟩ := cell_of_heap (i := 7) (v := .int .i64 0) hh rfl
  obtain ⟨u8, uf8⟩ := cell_of_heap (i := 8) (v := .bool false) hh rfl
  clear hh
  have hh := N3.out.res
  obtain ⟨z0, zf0⟩ := cell_of_heap (i := 0) (v := .int .i64 0) hh rfl
  obtain ⟨z1, zf1⟩ := cell_of_heap (i := 1) (v := .int .i64 0) hh rfl
  obtain ⟨z2, zf2⟩ := cell_of_heap (i := 2) (v := .int .i64 0) hh rfl
  obtain ⟨z3, zf3⟩ := cell_of_heap (i := 3) (v := .int .i64 0) hh rfl
  obtain ⟨z4, zf4⟩ := cell_of_heap (i := 4) (v := .int .i64 0) hh rfl
  obtain ⟨z5, zf5⟩ := cell_of_heap (i := 5) (v := .string ⟨#[]⟩) hh rfl
  obtain ⟨z6, zf6⟩ := cell_of_heap (i := 6) (v := .string ⟨#[]⟩) hh rfl
  obtain ⟨z7, zf7⟩ := cell_of_heap (i := 7) (v := .int .i64 0) hh rfl
  obtain ⟨z8, zf8⟩ := cell_of_heap (i := 8) (v := .bool false) hh rfl
  clear hh
  have HMF : Hid (∀ W, NX w (C9 1 tx attempt stamp 0 ⟨#[]⟩ ⟨#[]⟩ 0 false) W → Mem w [] ((((((((((W.setCell ⟨w.heap.size, 0, none⟩ (.int .i64 1)).setCell ⟨w.heap.size, 1, none⟩ (.int .i64 tx)).setCell ⟨w.heap.size, 2, none⟩ (.int .i64 attempt)).setCell ⟨w.heap.size, 3, none⟩ (.int .i64 stamp)).setCell ⟨w.heap.size, 4, none⟩ (.int .i64 0)).setCell ⟨w.heap.size, 5, none⟩ (.string ⟨#[]⟩)).setCell ⟨w.heap.size, 6, none⟩ (.string ⟨#[]⟩)).setCell ⟨w.heap.size, 7, none⟩ (.int .i64 0)).setCell ⟨w.heap.size, 8, none⟩ (.bool false))) [BlockA (w.heap.size + 1) (C9 1 tx attempt stamp 0 ⟨#[]⟩ ⟨#[]⟩ 0 false) 38, BlockA w.heap.size (C9 1 tx attempt stamp 0 ⟨#[]⟩ ⟨#[]⟩ 0 false) 38]) := Lib.hid fun W h => Mem.set9 [BlockA (w.heap.size + 1) (C9 1 tx attempt stamp 0 ⟨#[]⟩ ⟨#[]⟩ 0 false) 38] (r := []) h (.int .i64 1) (.int .i64 tx) (.int .i64 attempt) (.int .i64 stamp) (.int .i64 0) (.string ⟨#[]⟩) (.string ⟨#[]⟩) (.int .i64 0) (.bool false)
  have N9 := N3
  clear N3
  go_region
  all_goals
    go_wp2_with fail
    first
    | (
        obtain ⟨w9, hw9⟩ : ∃ w9, w9 = ((((((((((wc.setCell ⟨w.heap.size, 0, none⟩ (.int .i64 1)).setCell ⟨w.heap.size, 1, none⟩ (.int .i64 tx)).setCell ⟨w.heap.size, 2, none⟩ (.int .i64 attempt)).setCell ⟨w.heap.size, 3, none⟩ (.int .i64 stamp)).setCell ⟨w.heap.size, 4, none⟩ (.int .i64 0)).setCell ⟨w.heap.size, 5, none⟩ (.string ⟨#[]⟩)).setCell ⟨w.heap.size, 6, none⟩ (.string ⟨#[]⟩)).setCell ⟨w.heap.size, 7, none⟩ (.int .i64 0)).setCell ⟨w.heap.size, 8, none⟩ (.bool false))).drew := ⟨_, rfl⟩
        have hm : Mem w [] w9 [BlockA (w.heap.size + 1) (C9 1 tx attempt stamp 0 ⟨#[]⟩ ⟨#[]⟩ 0 false) 38, BlockA w.heap.size (C9 1 tx attempt stamp 0 ⟨#[]⟩ ⟨#[]⟩ 0 false) 38] := by rw [hw9]; exact Mem.below (HMF.out _ N9.out) (bel_drew _)
        rw [← hw9]
        clear hw9
        have hh := Mem.heapAt [BlockA (w.heap.size + 1) (C9 1 tx attempt stamp 0 ⟨#[]⟩ ⟨#[]⟩ 0 false) 38] (r := []) hm
        have y0 := (cell_of_heap (i := 0) (v := .int .i64 1) hh rfl).1
        have y1 := (cell_of_heap (i := 1) (v := .int .i64 tx) hh rfl).1
        have y2 := (cell_of_heap (i := 2) (v := .int .i64 attempt) hh rfl).1
        have y3 := (cell_of_heap (i := 3) (v := .int .i64 stamp) hh rfl).1
        have y4 := (cell_of_heap (i := 4) (v := .int .i64 0) hh rfl).1
        have y5 := (cell_of_heap (i := 5) (v := .string ⟨#[]⟩) hh rfl).1
        have y6 := (cell_of_heap (i := 6) (v := .string ⟨#[]⟩) hh rfl).1
        have y7 := (cell_of_heap (i := 7) (v := .int .i64 0) hh rfl).1
        have y8 := (cell_of_heap (i := 8) (v := .bool false) hh rfl).1
        exact bodyPost_ret (v := .tuple #[.int .i64 (tx % ((sn : Int) + 1)), .agg #[.int .i64 1, .int .i64 tx, .int .i64 attempt, .int .i64 stamp, .int .i64 0, .string ⟨#[]⟩, .string ⟨#[]⟩, .int .i64 0, .bool false], .bool true]) (by simp [results, Tryd.results15, go_sem, y0, y1, y2, y3, y4, y5, y6, y7, y8]) rfl ⟨HE.out.symm, hm.bel⟩
      )
    | (
        obtain ⟨w9, hw9⟩ : ∃ w9, w9 = (((((((((wc.drew.setCell ⟨w.heap.size, 0, none⟩ (.int .i64 1)).setCell ⟨w.heap.size, 1, none⟩ (.int .i64 tx)).setCell ⟨w.heap.size, 2, none⟩ (.int .i64 attempt)).setCell ⟨w.heap.size, 3, none⟩ (.int .i64 stamp)).setCell ⟨w.heap.size, 4, none⟩ (.int .i64 0)).setCell ⟨w.heap.size, 5, none⟩ (.string ⟨#[]⟩)).setCell ⟨w.heap.size, 6, none⟩ (.string ⟨#[]⟩)).setCell ⟨w.heap.size, 7, none⟩ (.int .i64 0)).setCell ⟨w.heap.size, 8, none⟩ (.bool false)) := ⟨_, rfl⟩
        have hm : Mem w [] w9 [BlockA (w.heap.size + 1) (C9 1 tx attempt stamp 0 ⟨#[]⟩ ⟨#[]⟩ 0 false) 38, BlockA w.heap.size (C9 1 tx attempt stamp 0 ⟨#[]⟩ ⟨#[]⟩ 0 false) 38] := by rw [hw9]; exact HMF.out _ (N9.out.below (bel_drew _))
        rw [← hw9]
        clear hw9
        have hh := Mem.heapAt [BlockA (w.heap.size + 1) (C9 1 tx attempt stamp 0 ⟨#[]⟩ ⟨#[]⟩ 0 false) 38] (r := []) hm
        have y0 := (cell_of_heap (i := 0) (v := .int .i64 1) hh rfl).1
        have y1 := (cell_of_heap (i := 1) (v := .int .i64 tx) hh rfl).1
        have y2 := (cell_of_heap (i := 2) (v := .int .i64 attempt) hh rfl).1
        have y3 := (cell_of_heap (i := 3) (v := .int .i64 stamp) hh rfl).1
        have y4 := (cell_of_heap (i := 4) (v := .int .i64 0) hh rfl).1
        have y5 := (cell_of_heap (i := 5) (v := .string ⟨#[]⟩) hh rfl).1
        have y6 := (cell_of_heap (i := 6) (v := .string ⟨#[]⟩) hh rfl).1
        have y7 := (cell_of_heap (i := 7) (v := .int .i64 0) hh rfl).1
        have y8 := (cell_of_heap (i := 8) (v := .bool false) hh rfl).1
        exact bodyPost_ret (v := .tuple #[.int .i64 (tx % ((sn : Int) + 1)), .agg #[.int .i64 1, .int .i64 tx, .int .i64 attempt, .int .i64 stamp, .int .i64 0, .string ⟨#[]⟩, .string ⟨#[]⟩, .int .i64 0, .bool false], .bool true]) (by simp [results, Tryd.results15, go_sem, y0, y1, y2, y3, y4, y5, y6, y7, y8]) rfl ⟨HE.out.symm, hm.bel⟩
      )
set_option maxRecDepth 100000 in
set_option maxHeartbeats 8000000 in
theorem rnext5 (M : Mem w0 [] w (RefA g (.slice sa sn sc) (.slice pa pn pc) r :: q)) (hs : StrsAt w0 sa sn ss) (hl : OpsAt w0 pa pn l) (h7 : sn ≤ 7) (hn : pn ≤ 1000) (htx : 0 ≤ r.tx) (hk : r.asks = 5) :
    Calls Tryd.prog 15 #[.pointer (some ⟨g, 0, none⟩)] w fun e w' => e = rnE ss l r ∧ Below w.heap.size w w' := by
  have HC : Hid (∀ W, Below w.heap.size w W → RdAt W g (.slice sa sn sc) (.slice pa pn pc) r) := Lib.hid fun W hb => Mem.rdAt (M.below hb)
  have HST : Hid (∀ W, Below w.heap.size w W → StrsAt W sa sn ss) := Lib.hid fun W hb => hs.keep (M.below hb).bel
  have HOP : Hid (∀ W, Below w.heap.size w W → OpsAt W pa pn l) := Lib.hid fun W hb => hl.below (M.below hb).bel
  have hsl : sn = ss.length := hs.1
  have HE : Hid (rnE ss l r = .returned (.tuple #[.int .i64 (r.tx % (ss.length + 1 : Nat)), Cmd.val ⟨5, r.tx, r.attempt, 0, 0, ⟨#[]⟩, ⟨#[]⟩, 0, false⟩, .bool true])) := Lib.hid (rnE_mk (by simp [rnS, hk]) (by simp [rnC, hk]) (by simp [hk]))
  unfold Cmd.val at HE
  rw [← hsl, show ((sn + 1 : Nat) : Int) = (sn : Int) + 1 by omega] at HE
  clear M hs hl hsl
  generalize rnE ss l r = ne at *
  obtain ⟨tx, stamp, tries, attempt, asks, i, write, rs, fin, told, quit⟩ := r
  obtain ⟨wv, wh⟩ := write
  simp only at hk htx HE
  subst hk
  have hb0 := (HC.out w (Below.refl _ _))
  obtain ⟨t0, t1, t3, t4, t5, t6, t7, t8, t9, t11, t12, tg⟩ := hb0
  simp only at t0 t1 t5 t6 t7 t8 t9 t11 t12
  have N0 : Hid (Mem w [] (w.alloc (.cells (C9 0 0 0 0 0 ⟨#[]⟩ ⟨#[]⟩ 0 false) 38)) [BlockA w.heap.size (C9 0 0 0 0 0 ⟨#[]⟩ ⟨#[]⟩ 0 false) 38]) := Lib.hid ((Mem.nil w).block _ 38)
  have hne : ((sn : Int) + 1 == 0) = false := by rw [beq_eq_false_iff_ne]; omega
  go_enter Tryd.func15, Tryd.ntmps15
  go_upto_region 3 with (fail)
  clear t0 t1 t3 t4 t5 t6 t7 t8 t9 t11 t12 tg
  obtain ⟨t0, t1, t3, t4, t5, t6, t7, t8, t9, t11, t12, tg⟩ := HC.out _ N0.out.bel
  simp only at t0 t1 t5 t6 t7 t8 t9 t11 t12
  obtain ⟨W0, hW0⟩ : ∃ W0, W0 = w.alloc (.cells (C9 0 0 0 0 0 ⟨#[]⟩ ⟨#[]⟩ 0 false) 38) := ⟨_, rfl⟩
  have HZ0 : Hid (W0.heap.size = w.heap.size + 1) := Lib.hid (by rw [hW0]; simp)
  rw [← hW0] at t0 t1 t3 t4 t5 t6 t7 t8 t9 t11 t12 tg N0 ⊢
  clear hW0
  go_cut [5] from 14 to 26 (fun v5 wx => v5 = .pointer (some ⟨w.heap.size + 1, 0, none⟩) ∧ Hid (NX w (C9 5 tx attempt 0 0 ⟨#[]⟩ ⟨#[]⟩ 0 false) wx))
  case first =>
    have N1 : Hid (NX w (C9 5 tx attempt 0 0 ⟨#[]⟩ ⟨#[]⟩ 0 false) ((W0.drew).alloc (.cells (C9 5 tx attempt 0 0 ⟨#[]⟩ ⟨#[]⟩ 0 false) 38))) := Lib.hid (by
      have h := (N0.out.below (bel_drew _)).block (C9 5 tx attempt 0 0 ⟨#[]⟩ ⟨#[]⟩ 0 false) 38
      rw [show W0.drew.heap.size = w.heap.size + 1 from HZ0.out] at h
      exact h)
    have N2 : Hid (NX w (C9 5 tx attempt 0 0 ⟨#[]⟩ ⟨#[]⟩ 0 false) ((W0.alloc (.cells (C9 5 tx attempt 0 0 ⟨#[]⟩ ⟨#[]⟩ 0 false) 38)).drew)) := Lib.hid (by
      have h := (N0.out.block (C9 5 tx attempt 0 0 ⟨#[]⟩ ⟨#[]⟩ 0 false) 38).below (bel_drew _)
      rw [HZ0.out] at h
      exact h)
    go_region
    all_goals
      go_wp2_with fail
      go_meet
      case rel => exact ⟨by rw [← HZ0.out], by first | exact N1 | exact N2⟩
  case rest =>
  obtain ⟨rfl, N1⟩ := hcut
  clear t0 t1 t3 t4 t5 t6 t7 t8 t9 t11 t12 tg
  clear N0 HZ0
  obtain ⟨t0, t1, t3, t4, t5, t6, t7, t8, t9, t11, t12, tg⟩ := HC.out _ N1.out.bel
  simp only at t0 t1 t5 t6 t7 t8 t9 t11 t12
  clear tg
  go_wp2_with fail
  go_quiet (fail)
  have N2 := Lib.hid (N1.out.below (bel_drewN _ nq))
  generalize hW2 : wc.drewN nq = W2 at *
  clear hW2 N1 t0 t1 t3 t4 t5 t6 t7 t8 t9 t11 t12
  obtain ⟨t0, t1, t3, t4, t5, t6, t7, t8, t9, t11, t12, tg⟩ := HC.out _ N2.out.bel
  simp only at t0 t1 t5 t6 t7 t8 t9 t11 t12
  go_upto_if 42 with (fail)
  go_cut [] from 43 to 47 (fun wx => Hid (NX w (C9 5 tx attempt 0 0 ⟨#[]⟩ ⟨#[]⟩ 0 false) wx))
  case first =>
    have hh := N2.out.mine
    obtain ⟨u0, uf0⟩ := cell_of_heap (i := 0) (v := .int .i64 5) hh rfl
    obtain ⟨u1, uf1⟩ := cell_of_heap (i := 1) (v := .int .i64 tx) hh rfl
    obtain ⟨u2, uf2⟩ := cell_of_heap (i := 2) (v := .int .i64 attempt) hh rfl
    obtain ⟨u3, uf3⟩ := cell_of_heap (i := 3) (v := .int .i64 0) hh rfl
    obtain ⟨u4, uf4⟩ := cell_of_heap (i := 4) (v := .int .i64 0) hh rfl
    obtain ⟨u5, uf5⟩ := cell_of_heap (i := 5) (v := .string ⟨#[]⟩) hh rfl
    obtain ⟨u6, uf6⟩ := cell_of_heap (i := 6) (v := .string ⟨#[]⟩) hh rfl
    obtain ⟨u7, uf7⟩ := cell_of_heap (i := 7) (v := .int .i64 0) hh rfl
    obtain ⟨u8, uf8⟩ := cell_of_heap (i := 8) (v := .bool false) hh rfl
    clear hh
    go_wp2_with fail
    go_meet
    case rel => exact N2
  case rest =>
  have N3 := hcut
  clear hcut N2
  clear t0 t1 t3 t4 t5 t6 t7 t8 t9 t11 t12 tg
  obtain ⟨t0, t1, t3, t4, t5, t6, t7, t8, t9, t11, t12, tg⟩ := HC.out _ N3.out.bel
  simp only at t0 t1 t5 t6 t7 t8 t9 t11 t12
  go_upto_region 12 with (fail)
  clear t0 t1 t3 t4 t5 t6 t7 t8 t9 t11 t12 tg
  have hh := N3.out.mine
  obtain ⟨u0, uf0⟩ := cell_of_heap (i := 0) (v := .int .i64 5) hh rfl
  obtain ⟨u1, uf1⟩ := cell_of_heap (i := 1) (v := .int .i64 tx) hh rfl
  obtain ⟨u2, uf2⟩ := cell_of_heap (i := 2) (v := .int .i64 attempt) hh rfl
  obtain ⟨u3, uf3⟩ := cell_of_heap (i := 3) (v := .int .i64 0) hh rfl
  obtain ⟨u4, uf4⟩ := cell_of_heap (i := 4) (v := .int .i64 0) hh rfl
  obtain ⟨u5, uf5⟩ := cell_of_heap (i := 5) (v := .string ⟨#[]⟩) hh rfl
  obtain ⟨u6, uf6⟩ := cell_of_heap (i := 6) (v := .string ⟨#[]⟩) hh rfl
  obtain ⟨u7, uf7⟩ := cell_of_heap (i := 7) (v := .int .i64 0) hh rfl
  obtain ⟨u8, uf8⟩ := cell_of_heap (i := 8) (v := .bool false) hh rfl
  clear hh
  have hh := N3.out.res
  obtain ⟨z0, zf0⟩ := cell_of_heap (i := 0) (v := .int .i64 0) hh rfl
  obtain ⟨z1, zf1⟩ := cell_of_heap (i := 1) (v := .int .i64 0) hh rfl
  obtain ⟨z2, zf2⟩ := cell_of_heap (i := 2) (v := .int .i64 0) hh rfl
  obtain ⟨z3, zf3⟩ := cell_of_heap (i := 3) (v := .int .i64 0) hh rfl
  obtain ⟨z4, zf4⟩ := cell_of_heap (i := 4) (v := .int .i64 0) hh rfl
  obtain ⟨z5, zf5⟩ := cell_of_heap (i := 5) (v := .string ⟨#[]⟩) hh rfl
  obtain ⟨z6, zf6⟩ := cell_of_heap (i := 6) (v := .string ⟨#[]⟩) hh rfl
  obtain ⟨z7, zf7⟩ := cell_of_heap (i := 7) (v := .int .i64 0) hh rfl
  obtain ⟨z8, zf8⟩ := cell_of_heap (i := 8) (v := .bool false) hh rfl
  clear hh
  have HMF : Hid (∀ W, NX w (C9 5 tx attempt 0 0 ⟨#[]⟩ ⟨#[]⟩ 0 false) W → Mem w [] ((((((((((W.setCell ⟨w.heap.size, 0, none⟩ (.int .i64 5)).setCell ⟨w.heap.size, 1, none⟩ (.int .i64 tx)).setCell ⟨w.heap.size, 2, none⟩ (.int .i64 attempt)).setCell ⟨w.heap.size, 3, none⟩ (.int .i64 0)).setCell ⟨w.heap.size, 4, none⟩ (.int .i64 0)).setCell ⟨w.heap.size, 5, none⟩ (.string ⟨#[]⟩)).setCell ⟨w.heap.size, 6, none⟩ (.string ⟨#[]⟩)).setCell ⟨w.heap.size, 7, none⟩ (.int .i64 0)).setCell ⟨w.heap.size, 8, none⟩ (.bool false))) [BlockA (w.heap.size + 1) (C9 5 tx attempt 0 0 ⟨#[]⟩ ⟨#[]⟩ 0 false) 38, BlockA w.heap.size (C9 5 tx attempt 0 0 ⟨#[]⟩ ⟨#[]⟩ 0 false) 38]) := Lib.hid fun W h => Mem.set9 [BlockA (w.heap.size + 1) (C9 5 tx attempt 0 0 ⟨#[]⟩ ⟨#[]⟩ 0 false) 38] (r := []) h (.int .i64 5) (.int .i64 tx) (.int .i64 attempt) (.int .i64 0) (.int .i64 0) (.string ⟨#[]⟩) (.string ⟨#[]⟩) (.int .i64 0) (.bool false)
  have N9 := N3
  clear N3
  go_region
  all_goals
    go_wp2_with fail
    first
    | (
        obtain ⟨w9, hw9⟩ : ∃ w9, w9 = ((((((((((wc.setCell ⟨w.heap.size, 0, none⟩ (.int .i64 5)).setCell ⟨w.heap.size, 1, none⟩ (.int .i64 tx)).setCell ⟨w.heap.size, 2, none⟩ (.int .i64 attempt)).setCell ⟨w.heap.size, 3, none⟩ (.int .i64 0)).setCell ⟨w.heap.size, 4, none⟩ (.int .i64 0)).setCell ⟨w.heap.size, 5, none⟩ (.string ⟨#[]⟩)).setCell ⟨w.heap.size, 6, none⟩ (.string ⟨#[]⟩)).setCell ⟨w.heap.size, 7, none⟩ (.int .i64 0)).setCell ⟨w.heap.size, 8, none⟩ (.bool false))).drew := ⟨_, rfl⟩
        have hm : Mem w [] w9 [BlockA (w.heap.size + 1) (C9 5 tx attempt 0 0 ⟨#[]⟩ ⟨#[]⟩ 0 false) 38, BlockA w.heap.size (C9 5 tx attempt 0 0 ⟨#[]⟩ ⟨#[]⟩ 0 false) 38] := by rw [hw9]; exact Mem.below (HMF.out _ N9.out) (bel_drew _)
        rw [← hw9]
        clear hw9
        have hh := Mem.heapAt [BlockA (w.heap.size + 1) (C9 5 tx attempt 0 0 ⟨#[]⟩ ⟨#[]⟩ 0 false) 38] (r := []) hm
        have y0 := (cell_of_heap (i := 0) (v := .int .i64 5) hh rfl).1
        have y1 := (cell_of_heap (i := 1) (v := .int .i64 tx) hh rfl).1
        have y2 := (cell_of_heap (i := 2) (v := .int .i64 attempt) hh rfl).1
        have y3 := (cell_of_heap (i := 3) (v := .int .i64 0) hh rfl).1
        have y4 := (cell_of_heap (i := 4) (v := .int .i64 0) hh rfl).1
        have y5 := (cell_of_heap (i := 5) (v := .string ⟨#[]⟩) hh rfl).1
        have y6 := (cell_of_heap (i := 6) (v := .string ⟨#[]⟩) hh rfl).1
        have y7 := (cell_of_heap (i := 7) (v := .int .i64 0) hh rfl).1
        have y8 := (cell_of_heap (i := 8) (v := .bool false) hh rfl).1
        exact bodyPost_ret (v := .tuple #[.int .i64 (tx % ((sn : Int) + 1)), .agg #[.int .i64 5, .int .i64 tx, .int .i64 attempt, .int .i64 0, .int .i64 0, .string ⟨#[]⟩, .string ⟨#[]⟩, .int .i64 0, .bool false], .bool true]) (by simp [results, Tryd.results15, go_sem, y0, y1, y2, y3, y4, y5, y6, y7, y8]) rfl ⟨HE.out.symm, hm.bel⟩
      )
    | (
        obtain ⟨w9, hw9⟩ : ∃ w9, w9 = (((((((((wc.drew.setCell ⟨w.heap.size, 0, none⟩ (.int .i64 5)).setCell ⟨w.heap.size, 1, none⟩ (.int .i64 tx)).setCell ⟨w.heap.size, 2, none⟩ (.int .i64 attempt)).setCell ⟨w.heap.size, 3, none⟩ (.int .i64 0)).setCell ⟨w.heap.size, 4, none⟩ (.int .i64 0)).setCell ⟨w.heap.size, 5, none⟩ (.string ⟨#[]⟩)).setCell ⟨w.heap.size, 6, none⟩ (.string ⟨#[]⟩)).setCell ⟨w.heap.size, 7, none⟩ (.int .i64 0)).setCell ⟨w.heap.size, 8, none⟩ (.bool false)) := ⟨_, rfl⟩
        have hm : Mem w [] w9 [BlockA (w.heap.size + 1) (C9 5 tx attempt 0 0 ⟨#[]⟩ ⟨#[]⟩ 0 false) 38, BlockA w.heap.size (C9 5 tx attempt 0 0 ⟨#[]⟩ ⟨#[]⟩ 0 false) 38] := by rw [hw9]; exact HMF.out _ (N9.out.below (bel_drew _))
        rw [← hw9]
        clear hw9
        have hh := Mem.heapAt [BlockA (w.heap.size + 1) (C9 5 tx attempt 0 0 ⟨#[]⟩ ⟨#[]⟩ 0 false) 38] (r := []) hm
        have y0 := (cell_of_heap (i := 0) (v := .int .i64 5) hh rfl).1
        have y1 := (cell_of_heap (i := 1) (v := .int .i64 tx) hh rfl).1
        have y2 := (cell_of_heap (i := 2) (v := .int .i64 attempt) hh rfl).1
        have y3 := (cell_of_heap (i := 3) (v := .int .i64 0) hh rfl).1
        have y4 := (cell_of_heap (i := 4) (v := .int .i64 0) hh rfl).1
        have y5 := (cell_of_heap (i := 5) (v := .string ⟨#[]⟩) hh rfl).1
        have y6 := (cell_of_heap (i := 6) (v := .string ⟨#[]⟩) hh rfl).1
        have y7 := (cell_of_heap (i := 7) (v := .int .i64 0) hh rfl).1
        have y8 := (cell_of_heap (i := 8) (v := .bool false) hh rfl).1
        exact bodyPost_ret (v := .tuple #[.int .i64 (tx % ((sn : Int) + 1)), .agg #[.int .i64 5, .int .i64 tx, .int .i64 attempt, .int .i64 0, .int .i64 0, .string ⟨#[]⟩, .string ⟨#[]⟩, .int .i64 0, .bool false], .bool true]) (by simp [results, Tryd.results15, go_sem, y0, y1, y2, y3, y4, y5, y6, y7, y8]) rfl ⟨HE.out.symm, hm.bel⟩
      )
set_option maxRecDepth 100000 in
set_option maxHeartbeats 8000000 in
theorem rnext6 (M : Mem w0 [] w (RefA g (.slice sa sn sc) (.slice pa pn pc) r :: q)) (hs : StrsAt w0 sa sn ss) (hl : OpsAt w0 pa pn l) (h7 : sn ≤ 7) (hn : pn ≤ 1000) (htx : 0 ≤ r.tx) (hk : r.asks = 6) :
    Calls Tryd.prog 15 #[.pointer (some ⟨g, 0, none⟩)] w fun e w' => e = rnE ss l r ∧ Below w.heap.size w w' := by
  have HC : Hid (∀ W, Below w.heap.size w W → RdAt W g (.slice sa sn sc) (.slice pa pn pc) r) := Lib.hid fun W hb => Mem.rdAt (M.below hb)
  have HST : Hid (∀ W, Below w.heap.size w W → StrsAt W sa sn ss) := Lib.hid fun W hb => hs.keep (M.below hb).bel
  have HOP : Hid (∀ W, Below w.heap.size w W → OpsAt W pa pn l) := Lib.hid fun W hb => hl.below (M.below hb).bel
  have hsl : sn = ss.length := hs.1
  have HE : Hid (rnE ss l r = .returned (.tuple #[.int .i64 (r.tx % (ss.length + 1 : Nat)), Cmd.val ⟨6, r.tx, r.attempt, 0, 0, ⟨#[]⟩, ⟨#[]⟩, 0, false⟩, .bool true])) := Lib.hid (rnE_mk (by simp [rnS, hk]) (by simp [rnC, hk]) (by simp [hk]))
  unfold Cmd.val at HE
  rw [← hsl, show ((sn + 1 : Nat) : Int) = (sn : Int) + 1 by omega] at HE
  clear M hs hl hsl
  generalize rnE ss l r = ne at *
  obtain ⟨tx, stamp, tries, attempt, asks, i, write, rs, fin, told, quit⟩ := r
  obtain ⟨wv, wh⟩ := write
  simp only at hk htx HE
  subst hk
  have hb0 := (HC.out w (Below.refl _ _))
  obtain ⟨t0, t1, t3, t4, t5, t6, t7, t8, t9, t11, t12, tg⟩ := hb0
  simp only at t0 t1 t5 t6 t7 t8 t9 t11 t12
  have N0 : Hid (Mem w [] (w.alloc (.cells (C9 0 0 0 0 0 ⟨#[]⟩ ⟨#[]⟩ 0 false) 38)) [BlockA w.heap.size (C9 0 0 0 0 0 ⟨#[]⟩ ⟨#[]⟩ 0 false) 38]) := Lib.hid ((Mem.nil w).block _ 38)
  have hne : ((sn : Int) + 1 == 0) = false := by rw [beq_eq_false_iff_ne]; omega
  go_enter Tryd.func15, Tryd.ntmps15
  go_upto_region 3 with (fail)
  clear t0 t1 t3 t4 t5 t6 t7 t8 t9 t11 t12 tg
  obtain ⟨t0, t1, t3, t4, t5, t6, t7, t8, t9, t11, t12, tg⟩ := HC.out _ N0.out.bel
  simp only at t0 t1 t5 t6 t7 t8 t9 t11 t12
  obtain ⟨W0, hW0⟩ : ∃ W0, W0 = w.alloc (.cells (C9 0 0 0 0 0 ⟨#[]⟩ ⟨#[]⟩ 0 false) 38) := ⟨_, rfl⟩
  have HZ0 : Hid (W0.heap.size = w.heap.size + 1) := Lib.hid (by rw [hW0]; simp)
  rw [← hW0] at t0 t1 t3 t4 t5 t6 t7 t8 t9 t11 t12 tg N0 ⊢
  clear hW0
  go_cut [5] from 14 to 26 (fun v5 wx => v5 = .pointer (some ⟨w.heap.size + 1, 0, none⟩) ∧ Hid (NX w (C9 6 tx attempt 0 0 ⟨#[]⟩ ⟨#[]⟩ 0 false) wx))
  case first =>
    have N1 : Hid (NX w (C9 6 tx attempt 0 0 ⟨#[]⟩ ⟨#[]⟩ 0 false) ((W0.drew).alloc (.cells (C9 6 tx attempt 0 0 ⟨#[]⟩ ⟨#[]⟩ 0 false) 38))) := Lib.hid (by
      have h := (N0.out.below (bel_drew _)).block (C9 6 tx attempt 0 0 ⟨#[]⟩ ⟨#[]⟩ 0 false) 38
      rw [show W0.drew.heap.size = w.heap.size + 1 from HZ0.out] at h
      exact h)
    have N2 : Hid (NX w (C9 6 tx attempt 0 0 ⟨#[]⟩ ⟨#[]⟩ 0 false) ((W0.alloc (.cells (C9 6 tx attempt 0 0 ⟨#[]⟩ ⟨#[]⟩ 0 false) 38)).drew)) := Lib.hid (by
      have h := (N0.out.block (C9 6 tx attempt 0 0 ⟨#[]⟩ ⟨#[]⟩ 0 false) 38).below (bel_drew _)
      rw [HZ0.out] at h
      exact h)
    go_region
    all_goals
      go_wp2_with fail
      go_meet
      case rel => exact ⟨by rw [← HZ0.out], by first | exact N1 | exact N2⟩
  case rest =>
  obtain ⟨rfl, N1⟩ := hcut
  clear t0 t1 t3 t4 t5 t6 t7 t8 t9 t11 t12 tg
  clear N0 HZ0
  obtain ⟨t0, t1, t3, t4, t5, t6, t7, t8, t9, t11, t12, tg⟩ := HC.out _ N1.out.bel
  simp only at t0 t1 t5 t6 t7 t8 t9 t11 t12
  clear tg
  go_wp2_with fail
  go_quiet (fail)
  have N2 := Lib.hid (N1.out.below (bel_drewN _ nq))
  generalize hW2 : wc.drewN nq = W2 at *
  clear hW2 N1 t0 t1 t3 t4 t5 t6 t7 t8 t9 t11 t12
  obtain ⟨t0, t1, t3, t4, t5, t6, t7, t8, t9, t11, t12, tg⟩ := HC.out _ N2.out.bel
  simp only at t0 t1 t5 t6 t7 t8 t9 t11 t12
  go_upto_if 42 with (fail)
  go_cut [] from 43 to 47 (fun wx => Hid (NX w (C9 6 tx attempt 0 0 ⟨#[]⟩ ⟨#[]⟩ 0 false) wx))
  case first =>
    have hh := N2.out.mine
    obtain ⟨u0, uf0⟩ := cell_of_heap (i := 0) (v := .int .i64 6) hh rfl
    obtain ⟨u1, uf1⟩ := cell_of_heap (i := 1) (v := .int .i64 tx) hh rfl
    obtain ⟨u2, uf2⟩ := cell_of_heap (i := 2) (v := .int .i64 attempt) hh rfl
    obtain ⟨u3, uf3⟩ := cell_of_heap (i := 3) (v := .int .i64 0) hh rfl
    obtain ⟨u4, uf4⟩ := cell_of_heap (i := 4) (v := .int .i64 0) hh rfl
    obtain ⟨u5, uf5⟩ := cell_of_heap (i := 5) (v := .string ⟨#[]⟩) hh rfl
    obtain ⟨u6, uf6⟩ := cell_of_heap (i := 6) (v := .string ⟨#[]⟩) hh rfl
    obtain ⟨u7, uf7⟩ := cell_of_heap (i := 7) (v := .int .i64 0) hh rfl
    obtain ⟨u8, uf8⟩ := cell_of_heap (i := 8) (v := .bool false) hh rfl
    clear hh
    go_wp2_with fail
    go_meet
    case rel => exact N2
  case rest =>
  have N3 := hcut
  clear hcut N2
  clear t0 t1 t3 t4 t5 t6 t7 t8 t9 t11 t12 tg
  obtain ⟨t0, t1, t3, t4, t5, t6, t7, t8, t9, t11, t12, tg⟩ := HC.out _ N3.out.bel
  simp only at t0 t1 t5 t6 t7 t8 t9 t11 t12
  go_upto_region 12 with (fail)
  clear t0 t1 t3 t4 t5 t6 t7 t8 t9 t11 t12 tg
  have hh := N3.out.mine
  obtain ⟨u0, uf0⟩ := cell_of_heap (i := 0) (v := .int .i64 6) hh rfl
  obtain ⟨u1, uf1⟩ := cell_of_heap (i := 1) (v := .int .i64 tx) hh rfl
  obtain ⟨u2, uf2⟩ := cell_of_heap (i := 2) (v := .int .i64 attempt) hh rfl
  obtain ⟨u3, uf3⟩ := cell_of_heap (i := 3) (v := .int .i64 0) hh rfl
  obtain ⟨u4, uf4⟩ := cell_of_heap (i := 4) (v := .int .i64 0) hh rfl
  obtain ⟨u5, uf5⟩ := cell_of_heap (i := 5) (v := .string ⟨#[]⟩) hh rfl
  obtain ⟨u6, uf6⟩ := cell_of_heap (i := 6) (v := .string ⟨#[]⟩) hh rfl
  obtain ⟨u7, uf7⟩ := cell_of_heap (i := 7) (v := .int .i64 0) hh rfl
  obtain ⟨u8, uf8⟩ := cell_of_heap (i := 8) (v := .bool false) hh rfl
  clear hh
  have hh := N3.out.res
  obtain ⟨z0, zf0⟩ := cell_of_heap (i := 0) (v := .int .i64 0) hh rfl
  obtain ⟨z1, zf1⟩ := cell_of_heap (i := 1) (v := .int .i64 0) hh rfl
  obtain ⟨z2, zf2⟩ := cell_of_heap (i := 2) (v := .int .i64 0) hh rfl
  obtain ⟨z3, zf3⟩ := cell_of_heap (i := 3) (v := .int .i64 0) hh rfl
  obtain ⟨z4, zf4⟩ := cell_of_heap (i := 4) (v := .int .i64 0) hh rfl
  obtain ⟨z5, zf5⟩ := cell_of_heap (i := 5) (v := .string ⟨#[]⟩) hh rfl
  obtain ⟨z6, zf6⟩ := cell_of_heap (i := 6) (v := .string ⟨#[]⟩) hh rfl
  obtain ⟨z7, zf7⟩ := cell_of_heap (i := 7) (v := .int .i64 0) hh rfl
  obtain ⟨z8, zf8⟩ := cell_of_heap (i := 8) (v := .bool false) hh rfl
  clear hh
  have HMF : Hid (∀ W, NX w (C9 6 tx attempt 0 0 ⟨#[]⟩ ⟨#[]⟩ 0 false) W → Mem w [] ((((((((((W.setCell ⟨w.heap.size, 0, none⟩ (.int .i64 6)).setCell ⟨w.heap.size, 1, none⟩ (.int .i64 tx)).setCell ⟨w.heap.size, 2, none⟩ (.int .i64 attempt)).setCell ⟨w.heap.size, 3, none⟩ (.int .i64 0)).setCell ⟨w.heap.size, 4, none⟩ (.int .i64 0)).setCell ⟨w.heap.size, 5, none⟩ (.string ⟨#[]⟩)).setCell ⟨w.heap.size, 6, none⟩ (.string ⟨#[]⟩)).setCell ⟨w.heap.size, 7, none⟩ (.int .i64 0)).setCell ⟨w.heap.size, 8, none⟩ (.bool false))) [BlockA (w.heap.size + 1) (C9 6 tx attempt 0 0 ⟨#[]⟩ ⟨#[]⟩ 0 false) 38, BlockA w.heap.size (C9 6 tx attempt 0 0 ⟨#[]⟩ ⟨#[]⟩ 0 false) 38]) := Lib.hid fun W h => Mem.set9 [BlockA (w.heap.size + 1) (C9 6 tx attempt 0 0 ⟨#[]⟩ ⟨#[]⟩ 0 false) 38] (r := []) h (.int .i64 6) (.int .i64 tx) (.int .i64 attempt) (.int .i64 0) (.int .i64 0) (.string ⟨#[]⟩) (.string ⟨#[]⟩) (.int .i64 0) (.bool false)
  have N9 := N3
  clear N3
  go_region
  all_goals
    go_wp2_with fail
    first
    | (
        obtain ⟨w9, hw9⟩ : ∃ w9, w9 = ((((((((((wc.setCell ⟨w.heap.size, 0, none⟩ (.int .i64 6)).setCell ⟨w.heap.size, 1, none⟩ (.int .i64 tx)).setCell ⟨w.heap.size, 2, none⟩ (.int .i64 attempt)).setCell ⟨w.heap.size, 3, none⟩ (.int .i64 0)).setCell ⟨w.heap.size, 4, none⟩ (.int .i64 0)).setCell ⟨w.heap.size, 5, none⟩ (.string ⟨#[]⟩)).setCell ⟨w.heap.size, 6, none⟩ (.string ⟨#[]⟩)).setCell ⟨w.heap.size, 7, none⟩ (.int .i64 0)).setCell ⟨w.heap.size, 8, none⟩ (.bool false))).drew := ⟨_, rfl⟩
        have hm : Mem w [] w9 [BlockA (w.heap.size + 1) (C9 6 tx attempt 0 0 ⟨#[]⟩ ⟨#[]⟩ 0 false) 38, BlockA w.heap.size (C9 6 tx attempt 0 0 ⟨#[]⟩ ⟨#[]⟩ 0 false) 38] := by rw [hw9]; exact Mem.below (HMF.out _ N9.out) (bel_drew _)
        rw [← hw9]
        clear hw9
        have hh := Mem.heapAt [BlockA (w.heap.size + 1) (C9 6 tx attempt 0 0 ⟨#[]⟩ ⟨#[]⟩ 0 false) 38] (r := []) hm
        have y0 := (cell_of_heap (i := 0) (v := .int .i64 6) hh rfl).1
        have y1 := (cell_of_heap (i := 1) (v := .int .i64 tx) hh rfl).1
        have y2 := (cell_of_heap (i := 2) (v := .int .i64 attempt) hh rfl).1
        have y3 := (cell_of_heap (i := 3) (v := .int .i64 0) hh rfl).1
        have y4 := (cell_of_heap (i := 4) (v := .int .i64 0) hh rfl).1
        have y5 := (cell_of_heap (i := 5) (v := .string ⟨#[]⟩) hh rfl).1
        have y6 := (cell_of_heap (i := 6) (v := .string ⟨#[]⟩) hh rfl).1
        have y7 := (cell_of_heap (i := 7) (v := .int .i64 0) hh rfl).1
        have y8 := (cell_of_heap (i := 8) (v := .bool false) hh rfl).1
        exact bodyPost_ret (v := .tuple #[.int .i64 (tx % ((sn : Int) + 1)), .agg #[.int .i64 6, .int .i64 tx, .int .i64 attempt, .int .i64 0, .int .i64 0, .string ⟨#[]⟩, .string ⟨#[]⟩, .int .i64 0, .bool false], .bool true]) (by simp [results, Tryd.results15, go_sem, y0, y1, y2, y3, y4, y5, y6, y7, y8]) rfl ⟨HE.out.symm, hm.bel⟩
      )
    | (
        obtain ⟨w9, hw9⟩ : ∃ w9, w9 = (((((((((wc.drew.setCell ⟨w.heap.size, 0, none⟩ (.int .i64 6)).setCell ⟨w.heap.size, 1, none⟩ (.int .i64 tx)).setCell ⟨w.heap.size, 2, none⟩ (.int .i64 attempt)).setCell ⟨w.heap.size, 3, none⟩ (.int .i64 0)).setCell ⟨w.heap.size, 4, none⟩ (.int .i64 0)).setCell ⟨w.heap.size, 5, none⟩ (.string ⟨#[]⟩)).setCell ⟨w.heap.size, 6, none⟩ (.string ⟨#[]⟩)).setCell ⟨w.heap.size, 7, none⟩ (.int .i64 0)).setCell ⟨w.heap.size, 8, none⟩ (.bool false)) := ⟨_, rfl⟩
        have hm : Mem w [] w9 [BlockA (w.heap.size + 1) (C9 6 tx attempt 0 0 ⟨#[]⟩ ⟨#[]⟩ 0 false) 38, BlockA w.heap.size (C9 6 tx attempt 0 0 ⟨#[]⟩ ⟨#[]⟩ 0 false) 38] := by rw [hw9]; exact HMF.out _ (N9.out.below (bel_drew _))
        rw [← hw9]
        clear hw9
        have hh := Mem.heapAt [BlockA (w.heap.size + 1) (C9 6 tx attempt 0 0 ⟨#[]⟩ ⟨#[]⟩ 0 false) 38] (r := []) hm
        have y0 := (cell_of_heap (i := 0) (v := .int .i64 6) hh rfl).1
        have y1 := (cell_of_heap (i := 1) (v := .int .i64 tx) hh rfl).1
        have y2 := (cell_of_heap (i := 2) (v := .int .i64 attempt) hh rfl).1
        have y3 := (cell_of_heap (i := 3) (v := .int .i64 0) hh rfl).1
        have y4 := (cell_of_heap (i := 4) (v := .int .i64 0) hh rfl).1
        have y5 := (cell_of_heap (i := 5) (v := .string ⟨#[]⟩) hh rfl).1
        have y6 := (cell_of_heap (i := 6) (v := .string ⟨#[]⟩) hh rfl).1
        have y7 := (cell_of_heap (i := 7) (v := .int .i64 0) hh rfl).1
        have y8 := (cell_of_heap (i := 8) (v := .bool false) hh rfl).1
        exact bodyPost_ret (v := .tuple #[.int .i64 (tx % ((sn : Int) + 1)), .agg #[.int .i64 6, .int .i64 tx, .int .i64 attempt, .int .i64 0, .int .i64 0, .string ⟨#[]⟩, .string ⟨#[]⟩, .int .i64 0, .bool false], .bool true]) (by simp [results, Tryd.results15, go_sem, y0, y1, y2, y3, y4, y5, y6, y7, y8]) rfl ⟨HE.out.symm, hm.bel⟩
      )
set_option maxRecDepth 100000 in
set_option maxHeartbeats 8000000 in
theorem rnext8 (M : Mem w0 [] w (RefA g (.slice sa sn sc) (.slice pa pn pc) r :: q)) (hs : StrsAt w0 sa sn ss) (hl : OpsAt w0 pa pn l) (h7 : sn ≤ 7) (hn : pn ≤ 1000) (htx : 0 ≤ r.tx) (hk : r.asks = 8) :
    Calls Tryd.prog 15 #[.pointer (some ⟨g, 0, none⟩)] w fun e w' => e = rnE ss l r ∧ Below w.heap.size w w' := by
  have HC : Hid (∀ W, Below w.heap.size w W → RdAt W g (.slice sa sn sc) (.slice pa pn pc) r) := Lib.hid fun W hb => Mem.rdAt (M.below hb)
  have HST : Hid (∀ W, Below w.heap.size w W → StrsAt W sa sn ss) := Lib.hid fun W hb => hs.keep (M.below hb).bel
  have HOP : Hid (∀ W, Below w.heap.size w W → OpsAt W pa pn l) := Lib.hid fun W hb => hl.below (M.below hb).bel
  have hsl : sn = ss.length := hs.1
  have HE : Hid (rnE ss l r = .returned (.tuple #[.int .i64 (r.tx % (ss.length + 1 : Nat)), Cmd.val ⟨8, r.tx, r.attempt, 0, 0, ⟨#[]⟩, ⟨#[]⟩, 0, false⟩, .bool true])) := Lib.hid (rnE_mk (by simp [rnS, hk]) (by simp [rnC, hk]) (by simp [hk]))
  unfold Cmd.val at HE
  rw [← hsl, show ((sn + 1 : Nat) : Int) = (sn : Int) + 1 by omega] at HE
  clear M hs hl hsl
  generalize rnE ss l r = ne at *
  obtain ⟨tx, stamp, tries, attempt, asks, i, write, rs, fin, told, quit⟩ := r
  obtain ⟨wv, wh⟩ := write
  simp only at hk htx HE
  subst hk
  have hb0 := (HC.out w (Below.refl _ _))
  obtain ⟨t0, t1, t3, t4, t5, t6, t7, t8, t9, t11, t12, tg⟩ := hb0
  simp only at t0 t1 t5 t6 t7 t8 t9 t11 t12
  have N0 : Hid (Mem w [] (w.alloc (.cells (C9 0 0 0 0 0 ⟨#[]⟩ ⟨#[]⟩ 0 false) 38)) [BlockA w.heap.size (C9 0 0 0 0 0 ⟨#[]⟩ ⟨#[]⟩ 0 false) 38]) := Lib.hid ((Mem.nil w).block _ 38)
  have hne : ((sn : Int) + 1 == 0) = false := by rw [beq_eq_false_iff_ne]; omega
  go_enter Tryd.func15, Tryd.ntmps15
  go_upto_region 3 with (fail)
  clear t0 t1 t3 t4 t5 t6 t7 t8 t9 t11 t12 tg
  obtain ⟨t0, t1, t3, t4, t5, t6, t7, t8, t9, t11, t12, tg⟩ := HC.out _ N0.out.bel
  simp only at t0 t1 t5 t6 t7 t8 t9 t11 t12
  obtain ⟨W0, hW0⟩ : ∃ W0, W0 = w.alloc (.cells (C9 0 0 0 0 0 ⟨#[]⟩ ⟨#[]⟩ 0 false) 38) := ⟨_, rfl⟩
  have HZ0 : Hid (W0.heap.size = w.heap.size + 1) := Lib.hid (by rw [hW0]; simp)
  rw [← hW0] at t0 t1 t3 t4 t5 t6 t7 t8 t9 t11 t12 tg N0 ⊢
  clear hW0
  go_cut [5] from 14 to 26 (fun v5 wx => v5 = .pointer (some ⟨w.heap.size + 1, 0, none⟩) ∧ Hid (NX w (C9 8 tx attempt 0 0 ⟨#[]⟩ ⟨#[]⟩ 0 false) wx))
  case first =>
    have N1 : Hid (NX w (C9 8 tx attempt 0 0 ⟨#[]⟩ ⟨#[]⟩ 0 false) ((W0.drew).alloc (.cells (C9 8 tx attempt 0 0 ⟨#[]⟩ ⟨#[]⟩ 0 false) 38))) := Lib.hid (by
      have h := (N0.out.below (bel_drew _)).block (C9 8 tx attempt 0 0 ⟨#[]⟩ ⟨#[]⟩ 0 false) 38
      rw [show W0.drew.heap.size = w.heap.size + 1 from HZ0.out] at h
      exact h)
    have N2 : Hid (NX w (C9 8 tx attempt 0 0 ⟨#[]⟩ ⟨#[]⟩ 0 false) ((W0.alloc (.cells (C9 8 tx attempt 0 0 ⟨#[]⟩ ⟨#[]⟩ 0 false) 38)).drew)) := Lib.hid (by
      have h := (N0.out.block (C9 8 tx attempt 0 0 ⟨#[]⟩ ⟨#[]⟩ 0 false) 38).below (bel_drew _)
      rw [HZ0.out] at h
      exact h)
    go_region
    all_goals
      go_wp2_with fail
      go_meet
      case rel => exact ⟨by rw [← HZ0.out], by first | exact N1 | exact N2⟩
  case rest =>
  obtain ⟨rfl, N1⟩ := hcut
  clear t0 t1 t3 t4 t5 t6 t7 t8 t9 t11 t12 tg
  clear N0 HZ0
  obtain ⟨t0, t1, t3, t4, t5, t6, t7, t8, t9, t11, t12, tg⟩ := HC.out _ N1.out.bel
  simp only at t0 t1 t5 t6 t7 t8 t9 t11 t12
  clear tg
  go_wp2_with fail
  go_quiet (fail)
  have N2 := Lib.hid (N1.out.below (bel_drewN _ nq))
  generalize hW2 : wc.drewN nq = W2 at *
  clear hW2 N1 t0 t1 t3 t4 t5 t6 t7 t8 t9 t11 t12
  obtain ⟨t0, t1, t3, t4, t5, t6, t7, t8, t9, t11, t12, tg⟩ := HC.out _ N2.out.bel
  simp only at t0 t1 t5 t6 t7 t8 t9 t11 t12
  go_upto_if 42 with (fail)
  go_cut [] from 43 to 47 (fun wx => Hid (NX w (C9 8 tx attempt 0 0 ⟨#[]⟩ ⟨#[]⟩ 0 false) wx))
  case first =>
    have hh := N2.out.mine
    obtain ⟨u0, uf0⟩ := cell_of_heap (i := 0) (v := .int .i64 8) hh rfl
    obtain ⟨u1, uf1⟩ := cell_of_heap (i := 1) (v := .int .i64 tx) hh rfl
    obtain ⟨u2, uf2⟩ := cell_of_heap (i := 2) (v := .int .i64 attempt) hh rfl
    obtain ⟨u3, uf3⟩ := cell_of_heap (i := 3) (v := .int .i64 0) hh rfl
    obtain ⟨u4, uf4⟩ := cell_of_heap (i := 4) (v := .int .i64 0) hh rfl
    obtain ⟨u5, uf5⟩ := cell_of_heap (i := 5) (v := .string ⟨#[]⟩) hh rfl
    obtain ⟨u6, uf6⟩ := cell_of_heap (i := 6) (v := .string ⟨#[]⟩) hh rfl
    obtain ⟨u7, uf7⟩ := cell_of_heap (i := 7) (v := .int .i64 0) hh rfl
    obtain ⟨u8, uf8⟩ := cell_of_heap (i := 8) (v := .bool false) hh rfl
    clear hh
    go_wp2_with fail
    go_meet
    case rel => exact N2
  case rest =>
  have N3 := hcut
  clear hcut N2
  clear t0 t1 t3 t4 t5 t6 t7 t8 t9 t11 t12 tg
  obtain ⟨t0, t1, t3, t4, t5, t6, t7, t8, t9, t11, t12, tg⟩ := HC.out _ N3.out.bel
  simp only at t0 t1 t5 t6 t7 t8 t9 t11 t12
  go_upto_region 12 with (fail)
  clear t0 t1 t3 t4 t5 t6 t7 t8 t9 t11 t12 tg
  have hh := N3.out.mine
  obtain ⟨u0, uf0⟩ := cell_of_heap (i := 0) (v := .int .i64 8) hh rfl
  obtain ⟨u1, uf1⟩ := cell_of_heap (i := 1) (v := .int .i64 tx) hh rfl
  obtain ⟨u2, uf2⟩ := cell_of_heap (i := 2) (v := .int .i64 attempt) hh rfl
  obtain ⟨u3, uf3⟩ := cell_of_heap (i := 3) (v := .int .i64 0) hh rfl
  obtain ⟨u4, uf4⟩ := cell_of_heap (i := 4) (v := .int .i64 0) hh rfl
  obtain ⟨u5, uf5⟩ := cell_of_heap (i := 5) (v := .string ⟨#[]⟩) hh rfl
  obtain ⟨u6, uf6⟩ := cell_of_heap (i := 6) (v := .string ⟨#[]⟩) hh rfl
  obtain ⟨u7, uf7⟩ := cell_of_heap (i := 7) (v := .int .i64 0) hh rfl
  obtain ⟨u8, uf8⟩ := cell_of_heap (i := 8) (v := .bool false) hh rfl
  clear hh
  have hh := N3.out.res
  obtain ⟨z0, zf0⟩ := cell_of_heap (i := 0) (v := .int .i64 0) hh rfl
  obtain ⟨z1, zf1⟩ := cell_of_heap (i := 1) (v := .int .i64 0) hh rfl
  obtain ⟨z2, zf2⟩ := cell_of_heap (i := 2) (v := .int .i64 0) hh rfl
  obtain ⟨z3, zf3⟩ := cell_of_heap (i := 3) (v := .int .i64 0) hh rfl
  obtain ⟨z4, zf4⟩ := cell_of_heap (i := 4) (v := .int .i64 0) hh rfl
  obtain ⟨z5, zf5⟩ := cell_of_heap (i := 5) (v := .string ⟨#[]⟩) hh rfl
  obtain ⟨z6, zf6⟩ := cell_of_heap (i := 6) (v := .string ⟨#[]⟩) hh rfl
  obtain ⟨z7, zf7⟩ := cell_of_heap (i := 7) (v := .int .i64 0) hh rfl
  obtain ⟨z8, zf8⟩ := cell_of_heap (i := 8) (v := .bool false) hh rfl
  clear hh
  have HMF : Hid (∀ W, NX w (C9 8 tx attempt 0 0 ⟨#[]⟩ ⟨#[]⟩ 0 false) W → Mem w [] ((((((((((W.setCell ⟨w.heap.size, 0, none⟩ (.int .i64 8)).setCell ⟨w.heap.size, 1, none⟩ (.int .i64 tx)).setCell ⟨w.heap.size, 2, none⟩ (.int .i64 attempt)).setCell ⟨w.heap.size, 3, none⟩ (.int .i64 0)).setCell ⟨w.heap.size, 4, none⟩ (.int .i64 0)).setCell ⟨w.heap.size, 5, none⟩ (.string ⟨#[]⟩)).setCell ⟨w.heap.size, 6, none⟩ (.string ⟨#[]⟩)).setCell ⟨w.heap.size, 7, none⟩ (.int .i64 0)).setCell ⟨w.heap.size, 8, none⟩ (.bool false))) [BlockA (w.heap.size + 1) (C9 8 tx attempt 0 0 ⟨#[]⟩ ⟨#[]⟩ 0 false) 38, BlockA w.heap.size (C9 8 tx attempt 0 0 ⟨#[]⟩ ⟨#[]⟩ 0 false) 38]) := Lib.hid fun W h => Mem.set9 [BlockA (w.heap.size + 1) (C9 8 tx attempt 0 0 ⟨#[]⟩ ⟨#[]⟩ 0 false) 38] (r := []) h (.int .i64 8) (.int .i64 tx) (.int .i64 attempt) (.int .i64 0) (.int .i64 0) (.string ⟨#[]⟩) (.string ⟨#[]⟩) (.int .i64 0) (.bool false)
  have N9 := N3
  clear N3
  go_region
  all_goals
    go_wp2_with fail
    first
    | (
        obtain ⟨w9, hw9⟩ : ∃ w9, w9 = ((((((((((wc.setCell ⟨w.heap.size, 0, none⟩ (.int .i64 8)).setCell ⟨w.heap.size, 1, none⟩ (.int .i64 tx)).setCell ⟨w.heap.size, 2, none⟩ (.int .i64 attempt)).setCell ⟨w.heap.size, 3, none⟩ (.int .i64 0)).setCell ⟨w.heap.size, 4, none⟩ (.int .i64 0)).setCell ⟨w.heap.size, 5, none⟩ (.string ⟨#[]⟩)).setCell ⟨w.heap.size, 6, none⟩ (.string ⟨#[]⟩)).setCell ⟨w.heap.size, 7, none⟩ (.int .i64 0)).setCell ⟨w.heap.size, 8, none⟩ (.bool false))).drew := ⟨_, rfl⟩
        have hm : Mem w [] w9 [BlockA (w.heap.size + 1) (C9 8 tx attempt 0 0 ⟨#[]⟩ ⟨#[]⟩ 0 false) 38, BlockA w.heap.size (C9 8 tx attempt 0 0 ⟨#[]⟩ ⟨#[]⟩ 0 false) 38] := by rw [hw9]; exact Mem.below (HMF.out _ N9.out) (bel_drew _)
        rw [← hw9]
        clear hw9
        have hh := Mem.heapAt [BlockA (w.heap.size + 1) (C9 8 tx attempt 0 0 ⟨#[]⟩ ⟨#[]⟩ 0 false) 38] (r := []) hm
        have y0 := (cell_of_heap (i := 0) (v := .int .i64 8) hh rfl).1
        have y1 := (cell_of_heap (i := 1) (v := .int .i64 tx) hh rfl).1
        have y2 := (cell_of_heap (i := 2) (v := .int .i64 attempt) hh rfl).1
        have y3 := (cell_of_heap (i := 3) (v := .int .i64 0) hh rfl).1
        have y4 := (cell_of_heap (i := 4) (v := .int .i64 0) hh rfl).1
        have y5 := (cell_of_heap (i := 5) (v := .string ⟨#[]⟩) hh rfl).1
        have y6 := (cell_of_heap (i := 6) (v := .string ⟨#[]⟩) hh rfl).1
        have y7 := (cell_of_heap (i := 7) (v := .int .i64 0) hh rfl).1
        have y8 := (cell_of_heap (i := 8) (v := .bool false) hh rfl).1
        exact bodyPost_ret (v := .tuple #[.int .i64 (tx % ((sn : Int) + 1)), .agg #[.int .i64 8, .int .i64 tx, .int .i64 attempt, .int .i64 0, .int .i64 0, .string ⟨#[]⟩, .string ⟨#[]⟩, .int .i64 0, .bool false], .bool true]) (by simp [results, Tryd.results15, go_sem, y0, y1, y2, y3, y4, y5, y6, y7, y8]) rfl ⟨HE.out.symm, hm.bel⟩
      )
    | (
        obtain ⟨w9, hw9⟩ : ∃ w9, w9 = (((((((((wc.drew.setCell ⟨w.heap.size, 0, none⟩ (.int .i64 8)).setCell ⟨w.heap.size, 1, none⟩ (.int .i64 tx)).setCell ⟨w.heap.size, 2, none⟩ (.int .i64 attempt)).setCell ⟨w.heap.size, 3, none⟩ (.int .i64 0)).setCell ⟨w.heap.size, 4, none⟩ (.int .i64 0)).setCell ⟨w.heap.size, 5, none⟩ (.string ⟨#[]⟩)).setCell ⟨w.heap.size, 6, none⟩ (.string ⟨#[]⟩)).setCell ⟨w.heap.size, 7, none⟩ (.int .i64 0)).setCell ⟨w.heap.size, 8, none⟩ (.bool false)) := ⟨_, rfl⟩
        have hm : Mem w [] w9 [BlockA (w.heap.size + 1) (C9 8 tx attempt 0 0 ⟨#[]⟩ ⟨#[]⟩ 0 false) 38, BlockA w.heap.size (C9 8 tx attempt 0 0 ⟨#[]⟩ ⟨#[]⟩ 0 false) 38] := by rw [hw9]; exact HMF.out _ (N9.out.below (bel_drew _))
        rw [← hw9]
        clear hw9
        have hh := Mem.heapAt [BlockA (w.heap.size + 1) (C9 8 tx attempt 0 0 ⟨#[]⟩ ⟨#[]⟩ 0 false) 38] (r := []) hm
        have y0 := (cell_of_heap (i := 0) (v := .int .i64 8) hh rfl).1
        have y1 := (cell_of_heap (i := 1) (v := .int .i64 tx) hh rfl).1
        have y2 := (cell_of_heap (i := 2) (v := .int .i64 attempt) hh rfl).1
        have y3 := (cell_of_heap (i := 3) (v := .int .i64 0) hh rfl).1
        have y4 := (cell_of_heap (i := 4) (v := .int .i64 0) hh rfl).1
        have y5 := (cell_of_heap (i := 5) (v := .string ⟨#[]⟩) hh rfl).1
        have y6 := (cell_of_heap (i := 6) (v := .string ⟨#[]⟩) hh rfl).1
        have y7 := (cell_of_heap (i := 7) (v := .int .i64 0) hh rfl).1
        have y8 := (cell_of_heap (i := 8) (v := .bool false) hh rfl).1
        exact bodyPost_ret (v := .tuple #[.int .i64 (tx % ((sn : Int) + 1)), .agg #[.int .i64 8, .int .i64 tx, .int .i64 attempt, .int .i64 0, .int .i64 0, .string ⟨#[]⟩, .string ⟨#[]⟩, .int .i64 0, .bool false], .bool true]) (by simp [results, Tryd.results15, go_sem, y0, y1, y2, y3, y4, y5, y6, y7, y8]) rfl ⟨HE.out.symm, hm.bel⟩
      )
set_option maxRecDepth 100000 in
set_option maxHeartbeats 8000000 in
theorem rnext7 (M : Mem w0 [] w (RefA g (.slice sa sn sc) (.slice pa pn pc) r :: q)) (hs : StrsAt w0 sa sn ss) (hl : OpsAt w0 pa pn l) (h7 : sn ≤ 7) (hn : pn ≤ 1000) (htx : 0 ≤ r.tx) (hk : r.asks = 7) (hto : 0 ≤ r.told) (htl0 : r.told < (touchR ss l r.i).length) :
    Calls Tryd.prog 15 #[.pointer (some ⟨g, 0, none⟩)] w fun e w' => e = rnE ss l r ∧ Below w.heap.size w w' := by
  have HC : Hid (∀ W, Below w.heap.size w W → RdAt W g (.slice sa sn sc) (.slice pa pn pc) r) := Lib.hid fun W hb => Mem.rdAt (M.below hb)
  have HST : Hid (∀ W, Below w.heap.size w W → StrsAt W sa sn ss) := Lib.hid fun W hb => hs.keep (M.below hb).bel
  have HOP : Hid (∀ W, Below w.heap.size w W → OpsAt W pa pn l) := Lib.hid fun W hb => hl.below (M.below hb).bel
  have hsl : sn = ss.length := hs.1
  obtain ⟨tk, htk⟩ : ∃ tk : Nat, r.told = (tk : Int) := ⟨r.told.toNat, by omega⟩
  have htl : tk < (touchR ss l r.i).length := by omega
  have HE : Hid (rnE ss l r = .returned (.tuple #[.int .i64 (touchR ss l r.i)[tk], Cmd.val ⟨7, r.tx, r.attempt, 0, (touchR ss l r.i)[tk], ⟨#[]⟩, ⟨#[]⟩, 0, r.fin == 2⟩, .bool true])) := Lib.hid (by
    have e : (touchR ss l r.i).getD r.told.toNat 0 = (touchR ss l r.i)[tk] := by rw [htk]; simp [List.getD, htl]
    exact rnE_mk (by unfold rnS; rw [if_neg (by omega), if_pos hk, e]) (by unfold rnC; rw [if_neg (by omega), if_pos hk, e]) (by simp [hk]))
  unfold Cmd.val at HE
  have HX : Hid (∀ W, Below w.heap.size w W → Calls Tryd.prog 34 #[.pointer (some ⟨g, 0, none⟩)] W fun e w' => ∃ gb d, e = .returned (.slice (some ⟨gb, 0, none⟩) (touchR ss l r.i).length d) ∧ Below W.heap.size W w' ∧ w'.cell? ⟨gb, tk, none⟩ = some (.int .i64 (touchR ss l r.i)[tk])) := Lib.hid fun W hb => (rtouched_any (M.below hb) hs hl h7 hn).mono fun e w' ⟨v, he, b, d, hv, hr, hb', _⟩ => by
    obtain ⟨gb, rfl, hcb⟩ := hr.cellAt tk (by simpa [intsV] using htl)
    rw [show (intsV (touchR ss l r.i))[tk]'(by simpa [intsV] using htl) = .int .i64 (touchR ss l r.i)[tk] by simp [intsV]] at hcb
    exact ⟨gb, d, by rw [he, hv], hb', hcb⟩
  generalize (touchR ss l r.i)[tk] = x at *
  generalize (touchR ss l r.i).length = tn at *
  clear M hs hl hsl
  generalize rnE ss l r = ne at *
  obtain ⟨tx, stamp, tries, attempt, asks, i, write, rs, fin, told, quit⟩ := r
  obtain ⟨wv, wh⟩ := write
  simp only at hk htx HE htk
  subst hk
  subst htk
  have hb0 := (HC.out w (Below.refl _ _))
  obtain ⟨t0, t1, t3, t4, t5, t6, t7, t8, t9, t11, t12, tg⟩ := hb0
  simp only at t0 t1 t5 t6 t7 t8 t9 t11 t12
  have N0 : Hid (Mem w [] (w.alloc (.cells (C9 0 0 0 0 0 ⟨#[]⟩ ⟨#[]⟩ 0 false) 38)) [BlockA w.heap.size (C9 0 0 0 0 0 ⟨#[]⟩ ⟨#[]⟩ 0 false) 38]) := Lib.hid ((Mem.nil w).block _ 38)
  have hne : ((sn : Int) + 1 == 0) = false := by rw [beq_eq_false_iff_ne]; omega
  go_enter Tryd.func15, Tryd.ntmps15
  go_upto_region 3 with (fail)
  clear t0 t1 t3 t4 t5 t6 t7 t8 t9 t11 t12 tg
  obtain ⟨t0, t1, t3, t4, t5, t6, t7, t8, t9, t11, t12, tg⟩ := HC.out _ N0.out.bel
  simp only at t0 t1 t5 t6 t7 t8 t9 t11 t12
  obtain ⟨W0, hW0⟩ : ∃ W0, W0 = w.alloc (.cells (C9 0 0 0 0 0 ⟨#[]⟩ ⟨#[]⟩ 0 false) 38) := ⟨_, rfl⟩
  have HZ0 : Hid (W0.heap.size = w.heap.size + 1) := Lib.hid (by rw [hW0]; simp)
  rw [← hW0] at t0 t1 t3 t4 t5 t6 t7 t8 t9 t11 t12 tg N0 ⊢
  clear hW0
  go_cut [5] from 14 to 26 (fun v5 wx => v5 = .pointer (some ⟨w.heap.size + 1, 0, none⟩) ∧ Hid (NX w (C9 7 tx attempt 0 0 ⟨#[]⟩ ⟨#[]⟩ 0 false) wx))
  case first =>
    have N1 : Hid (NX w (C9 7 tx attempt 0 0 ⟨#[]⟩ ⟨#[]⟩ 0 false) ((W0.drew).alloc (.cells (C9 7 tx attempt 0 0 ⟨#[]⟩ ⟨#[]⟩ 0 false) 38))) := Lib.hid (by
      have h := (N0.out.below (bel_drew _)).block (C9 7 tx attempt 0 0 ⟨#[]⟩ ⟨#[]⟩ 0 false) 38
      rw [show W0.drew.heap.size = w.heap.size + 1 from HZ0.out] at h
      exact h)
    have N2 : Hid (NX w (C9 7 tx attempt 0 0 ⟨#[]⟩ ⟨#[]⟩ 0 false) ((W0.alloc (.cells (C9 7 tx attempt 0 0 ⟨#[]⟩ ⟨#[]⟩ 0 false) 38)).drew)) := Lib.hid (by
      have h := (N0.out.block (C9 7 tx attempt 0 0 ⟨#[]⟩ ⟨#[]⟩ 0 false) 38).below (bel_drew _)
      rw [HZ0.out] at h
      exact h)
    go_region
    all_goals
      go_wp2_with fail
      go_meet
      case rel => exact ⟨by rw [← HZ0.out], by first | exact N1 | exact N2⟩
  case rest =>
  obtain ⟨rfl, N1⟩ := hcut
  clear t0 t1 t3 t4 t5 t6 t7 t8 t9 t11 t12 tg
  clear N0 HZ0
  obtain ⟨t0, t1, t3, t4, t5, t6, t7, t8, t9, t11, t12, tg⟩ := HC.out _ N1.out.bel
  simp only at t0 t1 t5 t6 t7 t8 t9 t11 t12
  clear tg
  go_wp2_with fail
  go_quiet (fail)
  have N2 := Lib.hid (N1.out.below (bel_drewN _ nq))
  generalize hW2 : wc.drewN nq = W2 at *
  clear hW2 N1 t0 t1 t3 t4 t5 t6 t7 t8 t9 t11 t12
  obtain ⟨t0, t1, t3, t4, t5, t6, t7, t8, t9, t11, t12, tg⟩ := HC.out _ N2.out.bel
  simp only at t0 t1 t5 t6 t7 t8 t9 t11 t12
  have hh := N2.out.mine
  obtain ⟨u0, uf0⟩ := cell_of_heap (i := 0) (v := .int .i64 7) hh rfl
  obtain ⟨u1, uf1⟩ := cell_of_heap (i := 1) (v := .int .i64 tx) hh rfl
  obtain ⟨u2, uf2⟩ := cell_of_heap (i := 2) (v := .int .i64 attempt) hh rfl
  obtain ⟨u3, uf3⟩ := cell_of_heap (i := 3) (v := .int .i64 0) hh rfl
  obtain ⟨u4, uf4⟩ := cell_of_heap (i := 4) (v := .int .i64 0) hh rfl
  obtain ⟨u5, uf5⟩ := cell_of_heap (i := 5) (v := .string ⟨#[]⟩) hh rfl
  obtain ⟨u6, uf6⟩ := cell_of_heap (i := 6) (v := .string ⟨#[]⟩) hh rfl
  obtain ⟨u7, uf7⟩ := cell_of_heap (i := 7) (v := .int .i64 0) hh rfl
  obtain ⟨u8, uf8⟩ := cell_of_heap (i := 8) (v := .bool false) hh rfl
  clear hh
  go_upto_region 9 with (fail)
  have N3 : Hid (NX w (C9 7 tx attempt 0 0 ⟨#[]⟩ ⟨#[]⟩ 0 (fin == 2)) (W2.setCell ⟨w.heap.size + 1, 8, none⟩ (.bool (fin == 2)))) := Lib.hid (N2.out.set 8 (.bool (fin == 2)))
  generalize W2.setCell ⟨w.heap.size + 1, 8, none⟩ (.bool (fin == 2)) = W3 at *
  clear t0 t1 t3 t4 t5 t6 t7 t8 t9 t11 t12 tg
  clear N2 u0 u1 u2 u3 u4 u5 u6 u7 u8 uf0 uf1 uf2 uf3 uf4 uf5 uf6 uf7 uf8
  obtain ⟨t0, t1, t3, t4, t5, t6, t7, t8, t9, t11, t12, tg⟩ := HC.out _ N3.out.bel
  simp only at t0 t1 t5 t6 t7 t8 t9 t11 t12
  go_cut [] from 59 to 67 (fun wx => Hid (NX w (C9 7 tx attempt 0 x ⟨#[]⟩ ⟨#[]⟩ 0 (fin == 2)) wx))
  case first =>
    have KS : Hid (∀ W, Below W3.heap.size W3 W → (Below W3.heap.size W3 W ∧ W.cell? ⟨g, 12, none⟩ = some (.int .i64 tk)) ∧ (W.cell? ⟨w.heap.size + 1, 4, none⟩ = some (.int .i64 0) ∧ W.frozen? ⟨w.heap.size + 1, 4, none⟩ = false)) := Lib.hid fun W hb => ⟨⟨hb, ((bcell hb).1 g 12 tg).trans t12⟩, cell_of_heap (N3.out.below hb).mine rfl⟩
    have HT : Hid (∀ W, Below W3.heap.size W3 W → Calls Tryd.prog 34 #[.pointer (some ⟨g, 0, none⟩)] W fun e w' => ∃ gb d, e = .returned (.slice (some ⟨gb, 0, none⟩) tn d) ∧ Below W3.heap.size W3 w' ∧ w'.cell? ⟨gb, tk, none⟩ = some (.int .i64 x)) := Lib.hid fun W hb => (HX.out W (N3.out.bel.trans (hb.mono N3.out.bel.size))).mono fun e w' ⟨gb, d, he, hb', hc⟩ => ⟨gb, d, he, hb.trans (hb'.mono hb.size), hc⟩
    have m0 := below_drew (Below.refl W3.heap.size W3)
    obtain ⟨hq0, hq1, hq2⟩ := KS.out W3 (Below.refl _ _)
    clear HC HST HOP HE
    go_region_with (go_at_call 34; refine (HT.out _ m0).mono ?_; rintro e w5 ⟨gb, d5, rfl, m5, hx5⟩; obtain ⟨⟨-, q12⟩, hc5, hf5⟩ := KS.out _ m5)
    all_goals
      have N5 := Lib.hid ((N3.out.below m5).set 4 (.int .i64 x))
      clear N3 HT KS m0
      go_wp2_with fail
      go_meet
      case rel => exact N5
  case rest =>
  have N4 := hcut
  clear hcut N3 HX HC HST HOP
  clear t0 t1 t3 t4 t5 t6 t7 t8 t9 t11 t12 tg
  go_upto_region 10 with (fail)
  have hh := N4.out.mine
  obtain ⟨u0, uf0⟩ := cell_of_heap (i := 0) (v := .int .i64 7) hh rfl
  obtain ⟨u1, uf1⟩ := cell_of_heap (i := 1) (v := .int .i64 tx) hh rfl
  obtain ⟨u2, uf2⟩ := cell_of_heap (i := 2) (v := .int .i64 attempt) hh rfl
  obtain ⟨u3, uf3⟩ := cell_of_heap (i := 3) (v := .int .i64 0) hh rfl
  obtain ⟨u4, uf4⟩ := cell_of_heap (i := 4) (v := .int .i64 x) hh rfl
  obtain ⟨u5, uf5⟩ := cell_of_heap (i := 5) (v := .string ⟨#[]⟩) hh rfl
  obtain ⟨u6, uf6⟩ := cell_of_heap (i := 6) (v := .string ⟨#[]⟩) hh rfl
  obtain ⟨u7, uf7⟩ := cell_of_heap (i := 7) (v := .int .i64 0) hh rfl
  obtain ⟨u8, uf8⟩ := cell_of_heap (i := 8) (v := .bool (fin == 2)) hh rfl
  clear hh
  have hh := N4.out.res
  obtain ⟨z0, zf0⟩ := cell_of_heap (i := 0) (v := .int .i64 0) hh rfl
  obtain ⟨z1, zf1⟩ := cell_of_heap (i := 1) (v := .int .i64 0) hh rfl
  obtain ⟨z2, zf2⟩ := cell_of_heap (i := 2) (v := .int .i64 0) hh rfl
  obtain ⟨z3, zf3⟩ := cell_of_heap (i := 3) (v := .int .i64 0) hh rfl
  obtain ⟨z4, zf4⟩ := cell_of_heap (i := 4) (v := .int .i64 0) hh rfl
  obtain ⟨z5, zf5⟩ := cell_of_heap (i := 5) (v := .string ⟨#[]⟩) hh rfl
  obtain ⟨z6, zf6⟩ := cell_of_heap (i := 6) (v := .string ⟨#[]⟩) hh rfl
  obtain ⟨z7, zf7⟩ := cell_of_heap (i := 7) (v := .int .i64 0) hh rfl
  obtain ⟨z8, zf8⟩ := cell_of_heap (i := 8) (v := .bool false) hh rfl
  clear hh
  have HMF : Hid (∀ W, NX w (C9 7 tx attempt 0 x ⟨#[]⟩ ⟨#[]⟩ 0 (fin == 2)) W → Mem w [] ((((((((((W.setCell ⟨w.heap.size, 0, none⟩ (.int .i64 7)).setCell ⟨w.heap.size, 1, none⟩ (.int .i64 tx)).setCell ⟨w.heap.size, 2, none⟩ (.int .i64 attempt)).setCell ⟨w.heap.size, 3, none⟩ (.int .i64 0)).setCell ⟨w.heap.size, 4, none⟩ (.int .i64 x)).setCell ⟨w.heap.size, 5, none⟩ (.string ⟨#[]⟩)).setCell ⟨w.heap.size, 6, none⟩ (.string ⟨#[]⟩)).setCell ⟨w.heap.size, 7, none⟩ (.int .i64 0)).setCell ⟨w.heap.size, 8, none⟩ (.bool (fin == 2)))) [BlockA (w.heap.size + 1) (C9 7 tx attempt 0 x ⟨#[]⟩ ⟨#[]⟩ 0 (fin == 2)) 38, BlockA w.heap.size (C9 7 tx attempt 0 x ⟨#[]⟩ ⟨#[]⟩ 0 (fin == 2)) 38]) := Lib.hid fun W h => Mem.set9 [BlockA (w.heap.size + 1) (C9 7 tx attempt 0 x ⟨#[]⟩ ⟨#[]⟩ 0 (fin == 2)) 38] (r := []) h (.int .i64 7) (.int .i64 tx) (.int .i64 attempt) (.int .i64 0) (.int .i64 x) (.string ⟨#[]⟩) (.string ⟨#[]⟩) (.int .i64 0) (.bool (fin == 2))
  have N9 := N4
  clear N4
  go_region
  all_goals
    go_wp2_with fail
    first
    | (
        obtain ⟨w9, hw9⟩ : ∃ w9, w9 = ((((((((((wc.setCell ⟨w.heap.size, 0, none⟩ (.int .i64 7)).setCell ⟨w.heap.size, 1, none⟩ (.int .i64 tx)).setCell ⟨w.heap.size, 2, none⟩ (.int .i64 attempt)).setCell ⟨w.heap.size, 3, none⟩ (.int .i64 0)).setCell ⟨w.heap.size, 4, none⟩ (.int .i64 x)).setCell ⟨w.heap.size, 5, none⟩ (.string ⟨#[]⟩)).setCell ⟨w.heap.size, 6, none⟩ (.string ⟨#[]⟩)).setCell ⟨w.heap.size, 7, none⟩ (.int .i64 0)).setCell ⟨w.heap.size, 8, none⟩ (.bool (fin == 2)))).drew := ⟨_, rfl⟩
        have hm : Mem w [] w9 [BlockA (w.heap.size + 1) (C9 7 tx attempt 0 x ⟨#[]⟩ ⟨#[]⟩ 0 (fin == 2)) 38, BlockA w.heap.size (C9 7 tx attempt 0 x ⟨#[]⟩ ⟨#[]⟩ 0 (fin == 2)) 38] := by rw [hw9]; exact Mem.below (HMF.out _ N9.out) (bel_drew _)
        rw [← hw9]
        clear hw9
        have hh := Mem.heapAt [BlockA (w.heap.size + 1) (C9 7 tx attempt 0 x ⟨#[]⟩ ⟨#[]⟩ 0 (fin == 2)) 38] (r := []) hm
        have y0 := (cell_of_heap (i := 0) (v := .int .i64 7) hh rfl).1
        have y1 := (cell_of_heap (i := 1) (v := .int .i64 tx) hh rfl).1
        have y2 := (cell_of_heap (i := 2) (v := .int .i64 attempt) hh rfl).1
        have y3 := (cell_of_heap (i := 3) (v := .int .i64 0) hh rfl).1
        have y4 := (cell_of_heap (i := 4) (v := .int .i64 x) hh rfl).1
        have y5 := (cell_of_heap (i := 5) (v := .string ⟨#[]⟩) hh rfl).1
        have y6 := (cell_of_heap (i := 6) (v := .string ⟨#[]⟩) hh rfl).1
        have y7 := (cell_of_heap (i := 7) (v := .int .i64 0) hh rfl).1
        have y8 := (cell_of_heap (i := 8) (v := .bool (fin == 2)) hh rfl).1
        exact bodyPost_ret (v := .tuple #[.int .i64 x, .agg #[.int .i64 7, .int .i64 tx, .int .i64 attempt, .int .i64 0, .int .i64 x, .string ⟨#[]⟩, .string ⟨#[]⟩, .int .i64 0, .bool (fin == 2)], .bool true]) (by simp [results, Tryd.results15, go_sem, y0, y1, y2, y3, y4, y5, y6, y7, y8]) rfl ⟨HE.out.symm, hm.bel⟩
      )
    | (
        obtain ⟨w9, hw9⟩ : ∃ w9, w9 = (((((((((wc.drew.setCell ⟨w.heap.size, 0, none⟩ (.int .i64 7)).setCell ⟨w.heap.size, 1, none⟩ (.int .i64 tx)).setCell ⟨w.heap.size, 2, none⟩ (.int .i64 attempt)).setCell ⟨w.heap.size, 3, none⟩ (.int .i64 0)).setCell ⟨w.heap.size, 4, none⟩ (.int .i64 x)).setCell ⟨w.heap.size, 5, none⟩ (.string ⟨#[]⟩)).setCell ⟨w.heap.size, 6, none⟩ (.string ⟨#[]⟩)).setCell ⟨w.heap.size, 7, none⟩ (.int .i64 0)).setCell ⟨w.heap.size, 8, none⟩ (.bool (fin == 2))) := ⟨_, rfl⟩
        have hm : Mem w [] w9 [BlockA (w.heap.size + 1) (C9 7 tx attempt 0 x ⟨#[]⟩ ⟨#[]⟩ 0 (fin == 2)) 38, BlockA w.heap.size (C9 7 tx attempt 0 x ⟨#[]⟩ ⟨#[]⟩ 0 (fin == 2)) 38] := by rw [hw9]; exact HMF.out _ (N9.out.below (bel_drew _))
        rw [← hw9]
        clear hw9
        have hh := Mem.heapAt [BlockA (w.heap.size + 1) (C9 7 tx attempt 0 x ⟨#[]⟩ ⟨#[]⟩ 0 (fin == 2)) 38] (r := []) hm
        have y0 := (cell_of_heap (i := 0) (v := .int .i64 7) hh rfl).1
        have y1 := (cell_of_heap (i := 1) (v := .int .i64 tx) hh rfl).1
        have y2 := (cell_of_heap (i := 2) (v := .int .i64 attempt) hh rfl).1
        have y3 := (cell_of_heap (i := 3) (v := .int .i64 0) hh rfl).1
        have y4 := (cell_of_heap (i := 4) (v := .int .i64 x) hh rfl).1
        have y5 := (cell_of_heap (i := 5) (v := .string ⟨#[]⟩) hh rfl).1
        have y6 := (cell_of_heap (i := 6) (v := .string ⟨#[]⟩) hh rfl).1
        have y7 := (cell_of_heap (i := 7) (v := .int .i64 0) hh rfl).1
        have y8 := (cell_of_heap (i := 8) (v := .bool (fin == 2)) hh rfl).1
        exact bodyPost_ret (v := .tuple #[.int .i64 x, .agg #[.int .i64 7, .int .i64 tx, .int .i64 attempt, .int .i64 0, .int .i64 x, .string ⟨#[]⟩, .string ⟨#[]⟩, .int .i64 0, .bool (fin == 2)], .bool true]) (by simp [results, Tryd.results15, go_sem, y0, y1, y2, y3, y4, y5, y6, y7, y8]) rfl ⟨HE.out.symm, hm.bel⟩
      )
set_option maxRecDepth 100000 in
set_option maxHeartbeats 8000000 in
theorem rnext2 (M : Mem w0 [] w (RefA g (.slice sa sn sc) (.slice pa pn pc) r :: q)) (hs : StrsAt w0 sa sn ss) (hl : OpsAt w0 pa pn l) (h7 : sn ≤ 7) (hn : pn ≤ 1000) (htx : 0 ≤ r.tx) (hk : r.asks = 2) (hi0 : 0 ≤ r.i) (hil : r.i < l.length) :
    Calls Tryd.prog 15 #[.pointer (some ⟨g, 0, none⟩)] w fun e w' => e = rnE ss l r ∧ Below w.heap.size w w' := by
  have HC : Hid (∀ W, Below w.heap.size w W → RdAt W g (.slice sa sn sc) (.slice pa pn pc) r) := Lib.hid fun W hb => Mem.rdAt (M.below hb)
  have HST : Hid (∀ W, Below w.heap.size w W → StrsAt W sa sn ss) := Lib.hid fun W hb => hs.keep (M.below hb).bel
  have HOP : Hid (∀ W, Below w.heap.size w W → OpsAt W pa pn l) := Lib.hid fun W hb => hl.below (M.below hb).bel
  have hsl : sn = ss.length := hs.1
  obtain ⟨j, hj⟩ : ∃ j : Nat, r.i = (j : Int) := ⟨r.i.toNat, by omega⟩
  have hjl : j < l.length := by omega
  have HE : Hid (rnE ss l r = .returned (.tuple #[.int .i64 (ofL ss l[j].key), Cmd.val ⟨2, r.tx, r.attempt, 0, 3 * (j : Int), l[j].key, ⟨#[]⟩, if l[j].kind = 1 then 1 else 2, false⟩, .bool true])) := Lib.hid (by
    have e : r.i.toNat = j := by omega
    have e2 : l[j]? = some l[j] := List.getElem?_eq_getElem hjl
    exact rnE_mk (by unfold rnS; rw [if_neg (by omega), if_neg (by omega), if_neg (by omega), e, e2]) (by unfold rnC; rw [if_neg (by omega), if_neg (by omega), if_neg (by omega), e, e2]; simp [hk, hj]) (by simp [hk]))
  unfold Cmd.val at HE
  have HX := Lib.hid hjl
  have HLN := Lib.hid hl.1

  clear M hs hl hsl
  generalize rnE ss l r = ne at *
  obtain ⟨tx, stamp, tries, attempt, asks, i, write, rs, fin, told, quit⟩ := r
  obtain ⟨wv, wh⟩ := write
  simp only at hk htx HE hj
  subst hk
  subst hj
  have hb0 := (HC.out w (Below.refl _ _))
  obtain ⟨t0, t1, t3, t4, t5, t6, t7, t8, t9, t11, t12, tg⟩ := hb0
  simp only at t0 t1 t5 t6 t7 t8 t9 t11 t12
  have N0 : Hid (Mem w [] (w.alloc (.cells (C9 0 0 0 0 0 ⟨#[]⟩ ⟨#[]⟩ 0 false) 38)) [BlockA w.heap.size (C9 0 0 0 0 0 ⟨#[]⟩ ⟨#[]⟩ 0 false) 38]) := Lib.hid ((Mem.nil w).block _ 38)
  have hne : ((sn : Int) + 1 == 0) = false := by rw [beq_eq_false_iff_ne]; omega
  go_enter Tryd.func15, Tryd.ntmps15
  go_upto_region 3 with (fail)
  clear t0 t1 t3 t4 t5 t6 t7 t8 t9 t11 t12 tg
  obtain ⟨t0, t1, t3, t4, t5, t6, t7, t8, t9, t11, t12, tg⟩ := HC.out _ N0.out.bel
  simp only at t0 t1 t5 t6 t7 t8 t9 t11 t12
  obtain ⟨W0, hW0⟩ : ∃ W0, W0 = w.alloc (.cells (C9 0 0 0 0 0 ⟨#[]⟩ ⟨#[]⟩ 0 false) 38) := ⟨_, rfl⟩
  have HZ0 : Hid (W0.heap.size = w.heap.size + 1) := Lib.hid (by rw [hW0]; simp)
  rw [← hW0] at t0 t1 t3 t4 t5 t6 t7 t8 t9 t11 t12 tg N0 ⊢
  clear hW0
  go_cut [5] from 14 to 26 (fun v5 wx => v5 = .pointer (some ⟨w.heap.size + 1, 0, none⟩) ∧ Hid (NX w (C9 2 tx attempt 0 0 ⟨#[]⟩ ⟨#[]⟩ 0 false) wx))
  case first =>
    have N1 : Hid (NX w (C9 2 tx attempt 0 0 ⟨#[]⟩ ⟨#[]⟩ 0 false) ((W0.drew).alloc (.cells (C9 2 tx attempt 0 0 ⟨#[]⟩ ⟨#[]⟩ 0 false) 38))) := Lib.hid (by
      have h := (N0.out.below (bel_drew _)).block (C9 2 tx attempt 0 0 ⟨#[]⟩ ⟨#[]⟩ 0 false) 38
      rw [show W0.drew.heap.size = w.heap.size + 1 from HZ0.out] at h
      exact h)
    have N2 : Hid (NX w (C9 2 tx attempt 0 0 ⟨#[]⟩ ⟨#[]⟩ 0 false) ((W0.alloc (.cells (C9 2 tx attempt 0 0 ⟨#[]⟩ ⟨#[]⟩ 0 false) 38)).drew)) := Lib.hid (by
      have h := (N0.out.block (C9 2 tx attempt 0 0 ⟨#[]⟩ ⟨#[]⟩ 0 false) 38).below (bel_drew _)
      rw [HZ0.out] at h
      exact h)
    go_region
    all_goals
      go_wp2_with fail
      go_meet
      case rel => exact ⟨by rw [← HZ0.out], by first | exact N1 | exact N2⟩
  case rest =>
  obtain ⟨rfl, N1⟩ := hcut
  clear t0 t1 t3 t4 t5 t6 t7 t8 t9 t11 t12 tg
  clear N0 HZ0
  obtain ⟨t0, t1, t3, t4, t5, t6, t7, t8, t9, t11, t12, tg⟩ := HC.out _ N1.out.bel
  simp only at t0 t1 t5 t6 t7 t8 t9 t11 t12
  clear tg
  go_wp2_with fail
  go_quiet (fail)
  have N2 := Lib.hid (N1.out.below (bel_drewN _ nq))
  generalize hW2 : wc.drewN nq = W2 at *
  clear hW2 N1 t0 t1 t3 t4 t5 t6 t7 t8 t9 t11 t12
  obtain ⟨t0, t1, t3, t4, t5, t6, t7, t8, t9, t11, t12, tg⟩ := HC.out _ N2.out.bel
  simp only at t0 t1 t5 t6 t7 t8 t9 t11 t12
  have hjn : j < pn := by have := HLN.out; have := HX.out; omega
  obtain ⟨pb, off, rfl, ⟨o0, o1, o2, o3⟩, -⟩ := (HOP.out _ N2.out.bel).at j HX.out
  have hpb := World.block_lt_of_cell? W2 _ o0
  simp only at hpb
  generalize l[j] = o at *
  obtain ⟨ok, oy, ov, on⟩ := o
  simp only at o0 o1 o2 o3 HE
  obtain ⟨md, hmd⟩ : ∃ md : Int, md = if ok = 1 then 1 else 2 := ⟨_, rfl⟩
  rw [← hmd] at HE
  have HMD := Lib.hid hmd
  clear hmd
  have hw1 := IntWalk.i64_in (3 * (j : Int)) (by omega)
  have hw2 := IntWalk.i64_in (3 * (j : Int) + 2) (by omega)
  have hw3 := IntWalk.i64_in (3 * (j : Int) + 2 - 2) (by omega)
  go_upto_region 13 with (fail)
  go_cut [7] from 85 to 94 (fun v7 wx => ∃ b7, v7 = .pointer (some ⟨b7, 0, none⟩) ∧ b7 ≠ w.heap.size + 1 ∧ b7 < wx.heap.size ∧ Hid (NX w (C9 2 tx attempt 0 0 ⟨#[]⟩ ⟨#[]⟩ 0 false) wx) ∧ wx.cell? ⟨b7, 0, none⟩ = some (.int .i64 ok) ∧ wx.cell? ⟨b7, 1, none⟩ = some (.string oy))
  case first =>
    have hws : w.heap.size + 1 < W2.heap.size := lt_of_heap N2.out.mine
    have NA := Lib.hid ((N2.out.below (bel_drew _)).below (bel_new _ (.cells #[.int .i64 ok, .string oy, .string ov, .int .i64 on] 60)))
    have NB := Lib.hid ((N2.out.below (bel_new _ (.cells #[.int .i64 ok, .string oy, .string ov, .int .i64 on] 60))).below (bel_drew _))
    have hA := heap_new W2.drew (.cells #[.int .i64 ok, .string oy, .string ov, .int .i64 on] 60)
    have hB := heap_new W2 (.cells #[.int .i64 ok, .string oy, .string ov, .int .i64 on] 60)
    clear HC HST HOP HE N2
    go_region
    all_goals
      go_wp2_with fail
      go_meet
      case rel => exact ⟨W2.heap.size, by first | rfl | simp, by omega, by simp, by first | exact NA | exact NB, by first | exact (cell_of_heap (i := 0) hA rfl).1 | exact (cell_of_heap (i := 0) hB rfl).1, by first | exact (cell_of_heap (i := 1) hA rfl).1 | exact (cell_of_heap (i := 1) hB rfl).1⟩
  case rest =>
  obtain ⟨b7, rfl, hb7, hb7l, N3, x0, x1⟩ := hcut
  clear N2 o0 o1 o2 o3 hpb
  clear t0 t1 t3 t4 t5 t6 t7 t8 t9 t11 t12 tg
  obtain ⟨t0, t1, t3, t4, t5, t6, t7, t8, t9, t11, t12, tg⟩ := HC.out _ N3.out.bel
  simp only at t0 t1 t5 t6 t7 t8 t9 t11 t12
  have hh := N3.out.mine
  obtain ⟨u0, uf0⟩ := cell_of_heap (i := 0) (v := .int .i64 2) hh rfl
  obtain ⟨u1, uf1⟩ := cell_of_heap (i := 1) (v := .int .i64 tx) hh rfl
  obtain ⟨u2, uf2⟩ := cell_of_heap (i := 2) (v := .int .i64 attempt) hh rfl
  obtain ⟨u3, uf3⟩ := cell_of_heap (i := 3) (v := .int .i64 0) hh rfl
  obtain ⟨u4, uf4⟩ := cell_of_heap (i := 4) (v := .int .i64 0) hh rfl
  obtain ⟨u5, uf5⟩ := cell_of_heap (i := 5) (v := .string ⟨#[]⟩) hh rfl
  obtain ⟨u6, uf6⟩ := cell_of_heap (i := 6) (v := .string ⟨#[]⟩) hh rfl
  obtain ⟨u7, uf7⟩ := cell_of_heap (i := 7) (v := .int .i64 0) hh rfl
  obtain ⟨u8, uf8⟩ := cell_of_heap (i := 8) (v := .bool false) hh rfl
  clear hh
  go_upto_region 15 with (fail)
  have HB7 : Hid (∀ (W : World) i v, (W.setCell ⟨w.heap.size + 1, i, none⟩ v).cell? ⟨b7, 0, none⟩ = W.cell? ⟨b7, 0, none⟩ ∧ (W.setCell ⟨w.heap.size + 1, i, none⟩ v).cell? ⟨b7, 1, none⟩ = W.cell? ⟨b7, 1, none⟩) := Lib.hid fun W i v => ⟨World.cell?_setCell_far W _ _ v (fun h => hb7 h.symm), World.cell?_setCell_far W _ _ v (fun h => hb7 h.symm)⟩
  have N4 : Hid (NX w (C9 2 tx attempt 0 0 oy ⟨#[]⟩ 0 false) (wc.setCell ⟨w.heap.size + 1, 5, none⟩ (.string oy))) := Lib.hid (N3.out.set 5 (.string oy))
  have y0 := (HB7.out wc 5 (.string oy)).1.trans x0
  have y1 := (HB7.out wc 5 (.string oy)).2.trans x1
  generalize wc.setCell ⟨w.heap.size + 1, 5, none⟩ (.string oy) = W4 at *
  clear N3 x0 x1 u0 u1 u2 u3 u4 u5 u6 u7 u8 uf0 uf1 uf2 uf3 uf4 uf5 uf6 uf7 uf8
  clear t0 t1 t3 t4 t5 t6 t7 t8 t9 t11 t12 tg
  obtain ⟨t0, t1, t3, t4, t5, t6, t7, t8, t9, t11, t12, tg⟩ := HC.out _ N4.out.bel
  simp only at t0 t1 t5 t6 t7 t8 t9 t11 t12
  have hh := N4.out.mine
  obtain ⟨u0, uf0⟩ := cell_of_heap (i := 0) (v := .int .i64 2) hh rfl
  obtain ⟨u1, uf1⟩ := cell_of_heap (i := 1) (v := .int .i64 tx) hh rfl
  obtain ⟨u2, uf2⟩ := cell_of_heap (i := 2) (v := .int .i64 attempt) hh rfl
  obtain ⟨u3, uf3⟩ := cell_of_heap (i := 3) (v := .int .i64 0) hh rfl
  obtain ⟨u4, uf4⟩ := cell_of_heap (i := 4) (v := .int .i64 0) hh rfl
  obtain ⟨u5, uf5⟩ := cell_of_heap (i := 5) (v := .string oy) hh rfl
  obtain ⟨u6, uf6⟩ := cell_of_heap (i := 6) (v := .string ⟨#[]⟩) hh rfl
  obtain ⟨u7, uf7⟩ := cell_of_heap (i := 7) (v := .int .i64 0) hh rfl
  obtain ⟨u8, uf8⟩ := cell_of_heap (i := 8) (v := .bool false) hh rfl
  clear hh
  go_cut [] from 98 to 109 (fun wx => Hid (NX w (C9 2 tx attempt 0 (3 * (j : Int)) oy ⟨#[]⟩ 0 false) wx) ∧ wx.cell? ⟨b7, 0, none⟩ = some (.int .i64 ok) ∧ wx.cell? ⟨b7, 1, none⟩ = some (.string oy))
  case first =>
    have NA := Lib.hid ((N4.out.below (bel_drew _)).set 4 (.int .i64 (3 * (j : Int))))
    have NB := Lib.hid ((N4.out.set 4 (.int .i64 (3 * (j : Int)))).below (bel_drew _))
    have hA := (HB7.out W4.drew 4 (.int .i64 (3 * (j : Int))))
    clear HC HST HOP HE N4
    go_region
    all_goals
      go_wp2_with fail
      go_meet
      case rel => exact ⟨by first | exact NA | exact NB, by first | exact hA.1.trans y0, by first | exact hA.2.trans y1⟩
  case rest =>
  obtain ⟨N5, x0, x1⟩ := hcut
  clear N4 y0 y1 u0 u1 u2 u3 u4 u5 u6 u7 u8 uf0 uf1 uf2 uf3 uf4 uf5 uf6 uf7 uf8
  clear t0 t1 t3 t4 t5 t6 t7 t8 t9 t11 t12 tg
  obtain ⟨t0, t1, t3, t4, t5, t6, t7, t8, t9, t11, t12, tg⟩ := HC.out _ N5.out.bel
  simp only at t0 t1 t5 t6 t7 t8 t9 t11 t12
  have hh := N5.out.mine
  obtain ⟨u0, uf0⟩ := cell_of_heap (i := 0) (v := .int .i64 2) hh rfl
  obtain ⟨u1, uf1⟩ := cell_of_heap (i := 1) (v := .int .i64 tx) hh rfl
  obtain ⟨u2, uf2⟩ := cell_of_heap (i := 2) (v := .int .i64 attempt) hh rfl
  obtain ⟨u3, uf3⟩ := cell_of_heap (i := 3) (v := .int .i64 0) hh rfl
  obtain ⟨u4, uf4⟩ := cell_of_heap (i := 4) (v := .int .i64 (3 * (j : Int))) hh rfl
  obtain ⟨u5, uf5⟩ := cell_of_heap (i := 5) (v := .string oy) hh rfl
  obtain ⟨u6, uf6⟩ := cell_of_heap (i := 6) (v := .string ⟨#[]⟩) hh rfl
  obtain ⟨u7, uf7⟩ := cell_of_heap (i := 7) (v := .int .i64 0) hh rfl
  obtain ⟨u8, uf8⟩ := cell_of_heap (i := 8) (v := .bool false) hh rfl
  clear hh
  go_upto_if 114 with (fail)
  go_cut [] from 115 to 119 (fun wx => Hid (NX w (C9 2 tx attempt 0 (3 * (j : Int)) oy ⟨#[]⟩ md false) wx) ∧ wx.cell? ⟨b7, 1, none⟩ = some (.string oy))
  case first =>
    have hA := fun i v => (HB7.out wc i v)
    by_cases k1 : ok = 1
    · subst k1
      have e1 : md = 1 := HMD.out
      have NA : Hid (NX w (C9 2 tx attempt 0 (3 * (j : Int)) oy ⟨#[]⟩ md false) ((wc.setCell ⟨w.heap.size + 1, 7, none⟩ (.int .i64 2)).setCell ⟨w.heap.size + 1, 7, none⟩ (.int .i64 1))) := Lib.hid (by rw [e1]; exact (N5.out.set 7 (.int .i64 2)).set 7 (.int .i64 1))
      have hB := (HB7.out (wc.setCell ⟨w.heap.size + 1, 7, none⟩ (.int .i64 2)) 7 (.int .i64 1)).2.trans ((HB7.out wc 7 (.int .i64 2)).2.trans x1)
      have hC := (HB7.out wc 7 (.int .i64 1)).2.trans x1
      have NB : Hid (NX w (C9 2 tx attempt 0 (3 * (j : Int)) oy ⟨#[]⟩ md false) (wc.setCell ⟨w.heap.size + 1, 7, none⟩ (.int .i64 1))) := Lib.hid (by rw [e1]; exact N5.out.set 7 (.int .i64 1))
      clear HC HST HOP HE N5 hA e1
      go_wp2_with fail
      go_meet
      case rel => exact ⟨by first | exact NA | exact NB, by first | exact hB | exact hC⟩
    · have b1 : (ok == 1) = false := by simpa using k1
      have NA : Hid (NX w (C9 2 tx attempt 0 (3 * (j : Int)) oy ⟨#[]⟩ md false) (wc.setCell ⟨w.heap.size + 1, 7, none⟩ (.int .i64 2))) := Lib.hid (by rw [show md = 2 by rw [HMD.out, if_neg k1]]; exact N5.out.set 7 (.int .i64 2))
      have hB := (HB7.out wc 7 (.int .i64 2)).2.trans x1
      have hB0 := (HB7.out wc 7 (.int .i64 2)).1.trans x0
      clear HC HST HOP HE N5 hA k1
      go_wp2_with fail
      go_meet
      case rel => exact ⟨NA, hB⟩
  case rest =>
  obtain ⟨N6, x1⟩ := hcut
  clear N5 x0 u0 u1 u2 u3 u4 u5 u6 u7 u8 uf0 uf1 uf2 uf3 uf4 uf5 uf6 uf7 uf8
  clear t0 t1 t3 t4 t5 t6 t7 t8 t9 t11 t12 tg
  obtain ⟨t0, t1, t3, t4, t5, t6, t7, t8, t9, t11, t12, tg⟩ := HC.out _ N6.out.bel
  simp only at t0 t1 t5 t6 t7 t8 t9 t11 t12
  go_upto_region 22 with (fail)
  have HOF : Hid (∀ W, Below w.heap.size w W → Calls Tryd.prog 35 #[.slice sa sn sc, .string oy] W fun e w' => e = .returned (.int .i64 (ofL ss oy)) ∧ W = w') := Lib.hid fun W hb => refOf_any sa sn sc ss oy W (by unfold maxLen; omega) (HST.out W hb)
  clear HC HST HOP
  generalize ofL ss oy = sh at *
  have HOF1 := Lib.hid (HOF.out _ (N6.out.below (bel_drew _)).bel)
  have hh := N6.out.mine
  obtain ⟨u0, uf0⟩ := cell_of_heap (i := 0) (v := .int .i64 2) hh rfl
  obtain ⟨u1, uf1⟩ := cell_of_heap (i := 1) (v := .int .i64 tx) hh rfl
  obtain ⟨u2, uf2⟩ := cell_of_heap (i := 2) (v := .int .i64 attempt) hh rfl
  obtain ⟨u3, uf3⟩ := cell_of_heap (i := 3) (v := .int .i64 0) hh rfl
  obtain ⟨u4, uf4⟩ := cell_of_heap (i := 4) (v := .int .i64 (3 * (j : Int))) hh rfl
  obtain ⟨u5, uf5⟩ := cell_of_heap (i := 5) (v := .string oy) hh rfl
  obtain ⟨u6, uf6⟩ := cell_of_heap (i := 6) (v := .string ⟨#[]⟩) hh rfl
  obtain ⟨u7, uf7⟩ := cell_of_heap (i := 7) (v := .int .i64 md) hh rfl
  obtain ⟨u8, uf8⟩ := cell_of_heap (i := 8) (v := .bool false) hh rfl
  clear hh
  have hh := N6.out.res
  obtain ⟨z0, zf0⟩ := cell_of_heap (i := 0) (v := .int .i64 0) hh rfl
  obtain ⟨z1, zf1⟩ := cell_of_heap (i := 1) (v := .int .i64 0) hh rfl
  obtain ⟨z2, zf2⟩ := cell_of_heap (i := 2) (v := .int .i64 0) hh rfl
  obtain ⟨z3, zf3⟩ := cell_of_heap (i := 3) (v := .int .i64 0) hh rfl
  obtain ⟨z4, zf4⟩ := cell_of_heap (i := 4) (v := .int .i64 0) hh rfl
  obtain ⟨z5, zf5⟩ := cell_of_heap (i := 5) (v := .string ⟨#[]⟩) hh rfl
  obtain ⟨z6, zf6⟩ := cell_of_heap (i := 6) (v := .string ⟨#[]⟩) hh rfl
  obtain ⟨z7, zf7⟩ := cell_of_heap (i := 7) (v := .int .i64 0) hh rfl
  obtain ⟨z8, zf8⟩ := cell_of_heap (i := 8) (v := .bool false) hh rfl
  clear hh
  have HMF : Hid (∀ W, NX w (C9 2 tx attempt 0 (3 * (j : Int)) oy ⟨#[]⟩ md false) W → Mem w [] ((((((((((W.setCell ⟨w.heap.size, 0, none⟩ (.int .i64 2)).setCell ⟨w.heap.size, 1, none⟩ (.int .i64 tx)).setCell ⟨w.heap.size, 2, none⟩ (.int .i64 attempt)).setCell ⟨w.heap.size, 3, none⟩ (.int .i64 0)).setCell ⟨w.heap.size, 4, none⟩ (.int .i64 (3 * (j : Int)))).setCell ⟨w.heap.size, 5, none⟩ (.string oy)).setCell ⟨w.heap.size, 6, none⟩ (.string ⟨#[]⟩)).setCell ⟨w.heap.size, 7, none⟩ (.int .i64 md)).setCell ⟨w.heap.size, 8, none⟩ (.bool false))) [BlockA (w.heap.size + 1) (C9 2 tx attempt 0 (3 * (j : Int)) oy ⟨#[]⟩ md false) 38, BlockA w.heap.size (C9 2 tx attempt 0 (3 * (j : Int)) oy ⟨#[]⟩ md false) 38]) := Lib.hid fun W h => Mem.set9 [BlockA (w.heap.size + 1) (C9 2 tx attempt 0 (3 * (j : Int)) oy ⟨#[]⟩ md false) 38] (r := []) h (.int .i64 2) (.int .i64 tx) (.int .i64 attempt) (.int .i64 0) (.int .i64 (3 * (j : Int))) (.string oy) (.string ⟨#[]⟩) (.int .i64 md) (.bool false)
  have N9 := N6
  clear N6
  go_region_with (go_at_call 35; refine HOF1.out.mono ?_; rintro e w6 ⟨rfl, rfl⟩)
  all_goals
    go_wp2_with fail
    first
    | (
        obtain ⟨w9, hw9⟩ : ∃ w9, w9 = ((((((((((wc.setCell ⟨w.heap.size, 0, none⟩ (.int .i64 2)).setCell ⟨w.heap.size, 1, none⟩ (.int .i64 tx)).setCell ⟨w.heap.size, 2, none⟩ (.int .i64 attempt)).setCell ⟨w.heap.size, 3, none⟩ (.int .i64 0)).setCell ⟨w.heap.size, 4, none⟩ (.int .i64 (3 * (j : Int)))).setCell ⟨w.heap.size, 5, none⟩ (.string oy)).setCell ⟨w.heap.size, 6, none⟩ (.string ⟨#[]⟩)).setCell ⟨w.heap.size, 7, none⟩ (.int .i64 md)).setCell ⟨w.heap.size, 8, none⟩ (.bool false))).drew := ⟨_, rfl⟩
        have hm : Mem w [] w9 [BlockA (w.heap.size + 1) (C9 2 tx attempt 0 (3 * (j : Int)) oy ⟨#[]⟩ md false) 38, BlockA w.heap.size (C9 2 tx attempt 0 (3 * (j : Int)) oy ⟨#[]⟩ md false) 38] := by rw [hw9]; exact Mem.below (HMF.out _ N9.out) (bel_drew _)
        rw [← hw9]
        clear hw9
        have hh := Mem.heapAt [BlockA (w.heap.size + 1) (C9 2 tx attempt 0 (3 * (j : Int)) oy ⟨#[]⟩ md false) 38] (r := []) hm
        have y0 := (cell_of_heap (i := 0) (v := .int .i64 2) hh rfl).1
        have y1 := (cell_of_heap (i := 1) (v := .int .i64 tx) hh rfl).1
        have y2 := (cell_of_heap (i := 2) (v := .int .i64 attempt) hh rfl).1
        have y3 := (cell_of_heap (i := 3) (v := .int .i64 0) hh rfl).1
        have y4 := (cell_of_heap (i := 4) (v := .int .i64 (3 * (j : Int))) hh rfl).1
        have y5 := (cell_of_heap (i := 5) (v := .string oy) hh rfl).1
        have y6 := (cell_of_heap (i := 6) (v := .string ⟨#[]⟩) hh rfl).1
        have y7 := (cell_of_heap (i := 7) (v := .int .i64 md) hh rfl).1
        have y8 := (cell_of_heap (i := 8) (v := .bool false) hh rfl).1
        exact bodyPost_ret (v := .tuple #[.int .i64 sh, .agg #[.int .i64 2, .int .i64 tx, .int .i64 attempt, .int .i64 0, .int .i64 (3 * (j : Int)), .string oy, .string ⟨#[]⟩, .int .i64 md, .bool false], .bool true]) (by simp [results, Tryd.results15, go_sem, y0, y1, y2, y3, y4, y5, y6, y7, y8]) rfl ⟨HE.out.symm, hm.bel⟩
      )
    | (
        obtain ⟨w9, hw9⟩ : ∃ w9, w9 = (((((((((wc.drew.setCell ⟨w.heap.size, 0, none⟩ (.int .i64 2)).setCell ⟨w.heap.size, 1, none⟩ (.int .i64 tx)).setCell ⟨w.heap.size, 2, none⟩ (.int .i64 attempt)).setCell ⟨w.heap.size, 3, none⟩ (.int .i64 0)).setCell ⟨w.heap.size, 4, none⟩ (.int .i64 (3 * (j : Int)))).setCell ⟨w.heap.size, 5, none⟩ (.string oy)).setCell ⟨w.heap.size, 6, none⟩ (.string ⟨#[]⟩)).setCell ⟨w.heap.size, 7, none⟩ (.int .i64 md)).setCell ⟨w.heap.size, 8, none⟩ (.bool false)) := ⟨_, rfl⟩
        have hm : Mem w [] w9 [BlockA (w.heap.size + 1) (C9 2 tx attempt 0 (3 * (j : Int)) oy ⟨#[]⟩ md false) 38, BlockA w.heap.size (C9 2 tx attempt 0 (3 * (j : Int)) oy ⟨#[]⟩ md false) 38] := by rw [hw9]; exact HMF.out _ (N9.out.below (bel_drew _))
        rw [← hw9]
        clear hw9
        have hh := Mem.heapAt [BlockA (w.heap.size + 1) (C9 2 tx attempt 0 (3 * (j : Int)) oy ⟨#[]⟩ md false) 38] (r := []) hm
        have y0 := (cell_of_heap (i := 0) (v := .int .i64 2) hh rfl).1
        have y1 := (cell_of_heap (i := 1) (v := .int .i64 tx) hh rfl).1
        have y2 := (cell_of_heap (i := 2) (v := .int .i64 attempt) hh rfl).1
        have y3 := (cell_of_heap (i := 3) (v := .int .i64 0) hh rfl).1
        have y4 := (cell_of_heap (i := 4) (v := .int .i64 (3 * (j : Int))) hh rfl).1
        have y5 := (cell_of_heap (i := 5) (v := .string oy) hh rfl).1
        have y6 := (cell_of_heap (i := 6) (v := .string ⟨#[]⟩) hh rfl).1
        have y7 := (cell_of_heap (i := 7) (v := .int .i64 md) hh rfl).1
        have y8 := (cell_of_heap (i := 8) (v := .bool false) hh rfl).1
        exact bodyPost_ret (v := .tuple #[.int .i64 sh, .agg #[.int .i64 2, .int .i64 tx, .int .i64 attempt, .int .i64 0, .int .i64 (3 * (j : Int)), .string oy, .string ⟨#[]⟩, .int .i64 md, .bool false], .bool true]) (by simp [results, Tryd.results15, go_sem, y0, y1, y2, y3, y4, y5, y6, y7, y8]) rfl ⟨HE.out.symm, hm.bel⟩
      )
set_option maxRecDepth 100000 in
set_option maxHeartbeats 8000000 in
theorem rnext3 (M : Mem w0 [] w (RefA g (.slice sa sn sc) (.slice pa pn pc) r :: q)) (hs : StrsAt w0 sa sn ss) (hl : OpsAt w0 pa pn l) (h7 : sn ≤ 7) (hn : pn ≤ 1000) (htx : 0 ≤ r.tx) (hk : r.asks = 3) (hi0 : 0 ≤ r.i) (hil : r.i < l.length) :
    Calls Tryd.prog 15 #[.pointer (some ⟨g, 0, none⟩)] w fun e w' => e = rnE ss l r ∧ Below w.heap.size w w' := by
  have HC : Hid (∀ W, Below w.heap.size w W → RdAt W g (.slice sa sn sc) (.slice pa pn pc) r) := Lib.hid fun W hb => Mem.rdAt (M.below hb)
  have HST : Hid (∀ W, Below w.heap.size w W → StrsAt W sa sn ss) := Lib.hid fun W hb => hs.keep (M.below hb).bel
  have HOP : Hid (∀ W, Below w.heap.size w W → OpsAt W pa pn l) := Lib.hid fun W hb => hl.below (M.below hb).bel
  have hsl : sn = ss.length := hs.1
  obtain ⟨j, hj⟩ : ∃ j : Nat, r.i = (j : Int) := ⟨r.i.toNat, by omega⟩
  have hjl : j < l.length := by omega
  have HE : Hid (rnE ss l r = .returned (.tuple #[.int .i64 (ofL ss l[j].key), Cmd.val ⟨3, r.tx, r.attempt, 0, 3 * (j : Int) + 3 - 2, l[j].key, ⟨#[]⟩, 0, false⟩, .bool true])) := Lib.hid (by
    have e : r.i.toNat = j := by omega
    have e2 : l[j]? = some l[j] := List.getElem?_eq_getElem hjl
    exact rnE_mk (by unfold rnS; rw [if_neg (by omega), if_neg (by omega), if_neg (by omega), e, e2]) (by unfold rnC; rw [if_neg (by omega), if_neg (by omega), if_neg (by omega), e, e2]; simp [hk, hj]) (by simp [hk]))
  unfold Cmd.val at HE
  have HX := Lib.hid hjl
  have HLN := Lib.hid hl.1

  clear M hs hl hsl
  generalize rnE ss l r = ne at *
  obtain ⟨tx, stamp, tries, attempt, asks, i, write, rs, fin, told, quit⟩ := r
  obtain ⟨wv, wh⟩ := write
  simp only at hk htx HE hj
  subst hk
  subst hj
  have hb0 := (HC.out w (Below.refl _ _))
  obtain ⟨t0, t1, t3, t4, t5, t6, t7, t8, t9, t11, t12, tg⟩ := hb0
  simp only at t0 t1 t5 t6 t7 t8 t9 t11 t12
  have N0 : Hid (Mem w [] (w.alloc (.cells (C9 0 0 0 0 0 ⟨#[]⟩ ⟨#[]⟩ 0 false) 38)) [BlockA w.heap.size (C9 0 0 0 0 0 ⟨#[]⟩ ⟨#[]⟩ 0 false) 38]) := Lib.hid ((Mem.nil w).block _ 38)
  have hne : ((sn : Int) + 1 == 0) = false := by rw [beq_eq_false_iff_ne]; omega
  go_enter Tryd.func15, Tryd.ntmps15
  go_upto_region 3 with (fail)
  clear t0 t1 t3 t4 t5 t6 t7 t8 t9 t11 t12 tg
  obtain ⟨t0, t1, t3, t4, t5, t6, t7, t8, t9, t11, t12, tg⟩ := HC.out _ N0.out.bel
  simp only at t0 t1 t5 t6 t7 t8 t9 t11 t12
  obtain ⟨W0, hW0⟩ : ∃ W0, W0 = w.alloc (.cells (C9 0 0 0 0 0 ⟨#[]⟩ ⟨#[]⟩ 0 false) 38) := ⟨_, rfl⟩
  have HZ0 : Hid (W0.heap.size = w.heap.size + 1) := Lib.hid (by rw [hW0]; simp)
  rw [← hW0] at t0 t1 t3 t4 t5 t6 t7 t8 t9 t11 t12 tg N0 ⊢
  clear hW0
  go_cut [5] from 14 to 26 (fun v5 wx => v5 = .pointer (some ⟨w.heap.size + 1, 0, none⟩) ∧ Hid (NX w (C9 3 tx attempt 0 0 ⟨#[]⟩ ⟨#[]⟩ 0 false) wx))
  case first =>
    have N1 : Hid (NX w (C9 3 tx attempt 0 0 ⟨#[]⟩ ⟨#[]⟩ 0 false) ((W0.drew).alloc (.cells (C9 3 tx attempt 0 0 ⟨#[]⟩ ⟨#[]⟩ 0 false) 38))) := Lib.hid (by
      have h := (N0.out.below (bel_drew _)).block (C9 3 tx attempt 0 0 ⟨#[]⟩ ⟨#[]⟩ 0 false) 38
      rw [show W0.drew.heap.size = w.heap.size + 1 from HZ0.out] at h
      exact h)
    have N2 : Hid (NX w (C9 3 tx attempt 0 0 ⟨#[]⟩ ⟨#[]⟩ 0 false) ((W0.alloc (.cells (C9 3 tx attempt 0 0 ⟨#[]⟩ ⟨#[]⟩ 0 false) 38)).drew)) := Lib.hid (by
      have h := (N0.out.block (C9 3 tx attempt 0 0 ⟨#[]⟩ ⟨#[]⟩ 0 false) 38).below (bel_drew _)
      rw [HZ0.out] at h
      exact h)
    go_region
    all_goals
      go_wp2_with fail
      go_meet
      case rel => exact ⟨by rw [← HZ0.out], by first | exact N1 | exact N2⟩
  case rest =>
  obtain ⟨rfl, N1⟩ := hcut
  clear t0 t1 t3 t4 t5 t6 t7 t8 t9 t11 t12 tg
  clear N0 HZ0
  obtain ⟨t0, t1, t3, t4, t5, t6, t7, t8, t9, t11, t12, tg⟩ := HC.out _ N1.out.bel
  simp only at t0 t1 t5 t6 t7 t8 t9 t11 t12
  clear tg
  go_wp2_with fail
  go_quiet (fail)
  have N2 := Lib.hid (N1.out.below (bel_drewN _ nq))
  generalize hW2 : wc.drewN nq = W2 at *
  clear hW2 N1 t0 t1 t3 t4 t5 t6 t7 t8 t9 t11 t12
  obtain ⟨t0, t1, t3, t4, t5, t6, t7, t8, t9, t11, t12, tg⟩ := HC.out _ N2.out.bel
  simp only at t0 t1 t5 t6 t7 t8 t9 t11 t12
  have hjn : j < pn := by have := HLN.out; have := HX.out; omega
  obtain ⟨pb, off, rfl, ⟨o0, o1, o2, o3⟩, -⟩ := (HOP.out _ N2.out.bel).at j HX.out
  have hpb := World.block_lt_of_cell? W2 _ o0
  simp only at hpb
  generalize l[j] = o at *
  obtain ⟨ok, oy, ov, on⟩ := o
  simp only at o0 o1 o2 o3 HE




  have hw1 := IntWalk.i64_in (3 * (j : Int)) (by omega)
  have hw2 := IntWalk.i64_in (3 * (j : Int) + 3) (by omega)
  have hw3 := IntWalk.i64_in (3 * (j : Int) + 3 - 2) (by omega)
  go_upto_region 13 with (fail)
  go_cut [7] from 85 to 94 (fun v7 wx => ∃ b7, v7 = .pointer (some ⟨b7, 0, none⟩) ∧ b7 ≠ w.heap.size + 1 ∧ b7 < wx.heap.size ∧ Hid (NX w (C9 3 tx attempt 0 0 ⟨#[]⟩ ⟨#[]⟩ 0 false) wx) ∧ wx.cell? ⟨b7, 0, none⟩ = some (.int .i64 ok) ∧ wx.cell? ⟨b7, 1, none⟩ = some (.string oy))
  case first =>
    have hws : w.heap.size + 1 < W2.heap.size := lt_of_heap N2.out.mine
    have NA := Lib.hid ((N2.out.below (bel_drew _)).below (bel_new _ (.cells #[.int .i64 ok, .string oy, .string ov, .int .i64 on] 60)))
    have NB := Lib.hid ((N2.out.below (bel_new _ (.cells #[.int .i64 ok, .string oy, .string ov, .int .i64 on] 60))).below (bel_drew _))
    have hA := heap_new W2.drew (.cells #[.int .i64 ok, .string oy, .string ov, .int .i64 on] 60)
    have hB := heap_new W2 (.cells #[.int .i64 ok, .string oy, .string ov, .int .i64 on] 60)
    clear HC HST HOP HE N2
    go_region
    all_goals
      go_wp2_with fail
      go_meet
      case rel => exact ⟨W2.heap.size, by first | rfl | simp, by omega, by simp, by first | exact NA | exact NB, by first | exact (cell_of_heap (i := 0) hA rfl).1 | exact (cell_of_heap (i := 0) hB rfl).1, by first | exact (cell_of_heap (i := 1) hA rfl).1 | exact (cell_of_heap (i := 1) hB rfl).1⟩
  case rest =>
  obtain ⟨b7, rfl, hb7, hb7l, N3, x0, x1⟩ := hcut
  clear N2 o0 o1 o2 o3 hpb
  clear t0 t1 t3 t4 t5 t6 t7 t8 t9 t11 t12 tg
  obtain ⟨t0, t1, t3, t4, t5, t6, t7, t8, t9, t11, t12, tg⟩ := HC.out _ N3.out.bel
  simp only at t0 t1 t5 t6 t7 t8 t9 t11 t12
  have hh := N3.out.mine
  obtain ⟨u0, uf0⟩ := cell_of_heap (i := 0) (v := .int .i64 3) hh rfl
  obtain ⟨u1, uf1⟩ := cell_of_heap (i := 1) (v := .int .i64 tx) hh rfl
  obtain ⟨u2, uf2⟩ := cell_of_heap (i := 2) (v := .int .i64 attempt) hh rfl
  obtain ⟨u3, uf3⟩ := cell_of_heap (i := 3) (v := .int .i64 0) hh rfl
  obtain ⟨u4, uf4⟩ := cell_of_heap (i := 4) (v := .int .i64 0) hh rfl
  obtain ⟨u5, uf5⟩ := cell_of_heap (i := 5) (v := .string ⟨#[]⟩) hh rfl
  obtain ⟨u6, uf6⟩ := cell_of_heap (i := 6) (v := .string ⟨#[]⟩) hh rfl
  obtain ⟨u7, uf7⟩ := cell_of_heap (i := 7) (v := .int .i64 0) hh rfl
  obtain ⟨u8, uf8⟩ := cell_of_heap (i := 8) (v := .bool false) hh rfl
  clear hh
  go_upto_region 15 with (fail)
  have HB7 : Hid (∀ (W : World) i v, (W.setCell ⟨w.heap.size + 1, i, none⟩ v).cell? ⟨b7, 0, none⟩ = W.cell? ⟨b7, 0, none⟩ ∧ (W.setCell ⟨w.heap.size + 1, i, none⟩ v).cell? ⟨b7, 1, none⟩ = W.cell? ⟨b7, 1, none⟩) := Lib.hid fun W i v => ⟨World.cell?_setCell_far W _ _ v (fun h => hb7 h.symm), World.cell?_setCell_far W _ _ v (fun h => hb7 h.symm)⟩
  have N4 : Hid (NX w (C9 3 tx attempt 0 0 oy ⟨#[]⟩ 0 false) (wc.setCell ⟨w.heap.size + 1, 5, none⟩ (.string oy))) := Lib.hid (N3.out.set 5 (.string oy))
  have y0 := (HB7.out wc 5 (.string oy)).1.trans x0
  have y1 := (HB7.out wc 5 (.string oy)).2.trans x1
  generalize wc.setCell ⟨w.heap.size + 1, 5, none⟩ (.string oy) = W4 at *
  clear N3 x0 x1 u0 u1 u2 u3 u4 u5 u6 u7 u8 uf0 uf1 uf2 uf3 uf4 uf5 uf6 uf7 uf8
  clear t0 t1 t3 t4 t5 t6 t7 t8 t9 t11 t12 tg
  obtain ⟨t0, t1, t3, t4, t5, t6, t7, t8, t9, t11, t12, tg⟩ := HC.out _ N4.out.bel
  simp only at t0 t1 t5 t6 t7 t8 t9 t11 t12
  have hh := N4.out.mine
  obtain ⟨u0, uf0⟩ := cell_of_heap (i := 0) (v := .int .i64 3) hh rfl
  obtain ⟨u1, uf1⟩ := cell_of_heap (i := 1) (v := .int .i64 tx) hh rfl
  obtain ⟨u2, uf2⟩ := cell_of_heap (i := 2) (v := .int .i64 attempt) hh rfl
  obtain ⟨u3, uf3⟩ := cell_of_heap (i := 3) (v := .int .i64 0) hh rfl
  obtain ⟨u4, uf4⟩ := cell_of_heap (i := 4) (v := .int .i64 0) hh rfl
  obtain ⟨u5, uf5⟩ := cell_of_heap (i := 5) (v := .string oy) hh rfl
  obtain ⟨u6, uf6⟩ := cell_of_heap (i := 6) (v := .string ⟨#[]⟩) hh rfl
  obtain ⟨u7, uf7⟩ := cell_of_heap (i := 7) (v := .int .i64 0) hh rfl
  obtain ⟨u8, uf8⟩ := cell_of_heap (i := 8) (v := .bool false) hh rfl
  clear hh
  go_cut [] from 98 to 109 (fun wx => Hid (NX w (C9 3 tx attempt 0 (3 * (j : Int) + 3 - 2) oy ⟨#[]⟩ 0 false) wx) ∧ wx.cell? ⟨b7, 0, none⟩ = some (.int .i64 ok) ∧ wx.cell? ⟨b7, 1, none⟩ = some (.string oy))
  case first =>
    have NA := Lib.hid ((N4.out.below (bel_drew _)).set 4 (.int .i64 (3 * (j : Int) + 3 - 2)))
    have NB := Lib.hid ((N4.out.set 4 (.int .i64 (3 * (j : Int) + 3 - 2))).below (bel_drew _))
    have hA := (HB7.out W4.drew 4 (.int .i64 (3 * (j : Int) + 3 - 2)))
    clear HC HST HOP HE N4
    go_region
    all_goals
      go_wp2_with fail
      go_meet
      case rel => exact ⟨by first | exact NA | exact NB, by first | exact hA.1.trans y0, by first | exact hA.2.trans y1⟩
  case rest =>
  obtain ⟨N5, x0, x1⟩ := hcut
  clear N4 y0 y1 u0 u1 u2 u3 u4 u5 u6 u7 u8 uf0 uf1 uf2 uf3 uf4 uf5 uf6 uf7 uf8
  clear t0 t1 t3 t4 t5 t6 t7 t8 t9 t11 t12 tg
  obtain ⟨t0, t1, t3, t4, t5, t6, t7, t8, t9, t11, t12, tg⟩ := HC.out _ N5.out.bel
  simp only at t0 t1 t5 t6 t7 t8 t9 t11 t12
  go_upto_region 22 with (fail)
  have HOF : Hid (∀ W, Below w.heap.size w W → Calls Tryd.prog 35 #[.slice sa sn sc, .string oy] W fun e w' => e = .returned (.int .i64 (ofL ss oy)) ∧ W = w') := Lib.hid fun W hb => refOf_any sa sn sc ss oy W (by unfold maxLen; omega) (HST.out W hb)
  clear HC HST HOP
  generalize ofL ss oy = sh at *
  have HOF1 := Lib.hid (HOF.out _ (N5.out.below (bel_drew _)).bel)
  have hh := N5.out.mine
  obtain ⟨u0, uf0⟩ := cell_of_heap (i := 0) (v := .int .i64 3) hh rfl
  obtain ⟨u1, uf1⟩ := cell_of_heap (i := 1) (v := .int .i64 tx) hh rfl
  obtain ⟨u2, uf2⟩ := cell_of_heap (i := 2) (v := .int .i64 attempt) hh rfl
  obtain ⟨u3, uf3⟩ := cell_of_heap (i := 3) (v := .int .i64 0) hh rfl
  obtain ⟨u4, uf4⟩ := cell_of_heap (i := 4) (v := .int .i64 (3 * (j : Int) + 3 - 2)) hh rfl
  obtain ⟨u5, uf5⟩ := cell_of_heap (i := 5) (v := .string oy) hh rfl
  obtain ⟨u6, uf6⟩ := cell_of_heap (i := 6) (v := .string ⟨#[]⟩) hh rfl
  obtain ⟨u7, uf7⟩ := cell_of_heap (i := 7) (v := .int .i64 0) hh rfl
  obtain ⟨u8, uf8⟩ := cell_of_heap (i := 8) (v := .bool false) hh rfl
  clear hh
  have hh := N5.out.res
  obtain ⟨z0, zf0⟩ := cell_of_heap (i := 0) (v := .int .i64 0) hh rfl
  obtain ⟨z1, zf1⟩ := cell_of_heap (i := 1) (v := .int .i64 0) hh rfl
  obtain ⟨z2, zf2⟩ := cell_of_heap (i := 2) (v := .int .i64 0) hh rfl
  obtain ⟨z3, zf3⟩ := cell_of_heap (i := 3) (v := .int .i64 0) hh rfl
  obtain ⟨z4, zf4⟩ := cell_of_heap (i := 4) (v := .int .i64 0) hh rfl
  obtain ⟨z5, zf5⟩ := cell_of_heap (i := 5) (v := .string ⟨#[]⟩) hh rfl
  obtain ⟨z6, zf6⟩ := cell_of_heap (i := 6) (v := .string ⟨#[]⟩) hh rfl
  obtain ⟨z7, zf7⟩ := cell_of_heap (i := 7) (v := .int .i64 0) hh rfl
  obtain ⟨z8, zf8⟩ := cell_of_heap (i := 8) (v := .bool false) hh rfl
  clear hh
  have HMF : Hid (∀ W, NX w (C9 3 tx attempt 0 (3 * (j : Int) + 3 - 2) oy ⟨#[]⟩ 0 false) W → Mem w [] ((((((((((W.setCell ⟨w.heap.size, 0, none⟩ (.int .i64 3)).setCell ⟨w.heap.size, 1, none⟩ (.int .i64 tx)).setCell ⟨w.heap.size, 2, none⟩ (.int .i64 attempt)).setCell ⟨w.heap.size, 3, none⟩ (.int .i64 0)).setCell ⟨w.heap.size, 4, none⟩ (.int .i64 (3 * (j : Int) + 3 - 2))).setCell ⟨w.heap.size, 5, none⟩ (.string oy)).setCell ⟨w.heap.size, 6, none⟩ (.string ⟨#[]⟩)).setCell ⟨w.heap.size, 7, none⟩ (.int .i64 0)).setCell ⟨w.heap.size, 8, none⟩ (.bool false))) [BlockA (w.heap.size + 1) (C9 3 tx attempt 0 (3 * (j : Int) + 3 - 2) oy ⟨#[]⟩ 0 false) 38, BlockA w.heap.size (C9 3 tx attempt 0 (3 * (j : Int) + 3 - 2) oy ⟨#[]⟩ 0 false) 38]) := Lib.hid fun W h => Mem.set9 [BlockA (w.heap.size + 1) (C9 3 tx attempt 0 (3 * (j : Int) + 3 - 2) oy ⟨#[]⟩ 0 false) 38] (r := []) h (.int .i64 3) (.int .i64 tx) (.int .i64 attempt) (.int .i64 0) (.int .i64 (3 * (j : Int) + 3 - 2)) (.string oy) (.string ⟨#[]⟩) (.int .i64 0) (.bool false)
  have N9 := N5
  clear N5
  go_region_with (go_at_call 35; refine HOF1.out.mono ?_; rintro e w6 ⟨rfl, rfl⟩)
  all_goals
    go_wp2_with fail
    first
    | (
        obtain ⟨w9, hw9⟩ : ∃ w9, w9 = ((((((((((wc.setCell ⟨w.heap.size, 0, none⟩ (.int .i64 3)).setCell ⟨w.heap.size, 1, none⟩ (.int .i64 tx)).setCell ⟨w.heap.size, 2, none⟩ (.int .i64 attempt)).setCell ⟨w.heap.size, 3, none⟩ (.int .i64 0)).setCell ⟨w.heap.size, 4, none⟩ (.int .i64 (3 * (j : Int) + 3 - 2))).setCell ⟨w.heap.size, 5, none⟩ (.string oy)).setCell ⟨w.heap.size, 6, none⟩ (.string ⟨#[]⟩)).setCell ⟨w.heap.size, 7, none⟩ (.int .i64 0)).setCell ⟨w.heap.size, 8, none⟩ (.bool false))).drew := ⟨_, rfl⟩
        have hm : Mem w [] w9 [BlockA (w.heap.size + 1) (C9 3 tx attempt 0 (3 * (j : Int) + 3 - 2) oy ⟨#[]⟩ 0 false) 38, BlockA w.heap.size (C9 3 tx attempt 0 (3 * (j : Int) + 3 - 2) oy ⟨#[]⟩ 0 false) 38] := by rw [hw9]; exact Mem.below (HMF.out _ N9.out) (bel_drew _)
        rw [← hw9]
        clear hw9
        have hh := Mem.heapAt [BlockA (w.heap.size + 1) (C9 3 tx attempt 0 (3 * (j : Int) + 3 - 2) oy ⟨#[]⟩ 0 false) 38] (r := []) hm
        have y0 := (cell_of_heap (i := 0) (v := .int .i64 3) hh rfl).1
        have y1 := (cell_of_heap (i := 1) (v := .int .i64 tx) hh rfl).1
        have y2 := (cell_of_heap (i := 2) (v := .int .i64 attempt) hh rfl).1
        have y3 := (cell_of_heap (i := 3) (v := .int .i64 0) hh rfl).1
        have y4 := (cell_of_heap (i := 4) (v := .int .i64 (3 * (j : Int) + 3 - 2)) hh rfl).1
        have y5 := (cell_of_heap (i := 5) (v := .string oy) hh rfl).1
        have y6 := (cell_of_heap (i := 6) (v := .string ⟨#[]⟩) hh rfl).1
        have y7 := (cell_of_heap (i := 7) (v := .int .i64 0) hh rfl).1
        have y8 := (cell_of_heap (i := 8) (v := .bool false) hh rfl).1
        exact bodyPost_ret (v := .tuple #[.int .i64 sh, .agg #[.int .i64 3, .int .i64 tx, .int .i64 attempt, .int .i64 0, .int .i64 (3 * (j : Int) + 3 - 2), .string oy, .string ⟨#[]⟩, .int .i64 0, .bool false], .bool true]) (by simp [results, Tryd.results15, go_sem, y0, y1, y2, y3, y4, y5, y6, y7, y8]) rfl ⟨HE.out.symm, hm.bel⟩
      )
    | (
        obtain ⟨w9, hw9⟩ : ∃ w9, w9 = (((((((((wc.drew.setCell ⟨w.heap.size, 0, none⟩ (.int .i64 3)).setCell ⟨w.heap.size, 1, none⟩ (.int .i64 tx)).setCell ⟨w.heap.size, 2, none⟩ (.int .i64 attempt)).setCell ⟨w.heap.size, 3, none⟩ (.int .i64 0)).setCell ⟨w.heap.size, 4, none⟩ (.int .i64 (3 * (j : Int) + 3 - 2))).setCell ⟨w.heap.size, 5, none⟩ (.string oy)).setCell ⟨w.heap.size, 6, none⟩ (.string ⟨#[]⟩)).setCell ⟨w.heap.size, 7, none⟩ (.int .i64 0)).setCell ⟨w.heap.size, 8, none⟩ (.bool false)) := ⟨_, rfl⟩
        have hm : Mem w [] w9 [BlockA (w.heap.size + 1) (C9 3 tx attempt 0 (3 * (j : Int) + 3 - 2) oy ⟨#[]⟩ 0 false) 38, BlockA w.heap.size (C9 3 tx attempt 0 (3 * (j : Int) + 3 - 2) oy ⟨#[]⟩ 0 false) 38] := by rw [hw9]; exact HMF.out _ (N9.out.below (bel_drew _))
        rw [← hw9]
        clear hw9
        have hh := Mem.heapAt [BlockA (w.heap.size + 1) (C9 3 tx attempt 0 (3 * (j : Int) + 3 - 2) oy ⟨#[]⟩ 0 false) 38] (r := []) hm
        have y0 := (cell_of_heap (i := 0) (v := .int .i64 3) hh rfl).1
        have y1 := (cell_of_heap (i := 1) (v := .int .i64 tx) hh rfl).1
        have y2 := (cell_of_heap (i := 2) (v := .int .i64 attempt) hh rfl).1
        have y3 := (cell_of_heap (i := 3) (v := .int .i64 0) hh rfl).1
        have y4 := (cell_of_heap (i := 4) (v := .int .i64 (3 * (j : Int) + 3 - 2)) hh rfl).1
        have y5 := (cell_of_heap (i := 5) (v := .string oy) hh rfl).1
        have y6 := (cell_of_heap (i := 6) (v := .string ⟨#[]⟩) hh rfl).1
        have y7 := (cell_of_heap (i := 7) (v := .int .i64 0) hh rfl).1
        have y8 := (cell_of_heap (i := 8) (v := .bool false) hh rfl).1
        exact bodyPost_ret (v := .tuple #[.int .i64 sh, .agg #[.int .i64 3, .int .i64 tx, .int .i64 attempt, .int .i64 0, .int .i64 (3 * (j : Int) + 3 - 2), .string oy, .string ⟨#[]⟩, .int .i64 0, .bool false], .bool true]) (by simp [results, Tryd.results15, go_sem, y0, y1, y2, y3, y4, y5, y6, y7, y8]) rfl ⟨HE.out.symm, hm.bel⟩
      )
set_option maxRecDepth 100000 in
set_option maxHeartbeats 8000000 in
theorem rnext4 (M : Mem w0 [] w (RefA g (.slice sa sn sc) (.slice pa pn pc) r :: q)) (hs : StrsAt w0 sa sn ss) (hl : OpsAt w0 pa pn l) (h7 : sn ≤ 7) (hn : pn ≤ 1000) (htx : 0 ≤ r.tx) (hk : r.asks = 4) (hi0 : 0 ≤ r.i) (hil : r.i < l.length) :
    Calls Tryd.prog 15 #[.pointer (some ⟨g, 0, none⟩)] w fun e w' => e = rnE ss l r ∧ Below w.heap.size w w' := by
  have HC : Hid (∀ W, Below w.heap.size w W → RdAt W g (.slice sa sn sc) (.slice pa pn pc) r) := Lib.hid fun W hb => Mem.rdAt (M.below hb)
  have HST : Hid (∀ W, Below w.heap.size w W → StrsAt W sa sn ss) := Lib.hid fun W hb => hs.keep (M.below hb).bel
  have HOP : Hid (∀ W, Below w.heap.size w W → OpsAt W pa pn l) := Lib.hid fun W hb => hl.below (M.below hb).bel
  have hsl : sn = ss.length := hs.1
  obtain ⟨j, hj⟩ : ∃ j : Nat, r.i = (j : Int) := ⟨r.i.toNat, by omega⟩
  have hjl : j < l.length := by omega
  have HE : Hid (rnE ss l r = .returned (.tuple #[.int .i64 (ofL ss l[j].key), Cmd.val ⟨4, r.tx, r.attempt, 0, 3 * (j : Int) + 4 - 2, l[j].key, r.write.v, 0, r.write.h⟩, .bool true])) := Lib.hid (by
    have e : r.i.toNat = j := by omega
    have e2 : l[j]? = some l[j] := List.getElem?_eq_getElem hjl
    exact rnE_mk (by unfold rnS; rw [if_neg (by omega), if_neg (by omega), if_neg (by omega), e, e2]) (by unfold rnC; rw [if_neg (by omega), if_neg (by omega), if_neg (by omega), e, e2]; simp [hk, hj]) (by simp [hk]))
  unfold Cmd.val at HE
  have HX := Lib.hid hjl
  have HLN := Lib.hid hl.1

  clear M hs hl hsl
  generalize rnE ss l r = ne at *
  obtain ⟨tx, stamp, tries, attempt, asks, i, write, rs, fin, told, quit⟩ := r
  obtain ⟨wv, wh⟩ := write
  simp only at hk htx HE hj
  subst hk
  subst hj
  have hb0 := (HC.out w (Below.refl _ _))
  obtain ⟨t0, t1, t3, t4, t5, t6, t7, t8, t9, t11, t12, tg⟩ := hb0
  simp only at t0 t1 t5 t6 t7 t8 t9 t11 t12
  have N0 : Hid (Mem w [] (w.alloc (.cells (C9 0 0 0 0 0 ⟨#[]⟩ ⟨#[]⟩ 0 false) 38)) [BlockA w.heap.size (C9 0 0 0 0 0 ⟨#[]⟩ ⟨#[]⟩ 0 false) 38]) := Lib.hid ((Mem.nil w).block _ 38)
  have hne : ((sn : Int) + 1 == 0) = false := by rw [beq_eq_false_iff_ne]; omega
  go_enter Tryd.func15, Tryd.ntmps15
  go_upto_region 3 with (fail)
  clear t0 t1 t3 t4 t5 t6 t7 t8 t9 t11 t12 tg
  obtain ⟨t0, t1, t3, t4, t5, t6, t7, t8, t9, t11, t12, tg⟩ := HC.out _ N0.out.bel
  simp only at t0 t1 t5 t6 t7 t8 t9 t11 t12
  obtain ⟨W0, hW0⟩ : ∃ W0, W0 = w.alloc (.cells (C9 0 0 0 0 0 ⟨#[]⟩ ⟨#[]⟩ 0 false) 38) := ⟨_, rfl⟩
  have HZ0 : Hid (W0.heap.size = w.heap.size + 1) := Lib.hid (by rw [hW0]; simp)
  rw [← hW0] at t0 t1 t3 t4 t5 t6 t7 t8 t9 t11 t12 tg N0 ⊢
  clear hW0
  go_cut [5] from 14 to 26 (fun v5 wx => v5 = .pointer (some ⟨w.heap.size + 1, 0, none⟩) ∧ Hid (NX w (C9 4 tx attempt 0 0 ⟨#[]⟩ ⟨#[]⟩ 0 false) wx))
  case first =>
    have N1 : Hid (NX w (C9 4 tx attempt 0 0 ⟨#[]⟩ ⟨#[]⟩ 0 false) ((W0.drew).alloc (.cells (C9 4 tx attempt 0 0 ⟨#[]⟩ ⟨#[]⟩ 0 false) 38))) := Lib.hid (by
      have h := (N0.out.below (bel_drew _)).block (C9 4 tx attempt 0 0 ⟨#[]⟩ ⟨#[]⟩ 0 false) 38
      rw [show W0.drew.heap.size = w.heap.size + 1 from HZ0.out] at h
      exact h)
    have N2 : Hid (NX w (C9 4 tx attempt 0 0 ⟨#[]⟩ ⟨#[]⟩ 0 false) ((W0.alloc (.cells (C9 4 tx attempt 0 0 ⟨#[]⟩ ⟨#[]⟩ 0 false) 38)).drew)) := Lib.hid (by
      have h := (N0.out.block (C9 4 tx attempt 0 0 ⟨#[]⟩ ⟨#[]⟩ 0 false) 38).below (bel_drew _)
      rw [HZ0.out] at h
      exact h)
    go_region
    all_goals
      go_wp2_with fail
      go_meet
      case rel => exact ⟨by rw [← HZ0.out], by first | exact N1 | exact N2⟩
  case rest =>
  obtain ⟨rfl, N1⟩ := hcut
  clear t0 t1 t3 t4 t5 t6 t7 t8 t9 t11 t12 tg
  clear N0 HZ0
  obtain ⟨t0, t1, t3, t4, t5, t6, t7, t8, t9, t11, t12, tg⟩ := HC.out _ N1.out.bel
  simp only at t0 t1 t5 t6 t7 t8 t9 t11 t12
  clear tg
  go_wp2_with fail
  go_quiet (fail)
  have N2 := Lib.hid (N1.out.below (bel_drewN _ nq))
  generalize hW2 : wc.drewN nq = W2 at *
  clear hW2 N1 t0 t1 t3 t4 t5 t6 t7 t8 t9 t11 t12
  obtain ⟨t0, t1, t3, t4, t5, t6, t7, t8, t9, t11, t12, tg⟩ := HC.out _ N2.out.bel
  simp only at t0 t1 t5 t6 t7 t8 t9 t11 t12
  have hjn : j < pn := by have := HLN.out; have := HX.out; omega
  obtain ⟨pb, off, rfl, ⟨o0, o1, o2, o3⟩, -⟩ := (HOP.out _ N2.out.bel).at j HX.out
  have hpb := World.block_lt_of_cell? W2 _ o0
  simp only at hpb
  generalize l[j] = o at *
  obtain ⟨ok, oy, ov, on⟩ := o
  simp only at o0 o1 o2 o3 HE




  have hw1 := IntWalk.i64_in (3 * (j : Int)) (by omega)
  have hw2 := IntWalk.i64_in (3 * (j : Int) + 4) (by omega)
  have hw3 := IntWalk.i64_in (3 * (j : Int) + 4 - 2) (by omega)
  go_upto_region 13 with (fail)
  go_cut [7] from 85 to 94 (fun v7 wx => ∃ b7, v7 = .pointer (some ⟨b7, 0, none⟩) ∧ b7 ≠ w.heap.size + 1 ∧ b7 < wx.heap.size ∧ Hid (NX w (C9 4 tx attempt 0 0 ⟨#[]⟩ ⟨#[]⟩ 0 false) wx) ∧ wx.cell? ⟨b7, 0, none⟩ = some (.int .i64 ok) ∧ wx.cell? ⟨b7, 1, none⟩ = some (.string oy))
  case first =>
    have hws : w.heap.size + 1 < W2.heap.size := lt_of_heap N2.out.mine
    have NA := Lib.hid ((N2.out.below (bel_drew _)).below (bel_new _ (.cells #[.int .i64 ok, .string oy, .string ov, .int .i64 on] 60)))
    have NB := Lib.hid ((N2.out.below (bel_new _ (.cells #[.int .i64 ok, .string oy, .string ov, .int .i64 on] 60))).below (bel_drew _))
    have hA := heap_new W2.drew (.cells #[.int .i64 ok, .string oy, .string ov, .int .i64 on] 60)
    have hB := heap_new W2 (.cells #[.int .i64 ok, .string oy, .string ov, .int .i64 on] 60)
    clear HC HST HOP HE N2
    go_region
    all_goals
      go_wp2_with fail
      go_meet
      case rel => exact ⟨W2.heap.size, by first | rfl | simp, by omega, by simp, by first | exact NA | exact NB, by first | exact (cell_of_heap (i := 0) hA rfl).1 | exact (cell_of_heap (i := 0) hB rfl).1, by first | exact (cell_of_heap (i := 1) hA rfl).1 | exact (cell_of_heap (i := 1) hB rfl).1⟩
  case rest =>
  obtain ⟨b7, rfl, hb7, hb7l, N3, x0, x1⟩ := hcut
  clear N2 o0 o1 o2 o3 hpb
  clear t0 t1 t3 t4 t5 t6 t7 t8 t9 t11 t12 tg
  obtain ⟨t0, t1, t3, t4, t5, t6, t7, t8, t9, t11, t12, tg⟩ := HC.out _ N3.out.bel
  simp only at t0 t1 t5 t6 t7 t8 t9 t11 t12
  have hh := N3.out.mine
  obtain ⟨u0, uf0⟩ := cell_of_heap (i := 0) (v := .int .i64 4) hh rfl
  obtain ⟨u1, uf1⟩ := cell_of_heap (i := 1) (v := .int .i64 tx) hh rfl
  obtain ⟨u2, uf2⟩ := cell_of_heap (i := 2) (v := .int .i64 attempt) hh rfl
  obtain ⟨u3, uf3⟩ := cell_of_heap (i := 3) (v := .int .i64 0) hh rfl
  obtain ⟨u4, uf4⟩ := cell_of_heap (i := 4) (v := .int .i64 0) hh rfl
  obtain ⟨u5, uf5⟩ := cell_of_heap (i := 5) (v := .string ⟨#[]⟩) hh rfl
  obtain ⟨u6, uf6⟩ := cell_of_heap (i := 6) (v := .string ⟨#[]⟩) hh rfl
  obtain ⟨u7, uf7⟩ := cell_of_heap (i := 7) (v := .int .i64 0) hh rfl
  obtain ⟨u8, uf8⟩ := cell_of_heap (i := 8) (v := .bool false) hh rfl
  clear hh
  go_upto_region 15 with (fail)
  have HB7 : Hid (∀ (W : World) i v, (W.setCell ⟨w.heap.size + 1, i, none⟩ v).cell? ⟨b7, 0, none⟩ = W.cell? ⟨b7, 0, none⟩ ∧ (W.setCell ⟨w.heap.size + 1, i, none⟩ v).cell? ⟨b7, 1, none⟩ = W.cell? ⟨b7, 1, none⟩) := Lib.hid fun W i v => ⟨World.cell?_setCell_far W _ _ v (fun h => hb7 h.symm), World.cell?_setCell_far W _ _ v (fun h => hb7 h.symm)⟩
  have N4 : Hid (NX w (C9 4 tx attempt 0 0 oy ⟨#[]⟩ 0 false) (wc.setCell ⟨w.heap.size + 1, 5, none⟩ (.string oy))) := Lib.hid (N3.out.set 5 (.string oy))
  have y0 := (HB7.out wc 5 (.string oy)).1.trans x0
  have y1 := (HB7.out wc 5 (.string oy)).2.trans x1
  generalize wc.setCell ⟨w.heap.size + 1, 5, none⟩ (.string oy) = W4 at *
  clear N3 x0 x1 u0 u1 u2 u3 u4 u5 u6 u7 u8 uf0 uf1 uf2 uf3 uf4 uf5 uf6 uf7 uf8
  clear t0 t1 t3 t4 t5 t6 t7 t8 t9 t11 t12 tg
  obtain ⟨t0, t1, t3, t4, t5, t6, t7, t8, t9, t11, t12, tg⟩ := HC.out _ N4.out.bel
  simp only at t0 t1 t5 t6 t7 t8 t9 t11 t12
  have hh := N4.out.mine
  obtain ⟨u0, uf0⟩ := cell_of_heap (i := 0) (v := .int .i64 4) hh rfl
  obtain ⟨u1, uf1⟩ := cell_of_heap (i := 1) (v := .int .i64 tx) hh rfl
  obtain ⟨u2, uf2⟩ := cell_of_heap (i := 2) (v := .int .i64 attempt) hh rfl
  obtain ⟨u3, uf3⟩ := cell_of_heap (i := 3) (v := .int .i64 0) hh rfl
  obtain ⟨u4, uf4⟩ := cell_of_heap (i := 4) (v := .int .i64 0) hh rfl
  obtain ⟨u5, uf5⟩ := cell_of_heap (i := 5) (v := .string oy) hh rfl
  obtain ⟨u6, uf6⟩ := cell_of_heap (i := 6) (v := .string ⟨#[]⟩) hh rfl
  obtain ⟨u7, uf7⟩ := cell_of_heap (i := 7) (v := .int .i64 0) hh rfl
  obtain ⟨u8, uf8⟩ := cell_of_heap (i := 8) (v := .bool false) hh rfl
  clear hh
  go_cut [] from 98 to 109 (fun wx => Hid (NX w (C9 4 tx attempt 0 (3 * (j : Int) + 4 - 2) oy ⟨#[]⟩ 0 false) wx) ∧ wx.cell? ⟨b7, 0, none⟩ = some (.int .i64 ok) ∧ wx.cell? ⟨b7, 1, none⟩ = some (.string oy))
  case first =>
    have NA := Lib.hid ((N4.out.below (bel_drew _)).set 4 (.int .i64 (3 * (j : Int) + 4 - 2)))
    have NB := Lib.hid ((N4.out.set 4 (.int .i64 (3 * (j : Int) + 4 - 2))).below (bel_drew _))
    have hA := (HB7.out W4.drew 4 (.int .i64 (3 * (j : Int) + 4 - 2)))
    clear HC HST HOP HE N4
    go_region
    all_goals
      go_wp2_with fail
      go_meet
      case rel => exact ⟨by first | exact NA | exact NB, by first | exact hA.1.trans y0, by first | exact hA.2.trans y1⟩
  case rest =>
  obtain ⟨N5, x0, x1⟩ := hcut
  clear N4 y0 y1 u0 u1 u2 u3 u4 u5 u6 u7 u8 uf0 uf1 uf2 uf3 uf4 uf5 uf6 uf7 uf8
  clear t0 t1 t3 t4 t5 t6 t7 t8 t9 t11 t12 tg
  obtain ⟨t0, t1, t3, t4, t5, t6, t7, t8, t9, t11, t12, tg⟩ := HC.out _ N5.out.bel
  simp only at t0 t1 t5 t6 t7 t8 t9 t11 t12
  have hh := N5.out.mine
  obtain ⟨u0, uf0⟩ := cell_of_heap (i := 0) (v := .int .i64 4) hh rfl
  obtain ⟨u1, uf1⟩ := cell_of_heap (i := 1) (v := .int .i64 tx) hh rfl
  obtain ⟨u2, uf2⟩ := cell_of_heap (i := 2) (v := .int .i64 attempt) hh rfl
  obtain ⟨u3, uf3⟩ := cell_of_heap (i := 3) (v := .int .i64 0) hh rfl
  obtain ⟨u4, uf4⟩ := cell_of_heap (i := 4) (v := .int .i64 (3 * (j : Int) + 4 - 2)) hh rfl
  obtain ⟨u5, uf5⟩ := cell_of_heap (i := 5) (v := .string oy) hh rfl
  obtain ⟨u6, uf6⟩ := cell_of_heap (i := 6) (v := .string ⟨#[]⟩) hh rfl
  obtain ⟨u7, uf7⟩ := cell_of_heap (i := 7) (v := .int .i64 0) hh rfl
  obtain ⟨u8, uf8⟩ := cell_of_heap (i := 8) (v := .bool false) hh rfl
  clear hh
  go_upto_if 124 with (fail)
  go_cut [] from 125 to 136 (fun wx => Hid (NX w (C9 4 tx attempt 0 (3 * (j : Int) + 4 - 2) oy wv 0 wh) wx) ∧ wx.cell? ⟨b7, 1, none⟩ = some (.string oy))
  case first =>
    have NA := Lib.hid (((N5.out.set 6 (.string wv)).set 8 (.bool wh)).below (bel_drew _))
    have NB := Lib.hid (((N5.out.below (bel_drew _)).set 6 (.string wv)).set 8 (.bool wh))
    have NC := Lib.hid (((N5.out.set 8 (.bool wh)).set 6 (.string wv)).below (bel_drew _))
    have NDD := Lib.hid (((N5.out.below (bel_drew _)).set 8 (.bool wh)).set 6 (.string wv))
    have hA := (HB7.out (wc.setCell ⟨w.heap.size + 1, 6, none⟩ (.string wv)) 8 (.bool wh)).2.trans ((HB7.out wc 6 (.string wv)).2.trans x1)
    have hB := (HB7.out (wc.setCell ⟨w.heap.size + 1, 8, none⟩ (.bool wh)) 6 (.string wv)).2.trans ((HB7.out wc 8 (.bool wh)).2.trans x1)
    clear HC HST HOP HE N5
    go_wp2_with fail
    go_region
    all_goals
      go_wp2_with fail
      go_meet
      case rel => exact ⟨by first | exact NA | exact NB | exact NC | exact NDD, by first | exact hA | exact hB⟩
  case rest =>
  obtain ⟨N6, x1⟩ := hcut
  clear N5 x0 u0 u1 u2 u3 u4 u5 u6 u7 u8 uf0 uf1 uf2 uf3 uf4 uf5 uf6 uf7 uf8
  clear t0 t1 t3 t4 t5 t6 t7 t8 t9 t11 t12 tg
  obtain ⟨t0, t1, t3, t4, t5, t6, t7, t8, t9, t11, t12, tg⟩ := HC.out _ N6.out.bel
  simp only at t0 t1 t5 t6 t7 t8 t9 t11 t12
  go_upto_region 22 with (fail)
  have HOF : Hid (∀ W, Below w.heap.size w W → Calls Tryd.prog 35 #[.slice sa sn sc, .string oy] W fun e w' => e = .returned (.int .i64 (ofL ss oy)) ∧ W = w') := Lib.hid fun W hb => refOf_any sa sn sc ss oy W (by unfold maxLen; omega) (HST.out W hb)
  clear HC HST HOP
  generalize ofL ss oy = sh at *
  have HOF1 := Lib.hid (HOF.out _ (N6.out.below (bel_drew _)).bel)
  have hh := N6.out.mine
  obtain ⟨u0, uf0⟩ := cell_of_heap (i := 0) (v := .int .i64 4) hh rfl
  obtain ⟨u1, uf1⟩ := cell_of_heap (i := 1) (v := .int .i64 tx) hh rfl
  obtain ⟨u2, uf2⟩ := cell_of_heap (i := 2) (v := .int .i64 attempt) hh rfl
  obtain ⟨u3, uf3⟩ := cell_of_heap (i := 3) (v := .int .i64 0) hh rfl
  obtain ⟨u4, uf4⟩ := cell_of_heap (i := 4) (v := .int .i64 (3 * (j : Int) + 4 - 2)) hh rfl
  obtain ⟨u5, uf5⟩ := cell_of_heap (i := 5) (v := .string oy) hh rfl
  obtain ⟨u6, uf6⟩ := cell_of_heap (i := 6) (v := .string wv) hh rfl
  obtain ⟨u7, uf7⟩ := cell_of_heap (i := 7) (v := .int .i64 0) hh rfl
  obtain ⟨u8, uf8⟩ := cell_of_heap (i := 8) (v := .bool wh) hh rfl
  clear hh
  have hh := N6.out.res
  obtain ⟨z0, zf0⟩ := cell_of_heap (i := 0) (v := .int .i64 0) hh rfl
  obtain ⟨z1, zf1⟩ := cell_of_heap (i := 1) (v := .int .i64 0) hh rfl
  obtain ⟨z2, zf2⟩ := cell_of_heap (i := 2) (v := .int .i64 0) hh rfl
  obtain ⟨z3, zf3⟩ := cell_of_heap (i := 3) (v := .int .i64 0) hh rfl
  obtain ⟨z4, zf4⟩ := cell_of_heap (i := 4) (v := .int .i64 0) hh rfl
  obtain ⟨z5, zf5⟩ := cell_of_heap (i := 5) (v := .string ⟨#[]⟩) hh rfl
  obtain ⟨z6, zf6⟩ := cell_of_heap (i := 6) (v := .string ⟨#[]⟩) hh rfl
  obtain ⟨z7, zf7⟩ := cell_of_heap (i := 7) (v := .int .i64 0) hh rfl
  obtain ⟨z8, zf8⟩ := cell_of_heap (i := 8) (v := .bool false) hh rfl
  clear hh
  have HMF : Hid (∀ W, NX w (C9 4 tx attempt 0 (3 * (j : Int) + 4 - 2) oy wv 0 wh) W → Mem w [] ((((((((((W.setCell ⟨w.heap.size, 0, none⟩ (.int .i64 4)).setCell ⟨w.heap.size, 1, none⟩ (.int .i64 tx)).setCell ⟨w.heap.size, 2, none⟩ (.int .i64 attempt)).setCell ⟨w.heap.size, 3, none⟩ (.int .i64 0)).setCell ⟨w.heap.size, 4, none⟩ (.int .i64 (3 * (j : Int) + 4 - 2))).setCell ⟨w.heap.size, 5, none⟩ (.string oy)).setCell ⟨w.heap.size, 6, none⟩ (.string wv)).setCell ⟨w.heap.size, 7, none⟩ (.int .i64 0)).setCell ⟨w.heap.size, 8, none⟩ (.bool wh))) [BlockA (w.heap.size + 1) (C9 4 tx attempt 0 (3 * (j : Int) + 4 - 2) oy wv 0 wh) 38, BlockA w.heap.size (C9 4 tx attempt 0 (3 * (j : Int) + 4 - 2) oy wv 0 wh) 38]) := Lib.hid fun W h => Mem.set9 [BlockA (w.heap.size + 1) (C9 4 tx attempt 0 (3 * (j : Int) + 4 - 2) oy wv 0 wh) 38] (r := []) h (.int .i64 4) (.int .i64 tx) (.int .i64 attempt) (.int .i64 0) (.int .i64 (3 * (j : Int) + 4 - 2)) (.string oy) (.string wv) (.int .i64 0) (.bool wh)
  have N9 := N6
  clear N6
  go_region_with (go_at_call 35; refine HOF1.out.mono ?_; rintro e w6 ⟨rfl, rfl⟩)
  all_goals
    go_wp2_with fail
    first
    | (
        obtain ⟨w9, hw9⟩ : ∃ w9, w9 = ((((((((((wc.setCell ⟨w.heap.size, 0, none⟩ (.int .i64 4)).setCell ⟨w.heap.size, 1, none⟩ (.int .i64 tx)).setCell ⟨w.heap.size, 2, none⟩ (.int .i64 attempt)).setCell ⟨w.heap.size, 3, none⟩ (.int .i64 0)).setCell ⟨w.heap.size, 4, none⟩ (.int .i64 (3 * (j : Int) + 4 - 2))).setCell ⟨w.heap.size, 5, none⟩ (.string oy)).setCell ⟨w.heap.size, 6, none⟩ (.string wv)).setCell ⟨w.heap.size, 7, none⟩ (.int .i64 0)).setCell ⟨w.heap.size, 8, none⟩ (.bool wh))).drew := ⟨_, rfl⟩
        have hm : Mem w [] w9 [BlockA (w.heap.size + 1) (C9 4 tx attempt 0 (3 * (j : Int) + 4 - 2) oy wv 0 wh) 38, BlockA w.heap.size (C9 4 tx attempt 0 (3 * (j : Int) + 4 - 2) oy wv 0 wh) 38] := by rw [hw9]; exact Mem.below (HMF.out _ N9.out) (bel_drew _)
        rw [← hw9]
        clear hw9
        have hh := Mem.heapAt [BlockA (w.heap.size + 1) (C9 4 tx attempt 0 (3 * (j : Int) + 4 - 2) oy wv 0 wh) 38] (r := []) hm
        have y0 := (cell_of_heap (i := 0) (v := .int .i64 4) hh rfl).1
        have y1 := (cell_of_heap (i := 1) (v := .int .i64 tx) hh rfl).1
        have y2 := (cell_of_heap (i := 2) (v := .int .i64 attempt) hh rfl).1
        have y3 := (cell_of_heap (i := 3) (v := .int .i64 0) hh rfl).1
        have y4 := (cell_of_heap (i := 4) (v := .int .i64 (3 * (j : Int) + 4 - 2)) hh rfl).1
        have y5 := (cell_of_heap (i := 5) (v := .string oy) hh rfl).1
        have y6 := (cell_of_heap (i := 6) (v := .string wv) hh rfl).1
        have y7 := (cell_of_heap (i := 7) (v := .int .i64 0) hh rfl).1
        have y8 := (cell_of_heap (i := 8) (v := .bool wh) hh rfl).1
        exact bodyPost_ret (v := .tuple #[.int .i64 sh, .agg #[.int .i64 4, .int .i64 tx, .int .i64 attempt, .int .i64 0, .int .i64 (3 * (j : Int) + 4 - 2), .string oy, .string wv, .int .i64 0, .bool wh], .bool true]) (by simp [results, Tryd.results15, go_sem, y0, y1, y2, y3, y4, y5, y6, y7, y8]) rfl ⟨HE.out.symm, hm.bel⟩
      )
    | (
        obtain ⟨w9, hw9⟩ : ∃ w9, w9 = (((((((((wc.drew.setCell ⟨w.heap.size, 0, none⟩ (.int .i64 4)).setCell ⟨w.heap.size, 1, none⟩ (.int .i64 tx)).setCell ⟨w.heap.size, 2, none⟩ (.int .i64 attempt)).setCell ⟨w.heap.size, 3, none⟩ (.int .i64 0)).setCell ⟨w.heap.size, 4, none⟩ (.int .i64 (3 * (j : Int) + 4 - 2))).setCell ⟨w.heap.size, 5, none⟩ (.string oy)).setCell ⟨w.heap.size, 6, none⟩ (.string wv)).setCell ⟨w.heap.size, 7, none⟩ (.int .i64 0)).setCell ⟨w.heap.size, 8, none⟩ (.bool wh)) := ⟨_, rfl⟩
        have hm : Mem w [] w9 [BlockA (w.heap.size + 1) (C9 4 tx attempt 0 (3 * (j : Int) + 4 - 2) oy wv 0 wh) 38, BlockA w.heap.size (C9 4 tx attempt 0 (3 * (j : Int) + 4 - 2) oy wv 0 wh) 38] := by rw [hw9]; exact HMF.out _ (N9.out.below (bel_drew _))
        rw [← hw9]
        clear hw9
        have hh := Mem.heapAt [BlockA (w.heap.size + 1) (C9 4 tx attempt 0 (3 * (j : Int) + 4 - 2) oy wv 0 wh) 38] (r := []) hm
        have y0 := (cell_of_heap (i := 0) (v := .int .i64 4) hh rfl).1
        have y1 := (cell_of_heap (i := 1) (v := .int .i64 tx) hh rfl).1
        have y2 := (cell_of_heap (i := 2) (v := .int .i64 attempt) hh rfl).1
        have y3 := (cell_of_heap (i := 3) (v := .int .i64 0) hh rfl).1
        have y4 := (cell_of_heap (i := 4) (v := .int .i64 (3 * (j : Int) + 4 - 2)) hh rfl).1
        have y5 := (cell_of_heap (i := 5) (v := .string oy) hh rfl).1
        have y6 := (cell_of_heap (i := 6) (v := .string wv) hh rfl).1
        have y7 := (cell_of_heap (i := 7) (v := .int .i64 0) hh rfl).1
        have y8 := (cell_of_heap (i := 8) (v := .bool wh) hh rfl).1
        exact bodyPost_ret (v := .tuple #[.int .i64 sh, .agg #[.int .i64 4, .int .i64 tx, .int .i64 attempt, .int .i64 0, .int .i64 (3 * (j : Int) + 4 - 2), .string oy, .string wv, .int .i64 0, .bool wh], .bool true]) (by simp [results, Tryd.results15, go_sem, y0, y1, y2, y3, y4, y5, y6, y7, y8]) rfl ⟨HE.out.symm, hm.bel⟩
      )
end
end Go.Proofs.YtmifgnibalbgjaaDoor
