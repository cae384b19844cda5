/- ScheduleSwap walked. -/
import Derived.Test.YtbgabdofnmijnaaAA
import Derived.Test.YtbgabdofnmijnaaAG
import Derived.Test.YtbgabdofnmijnaaAF
import Derived.BigRegion
import Derived.BigQuiet
namespace Go.Proofs.Ytbgabdofnmijnaa
open Go.RowKit
theorem Row.setCell {w : World} {E k g n c : Nat} {xs : List Value} (h : Row w E k (some ⟨g, 0, none⟩) n c xs) (j : Nat) (v : Value) : Row (w.setCell ⟨g, j, none⟩ v) E k (some ⟨g, 0, none⟩) n c (xs.set j v) := by
  rcases h.out with ⟨e, _⟩ | ⟨g', cur, e, hg, h1, h2, h3, h4, h5⟩
  · cases e
  · obtain rfl : g = g' := by simpa using e
    refine Row.mk (heap_set hg v) h1 h2 (by simpa using h3) ?_
    rw [← h4]
    simp [List.take_set]
theorem Mem.rowSet {w0 w : World} {D0 : List Nat} (l : List Asn) {r : List Asn} [Stables l] [Stables r] {E k g n c : Nat} {xs : List Value} (h : Mem w0 D0 w (l ++ RowA E k (some ⟨g, 0, none⟩) n c xs :: r)) (j : Nat) (v : Value) : Mem w0 D0 (w.setCell ⟨g, j, none⟩ v) (l ++ RowA E k (some ⟨g, 0, none⟩) n c (xs.set j v) :: r) := by
  obtain ⟨D, ⟨rfl, hr⟩, k⟩ := Mem.focus l h
  exact k [RowA E _ (some ⟨g, 0, none⟩) n c (xs.set j v)] _ (blkOf (some ⟨g, 0, none⟩)) (all_one ⟨rfl, Row.setCell hr j _⟩) ⟨Touch.setCell _ _ _ (by simp [blkOf]), fun x hx => .inl hx⟩
theorem Mem.ne {w0 w : World} {D0 : List Nat} {E k g n c p : Nat} {xs : List Value} {cur : Array Value} {T : TypeId} (l : List Asn) {r : List Asn} [Stables l] [Stables r] (h : Mem w0 D0 w (RowA E k (some ⟨g, 0, none⟩) n c xs :: (l ++ BlockA p cur T :: r))) : p ≠ g := by
  obtain ⟨D, hD, _⟩ := h.out
  obtain ⟨D1, D2, rfl, hd, ⟨rfl, _⟩, hA⟩ := hD
  obtain ⟨D3, D4, rfl, _, _, E1, E2, rfl, _, ⟨rfl, _⟩, _⟩ := all_append l (BlockA p cur T :: r) hA
  rintro rfl
  exact hd p (by simp [blkOf]) (List.mem_append_right _ (List.mem_append_left _ (by simp)))
theorem mkFlat_set3 : ∀ (L : List Mk) (q : Nat) (_ : q < L.length) (k t : Int) (y : ByteArray), (((mkFlat L).set (q * 3) (.int .i64 k)).set (q * 3 + 1) (.int .i64 t)).set (q * 3 + 2) (.string y) = mkFlat (L.set q ⟨k, t, y⟩)
  | [], _, h, _, _, _ => by cases h
  | x :: r, 0, _, k, t, y => by simp [mkFlat]
  | x :: r, q + 1, h, k, t, y => by
    have := mkFlat_set3 r q (by simpa using h) k t y
    rw [show (q + 1) * 3 + 1 = (q * 3 + 1) + 1 + 1 + 1 by omega, show (q + 1) * 3 + 2 = (q * 3 + 2) + 1 + 1 + 1 by omega, show (q + 1) * 3 = q * 3 + 1 + 1 + 1 by omega]
    simp only [mkFlat, List.set_cons_succ]
    rw [this]
theorem srFlat_set2 : ∀ (L : List Sr) (q : Nat) (_ : q < L.length) (t y : Int), ((srFlat L).set (q * 2) (.int .i64 t)).set (q * 2 + 1) (.int .i64 y) = srFlat (L.set q ⟨t, y⟩)
  | [], _, h, _, _ => by cases h
  | x :: r, 0, _, t, y => by simp [srFlat]
  | x :: r, q + 1, h, t, y => by
    have := srFlat_set2 r q (by simpa using h) t y
    rw [show (q + 1) * 2 + 1 = (q * 2 + 1) + 1 + 1 by omega, show (q + 1) * 2 = q * 2 + 1 + 1 by omega]
    simp only [srFlat, List.set_cons_succ]
    rw [this]
theorem MksAt.sub {w : World} {a : Option Addr} {n c : Nat} {l : List Mk} (h : MksAt w a n l) (hn : 0 < n) : SubV w 3 (.slice a n c) n (mkFlat l) := by
  obtain ⟨b, off, rfl, _⟩ := h.2 0 (by rw [← h.1]; exact hn)
  refine ⟨by rw [mkFlat_len, h.1], mkFlat_one l, .inr ⟨b, off, c, rfl, fun j u hj => ?_⟩⟩
  have hjl : j < (mkFlat l).length := (List.getElem?_eq_some_iff.1 hj).1
  rw [mkFlat_len] at hjl
  have hq : j / 3 < l.length := by omega
  obtain ⟨b', off', e, h0, h1, h2⟩ := h.at (j / 3) hq
  obtain ⟨rfl, rfl⟩ : b = b' ∧ off = off' := by simpa using e
  obtain ⟨f0, f1, f2⟩ := mkFlat_get l (j / 3) hq
  have hj3 : j = j / 3 * 3 ∨ j = j / 3 * 3 + 1 ∨ j = j / 3 * 3 + 2 := by omega
  rcases hj3 with e3 | e3 | e3
  · rw [e3] at hj ⊢
    rw [f0] at hj
    rw [h0]; exact hj
  · rw [e3] at hj ⊢
    rw [f1] at hj
    rw [← Nat.add_assoc, h1]; exact hj
  · rw [e3] at hj ⊢
    rw [f2] at hj
    rw [← Nat.add_assoc, h2]; exact hj
set_option maxRecDepth 100000 in
set_option maxHeartbeats 64000000 in
theorem swap_law (a : Option Addr) (n c : Nat) (l : List Mk) (t : Int) (w : World) (hn : n ≤ maxLen) (hnc : n ≤ c) (h : MksAt w a n l) (ht : 0 ≤ t ∧ t ≤ 255) :
    Calls Try.prog 6 #[.slice a n c, .int .u8 t] w fun e w' => e = .returned (.bool true) ∧ Below w.heap.size w w' := by
  have HF := Lib.hid (fixed_any w)
  have HFEW := Lib.hid fun w1 (hb : Below w.heap.size w w1) => few_any a n c l w1 hn (h.below hb)
  have HA := Lib.hid h
  have HL := Lib.hid h.1
  unfold maxLen at hn
  clear h
  cases hfew : fewM l with
  | false =>
    rw [hfew] at HFEW
    clear hfew
    go_enter Try.func6, Try.ntmps6
    go_wp2_with fail
    refine HF.out.mono ?_
    rintro e w1 ⟨rfl, hb⟩
    have HB := Lib.hid hb
    have HW := Lib.hid (HFEW.out _ hb)
    clear hb HFEW
    go_wp2_with fail
    refine HW.out.mono ?_
    rintro e w2 ⟨rfl, hb⟩
    have HB2 := Lib.hid (HB.out.trans (hb.mono HB.out.size))
    clear hb
    go_wp2_with fail
    go_ret
    exact ⟨rfl, HB2.out⟩
  | true =>
    have hn40 : n ≤ 40 := by rw [HL.out]; exact few_len hfew
    rw [hfew] at HFEW
    clear hfew
    by_cases h2 : (n : Int) < 2
    · go_enter Try.func6, Try.ntmps6
      go_wp2_with fail
      refine HF.out.mono ?_
      rintro e w1 ⟨rfl, hb⟩
      have HB := Lib.hid hb
      have HW := Lib.hid (HFEW.out _ hb)
      clear hb HFEW
      go_wp2_with fail
      refine HW.out.mono ?_
      rintro e w2 ⟨rfl, hb⟩
      have HB2 := Lib.hid (HB.out.trans (hb.mono HB.out.size))
      clear hb
      go_wp2_with fail
      go_ret
      exact ⟨rfl, HB2.out⟩
    · obtain ⟨i, hi⟩ : ∃ i : Nat, t.tmod ((n : Int) - 1) = (i : Int) := ⟨(t.tmod ((n : Int) - 1)).toNat, by
        have := Int.tmod_nonneg ((n : Int) - 1) ht.1
        omega⟩
      have hib : i + 1 < n := by
        have := Int.tmod_lt_of_pos t (show (0 : Int) < (n : Int) - 1 by omega)
        omega
      have hi' : i < l.length := by rw [← HL.out]; omega
      have hi1' : i + 1 < l.length := by rw [← HL.out]; omega
      go_enter Try.func6, Try.ntmps6
      go_wp2_with fail
      refine HF.out.mono ?_
      rintro e w1 ⟨rfl, hb⟩
      have HB := Lib.hid hb
      have HW := Lib.hid (HFEW.out _ hb)
      clear hb HFEW
      go_wp2_with fail
      refine HW.out.mono ?_
      rintro e w2 ⟨rfl, hb⟩
      have M2 := Lib.hid ((Mem.nil w).below (HB.out.trans (hb.mono HB.out.size)))
      clear hb
      obtain ⟨g, off, rfl, hcA, hcB, hcD⟩ := (HA.out.below M2.out.bel).at i hi'
      obtain ⟨g', off', he, hdA, hdB, hdD⟩ := (HA.out.below M2.out.bel).at (i + 1) hi1'
      obtain ⟨rfl, rfl⟩ : g = g' ∧ off = off' := by simpa using he
      clear he
      generalize hgx : l[i] = x at *
      generalize hgy : l[i + 1] = y at *
      obtain ⟨xk, xt, xy⟩ := x
      obtain ⟨yk, yt, yy⟩ := y
      simp only at hcA hcB hcD hdA hdB hdD
      have hwr1 : IntKind.i64.wrap ((i : Int) + 1) = (i : Int) + 1 := IntWalk.i64_in _ (by omega)
      have al1 : ∀ (W : World) (p : Addr) (v : Value) (o : Obj), W.cell? p = some v → (W.alloc o).cell? p = some v := fun W p v o hp => ((bel_new W o).cell (World.block_lt_of_cell? W _ hp)).trans hp
      have qA1 := fun o => al1 _ _ _ o hcA
      have qB1 := fun o => al1 _ _ _ o hcB
      have qD1 := fun o => al1 _ _ _ o hcD
      have pA1 := fun o => al1 _ _ _ o hdA
      have pB1 := fun o => al1 _ _ _ o hdB
      have pD1 := fun o => al1 _ _ _ o hdD
      have qA2 := fun o o' => al1 _ _ _ o' (qA1 o)
      have qB2 := fun o o' => al1 _ _ _ o' (qB1 o)
      have qD2 := fun o o' => al1 _ _ _ o' (qD1 o)
      have pA2 := fun o o' => al1 _ _ _ o' (pA1 o)
      have pB2 := fun o o' => al1 _ _ _ o' (pB1 o)
      have pD2 := fun o o' => al1 _ _ _ o' (pD1 o)
      clear al1
      have hiz : (i : Int) < (n : Int) := by omega
      have hiz1 : (i : Int) + 1 < (n : Int) := by omega
      go_wp2_with fail
      obtain ⟨sm, hsm⟩ : ∃ sm, IntKind.i64.wrap (xk + yk) = sm := ⟨_, rfl⟩
      have HRR := Lib.hid fun w1 (hb : Below w.heap.size w w1) => rright_any _ n c l w1 (HA.out.below hb) (by omega) hnc
      go_region
      · have M3 := Lib.hid (show Mem w [] ((w2.alloc (.cells #[.int .i64 xk, .int .i64 xt, .string xy] 36)).alloc (.cells #[.int .i64 yk, .int .i64 yt, .string yy] 36)).drew [BlockA w2.heap.size #[.int .i64 xk, .int .i64 xt, .string xy] 36, BlockA (w2.heap.size + 1) #[.int .i64 yk, .int .i64 yt, .string yy] 36] from by
          have h1 := (M2.out.block #[.int .i64 xk, .int .i64 xt, .string xy] 36).block #[.int .i64 yk, .int .i64 yt, .string yy] 36
          rw [show (w2.alloc (.cells #[.int .i64 xk, .int .i64 xt, .string xy] 36)).heap.size = w2.heap.size + 1 by simp] at h1
          exact (Mem.swap [] h1).below (bel_drew _))
        clear qA1 qB1 qD1 pA1 pB1 pD1 qA2 qB2 qD2 pA2 pB2 pD2 hcA hcB hcD hdA hdB hdD M2
        generalize w2.heap.size + 1 = pb at *
        generalize w2.heap.size = pa at *
        obtain ⟨W3, hW3⟩ : ∃ W3, W3 = ((w2.alloc (.cells #[.int .i64 xk, .int .i64 xt, .string xy] 36)).alloc (.cells #[.int .i64 yk, .int .i64 yt, .string yy] 36)).drew := ⟨_, rfl⟩
        rw [← hW3] at M3 ⊢
        clear hW3
        obtain ⟨k0, k1, k2⟩ := box_cells M3.out
        obtain ⟨j0, j1, j2⟩ := box_cells2 M3.out
        by_cases e1 : xt = yt
        · have e1' : (xt == yt) = true := by simpa using e1
          clear e1
          go_wp2_with fail
          go_ret
          exact ⟨rfl, M3.out.bel⟩
        have e1' : (xt == yt) = false := by simpa using e1
        by_cases e2 : 2 < xk
        · go_wp2_with fail
          go_ret
          exact ⟨rfl, M3.out.bel⟩
        by_cases e3 : 2 < yk
        · go_wp2_with fail
          go_ret
          exact ⟨rfl, M3.out.bel⟩
        have HR1 := Lib.hid (HRR.out W3 M3.out.bel)
        by_cases e4 : xy.toList = yy.toList ∧ 2 < sm
        · have e4' : (xy.toList == yy.toList) = true := by simpa using e4.1
          have e5 := e4.2
          clear e4
          go_wp2_with fail
          go_ret
          exact ⟨rfl, M3.out.bel⟩
        have tri : (xy.toList == yy.toList) = false ∨ ((xy.toList == yy.toList) = true ∧ ¬ 2 < sm) := by
          by_cases q1 : xy.toList = yy.toList
          · exact .inr ⟨by simpa using q1, fun q2 => e4 ⟨q1, q2⟩⟩
          · exact .inl (by simpa using q1)
        by_cases h0 : rightM l = 0
        · rw [h0] at HR1
          have hR := ((right_iff l).1 h0).2
          have hx3 := nodd (hR.odd _ (List.getElem_mem hi'))
          have hy3 := nodd (hR.odd _ (List.getElem_mem hi1'))
          rw [hgx] at hx3
          rw [hgy] at hy3
          simp only at hx3 hy3
          have hsm2 : sm = xk + yk := by rw [← hsm, IntWalk.i64_in _ (by omega)]
          have HSW : Hid (SwP l i) := Lib.hid ⟨h0, hi1', by rw [hgx, hgy]; exact e1, by rw [hgx]; show xk ≤ 2; omega, by rw [hgy]; show yk ≤ 2; omega, by rw [hgx, hgy]; rintro ⟨q1, q2⟩; exact e4 ⟨q1, by rw [hsm2]; exact q2⟩⟩
          have HR0 := Lib.hid h0
          clear h0 hR hx3 hy3 hsm2 e4 e1
          rcases tri with hky | ⟨hky, e6⟩
          all_goals
            go_wp2_with fail
            refine HR1.out.mono ?_
            rintro e w4 ⟨rfl, hb⟩
            have M4 := Lib.hid (M3.out.below hb)
            clear hb M3 HR1 k0 k1 k2 j0 j1 j2
            have M5 := Lib.hid (show Mem w [] (w4.alloc (.cells #[] 36)) ([] ++ RowA 36 3 (some ⟨w4.heap.size, 0, none⟩) 0 0 [] :: [BlockA pa #[.int .i64 xk, .int .i64 xt, .string xy] 36, BlockA pb #[.int .i64 yk, .int .i64 yt, .string yy] 36]) from M4.out.new (bel_new _ _) (As := [RowA 36 3 (some ⟨w4.heap.size, 0, none⟩) 0 0 []]) (all_one ⟨rfl, row_empty (heap_new w4 (.cells #[] 36))⟩) (by simp [blkOf]))
            obtain ⟨b5, d5, w5, hrun, hr5, ht5, hf5⟩ := app_row_src (P := Try.prog) (w4.alloc (.cells #[] 36)) 22 22 36 Try.underlying22 infoMk rfl (by decide) (some ⟨w4.heap.size, 0, none⟩) 0 0 [] (Mem.rowAt [] M5.out) (.slice (some ⟨g, off, none⟩) n c) n (mkFlat l) (MksAt.sub (HA.out.below M5.out.bel) (by omega)) (by omega) (by decide)
            rw [Nat.zero_add] at hrun hr5
            rw [List.nil_append] at hr5
            have HRUN := Lib.hid hrun
            have M6 := Lib.hid (show Mem w [] w5 ([] ++ RowA 36 3 b5 n d5 (mkFlat l) :: [BlockA pa #[.int .i64 xk, .int .i64 xt, .string xy] 36, BlockA pb #[.int .i64 yk, .int .i64 yt, .string yy] 36]) from Mem.rowTurn [] M5.out hr5 ht5 hf5)
            obtain ⟨gm, rfl, -⟩ := mkAt_row hr5 i hi'
            have hdn := row_cap hr5
            clear hrun hr5 ht5 hf5 M4 M5
            obtain ⟨f0, f1, f2⟩ := mkFlat_get l i hi'
            obtain ⟨f3, f4, f5⟩ := mkFlat_get l (i + 1) hi1'
            obtain ⟨c0, z0⟩ := row_cell (Mem.rowAt [] M6.out) f0
            obtain ⟨c1, z1⟩ := row_cell (Mem.rowAt [] M6.out) f1
            obtain ⟨c2, z2⟩ := row_cell (Mem.rowAt [] M6.out) f2
            obtain ⟨c3, z3⟩ := row_cell (Mem.rowAt [] M6.out) f3
            obtain ⟨c4, z4⟩ := row_cell (Mem.rowAt [] M6.out) f4
            obtain ⟨c5, z5⟩ := row_cell (Mem.rowAt [] M6.out) f5
            obtain ⟨k0, k1, k2⟩ := box_cells2 M6.out
            obtain ⟨j0, -⟩ := Mem.cellAt (i := 0) [RowA 36 3 (some ⟨gm, 0, none⟩) n d5 (mkFlat l), BlockA pa #[.int .i64 xk, .int .i64 xt, .string xy] 36] (r := []) M6.out rfl
            obtain ⟨j1, -⟩ := Mem.cellAt (i := 1) [RowA 36 3 (some ⟨gm, 0, none⟩) n d5 (mkFlat l), BlockA pa #[.int .i64 xk, .int .i64 xt, .string xy] 36] (r := []) M6.out rfl
            obtain ⟨j2, -⟩ := Mem.cellAt (i := 2) [RowA 36 3 (some ⟨gm, 0, none⟩) n d5 (mkFlat l), BlockA pa #[.int .i64 xk, .int .i64 xt, .string xy] 36] (r := []) M6.out rfl
            rw [hgx] at c0 c1 c2
            rw [hgy] at c3 c4 c5
            simp only at c0 c1 c2 c3 c4 c5
            clear f0 f1 f2 f3 f4 f5
            have ne1 := Mem.ne [] (r := [BlockA pb #[.int .i64 yk, .int .i64 yt, .string yy] 36]) M6.out
            have ne2 := Mem.ne [BlockA pa #[.int .i64 xk, .int .i64 xt, .string xy] 36] (r := []) M6.out
            have ne3 := ne1.symm
            have ne4 := ne2.symm
            go_wp2_with ((at_builtin; refine wpList_appendR _ rfl (.tmp 74) (.tmp 75) 22 22 rfl (.slice (some ⟨w4.heap.size, 0, none⟩) 0 0) (.slice (some ⟨g, off, none⟩) n c) rfl rfl HRUN.out ?_))
            go_region
            obtain ⟨W6, hW6⟩ : ∃ W6, W6 = ((((((w5.setCell ⟨gm, i * 3, none⟩ (.int .i64 yk)).setCell ⟨gm, i * 3 + 1, none⟩ (.int .i64 yt)).setCell ⟨gm, i * 3 + 2, none⟩ (.string yy)).setCell ⟨gm, (i + 1) * 3, none⟩ (.int .i64 xk)).setCell ⟨gm, (i + 1) * 3 + 1, none⟩ (.int .i64 xt)).setCell ⟨gm, (i + 1) * 3 + 2, none⟩ (.string xy)).drew := ⟨_, rfl⟩
            obtain ⟨m, hm⟩ : ∃ m, m = (l.set i l[i + 1]!).set (i + 1) l[i]! := ⟨_, rfl⟩
            have M7 := Lib.hid (show Mem w [] W6 [RowA 36 3 (some ⟨gm, 0, none⟩) n d5 (mkFlat m), BlockA pa #[.int .i64 xk, .int .i64 xt, .string xy] 36, BlockA pb #[.int .i64 yk, .int .i64 yt, .string yy] 36] from by
              have h1 := Mem.rowSet [] (Mem.rowSet [] (Mem.rowSet [] (Mem.rowSet [] (Mem.rowSet [] (Mem.rowSet [] M6.out (i * 3) (.int .i64 yk)) (i * 3 + 1) (.int .i64 yt)) (i * 3 + 2) (.string yy)) ((i + 1) * 3) (.int .i64 xk)) ((i + 1) * 3 + 1) (.int .i64 xt)) ((i + 1) * 3 + 2) (.string xy)
              have h2 := h1.below (bel_drew _)
              rw [← hW6] at h2
              rw [mkFlat_set3 l i hi', mkFlat_set3 _ (i + 1) (by rw [List.length_set]; exact hi1')] at h2
              rw [hm, getElem!_pos l (i + 1) hi1', getElem!_pos l i hi', hgx, hgy]
              exact h2)
            rw [← hW6]
            clear hW6 c0 c1 c2 c3 c4 c5 z0 z1 z2 z3 z4 z5 k0 k1 k2 j0 j1 j2 ne1 ne2 ne3 ne4 M6 HRUN
            have HMM := Lib.hid (hm.trans HSW.out.map)
            have HKP := Lib.hid HSW.out.kept
            have HML : Hid (m.length = n) := Lib.hid (by rw [HMM.out, List.length_map, swI_len HSW.out.lt, HL.out])
            have HMB : Hid (∀ x ∈ m, MkB x) := Lib.hid fun x hx => by
              obtain ⟨p, hp, rfl⟩ := List.getElem_of_mem hx
              obtain ⟨_, b, e⟩ := HKP.out.get HMM.out hp
              rw [e]; exact HA.out.bd _ (List.getElem_mem b)
            have HMA : Hid (∀ W (_ : Row W 36 3 (some ⟨gm, 0, none⟩) n d5 (mkFlat m)), MksAt W (some ⟨gm, 0, none⟩) n m) := Lib.hid fun W hr => MksAt.row hr HMB.out
            have HRM := Lib.hid (HKP.out.right HMM.out).1
            have HSX := Lib.hid (HSW.out.srcs HMM.out)
            have HEX := Lib.hid (HKP.out.edges HMM.out)
            have hsm1 := sourcesM_right HR0.out
            have hsm2 := sourcesM_right HRM.out
            rw [← hsm1, ← hsm2, getElem!_pos l (i + 1) hi1', getElem!_pos l i hi', hgx, hgy] at HSX
            have hl1 : (sourcesM l).length ≤ 40 := by rw [hsm1]; have := srcsUp_len l l.length; have := HL.out; omega
            have H1 := Lib.hid (sources_any (some ⟨g, off, none⟩) n c l W6 (HA.out.below M7.out.bel) (by omega))
            have H2 := Lib.hid fun W (hr : Row W 36 3 (some ⟨gm, 0, none⟩) n d5 (mkFlat m)) => sources_any (some ⟨gm, 0, none⟩) n d5 m W (HMA.out W hr) (by omega)
            have HE1 := Lib.hid fun W (hb : Below w.heap.size w W) => edges_any (some ⟨g, off, none⟩) n c l W (HA.out.below hb) (by omega) hnc
            have HE2 := Lib.hid fun W (hr : Row W 36 3 (some ⟨gm, 0, none⟩) n d5 (mkFlat m)) => edges_any (some ⟨gm, 0, none⟩) n d5 m W (HMA.out W hr) (by omega) hdn
            clear hm hsm1 hsm2 HSW
            generalize sourcesM l = S1 at *
            generalize sourcesM m = S2 at *
            have hl2 : S2.length = S1.length := HSX.out.1
            rw [hl2] at H2
            generalize hls1 : S1.length = s1 at *
            have HS1 := Lib.hid hls1
            have HS2 := Lib.hid hl2
            clear hls1 hl2
            go_wp2_with fail
            refine H1.out.mono ?_
            rintro e w10 ⟨b1, c1, rfl, hmd⟩
            have M8 := Lib.hid (show Mem w [] w10 [RowA 39 2 b1 s1 c1 (srFlat S1), RowA 36 3 (some ⟨gm, 0, none⟩) n d5 (mkFlat m), BlockA pa #[.int .i64 xk, .int .i64 xt, .string xy] 36, BlockA pb #[.int .i64 yk, .int .i64 yt, .string yy] 36] from by
              have h1 := M7.out.made hmd
              rwa [show RowS b1 c1 S1 = RowA 39 2 b1 s1 c1 (srFlat S1) by unfold RowS; rw [HS1.out]] at h1)
            have H3 := Lib.hid (H2.out w10 (Mem.rowAt [RowA 39 2 b1 s1 c1 (srFlat S1)] (r := [BlockA pa #[.int .i64 xk, .int .i64 xt, .string xy] 36, BlockA pb #[.int .i64 yk, .int .i64 yt, .string yy] 36]) M8.out))
            clear hmd H1 H2 M7
            go_wp2_with fail
            refine H3.out.mono ?_
            rintro e w11 ⟨b2, c2, rfl, hmd⟩
            have M9 := Lib.hid (show Mem w [] w11 [RowA 39 2 b2 s1 c2 (srFlat S2), RowA 39 2 b1 s1 c1 (srFlat S1), RowA 36 3 (some ⟨gm, 0, none⟩) n d5 (mkFlat m), BlockA pa #[.int .i64 xk, .int .i64 xt, .string xy] 36, BlockA pb #[.int .i64 yk, .int .i64 yt, .string yy] 36] from by
              have h1 := M8.out.made hmd
              rwa [show RowS b2 c2 S2 = RowA 39 2 b2 s1 c2 (srFlat S2) by unfold RowS; rw [HS2.out]] at h1)
            clear hmd H3 M8
            have H4 := Lib.hid (HE1.out w11 M9.out.bel)
            have hneq : ((s1 : Int) != (s1 : Int)) = false := by simp
            go_wp2_with fail
            refine H4.out.mono ?_
            rintro e w12 ⟨be1, de1, E1, rfl, hE1, hmd⟩
            have M10 := Lib.hid (M9.out.made hmd)
            have H5 := Lib.hid (HE2.out w12 (Mem.rowAt [RowE be1 de1 E1, RowA 39 2 b2 s1 c2 (srFlat S2), RowA 39 2 b1 s1 c1 (srFlat S1)] (r := [BlockA pa #[.int .i64 xk, .int .i64 xt, .string xy] 36, BlockA pb #[.int .i64 yk, .int .i64 yt, .string yy] 36]) M10.out))
            have hel := isEdges_len (by rw [← HL.out]; omega) hE1
            have HE3 := Lib.hid hE1
            clear hmd H4 M9 HE1 HE2 hE1
            generalize hen : E1.length = en at *
            have HEN := Lib.hid hen
            clear hen
            go_wp2_with fail
            refine H5.out.mono ?_
            rintro e w13 ⟨be2, de2, E2, rfl, hE2, hmd⟩
            obtain rfl := edges_eq HR0.out HRM.out HEX.out HE3.out hE2
            rw [HEN.out]
            have M11 := Lib.hid (M10.out.made hmd)
            have H6 := Lib.hid (same_e be1 be2 de1 de2 en E2 w13 HEN.out.symm (by rw [← HEN.out]; exact Mem.rowAt [RowE be2 de2 E2] (r := [RowA 39 2 b2 s1 c2 (srFlat S2), RowA 39 2 b1 s1 c1 (srFlat S1), RowA 36 3 (some ⟨gm, 0, none⟩) n d5 (mkFlat m), BlockA pa #[.int .i64 xk, .int .i64 xt, .string xy] 36, BlockA pb #[.int .i64 yk, .int .i64 yt, .string yy] 36]) M11.out) (by rw [← HEN.out]; exact Mem.rowAt [] (r := [RowE be1 de1 E2, RowA 39 2 b2 s1 c2 (srFlat S2), RowA 39 2 b1 s1 c1 (srFlat S1), RowA 36 3 (some ⟨gm, 0, none⟩) n d5 (mkFlat m), BlockA pa #[.int .i64 xk, .int .i64 xt, .string xy] 36, BlockA pb #[.int .i64 yk, .int .i64 yt, .string yy] 36]) M11.out) (by omega))
            have M12 := Lib.hid (Mem.drop [] (A := RowE be1 de1 E2) (r := [RowA 39 2 b2 s1 c2 (srFlat S2), RowA 39 2 b1 s1 c1 (srFlat S1), RowA 36 3 (some ⟨gm, 0, none⟩) n d5 (mkFlat m), BlockA pa #[.int .i64 xk, .int .i64 xt, .string xy] 36, BlockA pb #[.int .i64 yk, .int .i64 yt, .string yy] 36]) (Mem.drop [] (A := RowE be2 de2 E2) (r := [RowE be1 de1 E2, RowA 39 2 b2 s1 c2 (srFlat S2), RowA 39 2 b1 s1 c1 (srFlat S1), RowA 36 3 (some ⟨gm, 0, none⟩) n d5 (mkFlat m), BlockA pa #[.int .i64 xk, .int .i64 xt, .string xy] 36, BlockA pb #[.int .i64 yk, .int .i64 yt, .string yy] 36]) M11.out))
            clear hmd H5 M10 hE2 HE3 M11 HEN
            go_wp2_with fail
            refine H6.out.mono ?_
            rintro e w14 ⟨rfl, hb⟩
            have M13 := Lib.hid (M12.out.below hb)
            clear hb H6 M12 hneq hel
            have hic : i ≤ c := by omega
            go_wp2_with fail
            go_loopw [11, 107] (fun v j wr => ∃ q : Nat, q ≤ i ∧ v = .int .i64 (rdUp l q : Nat) ∧ j = .int .i64 q ∧ Hid (Mem w [] wr [RowA 39 2 b2 s1 c2 (srFlat S2), RowA 39 2 b1 s1 c1 (srFlat S1), RowA 36 3 (some ⟨gm, 0, none⟩) n d5 (mkFlat m), BlockA pa #[.int .i64 xk, .int .i64 xt, .string xy] 36, BlockA pb #[.int .i64 yk, .int .i64 yt, .string yy] 36])) (fun _ j _ => i - (intOf j).toNat)
            case atStart => exact ⟨0, Nat.zero_le _, rfl, rfl, M13⟩
            case round =>
              obtain ⟨W7, rfl⟩ : ∃ W7, W7 = wr := ⟨_, rfl⟩
              obtain ⟨q, hq, rfl, rfl, M14⟩ := hrel
              clear M13
              have hrd := rdUp_le l q
              by_cases hlq : q < i
              · have hlq' : q < l.length := by omega
                obtain ⟨g', off', he, hdA, hdB, hdD⟩ := (HA.out.below M14.out.bel).at q hlq'
                obtain ⟨rfl, rfl⟩ : g = g' ∧ off = off' := by simpa using he
                clear he
                have HU := Lib.hid (rdUp_succ l q hlq')
                have M15 := Lib.hid (M14.out.block #[.int .i64 l[q].kind, .int .i64 l[q].tx, .string l[q].key] 36)
                clear M14
                generalize l[q] = z at *
                obtain ⟨zk, zt, zy⟩ := z
                simp only at hdA hdB hdD M15 HU
                obtain ⟨k0, k1, k2⟩ := box_cells M15.out
                have M16 := Lib.hid (Mem.drop [] (A := BlockA W7.heap.size #[.int .i64 zk, .int .i64 zt, .string zy] 36) (r := [RowA 39 2 b2 s1 c2 (srFlat S2), RowA 39 2 b1 s1 c1 (srFlat S1), RowA 36 3 (some ⟨gm, 0, none⟩) n d5 (mkFlat m), BlockA pa #[.int .i64 xk, .int .i64 xt, .string xy] 36, BlockA pb #[.int .i64 yk, .int .i64 yt, .string yy] 36]) M15.out)
                clear M15
                generalize rdUp l q = rq at *
                by_cases h1 : zk = 1
                · subst h1
                  have HX : Hid ((rdUp l (q + 1) : Int) = (rq : Int) + 1) := Lib.hid (by rw [HU.out]; simp)
                  clear HU
                  go_wp2_with fail
                  go_roundw
                  case rel => exact ⟨q + 1, by omega, by rw [HX.out], by go_num, M16⟩
                  case measure => simp [intOf]; omega
                · have h1' : (zk == 1) = false := by simpa using h1
                  have HX : Hid ((rdUp l (q + 1) : Int) = (rq : Int)) := Lib.hid (by rw [HU.out, h1']; simp)
                  clear HU h1
                  go_wp2_with fail
                  go_roundw
                  case rel => exact ⟨q + 1, by omega, by rw [HX.out], by go_num, M16⟩
                  case measure => simp [intOf]; omega
              · obtain rfl : q = i := by omega
                obtain ⟨k0, -⟩ := Mem.cellAt (i := 0) [RowA 39 2 b2 s1 c2 (srFlat S2), RowA 39 2 b1 s1 c1 (srFlat S1), RowA 36 3 (some ⟨gm, 0, none⟩) n d5 (mkFlat m)] (r := [BlockA pb #[.int .i64 yk, .int .i64 yt, .string yy] 36]) M14.out rfl
                obtain ⟨j0, -⟩ := Mem.cellAt (i := 0) [RowA 39 2 b2 s1 c2 (srFlat S2), RowA 39 2 b1 s1 c1 (srFlat S1), RowA 36 3 (some ⟨gm, 0, none⟩) n d5 (mkFlat m), BlockA pa #[.int .i64 xk, .int .i64 xt, .string xy] 36] (r := []) M14.out rfl
                obtain ⟨-, hboth, hnot⟩ := HSX.out
                by_cases hx1 : xk = 1
                · by_cases hy1 : yk = 1
                  · obtain ⟨u, v, hu, hv, hset⟩ := hboth ⟨hx1, hy1⟩
                    obtain ⟨hu1, hu2⟩ := List.getElem?_eq_some_iff.1 hu
                    obtain ⟨hv1, hv2⟩ := List.getElem?_eq_some_iff.1 hv
                    have HSET := Lib.hid hset
                    obtain ⟨g2, rfl, u0, u1⟩ := srAt_row (Mem.rowAt [] (r := [RowA 39 2 b1 s1 c1 (srFlat S1), RowA 36 3 (some ⟨gm, 0, none⟩) n d5 (mkFlat m), BlockA pa #[.int .i64 xk, .int .i64 xt, .string xy] 36, BlockA pb #[.int .i64 yk, .int .i64 yt, .string yy] 36]) M14.out) (rdUp l q) hu1
                    obtain ⟨g2', e2', v0, v1⟩ := srAt_row (Mem.rowAt [] (r := [RowA 39 2 b1 s1 c1 (srFlat S1), RowA 36 3 (some ⟨gm, 0, none⟩) n d5 (mkFlat m), BlockA pa #[.int .i64 xk, .int .i64 xt, .string xy] 36, BlockA pb #[.int .i64 yk, .int .i64 yt, .string yy] 36]) M14.out) (rdUp l q + 1) hv1
                    obtain rfl : g2 = g2' := by simpa using e2'
                    rw [hu2] at u0 u1
                    rw [hv2] at v0 v1
                    obtain ⟨s0, s1'⟩ := srFlat_get S2 (rdUp l q) hu1
                    obtain ⟨s2, s3⟩ := srFlat_get S2 (rdUp l q + 1) hv1
                    obtain ⟨-, z0⟩ := row_cell (Mem.rowAt [] (r := [RowA 39 2 b1 s1 c1 (srFlat S1), RowA 36 3 (some ⟨gm, 0, none⟩) n d5 (mkFlat m), BlockA pa #[.int .i64 xk, .int .i64 xt, .string xy] 36, BlockA pb #[.int .i64 yk, .int .i64 yt, .string yy] 36]) M14.out) s0
                    obtain ⟨-, z1⟩ := row_cell (Mem.rowAt [] (r := [RowA 39 2 b1 s1 c1 (srFlat S1), RowA 36 3 (some ⟨gm, 0, none⟩) n d5 (mkFlat m), BlockA pa #[.int .i64 xk, .int .i64 xt, .string xy] 36, BlockA pb #[.int .i64 yk, .int .i64 yt, .string yy] 36]) M14.out) s1'
                    obtain ⟨-, z2⟩ := row_cell (Mem.rowAt [] (r := [RowA 39 2 b1 s1 c1 (srFlat S1), RowA 36 3 (some ⟨gm, 0, none⟩) n d5 (mkFlat m), BlockA pa #[.int .i64 xk, .int .i64 xt, .string xy] 36, BlockA pb #[.int .i64 yk, .int .i64 yt, .string yy] 36]) M14.out) s2
                    obtain ⟨-, z3⟩ := row_cell (Mem.rowAt [] (r := [RowA 39 2 b1 s1 c1 (srFlat S1), RowA 36 3 (some ⟨gm, 0, none⟩) n d5 (mkFlat m), BlockA pa #[.int .i64 xk, .int .i64 xt, .string xy] 36, BlockA pb #[.int .i64 yk, .int .i64 yt, .string yy] 36]) M14.out) s3
                    rw [HS2.out] at hv1
                    have HU1 := Lib.hid (And.intro hu1 hv1)
                    have HS22 := HS2
                    clear s0 s1' s2 s3 hu hv hset hu2 hv2 e2' hboth hnot hu1 HSX
                    generalize rdUp l q = rq at *
                    obtain ⟨ut, uw⟩ := u
                    obtain ⟨vt, vw⟩ := v
                    simp only at u0 u1 v0 v1 HSET
                    have hwr2 : IntKind.i64.wrap ((rq : Int) + 1) = (rq : Int) + 1 := IntWalk.i64_in _ (by omega)
                    subst hx1 hy1
                    go_wp2_with fail
                    go_region
                    obtain ⟨W8, hW8⟩ : ∃ W8, W8 = ((((W7.setCell ⟨g2, rq * 2, none⟩ (.int .i64 vt)).setCell ⟨g2, rq * 2 + 1, none⟩ (.int .i64 vw)).setCell ⟨g2, (rq + 1) * 2, none⟩ (.int .i64 ut)).setCell ⟨g2, (rq + 1) * 2 + 1, none⟩ (.int .i64 uw)).drew := ⟨_, rfl⟩
                    have M15 := Lib.hid (show Mem w [] W8 [RowA 39 2 (some ⟨g2, 0, none⟩) s1 c2 (srFlat S1), RowA 39 2 b1 s1 c1 (srFlat S1), RowA 36 3 (some ⟨gm, 0, none⟩) n d5 (mkFlat m), BlockA pa #[.int .i64 1, .int .i64 xt, .string xy] 36, BlockA pb #[.int .i64 1, .int .i64 yt, .string yy] 36] from by
                      have h1 := Mem.rowSet [] (Mem.rowSet [] (Mem.rowSet [] (Mem.rowSet [] (r := [RowA 39 2 b1 s1 c1 (srFlat S1), RowA 36 3 (some ⟨gm, 0, none⟩) n d5 (mkFlat m), BlockA pa #[.int .i64 1, .int .i64 xt, .string xy] 36, BlockA pb #[.int .i64 1, .int .i64 yt, .string yy] 36]) M14.out (rq * 2) (.int .i64 vt)) (rq * 2 + 1) (.int .i64 vw)) ((rq + 1) * 2) (.int .i64 ut)) ((rq + 1) * 2 + 1) (.int .i64 uw)
                      have h2 := h1.below (bel_drew _)
                      rw [← hW8] at h2
                      rw [srFlat_set2 S2 rq HU1.out.1, srFlat_set2 _ (rq + 1) (by rw [List.length_set, HS22.out]; exact HU1.out.2), HSET.out] at h2
                      exact h2)
                    rw [← hW8]
                    clear hW8 M14 u0 u1 v0 v1 z0 z1 z2 z3 k0 j0
                    have H7 := Lib.hid (same_s b1 (some ⟨g2, 0, none⟩) c1 c2 s1 S1 W8 HS1.out.symm (Mem.rowAt [RowA 39 2 (some ⟨g2, 0, none⟩) s1 c2 (srFlat S1)] (r := [RowA 36 3 (some ⟨gm, 0, none⟩) n d5 (mkFlat m), BlockA pa #[.int .i64 1, .int .i64 xt, .string xy] 36, BlockA pb #[.int .i64 1, .int .i64 yt, .string yy] 36]) M15.out) (Mem.rowAt [] (r := [RowA 39 2 b1 s1 c1 (srFlat S1), RowA 36 3 (some ⟨gm, 0, none⟩) n d5 (mkFlat m), BlockA pa #[.int .i64 1, .int .i64 xt, .string xy] 36, BlockA pb #[.int .i64 1, .int .i64 yt, .string yy] 36]) M15.out) (by omega))
                    go_wp2_with fail
                    refine H7.out.mono ?_
                    rintro e w20 ⟨rfl, hb⟩
                    have HBE := Lib.hid (M15.out.below hb).bel
                    clear hb H7 M15
                    go_wp2_with fail
                    go_ret
                    exact ⟨rfl, HBE.out⟩
                  · have hS : S2 = S1 := hnot fun hh => hy1 hh.2
                    have hy1' : (yk == 1) = false := by simpa using hy1
                    subst hx1
                    subst hS
                    have H7 := Lib.hid (same_s b1 b2 c1 c2 s1 S2 W7 HS1.out.symm (Mem.rowAt [RowA 39 2 b2 s1 c2 (srFlat S2)] (r := [RowA 36 3 (some ⟨gm, 0, none⟩) n d5 (mkFlat m), BlockA pa #[.int .i64 1, .int .i64 xt, .string xy] 36, BlockA pb #[.int .i64 yk, .int .i64 yt, .string yy] 36]) M14.out) (Mem.rowAt [] (r := [RowA 39 2 b1 s1 c1 (srFlat S2), RowA 36 3 (some ⟨gm, 0, none⟩) n d5 (mkFlat m), BlockA pa #[.int .i64 1, .int .i64 xt, .string xy] 36, BlockA pb #[.int .i64 yk, .int .i64 yt, .string yy] 36]) M14.out) (by omega))
                    clear hboth hnot HSX hy1
                    go_wp2_with fail
                    refine H7.out.mono ?_
                    rintro e w20 ⟨rfl, hb⟩
                    have HBE := Lib.hid (M14.out.below hb).bel
                    clear hb H7 M14
                    go_wp2_with fail
                    go_ret
                    exact ⟨rfl, HBE.out⟩
                · have hS : S2 = S1 := hnot fun hh => hx1 hh.1
                  have hx1' : (xk == 1) = false := by simpa using hx1
                  subst hS
                  have H7 := Lib.hid (same_s b1 b2 c1 c2 s1 S2 W7 HS1.out.symm (Mem.rowAt [RowA 39 2 b2 s1 c2 (srFlat S2)] (r := [RowA 36 3 (some ⟨gm, 0, none⟩) n d5 (mkFlat m), BlockA pa #[.int .i64 xk, .int .i64 xt, .string xy] 36, BlockA pb #[.int .i64 yk, .int .i64 yt, .string yy] 36]) M14.out) (Mem.rowAt [] (r := [RowA 39 2 b1 s1 c1 (srFlat S2), RowA 36 3 (some ⟨gm, 0, none⟩) n d5 (mkFlat m), BlockA pa #[.int .i64 xk, .int .i64 xt, .string xy] 36, BlockA pb #[.int .i64 yk, .int .i64 yt, .string yy] 36]) M14.out) (by omega))
                  clear hboth hnot HSX hx1
                  go_wp2_with fail
                  refine H7.out.mono ?_
                  rintro e w20 ⟨rfl, hb⟩
                  have HBE := Lib.hid (M14.out.below hb).bel
                  clear hb H7 M14
                  go_wp2_with fail
                  go_ret
                  exact ⟨rfl, HBE.out⟩
        · have hq2 : (rightM l != 0) = true := by simpa using h0
          clear h0 e4 e1
          generalize rightM l = rq at *
          rcases tri with hky | ⟨hky, e6⟩
          all_goals
            go_wp2_with fail
            refine HR1.out.mono ?_
            rintro e w4 ⟨rfl, hb⟩
            have M4 := Lib.hid (M3.out.below hb)
            clear hb M3 HR1 k0 k1 k2 j0 j1 j2
            go_wp2_with fail
            go_ret
            exact ⟨rfl, M4.out.bel⟩
      · have M3 := Lib.hid (show Mem w [] ((w2.alloc (.cells #[.int .i64 yk, .int .i64 yt, .string yy] 36)).alloc (.cells #[.int .i64 xk, .int .i64 xt, .string xy] 36)).drew [BlockA (w2.heap.size + 1) #[.int .i64 xk, .int .i64 xt, .string xy] 36, BlockA w2.heap.size #[.int .i64 yk, .int .i64 yt, .string yy] 36] from by
          have h1 := (M2.out.block #[.int .i64 yk, .int .i64 yt, .string yy] 36).block #[.int .i64 xk, .int .i64 xt, .string xy] 36
          rw [show (w2.alloc (.cells #[.int .i64 yk, .int .i64 yt, .string yy] 36)).heap.size = w2.heap.size + 1 by simp] at h1
          exact h1.below (bel_drew _))
        clear qA1 qB1 qD1 pA1 pB1 pD1 qA2 qB2 qD2 pA2 pB2 pD2 hcA hcB hcD hdA hdB hdD M2
        generalize w2.heap.size + 1 = pa at *
        generalize w2.heap.size = pb at *
        obtain ⟨W3, hW3⟩ : ∃ W3, W3 = ((w2.alloc (.cells #[.int .i64 yk, .int .i64 yt, .string yy] 36)).alloc (.cells #[.int .i64 xk, .int .i64 xt, .string xy] 36)).drew := ⟨_, rfl⟩
        rw [← hW3] at M3 ⊢
        clear hW3
        obtain ⟨k0, k1, k2⟩ := box_cells M3.out
        obtain ⟨j0, j1, j2⟩ := box_cells2 M3.out
        by_cases e1 : xt = yt
        · have e1' : (xt == yt) = true := by simpa using e1
          clear e1
          go_wp2_with fail
          go_ret
          exact ⟨rfl, M3.out.bel⟩
        have e1' : (xt == yt) = false := by simpa using e1
        by_cases e2 : 2 < xk
        · go_wp2_with fail
          go_ret
          exact ⟨rfl, M3.out.bel⟩
        by_cases e3 : 2 < yk
        · go_wp2_with fail
          go_ret
          exact ⟨rfl, M3.out.bel⟩
        have HR1 := Lib.hid (HRR.out W3 M3.out.bel)
        by_cases e4 : xy.toList = yy.toList ∧ 2 < sm
        · have e4' : (xy.toList == yy.toList) = true := by simpa using e4.1
          have e5 := e4.2
          clear e4
          go_wp2_with fail
          go_ret
          exact ⟨rfl, M3.out.bel⟩
        have tri : (xy.toList == yy.toList) = false ∨ ((xy.toList == yy.toList) = true ∧ ¬ 2 < sm) := by
          by_cases q1 : xy.toList = yy.toList
          · exact .inr ⟨by simpa using q1, fun q2 => e4 ⟨q1, q2⟩⟩
          · exact .inl (by simpa using q1)
        by_cases h0 : rightM l = 0
        · rw [h0] at HR1
          have hR := ((right_iff l).1 h0).2
          have hx3 := nodd (hR.odd _ (List.getElem_mem hi'))
          have hy3 := nodd (hR.odd _ (List.getElem_mem hi1'))
          rw [hgx] at hx3
          rw [hgy] at hy3
          simp only at hx3 hy3
          have hsm2 : sm = xk + yk := by rw [← hsm, IntWalk.i64_in _ (by omega)]
          have HSW : Hid (SwP l i) := Lib.hid ⟨h0, hi1', by rw [hgx, hgy]; exact e1, by rw [hgx]; show xk ≤ 2; omega, by rw [hgy]; show yk ≤ 2; omega, by rw [hgx, hgy]; rintro ⟨q1, q2⟩; exact e4 ⟨q1, by rw [hsm2]; exact q2⟩⟩
          have HR0 := Lib.hid h0
          clear h0 hR hx3 hy3 hsm2 e4 e1
          rcases tri with hky | ⟨hky, e6⟩
          all_goals
            go_wp2_with fail
            refine HR1.out.mono ?_
            rintro e w4 ⟨rfl, hb⟩
            have M4 := Lib.hid (M3.out.below hb)
            clear hb M3 HR1 k0 k1 k2 j0 j1 j2
            have M5 := Lib.hid (show Mem w [] (w4.alloc (.cells #[] 36)) ([] ++ RowA 36 3 (some ⟨w4.heap.size, 0, none⟩) 0 0 [] :: [BlockA pa #[.int .i64 xk, .int .i64 xt, .string xy] 36, BlockA pb #[.int .i64 yk, .int .i64 yt, .string yy] 36]) from M4.out.new (bel_new _ _) (As := [RowA 36 3 (some ⟨w4.heap.size, 0, none⟩) 0 0 []]) (all_one ⟨rfl, row_empty (heap_new w4 (.cells #[] 36))⟩) (by simp [blkOf]))
            obtain ⟨b5, d5, w5, hrun, hr5, ht5, hf5⟩ := app_row_src (P := Try.prog) (w4.alloc (.cells #[] 36)) 22 22 36 Try.underlying22 infoMk rfl (by decide) (some ⟨w4.heap.size, 0, none⟩) 0 0 [] (Mem.rowAt [] M5.out) (.slice (some ⟨g, off, none⟩) n c) n (mkFlat l) (MksAt.sub (HA.out.below M5.out.bel) (by omega)) (by omega) (by decide)
            rw [Nat.zero_add] at hrun hr5
            rw [List.nil_append] at hr5
            have HRUN := Lib.hid hrun
            have M6 := Lib.hid (show Mem w [] w5 ([] ++ RowA 36 3 b5 n d5 (mkFlat l) :: [BlockA pa #[.int .i64 xk, .int .i64 xt, .string xy] 36, BlockA pb #[.int .i64 yk, .int .i64 yt, .string yy] 36]) from Mem.rowTurn [] M5.out hr5 ht5 hf5)
            obtain ⟨gm, rfl, -⟩ := mkAt_row hr5 i hi'
            have hdn := row_cap hr5
            clear hrun hr5 ht5 hf5 M4 M5
            obtain ⟨f0, f1, f2⟩ := mkFlat_get l i hi'
            obtain ⟨f3, f4, f5⟩ := mkFlat_get l (i + 1) hi1'
            obtain ⟨c0, z0⟩ := row_cell (Mem.rowAt [] M6.out) f0
            obtain ⟨c1, z1⟩ := row_cell (Mem.rowAt [] M6.out) f1
            obtain ⟨c2, z2⟩ := row_cell (Mem.rowAt [] M6.out) f2
            obtain ⟨c3, z3⟩ := row_cell (Mem.rowAt [] M6.out) f3
            obtain ⟨c4, z4⟩ := row_cell (Mem.rowAt [] M6.out) f4
            obtain ⟨c5, z5⟩ := row_cell (Mem.rowAt [] M6.out) f5
            obtain ⟨k0, k1, k2⟩ := box_cells2 M6.out
            obtain ⟨j0, -⟩ := Mem.cellAt (i := 0) [RowA 36 3 (some ⟨gm, 0, none⟩) n d5 (mkFlat l), BlockA pa #[.int .i64 xk, .int .i64 xt, .string xy] 36] (r := []) M6.out rfl
            obtain ⟨j1, -⟩ := Mem.cellAt (i := 1) [RowA 36 3 (some ⟨gm, 0, none⟩) n d5 (mkFlat l), BlockA pa #[.int .i64 xk, .int .i64 xt, .string xy] 36] (r := []) M6.out rfl
            obtain ⟨j2, -⟩ := Mem.cellAt (i := 2) [RowA 36 3 (some ⟨gm, 0, none⟩) n d5 (mkFlat l), BlockA pa #[.int .i64 xk, .int .i64 xt, .string xy] 36] (r := []) M6.out rfl
            rw [hgx] at c0 c1 c2
            rw [hgy] at c3 c4 c5
            simp only at c0 c1 c2 c3 c4 c5
            clear f0 f1 f2 f3 f4 f5
            have ne1 := Mem.ne [] (r := [BlockA pb #[.int .i64 yk, .int .i64 yt, .string yy] 36]) M6.out
            have ne2 := Mem.ne [BlockA pa #[.int .i64 xk, .int .i64 xt, .string xy] 36] (r := []) M6.out
            have ne3 := ne1.symm
            have ne4 := ne2.symm
            go_wp2_with ((at_builtin; refine wpList_appendR _ rfl (.tmp 74) (.tmp 75) 22 22 rfl (.slice (some ⟨w4.heap.size, 0, none⟩) 0 0) (.slice (some ⟨g, off, none⟩) n c) rfl rfl HRUN.out ?_))
            go_region
            obtain ⟨W6, hW6⟩ : ∃ W6, W6 = ((((((w5.setCell ⟨gm, i * 3, none⟩ (.int .i64 yk)).setCell ⟨gm, i * 3 + 1, none⟩ (.int .i64 yt)).setCell ⟨gm, i * 3 + 2, none⟩ (.string yy)).setCell ⟨gm, (i + 1) * 3, none⟩ (.int .i64 xk)).setCell ⟨gm, (i + 1) * 3 + 1, none⟩ (.int .i64 xt)).setCell ⟨gm, (i + 1) * 3 + 2, none⟩ (.string xy)).drew := ⟨_, rfl⟩
            obtain ⟨m, hm⟩ : ∃ m, m = (l.set i l[i + 1]!).set (i + 1) l[i]! := ⟨_, rfl⟩
            have M7 := Lib.hid (show Mem w [] W6 [RowA 36 3 (some ⟨gm, 0, none⟩) n d5 (mkFlat m), BlockA pa #[.int .i64 xk, .int .i64 xt, .string xy] 36, BlockA pb #[.int .i64 yk, .int .i64 yt, .string yy] 36] from by
              have h1 := Mem.rowSet [] (Mem.rowSet [] (Mem.rowSet [] (Mem.rowSet [] (Mem.rowSet [] (Mem.rowSet [] M6.out (i * 3) (.int .i64 yk)) (i * 3 + 1) (.int .i64 yt)) (i * 3 + 2) (.string yy)) ((i + 1) * 3) (.int .i64 xk)) ((i + 1) * 3 + 1) (.int .i64 xt)) ((i + 1) * 3 + 2) (.string xy)
              have h2 := h1.below (bel_drew _)
              rw [← hW6] at h2
              rw [mkFlat_set3 l i hi', mkFlat_set3 _ (i + 1) (by rw [List.length_set]; exact hi1')] at h2
              rw [hm, getElem!_pos l (i + 1) hi1', getElem!_pos l i hi', hgx, hgy]
              exact h2)
            rw [← hW6]
            clear hW6 c0 c1 c2 c3 c4 c5 z0 z1 z2 z3 z4 z5 k0 k1 k2 j0 j1 j2 ne1 ne2 ne3 ne4 M6 HRUN
            have HMM := Lib.hid (hm.trans HSW.out.map)
            have HKP := Lib.hid HSW.out.kept
            have HML : Hid (m.length = n) := Lib.hid (by rw [HMM.out, List.length_map, swI_len HSW.out.lt, HL.out])
            have HMB : Hid (∀ x ∈ m, MkB x) := Lib.hid fun x hx => by
              obtain ⟨p, hp, rfl⟩ := List.getElem_of_mem hx
              obtain ⟨_, b, e⟩ := HKP.out.get HMM.out hp
              rw [e]; exact HA.out.bd _ (List.getElem_mem b)
            have HMA : Hid (∀ W (_ : Row W 36 3 (some ⟨gm, 0, none⟩) n d5 (mkFlat m)), MksAt W (some ⟨gm, 0, none⟩) n m) := Lib.hid fun W hr => MksAt.row hr HMB.out
            have HRM := Lib.hid (HKP.out.right HMM.out).1
            have HSX := Lib.hid (HSW.out.srcs HMM.out)
            have HEX := Lib.hid (HKP.out.edges HMM.out)
            have hsm1 := sourcesM_right HR0.out
            have hsm2 := sourcesM_right HRM.out
            rw [← hsm1, ← hsm2, getElem!_pos l (i + 1) hi1', getElem!_pos l i hi', hgx, hgy] at HSX
            have hl1 : (sourcesM l).length ≤ 40 := by rw [hsm1]; have := srcsUp_len l l.length; have := HL.out; omega
            have H1 := Lib.hid (sources_any (some ⟨g, off, none⟩) n c l W6 (HA.out.below M7.out.bel) (by omega))
            have H2 := Lib.hid fun W (hr : Row W 36 3 (some ⟨gm, 0, none⟩) n d5 (mkFlat m)) => sources_any (some ⟨gm, 0, none⟩) n d5 m W (HMA.out W hr) (by omega)
            have HE1 := Lib.hid fun W (hb : Below w.heap.size w W) => edges_any (some ⟨g, off, none⟩) n c l W (HA.out.below hb) (by omega) hnc
            have HE2 := Lib.hid fun W (hr : Row W 36 3 (some ⟨gm, 0, none⟩) n d5 (mkFlat m)) => edges_any (some ⟨gm, 0, none⟩) n d5 m W (HMA.out W hr) (by omega) hdn
            clear hm hsm1 hsm2 HSW
            generalize sourcesM l = S1 at *
            generalize sourcesM m = S2 at *
            have hl2 : S2.length = S1.length := HSX.out.1
            rw [hl2] at H2
            generalize hls1 : S1.length = s1 at *
            have HS1 := Lib.hid hls1
            have HS2 := Lib.hid hl2
            clear hls1 hl2
            go_wp2_with fail
            refine H1.out.mono ?_
            rintro e w10 ⟨b1, c1, rfl, hmd⟩
            have M8 := Lib.hid (show Mem w [] w10 [RowA 39 2 b1 s1 c1 (srFlat S1), RowA 36 3 (some ⟨gm, 0, none⟩) n d5 (mkFlat m), BlockA pa #[.int .i64 xk, .int .i64 xt, .string xy] 36, BlockA pb #[.int .i64 yk, .int .i64 yt, .string yy] 36] from by
              have h1 := M7.out.made hmd
              rwa [show RowS b1 c1 S1 = RowA 39 2 b1 s1 c1 (srFlat S1) by unfold RowS; rw [HS1.out]] at h1)
            have H3 := Lib.hid (H2.out w10 (Mem.rowAt [RowA 39 2 b1 s1 c1 (srFlat S1)] (r := [BlockA pa #[.int .i64 xk, .int .i64 xt, .string xy] 36, BlockA pb #[.int .i64 yk, .int .i64 yt, .string yy] 36]) M8.out))
            clear hmd H1 H2 M7
            go_wp2_with fail
            refine H3.out.mono ?_
            rintro e w11 ⟨b2, c2, rfl, hmd⟩
            have M9 := Lib.hid (show Mem w [] w11 [RowA 39 2 b2 s1 c2 (srFlat S2), RowA 39 2 b1 s1 c1 (srFlat S1), RowA 36 3 (some ⟨gm, 0, none⟩) n d5 (mkFlat m), BlockA pa #[.int .i64 xk, .int .i64 xt, .string xy] 36, BlockA pb #[.int .i64 yk, .int .i64 yt, .string yy] 36] from by
              have h1 := M8.out.made hmd
              rwa [show RowS b2 c2 S2 = RowA 39 2 b2 s1 c2 (srFlat S2) by unfold RowS; rw [HS2.out]] at h1)
            clear hmd H3 M8
            have H4 := Lib.hid (HE1.out w11 M9.out.bel)
            have hneq : ((s1 : Int) != (s1 : Int)) = false := by simp
            go_wp2_with fail
            refine H4.out.mono ?_
            rintro e w12 ⟨be1, de1, E1, rfl, hE1, hmd⟩
            have M10 := Lib.hid (M9.out.made hmd)
            have H5 := Lib.hid (HE2.out w12 (Mem.rowAt [RowE be1 de1 E1, RowA 39 2 b2 s1 c2 (srFlat S2), RowA 39 2 b1 s1 c1 (srFlat S1)] (r := [BlockA pa #[.int .i64 xk, .int .i64 xt, .string xy] 36, BlockA pb #[.int .i64 yk, .int .i64 yt, .string yy] 36]) M10.out))
            have hel := isEdges_len (by rw [← HL.out]; omega) hE1
            have HE3 := Lib.hid hE1
            clear hmd H4 M9 HE1 HE2 hE1
            generalize hen : E1.length = en at *
            have HEN := Lib.hid hen
            clear hen
            go_wp2_with fail
            refine H5.out.mono ?_
            rintro e w13 ⟨be2, de2, E2, rfl, hE2, hmd⟩
            obtain rfl := edges_eq HR0.out HRM.out HEX.out HE3.out hE2
            rw [HEN.out]
            have M11 := Lib.hid (M10.out.made hmd)
            have H6 := Lib.hid (same_e be1 be2 de1 de2 en E2 w13 HEN.out.symm (by rw [← HEN.out]; exact Mem.rowAt [RowE be2 de2 E2] (r := [RowA 39 2 b2 s1 c2 (srFlat S2), RowA 39 2 b1 s1 c1 (srFlat S1), RowA 36 3 (some ⟨gm, 0, none⟩) n d5 (mkFlat m), BlockA pa #[.int .i64 xk, .int .i64 xt, .string xy] 36, BlockA pb #[.int .i64 yk, .int .i64 yt, .string yy] 36]) M11.out) (by rw [← HEN.out]; exact Mem.rowAt [] (r := [RowE be1 de1 E2, RowA 39 2 b2 s1 c2 (srFlat S2), RowA 39 2 b1 s1 c1 (srFlat S1), RowA 36 3 (some ⟨gm, 0, none⟩) n d5 (mkFlat m), BlockA pa #[.int .i64 xk, .int .i64 xt, .string xy] 36, BlockA pb #[.int .i64 yk, .int .i64 yt, .string yy] 36]) M11.out) (by omega))
            have M12 := Lib.hid (Mem.drop [] (A := RowE be1 de1 E2) (r := [RowA 39 2 b2 s1 c2 (srFlat S2), RowA 39 2 b1 s1 c1 (srFlat S1), RowA 36 3 (some ⟨gm, 0, none⟩) n d5 (mkFlat m), BlockA pa #[.int .i64 xk, .int .i64 xt, .string xy] 36, BlockA pb #[.int .i64 yk, .int .i64 yt, .string yy] 36]) (Mem.drop [] (A := RowE be2 de2 E2) (r := [RowE be1 de1 E2, RowA 39 2 b2 s1 c2 (srFlat S2), RowA 39 2 b1 s1 c1 (srFlat S1), RowA 36 3 (some ⟨gm, 0, none⟩) n d5 (mkFlat m), BlockA pa #[.int .i64 xk, .int .i64 xt, .string xy] 36, BlockA pb #[.int .i64 yk, .int .i64 yt, .string yy] 36]) M11.out))
            clear hmd H5 M10 hE2 HE3 M11 HEN
            go_wp2_with fail
            refine H6.out.mono ?_
            rintro e w14 ⟨rfl, hb⟩
            have M13 := Lib.hid (M12.out.below hb)
            clear hb H6 M12 hneq hel
            have hic : i ≤ c := by omega
            go_wp2_with fail
            go_loopw [11, 107] (fun v j wr => ∃ q : Nat, q ≤ i ∧ v = .int .i64 (rdUp l q : Nat) ∧ j = .int .i64 q ∧ Hid (Mem w [] wr [RowA 39 2 b2 s1 c2 (srFlat S2), RowA 39 2 b1 s1 c1 (srFlat S1), RowA 36 3 (some ⟨gm, 0, none⟩) n d5 (mkFlat m), BlockA pa #[.int .i64 xk, .int .i64 xt, .string xy] 36, BlockA pb #[.int .i64 yk, .int .i64 yt, .string yy] 36])) (fun _ j _ => i - (intOf j).toNat)
            case atStart => exact ⟨0, Nat.zero_le _, rfl, rfl, M13⟩
            case round =>
              obtain ⟨W7, rfl⟩ : ∃ W7, W7 = wr := ⟨_, rfl⟩
              obtain ⟨q, hq, rfl, rfl, M14⟩ := hrel
              clear M13
              have hrd := rdUp_le l q
              by_cases hlq : q < i
              · have hlq' : q < l.length := by omega
                obtain ⟨g', off', he, hdA, hdB, hdD⟩ := (HA.out.below M14.out.bel).at q hlq'
                obtain ⟨rfl, rfl⟩ : g = g' ∧ off = off' := by simpa using he
                clear he
                have HU := Lib.hid (rdUp_succ l q hlq')
                have M15 := Lib.hid (M14.out.block #[.int .i64 l[q].kind, .int .i64 l[q].tx, .string l[q].key] 36)
                clear M14
                generalize l[q] = z at *
                obtain ⟨zk, zt, zy⟩ := z
                simp only at hdA hdB hdD M15 HU
                obtain ⟨k0, k1, k2⟩ := box_cells M15.out
                have M16 := Lib.hid (Mem.drop [] (A := BlockA W7.heap.size #[.int .i64 zk, .int .i64 zt, .string zy] 36) (r := [RowA 39 2 b2 s1 c2 (srFlat S2), RowA 39 2 b1 s1 c1 (srFlat S1), RowA 36 3 (some ⟨gm, 0, none⟩) n d5 (mkFlat m), BlockA pa #[.int .i64 xk, .int .i64 xt, .string xy] 36, BlockA pb #[.int .i64 yk, .int .i64 yt, .string yy] 36]) M15.out)
                clear M15
                generalize rdUp l q = rq at *
                by_cases h1 : zk = 1
                · subst h1
                  have HX : Hid ((rdUp l (q + 1) : Int) = (rq : Int) + 1) := Lib.hid (by rw [HU.out]; simp)
                  clear HU
                  go_wp2_with fail
                  go_roundw
                  case rel => exact ⟨q + 1, by omega, by rw [HX.out], by go_num, M16⟩
                  case measure => simp [intOf]; omega
                · have h1' : (zk == 1) = false := by simpa using h1
                  have HX : Hid ((rdUp l (q + 1) : Int) = (rq : Int)) := Lib.hid (by rw [HU.out, h1']; simp)
                  clear HU h1
                  go_wp2_with fail
                  go_roundw
                  case rel => exact ⟨q + 1, by omega, by rw [HX.out], by go_num, M16⟩
                  case measure => simp [intOf]; omega
              · obtain rfl : q = i := by omega
                obtain ⟨k0, -⟩ := Mem.cellAt (i := 0) [RowA 39 2 b2 s1 c2 (srFlat S2), RowA 39 2 b1 s1 c1 (srFlat S1), RowA 36 3 (some ⟨gm, 0, none⟩) n d5 (mkFlat m)] (r := [BlockA pb #[.int .i64 yk, .int .i64 yt, .string yy] 36]) M14.out rfl
                obtain ⟨j0, -⟩ := Mem.cellAt (i := 0) [RowA 39 2 b2 s1 c2 (srFlat S2), RowA 39 2 b1 s1 c1 (srFlat S1), RowA 36 3 (some ⟨gm, 0, none⟩) n d5 (mkFlat m), BlockA pa #[.int .i64 xk, .int .i64 xt, .string xy] 36] (r := []) M14.out rfl
                obtain ⟨-, hboth, hnot⟩ := HSX.out
                by_cases hx1 : xk = 1
                · by_cases hy1 : yk = 1
                  · obtain ⟨u, v, hu, hv, hset⟩ := hboth ⟨hx1, hy1⟩
                    obtain ⟨hu1, hu2⟩ := List.getElem?_eq_some_iff.1 hu
                    obtain ⟨hv1, hv2⟩ := List.getElem?_eq_some_iff.1 hv
                    have HSET := Lib.hid hset
                    obtain ⟨g2, rfl, u0, u1⟩ := srAt_row (Mem.rowAt [] (r := [RowA 39 2 b1 s1 c1 (srFlat S1), RowA 36 3 (some ⟨gm, 0, none⟩) n d5 (mkFlat m), BlockA pa #[.int .i64 xk, .int .i64 xt, .string xy] 36, BlockA pb #[.int .i64 yk, .int .i64 yt, .string yy] 36]) M14.out) (rdUp l q) hu1
                    obtain ⟨g2', e2', v0, v1⟩ := srAt_row (Mem.rowAt [] (r := [RowA 39 2 b1 s1 c1 (srFlat S1), RowA 36 3 (some ⟨gm, 0, none⟩) n d5 (mkFlat m), BlockA pa #[.int .i64 xk, .int .i64 xt, .string xy] 36, BlockA pb #[.int .i64 yk, .int .i64 yt, .string yy] 36]) M14.out) (rdUp l q + 1) hv1
                    obtain rfl : g2 = g2' := by simpa using e2'
                    rw [hu2] at u0 u1
                    rw [hv2] at v0 v1
                    obtain ⟨s0, s1'⟩ := srFlat_get S2 (rdUp l q) hu1
                    obtain ⟨s2, s3⟩ := srFlat_get S2 (rdUp l q + 1) hv1
                    obtain ⟨-, z0⟩ := row_cell (Mem.rowAt [] (r := [RowA 39 2 b1 s1 c1 (srFlat S1), RowA 36 3 (some ⟨gm, 0, none⟩) n d5 (mkFlat m), BlockA pa #[.int .i64 xk, .int .i64 xt, .string xy] 36, BlockA pb #[.int .i64 yk, .int .i64 yt, .string yy] 36]) M14.out) s0
                    obtain ⟨-, z1⟩ := row_cell (Mem.rowAt [] (r := [RowA 39 2 b1 s1 c1 (srFlat S1), RowA 36 3 (some ⟨gm, 0, none⟩) n d5 (mkFlat m), BlockA pa #[.int .i64 xk, .int .i64 xt, .string xy] 36, BlockA pb #[.int .i64 yk, .int .i64 yt, .string yy] 36]) M14.out) s1'
                    obtain ⟨-, z2⟩ := row_cell (Mem.rowAt [] (r := [RowA 39 2 b1 s1 c1 (srFlat S1), RowA 36 3 (some ⟨gm, 0, none⟩) n d5 (mkFlat m), BlockA pa #[.int .i64 xk, .int .i64 xt, .string xy] 36, BlockA pb #[.int .i64 yk, .int .i64 yt, .string yy] 36]) M14.out) s2
                    obtain ⟨-, z3⟩ := row_cell (Mem.rowAt [] (r := [RowA 39 2 b1 s1 c1 (srFlat S1), RowA 36 3 (some ⟨gm, 0, none⟩) n d5 (mkFlat m), BlockA pa #[.int .i64 xk, .int .i64 xt, .string xy] 36, BlockA pb #[.int .i64 yk, .int .i64 yt, .string yy] 36]) M14.out) s3
                    rw [HS2.out] at hv1
                    have HU1 := Lib.hid (And.intro hu1 hv1)
                    have HS22 := HS2
                    clear s0 s1' s2 s3 hu hv hset hu2 hv2 e2' hboth hnot hu1 HSX
                    generalize rdUp l q = rq at *
                    obtain ⟨ut, uw⟩ := u
                    obtain ⟨vt, vw⟩ := v
                    simp only at u0 u1 v0 v1 HSET
                    have hwr2 : IntKind.i64.wrap ((rq : Int) + 1) = (rq : Int) + 1 := IntWalk.i64_in _ (by omega)
                    subst hx1 hy1
                    go_wp2_with fail
                    go_region
                    obtain ⟨W8, hW8⟩ : ∃ W8, W8 = ((((W7.setCell ⟨g2, rq * 2, none⟩ (.int .i64 vt)).setCell ⟨g2, rq * 2 + 1, none⟩ (.int .i64 vw)).setCell ⟨g2, (rq + 1) * 2, none⟩ (.int .i64 ut)).setCell ⟨g2, (rq + 1) * 2 + 1, none⟩ (.int .i64 uw)).drew := ⟨_, rfl⟩
                    have M15 := Lib.hid (show Mem w [] W8 [RowA 39 2 (some ⟨g2, 0, none⟩) s1 c2 (srFlat S1), RowA 39 2 b1 s1 c1 (srFlat S1), RowA 36 3 (some ⟨gm, 0, none⟩) n d5 (mkFlat m), BlockA pa #[.int .i64 1, .int .i64 xt, .string xy] 36, BlockA pb #[.int .i64 1, .int .i64 yt, .string yy] 36] from by
                      have h1 := Mem.rowSet [] (Mem.rowSet [] (Mem.rowSet [] (Mem.rowSet [] (r := [RowA 39 2 b1 s1 c1 (srFlat S1), RowA 36 3 (some ⟨gm, 0, none⟩) n d5 (mkFlat m), BlockA pa #[.int .i64 1, .int .i64 xt, .string xy] 36, BlockA pb #[.int .i64 1, .int .i64 yt, .string yy] 36]) M14.out (rq * 2) (.int .i64 vt)) (rq * 2 + 1) (.int .i64 vw)) ((rq + 1) * 2) (.int .i64 ut)) ((rq + 1) * 2 + 1) (.int .i64 uw)
                      have h2 := h1.below (bel_drew _)
                      rw [← hW8] at h2
                      rw [srFlat_set2 S2 rq HU1.out.1, srFlat_set2 _ (rq + 1) (by rw [List.length_set, HS22.out]; exact HU1.out.2), HSET.out] at h2
                      exact h2)
                    rw [← hW8]
                    clear hW8 M14 u0 u1 v0 v1 z0 z1 z2 z3 k0 j0
                    have H7 := Lib.hid (same_s b1 (some ⟨g2, 0, none⟩) c1 c2 s1 S1 W8 HS1.out.symm (Mem.rowAt [RowA 39 2 (some ⟨g2, 0, none⟩) s1 c2 (srFlat S1)] (r := [RowA 36 3 (some ⟨gm, 0, none⟩) n d5 (mkFlat m), BlockA pa #[.int .i64 1, .int .i64 xt, .string xy] 36, BlockA pb #[.int .i64 1, .int .i64 yt, .string yy] 36]) M15.out) (Mem.rowAt [] (r := [RowA 39 2 b1 s1 c1 (srFlat S1), RowA 36 3 (some ⟨gm, 0, none⟩) n d5 (mkFlat m), BlockA pa #[.int .i64 1, .int .i64 xt, .string xy] 36, BlockA pb #[.int .i64 1, .int .i64 yt, .string yy] 36]) M15.out) (by omega))
                    go_wp2_with fail
                    refine H7.out.mono ?_
                    rintro e w20 ⟨rfl, hb⟩
                    have HBE := Lib.hid (M15.out.below hb).bel
                    clear hb H7 M15
                    go_wp2_with fail
                    go_ret
                    exact ⟨rfl, HBE.out⟩
                  · have hS : S2 = S1 := hnot fun hh => hy1 hh.2
                    have hy1' : (yk == 1) = false := by simpa using hy1
                    subst hx1
                    subst hS
                    have H7 := Lib.hid (same_s b1 b2 c1 c2 s1 S2 W7 HS1.out.symm (Mem.rowAt [RowA 39 2 b2 s1 c2 (srFlat S2)] (r := [RowA 36 3 (some ⟨gm, 0, none⟩) n d5 (mkFlat m), BlockA pa #[.int .i64 1, .int .i64 xt, .string xy] 36, BlockA pb #[.int .i64 yk, .int .i64 yt, .string yy] 36]) M14.out) (Mem.rowAt [] (r := [RowA 39 2 b1 s1 c1 (srFlat S2), RowA 36 3 (some ⟨gm, 0, none⟩) n d5 (mkFlat m), BlockA pa #[.int .i64 1, .int .i64 xt, .string xy] 36, BlockA pb #[.int .i64 yk, .int .i64 yt, .string yy] 36]) M14.out) (by omega))
                    clear hboth hnot HSX hy1
                    go_wp2_with fail
                    refine H7.out.mono ?_
                    rintro e w20 ⟨rfl, hb⟩
                    have HBE := Lib.hid (M14.out.below hb).bel
                    clear hb H7 M14
                    go_wp2_with fail
                    go_ret
                    exact ⟨rfl, HBE.out⟩
                · have hS : S2 = S1 := hnot fun hh => hx1 hh.1
                  have hx1' : (xk == 1) = false := by simpa using hx1
                  subst hS
                  have H7 := Lib.hid (same_s b1 b2 c1 c2 s1 S2 W7 HS1.out.symm (Mem.rowAt [RowA 39 2 b2 s1 c2 (srFlat S2)] (r := [RowA 36 3 (some ⟨gm, 0, none⟩) n d5 (mkFlat m), BlockA pa #[.int .i64 xk, .int .i64 xt, .string xy] 36, BlockA pb #[.int .i64 yk, .int .i64 yt, .string yy] 36]) M14.out) (Mem.rowAt [] (r := [RowA 39 2 b1 s1 c1 (srFlat S2), RowA 36 3 (some ⟨gm, 0, none⟩) n d5 (mkFlat m), BlockA pa #[.int .i64 xk, .int .i64 xt, .string xy] 36, BlockA pb #[.int .i64 yk, .int .i64 yt, .string yy] 36]) M14.out) (by omega))
                  clear hboth hnot HSX hx1
                  go_wp2_with fail
                  refine H7.out.mono ?_
                  rintro e w20 ⟨rfl, hb⟩
                  have HBE := Lib.hid (M14.out.below hb).bel
                  clear hb H7 M14
                  go_wp2_with fail
                  go_ret
                  exact ⟨rfl, HBE.out⟩
        · have hq2 : (rightM l != 0) = true := by simpa using h0
          clear h0 e4 e1
          generalize rightM l = rq at *
          rcases tri with hky | ⟨hky, e6⟩
          all_goals
            go_wp2_with fail
            refine HR1.out.mono ?_
            rintro e w4 ⟨rfl, hb⟩
            have M4 := Lib.hid (M3.out.below hb)
            clear hb M3 HR1 k0 k1 k2 j0 j1 j2
            go_wp2_with fail
            go_ret
            exact ⟨rfl, M4.out.bel⟩
end Go.Proofs.Ytbgabdofnmijnaa
