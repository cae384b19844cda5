/- Leave. -/
import Derived.Test.YtnemgmlhcjhdhaaV
namespace Go.Proofs.Ytnemgmlhcjhdhaa
open Go.RowKit
theorem letH_sum : ∀ (qs hs : List Hd), (letH hs qs).2.1.length + (letH hs qs).2.2.length ≤ hs.length + qs.length
  | [], hs => by simp [letH]
  | w :: r, hs => by
    rw [letH_cons]
    split
    · have := letH_sum r (putH hs w)
      have := putH_len hs w
      simp only [List.length_cons]; omega
    · simp
theorem leaveLi_sum (l : Li) (o : Int) : (leaveLi l o).2.hs.length + (leaveLi l o).2.qs.length ≤ l.hs.length + l.qs.length := by
  have h := letH_sum (outH l.qs o) (outH l.hs o)
  have h5 : (outH l.qs o).length ≤ l.qs.length := List.length_filter_le _ _
  have h6 : (outH l.hs o).length ≤ l.hs.length := List.length_filter_le _ _
  show (letH (outH l.hs o) (outH l.qs o)).2.1.length + (letH (outH l.hs o) (outH l.qs o)).2.2.length ≤ _
  omega
theorem Mem.appRow {w0 w : World} {D0 : List Nat} {a b : Option Addr} {ca cb : Nat} {I J : List Int} {r : List Asn} [Stables r] (h : Mem w0 D0 w (RowI a ca I :: RowI b cb J :: r)) (hn : I.length + J.length ≤ 1000000) :
    ∃ a' c' w', (Builtin.append_ #[43, 43] 43 #[.slice a I.length ca, .slice b J.length cb]).run Try.prog w = .ok (.slice a' (I.length + J.length) c') w' ∧ Mem w0 D0 w' (RowI a' c' (I ++ J) :: RowI b cb J :: r) := by
  have hsv := SubV.upto (Mem.rowAt [RowI a ca I] h) (fun u hu => by
    obtain ⟨x, -, rfl⟩ := List.mem_map.1 hu; rfl) (Nat.le_refl _)
  rw [Nat.mul_one, List.take_of_length_le (by simp [intsV])] at hsv
  obtain ⟨a', c', w', h1, h2, h3, h4⟩ := app_row_src (P := Try.prog) w 43 43 3 Try.underlying43 infoInt (by rfl) (by decide) a I.length ca (intsV I) (Mem.rowAt [] (r := RowI b cb J :: r) h) _ _ _ hsv hn (by decide)
  refine ⟨a', c', w', h1, ?_⟩
  have h5 := Mem.rowTurn [] (r := RowI b cb J :: r) h h2 h3 h4
  unfold RowI
  unfold intsV at h5 ⊢
  rw [List.length_append, List.map_append]
  exact h5
/-- the rows of lines that are kept. -/
theorem rowsOf_filter {w0 w : World} {D0 : List Nat} : ∀ (X : List Ln) (M : List Li) (F : List Asn) [Stables F], X.map (·.key) = M.map (·.key) → (∀ l ∈ M, l.hs.length + l.qs.length ≤ 400) → Mem w0 D0 w (F ++ rowsOf X M) →
    Mem w0 D0 w (F ++ rowsOf (X.filter fun x => !pL x) (M.filter fun l => !emptyLi l)) ∧ (X.filter fun x => !pL x).map (·.key) = (M.filter fun l => !emptyLi l).map (·.key)
  | [], [], F, _, _, _, h => ⟨h, rfl⟩
  | [], _ :: _, _, _, hk, _, _ => by cases hk
  | _ :: _, [], _, _, hk, _, _ => by cases hk
  | x :: X, l :: M, F, _, hk, hb, h => by
    have hb1 := hb l (List.mem_cons_self ..)
    have e1 := Mem.sl_len F (r := RowH x.qs l.qs :: rowsOf X M) h
    have e2 := Mem.sl_len (F ++ [RowH x.hs l.hs]) (r := rowsOf X M) (by simpa [rowsOf] using h)
    have ep : pL x = emptyLi l := by
      unfold pL emptyLi
      rw [e1, e2]
      rw [show wrap64 ((l.hs.length : Int) + (l.qs.length : Int)) = ((l.hs.length + l.qs.length : Nat) : Int) by unfold wrap64; omega]
      rw [Bool.eq_iff_iff, beq_iff_eq, beq_iff_eq]; omega
    obtain ⟨hk1, hk2⟩ := List.cons.inj hk
    rw [List.filter_cons, List.filter_cons, ep]
    cases he : emptyLi l with
    | true =>
      have h1 := Mem.drop F (r := RowH x.qs l.qs :: rowsOf X M) h
      have h2 := Mem.drop F (r := rowsOf X M) h1
      simpa using rowsOf_filter X M F hk2 (fun l hl => hb l (List.mem_cons_of_mem _ hl)) h2
    | false =>
      obtain ⟨h3, h4⟩ := rowsOf_filter X M (F ++ [RowH x.hs l.hs, RowH x.qs l.qs]) hk2 (fun l hl => hb l (List.mem_cons_of_mem _ hl)) (by simpa [rowsOf] using h)
      refine ⟨?_, ?_⟩
      · simpa [rowsOf] using h3
      · simpa using ⟨hk1, h4⟩
set_option maxRecDepth 100000 in
set_option maxHeartbeats 8000000 in
theorem tab_leave (p : Nat) (L : List Li) (o : Int) (w : World) (D : List Nat) (h : TabA p L w D) (hok : LOk L) (hb : Sm 400 L) :
    Calls Try.prog 19 #[.pointer (some ⟨p, 0, none⟩), .int .i64 o] w fun e w' => ∃ a c, e = .returned (.slice a (riseI (leaveL L o).1).length c) ∧ Mem w D w' [RowI a c (riseI (leaveL L o).1), TabA p (leaveL L o).2] := by
  obtain ⟨la, n, c, X, hk, hm⟩ := Mem.table (Mem.start h)
  have hl := lnrow_len (Mem.rowAt [BlockA p #[.slice la n c] 59] (r := rowsOf X L ++ []) hm)
  obtain ⟨hk1, hk2⟩ := keys_at hk
  have hnL : n = L.length := by omega
  rw [List.append_nil] at hm
  obtain ⟨hc, -⟩ := Mem.cellAt (i := 0) (v := .slice la n c) [] (r := RowA 34 3 la n c (lnFlat X) :: rowsOf X L) hm rfl
  have hc2 := fun oo => ((bel_new w oo).cell (World.block_lt_of_cell? w _ hc)).trans hc
  have H0 : Hid (LvAt w D p la n c w.heap.size L o 0 (.slice none 0 0) (w.alloc (.cells #[.int .i64 o] 3))) := Lib.hid ⟨none, 0, X, rfl, hk, by
    rw [midL_zero]
    have h1 := (hm.block #[.int .i64 o] 3).new (Below.refl _ _) (As := [RowI none 0 []]) (all_one ⟨rfl, Row.nil _ _ _⟩) (by simp [blkOf])
    exact h1.perm (List.Perm.swap _ _ _)⟩
  have HOK := Lib.hid hok
  have HSM := Lib.hid hb
  have hn4 : n ≤ 400 := by have := hb.1; omega
  have HNL := Lib.hid hnL
  clear h hok hb hm hk hl hk1 hk2 hnL
  go_enter Try.func19, Try.ntmps19
  go_wp2_with fail
  go_loopw [5, 17] (fun v jv wr => ∃ i : Nat, i ≤ n ∧ jv = .int .i64 (i : Nat) ∧ Hid (LvAt w D p la n c w.heap.size L o i v wr)) (fun _ jv _ => n - (intOf jv).toNat)
  case atStart => exact ⟨0, Nat.zero_le _, rfl, H0⟩
  case round =>
    obtain ⟨i, hi, rfl, hS⟩ := hrel
    clear H0
    obtain ⟨a, ci, X, rfl, hk, hm⟩ := hS.out
    clear hS
    have HIL := Lib.hid (midI_len HSM.out o i)
    by_cases hlt : i < n
    · have hnL := HNL.out
      obtain ⟨k1, k2⟩ := keys_at hk
      have hiL : i < L.length := by omega
      have hx : i < X.length := by omega
      have hiM : i < (midL L o i).length := by rw [midL_len]; exact hiL
      obtain ⟨g, rfl, -⟩ := lnAt_row (Mem.rowAt [BlockA w.heap.size #[.int .i64 o] 3, RowI a ci (midI L o i), BlockA p #[.slice la n c] 59] (r := rowsOf X (midL L o i)) hm) i hx
      obtain ⟨hcp, -⟩ := Mem.cellAt (i := 0) (v := .slice (some ⟨g, 0, none⟩) n c) [BlockA w.heap.size #[.int .i64 o] 3, RowI a ci (midI L o i)] (r := RowL g n c X :: rowsOf X (midL L o i)) hm rfl
      have hm2 := Mem.lineOutF [BlockA w.heap.size #[.int .i64 o] 3, RowI a ci (midI L o i)] hx hiM hm
      have HFIN : Hid (∀ W a' c' x', x'.key = X[i].key → Mem w D W ([BlockA w.heap.size #[.int .i64 o] 3, RowI a' c' (midI L o i ++ (leaveLi L[i] o).1)] ++ ([RowL g n c (X.set i x'), RowH x'.hs (leaveLi L[i] o).2.hs, RowH x'.qs (leaveLi L[i] o).2.qs] ++ (BlockA p #[.slice (some ⟨g, 0, none⟩) n c] 59 :: (rowsOf (X.take i) ((midL L o i).take i) ++ rowsOf (X.drop (i + 1)) ((midL L o i).drop (i + 1)))))) →
          LvAt w D p (some ⟨g, 0, none⟩) n c w.heap.size L o (i + 1) (.slice a' ((midI L o i).length + (leaveLi L[i] o).1.length) c') W) := Lib.hid fun W a' c' x' hxk hW => by
        refine ⟨a', c', X.set i x', ?_, ?_, ?_⟩
        · rw [midI_next hiL, List.length_append]
        · rw [List.map_set, hxk, ← hk, ← List.map_set, List.set_getElem_self]
        · rw [midI_next hiL, ← midL_next hiL]
          exact Mem.lineInF [BlockA w.heap.size #[.int .i64 o] 3, RowI a' c' (midI L o i ++ (leaveLi L[i] o).1)] hx hiM hW
      rw [midL_at hiL hiM] at hm2
      have hS : Stables (BlockA p #[.slice (some ⟨g, 0, none⟩) n c] 59 :: (rowsOf (X.take i) ((midL L o i).take i) ++ rowsOf (X.drop (i + 1)) ((midL L o i).drop (i + 1)))) := inferInstance
      generalize (BlockA p #[.slice (some ⟨g, 0, none⟩) n c] 59 :: (rowsOf (X.take i) ((midL L o i).take i) ++ rowsOf (X.drop (i + 1)) ((midL L o i).drop (i + 1)))) = R at *
      have hset : X.set i X[i] = X := List.set_getElem_self ..
      have hcs := lnFlat_get X i hx
      have HLW := Lib.hid ((HOK.out.ok _ (List.getElem_mem hiL)).w.out o)
      have hsm := HSM.out.2 _ (List.getElem_mem hiL)
      have hle1 : (leaveLi L[i] o).1.length ≤ 400 := by
        obtain ⟨pp, h1, h2, -⟩ := letH_split (outH L[i].qs o) (outH L[i].hs o)
        have h3 : (leaveLi L[i] o).1.length = pp.length := by show (letH _ _).1.length = _; rw [h2, List.length_map]
        have h4 := congrArg List.length h1
        rw [List.length_append] at h4
        have h5 : (outH L[i].qs o).length ≤ L[i].qs.length := List.length_filter_le _ _
        omega
      have hlen : (outH L[i].hs o).length + (outH L[i].qs o).length ≤ 1000 := by
        have h5 : (outH L[i].qs o).length ≤ L[i].qs.length := List.length_filter_le _ _
        have h6 : (outH L[i].hs o).length ≤ L[i].hs.length := List.length_filter_le _ _
        omega
      have HLEN := Lib.hid hlen
      have HLE1 := Lib.hid hle1
      have hll : leaveLi L[i] o = ((letH (outH L[i].hs o) (outH L[i].qs o)).1, ⟨L[i].key, (letH (outH L[i].hs o) (outH L[i].qs o)).2.1, (letH (outH L[i].hs o) (outH L[i].qs o)).2.2⟩) := rfl
      rw [hll] at HFIN HLE1
      simp only at HFIN HLE1
      have HMI : Hid ((midI L o i).length ≤ 160000) := Lib.hid (by have := HIL.out; omega)
      clear hll hle1 hlen HIL hk k1 k2 hm hnL hc hc2
      generalize midI L o i = I0 at *
      generalize L[i].hs = H at *
      generalize L[i].qs = Q at *
      generalize X[i] = x at *
      obtain ⟨xk, ⟨ha, hn, hcq⟩, ⟨qa, qn, qc⟩⟩ := x
      have HXL := Lib.hid hx
      have HSET := Lib.hid hset
      simp only at hm2 hcs HFIN
      have HCS := Lib.hid hcs
      have M1 : Hid (Mem w D wr (BlockA w.heap.size #[.int .i64 o] 3 :: RowL g n c X :: RowH ⟨ha, hn, hcq⟩ H :: RowH ⟨qa, qn, qc⟩ Q :: RowI a ci I0 :: R)) := Lib.hid (hm2.perm (by
        refine List.Perm.cons _ ?_
        exact (List.perm_middle (a := RowI a ci I0) (l₁ := [RowL g n c X, RowH ⟨ha, hn, hcq⟩ H, RowH ⟨qa, qn, qc⟩ Q]) (l₂ := R)).symm))
      obtain ⟨y1, g1⟩ := row_cell (Mem.rowAt [BlockA w.heap.size #[.int .i64 o] 3] (r := RowH ⟨ha, hn, hcq⟩ H :: RowH ⟨qa, qn, qc⟩ Q :: RowI a ci I0 :: R) M1.out) hcs.2.1
      have HD1 := Lib.hid (mem_delH [RowL g n c X] (r := RowH ⟨qa, qn, qc⟩ Q :: RowI a ci I0 :: R) M1.out (by omega))
      simp only [slv] at HD1
      clear hm2 hx hset hcs M1
      go_wp2_with fail
      refine HD1.out.mono ?_
      rintro e w2 ⟨⟨sa, sn, sc⟩, rfl, hm3⟩
      obtain ⟨y1', g1'⟩ := row_cell (Mem.rowAt [BlockA w.heap.size #[.int .i64 o] 3] (r := RowH ⟨sa, sn, sc⟩ (outH H o) :: RowH ⟨qa, qn, qc⟩ Q :: RowI a ci I0 :: R) hm3) HCS.out.2.1
      obtain ⟨y2', g2'⟩ := row_cell (Mem.rowAt [BlockA w.heap.size #[.int .i64 o] 3] (r := RowH ⟨sa, sn, sc⟩ (outH H o) :: RowH ⟨qa, qn, qc⟩ Q :: RowI a ci I0 :: R) hm3) HCS.out.2.2
      have hm4 := Mem.rowSet [BlockA w.heap.size #[.int .i64 o] 3] (r := RowH ⟨sa, sn, sc⟩ (outH H o) :: RowH ⟨qa, qn, qc⟩ Q :: RowI a ci I0 :: R) hm3 (i * 3 + 1) (slv ⟨sa, sn, sc⟩)
      rw [← HSET.out, lnFlat_set1 HXL.out] at hm4
      have M2 := Lib.hid (show Mem w D (w2.setCell ⟨g, i * 3 + 1, none⟩ (.slice sa sn sc)) (BlockA w.heap.size #[.int .i64 o] 3 :: RowL g n c (X.set i ⟨xk, ⟨sa, sn, sc⟩, ⟨qa, qn, qc⟩⟩) :: RowH ⟨sa, sn, sc⟩ (outH H o) :: RowH ⟨qa, qn, qc⟩ Q :: RowI a ci I0 :: R) from hm4)
      have HD2 := Lib.hid (mem_delH [RowL g n c (X.set i ⟨xk, ⟨sa, sn, sc⟩, ⟨qa, qn, qc⟩⟩), RowH ⟨sa, sn, sc⟩ (outH H o)] (r := RowI a ci I0 :: R) M2.out (by omega))
      simp only [slv] at HD2
      clear hm3 hm4 HD1 M2 y1 g1
      simp only
      go_wp2_with fail
      refine HD2.out.mono ?_
      rintro e w4 ⟨⟨ta, tn, tc⟩, rfl, hm5⟩
      have hcs2 := lnFlat_get (X.set i ⟨xk, ⟨sa, sn, sc⟩, ⟨qa, qn, qc⟩⟩) i (by rw [List.length_set]; exact HXL.out)
      rw [List.getElem_set_self] at hcs2
      obtain ⟨y3, g3⟩ := row_cell (Mem.rowAt [BlockA w.heap.size #[.int .i64 o] 3] (r := RowH ⟨sa, sn, sc⟩ (outH H o) :: RowH ⟨ta, tn, tc⟩ (outH Q o) :: RowI a ci I0 :: R) hm5) hcs2.2.2
      have hm6 := Mem.rowSet [BlockA w.heap.size #[.int .i64 o] 3] (r := RowH ⟨sa, sn, sc⟩ (outH H o) :: RowH ⟨ta, tn, tc⟩ (outH Q o) :: RowI a ci I0 :: R) hm5 (i * 3 + 2) (slv ⟨ta, tn, tc⟩)
      rw [lnFlat_set2 HXL.out] at hm6
      have M3 : Hid (Mem w D (w4.setCell ⟨g, i * 3 + 2, none⟩ (.slice ta tn tc)) ([RowL g n c (X.set i ⟨xk, ⟨sa, sn, sc⟩, ⟨ta, tn, tc⟩⟩), RowH ⟨sa, sn, sc⟩ (outH H o), RowH ⟨ta, tn, tc⟩ (outH Q o)] ++ (BlockA w.heap.size #[.int .i64 o] 3 :: RowI a ci I0 :: R))) := Lib.hid (Mem.perm hm6 (List.perm_middle (a := BlockA w.heap.size #[.int .i64 o] 3) (l₁ := [RowL g n c (X.set i ⟨xk, ⟨sa, sn, sc⟩, ⟨ta, tn, tc⟩⟩), RowH ⟨sa, sn, sc⟩ (outH H o), RowH ⟨ta, tn, tc⟩ (outH Q o)]) (l₂ := RowI a ci I0 :: R)).symm)
      have HLET := Lib.hid (mem_let (x := ⟨xk, ⟨sa, sn, sc⟩, ⟨ta, tn, tc⟩⟩) HXL.out M3.out HLW.out HLEN.out)
      clear hm5 hm6 hcs2 HD2 M3 y1' g1' y2' g2' HCS HSET HXL HLEN HLW
      simp only
      go_wp2_with fail
      refine HLET.out.mono ?_
      rintro e w5 ⟨aJ, cJ, x', rfl, hxk', hm7⟩
      have hm8 : Mem w D w5 (RowI a ci I0 :: RowI aJ cJ (letH (outH H o) (outH Q o)).1 :: ([RowL g n c (X.set i x'), RowH x'.hs (letH (outH H o) (outH Q o)).2.1, RowH x'.qs (letH (outH H o) (outH Q o)).2.2] ++ (BlockA w.heap.size #[.int .i64 o] 3 :: R))) := hm7.perm (by
        refine (List.Perm.cons _ ?_).trans (List.Perm.swap _ _ _)
        exact List.perm_middle (a := RowI a ci I0) (l₁ := [RowL g n c (X.set i x'), RowH x'.hs (letH (outH H o) (outH Q o)).2.1, RowH x'.qs (letH (outH H o) (outH Q o)).2.2] ++ [BlockA w.heap.size #[.int .i64 o] 3]) (l₂ := R))
      obtain ⟨a8, c8, w8, hrun, hm9⟩ := Mem.appRow hm8 (by have := HMI.out; have := HLE1.out; omega)
      have HRUN := Lib.hid hrun
      have HF := Lib.hid (HFIN.out w8 a8 c8 x' hxk' ((Mem.drop [RowI a8 c8 (I0 ++ (letH (outH H o) (outH Q o)).1)] (r := [RowL g n c (X.set i x'), RowH x'.hs (letH (outH H o) (outH Q o)).2.1, RowH x'.qs (letH (outH H o) (outH Q o)).2.2] ++ (BlockA w.heap.size #[.int .i64 o] 3 :: R)) hm9).perm (by
        refine (List.Perm.cons _ (List.perm_middle (a := BlockA w.heap.size #[.int .i64 o] 3) (l₁ := [RowL g n c (X.set i x'), RowH x'.hs (letH (outH H o) (outH Q o)).2.1, RowH x'.qs (letH (outH H o) (outH Q o)).2.2]) (l₂ := R))).trans ?_
        exact List.Perm.swap _ _ _)))
      clear hm7 hm8 hm9 hrun HLET HFIN y3 g3
      generalize (letH (outH H o) (outH Q o)).1.length = nJ at *
      go_wp2_with ((at_builtin; refine wpList_appendR _ rfl (.tmp 44) (.tmp 46) 43 43 rfl (.slice a I0.length ci) (.slice aJ nJ cJ) rfl rfl HRUN.out ?_))
      go_roundw
      case rel => exact ⟨i + 1, by omega, by go_num, HF⟩
      case measure => simp [intOf]; omega
    · obtain rfl : i = n := by omega
      have hnL := HNL.out
      have hIe : midI L o i = (leaveL L o).1 := by unfold midI leaveL; rw [hnL, List.take_length]
      have hMe : midL L o i = L.map fun l => (leaveLi l o).2 := by rw [hnL, midL_end]
      have hI4 := midI_len HSM.out o i
      rw [hIe] at hm hI4 ⊢
      rw [hMe] at hm
      have hI6 : (leaveL L o).1.length ≤ 1000000 := by omega
      obtain ⟨hcp, hcf⟩ := Mem.cellAt (i := 0) (v := .slice la i c) [BlockA w.heap.size #[.int .i64 o] 3, RowI a ci (leaveL L o).1] (r := RowA 34 3 la i c (lnFlat X) :: rowsOf X (L.map fun l => (leaveLi l o).2)) hm rfl
      have hXn := lnrow_len (Mem.rowAt [BlockA w.heap.size #[.int .i64 o] 3, RowI a ci (leaveL L o).1, BlockA p #[.slice la i c] 59] (r := rowsOf X (L.map fun l => (leaveLi l o).2)) hm)
      have HDL := Lib.hid (mem_delL [BlockA w.heap.size #[.int .i64 o] 3, RowI a ci (leaveL L o).1, BlockA p #[.slice la i c] 59] (r := rowsOf X (L.map fun l => (leaveLi l o).2)) hm (by omega))
      have HFIN : Hid (∀ W a' c', Mem w D W (BlockA w.heap.size #[.int .i64 o] 3 :: RowI a' c' (riseI (leaveL L o).1) :: BlockA p #[.slice la (X.filter fun x => !pL x).length c] 59 :: RowA 34 3 la (X.filter fun x => !pL x).length c (lnFlat (X.filter fun x => !pL x)) :: rowsOf X (L.map fun l => (leaveLi l o).2)) → Mem w D W [RowI a' c' (riseI (leaveL L o).1), TabA p (leaveL L o).2]) := Lib.hid fun W a' c' hW => by
        obtain ⟨h1, h2⟩ := rowsOf_filter X (L.map fun l => (leaveLi l o).2) [BlockA w.heap.size #[.int .i64 o] 3, RowI a' c' (riseI (leaveL L o).1), BlockA p #[.slice la (X.filter fun x => !pL x).length c] 59, RowA 34 3 la (X.filter fun x => !pL x).length c (lnFlat (X.filter fun x => !pL x))] (by rw [hk, List.map_map]; rfl) (fun l hl => by
          obtain ⟨l0, hl0, rfl⟩ := List.mem_map.1 hl
          have := HSM.out.2 l0 hl0
          have := leaveLi_sum l0 o
          omega) hW
        have h3 := Mem.drop [] (r := RowI a' c' (riseI (leaveL L o).1) :: BlockA p #[.slice la (X.filter fun x => !pL x).length c] 59 :: RowA 34 3 la (X.filter fun x => !pL x).length c (lnFlat (X.filter fun x => !pL x)) :: rowsOf (X.filter fun x => !pL x) ((L.map fun l => (leaveLi l o).2).filter fun l => !emptyLi l)) h1
        have h4 := h3.perm (l' := BlockA p #[.slice la (X.filter fun x => !pL x).length c] 59 :: RowA 34 3 la (X.filter fun x => !pL x).length c (lnFlat (X.filter fun x => !pL x)) :: (rowsOf (X.filter fun x => !pL x) ((L.map fun l => (leaveLi l o).2).filter fun l => !emptyLi l) ++ [RowI a' c' (riseI (leaveL L o).1)])) (by
          refine (List.Perm.swap _ _ _).trans (List.Perm.cons _ ((List.Perm.swap _ _ _).trans (List.Perm.cons _ ?_)))
          exact (List.perm_append_singleton _ _).symm)
        exact (Mem.shut (L := (leaveL L o).2) h2 h4).perm (List.Perm.swap _ _ _)
      clear hIe hMe hI4 hm HOK HSM hnL hk hXn HNL
      go_wp2_with fail
      refine HDL.out.mono ?_
      rintro e w2 ⟨rfl, hm2⟩
      obtain ⟨y0, y1⟩ := Mem.cellAt (i := 0) (v := .slice la i c) [BlockA w.heap.size #[.int .i64 o] 3, RowI a ci (leaveL L o).1] (r := RowA 34 3 la (X.filter fun x => !pL x).length c (lnFlat (X.filter fun x => !pL x)) :: rowsOf X (L.map fun l => (leaveLi l o).2)) hm2 rfl
      have M3 := Lib.hid (show Mem w D (w2.setCell ⟨p, 0, none⟩ (.slice la (X.filter fun x => !pL x).length c)) (BlockA w.heap.size #[.int .i64 o] 3 :: RowI a ci (leaveL L o).1 :: BlockA p #[.slice la (X.filter fun x => !pL x).length c] 59 :: RowA 34 3 la (X.filter fun x => !pL x).length c (lnFlat (X.filter fun x => !pL x)) :: rowsOf X (L.map fun l => (leaveLi l o).2)) from Mem.setAt [BlockA w.heap.size #[.int .i64 o] 3, RowI a ci (leaveL L o).1] (r := RowA 34 3 la (X.filter fun x => !pL x).length c (lnFlat (X.filter fun x => !pL x)) :: rowsOf X (L.map fun l => (leaveLi l o).2)) (i := 0) hm2 (.slice la (X.filter fun x => !pL x).length c))
      have HSO := Lib.hid (mem_sort [BlockA w.heap.size #[.int .i64 o] 3] (r := BlockA p #[.slice la (X.filter fun x => !pL x).length c] 59 :: RowA 34 3 la (X.filter fun x => !pL x).length c (lnFlat (X.filter fun x => !pL x)) :: rowsOf X (L.map fun l => (leaveLi l o).2)) M3.out hI6)
      clear hm2 HDL M3 hcp hcf
      generalize (X.filter fun x => !pL x).length = n2 at *
      go_wp2_with fail
      refine HSO.out.mono ?_
      rintro e w3 ⟨rfl, hm3⟩
      have HCO := Lib.hid (mem_compact [BlockA w.heap.size #[.int .i64 o] 3] (r := BlockA p #[.slice la n2 c] 59 :: RowA 34 3 la n2 c (lnFlat (X.filter fun x => !pL x)) :: rowsOf X (L.map fun l => (leaveLi l o).2)) hm3 (by rw [sortI_len]; exact hI6))
      rw [sortI_len] at HCO
      clear hm3 HSO
      go_wp2_with fail
      refine HCO.out.mono ?_
      rintro e w4 ⟨rfl, hm4⟩
      have HF := Lib.hid (HFIN.out w4 a ci hm4)
      clear hm4 HCO HFIN
      go_wp2_with fail
      go_ret
      exact ⟨a, ci, rfl, HF.out⟩
end Go.Proofs.Ytnemgmlhcjhdhaa
