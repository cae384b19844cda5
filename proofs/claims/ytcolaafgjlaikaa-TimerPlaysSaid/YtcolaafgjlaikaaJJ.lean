/- The reference's Skip walked. -/
import Derived.Test.YtcolaafgjlaikaaII
namespace Go.Proofs.Ytcolaafgjlaikaa
open Go.RowKit

theorem rf_skip_bad (p : Nat) (ck : List Int) (L : List Rt) (node k : Int) (w : World) (D : List Nat) (h : RefA p ck L w D) (hk : k < 0 ∨ 256 < k) :
    Calls Try.prog 13 #[.pointer (some ⟨p, 0, none⟩), .int .i64 node, .int .i64 k] w (RIPost w D p 1 [] ck L) := by
  have hfin := (MemS.ints0 (MemS.start h)).post 1
  clear h
  generalize RIPost w D p 1 [] ck L = Q at *
  by_cases hk0 : k < 0
  · clear hk
    go_enter Try.func13, Try.ntmps13
    go_wp2_with fail
    exact hfin
  · have hk1 : 256 < k := by omega
    clear hk
    go_enter Try.func13, Try.ntmps13
    go_wp2_with fail
    exact hfin
theorem rf_skip_out (p : Nat) (ck : List Int) (L : List Rt) (node k : Int) (w : World) (D : List Nat) (h : RefA p ck L w D) (hk0 : ¬ k < 0) (hk1 : ¬ 256 < k) (hi : rIs ck node = false) :
    Calls Try.prog 13 #[.pointer (some ⟨p, 0, none⟩), .int .i64 node, .int .i64 k] w (RIPost w D p 6 [] ck L) := by
  have hfin := (MemS.ints0 (MemS.start h)).post 6
  obtain ⟨gc, a, c, rfl, hf⟩ := h
  have HI := Lib.hid (rf_is p gc a c ck L node w hf)
  rw [hi] at HI
  clear hf hi
  generalize RIPost w _ p 6 [] ck L = Q at *
  go_enter Try.func13, Try.ntmps13
  go_wp2_with fail
  refine HI.out.mono ?_
  rintro e _ ⟨rfl, rfl⟩
  go_wp2_with fail
  exact hfin
theorem rf_skip_full (p : Nat) (ck : List Int) (L : List Rt) (j : Nat) (hj : j < ck.length) (k : Int) (w : World) (D : List Nat) (h : RefA p ck L w D) (hk0 : ¬ k < 0) (hk1 : ¬ 256 < k) (hc0 : 0 ≤ ck[j]) (hc1 : ck[j] ≤ 1099511627776) (hc : 1099511627776 < ck[j] + k) :
    Calls Try.prog 13 #[.pointer (some ⟨p, 0, none⟩), .int .i64 j, .int .i64 k] w (RIPost w D p 7 [] ck L) := by
  have hfin := (MemS.ints0 (MemS.start h)).post 7
  obtain ⟨gc, a, c, rfl, hf⟩ := h
  have HI := Lib.hid (rf_is p gc a c ck L j w hf)
  rw [show rIs ck j = true from decide_eq_true (by omega)] at HI
  have h0 := hf.cell0
  have h1 := (hf.clk j hj).1
  clear hf
  generalize RIPost w _ p 7 [] ck L = Q at *
  generalize ck[j] = x at *
  generalize ck.length = n at *
  go_enter Try.func13, Try.ntmps13
  go_wp2_with fail
  refine HI.out.mono ?_
  rintro e _ ⟨rfl, rfl⟩
  go_wp2_with fail
  exact hfin

set_option maxRecDepth 100000 in
set_option maxHeartbeats 8000000 in
theorem rf_skip_ok (p : Nat) (ck : List Int) (L : List Rt) (j : Nat) (hj : j < ck.length) (k : Int) (w : World) (D : List Nat) (h : RefA p ck L w D) (hbig : L.length ≤ 1000) (hk0 : ¬ k < 0) (hk1 : ¬ 256 < k) (hc0 : 0 ≤ ck[j]) (hc1 : ¬ 1099511627776 < ck[j] + k)
    (hb : ∀ t ∈ L, 0 ≤ t.every ∧ t.every ≤ 1099511627776) :
    Calls Try.prog 13 #[.pointer (some ⟨p, 0, none⟩), .int .i64 j, .int .i64 k] w (RIPost w D p 0 (rTicks j ck[j] L k.toNat).1 (ck.set j (ck[j] + k)) (rTicks j ck[j] L k.toNat).2) := by
  obtain ⟨n, rfl⟩ := Int.eq_ofNat_of_zero_le (show 0 ≤ k by omega)
  have M0 := Lib.hid (MemS.start h)
  obtain ⟨gc, a, c, rfl, hf⟩ := h
  have HI := Lib.hid (rf_is p gc a c ck L j w hf)
  rw [show rIs ck j = true from decide_eq_true (by omega)] at HI
  have h0 := hf.cell0
  have h1 := (hf.clk j hj).1
  clear hf
  have HLN := Lib.hid (rTicks_len j ck[j] L)
  have HEV := Lib.hid (rTicks_every (node := j) (c := ck[j]) hb)
  have hset : Hid (ck.set j (ck[j] + ((0 : Nat) : Int)) = ck) := Lib.hid (by simp)
  have hcl : ∀ x, (ck.set j x).length = ck.length := fun x => by simp
  have HCL := Lib.hid hcl
  have hgs : ∀ x (hx : j < (ck.set j x).length), (ck.set j x)[j] = x := fun x hx => by simp
  have HGS := Lib.hid hgs
  have hss : ∀ x y, (ck.set j x).set j y = ck.set j y := fun x y => by simp
  have HSS := Lib.hid hss
  clear hcl hgs hss
  have HJ := Lib.hid hj
  generalize hx : ck[j] = x0 at *
  clear hx
  have HFIN := Lib.hid fun wr a2 c2 (M : MemS w (p :: gc :: blkOf a) wr [RefA p (ck.set j (x0 + (n : Int))) (rTicks j x0 L n).2, IntsA a2 c2 (rTicks j x0 L n).1]) => M.post 0
  simp only [Int.toNat_natCast]
  generalize hQ : RIPost w (p :: gc :: blkOf a) p 0 (rTicks j x0 L n).1 (ck.set j (x0 + (n : Int))) (rTicks j x0 L n).2 = Q at *
  clear hQ
  generalize hD0 : p :: gc :: blkOf a = D0 at *
  clear hD0
  have M1 := Lib.hid (show MemS w D0 w [RefA p (ck.set j (x0 + ((0 : Nat) : Int))) (rTicks j x0 L 0).2, IntsA none 0 (rTicks j x0 L 0).1] from by rw [hset.out]; exact M0.out.ints0)
  clear hset M0
  generalize ck.length = cn at *
  have hcb : decide (1099511627776 < x0 + (n : Int)) = false := decide_eq_false hc1
  go_enter Try.func13, Try.ntmps13
  go_wp2_with fail
  refine HI.out.mono ?_
  rintro e _ ⟨rfl, rfl⟩
  go_wp2_with fail
  go_loopw [8, 9] (fun ov iv wr => ∃ i : Nat, i ≤ n ∧ iv = .int .i64 i ∧ Hid (∃ a2 c2, ov = .slice a2 (rTicks j x0 L i).1.length c2 ∧ MemS w D0 wr [RefA p (ck.set j (x0 + (i : Int))) (rTicks j x0 L i).2, IntsA a2 c2 (rTicks j x0 L i).1])) (fun _ iv _ => n - (intOf iv).toNat)
  case atStart => exact ⟨0, Nat.zero_le _, rfl, Lib.hid ⟨none, 0, rfl, M1.out⟩⟩
  case round =>
    obtain ⟨i, hi, rfl, hS⟩ := hrel
    clear M1 h0 h1
    obtain ⟨a2, c2, rfl, hM⟩ := hS.out
    have M2 := Lib.hid hM
    clear hM hS
    by_cases hlt : i < n
    · obtain ⟨g2, k0, k1, k2, k3, kst⟩ := M2.out.clk j (by rw [HCL.out]; exact HJ.out)
      rw [HGS.out] at k1
      rw [HCL.out] at k0
      have KST := Lib.hid ((kst (x0 + (i : Int) + 1)).below (w' := (wr.setCell ⟨g2, j, none⟩ (.int .i64 (x0 + (i : Int) + 1))).drew) ⟨rfl, rfl, rfl, Nat.le_refl _, fun _ _ => rfl⟩)
      rw [HSS.out] at KST
      clear kst
      go_wp2_with fail
      go_region
      clear k0 k1 k2 k3 M2
      generalize (wr.setCell ⟨g2, j, none⟩ (.int .i64 (x0 + (i : Int) + 1))).drew = W1 at *
      obtain ⟨gc, al, cl, hX⟩ := KST.out.toX
      have M3 := Lib.hid (MemS.left0 hX)
      clear hX KST
      have HO1 : Hid ((rTicks j x0 L (i + 1)).1 = (rTicks j x0 L i).1 ++ rOut j (x0 + (i : Int) + 1) (rTicks j x0 L i).2) := Lib.hid (by rw [show x0 + (i : Int) + 1 = x0 + ((i + 1 : Nat) : Int) by omega]; rfl)
      have HO2 : Hid ((rTicks j x0 L (i + 1)).2 = rTick j (x0 + (i : Int) + 1) (rTicks j x0 L i).2) := Lib.hid (by rw [show x0 + (i : Int) + 1 = x0 + ((i + 1 : Nat) : Int) by omega]; rfl)
      have hll := (HLN.out i).1
      have hol := (HLN.out i).2
      have hol2 : i * L.length ≤ 256 * 1000 := Nat.mul_le_mul (by omega) hbig
      have HEVi := Lib.hid (HEV.out i)
      generalize (rTicks j x0 L i).1 = oi at *
      generalize (rTicks j x0 L i).2 = Li at *
      have hc1 := (M3.out.rf []).cell1.1
      have hps := lt_of_heap (M3.out.rf []).hp
      have hgs := lt_of_heap (M3.out.rf []).hc
      have hcc0 : 0 ≤ x0 + (i : Int) + 1 := by omega
      have hcc1 : x0 + (i : Int) + 1 ≤ 1099511627776 := by omega
      have HCC := Lib.hid (show (ck.set j (x0 + (i : Int) + 1)).length = cn from HCL.out _)
      have HCV := Lib.hid fun (hx : j < (ck.set j (x0 + (i : Int) + 1)).length) => HGS.out (x0 + (i : Int) + 1) hx
      have HK1 : Hid (x0 + ((i + 1 : Nat) : Int) = x0 + (i : Int) + 1) := Lib.hid (by omega)
      generalize x0 + (i : Int) + 1 = cc at *
      generalize hcv : ck.set j cc = ck2 at *
      have HCV2 := Lib.hid hcv
      clear hcv
      have hm : Li.length ≤ 1000 := by omega
      have ho : oi.length ≤ 256000 := by omega
      generalize hlm : Li.length = m at hc1 hm
      have HLM := Lib.hid hlm
      clear hlm hll hol hol2
      go_wp2_with fail
      go_loopw [8, 10, 57] (fun ov lv kv wr => ∃ k : Nat, k ≤ m ∧ kv = .int .i64 k ∧ Hid (∃ a3 c3 a4 c4, ov = .slice a3 (oi ++ rOut j cc (Li.take k)).length c3 ∧ lv = .slice a4 (rTick j cc (Li.take k)).length c4 ∧ MemS w D0 wr [RefX p gc al cl ck2 Li, LeftA a4 c4 (rTick j cc (Li.take k)), IntsA a3 c3 (oi ++ rOut j cc (Li.take k))])) (fun _ _ kv _ => m - (intOf kv).toNat)
      case atStart => exact ⟨0, Nat.zero_le _, rfl, Lib.hid ⟨a2, c2, none, 0, by simp [rOut], by simp [rTick], by simpa [rOut, rTick] using M3.out⟩⟩
      case round =>
        obtain ⟨k, hk, rfl, hS⟩ := hrel
        clear M3 hc1 hps hgs
        obtain ⟨a3, c3, a4, c4, rfl, rfl, hM⟩ := hS.out
        have M4 := Lib.hid hM
        clear hM hS
        have hrf := M4.out.rf []
        have hc1 := hrf.cell1.1
        have hp0 := hrf.cell0
        have hj2 : j < ck2.length := by rw [HCC.out]; exact HJ.out
        have hg0 := (hrf.clk j hj2).1
        rw [HCV.out hj2] at hg0
        rw [HCC.out] at hp0
        have hps : ¬ p = wr.heap.size := by have := lt_of_heap hrf.hp; omega
        have hgs : ¬ gc = wr.heap.size := by have := lt_of_heap hrf.hc; omega
        have hjl : (j : Int) < (cn : Int) := by omega
        have hjz : (0 : Int) ≤ (j : Int) := by omega
        by_cases hlt2 : k < m
        · have hk2 : k < Li.length := by rw [HLM.out]; exact hlt2
          obtain ⟨g, rfl, hcs⟩ := flat4_cells hrf.row k hk2
          obtain ⟨hx0, hx1, hx2, hx3⟩ := hcs
          have hev := HEVi.out _ (List.getElem_mem hk2)
          have HT1 := Lib.hid (rTick_take j cc Li k hk2)
          have HT2 := Lib.hid (rOut_take j cc Li k hk2)
          have htl : (rTick j cc (Li.take k)).length ≤ 1000 := by
            have h1 : (rTick j cc (Li.take k)).length ≤ (Li.take k).length := List.length_filterMap_le _ _
            rw [List.length_take] at h1; omega
          have hol : (oi ++ rOut j cc (Li.take k)).length ≤ 260000 := by
            have h1 : (rOut j cc (Li.take k)).length ≤ (Li.take k).length := by unfold rOut; rw [List.length_map]; exact List.length_filter_le _ _
            rw [List.length_take] at h1; rw [List.length_append]; omega
          have hp1 := ((Below.alloc (Below.refl wr.heap.size wr) (Nat.le_refl _) (.cells #[.int .i64 Li[k].node, .int .i64 Li[k].id, .int .i64 Li[k].due, .int .i64 Li[k].every] 64)).cell (p := ⟨p, 0, none⟩) (lt_of_heap hrf.hp)).trans hp0
          have hg1 := ((Below.alloc (Below.refl wr.heap.size wr) (Nat.le_refl _) (.cells #[.int .i64 Li[k].node, .int .i64 Li[k].id, .int .i64 Li[k].due, .int .i64 Li[k].every] 64)).cell (p := ⟨gc, j, none⟩) (lt_of_heap hrf.hc)).trans hg0
          clear hrf
          generalize hlk : Li[k] = t at *
          clear hlk
          obtain ⟨tn, ti, td, te⟩ := t
          simp only at hx0 hx1 hx2 hx3 hev hp1 hg1
          have M5 := Lib.hid (M4.out.block #[.int .i64 tn, .int .i64 ti, .int .i64 td, .int .i64 te] 64)
          generalize rTick j cc (Li.take k) = lf at *
          generalize hou : oi ++ rOut j cc (Li.take k) = ou at *
          have HOU := Lib.hid hou
          clear hou
          by_cases hnode : tn = (j : Int) ∧ td = cc
          · obtain ⟨rfl, rfl⟩ := hnode
            have HT2b : Hid (oi ++ rOut j td (Li.take (k + 1)) = ou ++ [ti]) := Lib.hid (by rw [HT2.out, ← List.append_assoc, HOU.out]; simp)
            by_cases hte : te = 0
            · subst hte
              have HT1b : Hid (rTick j td (Li.take (k + 1)) = lf) := Lib.hid (by rw [HT1.out]; simp [rUpd])
              go_wp2_with fail
              go_quiet (fail)
              have M6 := Lib.hid (M5.out.below (w' := (wr.alloc (.cells #[.int .i64 (j : Int), .int .i64 ti, .int .i64 td, .int .i64 0] 64)).drewN nq) ⟨rfl, rfl, rfl, Nat.le_refl _, fun _ _ => rfl⟩)
              clear M5 M4 hx0 hx1 hx2 hx3 hc1 hp0 hg0 hp1 hg1
              generalize (wr.alloc (.cells #[.int .i64 (j : Int), .int .i64 ti, .int .i64 td, .int .i64 0] 64)).drewN nq = W2 at *
              have y1 := (MemS.block_cell (i := 1) M6.out rfl).1
              obtain ⟨b', cap', w3, hrun, hm7⟩ := M6.out.app_int [BlockA wr.heap.size #[.int .i64 (j : Int), .int .i64 ti, .int .i64 td, .int .i64 0] 64, RefX p gc (some ⟨g, 0, none⟩) cl ck2 Li, LeftA a4 c4 lf] (r := []) ti (by omega) 27
              have HRUN := Lib.hid hrun
              have M7 := Lib.hid (show MemS w D0 w3 [BlockA wr.heap.size #[.int .i64 (j : Int), .int .i64 ti, .int .i64 td, .int .i64 0] 64, RefX p gc (some ⟨g, 0, none⟩) cl ck2 Li, LeftA a4 c4 lf, IntsA b' cap' (ou ++ [ti])] from hm7)
              clear hrun hm7
              have y3 := (MemS.block_cell (i := 3) M7.out rfl).1
              have M8 := Lib.hid (MemS.drop [] M7.out)
              generalize hol2 : ou.length = oul at *
              have HOUL := Lib.hid hol2
              clear hol2
              go_wp2_with ((at_builtin; refine wpList_appendR _ rfl (.tmp 77) (.tmp 80) 27 27 rfl (.slice a3 oul c3) (.slice (some ⟨W2.heap.size, 0, none⟩) 1 1) rfl rfl HRUN.out ?_))
              go_roundw
              case rel => exact ⟨k + 1, by omega, by go_num, Lib.hid ⟨b', cap', a4, c4, by rw [HT2b.out, List.length_append, HOUL.out]; rfl, by rw [HT1b.out], by rw [HT2b.out, HT1b.out]; exact M8.out⟩⟩
              case measure => simp [intOf]; omega
            · have HT1b : Hid (rTick j td (Li.take (k + 1)) = lf ++ [⟨j, ti, td + te, te⟩]) := Lib.hid (by rw [HT1.out]; simp [rUpd, hte])
              have hteb : (te == 0) = false := beq_eq_false_iff_ne.2 hte
              clear hte
              go_wp2_with fail
              go_quiet (fail)
              have M6 := Lib.hid (M5.out.below (w' := (wr.alloc (.cells #[.int .i64 (j : Int), .int .i64 ti, .int .i64 td, .int .i64 te] 64)).drewN nq) ⟨rfl, rfl, rfl, Nat.le_refl _, fun _ _ => rfl⟩)
              clear M5 M4 hx0 hx1 hx2 hx3 hc1 hp0 hg0 hp1 hg1
              generalize (wr.alloc (.cells #[.int .i64 (j : Int), .int .i64 ti, .int .i64 td, .int .i64 te] 64)).drewN nq = W2 at *
              have y1 := (MemS.block_cell (i := 1) M6.out rfl).1
              obtain ⟨b', cap', w3, hrun, hm7⟩ := M6.out.app_int [BlockA wr.heap.size #[.int .i64 (j : Int), .int .i64 ti, .int .i64 td, .int .i64 te] 64, RefX p gc (some ⟨g, 0, none⟩) cl ck2 Li, LeftA a4 c4 lf] (r := []) ti (by omega) 27
              have HRUN := Lib.hid hrun
              have M7 := Lib.hid (show MemS w D0 w3 [BlockA wr.heap.size #[.int .i64 (j : Int), .int .i64 ti, .int .i64 td, .int .i64 te] 64, RefX p gc (some ⟨g, 0, none⟩) cl ck2 Li, LeftA a4 c4 lf, IntsA b' cap' (ou ++ [ti])] from hm7)
              clear hrun hm7
              obtain ⟨z0, _⟩ := (MemS.block_cell (i := 0) M7.out rfl)
              obtain ⟨z1, _⟩ := (MemS.block_cell (i := 1) M7.out rfl)
              obtain ⟨z2, zf⟩ := (MemS.block_cell (i := 2) M7.out rfl)
              obtain ⟨z3, _⟩ := (MemS.block_cell (i := 3) M7.out rfl)
              have M8 := Lib.hid (show MemS w D0 (w3.setCell ⟨wr.heap.size, 2, none⟩ (.int .i64 (td + te))) [BlockA wr.heap.size #[.int .i64 (j : Int), .int .i64 ti, .int .i64 (td + te), .int .i64 te] 64, RefX p gc (some ⟨g, 0, none⟩) cl ck2 Li, LeftA a4 c4 lf, IntsA b' cap' (ou ++ [ti])] from MemS.setBlock (i := 2) M7.out (.int .i64 (td + te)))
              obtain ⟨b2, cap2, w4, hrun2, hm9⟩ := M8.out.app_rt [BlockA wr.heap.size #[.int .i64 (j : Int), .int .i64 ti, .int .i64 (td + te), .int .i64 te] 64, RefX p gc (some ⟨g, 0, none⟩) cl ck2 Li] (r := [IntsA b' cap' (ou ++ [ti])]) ⟨j, ti, td + te, te⟩ (by omega) 28
              rw [show (w3.setCell ⟨wr.heap.size, 2, none⟩ (.int .i64 (td + te))).heap.size = w3.heap.size by simp [World.setCell]] at hrun2
              have HRUN2 := Lib.hid hrun2
              have M9 := Lib.hid (MemS.drop [] (show MemS w D0 w4 ([] ++ BlockA wr.heap.size #[.int .i64 (j : Int), .int .i64 ti, .int .i64 (td + te), .int .i64 te] 64 :: [RefX p gc (some ⟨g, 0, none⟩) cl ck2 Li, LeftA b2 cap2 (lf ++ [⟨j, ti, td + te, te⟩]), IntsA b' cap' (ou ++ [ti])]) from hm9))
              clear hrun2 hm9
              have hBz : ¬ wr.heap.size = w3.heap.size := by
                have := (Stable.lt (A := BlockA wr.heap.size #[.int .i64 (j : Int), .int .i64 ti, .int .i64 td, .int .i64 te] 64) (M7.out.get []).choose_spec wr.heap.size (by obtain ⟨e, _⟩ := (M7.out.get []).choose_spec; rw [e]; simp))
                omega
              generalize hol2 : ou.length = oul at *
              have HOUL := Lib.hid hol2
              clear hol2
              generalize hlf2 : lf.length = lfl at *
              have HLFL := Lib.hid hlf2
              clear hlf2
              go_wp2_with (first
                | ((at_builtin; refine wpList_appendR _ rfl (.tmp 77) (.tmp 80) 27 27 rfl (.slice a3 oul c3) (.slice (some ⟨W2.heap.size, 0, none⟩) 1 1) rfl rfl HRUN.out ?_))
                | ((at_builtin; refine wpList_appendR _ rfl (.tmp 91) (.tmp 93) 28 28 rfl (.slice a4 lfl c4) (.slice (some ⟨w3.heap.size, 0, none⟩) 1 1) rfl rfl HRUN2.out ?_)))
              go_roundw
              case rel => exact ⟨k + 1, by omega, by go_num, Lib.hid ⟨b', cap', b2, cap2, by rw [HT2b.out, List.length_append, HOUL.out]; rfl, by rw [HT1b.out, List.length_append, HLFL.out]; rfl, by rw [HT2b.out, HT1b.out]; exact M9.out⟩⟩
              case measure => simp [intOf]; omega
          · have HT2b : Hid (oi ++ rOut j cc (Li.take (k + 1)) = ou) := Lib.hid (by
              rw [HT2.out, if_neg, List.append_nil, HOU.out]
              simp only [Bool.and_eq_true, beq_iff_eq]; exact hnode)
            have HT1b : Hid (rTick j cc (Li.take (k + 1)) = lf ++ [⟨tn, ti, td, te⟩]) := Lib.hid (by rw [HT1.out]; unfold rUpd; rw [if_neg hnode])
            have hor : (tn == (j : Int)) = false ∨ (tn = (j : Int) ∧ (td == cc) = false) := by
              by_cases h1 : tn = (j : Int)
              · exact .inr ⟨h1, beq_eq_false_iff_ne.2 fun h2 => hnode ⟨h1, h2⟩⟩
              · exact .inl (beq_eq_false_iff_ne.2 h1)
            clear hnode
            rcases hor with hb1 | ⟨rfl, hb1⟩
            · go_wp2_with fail
              go_quiet (fail)
              have M6 := Lib.hid (M5.out.below (w' := (wr.alloc (.cells #[.int .i64 tn, .int .i64 ti, .int .i64 td, .int .i64 te] 64)).drewN nq) ⟨rfl, rfl, rfl, Nat.le_refl _, fun _ _ => rfl⟩)
              clear M5 M4 hx0 hx1 hx2 hx3 hc1 hp0 hg0 hp1 hg1
              generalize (wr.alloc (.cells #[.int .i64 tn, .int .i64 ti, .int .i64 td, .int .i64 te] 64)).drewN nq = W2 at *
              obtain ⟨z0, _⟩ := (MemS.block_cell (i := 0) M6.out rfl)
              obtain ⟨z1, _⟩ := (MemS.block_cell (i := 1) M6.out rfl)
              obtain ⟨z2, _⟩ := (MemS.block_cell (i := 2) M6.out rfl)
              obtain ⟨z3, _⟩ := (MemS.block_cell (i := 3) M6.out rfl)
              obtain ⟨b2, cap2, w4, hrun2, hm9⟩ := M6.out.app_rt [BlockA wr.heap.size #[.int .i64 tn, .int .i64 ti, .int .i64 td, .int .i64 te] 64, RefX p gc (some ⟨g, 0, none⟩) cl ck2 Li] (r := [IntsA a3 c3 ou]) ⟨tn, ti, td, te⟩ (by omega) 28
              have HRUN2 := Lib.hid hrun2
              have M9 := Lib.hid (MemS.drop [] (show MemS w D0 w4 ([] ++ BlockA wr.heap.size #[.int .i64 tn, .int .i64 ti, .int .i64 td, .int .i64 te] 64 :: [RefX p gc (some ⟨g, 0, none⟩) cl ck2 Li, LeftA b2 cap2 (lf ++ [⟨tn, ti, td, te⟩]), IntsA a3 c3 ou]) from hm9))
              clear hrun2 hm9
              generalize hol2 : ou.length = oul at *
              have HOUL := Lib.hid hol2
              clear hol2
              generalize hlf2 : lf.length = lfl at *
              have HLFL := Lib.hid hlf2
              clear hlf2
              go_wp2_with ((at_builtin; refine wpList_appendR _ rfl (.tmp 91) (.tmp 93) 28 28 rfl (.slice a4 lfl c4) (.slice (some ⟨W2.heap.size, 0, none⟩) 1 1) rfl rfl HRUN2.out ?_))
              go_roundw
              case rel => exact ⟨k + 1, by omega, by go_num, Lib.hid ⟨a3, c3, b2, cap2, by rw [HT2b.out, HOUL.out], by rw [HT1b.out, List.length_append, HLFL.out]; rfl, by rw [HT2b.out, HT1b.out]; exact M9.out⟩⟩
              case measure => simp [intOf]; omega
            · go_wp2_with fail
              go_quiet (fail)
              have M6 := Lib.hid (M5.out.below (w' := (wr.alloc (.cells #[.int .i64 (j : Int), .int .i64 ti, .int .i64 td, .int .i64 te] 64)).drewN nq) ⟨rfl, rfl, rfl, Nat.le_refl _, fun _ _ => rfl⟩)
              clear M5 M4 hx0 hx1 hx2 hx3 hc1 hp0 hg0 hp1 hg1
              generalize (wr.alloc (.cells #[.int .i64 (j : Int), .int .i64 ti, .int .i64 td, .int .i64 te] 64)).drewN nq = W2 at *
              obtain ⟨z0, _⟩ := (MemS.block_cell (i := 0) M6.out rfl)
              obtain ⟨z1, _⟩ := (MemS.block_cell (i := 1) M6.out rfl)
              obtain ⟨z2, _⟩ := (MemS.block_cell (i := 2) M6.out rfl)
              obtain ⟨z3, _⟩ := (MemS.block_cell (i := 3) M6.out rfl)
              obtain ⟨b2, cap2, w4, hrun2, hm9⟩ := M6.out.app_rt [BlockA wr.heap.size #[.int .i64 (j : Int), .int .i64 ti, .int .i64 td, .int .i64 te] 64, RefX p gc (some ⟨g, 0, none⟩) cl ck2 Li] (r := [IntsA a3 c3 ou]) ⟨(j : Int), ti, td, te⟩ (by omega) 28
              have HRUN2 := Lib.hid hrun2
              have M9 := Lib.hid (MemS.drop [] (show MemS w D0 w4 ([] ++ BlockA wr.heap.size #[.int .i64 (j : Int), .int .i64 ti, .int .i64 td, .int .i64 te] 64 :: [RefX p gc (some ⟨g, 0, none⟩) cl ck2 Li, LeftA b2 cap2 (lf ++ [⟨(j : Int), ti, td, te⟩]), IntsA a3 c3 ou]) from hm9))
              clear hrun2 hm9
              generalize hol2 : ou.length = oul at *
              have HOUL := Lib.hid hol2
              clear hol2
              generalize hlf2 : lf.length = lfl at *
              have HLFL := Lib.hid hlf2
              clear hlf2
              go_wp2_with ((at_builtin; refine wpList_appendR _ rfl (.tmp 91) (.tmp 93) 28 28 rfl (.slice a4 lfl c4) (.slice (some ⟨W2.heap.size, 0, none⟩) 1 1) rfl rfl HRUN2.out ?_))
              go_roundw
              case rel => exact ⟨k + 1, by omega, by go_num, Lib.hid ⟨a3, c3, b2, cap2, by rw [HT2b.out, HOUL.out], by rw [HT1b.out, List.length_append, HLFL.out]; rfl, by rw [HT2b.out, HT1b.out]; exact M9.out⟩⟩
              case measure => simp [intOf]; omega
        · obtain rfl : k = m := by omega
          have hlt3 : Li.take k = Li := by rw [← HLM.out, List.take_length]
          have HLT := Lib.hid hlt3
          clear hlt3 hrf
          have M5 := M4
          rw [HLT.out, ← HO1.out, ← HO2.out] at M5
          obtain ⟨⟨v1, s0⟩, s1, s2⟩ := MemS.storeL (MemS.ofX M5.out)
          have M6 := Lib.hid s2
          clear s2 s0
          rw [HLT.out, ← HO1.out, ← HO2.out]
          rw [← HCV2.out, ← HK1.out] at M6
          generalize hQ1 : (rTicks j x0 L (i + 1)).2.length = q1 at *
          generalize hQ2 : (rTicks j x0 L (i + 1)).1.length = q2 at *
          have HQ2 := Lib.hid hQ2
          clear hQ1 hQ2
          go_wp2_with fail
          go_roundw
          case rel => exact ⟨i + 1, by omega, by go_num, Lib.hid ⟨a3, c3, by rw [HQ2.out], M6.out⟩⟩
          case measure => simp [intOf]; omega
    · obtain rfl : i = n := by omega
      have HF := Lib.hid (HFIN.out _ _ _ M2.out)
      go_wp2_with fail
      exact HF.out
end Go.Proofs.Ytcolaafgjlaikaa
