/- ScheduleClasses walked. -/
import Derived.Test.YtbgabdofnmijnaaAA
import Derived.Test.YtbgabdofnmijnaaAB
namespace Go.Proofs.Ytbgabdofnmijnaa
open Go.RowKit
theorem plcF_rng (l : List Mk) (x : Int) : ∀ k, 0 ≤ plcF l k x ∧ plcF l k x ≤ k
  | 0 => by simp [plcF]
  | k + 1 => by
    have := plcF_rng l x k
    rw [plcF]
    split <;> omega
set_option maxRecDepth 100000 in
set_option maxHeartbeats 8000000 in
theorem classes_law (a : Option Addr) (n c : Nat) (l : List Mk) (w : World) (hn : n ≤ maxLen) (hnc : n ≤ c) (h : MksAt w a n l) :
    Calls Try.prog 4 #[.slice a n c] w fun e w' => e = .returned (.bool true) ∧ Below w.heap.size w w' := by
  have HF := Lib.hid (fixed_any w)
  have HFEW := Lib.hid fun w1 (hb : Below w.heap.size w w1) => few_any a n c l w1 hn (h.below hb)
  have HA := Lib.hid h
  have HL := Lib.hid h.1
  unfold maxLen at hn
  clear h
  cases hfew : fewM l with
  | false =>
    rw [hfew] at HFEW
    clear hfew
    go_enter Try.func4, Try.ntmps4
    go_wp2_with fail
    refine HF.out.mono ?_
    rintro e w1 ⟨rfl, hb⟩
    have HB := Lib.hid hb
    have HW := Lib.hid (HFEW.out _ hb)
    clear hb HFEW
    go_wp2_with fail
    refine HW.out.mono ?_
    rintro e w2 ⟨rfl, hb⟩
    have HB2 := Lib.hid (HB.out.trans (hb.mono HB.out.size))
    clear hb
    go_wp2_with fail
    go_ret
    exact ⟨rfl, HB2.out⟩
  | true =>
    have hn40 : n ≤ 40 := by rw [HL.out]; exact few_len hfew
    rw [hfew] at HFEW
    clear hfew
    have HRR := Lib.hid fun w1 (hb : Below w.heap.size w w1) => rright_any a n c l w1 (HA.out.below hb) (by omega) hnc
    by_cases h0 : rightM l = 0
    · have hR := ((right_iff l).1 h0).2
      rw [h0] at HRR
      have HC1 := Lib.hid fun w1 (hb : Below w.heap.size w w1) => rigor_any a n c l w1 (HA.out.below hb) (by omega) hnc
      have HC2 := Lib.hid fun w1 (hb : Below w.heap.size w w1) => strict_any a n c l w1 (HA.out.below hb) (by omega) hnc
      have HC3 := Lib.hid fun w1 (hb : Below w.heap.size w w1) => casc_any a n c l w1 (HA.out.below hb) (by omega)
      have HC4 := Lib.hid fun w1 (hb : Below w.heap.size w w1) => recov_any a n c l w1 (HA.out.below hb) (by omega)
      have HI1 := Lib.hid (rig_str (l := l))
      have HI2 := Lib.hid (str_cas h0)
      have HI3 := Lib.hid (cas_rec h0)
      cases hrig : apartB l rigT with
      | false =>
        rw [hrig] at HC1
        have HX : Hid ((apartB l strT && !readsB l (casH l) || readsB l (casH l) && !readsB l (recH l)) = false) := Lib.hid (by
          cases h1 : apartB l strT with
          | true => rw [HI2.out h1, HI3.out (HI2.out h1)]; rfl
          | false =>
            cases h2 : readsB l (casH l) with
            | true => rw [HI3.out h2]; rfl
            | false => rfl)
        clear hrig HI1 HI2 HI3 h0 hR
        generalize apartB l strT = B at *
        generalize readsB l (casH l) = C at *
        generalize readsB l (recH l) = D at *
        go_enter Try.func4, Try.ntmps4
        go_wp2_with fail
        refine HF.out.mono ?_
        rintro e w1 ⟨rfl, hb⟩
        have M1 := Lib.hid ((Mem.nil w).below hb)
        clear hb
        have H1 := Lib.hid (HFEW.out _ M1.out.bel)
        go_wp2_with fail
        refine H1.out.mono ?_
        rintro e w2 ⟨rfl, hb⟩
        have M2 := Lib.hid (M1.out.below hb)
        clear hb H1 M1
        have H1 := Lib.hid (HRR.out _ M2.out.bel)
        go_wp2_with fail
        refine H1.out.mono ?_
        rintro e w3 ⟨rfl, hb⟩
        have M3 := Lib.hid (M2.out.below hb)
        clear hb H1 M2
        have H1 := Lib.hid (HC1.out _ M3.out.bel)
        go_wp2_with fail
        refine H1.out.mono ?_
        rintro e w4 ⟨rfl, hb⟩
        have M4 := Lib.hid (M3.out.below hb)
        clear hb H1 M3
        have H1 := Lib.hid (HC2.out _ M4.out.bel)
        go_wp2_with fail
        refine H1.out.mono ?_
        rintro e w5 ⟨rfl, hb⟩
        have M5 := Lib.hid (M4.out.below hb)
        clear hb H1 M4
        have H1 := Lib.hid (HC3.out _ M5.out.bel)
        go_wp2_with fail
        refine H1.out.mono ?_
        rintro e w6 ⟨rfl, hb⟩
        have M6 := Lib.hid (M5.out.below hb)
        clear hb H1 M5
        have H1 := Lib.hid (HC4.out _ M6.out.bel)
        go_wp2_with fail
        refine H1.out.mono ?_
        rintro e w7 ⟨rfl, hb⟩
        have M7 := Lib.hid (M6.out.below hb)
        clear hb H1 M6
        cases B <;> cases C <;> cases D
        all_goals first
          | (exfalso; have := HX.out; simp at this; done)
          | (go_wp2_with fail
             go_ret
             exact ⟨rfl, M7.out.bel⟩)
      | true =>
        have hs := HI1.out hrig
        have hcs := HI2.out hs
        have hrc := HI3.out hcs
        rw [hrig] at HC1
        rw [hs] at HC2
        rw [hcs] at HC3
        rw [hrc] at HC4
        have HEDG := Lib.hid fun (hend : ∀ m ∈ l, endedR l m.tx l.length = true) x y (he : EdgeP l x y) => rig_edges h0 hrig hend he
        have HORD := Lib.hid fun (hend : ∀ m ∈ l, endedR l m.tx l.length = true) O ok (ho : IsOrder l O ok) => rig_order h0 hrig hend ho
        have HIE := Lib.hid fun E (hE : IsEdges l E) => (isEdges_ok h0 hE).1
        have HEN := Lib.hid fun tx W (hb : Below w.heap.size w W) => ended_any a n c l tx n W (HA.out.below hb) (by omega) hnc (Nat.le_refl _)
        have HED := Lib.hid fun W (hb : Below w.heap.size w W) => edges_any a n c l W (HA.out.below hb) (by omega) hnc
        have HOR := Lib.hid fun W (hb : Below w.heap.size w W) => order_any a n c l W (HA.out.below hb) (by omega) hnc
        have HWF : Hid (∀ x : Mk, x ∈ l → Wf x.tx) := Lib.hid fun x hx => wf_of (HA.out.bd x hx).2.2.1 (HA.out.bd x hx).2.2.2.1
        clear hrig hs hcs hrc HI1 HI2 HI3 h0 hR
        have hmm := @run_makeMap Try.prog
        go_enter Try.func4, Try.ntmps4
        go_wp2_with fail
        refine HF.out.mono ?_
        rintro e w1 ⟨rfl, hb⟩
        have M1 := Lib.hid ((Mem.nil w).below hb)
        clear hb
        have H1 := Lib.hid (HFEW.out _ M1.out.bel)
        go_wp2_with fail
        refine H1.out.mono ?_
        rintro e w2 ⟨rfl, hb⟩
        have M2 := Lib.hid (M1.out.below hb)
        clear hb H1 M1
        have H1 := Lib.hid (HRR.out _ M2.out.bel)
        go_wp2_with fail
        refine H1.out.mono ?_
        rintro e w3 ⟨rfl, hb⟩
        have M3 := Lib.hid (M2.out.below hb)
        clear hb H1 M2
        have H1 := Lib.hid (HC1.out _ M3.out.bel)
        go_wp2_with fail
        refine H1.out.mono ?_
        rintro e w4 ⟨rfl, hb⟩
        have M4 := Lib.hid (M3.out.below hb)
        clear hb H1 M3
        have H1 := Lib.hid (HC2.out _ M4.out.bel)
        go_wp2_with fail
        refine H1.out.mono ?_
        rintro e w5 ⟨rfl, hb⟩
        have M5 := Lib.hid (M4.out.below hb)
        clear hb H1 M4
        have H1 := Lib.hid (HC3.out _ M5.out.bel)
        go_wp2_with fail
        refine H1.out.mono ?_
        rintro e w6 ⟨rfl, hb⟩
        have M6 := Lib.hid (M5.out.below hb)
        clear hb H1 M5
        have H1 := Lib.hid (HC4.out _ M6.out.bel)
        go_wp2_with fail
        refine H1.out.mono ?_
        rintro e w7 ⟨rfl, hb⟩
        have M7 := Lib.hid (show Mem w [] (w7.alloc (.map #[] 0)) [MapA w7.heap.size 0 (plcF l 0)] from (M6.out.below hb).new (bel_new _ _) (As := [MapA w7.heap.size 0 (fun _ => 0)]) (all_one (MapA.made w7)) (by simp))
        clear hb H1 M6 HFEW HRR HC1 HC2 HC3 HC4 HF
        go_wp2_with fail
        generalize w7.heap.size = bm at *
        go_loopw [58] (fun j wr => ∃ k nm : Nat, k ≤ n ∧ nm ≤ k ∧ j = .int .i64 k ∧ Hid (Mem w [] wr [MapA bm nm (plcF l k)])) (fun j _ => n - (intOf j).toNat)
        case atStart => exact ⟨0, 0, Nat.zero_le _, Nat.le_refl _, rfl, M7⟩
        case round =>
          obtain ⟨W1, rfl⟩ : ∃ W1, W1 = wr := ⟨_, rfl⟩
          obtain ⟨k, nm, hk, hnm, rfl, M8⟩ := hrel
          clear M7 hmm
          by_cases hlt : k < n
          · have hlt' : k < l.length := by rw [← HL.out]; exact hlt
            obtain ⟨g, off, rfl, hcA, hcB, hcD⟩ := (HA.out.below M8.out.bel).at k hlt'
            have hwf := Lib.hid (HWF.out _ (List.getElem_mem hlt'))
            have HSU := Lib.hid fun x => plcF_succ l k x hlt'
            have M9 := Lib.hid (M8.out.block #[.int .i64 l[k].kind, .int .i64 l[k].tx, .string l[k].key] 36)
            clear M8
            generalize l[k] = x at *
            obtain ⟨xk, xt, xy⟩ := x
            simp only at hcA hcB hcD M9 HSU hwf
            obtain ⟨k0, k1, k2⟩ := box_cells M9.out
            by_cases h3 : xk = 3
            · subst h3
              obtain ⟨w9, hrun, hm⟩ := Mem.mapPut (v := (k : Int) + 1) [BlockA W1.heap.size #[.int .i64 3, .int .i64 xt, .string xy] 36] (r := []) M9.out hwf.out (wf_of (by omega) (by omega)) (by unfold maxLen; omega)
              have HRUN := Lib.hid hrun
              have M10 := Lib.hid (show Mem w [] w9 [MapA bm (nm + 1) (plcF l (k + 1))] from by
                have h1 := Mem.drop [] (A := BlockA W1.heap.size #[.int .i64 3, .int .i64 xt, .string xy] 36) (r := [MapA bm (nm + 1) (fun y => if y = xt then (k : Int) + 1 else plcF l k y)]) hm
                have h2 : (fun y => if y = xt then (k : Int) + 1 else plcF l k y) = plcF l (k + 1) := by
                  funext y
                  rw [HSU.out y]
                  by_cases e : y = xt
                  · subst e; simp
                  · simp [e, show ¬ xt = y from fun h => e h.symm]
                rw [h2] at h1
                exact h1)
              clear hrun hm M9 HSU
              go_wp2_with ((at_mapUpdate; refine wpList_mapUpdateR _ rfl (.tmp 66) (.tmp 68) (.tmp 70) 46 rfl (.map (some bm)) (.int .i64 xt) (.int .i64 ((k : Int) + 1)) rfl rfl rfl HRUN.out ?_))
              go_roundw
              case rel => exact ⟨k + 1, nm + 1, by omega, by omega, by go_num, M10⟩
              case measure => simp [intOf]; omega
            · have h3' : (xk == 3) = false := by simpa using h3
              have M10 := Lib.hid (show Mem w [] (W1.alloc (.cells #[.int .i64 xk, .int .i64 xt, .string xy] 36)) [MapA bm nm (plcF l (k + 1))] from by
                have h1 := Mem.drop [] (A := BlockA W1.heap.size #[.int .i64 xk, .int .i64 xt, .string xy] 36) (r := [MapA bm nm (plcF l k)]) M9.out
                have h2 : plcF l k = plcF l (k + 1) := by
                  funext y
                  rw [HSU.out y, h3']; simp
                rw [h2] at h1
                exact h1)
              clear M9 HSU h3
              go_wp2_with fail
              go_roundw
              case rel => exact ⟨k + 1, nm, by omega, by omega, by go_num, M10⟩
              case measure => simp [intOf]; omega
          · obtain rfl : k = n := by omega
            have M9 := Lib.hid (show Mem w [] W1 [MapA bm nm (plcF l l.length)] from by rw [← HL.out]; exact M8.out)
            clear M8
            go_wp2_with fail
            go_loopw [74] (fun j wr => ∃ q : Nat, q ≤ k ∧ j = .int .i64 q ∧ Hid ((∀ i (hi : i < l.length), i < q → endedR l l[i].tx k = true) ∧ Mem w [] wr [MapA bm nm (plcF l l.length)])) (fun j _ => k - (intOf j).toNat)
            case atStart => exact ⟨0, Nat.zero_le _, rfl, Lib.hid ⟨fun i h hi => by omega, M9.out⟩⟩
            case round =>
              obtain ⟨W2, rfl⟩ : ∃ W2, W2 = wr := ⟨_, rfl⟩
              obtain ⟨q, hq, rfl, HS⟩ := hrel
              clear M9
              have HALL := Lib.hid HS.out.1
              have M10 := Lib.hid HS.out.2
              clear HS
              by_cases hlq : q < k
              · have hlq' : q < l.length := by rw [← HL.out]; exact hlq
                obtain ⟨g, off, rfl, hcA, hcB, hcD⟩ := (HA.out.below M10.out.bel).at q hlq'
                have HNX := Lib.hid fun (h : endedR l l[q].tx k = true) => (show ∀ i (hi : i < l.length), i < q + 1 → endedR l l[i].tx k = true from fun i hi hik => by
                  by_cases e : i = q
                  · subst e; exact h
                  · exact HALL.out i hi (by omega))
                have M11 := Lib.hid (M10.out.block #[.int .i64 l[q].kind, .int .i64 l[q].tx, .string l[q].key] 36)
                have HC := Lib.hid (HEN.out l[q].tx _ M11.out.bel)
                clear M10 HALL
                generalize l[q] = x at *
                obtain ⟨xk, xt, xy⟩ := x
                simp only at hcA hcB hcD M11 HC HNX
                obtain ⟨k0, k1, k2⟩ := box_cells M11.out
                go_wp2_with fail
                refine HC.out.mono ?_
                rintro e w9 ⟨rfl, hb⟩
                have M12 := Lib.hid (Mem.drop [] (A := BlockA W2.heap.size #[.int .i64 xk, .int .i64 xt, .string xy] 36) (r := [MapA bm nm (plcF l l.length)]) (M11.out.below hb))
                clear hb M11 HC k0 k1 k2
                cases hen : endedR l xt k with
                | false =>
                  clear hen HNX
                  go_wp2_with fail
                  go_ret
                  exact ⟨rfl, M12.out.bel⟩
                | true =>
                  have HX := Lib.hid (And.intro (HNX.out hen) M12.out)
                  clear hen HNX M12
                  go_wp2_with fail
                  go_roundw
                  case rel => exact ⟨q + 1, by omega, by go_num, HX⟩
                  case measure => simp [intOf]; omega
              · obtain rfl : q = k := by omega
                have HEND : Hid (∀ m ∈ l, endedR l m.tx l.length = true) := Lib.hid fun m hm => by
                  obtain ⟨i, hi, rfl⟩ := List.getElem_of_mem hm
                  have := HALL.out i hi (by rw [HL.out]; exact hi)
                  rw [HL.out] at this; exact this
                have HE1 := Lib.hid (HED.out _ M10.out.bel)
                clear HALL
                go_wp2_with fail
                refine HE1.out.mono ?_
                rintro e w9 ⟨eb, ed, E, rfl, hE, hm⟩
                have HPE : Hid (∀ e ∈ E, plcF l l.length e.a ≠ 0 ∧ plcF l l.length e.a < plcF l l.length e.b ∧ Wf e.a ∧ Wf e.b) := Lib.hid fun e he => by
                  have h1 := (HIE.out E hE e).1 he
                  obtain ⟨h2, h3⟩ := HEDG.out HEND.out e.a e.b h1
                  obtain ⟨i, j, hi, hj, _, _, e1, e2⟩ := h1
                  exact ⟨h2, h3, by rw [← e1]; exact HWF.out _ (List.getElem_mem hj), by rw [← e2]; exact HWF.out _ (List.getElem_mem hi)⟩
                have hel := isEdges_len (by rw [← HL.out]; omega) hE
                have M11 := Lib.hid (M10.out.made hm)
                clear hE hm M10 HE1 HED HIE HEDG
                generalize hen : E.length = en at *
                have HENL := Lib.hid hen
                rw [show RowE eb ed E = RowA 42 2 eb en ed (egFlat E) by unfold RowE; rw [hen]] at M11
                clear hen
                go_wp2_with fail
                go_loopw [89] (fun j wr => ∃ s : Nat, s ≤ en ∧ j = .int .i64 s ∧ Hid (Mem w [] wr [RowA 42 2 eb en ed (egFlat E), MapA bm nm (plcF l l.length)])) (fun j _ => en - (intOf j).toNat)
                case atStart => exact ⟨0, Nat.zero_le _, rfl, M11⟩
                case round =>
                  obtain ⟨W3, rfl⟩ : ∃ W3, W3 = wr := ⟨_, rfl⟩
                  obtain ⟨s, hs, rfl, M12⟩ := hrel
                  clear M11
                  by_cases hls : s < en
                  · have hls' : s < E.length := by rw [HENL.out]; exact hls
                    obtain ⟨ge, rfl, hx1, hx2⟩ := egAt_row (Mem.rowAt [] (r := [MapA bm nm (plcF l l.length)]) M12.out) s hls'
                    obtain ⟨p1, p2, p3, p4⟩ := HPE.out _ (List.getElem_mem hls')
                    have M13 := Lib.hid (M12.out.block #[.int .i64 E[s].a, .int .i64 E[s].b] 42)
                    have HG := Lib.hid (And.intro (Mem.mapGet [BlockA W3.heap.size #[.int .i64 E[s].a, .int .i64 E[s].b] 42, RowA 42 2 (some ⟨ge, 0, none⟩) en ed (egFlat E)] (r := []) M13.out p3) (Mem.mapGet [BlockA W3.heap.size #[.int .i64 E[s].a, .int .i64 E[s].b] 42, RowA 42 2 (some ⟨ge, 0, none⟩) en ed (egFlat E)] (r := []) M13.out p4))
                    have q1 : (plcF l l.length E[s].a == 0) = false := by simpa using p1
                    have q2 : decide (plcF l l.length E[s].b ≤ plcF l l.length E[s].a) = false := decide_eq_false (by omega)
                    clear p3 p4 p1 M12
                    generalize E[s] = x at *
                    obtain ⟨xa, xb⟩ := x
                    simp only at hx1 hx2 M13 HG q1 q2 p2
                    obtain ⟨z0, -⟩ := M13.out.block_cell (i := 0) (v := .int .i64 xa) rfl
                    obtain ⟨z1, -⟩ := M13.out.block_cell (i := 1) (v := .int .i64 xb) rfl
                    obtain ⟨hg1, hg2⟩ := HG.out
                    have M14 := Lib.hid (Mem.drop [] (A := BlockA W3.heap.size #[.int .i64 xa, .int .i64 xb] 42) (r := [RowA 42 2 (some ⟨ge, 0, none⟩) en ed (egFlat E), MapA bm nm (plcF l l.length)]) M13.out)
                    clear HG M13
                    generalize plcF l l.length xa = f1 at *
                    generalize plcF l l.length xb = f2 at *
                    go_wp2_with fail
                    go_roundw
                    case rel => exact ⟨s + 1, by omega, by go_num, M14⟩
                    case measure => simp [intOf]; omega
                  · obtain rfl : s = en := by omega
                    have HO := Lib.hid (HOR.out _ M12.out.bel)
                    have HBE := Lib.hid M12.out.bel
                    clear M12
                    go_wp2_with fail
                    refine HO.out.mono ?_
                    rintro e w10 ⟨ob, od, O, ok, rfl, ho, hm⟩
                    obtain rfl := HORD.out HEND.out O ok ho
                    have HB2 := Lib.hid ((((Mem.nil w).below HBE.out).made hm).bel)
                    clear ho hm HO
                    go_wp2_with fail
                    go_ret
                    exact ⟨rfl, HB2.out⟩
    · have hq2 : (rightM l != 0) = true := by simpa using h0
      clear h0
      generalize rightM l = q at *
      go_enter Try.func4, Try.ntmps4
      go_wp2_with fail
      refine HF.out.mono ?_
      rintro e w1 ⟨rfl, hb⟩
      have M1 := Lib.hid ((Mem.nil w).below hb)
      clear hb
      have H1 := Lib.hid (HFEW.out _ M1.out.bel)
      go_wp2_with fail
      refine H1.out.mono ?_
      rintro e w2 ⟨rfl, hb⟩
      have M2 := Lib.hid (M1.out.below hb)
      clear hb H1 M1
      have H1 := Lib.hid (HRR.out _ M2.out.bel)
      go_wp2_with fail
      refine H1.out.mono ?_
      rintro e w3 ⟨rfl, hb⟩
      have HB3 := Lib.hid (M2.out.below hb).bel
      clear hb H1 M2
      go_wp2_with fail
      go_ret
      exact ⟨rfl, HB3.out⟩
end Go.Proofs.Ytbgabdofnmijnaa
