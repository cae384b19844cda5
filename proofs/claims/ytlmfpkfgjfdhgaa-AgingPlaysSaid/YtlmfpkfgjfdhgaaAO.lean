/- AgingCycles walked. -/
import Derived.Test.YtlmfpkfgjfdhgaaAN
import Derived.Test.YtlmfpkfgjfdhgaaAF
import Derived.Deep.CutRange
import Derived.Deep.CutBlock
namespace Go.Proofs.Ytlmfpkfgjfdhgaa
open Go.RowKit
theorem gpost_at {w0 w : World} {D0 : List Nat} {p : Nat} {N E N' E' : Prs} {e0 : Ending} (l : List Asn) {r : List Asn} [Stables l] [Stables r] (h : Mem w0 D0 w (l ++ GrA p N E :: r)) {f : Nat} {args : Array Value}
    (hc : ∀ D, GrA p N E w D → Calls Try.prog f args w (GPost p N' E' w D e0)) : Calls Try.prog f args w fun e w' => e = e0 ∧ Mem w0 D0 w' (l ++ GrA p N' E' :: r) := by
  refine (Mem.call l h (Q := fun e As => e = e0 ∧ As = [GrA p N' E']) fun D hA => (hc D hA).mono ?_).mono ?_
  · rintro e w' ⟨he, D', h1, h2⟩
    exact ⟨_, D', ⟨he, rfl⟩, all_one h1, h2⟩
  · rintro e w' ⟨As, ⟨he, rfl⟩, hm⟩
    exact ⟨he, hm⟩
/-- what holds at a round's head. -/
def CHead (w : World) (p b : Nat) (wd : Bool) (k : Nat) (wr : World) : Prop :=
  ∃ M K F nm, CInv wd M K ∧ K.length ≤ k ∧ MapOk F M ∧ nm ≤ k ∧ Mem w [] wr [MapA b nm F, TbA p wd M K]
theorem gr_start (w : World) : GrA w.heap.size [] [] (w.alloc (.cells #[.slice none 0 0, .slice none 0 0] 39)) [w.heap.size] :=
  ⟨none, 0, none, 0, [w.heap.size], [], rfl, by simp, ⟨rfl, heap_new w _⟩, [], [], rfl, by simp, ⟨rfl, Row.nil _ _ _⟩, [], [], rfl, by simp, ⟨rfl, Row.nil _ _ _⟩, rfl⟩
set_option maxRecDepth 100000 in
set_option maxHeartbeats 4000000 in
theorem cycles_law (wd : Bool) (a : Option Addr) (n c : Nat) (l : List Ac) (w : World) (hn : n ≤ maxLen) (h : ActsAt w a n l) :
    Calls Try.prog 3 #[.bool wd, .slice a n c] w fun e w' => e = .returned (.bool true) ∧ Below w.heap.size w w' := by
  have HF := Lib.hid (fixed_any w)
  have HFEW := Lib.hid fun w1 (hb : Below w.heap.size w w1) => few_any a n c l w1 hn (h.below hb)
  have HA := Lib.hid h
  unfold maxLen at hn
  clear h
  cases hfew : fewA l with
  | false =>
    rw [hfew] at HFEW
    clear hfew
    go_enter Try.func3, Try.ntmps3
    go_wp2_with fail
    refine HF.out.mono ?_
    rintro e w1 ⟨rfl, hb⟩
    have HB := Lib.hid hb
    clear hb
    go_wp2_with fail
    refine (HFEW.out _ HB.out).mono ?_
    rintro e w2 ⟨rfl, hb⟩
    have HB2 := Lib.hid (HB.out.trans (hb.mono HB.out.size))
    clear hb
    go_wp2_with fail
    go_ret
    exact ⟨rfl, HB2.out⟩
  | true =>
    have hn80 : n ≤ 80 := by
      have h1 := (Bool.and_eq_true_iff.1 hfew).2
      have h2 := HA.out.1
      have : l.length ≤ 80 := by simpa using h1
      omega
    rw [hfew] at HFEW
    clear hfew
    have HNEW := Lib.hid (tb_new wd)
    have hmm := @run_makeMap Try.prog
    go_enter Try.func3, Try.ntmps3
    go_wp2_with fail
    refine HF.out.mono ?_
    rintro e w1 ⟨rfl, hb⟩
    have HB := Lib.hid hb
    clear hb
    go_wp2_with fail
    refine (HFEW.out _ HB.out).mono ?_
    rintro e w2 ⟨rfl, hb⟩
    have HB2 := Lib.hid (HB.out.trans (hb.mono HB.out.size))
    clear hb
    go_wp2_with fail
    refine (HNEW.out w2).mono ?_
    rintro e w3 ⟨p, rfl, hA, hd, hb⟩
    have M1 := Lib.hid (show Mem w [] w3 (TbA p wd [] [] :: []) from ((Mem.nil w).below HB2.out).new hb hA hd)
    have M2 := Lib.hid (show Mem w [] (w3.alloc (.map #[] 0)) [MapA w3.heap.size 0 (fun _ => 0), TbA p wd [] []] from M1.out.new (bel_new _ _) (As := [MapA w3.heap.size 0 (fun _ => 0)]) (all_one (MapA.made w3)) (by simp))
    clear hA hd hb
    have HI : Hid (CHead w p w3.heap.size wd 0 (w3.alloc (.map #[] 0))) := Lib.hid ⟨_, _, _, 0, CInv.start wd, Nat.le_refl _, (fun _ h => by cases h), Nat.le_refl _, M2.out⟩
    clear M1 M2 HB2 HB
    go_wp2_with fail
    generalize w3.heap.size = bm at *
    go_loopw [24] (fun j wr => ∃ k : Nat, k ≤ n ∧ j = .int .i64 k ∧ Hid (CHead w p bm wd k wr)) (fun j _ => n - (intOf j).toNat)
    case atStart => exact ⟨0, Nat.zero_le _, rfl, HI⟩
    case round =>
      obtain ⟨k, hk, rfl, hS⟩ := hrel
      clear HI hmm
      obtain ⟨M, K, F, nm, hok, hkl, hmo, hnm, hmem⟩ := hS.out
      have OK := Lib.hid hok
      have HKL := Lib.hid hkl
      have HMO := Lib.hid hmo
      have HNM := Lib.hid hnm
      have M3 := Lib.hid hmem
      clear hok hkl hmo hnm hmem hS
      by_cases hlt : k < n
      · obtain ⟨g, off, rfl, ⟨hx0, hx1, hx2, hx3⟩, hk0, hk1, hi0, hi1, hs0, hs1, -⟩ := (HA.out.below M3.out.bel).2 k (by rw [← HA.out.1]; exact hlt)
        generalize l[k]'(by rw [← HA.out.1]; exact hlt) = x at *
        obtain ⟨xk, xi, xs, xy⟩ := x
        simp only at hx0 hx1 hx2 hx3 hk0 hk1 hi0 hi1 hs0 hs1
        have WI := Lib.hid (wf_of hi0 hi1)
        have WS := Lib.hid (wf_of hs0 hs1)
        have HXB := Lib.hid hi1
        have M4 := Lib.hid (show Mem w [] (wr.alloc (.cells #[.int .u8 xk, .int .i64 xi, .int .i64 xs, .string xy] 29)) ([BlockA wr.heap.size #[.int .u8 xk, .int .i64 xi, .int .i64 xs, .string xy] 29, MapA bm nm F] ++ TbA p wd M K :: []) from M3.out.block _ _)
        clear hi0 hi1 hs0 hs1
        go_upto_block 2 with (fail)
        go_cut [] from 31 to 56 (fun wx => Hid (CHead w p bm wd (k + 1) wx))
        case first =>
          by_cases h0 : xk % 4 = 0
          · have hb0 : (xk % 4 == 0) = true := by simpa using h0
            rcases hj : joinT M xi xs with ⟨x, M'⟩
            have HJ := Lib.hid hj
            obtain ⟨q1, q2⟩ := OK.out.join hj
            have HE := Lib.hid q1
            have HQ := Lib.hid q2
            clear hj q1 q2 h0
            go_wp2_with fail
            refine (mem_join [BlockA wr.heap.size #[.int .u8 xk, .int .i64 xi, .int .i64 xs, .string xy] 29, MapA bm nm F] M4.out OK.out.sok HJ.out).mono ?_
            rintro e w5 ⟨rfl, hm⟩
            have M5 := Lib.hid (show Mem w [] w5 ([BlockA wr.heap.size #[.int .u8 xk, .int .i64 xi, .int .i64 xs, .string xy] 29] ++ MapA bm nm F :: [TbA p wd M' K]) from hm)
            clear hm HJ
            by_cases hx : x = 0
            · subst hx
              have hq : ((0 : Int) == 0) = true := rfl
              obtain ⟨w6, hrun, hm⟩ := Mem.mapPut [BlockA wr.heap.size #[.int .u8 xk, .int .i64 xi, .int .i64 xs, .string xy] 29] M5.out WI.out WS.out (by have := HNM.out; unfold maxLen; omega)
              have HRUN := Lib.hid hrun
              obtain ⟨z1, -⟩ := Mem.cellAt (i := 1) [] (show Mem w [] w5 ([] ++ BlockA wr.heap.size #[.int .u8 xk, .int .i64 xi, .int .i64 xs, .string xy] 29 :: [MapA bm nm F, TbA p wd M' K]) from M5.out) rfl
              obtain ⟨z2, -⟩ := Mem.cellAt (i := 2) [] (show Mem w [] w5 ([] ++ BlockA wr.heap.size #[.int .u8 xk, .int .i64 xi, .int .i64 xs, .string xy] 29 :: [MapA bm nm F, TbA p wd M' K]) from M5.out) rfl
              have HFIN : Hid (CHead w p bm wd (k + 1) w6) := Lib.hid ⟨M', K, _, nm + 1, HE.out, by have := HKL.out; omega, fun m hm => by
                rcases HQ.out m hm with ⟨h1, h2⟩ | ⟨_, h2, h3⟩
                · simp only [if_neg (h2 rfl)]; exact HMO.out m h1
                · simp only [if_pos h2]; exact ⟨h3.symm, by rw [h2]; exact HXB.out⟩, by have := HNM.out; omega, Mem.drop [] (show Mem w [] w6 ([] ++ BlockA wr.heap.size #[.int .u8 xk, .int .i64 xi, .int .i64 xs, .string xy] 29 :: [MapA bm (nm + 1) (fun y => if y = xi then xs else F y), TbA p wd M' K]) from hm)⟩
              clear hrun hm
              go_wp2_with ((at_mapUpdate; refine wpList_mapUpdateR _ rfl (.tmp 46) (.tmp 48) (.tmp 50) 27 rfl (.map (some bm)) (.int .i64 xi) (.int .i64 xs) rfl rfl rfl HRUN.out ?_))
              go_meet
              case rel => exact HFIN
            · have hq : (x == 0) = false := by simpa using hx
              have HFIN : Hid (CHead w p bm wd (k + 1) w5) := Lib.hid ⟨M', K, F, nm, HE.out, by have := HKL.out; omega, fun m hm => by
                rcases HQ.out m hm with ⟨h1, _⟩ | ⟨h2, _⟩
                · exact HMO.out m h1
                · exact absurd h2 hx, by have := HNM.out; omega, Mem.drop [] (show Mem w [] w5 ([] ++ BlockA wr.heap.size #[.int .u8 xk, .int .i64 xi, .int .i64 xs, .string xy] 29 :: [MapA bm nm F, TbA p wd M' K]) from M5.out)⟩
              clear hx
              go_wp2_with fail
              go_meet
              case rel => exact HFIN
          · have hb0 : (xk % 4 == 0) = false := by simpa using h0
            by_cases h3 : xk % 4 = 3
            · have hb3 : (xk % 4 == 3) = true := by simpa using h3
              rcases hj : leaveT wd M K xi with ⟨x, M', K'⟩
              have HJ := Lib.hid hj
              have HL := Lib.hid (OK.out.sok.leave hj).2
              obtain ⟨q1, q2⟩ := OK.out.leave hj
              have HE := Lib.hid q1
              have HQ := Lib.hid q2
              clear hj h0 h3 q1 q2
              go_wp2_with fail
              refine (mem_leave [BlockA wr.heap.size #[.int .u8 xk, .int .i64 xi, .int .i64 xs, .string xy] 29, MapA bm nm F] M4.out OK.out.sok HJ.out).mono ?_
              rintro e w5 ⟨rfl, hm⟩
              have HFIN : Hid (CHead w p bm wd (k + 1) w5) := Lib.hid ⟨M', K', F, nm, HE.out, by have := HKL.out; have := HL.out; omega, HMO.out.sg HQ.out, by have := HNM.out; omega, Mem.drop [] (show Mem w [] w5 ([] ++ BlockA wr.heap.size #[.int .u8 xk, .int .i64 xi, .int .i64 xs, .string xy] 29 :: [MapA bm nm F, TbA p wd M' K']) from hm)⟩
              clear hm HJ
              go_wp2_with fail
              go_meet
              case rel => exact HFIN
            · have hb3 : (xk % 4 == 3) = false := by simpa using h3
              rcases hj : askT wd M K xi xy with ⟨⟨x, y⟩, M', K'⟩
              have HJ := Lib.hid hj
              have HL := Lib.hid (OK.out.sok.ask (by have := HKL.out; omega) hj).2
              obtain ⟨q1, q2⟩ := OK.out.ask (by have := HKL.out; omega) hj
              have HE := Lib.hid q1
              have HQ := Lib.hid fun m (hm : m ∈ M') => mem_sg q2 hm
              clear hj h0 h3 q1 q2
              go_wp2_with fail
              refine (mem_ask [BlockA wr.heap.size #[.int .u8 xk, .int .i64 xi, .int .i64 xs, .string xy] 29, MapA bm nm F] M4.out OK.out.sok HJ.out).mono ?_
              rintro e w5 ⟨rfl, hm⟩
              have HFIN : Hid (CHead w p bm wd (k + 1) w5) := Lib.hid ⟨M', K', F, nm, HE.out, by have := HKL.out; have := HL.out; omega, HMO.out.sg HQ.out, by have := HNM.out; omega, Mem.drop [] (show Mem w [] w5 ([] ++ BlockA wr.heap.size #[.int .u8 xk, .int .i64 xi, .int .i64 xs, .string xy] 29 :: [MapA bm nm F, TbA p wd M' K']) from hm)⟩
              clear hm HJ
              go_wp2_with fail
              go_meet
              case rel => exact HFIN
        case rest =>
          clear OK HKL HMO HNM M3 M4 WI WS HA
          obtain ⟨M2, K2, F2, nm2, hok, hkl, hmo, hnm, hmem⟩ := hcut.out
          have OK := Lib.hid hok
          have HKL := Lib.hid hkl
          have HMO := Lib.hid hmo
          have HNM := Lib.hid hnm
          have M5 := Lib.hid hmem
          clear hok hkl hmo hnm hmem hcut
          have M6 := Lib.hid (show Mem w [] (wc.alloc (.cells #[.slice none 0 0, .slice none 0 0] 39)) ([GrA wc.heap.size [] [], MapA bm nm2 F2] ++ TbA p wd M2 K2 :: []) from M5.out.new (bel_new _ _) (As := [GrA wc.heap.size [] []]) (all_one (gr_start wc)) (by simp))
          clear M5
          have hml : M2.length ≤ 64 := OK.out.len
          go_wp2_with fail
          generalize wc.heap.size = pg at *
          refine (mem_members [GrA pg [] [], MapA bm nm2 F2] M6.out OK.out.sok).mono ?_
          rintro e w6 ⟨am, cm, rfl, hm⟩
          have M7 := Lib.hid (show Mem w [] w6 [RowA 3 1 am M2.length cm ((M2.map (·.id)).map (Value.int .i64)), GrA pg ((M2.take 0).map sgM) [], MapA bm nm2 F2, TbA p wd M2 K2] from hm)
          clear hm M6
          generalize hml2 : M2.length = ml at *
          have HML := Lib.hid hml2
          clear hml2
          go_wp2_with fail
          go_loopw [62] (fun jv wr => ∃ j : Nat, j ≤ ml ∧ jv = .int .i64 j ∧ Hid (Mem w [] wr [RowA 3 1 am ml cm ((M2.map (·.id)).map (Value.int .i64)), GrA pg ((M2.take j).map sgM) [], MapA bm nm2 F2, TbA p wd M2 K2])) (fun jv _ => ml - (intOf jv).toNat)
          case atStart => exact ⟨0, Nat.zero_le _, rfl, M7⟩
          case round =>
            obtain ⟨j, hj, rfl, hS⟩ := hrel
            clear M7
            by_cases hlj : j < ml
            · have hj2 : j < M2.length := by rw [HML.out]; exact hlj
              obtain ⟨g5, rfl, hx5⟩ := (Mem.rowAt [] hS.out).cellAt j (by simp only [List.length_map]; exact hj2)
              simp only [List.getElem_map] at hx5
              have hmm := List.getElem_mem hj2
              have hr := OK.out.rng _ hmm
              have hF := HMO.out _ hmm
              have hget := Mem.mapGet [RowA 3 1 (some ⟨g5, 0, none⟩) ml cm ((M2.map (·.id)).map (Value.int .i64)), GrA pg ((M2.take j).map sgM) []] (r := [TbA p wd M2 K2]) hS.out (x := M2[j].id) (wf_of (by omega) hF.2)
              rw [hF.1] at hget
              have hst := stampG_take OK.out.sok.ok.sm hj2
              have hll : ((M2.take j).map sgM).length < 64 := by simp only [List.length_map, List.length_take]; omega
              have HS1 := Lib.hid (show Mem w [] wr ([RowA 3 1 (some ⟨g5, 0, none⟩) ml cm ((M2.map (·.id)).map (Value.int .i64))] ++ GrA pg ((M2.take j).map sgM) [] :: [MapA bm nm2 F2, TbA p wd M2 K2]) from hS.out)
              have HNODE := Lib.hid (gpost_at (N' := (M2.take j).map sgM ++ [(M2[j].id, M2[j].stamp)]) (E' := []) (e0 := .returned (.int .i64 0)) _ HS1.out (f := 14) (args := #[.pointer (some ⟨pg, 0, none⟩), .int .i64 M2[j].id, .int .i64 M2[j].stamp]) fun D hA => gr_node pg _ [] M2[j].id M2[j].stamp wr D hA hr.1 hr.2.1 hr.2.2 hst hll)
              clear hst hll HS1
              have HNX : Hid (((M2.take j).map sgM) ++ [(M2[j].id, M2[j].stamp)] = (M2.take (j + 1)).map sgM) := Lib.hid (map_take_succ sgM M2 j hj2).symm
              rw [HNX.out] at HNODE
              clear hmm hr hF hS HNX
              generalize M2[j] = mj at *
              go_wp2_with fail
              refine HNODE.out.mono ?_
              rintro e w7 ⟨rfl, hm⟩
              have M8 := Lib.hid (show Mem w [] w7 [RowA 3 1 (some ⟨g5, 0, none⟩) ml cm ((M2.map (·.id)).map (Value.int .i64)), GrA pg ((M2.take (j + 1)).map sgM) [], MapA bm nm2 F2, TbA p wd M2 K2] from hm)
              clear hm HNODE
              go_wp2_with fail
              go_roundw
              case rel => exact ⟨j + 1, by omega, by go_num, M8⟩
              case measure => simp [intOf]; omega
            · obtain rfl : j = ml := by omega
              rw [List.take_of_length_le (by rw [HML.out]; exact Nat.le_refl _)] at hS
              have M8 := Lib.hid (show Mem w [] wr ([GrA pg (M2.map sgM) [], MapA bm nm2 F2] ++ TbA p wd M2 K2 :: []) from Mem.drop (r := [GrA pg (M2.map sgM) [], MapA bm nm2 F2, TbA p wd M2 K2]) [] (show Mem w [] wr ([] ++ RowA 3 1 am j cm ((M2.map (·.id)).map (Value.int .i64)) :: [GrA pg (M2.map sgM) [], MapA bm nm2 F2, TbA p wd M2 K2]) from hS.out))
              clear hS
              go_wp2_with fail
              refine (mem_edges [GrA pg (M2.map sgM) [], MapA bm nm2 F2] M8.out OK.out.sok).mono ?_
              rintro e w8 ⟨ae, ce, rfl, hm⟩
              have M9 := Lib.hid (show Mem w [] w8 [RowA 44 2 ae (edgesOf M2 K2).length ce (edgeFlat (edgesOf M2 K2)), GrA pg (M2.map sgM) ((edgesOf M2 K2).take 0), MapA bm nm2 F2, TbA p wd M2 K2] from hm)
              clear hm M8
              have HEF := Lib.hid fun e he => edge_fact OK.out (e := e) he
              have HNO := Lib.hid fun k hk => edges_no (K := K2) OK.out.sok.ok.sm (k := k) hk
              have HCR := Lib.hid (edges_cr OK.out)
              have hel := edges_len (M := M2) (K := K2)
              rw [HML.out] at hel
              generalize edgesOf M2 K2 = E at *
              generalize hen : E.length = en at hel M9 ⊢
              have HEN := Lib.hid hen
              clear hen
              go_wp2_with fail
              go_loopw [76] (fun jv wr => ∃ j2 : Nat, j2 ≤ en ∧ jv = .int .i64 j2 ∧ Hid (Mem w [] wr [RowA 44 2 ae en ce (edgeFlat E), GrA pg (M2.map sgM) (E.take j2), MapA bm nm2 F2, TbA p wd M2 K2])) (fun jv _ => en - (intOf jv).toNat)
              case atStart => exact ⟨0, Nat.zero_le _, rfl, M9⟩
              case round =>
                obtain ⟨W4, rfl⟩ : ∃ W4, W4 = wr := ⟨_, rfl⟩
                obtain ⟨j2, hj2, rfl, hS⟩ := hrel
                clear M9
                by_cases hlj2 : j2 < en
                · have hj3 : j2 < E.length := by rw [HEN.out]; exact hlj2
                  obtain ⟨g6, rfl, hy0, hy1⟩ := pr_row (Mem.rowAt [] hS.out) j2 hj3
                  obtain ⟨m, hm, x, hx, he, hag⟩ := HEF.out _ (List.getElem_mem hj3)
                  have hno := HNO.out j2 hj3
                  have HTK : Hid (E.take j2 ++ [E[j2]] = E.take (j2 + 1)) := Lib.hid (List.take_succ_eq_append_getElem hj3).symm
                  rw [he] at hy0 hy1 hno HTK
                  simp only at hy0 hy1 hno
                  have s1 := stampG_mem OK.out.sok.ok.sm hm
                  have s2 := stampG_mem OK.out.sok.ok.sm hx
                  have hne : m.id ≠ x.id := fun e => by
                    have := sortM_id OK.out.sok.ok.sm hm hx e
                    subst this
                    exact aged_irr hag
                  have hwe := aged_elder hag
                  have M10 := Lib.hid (show Mem w [] (W4.alloc (.cells #[.int .i64 m.id, .int .i64 x.id] 44)) ([BlockA W4.heap.size #[.int .i64 m.id, .int .i64 x.id] 44, RowA 44 2 (some ⟨g6, 0, none⟩) en ce (edgeFlat E)] ++ GrA pg (M2.map sgM) (E.take j2) :: [MapA bm nm2 F2, TbA p wd M2 K2]) from hS.out.block _ _)
                  have HED := Lib.hid (gpost_at (N' := M2.map sgM) (E' := E.take j2 ++ [(m.id, x.id)]) (e0 := .returned (.int .i64 0)) _ M10.out (f := 16) (args := #[.pointer (some ⟨pg, 0, none⟩), .int .i64 m.id, .int .i64 x.id]) fun D hA => gr_edge pg _ _ m.id x.id _ _ _ D hA hne s1 s2 hno (by rw [List.length_map, HML.out]; omega) (by rw [List.length_take]; omega))
                  rw [HTK.out] at HED
                  have HEL := Lib.hid fun W D hA => gr_elder pg (M2.map sgM) (E.take (j2 + 1)) m.id x.id _ _ W D hA s1 s2 (by rw [List.length_map, HML.out]; omega)
                  generalize elderB m.stamp x.stamp m.id x.id = eb at *
                  clear hm hx he hag hno s1 s2 hne hS M10 HTK
                  go_wp2_with fail
                  refine HED.out.mono ?_
                  rintro e w9 ⟨rfl, hm9⟩
                  have M11 := Lib.hid (show Mem w [] w9 ([] ++ BlockA W4.heap.size #[.int .i64 m.id, .int .i64 x.id] 44 :: [RowA 44 2 (some ⟨g6, 0, none⟩) en ce (edgeFlat E), GrA pg (M2.map sgM) (E.take (j2 + 1)), MapA bm nm2 F2, TbA p wd M2 K2]) from hm9)
                  obtain ⟨z0, -⟩ := Mem.cellAt (i := 0) [] M11.out rfl
                  obtain ⟨z1, -⟩ := Mem.cellAt (i := 1) [] M11.out rfl
                  have M12 := Lib.hid (show Mem w [] w9 ([RowA 44 2 (some ⟨g6, 0, none⟩) en ce (edgeFlat E)] ++ GrA pg (M2.map sgM) (E.take (j2 + 1)) :: [MapA bm nm2 F2, TbA p wd M2 K2]) from Mem.drop (r := [RowA 44 2 (some ⟨g6, 0, none⟩) en ce (edgeFlat E), GrA pg (M2.map sgM) (E.take (j2 + 1)), MapA bm nm2 F2, TbA p wd M2 K2]) [] M11.out)
                  obtain ⟨D9, hD9⟩ := Mem.get _ M12.out
                  have HEL2 := Lib.hid (HEL.out w9 D9 hD9)
                  clear hm9 M11 hD9 HED
                  go_wp2_with fail
                  refine HEL2.out.mono ?_
                  rintro e w10 ⟨rfl, hb⟩
                  have M13 := Lib.hid (M12.out.below hb)
                  clear hb M12
                  go_wp2_with fail
                  go_roundw
                  case rel => exact ⟨j2 + 1, by omega, by go_num, M13⟩
                  case measure => simp [intOf]; omega
                · obtain rfl : j2 = en := by omega
                  rw [List.take_of_length_le (by rw [HEN.out]; exact Nat.le_refl _)] at hS
                  have M10 := Lib.hid (show Mem w [] W4 ([] ++ GrA pg (M2.map sgM) E :: [MapA bm nm2 F2, TbA p wd M2 K2]) from Mem.drop [] (show Mem w [] W4 ([] ++ RowA 44 2 ae j2 ce (edgeFlat E) :: [GrA pg (M2.map sgM) E, MapA bm nm2 F2, TbA p wd M2 K2]) from hS.out))
                  obtain ⟨D9, hD9⟩ := Mem.get _ M10.out
                  have HCY := Lib.hid (gr_cyclic pg (M2.map sgM) E (CR wd M2) (CR.trans OK.out.sok.ok.sm) (CR.irr OK.out.sok.ok.sm) HCR.out W4 D9 hD9 (by rw [List.length_map, HML.out]; omega) (by rw [HEN.out]; omega))
                  clear hD9 hS
                  go_wp2_with fail
                  refine HCY.out.mono ?_
                  rintro e w10 ⟨rfl, hb⟩
                  have HFIN : Hid (CHead w p bm wd (k + 1) w10) := Lib.hid ⟨M2, K2, F2, nm2, OK.out, HKL.out, HMO.out, HNM.out, Mem.drop [] (show Mem w [] w10 ([] ++ GrA pg (M2.map sgM) E :: [MapA bm nm2 F2, TbA p wd M2 K2]) from M10.out.below hb)⟩
                  clear hb
                  go_wp2_with fail
                  go_roundw
                  case rel => exact ⟨k + 1, by omega, by go_num, HFIN⟩
                  case measure => simp [intOf]; omega
      · obtain rfl : k = n := by omega
        have HB := Lib.hid M3.out.bel
        clear M3
        go_wp2_with fail
        go_ret
        exact ⟨rfl, HB.out⟩
end Go.Proofs.Ytlmfpkfgjfdhgaa
