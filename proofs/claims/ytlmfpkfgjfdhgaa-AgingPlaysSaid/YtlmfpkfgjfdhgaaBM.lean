/- AgingPlays walked. -/
import Derived.Test.YtlmfpkfgjfdhgaaBL
import Derived.Deep.CutRange
import Derived.Deep.CutBlock
import Derived.Deep.RegionHeld3
import Derived.BigRegion
namespace Go.Proofs.Ytlmfpkfgjfdhgaa
open Go.RowKit
/-- what holds at a round's head. -/
def PHead (w : World) (p q : Nat) (wd : Bool) (k : Nat) (wr : World) : Prop :=
  ∃ M K, PInv wd k M K ∧ Mem w [] wr [TbA p wd M K, RefA q wd M K]
/-- what the switch leaves. -/
def PMid (w : World) (p q B : Nat) (wd : Bool) (k : Nat) (xk xi xs : Int) (xy : ByteArray) (wr : World) : Prop :=
  ∃ M K, PInv wd k M K ∧ Mem w [] wr [BlockA B #[.int .u8 xk, .int .i64 xi, .int .i64 xs, .string xy] 29, TbA p wd M K, RefA q wd M K]
set_option maxRecDepth 100000 in
set_option maxHeartbeats 8000000 in
theorem plays_law (wd : Bool) (a : Option Addr) (n c : Nat) (l : List Ac) (w : World) (hn : n ≤ maxLen) (h : ActsAt w a n l) :
    Calls Try.prog 5 #[.bool wd, .slice a n c] w fun e w' => e = .returned (.bool true) ∧ Below w.heap.size w w' := by
  have HF := Lib.hid (fixed_any w)
  have HFEW := Lib.hid fun w1 (hb : Below w.heap.size w w1) => few_any a n c l w1 hn (h.below hb)
  have HA := Lib.hid h
  unfold maxLen at hn
  clear h
  cases hfew : fewA l with
  | false =>
    rw [hfew] at HFEW
    clear hfew
    go_enter Try.func5, Try.ntmps5
    go_wp2_with fail
    refine HF.out.mono ?_
    rintro e w1 ⟨rfl, hb⟩
    have HB := Lib.hid hb
    clear hb
    go_wp2_with fail
    refine (HFEW.out _ HB.out).mono ?_
    rintro e w2 ⟨rfl, hb⟩
    have HB2 := Lib.hid (HB.out.trans (hb.mono HB.out.size))
    clear hb
    go_wp2_with fail
    go_ret
    exact ⟨rfl, HB2.out⟩
  | true =>
    have hn80 : n ≤ 80 := by
      have h1 := (Bool.and_eq_true_iff.1 hfew).2
      have h2 := HA.out.1
      have : l.length ≤ 80 := by simpa using h1
      omega
    rw [hfew] at HFEW
    clear hfew
    have HNEW := Lib.hid (tb_new wd)
    go_enter Try.func5, Try.ntmps5
    go_wp2_with fail
    refine HF.out.mono ?_
    rintro e w1 ⟨rfl, hb⟩
    have HB := Lib.hid hb
    clear hb
    go_wp2_with fail
    refine (HFEW.out _ HB.out).mono ?_
    rintro e w2 ⟨rfl, hb⟩
    have HB2 := Lib.hid (HB.out.trans (hb.mono HB.out.size))
    clear hb
    go_wp2_with fail
    refine (HNEW.out w2).mono ?_
    rintro e w3 ⟨p, rfl, hA, hd, hb⟩
    have M1 := Lib.hid (show Mem w [] w3 (TbA p wd [] [] :: []) from ((Mem.nil w).below HB2.out).new hb hA hd)
    have M2 := Lib.hid (show Mem w [] (w3.alloc (.cells #[.bool wd, .slice none 0 0, .slice none 0 0] 53)) ([] ++ RefA w3.heap.size wd [] [] :: TbA p wd [] [] :: []) from M1.out.new (bel_new _ _) (As := [RefA w3.heap.size wd [] []]) (all_one (ref_start wd w3)) (by simp))
    clear hA hd hb
    have HI : Hid (PHead w p w3.heap.size wd 0 (w3.alloc (.cells #[.bool wd, .slice none 0 0, .slice none 0 0] 53))) := Lib.hid ⟨_, _, PInv.start, Mem.swap [] M2.out⟩
    clear M1 M2 HB2 HB
    go_wp2_with fail
    generalize w3.heap.size = rq at *
    go_loopw [35] (fun j wr => ∃ k : Nat, k ≤ n ∧ j = .int .i64 k ∧ Hid (PHead w p rq wd k wr)) (fun j _ => n - (intOf j).toNat)
    case atStart => exact ⟨0, Nat.zero_le _, rfl, HI⟩
    case round =>
      obtain ⟨k, hk, rfl, hS⟩ := hrel
      clear HI
      obtain ⟨M, K, hok, hmem⟩ := hS.out
      have OK := Lib.hid hok
      have M3 := Lib.hid hmem
      clear hok hmem hS
      by_cases hlt : k < n
      · obtain ⟨g, off, rfl, ⟨hx0, hx1, hx2, hx3⟩, hk0, hk1, hi0, hi1, hs0, hs1, -⟩ := (HA.out.below M3.out.bel).2 k (by rw [← HA.out.1]; exact hlt)
        generalize l[k]'(by rw [← HA.out.1]; exact hlt) = x at *
        obtain ⟨xk, xi, xs, xy⟩ := x
        simp only at hx0 hx1 hx2 hx3 hk0 hk1 hi0 hi1 hs0 hs1
        have M4 := Lib.hid (show Mem w [] (wr.alloc (.cells #[.int .u8 xk, .int .i64 xi, .int .i64 xs, .string xy] 29)) ([BlockA wr.heap.size #[.int .u8 xk, .int .i64 xi, .int .i64 xs, .string xy] 29] ++ TbA p wd M K :: [RefA rq wd M K]) from M3.out.block _ _)
        clear hi0 hi1 hs0 hs1
        go_upto_block 2 with (fail)
        have sd0 := act_cells [] (r := [TbA p wd M K, RefA rq wd M K]) M4.out
        generalize hgB : wr.heap.size = gB at *
        clear hgB
        generalize wr.alloc (.cells #[.int .u8 xk, .int .i64 xi, .int .i64 xs, .string xy] 29) = W0 at *
        obtain ⟨ac1, ac2, ac3⟩ := sd0
        go_cut [9, 10, 11, 12, 13] from 39 to 93 (fun v9 v10 v11 v12 v13 wx => v9 = .bool true ∧ Hid (PMid w p rq gB wd (k + 1) xk xi xs xy wx))
        case first =>
          by_cases h0 : xk % 4 = 0
          · have hb0 : (xk % 4 == 0) = true := by simpa using h0
            rcases hj : joinT M xi xs with ⟨x, M'⟩
            have HJ := Lib.hid hj
            have HE := Lib.hid (OK.out.join hj)
            have HB1 := Lib.hid fun W (hm : Mem w [] W ([BlockA gB #[.int .u8 xk, .int .i64 xi, .int .i64 xs, .string xy] 29] ++ TbA p wd M K :: [RefA rq wd M K])) => mem_join [BlockA gB #[.int .u8 xk, .int .i64 xi, .int .i64 xs, .string xy] 29] hm OK.out.c.sok hj
            have HB2 := Lib.hid fun W (hm : Mem w [] W ([BlockA gB #[.int .u8 xk, .int .i64 xi, .int .i64 xs, .string xy] 29, TbA p wd M' K] ++ RefA rq wd M K :: [])) => mem_rjoin [BlockA gB #[.int .u8 xk, .int .i64 xi, .int .i64 xs, .string xy] 29, TbA p wd M' K] hm OK.out.r hj
            have hm0 := M4.out.below (bel_drew W0)
            have sd1 := act_cells [] (r := [TbA p wd M K, RefA rq wd M K]) hm0
            clear hj h0
            go_wp2_with fail
            go_region_held3 (fun W => W.cell? ⟨gB, 1, none⟩ = some (.int .i64 xi) ∧ W.cell? ⟨gB, 2, none⟩ = some (.int .i64 xs) ∧ W.cell? ⟨gB, 3, none⟩ = some (.string xy)) (assumption)
              (first
                | ((go_at_call 10; refine (HB1.out _ hm0).mono ?_; rintro e w5 ⟨rfl, hm5⟩; have sd5 := act_cells [] (r := [TbA p wd M' K, RefA rq wd M K]) hm5))
                | ((go_at_call 20; refine (HB2.out _ hm5).mono ?_; rintro e w6 ⟨rfl, hm6⟩; have sd6 := act_cells [] (r := [TbA p wd M' K, RefA rq wd M' K]) hm6)))
            have HFIN : Hid (PMid w p rq gB wd (k + 1) xk xi xs xy w6) := Lib.hid ⟨M', K, HE.out, hm6⟩
            clear hm0 hm5 hm6 sd1 sd5 sd6 ac1 ac2 ac3
            go_wp2_with fail
            go_meet
            case rel => exact ⟨by simp, HFIN⟩
          · have hb0 : (xk % 4 == 0) = false := by simpa using h0
            by_cases h3 : xk % 4 = 3
            · have hb3 : (xk % 4 == 3) = true := by simpa using h3
              rcases hj : leaveT wd M K xi with ⟨x, M', K'⟩
              have HJ := Lib.hid hj
              have HE := Lib.hid (OK.out.leave hj)
              have HB1 := Lib.hid fun W (hm : Mem w [] W ([BlockA gB #[.int .u8 xk, .int .i64 xi, .int .i64 xs, .string xy] 29] ++ TbA p wd M K :: [RefA rq wd M K])) => mem_leave [BlockA gB #[.int .u8 xk, .int .i64 xi, .int .i64 xs, .string xy] 29] hm OK.out.c.sok hj
              have HB2 := Lib.hid fun W (hm : Mem w [] W ([BlockA gB #[.int .u8 xk, .int .i64 xi, .int .i64 xs, .string xy] 29, TbA p wd M' K'] ++ RefA rq wd M K :: [])) => mem_rleave [BlockA gB #[.int .u8 xk, .int .i64 xi, .int .i64 xs, .string xy] 29, TbA p wd M' K'] hm OK.out.r hj
              have hm0 := M4.out.below (bel_drew W0)
              have sd1 := act_cells [] (r := [TbA p wd M K, RefA rq wd M K]) hm0
              clear hj h0 h3
              go_wp2_with fail
              go_region_held3 (fun W => W.cell? ⟨gB, 1, none⟩ = some (.int .i64 xi) ∧ W.cell? ⟨gB, 2, none⟩ = some (.int .i64 xs) ∧ W.cell? ⟨gB, 3, none⟩ = some (.string xy)) (assumption)
                (first
                  | ((go_at_call 11; refine (HB1.out _ hm0).mono ?_; rintro e w5 ⟨rfl, hm5⟩; have sd5 := act_cells [] (r := [TbA p wd M' K', RefA rq wd M K]) hm5))
                  | ((go_at_call 21; refine (HB2.out _ hm5).mono ?_; rintro e w6 ⟨rfl, hm6⟩; have sd6 := act_cells [] (r := [TbA p wd M' K', RefA rq wd M' K']) hm6)))
              have HFIN : Hid (PMid w p rq gB wd (k + 1) xk xi xs xy w6) := Lib.hid ⟨M', K', HE.out, hm6⟩
              clear hm0 hm5 hm6 sd1 sd5 sd6 ac1 ac2 ac3
              go_wp2_with fail
              go_meet
              case rel => exact ⟨by simp, HFIN⟩
            · have hb3 : (xk % 4 == 3) = false := by simpa using h3
              rcases hj : askT wd M K xi xy with ⟨⟨x, y⟩, M', K'⟩
              have HJ := Lib.hid hj
              have HE := Lib.hid (OK.out.ask (by omega) hj)
              have HB1 := Lib.hid (mem_ask [BlockA gB #[.int .u8 xk, .int .i64 xi, .int .i64 xs, .string xy] 29] (show Mem w [] W0 ([BlockA gB #[.int .u8 xk, .int .i64 xi, .int .i64 xs, .string xy] 29] ++ TbA p wd M K :: [RefA rq wd M K]) from M4.out) OK.out.c.sok hj)
              have HB2 := Lib.hid fun W (hm : Mem w [] W ([BlockA gB #[.int .u8 xk, .int .i64 xi, .int .i64 xs, .string xy] 29, TbA p wd M' K'] ++ RefA rq wd M K :: [])) => mem_rask [BlockA gB #[.int .u8 xk, .int .i64 xi, .int .i64 xs, .string xy] 29, TbA p wd M' K'] hm OK.out.r hj
              clear hj h0 h3
              go_wp2_with fail
              refine HB1.out.mono ?_
              rintro e w5 ⟨rfl, hm5⟩
              have M5 := Lib.hid (show Mem w [] w5 ([BlockA gB #[.int .u8 xk, .int .i64 xi, .int .i64 xs, .string xy] 29, TbA p wd M' K'] ++ RefA rq wd M K :: []) from hm5)
              obtain ⟨c1, -, c3⟩ := act_cells [] (r := [TbA p wd M' K', RefA rq wd M K]) hm5
              clear hm5 HB1 ac1 ac2 ac3
              go_wp2_with fail
              refine (HB2.out _ M5.out).mono ?_
              rintro e w6 ⟨rfl, hm6⟩
              have HFIN : Hid (PMid w p rq gB wd (k + 1) xk xi xs xy w6) := Lib.hid ⟨M', K', HE.out, hm6⟩
              clear hm6 HB2 c1 c3 M5
              go_wp2_with fail
              go_meet
              case rel => exact ⟨by simp, HFIN⟩
        case rest =>
          clear OK M4 HA M3
          obtain ⟨rfl, hcc⟩ := hcut
          obtain ⟨M2, K2, hok, hmem⟩ := hcc.out
          have OK := Lib.hid hok
          have M5 := Lib.hid (show Mem w [] wc ([BlockA gB #[.int .u8 xk, .int .i64 xi, .int .i64 xs, .string xy] 29] ++ TbA p wd M2 K2 :: [RefA rq wd M2 K2]) from hmem)
          obtain ⟨q1, q2, q3⟩ := act_cells [] (r := [TbA p wd M2 K2, RefA rq wd M2 K2]) hmem
          have hcase : (hasK K2 xy = true ∧ holdI K2 xy = holdK K2 xy ∧ 0 ≤ holdK K2 xy) ∨ (hasK K2 xy = false ∧ holdK K2 xy = 0 ∧ holdI K2 xy = -1) := by
            cases hk : hasK K2 xy with
            | true => exact .inl ⟨rfl, holdI_has hk, hok.r.hold hk⟩
            | false => exact .inr ⟨rfl, by unfold holdK; rw [hk]; rfl, holdI_not hk⟩
          have HSL : Hid (∀ S : List Mb, S.Perm (waitM M2 xy) → S.length ≤ 1000000) := Lib.hid fun S hp => by
            rw [hp.length_eq]
            have h1 := hok.c.len
            have h2 : (waitM M2 xy).length ≤ M2.length := List.length_filter_le _ _
            omega
          have HHL : Hid ((holdsK K2 xi).length ≤ 1000000) := Lib.hid (by
            have h1 := hok.c.sok.ok.fk
            have h2 : (holdsK K2 xi).length ≤ K2.length := by unfold holdsK; rw [List.length_map]; exact List.length_filter_le _ _
            omega)
          have HB1 := Lib.hid (mem_holder [BlockA gB #[.int .u8 xk, .int .i64 xi, .int .i64 xs, .string xy] 29] M5.out OK.out.c.sok xy)
          have HB2 := Lib.hid fun W (hm : Mem w [] W ([BlockA gB #[.int .u8 xk, .int .i64 xi, .int .i64 xs, .string xy] 29, TbA p wd M2 K2] ++ RefA rq wd M2 K2 :: [])) => mem_rholder [BlockA gB #[.int .u8 xk, .int .i64 xi, .int .i64 xs, .string xy] 29, TbA p wd M2 K2] hm OK.out.c.sok.ok xy
          clear hok hmem hcc ac1 ac2 ac3
          generalize hasK K2 xy = bv at *
          generalize holdK K2 xy = h1 at *
          generalize holdI K2 xy = h2 at *
          go_wp2_with fail
          refine HB1.out.mono ?_
          rintro e w6 ⟨rfl, hm⟩
          have M6 := Lib.hid (show Mem w [] w6 ([BlockA gB #[.int .u8 xk, .int .i64 xi, .int .i64 xs, .string xy] 29, TbA p wd M2 K2] ++ RefA rq wd M2 K2 :: []) from hm)
          clear q1 q2 q3
          obtain ⟨ac1, ac2, ac3⟩ := act_cells [] (r := [TbA p wd M2 K2, RefA rq wd M2 K2]) hm
          clear hm HB1 M5
          go_wp2_with fail
          refine (HB2.out _ M6.out).mono ?_
          rintro e w7 ⟨rfl, hm⟩
          have M7 := Lib.hid hm
          clear ac1 ac2 ac3
          obtain ⟨ac1, ac2, ac3⟩ := act_cells [] (r := [TbA p wd M2 K2, RefA rq wd M2 K2]) hm
          clear hm HB2 M6
          go_upto_region 20 with (fail)
          go_cut [152] from 105 to 152 (fun v wx => v = .bool false ∧ Hid (PHead w p rq wd (k + 1) wx))
          case first =>
            rcases hcase with ⟨rfl, rfl, hz⟩ | ⟨rfl, rfl, rfl⟩
            · have hd0 := decide_eq_true hz
              have hnn : ∀ x : Int, (x != x) = false := fun x => by simp
              have hm0 := M7.out.below (bel_drew w7)
              have sd0 := act_cells [] (r := [TbA p wd M2 K2, RefA rq wd M2 K2]) hm0
              clear ac1 ac2 ac3
              first
               | (go_region_held (fun W => W.cell? ⟨gB, 1, none⟩ = some (.int .i64 xi) ∧ W.cell? ⟨gB, 2, none⟩ = some (.int .i64 xs) ∧ W.cell? ⟨gB, 3, none⟩ = some (.string xy)) (assumption)
                (first
                  | ((go_at_call 26; refine (mem_waitids [BlockA gB #[.int .u8 xk, .int .i64 xi, .int .i64 xs, .string xy] 29] (r := [RefA rq wd M2 K2]) hm0 OK.out.c.sok xy).mono ?_; rintro e w9 ⟨S, a1, c1, hp1, hy1, rfl, hm9⟩; have sd9 := act_cells [RowA 3 1 a1 S.length c1 ((S.map (·.id)).map (Value.int .i64))] (r := [TbA p wd M2 K2, RefA rq wd M2 K2]) hm9))
                  | ((go_at_call 27; refine (mem_rwaiting [RowA 3 1 a1 S.length c1 ((S.map (·.id)).map (Value.int .i64)), BlockA gB #[.int .u8 xk, .int .i64 xi, .int .i64 xs, .string xy] 29, TbA p wd M2 K2] (r := []) hm9 OK.out.c.sok.ok xy).mono ?_; rintro e w10 ⟨T, a2, c2, hp2, hy2, rfl, hm10⟩; obtain rfl : S = T := waits_same OK.out.c.sok.ok.sm hp1 hy1 hp2 hy2; have sd10 := act_cells [RowA 3 1 a2 S.length c2 ((S.map (·.id)).map (Value.int .i64)), RowA 3 1 a1 S.length c1 ((S.map (·.id)).map (Value.int .i64))] (r := [TbA p wd M2 K2, RefA rq wd M2 K2]) hm10; have hr2 := Mem.rowAt [] (r := [RowA 3 1 a1 S.length c1 ((S.map (·.id)).map (Value.int .i64)), BlockA gB #[.int .u8 xk, .int .i64 xi, .int .i64 xs, .string xy] 29, TbA p wd M2 K2, RefA rq wd M2 K2]) hm10; have hr1 := Mem.rowAt [RowA 3 1 a2 S.length c2 ((S.map (·.id)).map (Value.int .i64))] (r := [BlockA gB #[.int .u8 xk, .int .i64 xi, .int .i64 xs, .string xy] 29, TbA p wd M2 K2, RefA rq wd M2 K2]) hm10; have hSl := HSL.out S hp1))
                  | ((go_at_call 25; refine (same_i a1 a2 c1 c2 S.length (S.map (·.id)) w10 (List.length_map _).symm hr1 hr2 hSl).mono ?_; rintro e w11 ⟨rfl, hb11⟩; have hm11 := hm10.below hb11; have sd11 := act_cells [RowA 3 1 a2 S.length c2 ((S.map (·.id)).map (Value.int .i64)), RowA 3 1 a1 S.length c1 ((S.map (·.id)).map (Value.int .i64))] (r := [TbA p wd M2 K2, RefA rq wd M2 K2]) hm11))
                  | ((go_at_call 19; refine (mem_holds [RowA 3 1 a2 S.length c2 ((S.map (·.id)).map (Value.int .i64)), RowA 3 1 a1 S.length c1 ((S.map (·.id)).map (Value.int .i64)), BlockA gB #[.int .u8 xk, .int .i64 xi, .int .i64 xs, .string xy] 29] (r := [RefA rq wd M2 K2]) hm11 OK.out.c.sok xi).mono ?_; rintro e w12 ⟨a3, c3, rfl, hm12⟩; have sd12 := act_cells [RowA 9 1 a3 (holdsK K2 xi).length c3 ((holdsK K2 xi).map Value.string), RowA 3 1 a2 S.length c2 ((S.map (·.id)).map (Value.int .i64)), RowA 3 1 a1 S.length c1 ((S.map (·.id)).map (Value.int .i64))] (r := [TbA p wd M2 K2, RefA rq wd M2 K2]) hm12))
                  | ((go_at_call 29; refine (mem_rholds [RowA 9 1 a3 (holdsK K2 xi).length c3 ((holdsK K2 xi).map Value.string), RowA 3 1 a2 S.length c2 ((S.map (·.id)).map (Value.int .i64)), RowA 3 1 a1 S.length c1 ((S.map (·.id)).map (Value.int .i64)), BlockA gB #[.int .u8 xk, .int .i64 xi, .int .i64 xs, .string xy] 29, TbA p wd M2 K2] (r := []) hm12 OK.out.c.sok.ok xi).mono ?_; rintro e w13 ⟨a4, c4, rfl, hm13⟩; have sd13 := act_cells [RowA 9 1 a4 (holdsK K2 xi).length c4 ((holdsK K2 xi).map Value.string), RowA 9 1 a3 (holdsK K2 xi).length c3 ((holdsK K2 xi).map Value.string), RowA 3 1 a2 S.length c2 ((S.map (·.id)).map (Value.int .i64)), RowA 3 1 a1 S.length c1 ((S.map (·.id)).map (Value.int .i64))] (r := [TbA p wd M2 K2, RefA rq wd M2 K2]) hm13; have hr4 := Mem.rowAt [] (r := [RowA 9 1 a3 (holdsK K2 xi).length c3 ((holdsK K2 xi).map Value.string), RowA 3 1 a2 S.length c2 ((S.map (·.id)).map (Value.int .i64)), RowA 3 1 a1 S.length c1 ((S.map (·.id)).map (Value.int .i64)), BlockA gB #[.int .u8 xk, .int .i64 xi, .int .i64 xs, .string xy] 29, TbA p wd M2 K2, RefA rq wd M2 K2]) hm13; have hr3 := Mem.rowAt [RowA 9 1 a4 (holdsK K2 xi).length c4 ((holdsK K2 xi).map Value.string)] (r := [RowA 3 1 a2 S.length c2 ((S.map (·.id)).map (Value.int .i64)), RowA 3 1 a1 S.length c1 ((S.map (·.id)).map (Value.int .i64)), BlockA gB #[.int .u8 xk, .int .i64 xi, .int .i64 xs, .string xy] 29, TbA p wd M2 K2, RefA rq wd M2 K2]) hm13))
                  | ((go_at_call 28; refine (same_s a3 a4 c3 c4 (holdsK K2 xi).length (holdsK K2 xi) w13 rfl hr3 hr4 HHL.out).mono ?_; rintro e w14 ⟨rfl, hb14⟩; have hm14 := hm13.below hb14; have sd14 := act_cells [RowA 9 1 a4 (holdsK K2 xi).length c4 ((holdsK K2 xi).map Value.string), RowA 9 1 a3 (holdsK K2 xi).length c3 ((holdsK K2 xi).map Value.string), RowA 3 1 a2 S.length c2 ((S.map (·.id)).map (Value.int .i64)), RowA 3 1 a1 S.length c1 ((S.map (·.id)).map (Value.int .i64))] (r := [TbA p wd M2 K2, RefA rq wd M2 K2]) hm14))))
               | (fail "region 20")
              all_goals
               have hn1 := Mem.drop [] (A := RowA 9 1 a4 (holdsK K2 xi).length c4 ((holdsK K2 xi).map Value.string)) (r := [RowA 9 1 a3 (holdsK K2 xi).length c3 ((holdsK K2 xi).map Value.string), RowA 3 1 a2 S.length c2 ((S.map (·.id)).map (Value.int .i64)), RowA 3 1 a1 S.length c1 ((S.map (·.id)).map (Value.int .i64)), BlockA gB #[.int .u8 xk, .int .i64 xi, .int .i64 xs, .string xy] 29, TbA p wd M2 K2, RefA rq wd M2 K2]) hm14
               have hn2 := Mem.drop [] (A := RowA 9 1 a3 (holdsK K2 xi).length c3 ((holdsK K2 xi).map Value.string)) (r := [RowA 3 1 a2 S.length c2 ((S.map (·.id)).map (Value.int .i64)), RowA 3 1 a1 S.length c1 ((S.map (·.id)).map (Value.int .i64)), BlockA gB #[.int .u8 xk, .int .i64 xi, .int .i64 xs, .string xy] 29, TbA p wd M2 K2, RefA rq wd M2 K2]) hn1
               have hn3 := Mem.drop [] (A := RowA 3 1 a2 S.length c2 ((S.map (·.id)).map (Value.int .i64))) (r := [RowA 3 1 a1 S.length c1 ((S.map (·.id)).map (Value.int .i64)), BlockA gB #[.int .u8 xk, .int .i64 xi, .int .i64 xs, .string xy] 29, TbA p wd M2 K2, RefA rq wd M2 K2]) hn2
               have hn4 := Mem.drop [] (A := RowA 3 1 a1 S.length c1 ((S.map (·.id)).map (Value.int .i64))) (r := [BlockA gB #[.int .u8 xk, .int .i64 xi, .int .i64 xs, .string xy] 29, TbA p wd M2 K2, RefA rq wd M2 K2]) hn3
               have HFIN : Hid (PHead w p rq wd (k + 1) w14) := Lib.hid ⟨M2, K2, OK.out, Mem.drop [] (A := BlockA gB #[.int .u8 xk, .int .i64 xi, .int .i64 xs, .string xy] 29) (r := [TbA p wd M2 K2, RefA rq wd M2 K2]) hn4⟩
               clear hn1 hn2 hn3 hn4 hm0 hm9 hm10 hm11 hm12 hm13 hm14 sd0 sd9 sd10 sd11 sd12 sd13 sd14 hr1 hr2 hr3 hr4 hp1 hp2 hy1 hy2 hSl
               go_wp2_with fail
               go_meet
               case rel => exact ⟨rfl, HFIN⟩
            · have hd0 : decide ((0 : Int) ≤ -1) = false := by decide
              have hm0 := M7.out.below (bel_drew w7)
              have sd0 := act_cells [] (r := [TbA p wd M2 K2, RefA rq wd M2 K2]) hm0
              clear ac1 ac2 ac3
              first
               | (go_region_held (fun W => W.cell? ⟨gB, 1, none⟩ = some (.int .i64 xi) ∧ W.cell? ⟨gB, 2, none⟩ = some (.int .i64 xs) ∧ W.cell? ⟨gB, 3, none⟩ = some (.string xy)) (assumption)
                (first
                  | ((go_at_call 26; refine (mem_waitids [BlockA gB #[.int .u8 xk, .int .i64 xi, .int .i64 xs, .string xy] 29] (r := [RefA rq wd M2 K2]) hm0 OK.out.c.sok xy).mono ?_; rintro e w9 ⟨S, a1, c1, hp1, hy1, rfl, hm9⟩; have sd9 := act_cells [RowA 3 1 a1 S.length c1 ((S.map (·.id)).map (Value.int .i64))] (r := [TbA p wd M2 K2, RefA rq wd M2 K2]) hm9))
                  | ((go_at_call 27; refine (mem_rwaiting [RowA 3 1 a1 S.length c1 ((S.map (·.id)).map (Value.int .i64)), BlockA gB #[.int .u8 xk, .int .i64 xi, .int .i64 xs, .string xy] 29, TbA p wd M2 K2] (r := []) hm9 OK.out.c.sok.ok xy).mono ?_; rintro e w10 ⟨T, a2, c2, hp2, hy2, rfl, hm10⟩; obtain rfl : S = T := waits_same OK.out.c.sok.ok.sm hp1 hy1 hp2 hy2; have sd10 := act_cells [RowA 3 1 a2 S.length c2 ((S.map (·.id)).map (Value.int .i64)), RowA 3 1 a1 S.length c1 ((S.map (·.id)).map (Value.int .i64))] (r := [TbA p wd M2 K2, RefA rq wd M2 K2]) hm10; have hr2 := Mem.rowAt [] (r := [RowA 3 1 a1 S.length c1 ((S.map (·.id)).map (Value.int .i64)), BlockA gB #[.int .u8 xk, .int .i64 xi, .int .i64 xs, .string xy] 29, TbA p wd M2 K2, RefA rq wd M2 K2]) hm10; have hr1 := Mem.rowAt [RowA 3 1 a2 S.length c2 ((S.map (·.id)).map (Value.int .i64))] (r := [BlockA gB #[.int .u8 xk, .int .i64 xi, .int .i64 xs, .string xy] 29, TbA p wd M2 K2, RefA rq wd M2 K2]) hm10; have hSl := HSL.out S hp1))
                  | ((go_at_call 25; refine (same_i a1 a2 c1 c2 S.length (S.map (·.id)) w10 (List.length_map _).symm hr1 hr2 hSl).mono ?_; rintro e w11 ⟨rfl, hb11⟩; have hm11 := hm10.below hb11; have sd11 := act_cells [RowA 3 1 a2 S.length c2 ((S.map (·.id)).map (Value.int .i64)), RowA 3 1 a1 S.length c1 ((S.map (·.id)).map (Value.int .i64))] (r := [TbA p wd M2 K2, RefA rq wd M2 K2]) hm11))
                  | ((go_at_call 19; refine (mem_holds [RowA 3 1 a2 S.length c2 ((S.map (·.id)).map (Value.int .i64)), RowA 3 1 a1 S.length c1 ((S.map (·.id)).map (Value.int .i64)), BlockA gB #[.int .u8 xk, .int .i64 xi, .int .i64 xs, .string xy] 29] (r := [RefA rq wd M2 K2]) hm11 OK.out.c.sok xi).mono ?_; rintro e w12 ⟨a3, c3, rfl, hm12⟩; have sd12 := act_cells [RowA 9 1 a3 (holdsK K2 xi).length c3 ((holdsK K2 xi).map Value.string), RowA 3 1 a2 S.length c2 ((S.map (·.id)).map (Value.int .i64)), RowA 3 1 a1 S.length c1 ((S.map (·.id)).map (Value.int .i64))] (r := [TbA p wd M2 K2, RefA rq wd M2 K2]) hm12))
                  | ((go_at_call 29; refine (mem_rholds [RowA 9 1 a3 (holdsK K2 xi).length c3 ((holdsK K2 xi).map Value.string), RowA 3 1 a2 S.length c2 ((S.map (·.id)).map (Value.int .i64)), RowA 3 1 a1 S.length c1 ((S.map (·.id)).map (Value.int .i64)), BlockA gB #[.int .u8 xk, .int .i64 xi, .int .i64 xs, .string xy] 29, TbA p wd M2 K2] (r := []) hm12 OK.out.c.sok.ok xi).mono ?_; rintro e w13 ⟨a4, c4, rfl, hm13⟩; have sd13 := act_cells [RowA 9 1 a4 (holdsK K2 xi).length c4 ((holdsK K2 xi).map Value.string), RowA 9 1 a3 (holdsK K2 xi).length c3 ((holdsK K2 xi).map Value.string), RowA 3 1 a2 S.length c2 ((S.map (·.id)).map (Value.int .i64)), RowA 3 1 a1 S.length c1 ((S.map (·.id)).map (Value.int .i64))] (r := [TbA p wd M2 K2, RefA rq wd M2 K2]) hm13; have hr4 := Mem.rowAt [] (r := [RowA 9 1 a3 (holdsK K2 xi).length c3 ((holdsK K2 xi).map Value.string), RowA 3 1 a2 S.length c2 ((S.map (·.id)).map (Value.int .i64)), RowA 3 1 a1 S.length c1 ((S.map (·.id)).map (Value.int .i64)), BlockA gB #[.int .u8 xk, .int .i64 xi, .int .i64 xs, .string xy] 29, TbA p wd M2 K2, RefA rq wd M2 K2]) hm13; have hr3 := Mem.rowAt [RowA 9 1 a4 (holdsK K2 xi).length c4 ((holdsK K2 xi).map Value.string)] (r := [RowA 3 1 a2 S.length c2 ((S.map (·.id)).map (Value.int .i64)), RowA 3 1 a1 S.length c1 ((S.map (·.id)).map (Value.int .i64)), BlockA gB #[.int .u8 xk, .int .i64 xi, .int .i64 xs, .string xy] 29, TbA p wd M2 K2, RefA rq wd M2 K2]) hm13))
                  | ((go_at_call 28; refine (same_s a3 a4 c3 c4 (holdsK K2 xi).length (holdsK K2 xi) w13 rfl hr3 hr4 HHL.out).mono ?_; rintro e w14 ⟨rfl, hb14⟩; have hm14 := hm13.below hb14; have sd14 := act_cells [RowA 9 1 a4 (holdsK K2 xi).length c4 ((holdsK K2 xi).map Value.string), RowA 9 1 a3 (holdsK K2 xi).length c3 ((holdsK K2 xi).map Value.string), RowA 3 1 a2 S.length c2 ((S.map (·.id)).map (Value.int .i64)), RowA 3 1 a1 S.length c1 ((S.map (·.id)).map (Value.int .i64))] (r := [TbA p wd M2 K2, RefA rq wd M2 K2]) hm14))))
               | (fail "region 20")
              all_goals
               have hn1 := Mem.drop [] (A := RowA 9 1 a4 (holdsK K2 xi).length c4 ((holdsK K2 xi).map Value.string)) (r := [RowA 9 1 a3 (holdsK K2 xi).length c3 ((holdsK K2 xi).map Value.string), RowA 3 1 a2 S.length c2 ((S.map (·.id)).map (Value.int .i64)), RowA 3 1 a1 S.length c1 ((S.map (·.id)).map (Value.int .i64)), BlockA gB #[.int .u8 xk, .int .i64 xi, .int .i64 xs, .string xy] 29, TbA p wd M2 K2, RefA rq wd M2 K2]) hm14
               have hn2 := Mem.drop [] (A := RowA 9 1 a3 (holdsK K2 xi).length c3 ((holdsK K2 xi).map Value.string)) (r := [RowA 3 1 a2 S.length c2 ((S.map (·.id)).map (Value.int .i64)), RowA 3 1 a1 S.length c1 ((S.map (·.id)).map (Value.int .i64)), BlockA gB #[.int .u8 xk, .int .i64 xi, .int .i64 xs, .string xy] 29, TbA p wd M2 K2, RefA rq wd M2 K2]) hn1
               have hn3 := Mem.drop [] (A := RowA 3 1 a2 S.length c2 ((S.map (·.id)).map (Value.int .i64))) (r := [RowA 3 1 a1 S.length c1 ((S.map (·.id)).map (Value.int .i64)), BlockA gB #[.int .u8 xk, .int .i64 xi, .int .i64 xs, .string xy] 29, TbA p wd M2 K2, RefA rq wd M2 K2]) hn2
               have hn4 := Mem.drop [] (A := RowA 3 1 a1 S.length c1 ((S.map (·.id)).map (Value.int .i64))) (r := [BlockA gB #[.int .u8 xk, .int .i64 xi, .int .i64 xs, .string xy] 29, TbA p wd M2 K2, RefA rq wd M2 K2]) hn3
               have HFIN : Hid (PHead w p rq wd (k + 1) w14) := Lib.hid ⟨M2, K2, OK.out, Mem.drop [] (A := BlockA gB #[.int .u8 xk, .int .i64 xi, .int .i64 xs, .string xy] 29) (r := [TbA p wd M2 K2, RefA rq wd M2 K2]) hn4⟩
               clear hn1 hn2 hn3 hn4 hm0 hm9 hm10 hm11 hm12 hm13 hm14 sd0 sd9 sd10 sd11 sd12 sd13 sd14 hr1 hr2 hr3 hr4 hp1 hp2 hy1 hy2 hSl
               go_wp2_with fail
               go_meet
               case rel => exact ⟨rfl, HFIN⟩
          case rest =>
            clear OK M7 HSL HHL hcase ac1 ac2 ac3
            obtain ⟨rfl, hcc⟩ := hcut
            obtain ⟨M3, K3, hok, hmem⟩ := hcc.out
            have OK := Lib.hid hok
            have hm64 := hok.c.len
            obtain ⟨la, lc, ka, kc, hm3⟩ := Mem.openR [TbA p wd M3 K3] hmem
            have hcq := (Mem.cellAt (i := 1) [TbA p wd M3 K3] (r := [RowA 61 4 la M3.length lc (mbFlat M3), RowA 91 2 ka K3.length kc (lkFlat K3)]) hm3 rfl).1
            have M9 := Lib.hid (show Mem w [] wc [RowA 3 1 none (0) 0 (((M3.take (0)).map (·.id)).map (Value.int .i64)), RowA 44 2 none (edgesOf (M3.take (0)) K3).length 0 (edgeFlat (edgesOf (M3.take (0)) K3)), TbA p wd M3 K3, BlockA rq #[.bool wd, .slice la M3.length lc, .slice ka K3.length kc] 53, RowA 61 4 la M3.length lc (mbFlat M3), RowA 91 2 ka K3.length kc (lkFlat K3)] from mem_empty (mem_empty hm3 44 2) 3 1)
            clear hok hmem hcc hm3
            go_wp2_with fail
            go_loopw [17, 18, 158] (fun v17 v18 jv wr => ∃ j ai ci ae ce, j ≤ M3.length ∧ jv = .int .i64 (j : Nat) ∧ v17 = .slice ai j ci ∧ v18 = .slice ae (edgesOf (M3.take j) K3).length ce ∧ Hid (Mem w [] wr [RowA 3 1 ai (j) ci (((M3.take (j)).map (·.id)).map (Value.int .i64)), RowA 44 2 ae (edgesOf (M3.take (j)) K3).length ce (edgeFlat (edgesOf (M3.take (j)) K3)), TbA p wd M3 K3, BlockA rq #[.bool wd, .slice la M3.length lc, .slice ka K3.length kc] 53, RowA 61 4 la M3.length lc (mbFlat M3), RowA 91 2 ka K3.length kc (lkFlat K3)])) (fun _ _ jv _ => M3.length - (intOf jv).toNat)
            case atStart => exact ⟨0, none, 0, none, 0, Nat.zero_le _, rfl, rfl, rfl, M9⟩
            case round =>
              obtain ⟨W1, rfl⟩ : ∃ W1, W1 = wr := ⟨_, rfl⟩
              obtain ⟨j, ai, ci, ae, ce, hj, rfl, rfl, rfl, hS⟩ := hrel
              clear M9 hcq
              by_cases hlj : j < M3.length
              · have hrow := Mem.rowAt [RowA 3 1 ai (j) ci (((M3.take (j)).map (·.id)).map (Value.int .i64)), RowA 44 2 ae (edgesOf (M3.take (j)) K3).length ce (edgeFlat (edgesOf (M3.take (j)) K3)), TbA p wd M3 K3, BlockA rq #[.bool wd, .slice la M3.length lc, .slice ka K3.length kc] 53] (r := [RowA 91 2 ka K3.length kc (lkFlat K3)]) hS.out
                obtain ⟨g5, rfl, b0, b1, b2, b3⟩ := mbAt_row hrow j hlj
                have HWT := Lib.hid (waitsM_at OK.out.c.sok.ok.sm OK.out.key hlj)
                have HHK := Lib.hid fun hw => OK.out.held (List.getElem_mem hlj) hw
                have HET := Lib.hid (edges_take M3 K3 j hlj)
                have HIT : Hid (((M3.take j).map (·.id)).map (Value.int .i64) ++ [.int .i64 M3[j].id] = ((M3.take (j + 1)).map (·.id)).map (Value.int .i64)) := Lib.hid (by rw [List.take_succ_eq_append_getElem hlj, List.map_append, List.map_append]; rfl)
                have hel := edges_len (M := M3.take j) (K := K3)
                rw [List.length_take] at hel
                have hjn : j ≤ 64 := by omega
                generalize hEe : edgesOf (M3.take j) K3 = E at *
                clear hEe
                generalize hen : E.length = en at *
                have HEN := Lib.hid hen
                clear hen hrow
                have hen2 : en ≤ 1000000 := by omega
                generalize M3[j] = z at *
                obtain ⟨zi, zs, zw, zk⟩ := z
                simp only at b0 b1 b2 b3 HWT HHK HET HIT
                have hlz : (j : Int) < (M3.length : Int) := by omega
                have hjz : (0 : Int) ≤ (j : Int) := by omega
                cases zw with
                | false =>
                  have M9 := Lib.hid (show Mem w [] (W1.alloc (.cells #[.int .i64 zi, .int .i64 zs, .bool false, .string zk] 61)) ([BlockA W1.heap.size #[.int .i64 zi, .int .i64 zs, .bool false, .string zk] 61] ++ RowA 3 1 ai j ci (((M3.take j).map (·.id)).map (Value.int .i64)) :: [RowA 44 2 ae en ce (edgeFlat E), TbA p wd M3 K3, BlockA rq #[.bool wd, .slice (some ⟨g5, 0, none⟩) M3.length lc, .slice ka K3.length kc] 53, RowA 61 4 (some ⟨g5, 0, none⟩) M3.length lc (mbFlat M3), RowA 91 2 ka K3.length kc (lkFlat K3)]) from hS.out.block _ _)
                  obtain ⟨ai2, ci2, w2, hrun, hm⟩ := Mem.app1 (P := Try.prog) (t := 40) (ty := 40) [BlockA W1.heap.size #[.int .i64 zi, .int .i64 zs, .bool false, .string zk] 61] (r := [RowA 44 2 ae en ce (edgeFlat E), TbA p wd M3 K3, BlockA rq #[.bool wd, .slice (some ⟨g5, 0, none⟩) M3.length lc, .slice ka K3.length kc] 53, RowA 61 4 (some ⟨g5, 0, none⟩) M3.length lc (mbFlat M3), RowA 91 2 ka K3.length kc (lkFlat K3)]) Try.underlying40 info3 (by rfl) (by decide) M9.out [.int .i64 zi] rfl (by simp [Value.oneCell']) (by omega) (by decide)
                  rw [show (W1.alloc (.cells #[.int .i64 zi, .int .i64 zs, .bool false, .string zk] 61)).heap.size = W1.heap.size + 1 by simp] at hrun
                  have HRUN := Lib.hid hrun
                  have M10 := Lib.hid (show Mem w [] w2 ([BlockA W1.heap.size #[.int .i64 zi, .int .i64 zs, .bool false, .string zk] 61, RowA 3 1 ai2 (j + 1) ci2 ((((M3.take j).map (·.id)).map (Value.int .i64)) ++ [.int .i64 zi]), RowA 44 2 ae en ce (edgeFlat E)] ++ TbA p wd M3 K3 :: [BlockA rq #[.bool wd, .slice (some ⟨g5, 0, none⟩) M3.length lc, .slice ka K3.length kc] 53, RowA 61 4 (some ⟨g5, 0, none⟩) M3.length lc (mbFlat M3), RowA 91 2 ka K3.length kc (lkFlat K3)]) from hm)
                  obtain ⟨z0, z2, z3⟩ := mb_cells [] (r := [RowA 3 1 ai2 (j + 1) ci2 ((((M3.take j).map (·.id)).map (Value.int .i64)) ++ [.int .i64 zi]), RowA 44 2 ae en ce (edgeFlat E), TbA p wd M3 K3, BlockA rq #[.bool wd, .slice (some ⟨g5, 0, none⟩) M3.length lc, .slice ka K3.length kc] 53, RowA 61 4 (some ⟨g5, 0, none⟩) M3.length lc (mbFlat M3), RowA 91 2 ka K3.length kc (lkFlat K3)]) hm
                  clear hrun hm M9 hS

                  have HWA := Lib.hid (mem_waits [BlockA W1.heap.size #[.int .i64 zi, .int .i64 zs, .bool false, .string zk] 61, RowA 3 1 ai2 (j + 1) ci2 ((((M3.take j).map (·.id)).map (Value.int .i64)) ++ [.int .i64 zi]), RowA 44 2 ae en ce (edgeFlat E)] (r := [BlockA rq #[.bool wd, .slice (some ⟨g5, 0, none⟩) M3.length lc, .slice ka K3.length kc] 53, RowA 61 4 (some ⟨g5, 0, none⟩) M3.length lc (mbFlat M3), RowA 91 2 ka K3.length kc (lkFlat K3)]) M10.out OK.out.r zi)
                  rw [HWT.out] at HWA
                  simp only [Bool.false_eq_true, if_false, List.append_nil] at HET
                  go_wp2_with (((at_builtin; refine wpList_appendR _ rfl (.tmp 162) (.tmp 165) 40 40 rfl (.slice ai j ci) (.slice (some ⟨W1.heap.size + 1, 0, none⟩) 1 1) rfl rfl HRUN.out ?_)))
                  refine HWA.out.mono ?_
                  rintro e w6 ⟨rfl, hm⟩
                  obtain ⟨y0, y2, y3⟩ := mb_cells [] (r := [RowA 3 1 ai2 (j + 1) ci2 ((((M3.take j).map (·.id)).map (Value.int .i64)) ++ [.int .i64 zi]), RowA 44 2 ae en ce (edgeFlat E), TbA p wd M3 K3, BlockA rq #[.bool wd, .slice (some ⟨g5, 0, none⟩) M3.length lc, .slice ka K3.length kc] 53, RowA 61 4 (some ⟨g5, 0, none⟩) M3.length lc (mbFlat M3), RowA 91 2 ka K3.length kc (lkFlat K3)]) hm
                  have HFIN := Lib.hid (Mem.drop [] (A := BlockA W1.heap.size #[.int .i64 zi, .int .i64 zs, .bool false, .string zk] 61) (r := [RowA 3 1 ai2 (j + 1) ci2 ((((M3.take j).map (·.id)).map (Value.int .i64)) ++ [.int .i64 zi]), RowA 44 2 ae en ce (edgeFlat E), TbA p wd M3 K3, BlockA rq #[.bool wd, .slice (some ⟨g5, 0, none⟩) M3.length lc, .slice ka K3.length kc] 53, RowA 61 4 (some ⟨g5, 0, none⟩) M3.length lc (mbFlat M3), RowA 91 2 ka K3.length kc (lkFlat K3)]) hm)
                  clear hm HWA M10 z0 z2 z3
                  go_wp2_with fail
                  go_roundw
                  case rel =>
                    refine ⟨j + 1, ai2, ci2, ae, ce, by omega, by go_num, rfl, ?_, Lib.hid ?_⟩
                    · rw [HET.out, HEN.out]
                    · have := HFIN.out
                      rw [HIT.out] at this
                      rw [HET.out, HEN.out]
                      exact this
                  case measure => simp [intOf]; omega

                | true =>
                  have M9 := Lib.hid (show Mem w [] (W1.alloc (.cells #[.int .i64 zi, .int .i64 zs, .bool true, .string zk] 61)) ([BlockA W1.heap.size #[.int .i64 zi, .int .i64 zs, .bool true, .string zk] 61] ++ RowA 3 1 ai j ci (((M3.take j).map (·.id)).map (Value.int .i64)) :: [RowA 44 2 ae en ce (edgeFlat E), TbA p wd M3 K3, BlockA rq #[.bool wd, .slice (some ⟨g5, 0, none⟩) M3.length lc, .slice ka K3.length kc] 53, RowA 61 4 (some ⟨g5, 0, none⟩) M3.length lc (mbFlat M3), RowA 91 2 ka K3.length kc (lkFlat K3)]) from hS.out.block _ _)
                  obtain ⟨ai2, ci2, w2, hrun, hm⟩ := Mem.app1 (P := Try.prog) (t := 40) (ty := 40) [BlockA W1.heap.size #[.int .i64 zi, .int .i64 zs, .bool true, .string zk] 61] (r := [RowA 44 2 ae en ce (edgeFlat E), TbA p wd M3 K3, BlockA rq #[.bool wd, .slice (some ⟨g5, 0, none⟩) M3.length lc, .slice ka K3.length kc] 53, RowA 61 4 (some ⟨g5, 0, none⟩) M3.length lc (mbFlat M3), RowA 91 2 ka K3.length kc (lkFlat K3)]) Try.underlying40 info3 (by rfl) (by decide) M9.out [.int .i64 zi] rfl (by simp [Value.oneCell']) (by omega) (by decide)
                  rw [show (W1.alloc (.cells #[.int .i64 zi, .int .i64 zs, .bool true, .string zk] 61)).heap.size = W1.heap.size + 1 by simp] at hrun
                  have HRUN := Lib.hid hrun
                  have M10 := Lib.hid (show Mem w [] w2 ([BlockA W1.heap.size #[.int .i64 zi, .int .i64 zs, .bool true, .string zk] 61, RowA 3 1 ai2 (j + 1) ci2 ((((M3.take j).map (·.id)).map (Value.int .i64)) ++ [.int .i64 zi]), RowA 44 2 ae en ce (edgeFlat E)] ++ TbA p wd M3 K3 :: [BlockA rq #[.bool wd, .slice (some ⟨g5, 0, none⟩) M3.length lc, .slice ka K3.length kc] 53, RowA 61 4 (some ⟨g5, 0, none⟩) M3.length lc (mbFlat M3), RowA 91 2 ka K3.length kc (lkFlat K3)]) from hm)
                  obtain ⟨z0, z2, z3⟩ := mb_cells [] (r := [RowA 3 1 ai2 (j + 1) ci2 ((((M3.take j).map (·.id)).map (Value.int .i64)) ++ [.int .i64 zi]), RowA 44 2 ae en ce (edgeFlat E), TbA p wd M3 K3, BlockA rq #[.bool wd, .slice (some ⟨g5, 0, none⟩) M3.length lc, .slice ka K3.length kc] 53, RowA 61 4 (some ⟨g5, 0, none⟩) M3.length lc (mbFlat M3), RowA 91 2 ka K3.length kc (lkFlat K3)]) hm
                  clear hrun hm M9 hS

                  have HHO := Lib.hid fun W (hm : Mem w [] W [BlockA W1.heap.size #[.int .i64 zi, .int .i64 zs, .bool true, .string zk] 61, RowA 3 1 ai2 (j + 1) ci2 ((((M3.take j).map (·.id)).map (Value.int .i64)) ++ [.int .i64 zi]), RowA 44 2 ae en ce (edgeFlat E), TbA p wd M3 K3, BlockA rq #[.bool wd, .slice (some ⟨g5, 0, none⟩) M3.length lc, .slice ka K3.length kc] 53, RowA 61 4 (some ⟨g5, 0, none⟩) M3.length lc (mbFlat M3), RowA 91 2 ka K3.length kc (lkFlat K3)]) => (show Calls Try.prog 24 #[.pointer (some ⟨rq, 0, none⟩), .string zk] W (fun e w' => e = .returned (.int .i64 (holdI K3 zk)) ∧ Mem w [] w' [BlockA W1.heap.size #[.int .i64 zi, .int .i64 zs, .bool true, .string zk] 61, RowA 3 1 ai2 (j + 1) ci2 ((((M3.take j).map (·.id)).map (Value.int .i64)) ++ [.int .i64 zi]), RowA 44 2 ae en ce (edgeFlat E), TbA p wd M3 K3, BlockA rq #[.bool wd, .slice (some ⟨g5, 0, none⟩) M3.length lc, .slice ka K3.length kc] 53, RowA 61 4 (some ⟨g5, 0, none⟩) M3.length lc (mbFlat M3), RowA 91 2 ka K3.length kc (lkFlat K3)]) from by
                    obtain ⟨D1, hA⟩ := Mem.getR [BlockA W1.heap.size #[.int .i64 zi, .int .i64 zs, .bool true, .string zk] 61, RowA 3 1 ai2 (j + 1) ci2 ((((M3.take j).map (·.id)).map (Value.int .i64)) ++ [.int .i64 zi]), RowA 44 2 ae en ce (edgeFlat E), TbA p wd M3 K3] hm
                    exact (rf_holder rq wd M3 K3 zk W D1 hA OK.out.c.sok.ok.sk OK.out.c.sok.ok.fk).mono fun e w' ⟨he, hb⟩ => ⟨he, hm.below hb⟩)
                  rw [holdI_has (HHK.out rfl)] at HHO
                  have HWA := Lib.hid fun W a c n xs (hm : Mem w [] W [BlockA W1.heap.size #[.int .i64 zi, .int .i64 zs, .bool true, .string zk] 61, RowA 3 1 ai2 (j + 1) ci2 ((((M3.take j).map (·.id)).map (Value.int .i64)) ++ [.int .i64 zi]), RowA 44 2 a n c xs, TbA p wd M3 K3, BlockA rq #[.bool wd, .slice (some ⟨g5, 0, none⟩) M3.length lc, .slice ka K3.length kc] 53, RowA 61 4 (some ⟨g5, 0, none⟩) M3.length lc (mbFlat M3), RowA 91 2 ka K3.length kc (lkFlat K3)]) => mem_waits [BlockA W1.heap.size #[.int .i64 zi, .int .i64 zs, .bool true, .string zk] 61, RowA 3 1 ai2 (j + 1) ci2 ((((M3.take j).map (·.id)).map (Value.int .i64)) ++ [.int .i64 zi]), RowA 44 2 a n c xs] (r := [BlockA rq #[.bool wd, .slice (some ⟨g5, 0, none⟩) M3.length lc, .slice ka K3.length kc] 53, RowA 61 4 (some ⟨g5, 0, none⟩) M3.length lc (mbFlat M3), RowA 91 2 ka K3.length kc (lkFlat K3)]) hm OK.out.r zi
                  rw [HWT.out] at HWA
                  simp only [if_true] at HET
                  generalize holdK K3 zk = hd at *
                  have hm0 := (show Mem w [] w2.drew [BlockA W1.heap.size #[.int .i64 zi, .int .i64 zs, .bool true, .string zk] 61, RowA 3 1 ai2 (j + 1) ci2 ((((M3.take j).map (·.id)).map (Value.int .i64)) ++ [.int .i64 zi]), RowA 44 2 ae en ce (edgeFlat E), TbA p wd M3 K3, BlockA rq #[.bool wd, .slice (some ⟨g5, 0, none⟩) M3.length lc, .slice ka K3.length kc] 53, RowA 61 4 (some ⟨g5, 0, none⟩) M3.length lc (mbFlat M3), RowA 91 2 ka K3.length kc (lkFlat K3)] from M10.out.below (bel_drew w2))
                  have sd0 := mb_cells [] (r := [RowA 3 1 ai2 (j + 1) ci2 ((((M3.take j).map (·.id)).map (Value.int .i64)) ++ [.int .i64 zi]), RowA 44 2 ae en ce (edgeFlat E), TbA p wd M3 K3, BlockA rq #[.bool wd, .slice (some ⟨g5, 0, none⟩) M3.length lc, .slice ka K3.length kc] 53, RowA 61 4 (some ⟨g5, 0, none⟩) M3.length lc (mbFlat M3), RowA 91 2 ka K3.length kc (lkFlat K3)]) hm0
                  go_wp2_with (((at_builtin; refine wpList_appendR _ rfl (.tmp 162) (.tmp 165) 40 40 rfl (.slice ai j ci) (.slice (some ⟨W1.heap.size + 1, 0, none⟩) 1 1) rfl rfl HRUN.out ?_)))
                  go_region_held3 (fun W => W.cell? ⟨W1.heap.size, 0, none⟩ = some (.int .i64 zi) ∧ W.cell? ⟨W1.heap.size, 2, none⟩ = some (.bool true) ∧ W.cell? ⟨W1.heap.size, 3, none⟩ = some (.string zk)) (first | assumption | exact sd4n _)
                    (first
                      | ((go_at_call 24; refine (HHO.out _ hm0).mono ?_; rintro e w4 ⟨rfl, hm4⟩; have sd4 := mb_cells [] (r := [RowA 3 1 ai2 (j + 1) ci2 ((((M3.take j).map (·.id)).map (Value.int .i64)) ++ [.int .i64 zi]), RowA 44 2 ae en ce (edgeFlat E), TbA p wd M3 K3, BlockA rq #[.bool wd, .slice (some ⟨g5, 0, none⟩) M3.length lc, .slice ka K3.length kc] 53, RowA 61 4 (some ⟨g5, 0, none⟩) M3.length lc (mbFlat M3), RowA 91 2 ka K3.length kc (lkFlat K3)]) hm4; have sd4n := fun o => mb_cells_new [] (r := [RowA 3 1 ai2 (j + 1) ci2 ((((M3.take j).map (·.id)).map (Value.int .i64)) ++ [.int .i64 zi]), RowA 44 2 ae en ce (edgeFlat E), TbA p wd M3 K3, BlockA rq #[.bool wd, .slice (some ⟨g5, 0, none⟩) M3.length lc, .slice ka K3.length kc] 53, RowA 61 4 (some ⟨g5, 0, none⟩) M3.length lc (mbFlat M3), RowA 91 2 ka K3.length kc (lkFlat K3)]) o hm4; obtain ⟨ae2, ce2, w5, hrun2, hm5⟩ := Mem.app1 (P := Try.prog) (t := 37) (ty := 37) [BlockA W1.heap.size #[.int .i64 zi, .int .i64 zs, .bool true, .string zk] 61, RowA 3 1 ai2 (j + 1) ci2 ((((M3.take j).map (·.id)).map (Value.int .i64)) ++ [.int .i64 zi])] (r := [TbA p wd M3 K3, BlockA rq #[.bool wd, .slice (some ⟨g5, 0, none⟩) M3.length lc, .slice ka K3.length kc] 53, RowA 61 4 (some ⟨g5, 0, none⟩) M3.length lc (mbFlat M3), RowA 91 2 ka K3.length kc (lkFlat K3)]) Try.underlying37 info44 (by rfl) (by decide) hm4 [.int .i64 zi, .int .i64 hd] rfl (by simp [Value.oneCell']) hen2 (by decide); have HRUN2 := Lib.hid hrun2; have sd5 := mb_cells [] (r := [RowA 3 1 ai2 (j + 1) ci2 ((((M3.take j).map (·.id)).map (Value.int .i64)) ++ [.int .i64 zi]), RowA 44 2 ae2 (en + 1) ce2 (edgeFlat E ++ [.int .i64 zi, .int .i64 hd]), TbA p wd M3 K3, BlockA rq #[.bool wd, .slice (some ⟨g5, 0, none⟩) M3.length lc, .slice ka K3.length kc] 53, RowA 61 4 (some ⟨g5, 0, none⟩) M3.length lc (mbFlat M3), RowA 91 2 ka K3.length kc (lkFlat K3)]) hm5; clear hrun2))
                      | (refine step_appendR rfl (.tmp 169) (.tmp 177) 37 37 rfl (.slice ae en ce) (.slice (some ⟨w4.heap.size, 0, none⟩) 1 1) ?_ ?_ HRUN2.out ?_
                         · simp [Act.eval, Act.put]
                         · simp [Act.eval, Act.put]))
                  have M11 := Lib.hid (show Mem w [] w5 [BlockA W1.heap.size #[.int .i64 zi, .int .i64 zs, .bool true, .string zk] 61, RowA 3 1 ai2 (j + 1) ci2 ((((M3.take j).map (·.id)).map (Value.int .i64)) ++ [.int .i64 zi]), RowA 44 2 ae2 (en + 1) ce2 (edgeFlat E ++ [.int .i64 zi, .int .i64 hd]), TbA p wd M3 K3, BlockA rq #[.bool wd, .slice (some ⟨g5, 0, none⟩) M3.length lc, .slice ka K3.length kc] 53, RowA 61 4 (some ⟨g5, 0, none⟩) M3.length lc (mbFlat M3), RowA 91 2 ka K3.length kc (lkFlat K3)] from hm5)
                  clear hm0 hm4 hm5 sd0 sd4 sd4n sd5 M10 HHO z0 z2 z3
                  go_wp2_with fail
                  refine (HWA.out _ _ _ _ _ M11.out).mono ?_
                  rintro e w6 ⟨rfl, hm⟩
                  obtain ⟨y0, y2, y3⟩ := mb_cells [] (r := [RowA 3 1 ai2 (j + 1) ci2 ((((M3.take j).map (·.id)).map (Value.int .i64)) ++ [.int .i64 zi]), RowA 44 2 ae2 (en + 1) ce2 (edgeFlat E ++ [.int .i64 zi, .int .i64 hd]), TbA p wd M3 K3, BlockA rq #[.bool wd, .slice (some ⟨g5, 0, none⟩) M3.length lc, .slice ka K3.length kc] 53, RowA 61 4 (some ⟨g5, 0, none⟩) M3.length lc (mbFlat M3), RowA 91 2 ka K3.length kc (lkFlat K3)]) hm
                  have HFIN := Lib.hid (Mem.drop [] (A := BlockA W1.heap.size #[.int .i64 zi, .int .i64 zs, .bool true, .string zk] 61) (r := [RowA 3 1 ai2 (j + 1) ci2 ((((M3.take j).map (·.id)).map (Value.int .i64)) ++ [.int .i64 zi]), RowA 44 2 ae2 (en + 1) ce2 (edgeFlat E ++ [.int .i64 zi, .int .i64 hd]), TbA p wd M3 K3, BlockA rq #[.bool wd, .slice (some ⟨g5, 0, none⟩) M3.length lc, .slice ka K3.length kc] 53, RowA 61 4 (some ⟨g5, 0, none⟩) M3.length lc (mbFlat M3), RowA 91 2 ka K3.length kc (lkFlat K3)]) hm)
                  clear hm HWA M11
                  go_wp2_with fail
                  go_roundw
                  case rel =>
                    refine ⟨j + 1, ai2, ci2, ae2, ce2, by omega, by go_num, rfl, ?_, Lib.hid ?_⟩
                    · rw [HET.out, List.length_append, HEN.out]; rfl
                    · have := HFIN.out
                      rw [HIT.out] at this
                      rw [HET.out, List.length_append, edgeFlat_snoc, HEN.out]
                      exact this
                  case measure => simp [intOf]; omega

              · obtain rfl : j = M3.length := by omega
                rw [List.take_of_length_le (Nat.le_refl _)] at hS ⊢
                have M10 := Lib.hid (show Mem w [] W1 ([RowA 3 1 ai M3.length ci ((M3.map (·.id)).map (Value.int .i64)), RowA 44 2 ae (edgesOf M3 K3).length ce (edgeFlat (edgesOf M3 K3))] ++ TbA p wd M3 K3 :: [BlockA rq #[.bool wd, .slice la M3.length lc, .slice ka K3.length kc] 53, RowA 61 4 la M3.length lc (mbFlat M3), RowA 91 2 ka K3.length kc (lkFlat K3)]) from hS.out)
                clear hS
                have hel := edges_len (M := M3) (K := K3)
                go_wp2_with fail
                refine (mem_members [RowA 3 1 ai M3.length ci ((M3.map (·.id)).map (Value.int .i64)), RowA 44 2 ae (edgesOf M3 K3).length ce (edgeFlat (edgesOf M3 K3))] (r := [BlockA rq #[.bool wd, .slice la M3.length lc, .slice ka K3.length kc] 53, RowA 61 4 la M3.length lc (mbFlat M3), RowA 91 2 ka K3.length kc (lkFlat K3)]) M10.out OK.out.c.sok).mono ?_
                rintro e w4 ⟨am, cm, rfl, hm⟩
                have HSA := Lib.hid (same_i am ai cm ci M3.length (M3.map (·.id)) w4 (List.length_map _).symm (Mem.rowAt [] (r := [RowA 3 1 ai M3.length ci ((M3.map (·.id)).map (Value.int .i64)), RowA 44 2 ae (edgesOf M3 K3).length ce (edgeFlat (edgesOf M3 K3)), TbA p wd M3 K3, BlockA rq #[.bool wd, .slice la M3.length lc, .slice ka K3.length kc] 53, RowA 61 4 la M3.length lc (mbFlat M3), RowA 91 2 ka K3.length kc (lkFlat K3)]) hm) (Mem.rowAt [RowA 3 1 am M3.length cm ((M3.map (·.id)).map (Value.int .i64))] (r := [RowA 44 2 ae (edgesOf M3 K3).length ce (edgeFlat (edgesOf M3 K3)), TbA p wd M3 K3, BlockA rq #[.bool wd, .slice la M3.length lc, .slice ka K3.length kc] 53, RowA 61 4 la M3.length lc (mbFlat M3), RowA 91 2 ka K3.length kc (lkFlat K3)]) hm) (by omega))
                have M11 := Lib.hid (Mem.drop [] (A := RowA 3 1 am M3.length cm ((M3.map (·.id)).map (Value.int .i64))) (r := [RowA 3 1 ai M3.length ci ((M3.map (·.id)).map (Value.int .i64)), RowA 44 2 ae (edgesOf M3 K3).length ce (edgeFlat (edgesOf M3 K3)), TbA p wd M3 K3, BlockA rq #[.bool wd, .slice la M3.length lc, .slice ka K3.length kc] 53, RowA 61 4 la M3.length lc (mbFlat M3), RowA 91 2 ka K3.length kc (lkFlat K3)]) hm)
                clear hm M10
                go_wp2_with fail
                refine HSA.out.mono ?_
                rintro e w5 ⟨rfl, hb⟩
                have M12 := Lib.hid (show Mem w [] w5 ([RowA 3 1 ai M3.length ci ((M3.map (·.id)).map (Value.int .i64)), RowA 44 2 ae (edgesOf M3 K3).length ce (edgeFlat (edgesOf M3 K3))] ++ TbA p wd M3 K3 :: [BlockA rq #[.bool wd, .slice la M3.length lc, .slice ka K3.length kc] 53, RowA 61 4 la M3.length lc (mbFlat M3), RowA 91 2 ka K3.length kc (lkFlat K3)]) from M11.out.below hb)
                clear hb M11 HSA
                go_wp2_with fail
                refine (mem_edges [RowA 3 1 ai M3.length ci ((M3.map (·.id)).map (Value.int .i64)), RowA 44 2 ae (edgesOf M3 K3).length ce (edgeFlat (edgesOf M3 K3))] (r := [BlockA rq #[.bool wd, .slice la M3.length lc, .slice ka K3.length kc] 53, RowA 61 4 la M3.length lc (mbFlat M3), RowA 91 2 ka K3.length kc (lkFlat K3)]) M12.out OK.out.c.sok).mono ?_
                rintro e w6 ⟨an, cn, rfl, hm⟩
                have HSA := Lib.hid (same_e an ae cn ce (edgesOf M3 K3).length (edgesOf M3 K3) w6 rfl (Mem.rowAt [] (r := [RowA 3 1 ai M3.length ci ((M3.map (·.id)).map (Value.int .i64)), RowA 44 2 ae (edgesOf M3 K3).length ce (edgeFlat (edgesOf M3 K3)), TbA p wd M3 K3, BlockA rq #[.bool wd, .slice la M3.length lc, .slice ka K3.length kc] 53, RowA 61 4 la M3.length lc (mbFlat M3), RowA 91 2 ka K3.length kc (lkFlat K3)]) hm) (Mem.rowAt [RowA 44 2 an (edgesOf M3 K3).length cn (edgeFlat (edgesOf M3 K3)), RowA 3 1 ai M3.length ci ((M3.map (·.id)).map (Value.int .i64))] (r := [TbA p wd M3 K3, BlockA rq #[.bool wd, .slice la M3.length lc, .slice ka K3.length kc] 53, RowA 61 4 la M3.length lc (mbFlat M3), RowA 91 2 ka K3.length kc (lkFlat K3)]) hm) (by omega))
                have M13 := Lib.hid (Mem.drop [] (A := RowA 44 2 an (edgesOf M3 K3).length cn (edgeFlat (edgesOf M3 K3))) (r := [RowA 3 1 ai M3.length ci ((M3.map (·.id)).map (Value.int .i64)), RowA 44 2 ae (edgesOf M3 K3).length ce (edgeFlat (edgesOf M3 K3)), TbA p wd M3 K3, BlockA rq #[.bool wd, .slice la M3.length lc, .slice ka K3.length kc] 53, RowA 61 4 la M3.length lc (mbFlat M3), RowA 91 2 ka K3.length kc (lkFlat K3)]) hm)
                clear hm M12
                go_wp2_with fail
                refine HSA.out.mono ?_
                rintro e w7 ⟨rfl, hb⟩
                have h1 := Mem.drop [] (A := RowA 3 1 ai M3.length ci ((M3.map (·.id)).map (Value.int .i64))) (r := [RowA 44 2 ae (edgesOf M3 K3).length ce (edgeFlat (edgesOf M3 K3)), TbA p wd M3 K3, BlockA rq #[.bool wd, .slice la M3.length lc, .slice ka K3.length kc] 53, RowA 61 4 la M3.length lc (mbFlat M3), RowA 91 2 ka K3.length kc (lkFlat K3)]) (M13.out.below hb)
                have h2 := Mem.drop [] (A := RowA 44 2 ae (edgesOf M3 K3).length ce (edgeFlat (edgesOf M3 K3))) (r := [TbA p wd M3 K3, BlockA rq #[.bool wd, .slice la M3.length lc, .slice ka K3.length kc] 53, RowA 61 4 la M3.length lc (mbFlat M3), RowA 91 2 ka K3.length kc (lkFlat K3)]) h1
                have HFIN : Hid (PHead w p rq wd (k + 1) w7) := Lib.hid ⟨M3, K3, OK.out, Mem.closeR [TbA p wd M3 K3] h2⟩
                clear h1 h2 hb M13 HSA
                go_wp2_with fail
                go_roundw
                case rel => exact ⟨k + 1, by omega, by go_num, HFIN⟩
                case measure => simp [intOf]; omega
      · obtain rfl : k = n := by omega
        have HB := Lib.hid M3.out.bel
        clear M3
        go_wp2_with fail
        go_ret
        exact ⟨rfl, HB.out⟩
end Go.Proofs.Ytlmfpkfgjfdhgaa
