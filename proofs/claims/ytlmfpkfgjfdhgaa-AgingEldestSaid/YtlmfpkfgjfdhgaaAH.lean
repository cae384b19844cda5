/- AgingEldest walked. -/
import Derived.Test.YtlmfpkfgjfdhgaaAF
import Derived.Test.YtlmfpkfgjfdhgaaAG
import Derived.Deep.CutRange
import Derived.Deep.CutBlock
namespace Go.Proofs.Ytlmfpkfgjfdhgaa
open Go.RowKit
theorem Mem.empty {w0 w : World} {D0 : List Nat} {l : List Asn} [Stables l] (h : Mem w0 D0 w l) (E k : Nat) : Mem w0 D0 w (RowA E k none 0 0 [] :: l) :=
  h.new (Below.refl _ _) (As := [RowA E k none 0 0 []]) (D' := []) (all_one ⟨rfl, Row.nil _ _ _⟩) (by simp)
/-- what holds at a round's head. -/
def EInv (w : World) (p : Nat) (wd : Bool) (k : Nat) (hv : Value) (wr : World) : Prop :=
  ∃ M K ah ch, ∃ hs : List ByteArray, EOk M K ∧ K.length ≤ k ∧ hv = .slice ah hs.length ch ∧ (∀ s ∈ hs, s ∈ holdsK K 1000) ∧ Mem w [] wr [TbA p wd M K, RowA 9 1 ah hs.length ch (hs.map Value.string)]
/-- what the switch leaves. -/
def EMid (w : World) (p : Nat) (wd : Bool) (k : Nat) (ah : Option Addr) (ch : Nat) (hs : List ByteArray) (wr : World) : Prop :=
  ∃ M K, EOk M K ∧ K.length ≤ k + 1 ∧ (∀ s ∈ hs, s ∈ holdsK K 1000) ∧ Mem w [] wr [TbA p wd M K, RowA 9 1 ah hs.length ch (hs.map Value.string)]
set_option maxRecDepth 100000 in
set_option maxHeartbeats 4000000 in
theorem eldest_law (wd : Bool) (a : Option Addr) (n c : Nat) (l : List Ac) (w : World) (hn : n ≤ maxLen) (h : ActsAt w a n l) :
    Calls Try.prog 4 #[.bool wd, .slice a n c] w fun e w' => e = .returned (.bool true) ∧ Below w.heap.size w w' := by
  have HF := Lib.hid (fixed_any w)
  have HFEW := Lib.hid fun w1 (hb : Below w.heap.size w w1) => few_any a n c l w1 hn (h.below hb)
  have HA := Lib.hid h
  unfold maxLen at hn
  clear h
  cases hfew : fewA l with
  | false =>
    rw [hfew] at HFEW
    clear hfew
    go_enter Try.func4, Try.ntmps4
    go_wp2_with fail
    refine HF.out.mono ?_
    rintro e w1 ⟨rfl, hb⟩
    have HB := Lib.hid hb
    clear hb
    go_wp2_with fail
    refine (HFEW.out _ HB.out).mono ?_
    rintro e w2 ⟨rfl, hb⟩
    have HB2 := Lib.hid (HB.out.trans (hb.mono HB.out.size))
    clear hb
    go_wp2_with fail
    go_ret
    exact ⟨rfl, HB2.out⟩
  | true =>
    have hn80 : n ≤ 80 := by
      have h1 := (Bool.and_eq_true_iff.1 hfew).2
      have h2 := HA.out.1
      have : l.length ≤ 80 := by simpa using h1
      omega
    rw [hfew] at HFEW
    clear hfew
    have HNEW := Lib.hid (tb_new wd)
    go_enter Try.func4, Try.ntmps4
    go_wp2_with fail
    refine HF.out.mono ?_
    rintro e w1 ⟨rfl, hb⟩
    have HB := Lib.hid hb
    clear hb
    go_wp2_with fail
    refine (HFEW.out _ HB.out).mono ?_
    rintro e w2 ⟨rfl, hb⟩
    have HB2 := Lib.hid (HB.out.trans (hb.mono HB.out.size))
    clear hb
    go_wp2_with fail
    refine (HNEW.out w2).mono ?_
    rintro e w3 ⟨p, rfl, hA, hd, hb⟩
    have M1 := Lib.hid (show Mem w [] w3 (TbA p wd [] [] :: []) from ((Mem.nil w).below HB2.out).new hb hA hd)
    clear hA hd hb
    go_wp2_with fail
    refine (mem_join [] M1.out SOk.nil eld0).mono ?_
    rintro e w4 ⟨rfl, hm⟩
    have M2 := Lib.hid (show Mem w [] w4 [TbA p wd [⟨1000, 0, false, nk⟩] [], RowA 9 1 none 0 0 []] from Mem.swap [] (Mem.empty hm 9 1))
    clear hm M1 HB2 HB
    have HI : Hid (EInv w p wd 0 (.slice none 0 0) w4) := Lib.hid ⟨_, _, none, 0, [], EOk.start, Nat.le_refl _, rfl, by simp, M2.out⟩
    clear M2
    go_wp2_with fail
    go_loopw [6, 29] (fun hv j wr => ∃ k : Nat, k ≤ n ∧ j = .int .i64 k ∧ Hid (EInv w p wd k hv wr)) (fun _ j _ => n - (intOf j).toNat)
    case atStart => exact ⟨0, Nat.zero_le _, rfl, HI⟩
    case round =>
      obtain ⟨k, hk, rfl, hS⟩ := hrel
      clear HI
      obtain ⟨M, K, ah, ch, hs, hok, hkl, rfl, hsub, hmem⟩ := hS.out
      have OK := Lib.hid hok
      have HKL := Lib.hid hkl
      have SUB := Lib.hid hsub
      have M3 := Lib.hid hmem
      clear hok hkl hsub hmem hS
      by_cases hlt : k < n
      · obtain ⟨g, off, rfl, ⟨hx0, hx1, hx2, hx3⟩, hk0, hk1, -⟩ := (HA.out.below M3.out.bel).2 k (by rw [← HA.out.1]; exact hlt)
        generalize l[k]'(by rw [← HA.out.1]; exact hlt) = x at *
        obtain ⟨xk, xi, xs, xy⟩ := x
        simp only at hx0 hx1 hx2 hx3 hk0 hk1
        have M4 := Lib.hid (M3.out.block #[.int .u8 xk, .int .i64 xi, .int .i64 xs, .string xy] 29)
        by_cases hc : xs ≤ 0 ∨ xi = 1000
        · have hor : (decide (xs ≤ 0) = true) ∨ (decide (xs ≤ 0) = false ∧ (xi == 1000) = true) := by
            by_cases h1 : xs ≤ 0
            · exact .inl (decide_eq_true h1)
            · exact .inr ⟨decide_eq_false h1, by simp; omega⟩
          clear hc
          have M7 := Lib.hid (show Mem w [] (wr.alloc (.cells #[.int .u8 1, .int .i64 1000, .int .i64 1, .string xy] 29)) ([BlockA wr.heap.size #[.int .u8 1, .int .i64 1000, .int .i64 1, .string xy] 29] ++ TbA p wd M K :: [RowA 9 1 ah hs.length ch (hs.map Value.string)]) from M3.out.block #[.int .u8 1, .int .i64 1000, .int .i64 1, .string xy] 29)
          have hone : (1000 : Int) == 1000 := rfl
          rcases hor with hor | ⟨hor, hor2⟩
          all_goals
            go_upto_block 2 with (fail)
            go_cut [] from 47 to 80 (fun wx => Hid (EMid w p wd k ah ch hs wx))
            case first =>
              rcases hask : askT wd M K 1000 xy with ⟨⟨x, y⟩, M', K'⟩
              obtain ⟨q1, q2, q3, q4⟩ := OK.out.ask (by have := HKL.out; omega) hask
              have HASK := Lib.hid hask
              have HL := Lib.hid (OK.out.sok.ask (by have := HKL.out; omega) hask).2
              have HE := Lib.hid q1
              have HK := Lib.hid q2
              have hx : (x == 1000) = false := beq_eq_false_iff_ne.2 q3
              have hy : (y == 11) = false := beq_eq_false_iff_ne.2 (q4 rfl)
              clear hask q1 q2 q3 q4
              go_wp2_with fail
              refine (mem_ask [BlockA wr.heap.size #[.int .u8 1, .int .i64 1000, .int .i64 1, .string xy] 29] M7.out OK.out.sok HASK.out).mono ?_
              rintro e w5 ⟨rfl, hm⟩
              have M8 := Lib.hid (show Mem w [] w5 ([] ++ BlockA wr.heap.size #[.int .u8 1, .int .i64 1000, .int .i64 1, .string xy] 29 :: [TbA p wd M' K', RowA 9 1 ah hs.length ch (hs.map Value.string)]) from hm)
              have HFIN : Hid (EMid w p wd k ah ch hs w5) := Lib.hid ⟨M', K', HE.out, by have := HKL.out; have := HL.out; omega, fun s h => HK.out.holds (SUB.out s h), M8.out.drop []⟩
              obtain ⟨z1, -⟩ := M8.out.block_cell (i := 1) rfl
              clear hm HASK
              go_wp2_with fail
              go_meet
              case rel => exact HFIN
            case rest =>
              obtain ⟨M', K', hok', hkl', hsub', hm⟩ := hcut.out
              have OK2 := Lib.hid hok'
              have HKL2 := Lib.hid hkl'
              have SUB2 := Lib.hid hsub'
              have M9 := Lib.hid (show Mem w [] wc ([] ++ TbA p wd M' K' :: [RowA 9 1 ah hs.length ch (hs.map Value.string)]) from hm)
              clear hcut hok' hkl' hsub' hm OK HKL SUB M3 HA
              go_wp2_with fail
              refine (mem_holds [] M9.out OK2.out.sok 1000).mono ?_
              rintro e w6 ⟨an, cn, rfl, hm⟩
              have M10 := Lib.hid (show Mem w [] w6 [RowA 9 1 an (holdsK K' 1000).length cn ((holdsK K' 1000).map Value.string), TbA p wd M' K', RowA 9 1 ah hs.length ch (hs.map Value.string)] from hm)
              clear hm M9
              have HNX := Lib.hid fun wz (hm : Mem w [] wz [RowA 9 1 an (holdsK K' 1000).length cn ((holdsK K' 1000).map Value.string), TbA p wd M' K', RowA 9 1 ah hs.length ch (hs.map Value.string)]) => (show EInv w p wd (k + 1) (.slice an (holdsK K' 1000).length cn) wz from ⟨M', K', an, cn, holdsK K' 1000, OK2.out, HKL2.out, rfl, fun s h => h, Mem.drop [TbA p wd M' K', RowA 9 1 an (holdsK K' 1000).length cn ((holdsK K' 1000).map Value.string)] (r := []) (Mem.swap [] hm)⟩)
              have HNL : Hid ((holdsK K' 1000).length ≤ 100000) := Lib.hid (by unfold holdsK; rw [List.length_map]; exact Nat.le_trans (List.length_filter_le _ _) (OK2.out.sok.ok.fk))
              have HHL := Lib.hid ((Mem.get [RowA 9 1 an (holdsK K' 1000).length cn ((holdsK K' 1000).map Value.string), TbA p wd M' K'] M10.out).choose_spec)
              have HM10 := M10
              generalize holdsK K' 1000 = now at *
              clear OK2 HKL2
              have hnl := HNL.out
              generalize hnn : now.length = nn at *
              have HNN := Lib.hid hnn
              clear hnn
              have hrl : hs.length ≤ maxLen := by
                rcases HHL.out.2.out with ⟨_, e, _⟩ | ⟨_, _, _, _, e1, e2, _⟩
                · rw [e]; exact Nat.zero_le _
                · exact Nat.le_trans e1 e2
              unfold maxLen at hrl
              clear HHL
              generalize hhn : hs.length = hn at *
              have HHN := Lib.hid hhn
              clear hhn
              go_wp2_with fail
              go_loopw [85] (fun jv wz => ∃ j : Nat, j ≤ hn ∧ jv = .int .i64 j ∧ Hid (Mem w [] wz [RowA 9 1 an nn cn (now.map Value.string), TbA p wd M' K', RowA 9 1 ah hn ch (hs.map Value.string)])) (fun jv _ => hn - (intOf jv).toNat)
              case atStart => exact ⟨0, Nat.zero_le _, rfl, M10⟩
              case round =>
                obtain ⟨j, hj, rfl, hS⟩ := hrel
                clear M10 HM10
                by_cases hlj : j < hn
                · have hj2 : j < hs.length := by rw [HHN.out]; exact hlj
                  obtain ⟨E, _, hrow⟩ := Mem.get [RowA 9 1 an nn cn (now.map Value.string), TbA p wd M' K'] hS.out
                  obtain ⟨g5, rfl, hx5⟩ := hrow.cellAt j (by rw [List.length_map]; exact hj2)
                  rw [List.getElem_map] at hx5
                  have HIN := Lib.hid (SUB2.out _ (List.getElem_mem hj2))
                  clear hrow
                  generalize hs[j] = s5 at *
                  go_wp2_with fail
                  go_loopw [14, 91] (fun bv jv wz => ∃ i : Nat, i ≤ nn ∧ jv = .int .i64 i ∧ Hid (bv = .bool ((now.take i).any fun x => x.toList == s5.toList) ∧ Mem w [] wz [RowA 9 1 an nn cn (now.map Value.string), TbA p wd M' K', RowA 9 1 (some ⟨g5, 0, none⟩) hn ch (hs.map Value.string)])) (fun _ jv _ => nn - (intOf jv).toNat)
                  case atStart => exact ⟨0, Nat.zero_le _, rfl, Lib.hid ⟨rfl, hS.out⟩⟩
                  case round =>
                    obtain ⟨i, hi, rfl, hS2⟩ := hrel
                    clear hS
                    obtain ⟨rfl, hm⟩ := hS2.out
                    have MM := Lib.hid hm
                    clear hm hS2
                    by_cases hli : i < nn
                    · have hi2 : i < now.length := by rw [HNN.out]; exact hli
                      obtain ⟨E2, _, hrow2⟩ := Mem.get [] MM.out
                      obtain ⟨g6, rfl, hx6⟩ := hrow2.cellAt i (by rw [List.length_map]; exact hi2)
                      rw [List.getElem_map] at hx6
                      have HT : Hid (((now.take (i + 1)).any fun x => x.toList == s5.toList) = (((now.take i).any fun x => x.toList == s5.toList) || (now[i].toList == s5.toList))) := Lib.hid (by
                        rw [List.take_succ_eq_append_getElem hi2, List.any_append]; simp)
                      clear hrow2
                      generalize now[i] = s6 at *
                      cases hb : (now.take i).any fun x => x.toList == s5.toList with
                      | true =>
                        rw [hb] at HT
                        have HT2 : Hid (((now.take (i + 1)).any fun x => x.toList == s5.toList) = true) := Lib.hid (by rw [HT.out]; rfl)
                        clear HT hb
                        go_wp2_with fail
                        go_roundw
                        case rel => exact ⟨i + 1, by omega, by go_num, Lib.hid ⟨by rw [HT2.out], MM.out⟩⟩
                        case measure => simp [intOf]; omega
                      | false =>
                        rw [hb] at HT
                        have HT2 : Hid (((now.take (i + 1)).any fun x => x.toList == s5.toList) = (s6.toList == s5.toList)) := Lib.hid (by rw [HT.out]; rfl)
                        clear HT hb
                        go_wp2_with fail
                        go_roundw
                        case rel => exact ⟨i + 1, by omega, by go_num, Lib.hid ⟨by rw [HT2.out], MM.out⟩⟩
                        case measure => simp [intOf]; omega
                    · obtain rfl : i = nn := by omega
                      have hany : ((now.take i).any fun x => x.toList == s5.toList) = true := by
                        rw [List.take_of_length_le (by rw [HNN.out]; exact Nat.le_refl _)]
                        exact List.any_eq_true.2 ⟨s5, HIN.out, by simp⟩
                      rw [hany]
                      clear hany
                      go_wp2_with fail
                      go_roundw
                      case rel => exact ⟨j + 1, by omega, by go_num, MM⟩
                      case measure => simp [intOf]; omega
                · obtain rfl : j = hn := by omega
                  have HFN := Lib.hid (HNX.out _ hS.out)
                  clear hS HNX
                  go_wp2_with fail
                  go_roundw
                  case rel => exact ⟨k + 1, by omega, by go_num, HFN⟩
                  case measure => simp [intOf]; omega
        · have hc1 : decide (xs ≤ 0) = false := decide_eq_false (by omega)
          have hc2 : (xi == 1000) = false := beq_eq_false_iff_ne.2 (by omega)
          have hxi : xi ≠ 1000 := by omega
          have hxs : 1 ≤ xs := by omega
          have hr0 : 0 ≤ xk % 4 := by omega
          clear hc
          have M7 := Lib.hid (show Mem w [] (wr.alloc (.cells #[.int .u8 xk, .int .i64 xi, .int .i64 xs, .string xy] 29)) ([BlockA wr.heap.size #[.int .u8 xk, .int .i64 xi, .int .i64 xs, .string xy] 29] ++ TbA p wd M K :: [RowA 9 1 ah hs.length ch (hs.map Value.string)]) from M4.out)
          go_upto_block 2 with (fail)
          go_cut [] from 47 to 80 (fun wx => Hid (EMid w p wd k ah ch hs wx))
          case first =>
            have HXI := Lib.hid hxi
            have HXS := Lib.hid hxs
            by_cases h0 : xk % 4 = 0
            · have hb0 : (xk % 4 == 0) = true := by simpa using h0
              rcases hj : joinT M xi xs with ⟨x, M'⟩
              have HJ := Lib.hid hj
              have HE := Lib.hid (OK.out.join hxi hxs hj)
              clear hj hxi hxs h0
              go_wp2_with fail
              refine (mem_join [BlockA wr.heap.size #[.int .u8 xk, .int .i64 xi, .int .i64 xs, .string xy] 29] M7.out OK.out.sok HJ.out).mono ?_
              rintro e w5 ⟨rfl, hm⟩
              have M8 := Lib.hid (show Mem w [] w5 ([] ++ BlockA wr.heap.size #[.int .u8 xk, .int .i64 xi, .int .i64 xs, .string xy] 29 :: [TbA p wd M' K, RowA 9 1 ah hs.length ch (hs.map Value.string)]) from hm)
              have HFIN : Hid (EMid w p wd k ah ch hs w5) := Lib.hid ⟨M', K, HE.out, by have := HKL.out; omega, SUB.out, M8.out.drop []⟩
              clear hm HJ
              go_wp2_with fail
              go_meet
              case rel => exact HFIN
            · have hb0 : (xk % 4 == 0) = false := by simpa using h0
              by_cases h3 : xk % 4 = 3
              · have hb3 : (xk % 4 == 3) = true := by simpa using h3
                rcases hj : leaveT wd M K xi with ⟨x, M', K'⟩
                have HJ := Lib.hid hj
                have HL := Lib.hid (OK.out.sok.leave hj).2
                obtain ⟨q1, q2⟩ := OK.out.leave hxi hj
                have HE := Lib.hid q1
                have HK := Lib.hid q2
                clear hj hxi hxs h0 h3 q1 q2
                go_wp2_with fail
                refine (mem_leave [BlockA wr.heap.size #[.int .u8 xk, .int .i64 xi, .int .i64 xs, .string xy] 29] M7.out OK.out.sok HJ.out).mono ?_
                rintro e w5 ⟨rfl, hm⟩
                have M8 := Lib.hid (show Mem w [] w5 ([] ++ BlockA wr.heap.size #[.int .u8 xk, .int .i64 xi, .int .i64 xs, .string xy] 29 :: [TbA p wd M' K', RowA 9 1 ah hs.length ch (hs.map Value.string)]) from hm)
                have HFIN : Hid (EMid w p wd k ah ch hs w5) := Lib.hid ⟨M', K', HE.out, by have := HKL.out; have := HL.out; omega, fun s h => HK.out.holds (SUB.out s h), M8.out.drop []⟩
                clear hm HJ
                go_wp2_with fail
                go_meet
                case rel => exact HFIN
              · have hb3 : (xk % 4 == 3) = false := by simpa using h3
                clear h0 h3
                rcases hask : askT wd M K xi xy with ⟨⟨x, y⟩, M', K'⟩
                obtain ⟨q1, q2, q3, q4⟩ := OK.out.ask (by have := HKL.out; omega) hask
                have HASK := Lib.hid hask
                have HL := Lib.hid (OK.out.sok.ask (by have := HKL.out; omega) hask).2
                have HE := Lib.hid q1
                have HK := Lib.hid q2
                have hx : (x == 1000) = false := beq_eq_false_iff_ne.2 q3
                clear hxi hxs
                clear hask q1 q2 q3 q4
                go_wp2_with fail
                refine (mem_ask [BlockA wr.heap.size #[.int .u8 xk, .int .i64 xi, .int .i64 xs, .string xy] 29] M7.out OK.out.sok HASK.out).mono ?_
                rintro e w5 ⟨rfl, hm⟩
                have M8 := Lib.hid (show Mem w [] w5 ([] ++ BlockA wr.heap.size #[.int .u8 xk, .int .i64 xi, .int .i64 xs, .string xy] 29 :: [TbA p wd M' K', RowA 9 1 ah hs.length ch (hs.map Value.string)]) from hm)
                have HFIN : Hid (EMid w p wd k ah ch hs w5) := Lib.hid ⟨M', K', HE.out, by have := HKL.out; have := HL.out; omega, fun s h => HK.out.holds (SUB.out s h), M8.out.drop []⟩
                obtain ⟨z1, -⟩ := M8.out.block_cell (i := 1) rfl
                clear hm HASK
                go_wp2_with fail
                go_meet
                case rel => exact HFIN
          case rest =>
            obtain ⟨M', K', hok', hkl', hsub', hm⟩ := hcut.out
            have OK2 := Lib.hid hok'
            have HKL2 := Lib.hid hkl'
            have SUB2 := Lib.hid hsub'
            have M9 := Lib.hid (show Mem w [] wc ([] ++ TbA p wd M' K' :: [RowA 9 1 ah hs.length ch (hs.map Value.string)]) from hm)
            clear hcut hok' hkl' hsub' hm OK HKL SUB M3 HA
            go_wp2_with fail
            refine (mem_holds [] M9.out OK2.out.sok 1000).mono ?_
            rintro e w6 ⟨an, cn, rfl, hm⟩
            have M10 := Lib.hid (show Mem w [] w6 [RowA 9 1 an (holdsK K' 1000).length cn ((holdsK K' 1000).map Value.string), TbA p wd M' K', RowA 9 1 ah hs.length ch (hs.map Value.string)] from hm)
            clear hm M9
            have HNX := Lib.hid fun wz (hm : Mem w [] wz [RowA 9 1 an (holdsK K' 1000).length cn ((holdsK K' 1000).map Value.string), TbA p wd M' K', RowA 9 1 ah hs.length ch (hs.map Value.string)]) => (show EInv w p wd (k + 1) (.slice an (holdsK K' 1000).length cn) wz from ⟨M', K', an, cn, holdsK K' 1000, OK2.out, HKL2.out, rfl, fun s h => h, Mem.drop [TbA p wd M' K', RowA 9 1 an (holdsK K' 1000).length cn ((holdsK K' 1000).map Value.string)] (r := []) (Mem.swap [] hm)⟩)
            have HNL : Hid ((holdsK K' 1000).length ≤ 100000) := Lib.hid (by unfold holdsK; rw [List.length_map]; exact Nat.le_trans (List.length_filter_le _ _) (OK2.out.sok.ok.fk))
            have HHL := Lib.hid ((Mem.get [RowA 9 1 an (holdsK K' 1000).length cn ((holdsK K' 1000).map Value.string), TbA p wd M' K'] M10.out).choose_spec)
            have HM10 := M10
            generalize holdsK K' 1000 = now at *
            clear OK2 HKL2
            have hnl := HNL.out
            generalize hnn : now.length = nn at *
            have HNN := Lib.hid hnn
            clear hnn
            have hrl : hs.length ≤ maxLen := by
              rcases HHL.out.2.out with ⟨_, e, _⟩ | ⟨_, _, _, _, e1, e2, _⟩
              · rw [e]; exact Nat.zero_le _
              · exact Nat.le_trans e1 e2
            unfold maxLen at hrl
            clear HHL
            generalize hhn : hs.length = hn at *
            have HHN := Lib.hid hhn
            clear hhn
            go_wp2_with fail
            go_loopw [85] (fun jv wz => ∃ j : Nat, j ≤ hn ∧ jv = .int .i64 j ∧ Hid (Mem w [] wz [RowA 9 1 an nn cn (now.map Value.string), TbA p wd M' K', RowA 9 1 ah hn ch (hs.map Value.string)])) (fun jv _ => hn - (intOf jv).toNat)
            case atStart => exact ⟨0, Nat.zero_le _, rfl, M10⟩
            case round =>
              obtain ⟨j, hj, rfl, hS⟩ := hrel
              clear M10 HM10
              by_cases hlj : j < hn
              · have hj2 : j < hs.length := by rw [HHN.out]; exact hlj
                obtain ⟨E, _, hrow⟩ := Mem.get [RowA 9 1 an nn cn (now.map Value.string), TbA p wd M' K'] hS.out
                obtain ⟨g5, rfl, hx5⟩ := hrow.cellAt j (by rw [List.length_map]; exact hj2)
                rw [List.getElem_map] at hx5
                have HIN := Lib.hid (SUB2.out _ (List.getElem_mem hj2))
                clear hrow
                generalize hs[j] = s5 at *
                go_wp2_with fail
                go_loopw [14, 91] (fun bv jv wz => ∃ i : Nat, i ≤ nn ∧ jv = .int .i64 i ∧ Hid (bv = .bool ((now.take i).any fun x => x.toList == s5.toList) ∧ Mem w [] wz [RowA 9 1 an nn cn (now.map Value.string), TbA p wd M' K', RowA 9 1 (some ⟨g5, 0, none⟩) hn ch (hs.map Value.string)])) (fun _ jv _ => nn - (intOf jv).toNat)
                case atStart => exact ⟨0, Nat.zero_le _, rfl, Lib.hid ⟨rfl, hS.out⟩⟩
                case round =>
                  obtain ⟨i, hi, rfl, hS2⟩ := hrel
                  clear hS
                  obtain ⟨rfl, hm⟩ := hS2.out
                  have MM := Lib.hid hm
                  clear hm hS2
                  by_cases hli : i < nn
                  · have hi2 : i < now.length := by rw [HNN.out]; exact hli
                    obtain ⟨E2, _, hrow2⟩ := Mem.get [] MM.out
                    obtain ⟨g6, rfl, hx6⟩ := hrow2.cellAt i (by rw [List.length_map]; exact hi2)
                    rw [List.getElem_map] at hx6
                    have HT : Hid (((now.take (i + 1)).any fun x => x.toList == s5.toList) = (((now.take i).any fun x => x.toList == s5.toList) || (now[i].toList == s5.toList))) := Lib.hid (by
                      rw [List.take_succ_eq_append_getElem hi2, List.any_append]; simp)
                    clear hrow2
                    generalize now[i] = s6 at *
                    cases hb : (now.take i).any fun x => x.toList == s5.toList with
                    | true =>
                      rw [hb] at HT
                      have HT2 : Hid (((now.take (i + 1)).any fun x => x.toList == s5.toList) = true) := Lib.hid (by rw [HT.out]; rfl)
                      clear HT hb
                      go_wp2_with fail
                      go_roundw
                      case rel => exact ⟨i + 1, by omega, by go_num, Lib.hid ⟨by rw [HT2.out], MM.out⟩⟩
                      case measure => simp [intOf]; omega
                    | false =>
                      rw [hb] at HT
                      have HT2 : Hid (((now.take (i + 1)).any fun x => x.toList == s5.toList) = (s6.toList == s5.toList)) := Lib.hid (by rw [HT.out]; rfl)
                      clear HT hb
                      go_wp2_with fail
                      go_roundw
                      case rel => exact ⟨i + 1, by omega, by go_num, Lib.hid ⟨by rw [HT2.out], MM.out⟩⟩
                      case measure => simp [intOf]; omega
                  · obtain rfl : i = nn := by omega
                    have hany : ((now.take i).any fun x => x.toList == s5.toList) = true := by
                      rw [List.take_of_length_le (by rw [HNN.out]; exact Nat.le_refl _)]
                      exact List.any_eq_true.2 ⟨s5, HIN.out, by simp⟩
                    rw [hany]
                    clear hany
                    go_wp2_with fail
                    go_roundw
                    case rel => exact ⟨j + 1, by omega, by go_num, MM⟩
                    case measure => simp [intOf]; omega
              · obtain rfl : j = hn := by omega
                have HFN := Lib.hid (HNX.out _ hS.out)
                clear hS HNX
                go_wp2_with fail
                go_roundw
                case rel => exact ⟨k + 1, by omega, by go_num, HFN⟩
                case measure => simp [intOf]; omega
      · obtain rfl : k = n := by omega
        have HB := Lib.hid M3.out.bel
        clear M3
        go_wp2_with fail
        go_ret
        exact ⟨rfl, HB.out⟩
end Go.Proofs.Ytlmfpkfgjfdhgaa
