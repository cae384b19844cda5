/- LocksBlocked walked. -/
import Derived.Test.YtnemgmlhcjhdhaaAM
import Derived.Test.YtnemgmlhcjhdhaaAL
namespace Go.Proofs.Ytnemgmlhcjhdhaa
open Go.RowKit Go.Sort
theorem any_next {L : List Li} {o : Int} {j : Nat} (h : j < L.length) : ((L.take (j + 1)).any fun l => decide (0 < ofH l.qs o)) = (((L.take j).any fun l => decide (0 < ofH l.qs o)) || decide (0 < ofH L[j].qs o)) := by
  rw [List.take_succ_eq_append_getElem h, List.any_append]; simp
theorem blk_any {L : List Li} (h : LOk L) (o : Int) : decide (0 < (riseI (blkL L o)).length) = L.any fun l => decide (0 < ofH l.qs o) := by
  have h1 := blkL_iff h o
  rw [Bool.eq_iff_iff, decide_eq_true_eq, List.any_eq_true, List.length_pos_iff]
  constructor
  · intro hne
    obtain ⟨l, hl, h2⟩ := h1.1 fun e => hne (by rw [e]; exact rise_of_nil)
    exact ⟨l, hl, decide_eq_true h2⟩
  · rintro ⟨l, hl, h2⟩ e
    exact h1.2 ⟨l, hl, of_decide_eq_true h2⟩ (rise_nil e)
set_option maxRecDepth 100000 in
set_option maxHeartbeats 16000000 in
theorem blockedlaw_any (a : Option Addr) (n c : Nat) (l : List Ac) (w : World) (hn : n ≤ maxLen) (h : ActsAt w a n l) :
    Calls Try.prog 6 #[.slice a n c] w (fun e w' => e = .returned (.bool true) ∧ Below w.heap.size w w') := by
  have HA := Lib.hid h
  have HFX := Lib.hid fixed_any
  have HFW := Lib.hid fun W (hb : Below w.heap.size w W) => few_any a n c l W hn (h.below hb)
  have HNW := Lib.hid tab_new
  have HNL := Lib.hid h.1
  unfold maxLen at hn
  clear h
  go_enter Try.func6, Try.ntmps6
  go_wp2_with fail
  refine (HFX.out w).mono ?_
  rintro e w1 ⟨rfl, hb⟩
  have HB := Lib.hid hb
  clear hb
  go_wp2_with fail
  refine (HFW.out _ HB.out).mono ?_
  rintro e w2 ⟨rfl, hb⟩
  have HB2 := Lib.hid (HB.out.trans (hb.mono HB.out.size))
  clear hb HFX HFW HB
  cases hfw : fewA l with
  | false =>
    clear hfw
    go_wp2_with fail
    go_ret
    exact ⟨rfl, HB2.out⟩
  | true =>
    have hn60 : n ≤ 60 := by rw [HNL.out]; exact few_len hfw
    clear hfw
    go_wp2_with fail
    refine (HNW.out w2).mono ?_
    rintro e w3 ⟨p, rfl, hA, hf, hb⟩
    have HI : Hid (LHead w p 0 w3) := Lib.hid ⟨[], LOk.nil, Sm.nil, ((Mem.nil w).below HB2.out).new hb hA hf⟩
    clear hA hf hb HB2 HNW
    go_wp2_with fail
    go_loopw [22] (fun j wr => ∃ k : Nat, k ≤ n ∧ j = .int .i64 k ∧ Hid (LHead w p k wr)) (fun j _ => n - (intOf j).toNat)
    case atStart => exact ⟨0, Nat.zero_le _, rfl, HI⟩
    case round =>
      obtain ⟨W0, rfl⟩ : ∃ W0, W0 = wr := ⟨_, rfl⟩
      obtain ⟨k, hk, rfl, hS⟩ := hrel
      clear HI
      obtain ⟨L, hok, hsm, hmem⟩ := hS.out
      clear hS
      by_cases hlt : k < n
      · obtain ⟨g, off, rfl, ⟨hx0, hx1, hx2, hx3⟩, r0, r1, r2, r3, r4⟩ := (HA.out.below hmem.bel).2 k (by rw [← HA.out.1]; exact hlt)
        generalize l[k]'(by rw [← HA.out.1]; exact hlt) = x at *
        have HD := Lib.hid (mem_do (r := [BlockA W0.heap.size #[.int .i64 x.owner, .string x.key, .int .i64 x.mode, .bool x.leave] 28]) (Mem.swap [] (r := []) (hmem.block #[.int .i64 x.owner, .string x.key, .int .i64 x.mode, .bool x.leave] 28)) hok (hsm.mono (by omega)) x)
        have OK2 := Lib.hid (hok.doT x)
        have SM2 := Lib.hid (hsm.doT x)
        clear hok hsm hmem
        generalize doT L x = L2 at *
        obtain ⟨xo, xk, xm, xl⟩ := x
        simp only at hx0 hx1 hx2 hx3 r0 r1 r2 r3 r4 HD
        go_wp2_with fail
        generalize W0.heap.size = g8 at *
        refine HD.out.mono ?_
        rintro e w4 ⟨rfl, hm⟩
        have M4 := Lib.hid (Mem.drop [TabA p L2] (r := []) hm)
        clear hm HD hx0 hx1 hx2 hx3 r0 r1 r2 r3 r4
        have hL2n : L2.length ≤ 100 := by have := SM2.out.1; omega
        have HOW := Lib.hid (mem_towners (r := []) M4.out (SM2.out.mono (by omega)))
        clear M4
        go_wp2_with fail
        refine HOW.out.mono ?_
        rintro e w5 ⟨ao, co, rfl, hm⟩
        have M5 := Lib.hid (Mem.swap [] (r := []) hm)
        clear hm HOW
        have hOWn : (riseI (ownsL L2)).length ≤ 1000000 := by
          have h1 := Lib.compact_length_le (sortI (ownsL L2))
          rw [sortI_len] at h1
          have h2 := ownsL_len SM2.out L2.length (Nat.le_refl _)
          rw [List.take_length] at h2
          have h3 : L2.length * (k + 1) ≤ 100 * 100 := Nat.mul_le_mul hL2n (by omega)
          unfold riseI
          omega
        generalize riseI (ownsL L2) = OW at *
        go_wp2_with fail
        go_loopw [32] (fun jv wr => ∃ j : Nat, j ≤ OW.length ∧ jv = .int .i64 j ∧ Hid (Mem w [] wr [TabA p L2, RowI ao co OW])) (fun jv _ => OW.length - (intOf jv).toNat)
        case atStart => exact ⟨0, Nat.zero_le _, rfl, M5⟩
        case round =>
          obtain ⟨w6, rfl⟩ : ∃ w6, w6 = wr := ⟨_, rfl⟩
          obtain ⟨j, hj, rfl, hS⟩ := hrel
          clear M5
          by_cases hltj : j < OW.length
          · obtain ⟨gk, rfl, hck⟩ := (Mem.rowAt [TabA p L2] (r := []) hS.out).cellAt j (by simp [intsV]; omega)
            rw [show (intsV OW)[j]'(by simp [intsV]; omega) = .int .i64 OW[j] by simp [intsV]] at hck
            have HKY := Lib.hid (mem_tkeys (r := [RowI (some ⟨gk, 0, none⟩) co OW]) hS.out (SM2.out.mono (by omega)))
            simp only [List.length_map] at HKY
            have HAB := Lib.hid (blk_any OK2.out OW[j])
            have HNS := Lib.hid (show OW[j] ∉ riseI (blkL L2 OW[j]) from fun h => blkL_not_self (rise_mem.1 h))
            clear hS
            generalize OW[j] = o at *
            go_wp2_with fail
            refine HKY.out.mono ?_
            rintro e w7 ⟨ak, ck, rfl, hm⟩
            have M7 := Lib.hid (Mem.swap [] (r := [RowI (some ⟨gk, 0, none⟩) co OW]) hm)
            clear hm HKY hck
            go_wp2_with fail
            go_loopw [8, 39] (fun v jv wr => ∃ i : Nat, i ≤ L2.length ∧ jv = .int .i64 i ∧ v = .bool ((L2.take i).any fun l => decide (0 < ofH l.qs o)) ∧ Hid (Mem w [] wr [TabA p L2, RowS ak ck (L2.map (·.key)), RowI (some ⟨gk, 0, none⟩) co OW])) (fun _ jv _ => L2.length - (intOf jv).toNat)
            case atStart => exact ⟨0, Nat.zero_le _, rfl, by simp, M7⟩
            case round =>
              obtain ⟨w8, rfl⟩ : ∃ w8, w8 = wr := ⟨_, rfl⟩
              obtain ⟨i, hi, rfl, rfl, hS⟩ := hrel
              clear M7
              by_cases hlti : i < L2.length
              · obtain ⟨gq, rfl, hcq⟩ := (Mem.rowAt [TabA p L2] (r := [RowI (some ⟨gk, 0, none⟩) co OW]) hS.out).cellAt i (by simp [strsV]; omega)
                rw [show (strsV (L2.map (·.key)))[i]'(by simp [strsV]; omega) = .string L2[i].key by simp [strsV]] at hcq
                have hle := lineL_eq OK2.out.s (List.getElem_mem hlti)
                have hwt := mem_twaits (r := [RowS (some ⟨gq, 0, none⟩) ck (L2.map (·.key)), RowI (some ⟨gk, 0, none⟩) co OW]) hS.out OK2.out (SM2.out.mono (by omega)) o L2[i].key
                rw [hle] at hwt
                have HWT := Lib.hid hwt
                have hnx := any_next (o := o) hlti
                have HNX := Lib.hid hnx
                have HM := hS
                clear hS hle hwt hnx
                generalize ((L2.take i).any fun l => decide (0 < ofH l.qs o)) = b at *
                generalize L2[i] = li at *
                cases b with
                | true =>
                  have HE : Hid (((L2.take (i + 1)).any fun l => decide (0 < ofH l.qs o)) = true) := Lib.hid (by rw [HNX.out]; rfl)
                  clear HNX HWT
                  go_wp2_with fail
                  go_roundw
                  case rel => exact ⟨i + 1, by omega, by go_num, by rw [HE.out], HM⟩
                  case measure => simp [intOf]; omega
                | false =>
                  have HE : Hid (((L2.take (i + 1)).any fun l => decide (0 < ofH l.qs o)) = decide (0 < ofH li.qs o)) := Lib.hid (by rw [HNX.out]; rfl)
                  clear HNX HM
                  generalize ofH li.qs o = v at *
                  go_wp2_with fail
                  refine HWT.out.mono ?_
                  rintro e w9 ⟨rfl, hm⟩
                  have M9 := Lib.hid hm
                  clear hm HWT hcq
                  go_wp2_with fail
                  go_roundw
                  case rel => exact ⟨i + 1, by omega, by go_num, by rw [HE.out], M9⟩
                  case measure => simp [intOf]; omega
              · obtain rfl : i = L2.length := by omega
                rw [List.take_length]
                have hm8 : Mem w [] w8 (TabA p L2 :: [RowI (some ⟨gk, 0, none⟩) co OW]) := Mem.drop [TabA p L2] (r := [RowI (some ⟨gk, 0, none⟩) co OW]) hS.out
                have HBL := Lib.hid (mem_tblockers (r := [RowI (some ⟨gk, 0, none⟩) co OW]) hm8 (SM2.out.mono (by omega)) o)
                clear hS hm8
                generalize (L2.any fun l => decide (0 < ofH l.qs o)) = bw at *
                have hBLn : (riseI (blkL L2 o)).length ≤ 1000000 := by
                  have h1 := Lib.compact_length_le (sortI (blkL L2 o))
                  rw [sortI_len] at h1
                  have h2 := midB_len (SM2.out.mono (by omega : k + 1 ≤ 64)) o L2.length (Nat.le_refl _)
                  rw [show midB L2 o L2.length = blkL L2 o by unfold midB blkL; rw [List.take_length]] at h2
                  unfold riseI
                  omega
                generalize riseI (blkL L2 o) = BL at *
                go_wp2_with fail
                refine HBL.out.mono ?_
                rintro e w9 ⟨ab, cb, rfl, hm⟩
                have M9 := Lib.hid (show Mem w [] w9 ([RowI ab cb BL] ++ TabA p L2 :: [RowI (some ⟨gk, 0, none⟩) co OW]) from hm)
                have hab2 : decide (0 < BL.length) = bw := HAB.out
                have hab : decide ((0 : Int) < (BL.length : Int)) = bw := by rw [← HAB.out]; simp
                clear hm HBL
                cases bw with
                | true =>
                  go_wp2_with fail
                  go_loopw [62] (fun jv wr => ∃ q : Nat, q ≤ BL.length ∧ jv = .int .i64 q ∧ Hid (Mem w [] wr [RowI ab cb BL, TabA p L2, RowI (some ⟨gk, 0, none⟩) co OW])) (fun jv _ => BL.length - (intOf jv).toNat)
                  case atStart => exact ⟨0, Nat.zero_le _, rfl, M9⟩
                  case round =>
                    obtain ⟨w10, rfl⟩ : ∃ w10, w10 = wr := ⟨_, rfl⟩
                    obtain ⟨q, hq, rfl, hS⟩ := hrel
                    clear M9
                    by_cases hltq : q < BL.length
                    · obtain ⟨gb, rfl, hcb⟩ := (Mem.rowAt [] (r := [TabA p L2, RowI (some ⟨gk, 0, none⟩) co OW]) hS.out).cellAt q (by simp [intsV]; omega)
                      rw [show (intsV BL)[q]'(by simp [intsV]; omega) = .int .i64 BL[q] by simp [intsV]] at hcb
                      have hne : (BL[q] == o) = false := by
                        rw [beq_eq_false_iff_ne]
                        intro e
                        exact HNS.out (by rw [← e]; exact List.getElem_mem hltq)
                      have HM := hS
                      clear hS
                      generalize BL[q] = z at *
                      go_wp2_with fail
                      go_roundw
                      case rel => exact ⟨q + 1, by omega, by go_num, HM⟩
                      case measure => simp [intOf]; omega
                    · obtain rfl : q = BL.length := by omega
                      have HM := Lib.hid (Mem.drop [] (r := [TabA p L2, RowI (some ⟨gk, 0, none⟩) co OW]) hS.out)
                      clear hS
                      go_wp2_with fail
                      go_roundw
                      case rel => exact ⟨j + 1, by omega, by go_num, HM⟩
                      case measure => simp [intOf]; omega
                | false =>
                  go_wp2_with fail
                  go_loopw [62] (fun jv wr => ∃ q : Nat, q ≤ BL.length ∧ jv = .int .i64 q ∧ Hid (Mem w [] wr [RowI ab cb BL, TabA p L2, RowI (some ⟨gk, 0, none⟩) co OW])) (fun jv _ => BL.length - (intOf jv).toNat)
                  case atStart => exact ⟨0, Nat.zero_le _, rfl, M9⟩
                  case round =>
                    obtain ⟨w10, rfl⟩ : ∃ w10, w10 = wr := ⟨_, rfl⟩
                    obtain ⟨q, hq, rfl, hS⟩ := hrel
                    clear M9
                    by_cases hltq : q < BL.length
                    · obtain ⟨gb, rfl, hcb⟩ := (Mem.rowAt [] (r := [TabA p L2, RowI (some ⟨gk, 0, none⟩) co OW]) hS.out).cellAt q (by simp [intsV]; omega)
                      rw [show (intsV BL)[q]'(by simp [intsV]; omega) = .int .i64 BL[q] by simp [intsV]] at hcb
                      have hne : (BL[q] == o) = false := by
                        rw [beq_eq_false_iff_ne]
                        intro e
                        exact HNS.out (by rw [← e]; exact List.getElem_mem hltq)
                      have HM := hS
                      clear hS
                      generalize BL[q] = z at *
                      go_wp2_with fail
                      go_roundw
                      case rel => exact ⟨q + 1, by omega, by go_num, HM⟩
                      case measure => simp [intOf]; omega
                    · obtain rfl : q = BL.length := by omega
                      have HM := Lib.hid (Mem.drop [] (r := [TabA p L2, RowI (some ⟨gk, 0, none⟩) co OW]) hS.out)
                      clear hS
                      go_wp2_with fail
                      go_roundw
                      case rel => exact ⟨j + 1, by omega, by go_num, HM⟩
                      case measure => simp [intOf]; omega
          · obtain rfl : j = OW.length := by omega
            have HM := Lib.hid (Mem.drop [TabA p L2] (r := []) hS.out)
            clear hS
            go_wp2_with fail
            go_roundw
            case rel => exact ⟨k + 1, by omega, by go_num, Lib.hid ⟨L2, OK2.out, SM2.out, HM.out⟩⟩
            case measure => simp [intOf]; omega
      · obtain rfl : k = n := by omega
        have HF := Lib.hid hmem.bel
        clear hok hsm hmem
        go_wp2_with fail
        go_ret
        exact ⟨rfl, HF.out⟩
end Go.Proofs.Ytnemgmlhcjhdhaa
