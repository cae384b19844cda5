/- LocksAll walked. -/
import Derived.Test.YtnemgmlhcjhdhaaAM
import Derived.Test.YtnemgmlhcjhdhaaAL
namespace Go.Proofs.Ytnemgmlhcjhdhaa
open Go.RowKit Go.Sort
/-- when the first i of those who were there have left. -/
def AHead (w : World) (p : Nat) (R : List Int) (ao : Option Addr) (co i : Nat) (wr : World) : Prop := ∃ L, LOk L ∧ Sm 60 L ∧ riseI (ownsL L) = R.drop i ∧ Mem w [] wr [TabA p L, RowI ao co R]
theorem owns_after {L : List Li} (h : LOk L) (o : Int) : o ∉ ownsL (leaveL L o).2 := fun hm => ((owns_leave h o o).1 hm).2 rfl
theorem riseOwns_len {N : Nat} {L : List Li} (h : Sm N L) (hN : N ≤ 100) : (riseI (ownsL L)).length ≤ 1000000 := by
  have h1 := Lib.compact_length_le (sortI (ownsL L))
  rw [sortI_len] at h1
  have h2 := ownsL_len h L.length (Nat.le_refl _)
  rw [List.take_length] at h2
  have h3 : L.length * N ≤ 100 * 100 := Nat.mul_le_mul (by have := h.1; omega) hN
  unfold riseI
  omega
theorem riseIn_len {L : List Li} (h : Sm 60 L) (o : Int) : (riseI (leaveL L o).1).length ≤ 1000000 := by
  have h1 := Lib.compact_length_le (sortI (leaveL L o).1)
  rw [sortI_len] at h1
  have h2 := midI_len (h.mono (by decide)) o L.length
  rw [show midI L o L.length = (leaveL L o).1 by unfold midI leaveL; rw [List.take_length]] at h2
  have h3 : L.length * 400 ≤ 60 * 400 := Nat.mul_le_mul h.1 (Nat.le_refl _)
  unfold riseI
  omega
set_option maxRecDepth 100000 in
set_option maxHeartbeats 16000000 in
theorem all_any (a : Option Addr) (n c : Nat) (l : List Ac) (o : Int) (w : World) (hn : n ≤ maxLen) (h : ActsAt w a n l) :
    Calls Try.prog 7 #[.slice a n c, .int .i64 o] w (fun e w' => e = .returned (.bool true) ∧ Below w.heap.size w w') := by
  have HA := Lib.hid h
  have HFX := Lib.hid fixed_any
  have HFW := Lib.hid fun W (hb : Below w.heap.size w W) => few_any a n c l W hn (h.below hb)
  have HNW := Lib.hid tab_new
  have HNL := Lib.hid h.1
  unfold maxLen at hn
  clear h
  go_enter Try.func7, Try.ntmps7
  go_wp2_with fail
  refine (HFX.out w).mono ?_
  rintro e w1 ⟨rfl, hb⟩
  have HB := Lib.hid hb
  clear hb
  go_wp2_with fail
  refine (HFW.out _ HB.out).mono ?_
  rintro e w2 ⟨rfl, hb⟩
  have HB2 := Lib.hid (HB.out.trans (hb.mono HB.out.size))
  clear hb HFX HFW HB
  cases hfw : fewA l with
  | false =>
    clear hfw
    go_wp2_with fail
    go_ret
    exact ⟨rfl, HB2.out⟩
  | true =>
    have hn60 : n ≤ 60 := by rw [HNL.out]; exact few_len hfw
    clear hfw
    go_wp2_with fail
    refine (HNW.out w2).mono ?_
    rintro e w3 ⟨p, rfl, hA, hf, hb⟩
    have HI : Hid (LHead w p 0 w3) := Lib.hid ⟨[], LOk.nil, Sm.nil, ((Mem.nil w).below HB2.out).new hb hA hf⟩
    clear hA hf hb HB2 HNW
    go_wp2_with fail
    go_loopw [21] (fun j wr => ∃ k : Nat, k ≤ n ∧ j = .int .i64 k ∧ Hid (LHead w p k wr)) (fun j _ => n - (intOf j).toNat)
    case atStart => exact ⟨0, Nat.zero_le _, rfl, HI⟩
    case round =>
      obtain ⟨W0, rfl⟩ : ∃ W0, W0 = wr := ⟨_, rfl⟩
      obtain ⟨k, hk, rfl, hS⟩ := hrel
      clear HI
      obtain ⟨L, hok, hsm, hmem⟩ := hS.out
      clear hS
      by_cases hlt : k < n
      · obtain ⟨g, off, rfl, ⟨hx0, hx1, hx2, hx3⟩, r0, r1, r2, r3, r4⟩ := (HA.out.below hmem.bel).2 k (by rw [← HA.out.1]; exact hlt)
        generalize l[k]'(by rw [← HA.out.1]; exact hlt) = x at *
        have HD := Lib.hid (mem_do (r := [BlockA W0.heap.size #[.int .i64 x.owner, .string x.key, .int .i64 x.mode, .bool x.leave] 28]) (Mem.swap [] (r := []) (hmem.block #[.int .i64 x.owner, .string x.key, .int .i64 x.mode, .bool x.leave] 28)) hok (hsm.mono (by omega)) x)
        have OK2 := Lib.hid (hok.doT x)
        have SM2 := Lib.hid (hsm.doT x)
        clear hok hsm hmem
        generalize doT L x = L2 at *
        obtain ⟨xo, xk, xm, xl⟩ := x
        simp only at hx0 hx1 hx2 hx3 r0 r1 r2 r3 r4 HD
        go_wp2_with fail
        generalize W0.heap.size = g8 at *
        refine HD.out.mono ?_
        rintro e w4 ⟨rfl, hm⟩
        have M4 := Lib.hid (Mem.drop [TabA p L2] (r := []) hm)
        clear hm HD hx0 hx1 hx2 hx3 r0 r1 r2 r3 r4
        go_wp2_with fail
        go_roundw
        case rel => exact ⟨k + 1, by omega, by go_num, Lib.hid ⟨L2, OK2.out, SM2.out, M4.out⟩⟩
        case measure => simp [intOf]; omega
      · obtain rfl : k = n := by omega
        have HSM := Lib.hid (hsm.mono hn60)
        have HOK := Lib.hid hok
        have HLV := Lib.hid (mem_tleave (r := []) hmem hok (hsm.mono (by omega)) o)
        clear hok hsm hmem HA HNL
        go_wp2_with fail
        refine HLV.out.mono ?_
        rintro e w5 ⟨a5, c5, rfl, hm⟩
        have M5 := Lib.hid (Mem.drop [] (r := [TabA p (leaveL L o).2]) hm)
        have OK1 := Lib.hid (HOK.out.leave o)
        have SM1 := Lib.hid (HSM.out.leave o)
        have hno := leave_none OK1.out (owns_after HOK.out o)
        clear hm HLV
        generalize (leaveL L o).2 = L1 at *
        have HL1 := mem_tleave (r := []) M5.out OK1.out (SM1.out.mono (by decide)) o
        rw [hno, rise_of_nil] at HL1
        have HLV := Lib.hid HL1
        clear HL1 hno M5 HOK HSM
        go_wp2_with fail
        refine HLV.out.mono ?_
        rintro e w6 ⟨a6, c6, rfl, hm⟩
        have HOW := Lib.hid (mem_towners (r := []) (Mem.drop [] (r := [TabA p L1]) hm) (SM1.out.mono (by decide)))
        clear hm HLV
        go_wp2_with fail
        refine HOW.out.mono ?_
        rintro e w7 ⟨a7, c7, rfl, hm⟩
        have HOW2 := Lib.hid (mem_towners (r := []) (Mem.drop [] (r := [TabA p L1]) hm) (SM1.out.mono (by decide)))
        have hRn := riseOwns_len SM1.out (by decide)
        have HRS := Lib.hid (rise_strict (ownsL L1))
        have HAI := Lib.hid fun W ao co R (hR : riseI (ownsL L1) = R) (hW : Mem w [] W (RowI ao co (riseI (ownsL L1)) :: TabA p L1 :: [])) => (⟨L1, OK1.out, SM1.out, by rw [hR]; rfl, by rw [← hR]; exact Mem.swap [] (r := []) hW⟩ : AHead w p R ao co 0 W)
        clear hm HOW OK1 SM1
        generalize hR : riseI (ownsL L1) = R at *
        have HR := Lib.hid hR
        clear hR
        go_wp2_with fail
        refine HOW2.out.mono ?_
        rintro e w8 ⟨ao, co, rfl, hm⟩
        have HI2 := Lib.hid (HAI.out w8 ao co R rfl hm)
        clear hm HOW2 HAI
        go_wp2_with fail
        go_loopw [43] (fun jv wr => ∃ i : Nat, i ≤ R.length ∧ jv = .int .i64 i ∧ Hid (AHead w p R ao co i wr)) (fun jv _ => R.length - (intOf jv).toNat)
        case atStart => exact ⟨0, Nat.zero_le _, rfl, HI2⟩
        case round =>
          obtain ⟨w9, rfl⟩ : ∃ w9, w9 = wr := ⟨_, rfl⟩
          obtain ⟨i, hi, rfl, hS⟩ := hrel
          clear HI2
          obtain ⟨L2, hok, hsm, hro, hmem⟩ := hS.out
          clear hS
          by_cases hlti : i < R.length
          · obtain ⟨gk, rfl, hck⟩ := (Mem.rowAt [TabA p L2] (r := []) hmem).cellAt i (by simp [intsV]; omega)
            rw [show (intsV R)[i]'(by simp [intsV]; omega) = .int .i64 R[i] by simp [intsV]] at hck
            have HLV := Lib.hid (mem_tleave (r := [RowI (some ⟨gk, 0, none⟩) co R]) hmem hok (hsm.mono (by decide)) R[i])
            have HNI := Lib.hid (leave_not_in hok R[i])
            have hIn := riseIn_len hsm R[i]
            have HRO := Lib.hid (rise_leave hok hlti HRS.out hro)
            have OK3 := Lib.hid (hok.leave R[i])
            have SM3 := Lib.hid (hsm.leave R[i])
            clear hok hsm hro hmem
            generalize R[i] = z at *
            generalize (leaveL L2 z).2 = L3 at *
            generalize riseI (leaveL L2 z).1 = IN at *
            go_wp2_with fail
            refine HLV.out.mono ?_
            rintro e w10 ⟨a10, c10, rfl, hm⟩
            have M10 := Lib.hid hm
            clear hm HLV hck
            go_wp2_with fail
            go_loopw [52] (fun jv wr => ∃ q : Nat, q ≤ IN.length ∧ jv = .int .i64 q ∧ Hid (Mem w [] wr [RowI a10 c10 IN, TabA p L3, RowI (some ⟨gk, 0, none⟩) co R])) (fun jv _ => IN.length - (intOf jv).toNat)
            case atStart => exact ⟨0, Nat.zero_le _, rfl, M10⟩
            case round =>
              obtain ⟨w11, rfl⟩ : ∃ w11, w11 = wr := ⟨_, rfl⟩
              obtain ⟨q, hq, rfl, hS⟩ := hrel
              clear M10
              by_cases hltq : q < IN.length
              · obtain ⟨gb, rfl, hcb⟩ := (Mem.rowAt [] (r := [TabA p L3, RowI (some ⟨gk, 0, none⟩) co R]) hS.out).cellAt q (by simp [intsV]; omega)
                rw [show (intsV IN)[q]'(by simp [intsV]; omega) = .int .i64 IN[q] by simp [intsV]] at hcb
                have hne : (IN[q] == z) = false := by
                  rw [beq_eq_false_iff_ne]
                  intro e
                  exact HNI.out (by rw [← e]; exact List.getElem_mem hltq)
                have HM := hS
                clear hS
                generalize IN[q] = y at *
                go_wp2_with fail
                go_roundw
                case rel => exact ⟨q + 1, by omega, by go_num, HM⟩
                case measure => simp [intOf]; omega
              · obtain rfl : q = IN.length := by omega
                have HOW := mem_towners (Mem.drop [] (r := [TabA p L3, RowI (some ⟨gk, 0, none⟩) co R]) hS.out) (SM3.out.mono (by decide))
                rw [HRO.out, List.length_drop] at HOW
                have HW3 := Lib.hid HOW
                clear HOW hS
                go_wp2_with fail
                refine HW3.out.mono ?_
                rintro e w12 ⟨a12, c12, rfl, hm⟩
                have HFIN : Hid (AHead w p R (some ⟨gk, 0, none⟩) co (i + 1) w12) := Lib.hid ⟨L3, OK3.out, SM3.out, HRO.out, Mem.drop [] (r := [TabA p L3, RowI (some ⟨gk, 0, none⟩) co R]) hm⟩
                have hq0 : (((R.length - (i + 1) : Nat) : Int) != (R.length : Int) - (i : Int) - 1) = false := by
                  rw [bne_eq_false_iff_eq]; omega
                clear hm HW3
                go_wp2_with fail
                go_roundw
                case rel => exact ⟨i + 1, by omega, by go_num, HFIN⟩
                case measure => simp [intOf]; omega
          · obtain rfl : i = R.length := by omega
            rw [List.drop_length] at hro
            obtain rfl := owns_nil hok (rise_nil hro)
            have hm2 := Mem.drop [TabA p []] (r := []) hmem
            have HKY := Lib.hid (mem_tkeys (r := []) hm2 Sm.nil)
            clear hok hsm hro hmem hm2
            go_wp2_with fail
            refine HKY.out.mono ?_
            rintro e w13 ⟨a13, c13, rfl, hm⟩
            have HLN := Lib.hid (mem_tlines (r := []) (Mem.drop [] (r := [TabA p []]) hm) Sm.nil)
            clear hm HKY
            go_wp2_with fail
            refine HLN.out.mono ?_
            rintro e w14 ⟨b14, d14, X, rfl, -, hm⟩
            have HF := Lib.hid hm.bel
            clear hm HLN
            go_wp2_with fail
            go_ret
            exact ⟨rfl, HF.out⟩
end Go.Proofs.Ytnemgmlhcjhdhaa
