/- ShardOver walked. -/
import Derived.Test.YtmifgnibalbgjaaGreatZQ5
import Derived.Test.YtmifgnibalbgjaaGreatZN3
import Derived.Test.YtmifgnibalbgjaaGreatZO6
import Derived.Deep.Cut
namespace Go.Proofs.YtmifgnibalbgjaaGreat
open Go.RowKit Go.Sort set_option linter.unusedVariables false set_option linter.unusedSimpArgs false
def OHead (w : World) (p : Nat) (K : List ByteArray) (k : Nat) (wr : World) : Prop := ∃ S, SInv K k S ∧ NotOver S ∧ Mem w [] wr [ShA p S]
theorem over_done {S : Sh} {tx att : Int} (h : overM S tx att = true) : ∃ d, kGet tx S.dones = some d ∧ att ≤ d := by
 unfold overM at h
 cases hg : kGet tx S.dones with
 | none => rw [hg] at h; cases h
 | some d => rw [hg] at h; exact ⟨d, rfl, of_decide_eq_true h⟩
theorem over_lives {S : Sh} (hN : NotOver S) (hr : S.lives.Pairwise fun p q => ltZ p.1 q.1 = true) {tx att : Int} (h : overM S tx att = true) : ∀ q ∈ S.lives, q.1 = tx → ¬ q.2.att ≤ att := fun q hq e hle => by
 have h1 := hN q.1 q.2 (kGet_of_mem ordZ hr hq)
 obtain ⟨d, h2, h3⟩ := over_done h
 rw [e] at h1
 have h4 := over_iff.1 h1 d h2
 omega
theorem fld35 (q0 q1 : Int) (q2 : ByteArray) (q3 : Bool) (w : World) : (Instr.field 35 (.agg #[.int .i64 q0, .int .i64 q1, .string q2, .bool q3]) 0).run Tryz.prog w = .ok (.int .i64 q0) w := by kernel_rfl
set_option maxRecDepth 100000 in
set_option maxHeartbeats 32000000 in
theorem over_law (a : Option Addr) (n c : Nat) (l : List Cm) (a2 : Option Addr) (n2 c2 : Nat) (l2 : List Cm) (tx att : Int) (yes : Bool) (w : World) (hn : n ≤ maxLen) (h : CmsAt w a n l) (hn2 : n2 ≤ maxLen) (h2 : CmsAt w a2 n2 l2) (htx : i64 tx) (hat : i64 att) :
  Calls Tryz.prog 5 #[.slice a n c, .slice a2 n2 c2, .int .i64 tx, .int .i64 att, .bool yes] w (fun e w' => e = .returned (.bool true) ∧ Below w.heap.size w w') := by
 have HA := Lib.hid h
 have HA2 := Lib.hid h2
 have HFX := Lib.hid fixed_any
 have HFW := Lib.hid fun W (hb : Below w.heap.size w W) => few_any a n c l W hn (h.below hb)
 have HFW2 := Lib.hid fun W (hb : Below w.heap.size w W) => few_any a2 n2 c2 l2 W hn2 (h2.below hb)
 have HNW := Lib.hid sh_new
 have HNL := Lib.hid h.1
 have HNL2 := Lib.hid h2.1
 unfold maxLen at hn hn2
 clear h h2
 go_enter Tryz.func5, Tryz.ntmps5
 go_wp2_with fail
 refine (HFX.out w).mono ?_
 rintro e w1 ⟨rfl, hb⟩
 have HB := Lib.hid hb
 clear hb
 go_wp2_with fail
 refine (HFW.out _ HB.out).mono ?_
 rintro e w2 ⟨rfl, hb⟩
 have HB2 := Lib.hid (HB.out.trans (hb.mono HB.out.size))
 clear hb HFX HFW HB
 cases hfw : fewC l with
 | false =>
  clear hfw
  go_wp2_with fail
  go_ret
  exact ⟨rfl, HB2.out⟩
 | true =>
 have hn80 : n ≤ 80 := by rw [HNL.out]; exact fewC_len hfw
 clear hfw
 go_wp2_with fail
 refine (HFW2.out _ HB2.out).mono ?_
 rintro e w2b ⟨rfl, hb⟩
 have HB3 := Lib.hid (HB2.out.trans (hb.mono HB2.out.size))
 clear hb HFW2 HB2
 cases hfw : fewC l2 with
 | false =>
  clear hfw
  go_wp2_with fail
  go_ret
  exact ⟨rfl, HB3.out⟩
 | true =>
 have hn80b : n2 ≤ 80 := by rw [HNL2.out]; exact fewC_len hfw
 clear hfw
 obtain ⟨K, hK⟩ : ∃ K, K = l.map (·.key) ++ (l2.map (·.key) ++ [⟨#[]⟩]) := ⟨_, rfl⟩
 have HKL := Lib.hid (show K.length ≤ 900 by rw [hK]; simp only [List.length_append, List.length_map, List.length_cons, List.length_nil]; rw [← HNL.out, ← HNL2.out]; omega)
 have HKM := Lib.hid (fun (i : Nat) (hi : i < l.length) => (by rw [hK]; exact List.mem_append_left _ (List.mem_map.2 ⟨l[i], List.getElem_mem hi, rfl⟩) : l[i].key ∈ K))
 have HKE := Lib.hid (by rw [hK]; simp : (⟨#[]⟩ : ByteArray) ∈ K)
 clear hK
 go_wp2_with fail
 refine (HNW.out w2b).mono ?_
 rintro e w3 ⟨p, rfl, hm⟩
 have HI : Hid (OHead w p K 0 w3) := Lib.hid ⟨sh0, sinv0 K, notOver0, ((Mem.nil w).below HB3.out).join hm⟩
 clear hm HB3 HNW
 go_wp2_with fail
 go_loopw [35] (fun j wr => ∃ k : Nat, k ≤ n ∧ j = .int .i64 k ∧ Hid (OHead w p K k wr)) (fun j _ => n - (intOf j).toNat)
 case atStart => exact ⟨0, Nat.zero_le _, rfl, HI⟩
 case round =>
  obtain ⟨W0, rfl⟩ : ∃ W0, W0 = wr := ⟨_, rfl⟩
  obtain ⟨k, hk, rfl, hS⟩ := hrel
  clear HI
  obtain ⟨S, hsi, hno, hmem⟩ := hS.out
  clear hS
  by_cases hlt : k < n
  ·have hk2 : k < l.length := by rw [← HNL.out]; exact hlt
   obtain ⟨g, off, rfl, ⟨hx0, hx1, hx2, hx3, hx4, hx5, hx6, hx7, hx8⟩, ht, hz1, hz2⟩ := (HA.out.below hmem.bel).at hk2
   have HKK := Lib.hid (HKM.out k hk2)
   generalize l[k] = x at *
   obtain ⟨xk, xt, xa, xs, xo, xy, xv, xm, xb⟩ := x
   simp only at hx0 hx1 hx2 hx3 hx4 hx5 hx6 hx7 hx8 ht hz1 hz2 HKK
   have HSI2 := Lib.hid (hsi.step ⟨xk, xt, xa, xs, xo, xy, xv, xm, xb⟩ HKK.out)
   have HNO2 := Lib.hid (hno.step ⟨xk, xt, xa, xs, xo, xy, xv, xm, xb⟩)
   have hmb := Mem.swap [] (r := []) (hmem.block #[.int .i64 xk, .int .i64 xt, .int .i64 xa, .int .i64 xs, .int .i64 xo, .string xy, .string xv, .int .i64 xm, .bool xb] 28)
   obtain ⟨⟨⟨q0, q1, q2, q3⟩, S'⟩, hdo⟩ : ∃ pp, pp = doM S ⟨xk, xt, xa, xs, xo, xy, xv, xm, xb⟩ := ⟨_, rfl⟩
   have HDO := Lib.hid (sdo_mem hmb ⟨xk, xt, xa, xs, xo, xy, xv, xm, xb⟩ ht hz1 hz2 K k hsi (by omega) HKL.out hdo.symm)
   rw [← hdo] at HSI2 HNO2
   clear hdo hmb hsi hno hmem
   simp only [Cm.val, Rp.val] at HDO HSI2 HNO2
   go_wp2_with fail
   refine HDO.out.mono ?_
   rintro e w4 ⟨rfl, hm⟩
   have HF : Hid (OHead w p K (k + 1) w4) := Lib.hid ⟨S', HSI2.out, HNO2.out, Mem.cutEnd [ShA p S'] hm⟩
   clear hm HDO
   go_wp2_with fail
   go_roundw
   case rel => exact ⟨k + 1, by omega, by go_num, HF⟩
   case measure => simp [intOf]; omega
  ·obtain rfl : k = n := by omega
   have HSI2 := Lib.hid (hsi.step ⟨7, tx, att, 0, 0, ⟨#[]⟩, ⟨#[]⟩, 0, yes⟩ HKE.out)
   have HNO2 := Lib.hid (hno.step ⟨7, tx, att, 0, 0, ⟨#[]⟩, ⟨#[]⟩, 0, yes⟩)
   have hfo := fin_over (S := S) (c := ⟨7, tx, att, 0, 0, ⟨#[]⟩, ⟨#[]⟩, 0, yes⟩) rfl
   obtain ⟨⟨⟨q0, q1, q2, q3⟩, S9⟩, hdo⟩ : ∃ pp, pp = doM S ⟨7, tx, att, 0, 0, ⟨#[]⟩, ⟨#[]⟩, 0, yes⟩ := ⟨_, rfl⟩
   have HDO := Lib.hid (sdo_mem hmem ⟨7, tx, att, 0, 0, ⟨#[]⟩, ⟨#[]⟩, 0, yes⟩ htx (Nat.zero_le _) (Nat.zero_le _) K k hsi (by omega) HKL.out hdo.symm)
   rw [← hdo] at HSI2 HNO2 hfo
   have HFO := Lib.hid hfo
   clear hdo hsi hno hmem hfo
   simp only [Cm.val, Rp.val] at HDO HSI2 HNO2 HFO
   have hfl := fun w => fld35 q0 q1 q2 q3 w
   go_wp2_with fail
   refine HDO.out.mono ?_
   rintro e w5 ⟨rfl, hm⟩
   have M5 := Lib.hid hm
   clear hm HDO
   by_cases hq0 : q0 = 0
   ·obtain ⟨hov, hnum⟩ := HFO.out hq0
    subst hq0
    obtain ⟨d, hd1, hd2⟩ := over_done hov
    have HOV := Lib.hid hov
    have HNM := Lib.hid hnum
    have HOL := Lib.hid (over_lives HNO2.out HSI2.out.lrise hov)
    obtain ⟨DD, hDD⟩ := Mem.get [] (A := ShA p S9) (r := []) M5.out
    have HDN := Lib.hid (sh_done hDD tx htx)
    rw [hd1] at HDN
    simp only [Option.getD_some, Option.isSome_some] at HDN
    have hdd : decide (d < att) = false := decide_eq_false (by omega)
    clear hDD hov hnum hd1 HFO
    go_wp2_with fail
    refine HDN.out.mono ?_
    rintro e w6 ⟨rfl, rfl⟩
    clear HDN
    obtain ⟨DL, hDL⟩ := Mem.get [] (A := ShA p S9) (r := []) M5.out
    obtain ⟨hok1, hok2⟩ := lvs_ok HSI2.out HKL.out
    have HLV := Lib.hid (sh_lives_any hDL (by have := HSI2.out.llen; omega) hok1 hok2)
    have hlen : S9.lives.length ≤ 1000 := by have := HSI2.out.llen; omega
    clear hDL hok1 hok2
    go_wp2_with fail
    refine HLV.out.mono ?_
    rintro e w7 ⟨lb, ld, X, rfl, hX, hm⟩
    have hXl : S9.lives.length = X.length := by rw [← hX]; simp [lvE]
    have HX := Lib.hid hX
    have M7 : Hid (Mem w [] w7 ([RowA 41 12 lb S9.lives.length ld (lqFlat X)] ++ ((X.map fun p => Le.row p.2) ++ [ShA p S9]))) := Lib.hid (by
     have := M5.out.join hm
     simpa using this)
    clear hm hX HLV M5
    rw [hXl] at M7 hlen ⊢
    clear hXl
    go_wp2_with fail
    go_loopw [67] (fun jv wr => ∃ j : Nat, j ≤ X.length ∧ jv = .int .i64 (j : Nat) ∧ Hid (Below w7.heap.size w7 wr)) (fun jv _ => X.length - (intOf jv).toNat)
    case atStart => exact ⟨0, Nat.zero_le _, rfl, Lib.hid (Below.refl _ _)⟩
    case round =>
     obtain ⟨w8, rfl⟩ : ∃ w8, w8 = wr := ⟨_, rfl⟩
     obtain ⟨j, hj, rfl, hB⟩ := hrel
     by_cases hltj : j < X.length
     ·have M8 := Lib.hid (M7.out.below hB.out)
      obtain ⟨gl, hgl, hlq⟩ := lvAt_row (Mem.rowAt [] (r := (X.map fun p => Le.row p.2) ++ [ShA p S9]) M8.out) j hltj
      subst hgl
      have hXj : (X[j].1, X[j].2.lv) ∈ S9.lives := by rw [← HX.out]; exact List.mem_map.2 ⟨X[j], List.getElem_mem hltj, rfl⟩
      have hol := HOL.out _ hXj
      clear hXj
      generalize X[j] = z at *
      obtain ⟨vtx, ⟨vat, ⟨vk, vct, vca, vst, vop, vky, vvl, vmo, vys⟩, va, vn, vc, vws⟩⟩ := z
      simp only [Le.lv, lvAt] at hlq hol
      obtain ⟨y0, y1, y2, y3, y4, y5, y6, y7, y8, y9, y10, y11⟩ := hlq
      have HF := Lib.hid (bel_one hB.out (.cells #[.int .i64 vtx, .int .i64 vat, .int .i64 vk, .int .i64 vct, .int .i64 vca, .int .i64 vst, .int .i64 vop, .string vky, .string vvl, .int .i64 vmo, .bool vys, .slice va vn vc] 41))
      clear hB M8
      cases hvt : (vtx == tx) with
      | false =>
       clear hol
       go_wp2_with fail
       go_roundw
       case rel => exact ⟨j + 1, by omega, by go_num, HF⟩
       case measure => simp [intOf]; omega
      | true =>
       have hle : decide (vat ≤ att) = false := decide_eq_false (by have := hol (by simpa using hvt); omega)
       have hle2 : ¬ vat ≤ att := by have := hol (by simpa using hvt); omega
       clear hol
       go_wp2_with fail
       go_roundw
       case rel => exact ⟨j + 1, by omega, by go_num, HF⟩
       case measure => simp [intOf]; omega
     ·obtain rfl : j = X.length := by omega
      have M9 : Hid (Mem w [] w8 [ShA p S9]) := Lib.hid (Mem.offRows (M7.out.below hB.out))
      clear hB M7
      obtain ⟨DW, hDW⟩ := Mem.get [] (A := ShA p S9) (r := []) M9.out
      have HWH := Lib.hid (sh_whole hDW HSI2.out (by omega) HKL.out)
      clear hDW
      go_wp2_with fail
      refine HWH.out.mono ?_
      rintro e w9 ⟨X1, X2, X4, a1, a2, a3, a4, a5, k1, k2, k3, k4, k5, rfl, hx1, hx2, hx4, hm⟩
      have HXX := Lib.hid (And.intro hx1 (And.intro hx2 hx4))
      have m9 := (M9.out.join hm).block #[.int .i64 S9.clock, .int .i64 S9.moment, .slice a1 S9.cells.length k1, .slice a2 S9.locks.length k2, .slice a3 S9.rows.length k3, .slice a4 S9.lives.length k4, .slice a5 S9.dones.length k5] 55
      have M10 : Hid (Mem w [] (w9.alloc (.cells #[.int .i64 S9.clock, .int .i64 S9.moment, .slice a1 S9.cells.length k1, .slice a2 S9.locks.length k2, .slice a3 S9.rows.length k3, .slice a4 S9.lives.length k4, .slice a5 S9.dones.length k5] 55)) (ShA p S9 :: BlockA w9.heap.size #[.int .i64 S9.clock, .int .i64 S9.moment, .slice a1 S9.cells.length k1, .slice a2 S9.locks.length k2, .slice a3 S9.rows.length k3, .slice a4 S9.lives.length k4, .slice a5 S9.dones.length k5] 55 :: (RowA 116 2 a5 S9.dones.length k5 (egFlat S9.dones) :: wholeL S9 X1 X2 X4 a1 a2 a3 a4 k1 k2 k3 k4))) := Lib.hid (Mem.perm m9 (perm_ct fun x => by simp only [cnt_cons, cnt_append, cnt_nil]; omega))
      clear hx1 hx2 hx4 hm m9 HWH M9
      go_upto_region 23 with (fail)
      obtain ⟨w10, hw10⟩ : ∃ w10, w10 = w9.alloc (.cells #[.int .i64 S9.clock, .int .i64 S9.moment, .slice a1 S9.cells.length k1, .slice a2 S9.locks.length k2, .slice a3 S9.rows.length k3, .slice a4 S9.lives.length k4, .slice a5 S9.dones.length k5] 55) := ⟨_, rfl⟩
      rw [← hw10] at M10 ⊢
      clear hw10
      generalize w9.heap.size = b18 at *
      go_wp2_with fail
      go_loopw [86] (fun jv wr => ∃ j : Nat, j ≤ n2 ∧ jv = .int .i64 (j : Nat) ∧ Hid (Mem w [] wr (ShA p S9 :: BlockA b18 #[.int .i64 S9.clock, .int .i64 S9.moment, .slice a1 S9.cells.length k1, .slice a2 S9.locks.length k2, .slice a3 S9.rows.length k3, .slice a4 S9.lives.length k4, .slice a5 S9.dones.length k5] 55 :: (RowA 116 2 a5 S9.dones.length k5 (egFlat S9.dones) :: wholeL S9 X1 X2 X4 a1 a2 a3 a4 k1 k2 k3 k4)))) (fun jv _ => n2 - (intOf jv).toNat)
      case atStart => exact ⟨0, Nat.zero_le _, rfl, M10⟩
      case round =>
       obtain ⟨w11, rfl⟩ : ∃ w11, w11 = wr := ⟨_, rfl⟩
       obtain ⟨i, hi, rfl, hSS⟩ := hrel
       clear M10
       by_cases hlti : i < n2
       ·have hi2 : i < l2.length := by rw [← HNL2.out]; exact hlti
        obtain ⟨g2, off2, rfl, ⟨hx0, hx1, hx2, hx3, hx4, hx5, hx6, hx7, hx8⟩, -, hz1, hz2⟩ := (HA2.out.below hSS.out.bel).at hi2
        generalize l2[i] = x at *
        obtain ⟨xk, xt, xa, xs, xo, xy, xv, xm, xb⟩ := x
        simp only at hx0 hx1 hx2 hx3 hx4 hx5 hx6 hx7 hx8 hz1 hz2
        have M14 : Hid (Mem w [] (w11.alloc (.cells #[.int .i64 xk, .int .i64 tx, .int .i64 att, .int .i64 xs, .int .i64 xo, .string xy, .string xv, .int .i64 xm, .bool xb] 28)) (BlockA w11.heap.size #[.int .i64 xk, .int .i64 tx, .int .i64 att, .int .i64 xs, .int .i64 xo, .string xy, .string xv, .int .i64 xm, .bool xb] 28 :: (ShA p S9 :: BlockA b18 #[.int .i64 S9.clock, .int .i64 S9.moment, .slice a1 S9.cells.length k1, .slice a2 S9.locks.length k2, .slice a3 S9.rows.length k3, .slice a4 S9.lives.length k4, .slice a5 S9.dones.length k5] 55 :: (RowA 116 2 a5 S9.dones.length k5 (egFlat S9.dones) :: wholeL S9 X1 X2 X4 a1 a2 a3 a4 k1 k2 k3 k4)))) := Lib.hid (Mem.block hSS.out #[.int .i64 xk, .int .i64 tx, .int .i64 att, .int .i64 xs, .int .i64 xo, .string xy, .string xv, .int .i64 xm, .bool xb] 28)
        clear hSS
        go_upto_region 27 with (fail)
        obtain ⟨w14, hw14⟩ : ∃ w14, w14 = w11.alloc (.cells #[.int .i64 xk, .int .i64 tx, .int .i64 att, .int .i64 xs, .int .i64 xo, .string xy, .string xv, .int .i64 xm, .bool xb] 28) := ⟨_, rfl⟩
        rw [← hw14] at M14 ⊢
        clear hw14 hx0 hx1 hx2 hx3 hx4 hx5 hx6 hx7 hx8
        generalize w11.heap.size = b20 at *
        have hq := (Mem.get [] M14.out).choose_spec.2
        have hc0 := (cell_of_heap (i := 0) (v := .int .i64 xk) hq rfl).1
        have hc1 := (cell_of_heap (i := 1) (v := .int .i64 tx) hq rfl).1
        have hc2 := (cell_of_heap (i := 2) (v := .int .i64 att) hq rfl).1
        have hc3 := (cell_of_heap (i := 3) (v := .int .i64 xs) hq rfl).1
        have hc4 := (cell_of_heap (i := 4) (v := .int .i64 xo) hq rfl).1
        have hc5 := (cell_of_heap (i := 5) (v := .string xy) hq rfl).1
        have hc6 := (cell_of_heap (i := 6) (v := .string xv) hq rfl).1
        have hc7 := (cell_of_heap (i := 7) (v := .int .i64 xm) hq rfl).1
        have hc8 := (cell_of_heap (i := 8) (v := .bool xb) hq rfl).1
        clear hq
        by_cases hk2 : xk < 2
        ·have hkd : decide (xk < 2) = true := decide_eq_true hk2
         have HF := Lib.hid (Mem.drop [] M14.out)
         clear M14
         go_wp2_with fail
         go_roundw
         case rel => exact ⟨i + 1, by omega, by go_num, HF⟩
         case measure => simp [intOf]; omega
        ·have hkd : decide (xk < 2) = false := decide_eq_false hk2
         by_cases hk4 : 4 < xk
         ·have hkd4 : decide (4 < xk) = true := decide_eq_true hk4
          by_cases hk7 : xk = 7
          ·subst hk7
           clear hk2 hkd hk4 hkd4
           have HDO := Lib.hid (sdo_mem (Mem.swap [] M14.out) ⟨7, tx, att, xs, xo, xy, xv, xm, xb⟩ htx hz1 hz2 K (k + 1) HSI2.out (by omega) HKL.out (over_fin (c := ⟨7, tx, att, xs, xo, xy, xv, xm, xb⟩) HOV.out HNM.out rfl))
           simp only [Cm.val, Rp.val, codeR] at HDO
           clear M14
           go_wp2_with fail
           refine HDO.out.mono ?_
           rintro e w15 ⟨rfl, hm⟩
           have M15 := Lib.hid (hm.block #[.int .i64 0, .int .i64 0, .string ⟨#[]⟩, .bool false] 35)
           have HF := Lib.hid (Mem.drop [ShA p S9] (A := BlockA b20 #[.int .i64 7, .int .i64 tx, .int .i64 att, .int .i64 xs, .int .i64 xo, .string xy, .string xv, .int .i64 xm, .bool xb] 28) (r := BlockA b18 #[.int .i64 S9.clock, .int .i64 S9.moment, .slice a1 S9.cells.length k1, .slice a2 S9.locks.length k2, .slice a3 S9.rows.length k3, .slice a4 S9.lives.length k4, .slice a5 S9.dones.length k5] 55 :: (RowA 116 2 a5 S9.dones.length k5 (egFlat S9.dones) :: wholeL S9 X1 X2 X4 a1 a2 a3 a4 k1 k2 k3 k4)) (hm.below (bel_new w15 (.cells #[.int .i64 0, .int .i64 0, .string ⟨#[]⟩, .bool false] 35))))
           clear hm HDO hc0 hc1 hc2 hc3 hc4 hc5 hc6 hc7 hc8
           go_upto_region 29 with (fail)
           obtain ⟨w16, hw16⟩ : ∃ w16, w16 = w15.alloc (.cells #[.int .i64 0, .int .i64 0, .string ⟨#[]⟩, .bool false] 35) := ⟨_, rfl⟩
           rw [← hw16] at M15 HF ⊢
           clear hw16
           generalize w15.heap.size = b21 at *
           have hq1 := (Mem.get [] M15.out).choose_spec.2
           have hr0 := (cell_of_heap (i := 0) (v := .int .i64 0) hq1 rfl).1
           have hq2 := Mem.blk M15.out (g := b20) (cur := #[.int .i64 7, .int .i64 tx, .int .i64 att, .int .i64 xs, .int .i64 xo, .string xy, .string xv, .int .i64 xm, .bool xb]) (T := 28) (by simp)
           have hk0 := (cell_of_heap (i := 0) (v := .int .i64 7) hq2 rfl).1
           clear hq1 hq2 M15
           go_wp2_with fail
           go_roundw
           case rel => exact ⟨i + 1, by omega, by go_num, HF⟩
           case measure => simp [intOf]; omega
          ·have hk7d : (xk != 7) = true := by simpa using hk7
           have HF := Lib.hid (Mem.drop [] M14.out)
           clear M14
           go_wp2_with fail
           go_roundw
           case rel => exact ⟨i + 1, by omega, by go_num, HF⟩
           case measure => simp [intOf]; omega
         ·have hkd4 : decide (4 < xk) = false := decide_eq_false hk4
          obtain ⟨hs1, hs2⟩ := over_stays (S := S9) (c := ⟨xk, tx, att, xs, xo, xy, xv, xm, xb⟩) HOV.out (by simp only; omega)
          obtain ⟨⟨⟨r0, r1, r2, r3⟩, S8⟩, hdo⟩ : ∃ pp, pp = doM S9 ⟨xk, tx, att, xs, xo, xy, xv, xm, xb⟩ := ⟨_, rfl⟩
          rw [← hdo] at hs1 hs2
          simp only at hs1 hs2
          have hs1 := hs1.symm
          subst hs1
          have hk7 : (xk == 7) = false := by simp; omega
          have hk7n : (xk != 7) = true := by simp; omega
          rcases hs2 with rfl | rfl
          ·clear hk2
           have HDO := Lib.hid (sdo_mem (Mem.swap [] M14.out) ⟨xk, tx, att, xs, xo, xy, xv, xm, xb⟩ htx hz1 hz2 K (k + 1) HSI2.out (by omega) HKL.out hdo.symm)
           simp only [Cm.val, Rp.val] at HDO
           clear M14
           go_wp2_with fail
           refine HDO.out.mono ?_
           rintro e w15 ⟨rfl, hm⟩
           have M15 := Lib.hid (hm.block #[.int .i64 1, .int .i64 r1, .string r2, .bool r3] 35)
           have HF := Lib.hid (Mem.drop [ShA p S9] (A := BlockA b20 #[.int .i64 xk, .int .i64 tx, .int .i64 att, .int .i64 xs, .int .i64 xo, .string xy, .string xv, .int .i64 xm, .bool xb] 28) (r := BlockA b18 #[.int .i64 S9.clock, .int .i64 S9.moment, .slice a1 S9.cells.length k1, .slice a2 S9.locks.length k2, .slice a3 S9.rows.length k3, .slice a4 S9.lives.length k4, .slice a5 S9.dones.length k5] 55 :: (RowA 116 2 a5 S9.dones.length k5 (egFlat S9.dones) :: wholeL S9 X1 X2 X4 a1 a2 a3 a4 k1 k2 k3 k4)) (hm.below (bel_new w15 (.cells #[.int .i64 1, .int .i64 r1, .string r2, .bool r3] 35))))
           clear hm HDO hc0 hc1 hc2 hc3 hc4 hc5 hc6 hc7 hc8
           go_upto_region 29 with (fail)
           obtain ⟨w16, hw16⟩ : ∃ w16, w16 = w15.alloc (.cells #[.int .i64 1, .int .i64 r1, .string r2, .bool r3] 35) := ⟨_, rfl⟩
           rw [← hw16] at M15 HF ⊢
           clear hw16
           generalize w15.heap.size = b21 at *
           have hq1 := (Mem.get [] M15.out).choose_spec.2
           have hr0 := (cell_of_heap (i := 0) (v := .int .i64 1) hq1 rfl).1
           have hq2 := Mem.blk M15.out (g := b20) (cur := #[.int .i64 xk, .int .i64 tx, .int .i64 att, .int .i64 xs, .int .i64 xo, .string xy, .string xv, .int .i64 xm, .bool xb]) (T := 28) (by simp)
           have hk0 := (cell_of_heap (i := 0) (v := .int .i64 xk) hq2 rfl).1
           clear hq1 hq2 M15
           go_wp2_with fail
           go_roundw
           case rel => exact ⟨i + 1, by omega, by go_num, HF⟩
           case measure => simp [intOf]; omega
          ·clear hk2
           have HDO := Lib.hid (sdo_mem (Mem.swap [] M14.out) ⟨xk, tx, att, xs, xo, xy, xv, xm, xb⟩ htx hz1 hz2 K (k + 1) HSI2.out (by omega) HKL.out hdo.symm)
           simp only [Cm.val, Rp.val] at HDO
           clear M14
           go_wp2_with fail
           refine HDO.out.mono ?_
           rintro e w15 ⟨rfl, hm⟩
           have M15 := Lib.hid (hm.block #[.int .i64 9, .int .i64 r1, .string r2, .bool r3] 35)
           have HF := Lib.hid (Mem.drop [ShA p S9] (A := BlockA b20 #[.int .i64 xk, .int .i64 tx, .int .i64 att, .int .i64 xs, .int .i64 xo, .string xy, .string xv, .int .i64 xm, .bool xb] 28) (r := BlockA b18 #[.int .i64 S9.clock, .int .i64 S9.moment, .slice a1 S9.cells.length k1, .slice a2 S9.locks.length k2, .slice a3 S9.rows.length k3, .slice a4 S9.lives.length k4, .slice a5 S9.dones.length k5] 55 :: (RowA 116 2 a5 S9.dones.length k5 (egFlat S9.dones) :: wholeL S9 X1 X2 X4 a1 a2 a3 a4 k1 k2 k3 k4)) (hm.below (bel_new w15 (.cells #[.int .i64 9, .int .i64 r1, .string r2, .bool r3] 35))))
           clear hm HDO hc0 hc1 hc2 hc3 hc4 hc5 hc6 hc7 hc8
           go_upto_region 29 with (fail)
           obtain ⟨w16, hw16⟩ : ∃ w16, w16 = w15.alloc (.cells #[.int .i64 9, .int .i64 r1, .string r2, .bool r3] 35) := ⟨_, rfl⟩
           rw [← hw16] at M15 HF ⊢
           clear hw16
           generalize w15.heap.size = b21 at *
           have hq1 := (Mem.get [] M15.out).choose_spec.2
           have hr0 := (cell_of_heap (i := 0) (v := .int .i64 9) hq1 rfl).1
           have hq2 := Mem.blk M15.out (g := b20) (cur := #[.int .i64 xk, .int .i64 tx, .int .i64 att, .int .i64 xs, .int .i64 xo, .string xy, .string xv, .int .i64 xm, .bool xb]) (T := 28) (by simp)
           have hk0 := (cell_of_heap (i := 0) (v := .int .i64 xk) hq2 rfl).1
           clear hq1 hq2 M15
           go_wp2_with fail
           go_roundw
           case rel => exact ⟨i + 1, by omega, by go_num, HF⟩
           case measure => simp [intOf]; omega
       ·obtain rfl : i = n2 := by omega
        have hm := hSS.out
        clear hSS
        have m20 : Mem w [] w11 (RowA 116 2 a5 S9.dones.length k5 (egFlat S9.dones) :: wholeL S9 X1 X2 X4 a1 a2 a3 a4 k1 k2 k3 k4) := Mem.cutEnd (RowA 116 2 a5 S9.dones.length k5 (egFlat S9.dones) :: wholeL S9 X1 X2 X4 a1 a2 a3 a4 k1 k2 k3 k4) (r := [ShA p S9, BlockA b18 #[.int .i64 S9.clock, .int .i64 S9.moment, .slice a1 S9.cells.length k1, .slice a2 S9.locks.length k2, .slice a3 S9.rows.length k3, .slice a4 S9.lives.length k4, .slice a5 S9.dones.length k5] 55]) (Mem.perm hm (perm_ct fun x => by simp only [cnt_cons, cnt_append, cnt_nil]; omega))
        have hwp : WholeP w S9 (.returned (.agg #[.int .i64 S9.clock, .int .i64 S9.moment, .slice a1 S9.cells.length k1, .slice a2 S9.locks.length k2, .slice a3 S9.rows.length k3, .slice a4 S9.lives.length k4, .slice a5 S9.dones.length k5])) w11 := ⟨X1, X2, X4, a1, a2, a3, a4, a5, k1, k2, k3, k4, k5, rfl, HXX.out.1, HXX.out.2.1, HXX.out.2.2, m20⟩
        obtain ⟨⟨v, hv, hwh⟩, -⟩ := WholeP.at hwp
        simp only [Ending.returned.injEq] at hv
        subst hv
        obtain ⟨w20, rfl⟩ : ∃ w20, w20 = w11 := ⟨_, rfl⟩
        have HWO := Lib.hid (hwh.below (bel_drew w20))
        have HS9 := HSI2
        have hmd := hm.below (bel_drew w20)
        obtain ⟨DW, hDW⟩ := Mem.get [] (A := ShA p S9) hmd
        have HWH := Lib.hid (sh_whole hDW HSI2.out (by omega) HKL.out)
        have HBE := Lib.hid hmd.bel
        have hq := Mem.blk hmd (g := b18) (cur := #[.int .i64 S9.clock, .int .i64 S9.moment, .slice a1 S9.cells.length k1, .slice a2 S9.locks.length k2, .slice a3 S9.rows.length k3, .slice a4 S9.lives.length k4, .slice a5 S9.dones.length k5]) (T := 55) (by simp)
        have hS0 : w20.drew.cell? ⟨b18, 0, none⟩ = some (.int .i64 S9.clock) ∧ w20.drew.cell? ⟨b18, 1, none⟩ = some (.int .i64 S9.moment) ∧ w20.drew.cell? ⟨b18, 2, none⟩ = some (.slice a1 S9.cells.length k1) ∧ w20.drew.cell? ⟨b18, 3, none⟩ = some (.slice a2 S9.locks.length k2) ∧ w20.drew.cell? ⟨b18, 4, none⟩ = some (.slice a3 S9.rows.length k3) ∧ w20.drew.cell? ⟨b18, 5, none⟩ = some (.slice a4 S9.lives.length k4) ∧ w20.drew.cell? ⟨b18, 6, none⟩ = some (.slice a5 S9.dones.length k5) := ⟨(cell_of_heap (i := 0) (v := .int .i64 S9.clock) hq rfl).1, (cell_of_heap (i := 1) (v := .int .i64 S9.moment) hq rfl).1, (cell_of_heap (i := 2) (v := .slice a1 S9.cells.length k1) hq rfl).1, (cell_of_heap (i := 3) (v := .slice a2 S9.locks.length k2) hq rfl).1, (cell_of_heap (i := 4) (v := .slice a3 S9.rows.length k3) hq rfl).1, (cell_of_heap (i := 5) (v := .slice a4 S9.lives.length k4) hq rfl).1, (cell_of_heap (i := 6) (v := .slice a5 S9.dones.length k5) hq rfl).1⟩
        have HS32 := Lib.hid (fun W (hb : Below w20.drew.heap.size w20.drew W) => by
         have hq := Mem.blk (hmd.below hb) (g := b18) (cur := #[.int .i64 S9.clock, .int .i64 S9.moment, .slice a1 S9.cells.length k1, .slice a2 S9.locks.length k2, .slice a3 S9.rows.length k3, .slice a4 S9.lives.length k4, .slice a5 S9.dones.length k5]) (T := 55) (by simp)
         exact ⟨(cell_of_heap (i := 0) (v := .int .i64 S9.clock) hq rfl).1, (cell_of_heap (i := 1) (v := .int .i64 S9.moment) hq rfl).1, (cell_of_heap (i := 2) (v := .slice a1 S9.cells.length k1) hq rfl).1, (cell_of_heap (i := 3) (v := .slice a2 S9.locks.length k2) hq rfl).1, (cell_of_heap (i := 4) (v := .slice a3 S9.rows.length k3) hq rfl).1, (cell_of_heap (i := 5) (v := .slice a4 S9.lives.length k4) hq rfl).1, (cell_of_heap (i := 6) (v := .slice a5 S9.dones.length k5) hq rfl).1⟩ : ∀ W, Below w20.drew.heap.size w20.drew W → W.cell? ⟨b18, 0, none⟩ = some (.int .i64 S9.clock) ∧ W.cell? ⟨b18, 1, none⟩ = some (.int .i64 S9.moment) ∧ W.cell? ⟨b18, 2, none⟩ = some (.slice a1 S9.cells.length k1) ∧ W.cell? ⟨b18, 3, none⟩ = some (.slice a2 S9.locks.length k2) ∧ W.cell? ⟨b18, 4, none⟩ = some (.slice a3 S9.rows.length k3) ∧ W.cell? ⟨b18, 5, none⟩ = some (.slice a4 S9.lives.length k4) ∧ W.cell? ⟨b18, 6, none⟩ = some (.slice a5 S9.dones.length k5))
        clear hm m20 hwp hwh hDW hq hmd
        go_wp2_with fail
        refine wp_region_till (fun W => W.cell? ⟨b18, 0, none⟩ = some (.int .i64 S9.clock) ∧ W.cell? ⟨b18, 1, none⟩ = some (.int .i64 S9.moment) ∧ W.cell? ⟨b18, 2, none⟩ = some (.slice a1 S9.cells.length k1) ∧ W.cell? ⟨b18, 3, none⟩ = some (.slice a2 S9.locks.length k2) ∧ W.cell? ⟨b18, 4, none⟩ = some (.slice a3 S9.rows.length k3) ∧ W.cell? ⟨b18, 5, none⟩ = some (.slice a4 S9.lives.length k4) ∧ W.cell? ⟨b18, 6, none⟩ = some (.slice a5 S9.dones.length k5)) 4 (by kernel_rfl) (hS0) (fun hM hS => ?_)
        generalize w20.drew = w25 at *
        refine till_op (v := ?_) 0 [] hM rfl (by kernel_rfl) (by kernel_rfl) (by kernel_rfl) (by kernel_rfl) rfl (fun _ _ _ h => h) (Or.inl ⟨by rfl, ?_⟩) hS (fun hM => ?_)
        rotate_left
        ·intro W hSw
         (try dsimp only at hSw)
         go_simp
         try with_reducible rfl
        try simp only [Act.put, List.setIfInBounds_toArray, List.set_cons_zero, List.set_cons_succ]
        refine till_op (v := ?_) 1 [] hM rfl (by kernel_rfl) (by kernel_rfl) (by kernel_rfl) (by kernel_rfl) rfl (fun _ _ _ h => h) (Or.inl ⟨by rfl, ?_⟩) hS (fun hM => ?_)
        rotate_left
        ·intro W hSw
         (try dsimp only at hSw)
         go_simp
         try with_reducible rfl
        try simp only [Act.put, List.setIfInBounds_toArray, List.set_cons_zero, List.set_cons_succ]
        refine till_one 2 hM rfl (by kernel_rfl) (fun K hK => ?_)
        go_simp
        go_at_call 19
        refine HWH.out.mono ?_
        rintro e w21 hwp
        obtain ⟨⟨u, rfl, hu⟩, hbu⟩ := WholeP.at hwp
        have hS21 := HS32.out _ hbu
        have hsm := same_whole _ u S9 w21 (HWO.out.below hbu) hu HS9.out (by omega) HKL.out
        refine hK _ _ (fun _ => hS21) (fun hM => ?_)
        have hS := hS21
        clear hK K
        try simp only [Act.put, List.setIfInBounds_toArray, List.set_cons_zero, List.set_cons_succ]
        refine till_one 3 hM rfl (by kernel_rfl) (fun K hK => ?_)
        go_simp
        go_at_call 20
        refine hsm.mono ?_
        rintro e w22 ⟨rfl, hbv⟩
        have hS22 := HS32.out _ (hbu.trans (hbv.mono hbu.size))
        have HBF := Lib.hid (HBE.out.trans ((hbu.trans (hbv.mono hbu.size)).mono HBE.out.size))
        refine hK _ _ (fun _ => hS22) (fun hM => ?_)
        have hS := hS22
        clear hK K
        try simp only [Act.put, List.setIfInBounds_toArray, List.set_cons_zero, List.set_cons_succ]
        refine till_one 4 hM rfl (by kernel_rfl) (fun K hK => ?_)
        go_simp
        refine hK _ _ (fun h => absurd rfl h) (fun hM => ?_)
        clear hK K
        try simp only [Act.put, List.setIfInBounds_toArray, List.set_cons_zero, List.set_cons_succ]
        refine till_done (by kernel_rfl) ?_ _
        go_wp2_with fail
        go_ret
        exact ⟨rfl, HBF.out⟩
   ·have hq0b : (q0 != 0) = true := by simpa using hq0
    have HBE := Lib.hid M5.out.bel
    clear HFO M5 hq0
    go_wp2_with fail
    go_ret
    exact ⟨rfl, HBE.out⟩
end Go.Proofs.YtmifgnibalbgjaaGreat
