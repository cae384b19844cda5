/- The document's Text and Number. -/
import Derived.Test.YtmifgnibalbgjaaDoorBB
import Derived.Deep.CutBlock
import Derived.Laws.IdiomStrings
import Derived.Laws.Concat
namespace Go.Proofs.YtmifgnibalbgjaaDoor
open Go.RowKit
open Go.Lib (decDigits itoa decFrom digitVal parseUint10 parseMag atoiAll nDigits)
def oneB (x : Int) : ByteArray := ⟨#[UInt8.ofNat x.toNat]⟩
theorem dig_conv (W : World) (x : Int) (h0 : 0 ≤ x) (h1 : x ≤ 255) : (convert 87 9 (.slice (some ⟨W.heap.size, 0, none⟩) 1 1)).run Tryd.prog (W.alloc (.cells #[.int .u8 x] 5)) = .ok (.string (oneB x)) (W.alloc (.cells #[.int .u8 x] 5)) := by
  have hh := heap_new W (.cells #[.int .u8 x] 5)
  refine run_convert_bytes_back (P := Tryd.prog) _ 87 9 5 ⟨W.heap.size, 0, none⟩ 1 [UInt8.ofNat x.toNat] Tryd.underlying87 Tryd.underlying5 Tryd.underlying9 fun j hj => ?_
  match j, hj with
  | 0, _ =>
    have h2 := (cell_of_heap (i := 0) hh rfl).1
    have e : ((UInt8.ofNat x.toNat).toNat : Int) = x := by
      rw [UInt8.toNat_ofNat']; omega
    show (W.alloc _).cell? ⟨W.heap.size, 0 + 0, none⟩ = some (.int .u8 ((UInt8.ofNat x.toNat).toNat : Int))
    rw [e]; exact h2
theorem nDig20 (u : Nat) (h : u < 18446744073709551616) : nDigits u ≤ 20 := by
  rcases Nat.eq_zero_or_pos u with rfl | h1
  · rw [Lib.nDigits_small (by omega)]; omega
  · have := Lib.numDigits_eq u h1 h
    split at this <;> omega
theorem txt_more {u0 u : Nat} {s : ByteArray} (h : decDigits u ++ s.data.toList = decDigits u0) (h10 : ¬ u < 10) : decDigits (u / 10) ++ (oneB (48 + (u : Int) % 10) ++ s).data.toList = decDigits u0 := by
  rw [decDigits, dif_neg h10] at h
  rw [← h, List.append_assoc]
  congr 1
theorem txt_end {u0 u : Nat} {s : ByteArray} (h : decDigits u ++ s.data.toList = decDigits u0) (h10 : u < 10) : oneB (48 + (u : Int) % 10) ++ s = itoaS (u0 : Nat) := by
  rw [Lib.decDigits_one h10] at h
  unfold itoaS oneB
  rw [Lib.itoa_nonneg, ← h, show (48 + (u : Int) % 10).toNat = 48 + u by omega]
  apply ByteArray.ext
  simp
set_option maxRecDepth 100000 in
set_option maxHeartbeats 4000000 in
theorem rtext_nn (n : Nat) (w : World) (h1 : n ≤ 4611686018427387904) :
    Calls Tryd.prog 49 #[.int .i64 (n : Nat)] w fun e w' => e = .returned (.string (itoaS (n : Nat))) ∧ Below w.heap.size w w' := by
  have HC := Lib.hid fun W x h0 h1 => dig_conv W x h0 h1
  have hlt0 : decide ((n : Int) < 0) = false := by simp
  have HN : Hid (nDigits n ≤ 20) := Lib.hid (nDig20 n (by omega))
  go_enter Tryd.func49, Tryd.ntmps49
  go_wp2_with fail
  go_loopw [0, 3] (fun nv sv wr => ∃ (u : Nat) (s : ByteArray), nv = .int .i64 (u : Nat) ∧ sv = .string s ∧ u ≤ 4611686018427387904 ∧ Hid (decDigits u ++ s.data.toList = decDigits n ∧ Below w.heap.size w wr)) (fun nv _ _ => (intOf nv).toNat)
  case atStart => exact ⟨n, ⟨#[]⟩, rfl, rfl, h1, Lib.hid ⟨by simp, Below.refl _ _⟩⟩
  case round =>
    obtain ⟨u, s, rfl, rfl, hu, HS⟩ := hrel
    have hss : s.size ≤ 20 := by
      have h := congrArg List.length HS.out.1
      rw [List.length_append, Lib.decDigits_length n] at h
      have h2 := HN.out
      have e2 : s.data.toList.length = s.size := Array.length_toList
      omega
    have hm0 : 0 ≤ (u : Int) % 10 ∧ (u : Int) % 10 < 10 := by omega
    have hconv := HC.out wr (48 + (u : Int) % 10) (by omega) (by omega)
    have hadd : ∀ W, (Op.stringOp .add (oneB (48 + (u : Int) % 10)) s).run Tryd.prog W = .ok (.string (oneB (48 + (u : Int) % 10) ++ s)) W := fun W => run_string_add_sum W _ _ (by
      have e : (oneB (48 + (u : Int) % 10)).size = 1 := rfl
      omega)
    have hb := Lib.hid (HS.out.2.trans ((bel_new wr (.cells #[.int .u8 (48 + (u : Int) % 10)] 5)).mono HS.out.2.size))
    by_cases h10 : u < 10
    · have hz : ((u : Int) / 10 == 0) = true := by simp; omega
      have HE : Hid (oneB (48 + (u : Int) % 10) ++ s = itoaS (n : Nat)) := Lib.hid (txt_end HS.out.1 h10)
      clear HS h10 hss
      go_wp2_with fail
      go_ret
      exact ⟨by first | rfl | (rw [HE.out]; rfl), hb.out⟩
    · have hz : ((u : Int) / 10 == 0) = false := by simp; omega
      have HE : Hid (decDigits (u / 10) ++ (oneB (48 + (u : Int) % 10) ++ s).data.toList = decDigits n) := Lib.hid (txt_more HS.out.1 h10)
      clear HS hss
      go_wp2_with fail
      go_roundw
      case rel => exact ⟨u / 10, oneB (48 + (u : Int) % 10) ++ s, by go_num, rfl, by omega, Lib.hid ⟨HE.out, hb.out⟩⟩
      case measure => simp [intOf]; omega
set_option maxRecDepth 100000 in
set_option maxHeartbeats 4000000 in
theorem rtext_any (n : Int) (w : World) (h0 : -4611686018427387904 ≤ n) (h1 : n ≤ 4611686018427387904) :
    Calls Tryd.prog 49 #[.int .i64 n] w fun e w' => e = .returned (.string (itoaS n)) ∧ Below w.heap.size w w' := by
  by_cases hn : n < 0
  · obtain ⟨u, hu⟩ : ∃ u : Nat, (u : Int) = -n := ⟨n.natAbs, by omega⟩
    have H1 := Lib.hid (rtext_nn u w (by omega))
    rw [hu] at H1
    have hw := IntWalk.i64_in (-n) (by omega)
    have hlt : decide (n < 0) = true := decide_eq_true hn
    have hsz : (itoaS (-n)).size ≤ 20 := by
      have h := Lib.decDigits_length u
      have e : (itoaS (-n)).size = (Lib.itoa (-n)).length := by unfold itoaS; rfl
      rw [e, ← hu, Lib.itoa_nonneg, h]
      exact nDig20 u (by omega)
    have hadd : ∀ W, (Op.stringOp .add ⟨#[45]⟩ (itoaS (-n))).run Tryd.prog W = .ok (.string (itoaS n)) W := fun W => by
      rw [run_string_add_sum W _ _ (by
        have e : (⟨#[45]⟩ : ByteArray).size = 1 := rfl
        omega)]
      have e : (⟨#[45]⟩ : ByteArray) ++ itoaS (-n) = itoaS n := by
        unfold itoaS
        rw [← hu, Lib.itoa_nonneg, show n = -(u : Int) by omega, Lib.itoa_neg u (by omega)]
        apply ByteArray.ext
        simp
      rw [e]
    clear hn h0 h1 hsz hu
    generalize itoaS (-n) = su at *
    generalize itoaS n = sn at *
    go_enter Tryd.func49, Tryd.ntmps49
    go_wp2_with fail
    refine H1.out.mono ?_
    rintro e w1 ⟨rfl, hb⟩
    have HB := Lib.hid hb
    clear hb H1
    go_wp2_with fail
    go_ret
    exact ⟨rfl, HB.out⟩
  · obtain ⟨u, rfl⟩ : ∃ u : Nat, n = (u : Int) := ⟨n.toNat, by omega⟩
    exact rtext_nn u w (by omega)
theorem neg_parts (s : ByteArray) (h : 0 < s.size) (hc : s[0].toNat = 45) : magL s = (s.extract 1 s.size).data.toList ∧ negL s = true ∧ (s.extract 1 s.size).size + 1 = s.size := by
  obtain ⟨⟨l⟩⟩ := s
  cases l with
  | nil => exact absurd h (by decide)
  | cons c r =>
    have hc2 : c = 45 := by
      have : c.toNat = 45 := hc
      exact UInt8.toNat_inj.1 this
    subst hc2
    refine ⟨?_, rfl, ?_⟩
    · simp [magL, ByteArray.size]
    · simp [ByteArray.size]
theorem pos_parts (s : ByteArray) (h : 0 < s.size) (hc : s[0].toNat ≠ 45) : magL s = s.data.toList ∧ negL s = false := by
  obtain ⟨⟨l⟩⟩ := s
  cases l with
  | nil => exact absurd h (by decide)
  | cons c r =>
    have hc2 : c ≠ 45 := fun e => hc (by
      show c.toNat = 45
      rw [e]; rfl)
    exact ⟨by simp [magL, hc2], by simp [negL, hc2]⟩
set_option maxRecDepth 100000 in
set_option maxHeartbeats 4000000 in
theorem rnumber_any (s : ByteArray) (w : World) (hs : s.size ≤ 140737488355328) :
    Calls Tryd.prog 48 #[.string s] w fun e w' => e = .returned (.int .i64 (refNum s)) ∧ Below w.heap.size w w' := by
  have HT := Lib.hid fun n (h0 : -4611686018427387904 ≤ n) (h1 : n ≤ 4611686018427387904) W => rtext_any n W h0 h1
  obtain ⟨R, hR⟩ : ∃ R, R = refNum s := ⟨_, rfl⟩
  rw [← hR]
  have HR := Lib.hid hR
  clear hR
  by_cases h0 : s.size = 0
  · have hE : refNum s = 0 := by
      unfold refNum
      obtain ⟨⟨l⟩⟩ := s
      cases l with
      | nil => rfl
      | cons c r => simp [ByteArray.size] at h0
    have hb0 : decide ((0 : Int) < (s.size : Nat)) = false := decide_eq_false (by omega)
    have hb1 : (((s.size : Nat) : Int) == 0) = true := by simp [h0]
    have HE := Lib.hid (HR.out.trans hE)
    clear h0 hE
    go_enter Tryd.func48, Tryd.ntmps48
    go_wp2_with fail
    go_ret
    exact ⟨by rw [HE.out]; rfl, Below.refl _ _⟩
  · have hb0 : decide ((0 : Int) < (s.size : Nat)) = true := decide_eq_true (by omega)
    have hp : 0 < s.size := by omega
    go_enter Tryd.func48, Tryd.ntmps48
    go_upto_if 14 with (fail)
    go_cut [3] from 15 to 16 (fun v wx => ∃ T : ByteArray, v = .string T ∧ wx = w ∧ Hid (magL s = T.data.toList) ∧ T.size ≤ s.size ∧ decide (T.size < s.size) = negL s)
    case first =>
      by_cases hc : s[0].toNat = 45
      · have hc1 : (((s[0].toNat : Nat) : Int) == 45) = true := by simp [hc]
        obtain ⟨p1, p2, p3⟩ := neg_parts s hp hc
        go_wp2_with fail
        go_meet
        case rel => exact ⟨s.extract 1 s.size, rfl, rfl, Lib.hid p1, by omega, by rw [p2]; exact decide_eq_true (by omega)⟩
      · have hc1 : (((s[0].toNat : Nat) : Int) == 45) = false := by rw [beq_eq_false_iff_ne]; omega
        obtain ⟨p1, p2⟩ := pos_parts s hp hc
        go_wp2_with fail
        go_meet
        case rel => exact ⟨s, rfl, rfl, Lib.hid p1, Nat.le_refl _, by rw [p2]; exact decide_eq_false (by omega)⟩
    case rest =>
      obtain ⟨T, rfl, rfl, HM, hTs, hTn⟩ := hcut
      have hTl : T.data.toList.length = T.size := Array.length_toList
      clear hb0 h0
      by_cases h1 : T.size = 0
      · have hE : refNum s = 0 := by unfold refNum; rw [if_pos (.inl (by rw [HM.out]; omega))]
        have b1 : (((T.size : Nat) : Int) == 0) = true := by rw [h1]; rfl
        have HE := Lib.hid (HR.out.trans hE)
        clear hE HM hTs hTn hTl h1
        go_wp2_with fail
        go_ret
        exact ⟨by rw [HE.out]; rfl, Below.refl _ _⟩
      · have b1 : (((T.size : Nat) : Int) == 0) = false := by rw [beq_eq_false_iff_ne]; omega
        by_cases h16 : 16 < T.size
        · have hE : refNum s = 0 := by unfold refNum; rw [if_pos (.inr (by rw [HM.out]; omega))]
          have b2 : decide ((16 : Int) < (T.size : Nat)) = true := decide_eq_true (by omega)
          have HE := Lib.hid (HR.out.trans hE)
          clear hE HM hTs hTn hTl h1 h16
          go_wp2_with fail
          go_ret
          exact ⟨by rw [HE.out]; rfl, Below.refl _ _⟩
        · have b2 : decide ((16 : Int) < (T.size : Nat)) = false := decide_eq_false (by omega)
          have HE : Hid (R = match decFrom 0 T.data.toList with
            | none => 0
            | some n => if clampN (sgnN (negL s) n) = sgnN (negL s) n ∧ itoaS (sgnN (negL s) n) = s then sgnN (negL s) n else 0) := Lib.hid (by
            rw [HR.out]
            unfold refNum
            rw [HM.out, if_neg (by omega)]
            rfl)
          clear HM
          have HTL := Lib.hid hTl
          clear hTl
          go_wp2_with fail
          go_loopw [4, 5] (fun nv iv wr => ∃ (n i : Nat), nv = .int .i64 (n : Nat) ∧ iv = .int .i64 (i : Nat) ∧ i ≤ T.size ∧ n < 10000000000000000 ∧ wr = wc ∧ Hid (decFrom 0 (T.data.toList.take i) = some n)) (fun _ iv _ => T.size - (intOf iv).toNat)
          case atStart => exact ⟨0, 0, rfl, rfl, Nat.zero_le _, by decide, rfl, Lib.hid rfl⟩
          case round =>
            obtain ⟨n, i, rfl, rfl, hi, hn, rfl, HD⟩ := hrel
            by_cases hlt : i < T.size
            · have hilt : i < T.data.toList.length := by rw [HTL.out]; exact hlt
              have hget : T.data.toList[i]? = some T[i] := by rw [List.getElem?_eq_getElem hilt]; rfl
              by_cases hd : 48 ≤ T[i].toNat ∧ T[i].toNat ≤ 57
              · have hD2 := Lib.decFrom_take T.data.toList i 0 n T[i] (T[i].toNat - 48) HD.out hget (by unfold digitVal; rw [if_pos hd])
                have hb2 : n * 10 + (T[i].toNat - 48) < 10000000000000000 := by
                  have h1 := Lib.decFrom_lt _ _ _ hD2
                  have h2 : (T.data.toList.take (i + 1)).length ≤ 16 := by rw [List.length_take, HTL.out]; omega
                  have h3 : 10 ^ (T.data.toList.take (i + 1)).length ≤ 10 ^ 16 := Nat.pow_le_pow_right (by decide) h2
                  have e : (10 : Nat) ^ 16 = 10000000000000000 := by decide
                  omega
                have HD2 := Lib.hid hD2
                clear hD2 HD HE hget
                go_wp2_with fail
                go_roundw
                case rel => exact ⟨n * 10 + (T[i].toNat - 48), i + 1, by go_num, by go_num, by omega, hb2, trivial, HD2⟩
                case measure => simp [intOf]; omega
              · have hE : R = 0 := by
                  rw [HE.out]
                  cases hx : decFrom 0 T.data.toList with
                  | none => rfl
                  | some m =>
                    obtain ⟨d, hdv⟩ := Lib.digit_of_decFrom _ _ _ hx i _ hget
                    obtain ⟨a1, a2, -⟩ := Lib.digitVal_eq hdv
                    exact absurd ⟨a1, a2⟩ hd
                have HE2 := Lib.hid hE
                clear hE HE HD hget
                by_cases hd1 : T[i].toNat < 48
                · have e1 : decide (((T[i].toNat : Nat) : Int) < 48) = true := decide_eq_true (by omega)
                  clear hd
                  go_wp2_with fail
                  go_ret
                  exact ⟨by rw [HE2.out]; rfl, Below.refl _ _⟩
                · have e1 : decide (((T[i].toNat : Nat) : Int) < 48) = false := decide_eq_false (by omega)
                  have e2 : decide ((57 : Int) < ((T[i].toNat : Nat) : Int)) = true := decide_eq_true (by omega)
                  clear hd hd1
                  go_wp2_with fail
                  go_ret
                  exact ⟨by rw [HE2.out]; rfl, Below.refl _ _⟩
            · obtain rfl : i = T.size := by omega
              have hall := HD.out
              rw [List.take_of_length_le (by rw [HTL.out]; exact Nat.le_refl _)] at hall
              have HE2 : Hid (R = if clampN (sgnN (negL s) n) = sgnN (negL s) n ∧ itoaS (sgnN (negL s) n) = s then sgnN (negL s) n else 0) := Lib.hid (by rw [HE.out, hall])
              clear HE HD hall
              cases hng : negL s with
              | true =>
                rw [hng] at hTn HE2
                obtain ⟨v, hv⟩ : ∃ v : Int, v = -(n : Int) := ⟨_, rfl⟩
                rw [show sgnN true n = v by rw [hv]; rfl] at HE2
                have hw : IntKind.i64.wrap (-(n : Int)) = v := by rw [hv]; exact IntWalk.i64_in _ (by omega)
                by_cases hlo : v < -1125899906842624
                · have hE : R = 0 := by rw [HE2.out, if_neg (fun h => by have := clampN_bd v; rw [h.1] at this; omega)]
                  have HE3 := Lib.hid hE
                  have e1 : decide (v < -1125899906842624) = true := decide_eq_true hlo
                  clear hE HE2 hv hlo
                  go_wp2_with fail
                  go_ret
                  exact ⟨by rw [HE3.out]; rfl, Below.refl _ _⟩
                · have e1 : decide (v < -1125899906842624) = false := decide_eq_false hlo
                  have e2 : decide (1125899906842624 < v) = false := decide_eq_false (by omega)
                  have H1 := Lib.hid (HT.out v (by omega) (by omega) wr)
                  have hcl : clampN v = v := by unfold clampN; omega
                  rw [hcl] at HE2
                  clear hv hlo hcl
                  generalize itoaS v = sv at *
                  go_wp2_with fail
                  refine H1.out.mono ?_
                  rintro e w1 ⟨rfl, hb⟩
                  have HB := Lib.hid hb
                  clear hb H1
                  by_cases hse : sv = s
                  · have hE : R = v := by rw [HE2.out, if_pos ⟨trivial, hse⟩]
                    have HE3 := Lib.hid hE
                    clear hE HE2
                    subst hse
                    have e3 : (sv.toList != sv.toList) = false := by simp
                    go_wp2_with fail
                    go_ret
                    exact ⟨by rw [HE3.out]; rfl, HB.out⟩
                  · have hE : R = 0 := by rw [HE2.out, if_neg (fun h => hse h.2)]
                    have HE3 := Lib.hid hE
                    have e3 : (sv.toList == s.toList) = false := by
                      rw [beq_eq_false_iff_ne]; exact fun h => hse (toList_inj h)
                    have e4 : (sv.toList != s.toList) = true := by rw [bne, e3]; rfl
                    clear hE HE2
                    go_wp2_with fail
                    go_ret
                    exact ⟨by rw [HE3.out]; rfl, HB.out⟩
              | false =>
                rw [hng] at hTn HE2
                rw [show sgnN false n = (n : Int) from rfl] at HE2
                by_cases hhi : (1125899906842624 : Int) < n
                · have hE : R = 0 := by rw [HE2.out, if_neg (fun h => by have := clampN_bd n; rw [h.1] at this; omega)]
                  have HE3 := Lib.hid hE
                  have e1 : decide ((1125899906842624 : Int) < n) = true := decide_eq_true hhi
                  clear hE HE2
                  go_wp2_with fail
                  go_ret
                  exact ⟨by rw [HE3.out]; rfl, Below.refl _ _⟩
                · have e2 : decide ((1125899906842624 : Int) < n) = false := decide_eq_false (by omega)
                  have H1 := Lib.hid (HT.out n (by omega) (by omega) wr)
                  have hcl : clampN n = n := by unfold clampN; omega
                  rw [hcl] at HE2
                  clear hcl
                  generalize itoaS n = sv at *
                  go_wp2_with fail
                  refine H1.out.mono ?_
                  rintro e w1 ⟨rfl, hb⟩
                  have HB := Lib.hid hb
                  clear hb H1
                  by_cases hse : sv = s
                  · have hE : R = n := by rw [HE2.out, if_pos ⟨trivial, hse⟩]
                    have HE3 := Lib.hid hE
                    clear hE HE2
                    subst hse
                    have e3 : (sv.toList != sv.toList) = false := by simp
                    go_wp2_with fail
                    go_ret
                    exact ⟨by rw [HE3.out]; rfl, HB.out⟩
                  · have hE : R = 0 := by rw [HE2.out, if_neg (fun h => hse h.2)]
                    have HE3 := Lib.hid hE
                    have e3 : (sv.toList == s.toList) = false := by
                      rw [beq_eq_false_iff_ne]; exact fun h => hse (toList_inj h)
                    have e4 : (sv.toList != s.toList) = true := by rw [bne, e3]; rfl
                    clear hE HE2
                    go_wp2_with fail
                    go_ret
                    exact ⟨by rw [HE3.out]; rfl, HB.out⟩
end Go.Proofs.YtmifgnibalbgjaaDoor
