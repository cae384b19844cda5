/- The document's Even comes to the same splits. -/
import Derived.Test.YteocoijkfkoddaaS
namespace Go.Proofs.Yteocoijkfkoddaa
open Go.RowKit

def EvenPost (l : List ByteArray) (N : Nat) (w : World) (e : Ending) (w' : World) : Prop :=
  ∃ a' c', e = .returned (.slice a' (evenS l N (N - 1)).1.length c') ∧ StrsAt w' a' (evenS l N (N - 1)).1.length (evenS l N (N - 1)).1 ∧ Keep w w'
set_option maxRecDepth 100000 in
set_option maxHeartbeats 1000000 in
theorem refEven_any (a : Option Addr) (n c N : Nat) (ss : List ByteArray) (w : World) (hN1 : 1 ≤ N) (hN8 : N ≤ 8) (hn : n ≤ 60) (h : StrsAt w a n ss) :
    Calls Try.prog 19 #[.slice a n c, .int .i64 N] w (EvenPost ((srt (ss.map (·.toList))).map toB) N w) := by
  have HC := Lib.hid (sorted_any a n c ss w (by omega) h)
  have hasc : Asc (((srt (ss.map (·.toList))).map toB).map (·.toList)) := by
    rw [List.map_map]
    have : ((·.toList) ∘ toB) = id := by funext l; exact toList_toB l
    rw [this, List.map_id]
    exact (srt_spec _).1
  have HL : Hid (∀ O : List ByteArray, O.map (·.toList) = srt (ss.map (·.toList)) → O = (srt (ss.map (·.toList))).map toB) := Lib.hid fun O hO => by
    rw [← hO, List.map_map]
    have : (toB ∘ (·.toList)) = id := by funext s; exact toB_toList s
    rw [this, List.map_id]
  generalize (srt (ss.map (·.toList))).map toB = l at *
  have HA := Lib.hid hasc
  clear h hasc
  go_enter Try.func19, Try.ntmps19
  go_wp2_with fail
  refine HC.out.mono ?_
  rintro e w3 ⟨a1, c1, O1, rfl, hst, hO1, hOl, hk⟩
  have e1 := (HL.out O1 hO1).symm
  subst e1
  have HSt := Lib.hid hst
  have K3 := Lib.hid hk
  have hll : l.length ≤ 60 := by omega
  clear hst hO1 hk HC hOl
  go_wp2_with fail
  go_loopw [6, 7, 8] (fun s6 s7 _ wr => ∃ (k : Nat) (a7 : Option Addr) (c7 : Nat), k + 1 ≤ N ∧ s7 = .int .i64 ((k : Int) + 1) ∧ s6 = .slice a7 (evenS l N k).1.length c7 ∧
      Hid (Row wr 9 1 a7 (evenS l N k).1.length c7 ((evenS l N k).1.map Value.string)) ∧ Hid (∀ x, a7 = some x → w3.heap.size ≤ x.block) ∧ Hid (Keep w3 wr)) (fun _ i _ _ => N - (intOf i).toNat)
  case atStart => exact ⟨0, none, 0, by omega, rfl, rfl, Lib.hid (Row.nil _ _ _), Lib.hid (by simp), Lib.hid (Keep.refl _)⟩
  case round =>
    obtain ⟨k, a7, c7, hk, rfl, rfl, HR, HB, HK⟩ := hrel
    by_cases hlt : k + 1 < N
    · have hel := even_len l N k
      have hst : evenS l N (k + 1) = if (evenS l N k).2 < (k + 1) * l.length / N then ((evenS l N k).1 ++ [l.getD ((k + 1) * l.length / N) ByteArray.empty], (k + 1) * l.length / N) else evenS l N k := rfl
      have hp1 : (k + 1) * l.length ≤ 8 * 60 := Nat.mul_le_mul (by omega) hll
      have hmul : ((k : Int) + 1) * (l.length : Int) = (((k + 1) * l.length : Nat) : Int) := by simp
      have hdiv : ((((k + 1) * l.length : Nat) : Int)) / (N : Int) = (((k + 1) * l.length / N : Nat) : Int) := by simp
      have hat : 0 < l.length → (k + 1) * l.length / N < l.length := at_lt l.length N (k + 1) hlt
      have hz : l.length = 0 → (k + 1) * l.length / N = 0 := fun e => by rw [e]; simp
      have htest := even_test l N k (by omega) hlt HA.out
      have hlast := even_last l N k
      generalize (k + 1) * l.length = M at *
      have hTb : M / N ≤ 480 := Nat.le_trans (Nat.div_le_self _ _) hp1
      generalize M / N = T at *
      obtain ⟨E', hE⟩ : ∃ E', evenS l N (k + 1) = E' := ⟨_, rfl⟩
      rw [hE] at hst
      generalize evenS l N k = E at *
      obtain ⟨O, p⟩ := E
      replace hst : E' = if p < T then (O ++ [l.getD T ByteArray.empty], T) else (O, p) := hst
      simp only at hel HR htest hlast
      have hOb : O.length ≤ 60 := by omega
      by_cases hT0 : 0 < T
      · have hTl : T < l.length := hat (by rcases Nat.eq_zero_or_pos l.length with e | e; (rw [hz e] at hT0; omega); exact e)
        obtain ⟨b, off, rfl, hcell0⟩ := HSt.out.2 T hTl
        have hcell := HK.out.cell hcell0
        have hd : decide ((0 : Int) < (T : Int)) = true := decide_eq_true (by omega)
        generalize l.getD T ByteArray.empty = x at *
        have HApp := Lib.hid fun q => app_str a7 _ c7 (O.map Value.string) x (wr.drewN q) (HR.out.touch (Touch.drewN [] _ q) (by simp)) (by omega)
        have HL1 : Hid ((O ++ [x]).length = O.length + 1) := Lib.hid (by simp)
        have HFin : Hid (∀ q a8 c8 w8, Row w8 9 1 a8 (O.length + 1) c8 (O.map Value.string ++ [.string x]) → Touch (blkOf a7) (wr.drewN q) w8 → Fresh (wr.drewN q) a7 a8 →
            Row w8 9 1 a8 (O ++ [x]).length c8 ((O ++ [x]).map Value.string) ∧ (∀ x, a8 = some x → w3.heap.size ≤ x.block) ∧ Keep w3 w8) := Lib.hid fun q a8 c8 w8 hrow ht8 hf8 => by
          refine ⟨by rw [List.length_append, List.length_singleton, List.map_append]; exact hrow, fun x hx => ?_, Touch.keep ((Touch.of_below (HK.out.trans (Keep.drewN _ q)) []).trans ht8 (fun x hx => .inr (by
            obtain ⟨y, hy, e⟩ := mem_blkOf.1 hx; rw [← e]; exact HB.out y hy)))⟩
          rcases hf8 x hx with h1 | h1
          · obtain ⟨y, hy, e⟩ := mem_blkOf.1 h1; rw [← e]; exact HB.out y hy
          · exact Nat.le_trans HK.out.size h1
        by_cases hO : O = []
        · subst hO
          have hp0 : p = 0 := by rcases hlast with h | h; exact h.2; exact absurd rfl h.1
          rw [if_pos (by omega)] at hst
          have HE : Hid (evenS l N (k + 1) = ([] ++ [x], T)) := Lib.hid (hE.trans hst)
          clear hE hst hat hz htest hlast hp0 hcell0 HR HB HK
          go_wp2_with fail
          go_quiet (fail)
          rename_i nq
          obtain ⟨a8, c8, w8, hrun, hrow, ht8, hf8⟩ := HApp.out nq
          obtain ⟨r1, r2, r3⟩ := HFin.out nq a8 c8 w8 hrow ht8 hf8
          have HRun := Lib.hid hrun
          have R1 := Lib.hid r1
          have R2 := Lib.hid r2
          have R3 := Lib.hid r3
          clear hrun hrow ht8 hf8 r1 r2 r3 HApp HFin
          go_wp2_with (at_builtin; refine wpList_appendR _ rfl _ _ 22 22 rfl _ _ rfl rfl HRun.out ?_)
          go_roundw
          case rel => exact ⟨k + 1, a8, c8, by omega, by go_num, by rw [HE.out]; exact congrArg (fun q => Value.slice a8 q c8) HL1.out.symm, by rw [HE.out]; exact R1, R2, R3⟩
          case measure => simp [intOf]; omega
        · obtain ⟨q, hq⟩ : ∃ q, O.length = q + 1 := ⟨O.length - 1, by cases O; exact absurd rfl hO; simp⟩
          have ht := htest hT0 hO
          obtain ⟨g7, e7, hl7⟩ := HR.out.cellAt q (by rw [List.length_map, hq]; omega)
          subst e7
          have hlc : wr.cell? ⟨g7, q, none⟩ = some (.string (O.getD (O.length - 1) ByteArray.empty)) := by
            rw [hl7, show O.length - 1 = q by omega]; simp [List.getD, show q < O.length by omega]
          generalize O.getD (O.length - 1) ByteArray.empty = y at *
          clear hl7
          have HQ := Lib.hid hq
          have HE0 := Lib.hid (hE.trans hst)
          clear hE hst hat hz htest hlast hcell0
          rw [hq] at HApp HFin HL1 ⊢
          have hq1 : q + 1 ≤ 60 := by omega
          clear hq
          have hq2 : (((q : Int) + 1) == 0) = false := beq_eq_false_iff_ne.2 (by omega)
          cases hyx : (y.toList == x.toList) with
          | true =>
            rw [hyx] at ht
            have hpT : ¬ p < T := by simpa using ht
            have HE : Hid (evenS l N (k + 1) = (O, p)) := Lib.hid (HE0.out.trans (if_neg hpT))
            clear ht HE0
            go_wp2_with fail
            go_quiet (fail)
            go_wp2_with fail
            go_roundw
            case rel => exact ⟨k + 1, some ⟨g7, 0, none⟩, c7, by omega, by go_num, by rw [HE.out, HQ.out], by rw [HE.out]; exact Lib.hid (HR.out.touch (Touch.drewN [] _ _) (by simp)), HB, Lib.hid (HK.out.trans (Keep.drewN _ _))⟩
            case measure => simp [intOf]; omega
          | false =>
            rw [hyx] at ht
            have hpT : p < T := by simpa using ht
            have HE : Hid (evenS l N (k + 1) = (O ++ [x], T)) := Lib.hid (HE0.out.trans (if_pos hpT))
            clear ht HE0
            go_wp2_with fail
            go_quiet (fail)
            rename_i nq
            obtain ⟨a8, c8, w8, hrun, hrow, ht8, hf8⟩ := HApp.out nq
            obtain ⟨r1, r2, r3⟩ := HFin.out nq a8 c8 w8 hrow ht8 hf8
            have HRun := Lib.hid hrun
            have R1 := Lib.hid r1
            have R2 := Lib.hid r2
            have R3 := Lib.hid r3
            clear hrun hrow ht8 hf8 r1 r2 r3 HApp HFin
            go_wp2_with (at_builtin; refine wpList_appendR _ rfl _ _ 22 22 rfl _ _ rfl rfl HRun.out ?_)
            go_roundw
            case rel => exact ⟨k + 1, a8, c8, by omega, by go_num, by rw [HE.out]; exact congrArg (fun q => Value.slice a8 q c8) HL1.out.symm, by rw [HE.out]; exact R1, R2, R3⟩
            case measure => simp [intOf]; omega
      · have hpT : ¬ p < T := by omega
        rw [if_neg hpT] at hst
        have HE : Hid (evenS l N (k + 1) = (O, p)) := Lib.hid (hE.trans hst)
        have hd : decide ((0 : Int) < (T : Int)) = false := decide_eq_false (by omega)
        clear hE hst hat hz htest hlast
        go_wp2_with fail
        go_quiet (fail)
        go_wp2_with fail
        go_roundw
        case rel => exact ⟨k + 1, a7, c7, by omega, by go_num, by rw [HE.out], by rw [HE.out]; exact Lib.hid (HR.out.touch (Touch.drewN [] _ _) (by simp)), HB, Lib.hid (HK.out.trans (Keep.drewN _ _))⟩
        case measure => simp [intOf]; omega
    · have e : k = N - 1 := by omega
      subst e
      have HSO := Lib.hid (Row.strs HR.out)
      clear HR
      go_wp2_with fail
      go_ret
      exact ⟨_, _, rfl, HSO.out, K3.out.trans HK.out⟩
end Go.Proofs.Yteocoijkfkoddaa
