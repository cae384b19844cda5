/- The law's own small functions: few, right. -/
import Derived.Test.YtmifgnibalbgjaaDoorX
namespace Go.Proofs.YtmifgnibalbgjaaDoor
open Go.RowKit
def fewB (ss : List ByteArray) (l : List Opp) : Bool := (ss.all fun s => decide (s.size ≤ 100)) && ((l.all fun o => decide (o.key.size ≤ 100) && decide (o.value.size ≤ 100)) && (decide (ss.length ≤ 12) && decide (l.length ≤ 30)))
set_option maxRecDepth 100000 in
set_option maxHeartbeats 4000000 in
theorem few_any (a a2 : Option Addr) (n c n2 c2 : Nat) (ss : List ByteArray) (l : List Opp) (w : World) (hn : n ≤ maxLen) (hn2 : n2 ≤ maxLen) (h : StrsAt w a n ss) (h2 : OpsAt w a2 n2 l) :
    Calls Tryd.prog 6 #[.slice a n c, .slice a2 n2 c2] w fun e w' => e = .returned (.bool (fewB ss l)) ∧ Below w.heap.size w w' := by
  unfold maxLen at hn hn2
  have HS := Lib.hid h.2
  have HA := Lib.hid h2
  have HN := Lib.hid h.1
  have HN2 := Lib.hid h2.1
  have HT : Hid ((∀ s ∈ ss, s.size ≤ 100) → (∀ o ∈ l, o.key.size ≤ 100 ∧ o.value.size ≤ 100) → fewB ss l = (decide ((n : Int) ≤ 12) && decide ((n2 : Int) ≤ 30))) := Lib.hid fun h1 h2 => by
    unfold fewB
    rw [List.all_eq_true.2 (fun t ht => decide_eq_true (h1 t ht)), Bool.true_and, List.all_eq_true.2 (fun t ht => by rw [decide_eq_true (h2 t ht).1, decide_eq_true (h2 t ht).2]; rfl), Bool.true_and, HN.out, HN2.out]
    congr 1 <;> exact decide_eq_decide.2 (by omega)
  have HF : Hid (∀ s ∈ ss, ¬ s.size ≤ 100 → fewB ss l = false) := Lib.hid fun s hs h => by
    unfold fewB
    rw [Bool.and_eq_false_iff]
    left
    rw [List.all_eq_false]
    exact ⟨s, hs, by simpa using h⟩
  have HF2 : Hid (∀ o ∈ l, ¬ (o.key.size ≤ 100 ∧ o.value.size ≤ 100) → fewB ss l = false) := Lib.hid fun o ho h => by
    unfold fewB
    rw [Bool.and_eq_false_iff]
    right
    rw [Bool.and_eq_false_iff]
    left
    rw [List.all_eq_false]
    exact ⟨o, ho, by simpa using h⟩
  clear h h2
  generalize fewB ss l = fl at *
  go_enter Tryd.func6, Tryd.ntmps6
  go_wp2_with fail
  go_loop [11] (fun j => ∃ k : Nat, k ≤ n ∧ j = .int .i64 k ∧ Hid (∀ i (hi : i < ss.length), i < k → ss[i].size ≤ 100)) (fun j => n - (intOf j).toNat)
  case atStart => exact ⟨0, Nat.zero_le _, rfl, Lib.hid fun i hi h => by omega⟩
  case round =>
    obtain ⟨k, hk, rfl, HALL⟩ := hrel
    by_cases hlt : k < n
    · have hk2 : k < ss.length := by rw [← HN.out]; exact hlt
      obtain ⟨g, off, rfl, hx⟩ := HS.out k hlt
      have hgd : ss.getD k ByteArray.empty = ss[k] := by simp [List.getD, hk2]
      rw [hgd] at hx
      clear hgd
      have HX := Lib.hid (HF.out _ (List.getElem_mem hk2))
      have HNX : Hid (ss[k].size ≤ 100 → ∀ i (hi : i < ss.length), i < k + 1 → ss[i].size ≤ 100) := Lib.hid fun h i hi hik => by
        by_cases e : i = k
        · subst e; exact h
        · exact HALL.out i hi (by omega)
      clear HALL HT HF HF2
      generalize ss[k] = x at *
      by_cases hz : 100 < (x.size : Int)
      · have H1 := Lib.hid (HX.out (by omega))
        clear HX HNX
        go_wp2_with fail
        go_ret
        exact ⟨by rw [H1.out]; rfl, Below.refl _ _⟩
      · have H1 := Lib.hid (HNX.out (by omega))
        clear HX HNX
        go_wp2_with fail
        go_round
        case rel => exact ⟨k + 1, by omega, by go_num, H1⟩
        case measure => simp [intOf]; omega
    · have HS2 : Hid (∀ s ∈ ss, s.size ≤ 100) := Lib.hid fun s hs => by
        obtain ⟨i, hi, rfl⟩ := List.getElem_of_mem hs
        exact HALL.out i hi (by have := HN.out; omega)
      clear HALL HF
      go_wp2_with fail
      go_loopw [21] (fun j wr => ∃ k : Nat, k ≤ n2 ∧ j = .int .i64 k ∧ Hid (Below w.heap.size w wr ∧ ∀ i (hi : i < l.length), i < k → l[i].key.size ≤ 100 ∧ l[i].value.size ≤ 100)) (fun j _ => n2 - (intOf j).toNat)
      case atStart => exact ⟨0, Nat.zero_le _, rfl, Lib.hid ⟨Below.refl _ _, fun i hi h => by omega⟩⟩
      case round =>
        obtain ⟨k, hk, rfl, hS⟩ := hrel
        have HB := Lib.hid hS.out.1
        have HALL := Lib.hid hS.out.2
        clear hS
        by_cases hlt : k < n2
        · have hk2 : k < l.length := by rw [← HN2.out]; exact hlt
          obtain ⟨g, off, rfl, ⟨hx0, hx1, hx2, hx3⟩, _, _, hz1, hz2, _⟩ := (HA.out.below HB.out).at k hk2
          have HX := Lib.hid (HF2.out _ (List.getElem_mem hk2))
          have HB2 := Lib.hid (HB.out.trans ((bel_new wr (.cells #[.int .i64 l[k].kind, .string l[k].key, .string l[k].value, .int .i64 l[k].n] 60)).mono HB.out.size))
          have HNX : Hid (l[k].key.size ≤ 100 ∧ l[k].value.size ≤ 100 → ∀ i (hi : i < l.length), i < k + 1 → l[i].key.size ≤ 100 ∧ l[i].value.size ≤ 100) := Lib.hid fun h i hi hik => by
            by_cases e : i = k
            · subst e; exact h
            · exact HALL.out i hi (by omega)
          clear HALL HT HF2
          generalize l[k] = x at *
          obtain ⟨xk, xy, xv, xn⟩ := x
          simp only at hx0 hx1 hx2 hx3 hz1 hz2 HX HNX HB2
          unfold maxLen at hz1 hz2
          by_cases hz : 100 < (xy.size : Int)
          · have H1 := Lib.hid (HX.out (by omega))
            clear HX HNX
            go_wp2_with fail
            go_ret
            exact ⟨by rw [H1.out]; rfl, HB2.out⟩
          by_cases hv : 100 < (xv.size : Int)
          · have H1 := Lib.hid (HX.out (by omega))
            clear HX HNX
            go_wp2_with fail
            go_ret
            exact ⟨by rw [H1.out]; rfl, HB2.out⟩
          have H1 := Lib.hid (HNX.out ⟨by omega, by omega⟩)
          clear HX HNX
          go_wp2_with fail
          go_roundw
          case rel => exact ⟨k + 1, by omega, by go_num, Lib.hid ⟨HB2.out, H1.out⟩⟩
          case measure => simp [intOf]; omega
        · have H1 := Lib.hid (HT.out HS2.out fun o ho => by
            obtain ⟨i, hi, rfl⟩ := List.getElem_of_mem ho
            exact HALL.out i hi (by have := HN2.out; omega))
          clear HALL HF2 HT HS2
          by_cases h12 : (n : Int) ≤ 12
          · have d1 : decide ((n : Int) ≤ 12) = true := decide_eq_true h12
            rw [d1, Bool.true_and] at H1
            clear d1
            go_wp2_with fail
            go_ret
            exact ⟨by rw [H1.out]; rfl, HB.out⟩
          · have d1 : decide ((n : Int) ≤ 12) = false := decide_eq_false h12
            rw [d1, Bool.false_and] at H1
            clear d1
            go_wp2_with fail
            go_ret
            exact ⟨by rw [H1.out]; rfl, HB.out⟩
set_option maxRecDepth 100000 in
set_option maxHeartbeats 4000000 in
theorem right9 (tx stamp tries : Int) (a : Option Addr) (n c : Nat) (l : List Opp) (w : World) (hl : OpsAt w a n l) (hn : n ≤ maxLen) :
    Calls Tryd.prog 9 #[.int .i64 tx, .int .i64 stamp, .int .i64 tries, .slice a n c] w fun e w' => e = .returned (.int .i64 (newErr tx stamp tries l)) ∧ Below w.heap.size w w' := by
  have HPR := Lib.hid (ref_right a n c l w hn hl)
  clear hl hn
  by_cases t0 : tx < 0
  · have HE : Hid (numsB tx stamp tries = false) := Lib.hid (by unfold numsB; rw [decide_eq_false (show ¬ (0 ≤ tx) by omega)]; simp)
    have HE2 : Hid (newErr tx stamp tries l = 1) := Lib.hid (by unfold newErr; rw [HE.out]; rfl)
    clear HPR
    go_enter Tryd.func9, Tryd.ntmps9
    go_wp2_with fail
    go_ret
    exact ⟨by rw [HE2.out]; rfl, Below.refl _ _⟩
  by_cases t1 : 1048576 < tx
  · have HE : Hid (numsB tx stamp tries = false) := Lib.hid (by unfold numsB; rw [decide_eq_false (show ¬ (tx ≤ 1048576) by omega)]; simp)
    have HE2 : Hid (newErr tx stamp tries l = 1) := Lib.hid (by unfold newErr; rw [HE.out]; rfl)
    clear HPR
    go_enter Tryd.func9, Tryd.ntmps9
    go_wp2_with fail
    go_ret
    exact ⟨by rw [HE2.out]; rfl, Below.refl _ _⟩
  by_cases t2 : stamp < 1
  · have HE : Hid (numsB tx stamp tries = false) := Lib.hid (by unfold numsB; rw [decide_eq_false (show ¬ (1 ≤ stamp) by omega)]; simp)
    have HE2 : Hid (newErr tx stamp tries l = 1) := Lib.hid (by unfold newErr; rw [HE.out]; rfl)
    clear HPR
    go_enter Tryd.func9, Tryd.ntmps9
    go_wp2_with fail
    go_ret
    exact ⟨by rw [HE2.out]; rfl, Below.refl _ _⟩
  by_cases t3 : 1099511627776 < stamp
  · have HE : Hid (numsB tx stamp tries = false) := Lib.hid (by unfold numsB; rw [decide_eq_false (show ¬ (stamp ≤ 1099511627776) by omega)]; simp)
    have HE2 : Hid (newErr tx stamp tries l = 1) := Lib.hid (by unfold newErr; rw [HE.out]; rfl)
    clear HPR
    go_enter Tryd.func9, Tryd.ntmps9
    go_wp2_with fail
    go_ret
    exact ⟨by rw [HE2.out]; rfl, Below.refl _ _⟩
  by_cases t4 : tries < 1
  · have HE : Hid (numsB tx stamp tries = false) := Lib.hid (by unfold numsB; rw [decide_eq_false (show ¬ (1 ≤ tries) by omega)]; simp)
    have HE2 : Hid (newErr tx stamp tries l = 1) := Lib.hid (by unfold newErr; rw [HE.out]; rfl)
    clear HPR
    go_enter Tryd.func9, Tryd.ntmps9
    go_wp2_with fail
    go_ret
    exact ⟨by rw [HE2.out]; rfl, Below.refl _ _⟩
  by_cases t5 : 1048576 < tries
  · have HE : Hid (numsB tx stamp tries = false) := Lib.hid (by unfold numsB; rw [decide_eq_false (show ¬ (tries ≤ 1048576) by omega)]; simp)
    have HE2 : Hid (newErr tx stamp tries l = 1) := Lib.hid (by unfold newErr; rw [HE.out]; rfl)
    clear HPR
    go_enter Tryd.func9, Tryd.ntmps9
    go_wp2_with fail
    go_ret
    exact ⟨by rw [HE2.out]; rfl, Below.refl _ _⟩
  have HE : Hid (newErr tx stamp tries l = planErr l) := Lib.hid (by unfold newErr numsB; rw [decide_eq_true (show 0 ≤ tx by omega), decide_eq_true (show tx ≤ 1048576 by omega), decide_eq_true (show 1 ≤ stamp by omega), decide_eq_true (show stamp ≤ 1099511627776 by omega), decide_eq_true (show 1 ≤ tries by omega), decide_eq_true (show tries ≤ 1048576 by omega)]; rfl)
  generalize newErr tx stamp tries l = ne at *
  generalize planErr l = pe at *
  go_enter Tryd.func9, Tryd.ntmps9
  go_wp2_with fail
  refine HPR.out.mono ?_
  rintro e w1 ⟨rfl, hb⟩
  have HB := Lib.hid hb
  clear hb HPR
  go_wp2_with fail
  go_ret
  exact ⟨by rw [HE.out]; rfl, HB.out⟩
end Go.Proofs.YtmifgnibalbgjaaDoor

