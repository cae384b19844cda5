/- The document's Right. -/
import Derived.Test.YtbgabdofnmijnaaU
import Derived.Laws.StructEq
namespace Go.Proofs.Ytbgabdofnmijnaa
open Go.RowKit
theorem key_empty (b : ByteArray) : b.toList.isEmpty = decide (b.size = 0) := by
  rw [ByteArray.toList_eq]
  obtain ⟨⟨x⟩⟩ := b
  show x.isEmpty = decide (x.length = 0)
  cases x <;> simp
def oddR (m : Mk) : Bool := decide (m.kind < 1) || decide (4 < m.kind) || decide (m.tx < 0) || decide (16 < (m.key.size : Int)) || (decide (2 < m.kind) && decide (0 < (m.key.size : Int)))
theorem oddR_eq (m : Mk) : oddB m = oddR m := by
  unfold oddB oddR accB endB
  rw [key_empty]
  rw [Bool.eq_iff_iff]
  simp only [Bool.or_eq_true, Bool.and_eq_true, Bool.not_eq_true', Bool.or_eq_false_iff, beq_eq_false_iff_ne, beq_iff_eq, decide_eq_true_eq, decide_eq_false_iff_not, ne_eq]
  omega
theorem overK_end {m : Mk} (h : oddB m = false) : overK m = endB m := by
  rw [oddR_eq] at h
  unfold oddR at h
  simp only [Bool.or_eq_false_iff, decide_eq_false_iff_not] at h
  unfold overK endB
  rw [Bool.eq_iff_iff]
  simp only [Bool.or_eq_true, beq_iff_eq, decide_eq_true_eq]
  omega
theorem any_congr {p q : Mk → Bool} {l : List Mk} (h : ∀ m ∈ l, p m = q m) : l.any p = l.any q := by
  induction l with
  | nil => rfl
  | cons x r ih => rw [List.any_cons, List.any_cons, h x (List.mem_cons_self ..), ih fun m hm => h m (List.mem_cons_of_mem _ hm)]
theorem endedR_ends {l : List Mk} (h : ∀ m ∈ l, oddB m = false) (tx : Int) (k : Nat) : endedR l tx k = endsB l tx k :=
  any_congr fun m hm => by rw [overK_end (h m (List.mem_of_mem_take hm))]
theorem anyOdd_false {l : List Mk} (h : l.any oddB = false) : ∀ m ∈ l, oddB m = false := fun m hm => by
  have := List.any_eq_false.1 h m hm
  simpa using this
set_option maxRecDepth 100000 in
set_option maxHeartbeats 8000000 in
theorem rright_any (a : Option Addr) (n c : Nat) (l : List Mk) (w : World) (hr : MksAt w a n l) (hn : n ≤ 1000) (hnc : n ≤ c) :
    Calls Try.prog 12 #[.slice a n c] w fun e w' => e = .returned (.int .i64 (rightM l)) ∧ Below w.heap.size w w' := by
  have HEN := Lib.hid fun k tx W (hb : Below w.heap.size w W) (hk : k ≤ n) => ended_any a n c l tx k W (hr.below hb) hn hnc hk
  have HL := Lib.hid hr.1
  have HR := Lib.hid hr
  have HBD := Lib.hid hr.bd
  have HQ : Hid (rightM l = if 256 < (n : Int) then 4 else if l.any oddB then 1 else if overB l then 8 else 0) := Lib.hid (by rw [HL.out]; rfl)
  clear hr
  generalize rightM l = q at *
  by_cases h0 : 256 < (n : Int)
  · have HQ2 := HQ.out
    rw [if_pos h0] at HQ2
    subst HQ2
    clear HQ
    go_enter Try.func12, Try.ntmps12
    go_wp2_with fail
    go_ret
    exact ⟨rfl, Below.refl _ _⟩
  · have HQ1 := HQ.out
    rw [if_neg h0] at HQ1
    have HQ2 := Lib.hid HQ1
    clear HQ HQ1
    have HODD : Hid (∀ i (hi : i < l.length), oddB l[i] = true → q = 1) := Lib.hid fun i hi h => by rw [HQ2.out, if_pos (List.any_eq_true.2 ⟨_, List.getElem_mem hi, h⟩)]
    have HQ3 : Hid ((∀ i (hi : i < l.length), oddB l[i] = false) → q = (if overB l then 8 else 0) ∧ ∀ m ∈ l, oddB m = false) := Lib.hid fun h => by
      have h1 : ∀ m ∈ l, oddB m = false := fun m hm => by
        obtain ⟨i, hi, rfl⟩ := List.getElem_of_mem hm
        exact h i hi
      have h2 : l.any oddB = false := by rw [List.any_eq_false]; intro m hm; rw [h1 m hm]; simp
      exact ⟨by rw [HQ2.out, h2, if_neg (by simp)], h1⟩
    clear HQ2
    go_enter Try.func12, Try.ntmps12
    go_wp2_with fail
    go_loopw [12] (fun j wr => ∃ k : Nat, k ≤ n ∧ j = .int .i64 k ∧ Hid ((∀ i (hi : i < l.length), i < k → oddB l[i] = false) ∧ Below w.heap.size w wr)) (fun j _ => n - (intOf j).toNat)
    case atStart => exact ⟨0, Nat.zero_le _, rfl, Lib.hid ⟨fun i h hi => by omega, Below.refl _ _⟩⟩
    case round =>
      obtain ⟨W1, rfl⟩ : ∃ W1, W1 = wr := ⟨_, rfl⟩
      obtain ⟨k, hk, rfl, HS⟩ := hrel
      have HALL := Lib.hid HS.out.1
      have HB := Lib.hid HS.out.2
      clear HS
      by_cases hlt : k < n
      · have hlt' : k < l.length := by rw [← HL.out]; exact hlt
        obtain ⟨g, off, rfl, hcA, hcB, hcD⟩ := (HR.out.below HB.out).at k hlt'
        have HNX := Lib.hid fun (h : oddB l[k] = false) => (show ∀ i (hi : i < l.length), i < k + 1 → oddB l[i] = false from fun i hi hik => by
          by_cases e : i = k
          · subst e; exact h
          · exact HALL.out i hi (by omega))
        have HY := Lib.hid (HODD.out k hlt')
        have hz := (HBD.out _ (List.getElem_mem hlt')).2.2.2.2
        have M1 := Lib.hid (((Mem.nil w).below HB.out).block #[.int .i64 l[k].kind, .int .i64 l[k].tx, .string l[k].key] 36)
        rw [oddR_eq] at HNX HY
        clear HALL HB
        generalize l[k] = x at *
        obtain ⟨xk, xt, xy⟩ := x
        unfold oddR at HNX HY
        simp only at hcA hcB hcD M1 HNX HY hz
        unfold maxLen at hz
        obtain ⟨k0, k1, k2⟩ := box_cells M1.out
        have HBE := Lib.hid M1.out.bel
        clear M1
        generalize hsz : xy.size = z at *
        by_cases h1 : xk < 1
        · have HX := Lib.hid (HY.out (by simp [h1]))
          clear HNX HY
          go_wp2_with fail
          go_ret
          exact ⟨by rw [HX.out]; rfl, HBE.out⟩
        · by_cases h2 : 4 < xk
          · have HX := Lib.hid (HY.out (by simp [h2]))
            clear HNX HY
            go_wp2_with fail
            go_ret
            exact ⟨by rw [HX.out]; rfl, HBE.out⟩
          · by_cases h3 : xt < 0
            · have HX := Lib.hid (HY.out (by simp [h3]))
              clear HNX HY
              go_wp2_with fail
              go_ret
              exact ⟨by rw [HX.out]; rfl, HBE.out⟩
            · by_cases h4 : (16 : Int) < z
              · have HX := Lib.hid (HY.out (by simp [h4]))
                clear HNX HY
                go_wp2_with fail
                go_ret
                exact ⟨by rw [HX.out]; rfl, HBE.out⟩
              · by_cases h5 : 2 < xk
                · by_cases h6 : (0 : Int) < z
                  · have HX := Lib.hid (HY.out (by rw [decide_eq_true h5, decide_eq_true h6]; simp))
                    clear HNX HY
                    go_wp2_with fail
                    go_ret
                    exact ⟨by rw [HX.out]; rfl, HBE.out⟩
                  · have HX := Lib.hid (And.intro (HNX.out (by rw [decide_eq_false h1, decide_eq_false h2, decide_eq_false h3, decide_eq_false h4, decide_eq_false h6]; simp)) HBE.out)
                    have h7 : decide ((0 : Int) < (z : Int)) = false := decide_eq_false h6
                    clear HNX HY
                    go_wp2_with fail
                    go_roundw
                    case rel => exact ⟨k + 1, by omega, by go_num, HX⟩
                    case measure => simp [intOf]; omega
                · have HX := Lib.hid (And.intro (HNX.out (by rw [decide_eq_false h1, decide_eq_false h2, decide_eq_false h3, decide_eq_false h4, decide_eq_false h5]; simp)) HBE.out)
                  clear HNX HY
                  go_wp2_with fail
                  go_roundw
                  case rel => exact ⟨k + 1, by omega, by go_num, HX⟩
                  case measure => simp [intOf]; omega
      · obtain rfl : k = n := by omega
        obtain ⟨hq, hno⟩ := HQ3.out fun i hi => HALL.out i hi (by rw [HL.out]; exact hi)
        have HQ4 := Lib.hid hq
        have HNO := Lib.hid hno
        have HYE : Hid (∀ i (hi : i < l.length), endedR l l[i].tx i = true → q = 8) := Lib.hid fun i hi h => by
          rw [endedR_ends hno] at h
          rw [HQ4.out, overB_true i hi h, if_pos rfl]
        have HNE : Hid ((∀ i (hi : i < l.length), endedR l l[i].tx i = false) → q = 0) := Lib.hid fun h => by
          rw [HQ4.out, overB_false (fun i hi => by rw [← endedR_ends hno]; exact h i hi)]; simp
        clear hq hno HALL HQ4 HNO HQ3 HODD
        go_wp2_with fail
        go_loopw [49] (fun j wr => ∃ k2 : Nat, k2 ≤ k ∧ j = .int .i64 k2 ∧ Hid ((∀ i (hi : i < l.length), i < k2 → endedR l l[i].tx i = false) ∧ Below w.heap.size w wr)) (fun j _ => k - (intOf j).toNat)
        case atStart => exact ⟨0, Nat.zero_le _, rfl, Lib.hid ⟨fun i h hi => by omega, HB.out⟩⟩
        case round =>
          obtain ⟨W2, rfl⟩ : ∃ W2, W2 = wr := ⟨_, rfl⟩
          obtain ⟨k2, hk2, rfl, HS⟩ := hrel
          clear HB
          have HALL := Lib.hid HS.out.1
          have HB := Lib.hid HS.out.2
          clear HS
          by_cases hlt2 : k2 < k
          · have hlt' : k2 < l.length := by rw [← HL.out]; exact hlt2
            obtain ⟨g, off, rfl, hcA, hcB, hcD⟩ := (HR.out.below HB.out).at k2 hlt'
            have HNX := Lib.hid fun (h : endedR l l[k2].tx k2 = false) => (show ∀ i (hi : i < l.length), i < k2 + 1 → endedR l l[i].tx i = false from fun i hi hik => by
              by_cases e : i = k2
              · subst e; exact h
              · exact HALL.out i hi (by omega))
            have HY := Lib.hid (HYE.out k2 hlt')
            have M1 := Lib.hid (((Mem.nil w).below HB.out).block #[.int .i64 l[k2].kind, .int .i64 l[k2].tx, .string l[k2].key] 36)
            have HC := Lib.hid (HEN.out k2 l[k2].tx _ M1.out.bel (by omega))
            clear HALL HB
            generalize l[k2] = x at *
            obtain ⟨xk, xt, xy⟩ := x
            simp only at hcA hcB hcD M1 HNX HY HC
            obtain ⟨k0, k1, k2'⟩ := box_cells M1.out
            go_wp2_with fail
            refine HC.out.mono ?_
            rintro e w3 ⟨rfl, hb⟩
            have HBE := Lib.hid (M1.out.below hb).bel
            clear hb M1 HC k0 k1 k2'
            cases hen : endedR l xt k2 with
            | true =>
              have HX := Lib.hid (HY.out hen)
              clear HNX HY hen
              go_wp2_with fail
              go_ret
              exact ⟨by rw [HX.out]; rfl, HBE.out⟩
            | false =>
              have HX := Lib.hid (And.intro (HNX.out hen) HBE.out)
              clear HNX HY hen
              go_wp2_with fail
              go_roundw
              case rel => exact ⟨k2 + 1, by omega, by go_num, HX⟩
              case measure => simp [intOf]; omega
          · obtain rfl : k2 = k := by omega
            have HX := Lib.hid (And.intro (HNE.out fun i hi => HALL.out i hi (by rw [HL.out]; exact hi)) HB.out)
            clear HALL HB
            go_wp2_with fail
            go_ret
            exact ⟨by rw [HX.out.1]; rfl, HX.out.2⟩
end Go.Proofs.Ytbgabdofnmijnaa
