/- The document's Cascadeless, Recoverable, Apart, walked; they are the program's. -/
import Derived.Test.YtbgabdofnmijnaaAJ
namespace Go.Proofs.Ytbgabdofnmijnaa
open Go.RowKit
theorem source_rng {l : List Mk} (h : RightP l) (p : Nat) (hp : p < l.length) : -1 ≤ sourceM l p := by
  rcases source_spec h p hp with ⟨h1, _⟩ | ⟨j, hj, _, _, h1, _⟩
  · omega
  · rw [h1]; have := (nodd (h.odd _ (List.getElem_mem hj))).2; omega
theorem isR_place {l : List Mk} (h : RightP l) (x : Int) (k : Nat) (hk : k ≤ l.length) : isR l 3 x k = decide (placeM l x < (k : Int)) := by
  rw [Bool.eq_iff_iff, isR_iff, decide_eq_true_eq]
  rcases place_spec h x with ⟨h1, h2⟩ | ⟨i, hi, h1, h2, h3⟩
  · rw [h1]
    constructor
    · rintro ⟨j, hj, hjk, e1, e2⟩; exact absurd ⟨e2, e1⟩ (h2 j hj)
    · intro h4; omega
  · rw [h1]
    constructor
    · rintro ⟨j, hj, hjk, e1, e2⟩
      have := place_lt h hj e2 e1
      omega
    · intro h4; exact ⟨i, hi, by omega, h3, h2⟩
/-- of a reading: cascadeless, as the document says it. -/
def casR (l : List Mk) (i : Nat) (m : Mk) : Bool := !(m.kind == 1) || !(decide (0 ≤ sourceM l i) && (sourceM l i != m.tx) && !isR l 3 (sourceM l i) i)
theorem casR_eq {l : List Mk} (h : RightP l) (i : Nat) (hi : i < l.length) : casR l i l[i] = readOk l (casH l) i l[i] := by
  unfold casR readOk casH
  rw [isR_place h _ i (by omega)]
  have := source_rng h i hi
  by_cases h1 : sourceM l i = -1
  · rw [h1]; simp
  · have h2 : 0 ≤ sourceM l i := by omega
    rw [decide_eq_true h2, show (sourceM l i == -1) = false by simpa using h1, Bool.true_and, bne]
    cases l[i].kind == 1 <;> cases sourceM l i == l[i].tx <;> cases decide (placeM l (sourceM l i) < (i : Int)) <;> rfl
def recR (l : List Mk) (i : Nat) (m : Mk) : Bool := !(m.kind == 1) || (decide (sourceM l i < 0) || sourceM l i == m.tx) || (List.range l.length).all fun j => !(l[j]!.kind == 3 && l[j]!.tx == m.tx && !isR l 3 (sourceM l i) j)
theorem recR_eq {l : List Mk} (h : RightP l) (i : Nat) (hi : i < l.length) : recR l i l[i] = readOk l (recH l) i l[i] := by
  unfold recR readOk
  have hs := source_rng h i hi
  by_cases h1 : sourceM l i = -1
  · rw [h1]; simp
  · have h2 : ¬ sourceM l i < 0 := by omega
    rw [decide_eq_false h2, show (sourceM l i == -1) = false by simpa using h1, Bool.false_or, Bool.or_false]
    congr 1
    rw [Bool.eq_iff_iff]
    unfold recH
    rw [List.all_eq_true, Bool.or_eq_true, beq_iff_eq, decide_eq_true_eq]
    rcases place_spec h l[i].tx with ⟨p1, p2⟩ | ⟨k, hk, p1, p2, p3⟩
    · refine ⟨fun _ => .inl p1, fun _ j hj => ?_⟩
      have hj' : j < l.length := List.mem_range.1 hj
      rw [getElem!_pos l j hj']
      cases hc : (l[j].kind == 3 && l[j].tx == l[i].tx) with
      | false => rfl
      | true =>
        simp only [Bool.and_eq_true, beq_iff_eq] at hc
        exact absurd hc (p2 j hj')
    · rw [p1]
      constructor
      · intro hall
        right
        have h3 := hall k (List.mem_range.2 hk)
        rw [getElem!_pos l k hk, p2, p3, isR_place h _ k (by omega)] at h3
        simpa using h3
      · rintro (h3 | h3)
        · omega
        · intro j hj
          have hj' : j < l.length := List.mem_range.1 hj
          rw [getElem!_pos l j hj']
          cases hc : (l[j].kind == 3 && l[j].tx == l[i].tx) with
          | false => rfl
          | true =>
            simp only [Bool.and_eq_true, beq_iff_eq] at hc
            have h4 := place_lt h hj' hc.1 hc.2
            rw [isR_place h _ j (by omega), decide_eq_true (by omega)]; rfl
def badR (l : List Mk) (rd : Bool) (i : Nat) (x y : Mk) : Bool := !(decide (2 < y.kind) || decide (2 < x.kind) || x.tx == y.tx || !(x.key.toList == y.key.toList) || endedR l x.tx i) && (x.kind == 2 || rd && y.kind == 2)
theorem acc_le {m : Mk} (h : oddB m = false) : accB m = !decide (2 < m.kind) := by
  have := (nodd h).1
  rw [Bool.eq_iff_iff, accB_kind, Bool.not_eq_true', decide_eq_false_iff_not]
  omega
theorem ended_in {l : List Mk} (h : RightP l) (j i : Nat) (hj : j < l.length) (hji : j < i) : endedR l l[j].tx i = endsIn l j i l[j].tx := by
  rw [endedR_ends h.odd, Bool.eq_iff_iff, endsB_iff, endsIn_iff]
  constructor
  · rintro ⟨k, hk, hki, h1, h2⟩
    refine ⟨k, hk, ?_, hki, h1, h2⟩
    rcases Nat.lt_or_ge k j with h3 | h3
    · exact absurd h1 (h.over k j hk hj h3 h2)
    · exact h3
  · rintro ⟨k, hk, _, hki, h1, h2⟩; exact ⟨k, hk, hki, h1, h2⟩
theorem badR_str {l : List Mk} (h : RightP l) (j i : Nat) (hj : j < l.length) (hi : i < l.length) (hji : j < i) : badR l false i l[j] l[i] = badB l strT j i l[j] l[i] := by
  unfold badR badB strT
  rw [ended_in h j i hj hji, acc_le (h.odd _ (List.getElem_mem hj)), acc_le (h.odd _ (List.getElem_mem hi))]
  cases decide (2 < l[i].kind) <;> cases decide (2 < l[j].kind) <;> cases l[j].tx == l[i].tx <;> cases l[j].key.toList == l[i].key.toList <;> cases endsIn l j i l[j].tx <;> cases l[j].kind == 2 <;> rfl
theorem badR_rig {l : List Mk} (h : RightP l) (j i : Nat) (hj : j < l.length) (hi : i < l.length) (hji : j < i) : badR l true i l[j] l[i] = badB l rigT j i l[j] l[i] := by
  unfold badR badB rigT
  rw [ended_in h j i hj hji, acc_le (h.odd _ (List.getElem_mem hj)), acc_le (h.odd _ (List.getElem_mem hi))]
  cases decide (2 < l[i].kind) <;> cases decide (2 < l[j].kind) <;> cases l[j].tx == l[i].tx <;> cases l[j].key.toList == l[i].key.toList <;> cases endsIn l j i l[j].tx <;> cases l[j].kind == 2 <;> cases l[i].kind == 2 <;> rfl
set_option maxRecDepth 100000 in
set_option maxHeartbeats 8000000 in
theorem rcasc_any (a : Option Addr) (n c : Nat) (l : List Mk) (w : World) (hr : MksAt w a n l) (hn : n ≤ 1000) (hnc : n ≤ c) (h0 : rightM l = 0) :
    Calls Try.prog 26 #[.slice a n c] w fun e w' => e = .returned (.bool (readsB l (casH l))) ∧ Below w.heap.size w w' := by
  have hR := ((right_iff l).1 h0).2
  have HSRC := Lib.hid fun k W (hb : Below w.heap.size w W) (hk : k < n) => rsource_any a n c l k W (hr.below hb) hn hnc hk hR
  have HIS := Lib.hid fun tx k W (hb : Below w.heap.size w W) (hk : k ≤ n) => is_any a n c l 3 tx k W (hr.below hb) hn hnc hk
  have HL := Lib.hid hr.1
  have HR := Lib.hid hr
  have HOK : Hid ((∀ i (h : i < l.length), casR l i l[i] = true) → readsB l (casH l) = true) := Lib.hid fun h => readsB_true h0 fun i hi => by rw [← casR_eq hR i hi]; exact h i hi
  have HNO : Hid (∀ i (h : i < l.length), casR l i l[i] = false → readsB l (casH l) = false) := Lib.hid fun i hi h => readsB_false h0 i hi (by rw [← casR_eq hR i hi]; exact h)
  have HRG := Lib.hid fun i (hi : i < l.length) => source_rng hR i hi
  clear hr h0 hR
  generalize hrb : readsB l (casH l) = rb at *
  clear hrb
  go_enter Try.func26, Try.ntmps26
  go_wp2_with fail
  go_loopw [8] (fun j wr => ∃ k : Nat, k ≤ n ∧ j = .int .i64 k ∧ Hid ((∀ i (h : i < l.length), i < k → casR l i l[i] = true) ∧ Mem w [] wr [])) (fun j _ => n - (intOf j).toNat)
  case atStart => exact ⟨0, Nat.zero_le _, rfl, Lib.hid ⟨fun i h hi => by omega, Mem.nil w⟩⟩
  case round =>
    obtain ⟨W1, rfl⟩ : ∃ W1, W1 = wr := ⟨_, rfl⟩
    obtain ⟨k, hk, rfl, HS⟩ := hrel
    have HALL := Lib.hid HS.out.1
    have M1 := Lib.hid HS.out.2
    clear HS
    by_cases hlt : k < n
    · have hlt' : k < l.length := by rw [← HL.out]; exact hlt
      obtain ⟨g, off, rfl, hcA, hcB, hcD⟩ := (HR.out.below M1.out.bel).at k hlt'
      have HNX := Lib.hid fun (h : casR l k l[k] = true) => (show ∀ i (h : i < l.length), i < k + 1 → casR l i l[i] = true from fun i hi hik => by
        by_cases e : i = k
        · subst e; exact h
        · exact HALL.out i hi (by omega))
      have HBAD := Lib.hid (HNO.out k hlt')
      have hrg := HRG.out k hlt'
      have M2 := Lib.hid (M1.out.block #[.int .i64 l[k].kind, .int .i64 l[k].tx, .string l[k].key] 36)
      have H1 := Lib.hid (HSRC.out k _ M2.out.bel hlt)
      have HIS1 := Lib.hid fun tx W hb => HIS.out tx k W hb (by omega)
      unfold casR at HNX HBAD
      clear HALL M1
      generalize l[k] = x at *
      obtain ⟨xk, xt, xy⟩ := x
      simp only at hcA hcB hcD M2 HNX HBAD H1
      obtain ⟨k0, k1, k2⟩ := box_cells M2.out
      by_cases h1 : xk = 1
      · subst h1
        generalize sourceM l k = sv at *
        go_wp2_with fail
        refine H1.out.mono ?_
        rintro e w2 ⟨rfl, hb⟩
        have M3 := Lib.hid (M2.out.below hb)
        clear hb M2 k0 k1 k2 H1
        obtain ⟨k0, k1, k2⟩ := box_cells M3.out
        by_cases h2 : 0 ≤ sv
        · by_cases h3 : sv = xt
          · have h3' : (sv != xt) = false := by simpa using h3
            have HX := Lib.hid (And.intro (HNX.out (by rw [h3']; simp)) (Mem.drop [] (A := BlockA W1.heap.size #[.int .i64 1, .int .i64 xt, .string xy] 36) (r := []) M3.out))
            clear HNX HBAD M3 h3
            go_wp2_with fail
            go_roundw
            case rel => exact ⟨k + 1, by omega, by go_num, HX⟩
            case measure => simp [intOf]; omega
          · have h3' : (sv != xt) = true := by simpa using h3
            have H2 := Lib.hid (HIS1.out sv w2 M3.out.bel)
            cases hh : isR l 3 sv k with
            | true =>
              rw [hh] at H2
              have HNX2 := Lib.hid (HNX.out (by rw [hh]; simp))
              clear HNX HBAD h3 hh
              go_wp2_with fail
              refine H2.out.mono ?_
              rintro e w3 ⟨rfl, hb⟩
              have HX := Lib.hid (And.intro HNX2.out (Mem.drop [] (A := BlockA W1.heap.size #[.int .i64 1, .int .i64 xt, .string xy] 36) (r := []) (M3.out.below hb)))
              clear hb HNX2 M3 H2
              go_wp2_with fail
              go_roundw
              case rel => exact ⟨k + 1, by omega, by go_num, HX⟩
              case measure => simp [intOf]; omega
            | false =>
              rw [hh] at H2
              have HB2 := Lib.hid (HBAD.out (by rw [hh, h3', decide_eq_true h2]; rfl))
              clear HNX HBAD h3 hh
              go_wp2_with fail
              refine H2.out.mono ?_
              rintro e w3 ⟨rfl, hb⟩
              have HX := Lib.hid ((M3.out.below hb).bel)
              clear hb M3 H2
              go_wp2_with fail
              go_ret
              exact ⟨by rw [HB2.out]; rfl, HX.out⟩
        · have HX := Lib.hid (And.intro (HNX.out (by rw [decide_eq_false h2]; simp)) (Mem.drop [] (A := BlockA W1.heap.size #[.int .i64 1, .int .i64 xt, .string xy] 36) (r := []) M3.out))
          clear HNX HBAD M3
          go_wp2_with fail
          go_roundw
          case rel => exact ⟨k + 1, by omega, by go_num, HX⟩
          case measure => simp [intOf]; omega
      · have h1' : (xk == 1) = false := by simpa using h1
        have HX := Lib.hid (And.intro (HNX.out (by rw [h1']; rfl)) (Mem.drop [] (A := BlockA W1.heap.size #[.int .i64 xk, .int .i64 xt, .string xy] 36) (r := []) M2.out))
        clear HNX HBAD M2 h1 H1
        go_wp2_with fail
        go_roundw
        case rel => exact ⟨k + 1, by omega, by go_num, HX⟩
        case measure => simp [intOf]; omega
    · obtain rfl : k = n := by omega
      have HX := Lib.hid (And.intro (HOK.out fun i hi => HALL.out i hi (by rw [HL.out]; exact hi)) M1.out.bel)
      clear HALL M1
      go_wp2_with fail
      go_ret
      exact ⟨by rw [HX.out.1]; rfl, HX.out.2⟩
end Go.Proofs.Ytbgabdofnmijnaa
