/- Plain law: rigorous, strict, cascadeless, recoverable; the order of commits. -/
import Derived.Test.YtbgabdofnmijnaaX
namespace Go.Proofs.Ytbgabdofnmijnaa
open Go.RowKit
theorem apartB_iff (l : List Mk) (T : Mk → Mk → Bool) (h0 : rightM l = 0) : apartB l T = true ↔ ∀ i (hi : i < l.length), ∀ j (hj : j < l.length), j < i → badB l T j i l[j] l[i] = false := by
  constructor
  · intro h i hi j hj hji
    cases hb : badB l T j i l[j] l[i] with
    | false => rfl
    | true => rw [apartB_false h0 i hi j hj hji hb] at h; cases h
  · exact apartB_true h0
theorem readsB_iff (l : List Mk) (H : Int → Int → Int → Bool) (h0 : rightM l = 0) : readsB l H = true ↔ ∀ i (hi : i < l.length), readOk l H i l[i] = true := by
  constructor
  · intro h i hi
    cases hb : readOk l H i l[i] with
    | true => rfl
    | false => rw [readsB_false h0 i hi hb] at h; cases h
  · exact readsB_true h0
theorem rig_str {l : List Mk} (h : apartB l rigT = true) : apartB l strT = true := by
  by_cases h0 : rightM l = 0
  · rw [apartB_iff _ _ h0] at h ⊢
    intro i hi j hj hji
    have := h i hi j hj hji
    cases hb : badB l strT j i l[j] l[i] with
    | false => rfl
    | true =>
      unfold badB strT rigT at *
      simp only [Bool.and_eq_true] at hb
      obtain ⟨⟨⟨⟨⟨a1, a2⟩, a3⟩, a4⟩, a5⟩, a6⟩ := hb
      rw [a1, a2, a3, a4, a5, a6] at this
      simp at this
  · rw [apartB_wrong h0] at h; cases h
theorem endsIn_iff (l : List Mk) (j i : Nat) (tx : Int) : endsIn l j i tx = true ↔ ∃ k, ∃ (hk : k < l.length), j ≤ k ∧ k < i ∧ l[k].tx = tx ∧ endB l[k] = true := by
  constructor
  · intro h
    cases hb : decide (∃ k, ∃ (hk : k < l.length), j ≤ k ∧ k < i ∧ (l[k].tx == tx && endB l[k]) = true) with
    | true =>
      obtain ⟨k, hk, h1, h2, h3⟩ := of_decide_eq_true hb
      simp only [Bool.and_eq_true, beq_iff_eq] at h3
      exact ⟨k, hk, h1, h2, h3⟩
    | false =>
      have hn := of_decide_eq_false hb
      rw [endsIn_false (l := l) (j := j) (i := i) (tx := tx) fun k hk h1 h2 => by
        cases hc : (l[k].tx == tx && endB l[k]) with
        | false => rfl
        | true => exact absurd ⟨k, hk, h1, h2, hc⟩ hn] at h
      cases h
  · rintro ⟨k, hk, h1, h2, h3, h4⟩
    exact endsIn_true k hk h1 h2 (by rw [h3, h4]; simp)
theorem place_lt {l : List Mk} (h : RightP l) {x : Int} {k : Nat} (hk : k < l.length) (h1 : l[k].kind = 3) (h2 : l[k].tx = x) : placeM l x = (k : Int) := by
  rcases place_spec h x with ⟨_, h3⟩ | ⟨i, hi, h3, h4, h5⟩
  · exact absurd ⟨h1, h2⟩ (h3 k hk)
  · rw [h3]
    rcases Nat.lt_trichotomy i k with h6 | h6 | h6
    · exact absurd (h5.trans h2.symm) (h.over i k hi hk h6 (endB_kind.2 (.inl h4)))
    · rw [h6]
    · exact absurd (h2.trans h5.symm) (h.over k i hk hi h6 (endB_kind.2 (.inl h1)))
theorem str_cas {l : List Mk} (h0 : rightM l = 0) (h : apartB l strT = true) : readsB l (casH l) = true := by
  have hR := ((right_iff l).1 h0).2
  rw [apartB_iff _ _ h0] at h
  rw [readsB_iff _ _ h0]
  intro i hi
  unfold readOk
  by_cases hk : l[i].kind = 1
  · rcases source_spec hR i hi with ⟨h1, _⟩ | ⟨j, hj, hji, hw, h1, h2⟩
    · rw [h1]; simp
    · by_cases he : l[j].tx = l[i].tx
      · rw [h1, he]; simp
      · have hb := h i hi j hj hji
        have hends : endsIn l j i l[j].tx = true := by
          cases hc : endsIn l j i l[j].tx with
          | true => rfl
          | false =>
            unfold badB strT at hb
            rw [hc, accB_kind.2 (.inl hk), accB_kind.2 (.inr hw.1), hw.1, show (l[j].tx == l[i].tx) = false by simpa using he, show (l[j].key.toList == l[i].key.toList) = true by simpa using hw.2.1] at hb
            simp at hb
        obtain ⟨k, hkk, h3, h4, h5, h6⟩ := (endsIn_iff l j i _).1 hends
        have h7 : l[k].kind = 3 := by
          rcases endB_kind.1 h6 with h7 | h7
          · exact h7
          · exact absurd h7 (hw.2.2 k hkk h4 h5)
        have h8 : casH l i l[i].tx (sourceM l i) = true := by
          unfold casH
          rw [h1, place_lt hR hkk h7 h5]
          simp; omega
        rw [h8]; simp
  · rw [show (l[i].kind == 1) = false by simpa using hk]; rfl
theorem cas_rec {l : List Mk} (h0 : rightM l = 0) (h : readsB l (casH l) = true) : readsB l (recH l) = true := by
  have hR := ((right_iff l).1 h0).2
  rw [readsB_iff _ _ h0] at h ⊢
  intro i hi
  have h1 := h i hi
  unfold readOk at h1 ⊢
  simp only [Bool.or_eq_true] at h1 ⊢
  rcases h1 with h1 | h1
  · exact .inl h1
  · by_cases hk : l[i].kind = 1
    · right
      unfold casH at h1
      unfold recH
      have h2 : placeM l (sourceM l i) < (i : Int) := by simpa using h1
      rw [Bool.or_eq_true]
      rcases place_spec hR l[i].tx with ⟨h3, _⟩ | ⟨k, hkk, h3, h4, h5⟩
      · left; rw [h3]; simp
      · right
        rw [h3, decide_eq_true_eq]
        have h6 : i ≤ k := by
          rcases Nat.lt_or_ge k i with h6 | h6
          · exact absurd h5 (hR.over k i hkk hi h6 (endB_kind.2 (.inl h4)))
          · exact h6
        omega
    · exact .inl (.inl (.inl (by rw [show (l[i].kind == 1) = false by simpa using hk]; rfl)))
/-- where a transaction's commit is, and one; 0: nowhere. -/
def plcF (l : List Mk) : Nat → Int → Int
  | 0, _ => 0
  | k + 1, x => if l[k]!.kind == 3 && l[k]!.tx == x then (k : Int) + 1 else plcF l k x
theorem plcF_succ (l : List Mk) (k : Nat) (x : Int) (hk : k < l.length) : plcF l (k + 1) x = if l[k].kind == 3 && l[k].tx == x then (k : Int) + 1 else plcF l k x := by
  rw [plcF, getElem!_pos l k hk]
theorem plcF_at {l : List Mk} (h : RightP l) {x : Int} {i : Nat} (hi : i < l.length) (h1 : l[i].kind = 3) (h2 : l[i].tx = x) : ∀ k, i < k → k ≤ l.length → plcF l k x = (i : Int) + 1
  | 0, hk, _ => by omega
  | k + 1, hk, hkl => by
    rw [plcF_succ l k x (by omega)]
    by_cases e : i = k
    · subst e; rw [if_pos (by rw [h1, h2]; simp)]
    · rw [if_neg, plcF_at h hi h1 h2 k (by omega) (by omega)]
      intro hc
      simp only [Bool.and_eq_true, beq_iff_eq] at hc
      exact h.over i k hi (by omega) (by omega) (endB_kind.2 (.inl h1)) (h2.trans hc.2.symm)
theorem meet_parts {l : List Mk} {x y : Mk} (h : meetB l x y = true) : x.tx ≠ y.tx ∧ accB x = true ∧ accB y = true ∧ x.key.toList = y.key.toList ∧ (x.kind = 2 ∨ y.kind = 2) ∧ liveB l x.tx = true ∧ liveB l y.tx = true := by
  unfold meetB clashB at h
  simp only [Bool.and_eq_true, Bool.not_eq_true', beq_eq_false_iff_ne, beq_iff_eq, Bool.or_eq_true] at h
  exact ⟨h.1.1.1.1.1.1, h.1.1.1.1.1.2, h.1.1.1.1.2, h.1.1.1.2, h.1.1.2, h.1.2, h.2⟩
theorem rig_edges {l : List Mk} (h0 : rightM l = 0) (h : apartB l rigT = true) (hend : ∀ m ∈ l, endedR l m.tx l.length = true) {x y : Int} (he : EdgeP l x y) : plcF l l.length x ≠ 0 ∧ plcF l l.length x < plcF l l.length y := by
  have hR := ((right_iff l).1 h0).2
  rw [apartB_iff _ _ h0] at h
  obtain ⟨i, j, hi, hj, hji, hm, rfl, rfl⟩ := he
  obtain ⟨p1, p2, p3, p4, p5, p6, p7⟩ := meet_parts hm
  have hends : endsIn l j i l[j].tx = true := by
    cases hc : endsIn l j i l[j].tx with
    | true => rfl
    | false =>
      have hb := h i hi j hj hji
      unfold badB rigT at hb
      rw [hc, p2, p3, show (l[j].tx == l[i].tx) = false by simpa using p1, show (l[j].key.toList == l[i].key.toList) = true by simpa using p4, show (l[j].kind == 2 || l[i].kind == 2) = true by simpa using p5] at hb
      simp at hb
  obtain ⟨k, hk, h1, h2, h3, h4⟩ := (endsIn_iff l j i _).1 hends
  have h5 : l[k].kind = 3 := by
    rcases endB_kind.1 h4 with h5 | h5
    · exact h5
    · exact absurd h5 ((live_iff hR _).1 p6 k hk h3)
  rw [plcF_at hR hk h5 h3 l.length hk (Nat.le_refl _)]
  have hen := hend l[i] (List.getElem_mem hi)
  rw [endedR_ends hR.odd, endsB_iff] at hen
  obtain ⟨q, hq, _, h6, h7⟩ := hen
  have h8 : l[q].kind = 3 := by
    rcases endB_kind.1 h7 with h8 | h8
    · exact h8
    · exact absurd h8 ((live_iff hR _).1 p7 q hq h6)
  rw [plcF_at hR hq h8 h6 l.length hq (Nat.le_refl _)]
  have h9 : i ≤ q := by
    rcases Nat.lt_or_ge q i with h9 | h9
    · exact absurd h6 (hR.over q i hq hi h9 h7)
    · exact h9
  omega
theorem mem_erase_ne {l : List Int} {i : Nat} (hi : i < l.length) {x : Int} (h : x ∈ l) (hne : x ≠ l[i]) : x ∈ l.eraseIdx i := by
  rw [List.eraseIdx_eq_take_drop_succ]
  obtain ⟨j, hj, rfl⟩ := List.getElem_of_mem h
  rw [List.mem_append]
  rcases Nat.lt_trichotomy j i with h1 | h1 | h1
  · exact .inl (List.mem_iff_getElem.2 ⟨j, by rw [List.length_take]; omega, by rw [List.getElem_take]⟩)
  · subst h1; exact absurd rfl hne
  · exact .inr (List.mem_iff_getElem.2 ⟨j - (i + 1), by rw [List.length_drop]; omega, by rw [List.getElem_drop]; congr 1; omega⟩)
theorem min_rank (r : Int → Int) : ∀ (l : List Int), l ≠ [] → ∃ x ∈ l, ∀ y ∈ l, r x ≤ r y
  | [], h => absurd rfl h
  | [a], _ => ⟨a, by simp, fun y hy => by rw [List.mem_singleton.1 hy]; exact Int.le_refl _⟩
  | a :: b :: t, _ => by
    obtain ⟨x, hx, h⟩ := min_rank r (b :: t) (by simp)
    by_cases hle : r a ≤ r x
    · refine ⟨a, by simp, fun y hy => ?_⟩
      rcases List.mem_cons.1 hy with rfl | hy
      · exact Int.le_refl _
      · have := h y hy; omega
    · refine ⟨x, List.mem_cons_of_mem _ hx, fun y hy => ?_⟩
      rcases List.mem_cons.1 hy with rfl | hy
      · omega
      · exact h y hy
/-- where all edges rise there is an order. -/
theorem ord_some (r : Int → Int) : ∀ (n : Nat) (left : List Int) (E : List Eg), left.length = n → (∀ e ∈ E, e.a ∈ left ∧ r e.a < r e.b) → ∃ P, ordR left E = some P
  | 0, left, E, hn, _ => by
    obtain rfl : left = [] := List.length_eq_zero_iff.1 hn
    exact ⟨[], rfl⟩
  | n + 1, left, E, hn, hE => by
    obtain ⟨x, hx, hmin⟩ := min_rank r left (by intro h; rw [h] at hn; simp at hn)
    have hfx : freeB E x = true := by
      unfold freeB
      rw [Bool.not_eq_true', List.any_eq_false]
      intro e he hb
      have hb' : e.b = x := by simpa using hb
      have h1 := hE e he
      have h2 := hmin e.a h1.1
      rw [hb'] at h1
      omega
    cases hf : left.findIdx? (freeB E) with
    | none => have := List.findIdx?_eq_none_iff.1 hf x hx; rw [hfx] at this; cases this
    | some i =>
      obtain ⟨hi, hp, hb⟩ := List.findIdx?_eq_some_iff_getElem.1 hf
      rw [ordR_some hi (fun j hj hji => by simpa using hb j hji) hp]
      obtain ⟨P, hP⟩ := ord_some r n (left.eraseIdx i) (outE E left[i]) (by rw [List.length_eraseIdx]; simp [hi]; omega) fun e he => by
        unfold outE at he
        obtain ⟨h1, h2⟩ := List.mem_filter.1 he
        have h3 := hE e h1
        exact ⟨mem_erase_ne hi h3.1 (by simpa using h2), h3.2⟩
      exact ⟨left[i] :: P, by rw [hP]; rfl⟩
theorem edge_live {l : List Mk} {x y : Int} (h : EdgeP l x y) : x ∈ allM l ∧ y ∈ allM l ∧ x ≠ y := by
  obtain ⟨i, j, hi, hj, hji, hm, rfl, rfl⟩ := h
  obtain ⟨p1, _, _, _, _, p6, p7⟩ := meet_parts hm
  exact ⟨(allM_mem l _).2 ⟨p6, _, List.getElem_mem hj, rfl⟩, (allM_mem l _).2 ⟨p7, _, List.getElem_mem hi, rfl⟩, p1⟩
theorem rig_order {l : List Mk} (h0 : rightM l = 0) (h : apartB l rigT = true) (hend : ∀ m ∈ l, endedR l m.tx l.length = true) {O : List Int} {ok : Bool} (ho : IsOrder l O ok) : ok = true := by
  unfold IsOrder at ho
  rw [if_pos h0] at ho
  obtain ⟨E, h1, h2⟩ := ho
  obtain ⟨k1, _⟩ := isEdges_ok h0 h1
  obtain ⟨P, hP⟩ := ord_some (plcF l l.length) _ (allM l) E rfl fun e he => by
    have h3 := (k1 e).1 he
    exact ⟨(edge_live h3).1, (rig_edges h0 h hend h3).2⟩
  rw [hP] at h2
  exact h2.2
end Go.Proofs.Ytbgabdofnmijnaa
