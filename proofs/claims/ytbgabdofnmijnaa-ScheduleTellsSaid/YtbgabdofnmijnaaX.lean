/- Plain laws: rising lists; edges; fates; sources. -/
import Derived.Test.YtbgabdofnmijnaaV
namespace Go.Proofs.Ytbgabdofnmijnaa
open Go.RowKit
theorem compact_snoc (zs : List Int) (x : Int) : Lib.compact (zs ++ [x]) = Lib.compact zs ++ (if zs.getLast? = some x then [] else [x]) := by
  have hget : ∀ j, j < zs.length → (zs ++ [x]).toArray[j]! = zs.toArray[j]! := fun j hj => by
    rw [getElem!_pos _ j (by simp; omega), getElem!_pos _ j (by simpa using hj)]
    simp [List.getElem_append_left hj]
  unfold Lib.compact
  rw [List.length_append, List.length_singleton, Lib.compactUpTo_succ]
  congr 1
  · unfold Lib.compactUpTo
    have h1 : (List.range zs.length).filter (Lib.keeps (zs ++ [x]).toArray) = (List.range zs.length).filter (Lib.keeps zs.toArray) := by
      refine List.filter_congr fun j hj => ?_
      have hj := List.mem_range.1 hj
      unfold Lib.keeps
      rw [hget j hj]
      by_cases h0 : j = 0
      · subst h0; simp
      · rw [hget (j - 1) (by omega)]
    rw [h1]
    refine List.map_congr_left fun j hj => hget j (List.mem_range.1 (List.mem_filter.1 hj).1)
  · have hx : (zs ++ [x]).toArray[zs.length]! = x := by
      rw [getElem!_pos _ zs.length (by simp)]; simp
    rw [hx]
    unfold Lib.keeps
    rw [hx]
    by_cases h0 : zs.length = 0
    · obtain rfl := List.eq_nil_of_length_eq_zero h0
      simp
    · rw [hget (zs.length - 1) (by omega), getElem!_pos _ (zs.length - 1) (by simp; omega)]
      have hl : zs.getLast? = some (zs[zs.length - 1]'(by omega)) := by
        rw [List.getLast?_eq_getElem?, List.getElem?_eq_getElem (by omega)]
      rw [hl]
      by_cases e : x = zs[zs.length - 1]'(by omega)
      · simp [h0, ← e]
      · have e2 : ¬ zs[zs.length - 1]'(by omega) = x := fun h => e h.symm
        simp [e, e2]
theorem snoc_ind {p : List Int → Prop} (h0 : p []) (h1 : ∀ l x, p l → p (l ++ [x])) (zs : List Int) : p zs := by
  have h : ∀ l : List Int, p l.reverse := fun l => by
    induction l with
    | nil => exact h0
    | cons x r ih => rw [List.reverse_cons]; exact h1 _ _ ih
  have := h zs.reverse
  rwa [List.reverse_reverse] at this
theorem compact_sorted (zs : List Int) : zs.Pairwise (· ≤ ·) → (∀ x, x ∈ Lib.compact zs ↔ x ∈ zs) ∧ (Lib.compact zs).Pairwise (· < ·) := by
  refine snoc_ind (p := fun zs => zs.Pairwise (· ≤ ·) → (∀ x, x ∈ Lib.compact zs ↔ x ∈ zs) ∧ (Lib.compact zs).Pairwise (· < ·)) (fun _ => ⟨fun x => by simp [Lib.compact, Lib.compactUpTo], by simp [Lib.compact, Lib.compactUpTo]⟩) (fun zs x ih h => ?_) zs
  obtain ⟨h1, -, h2⟩ := List.pairwise_append.1 h
  obtain ⟨i1, i2⟩ := ih h1
  rw [compact_snoc]
  split
  · rename_i hl
    have hm : x ∈ zs := List.mem_of_getLast? hl
    rw [List.append_nil]
    refine ⟨fun y => ?_, i2⟩
    rw [i1, List.mem_append]
    constructor
    · exact .inl
    · rintro (h | h)
      · exact h
      · rw [List.mem_singleton.1 h]; exact hm
  · rename_i hl
    refine ⟨fun y => by rw [List.mem_append, List.mem_append, i1], List.pairwise_append.2 ⟨i2, List.pairwise_singleton _ _, fun y hy z hz => ?_⟩⟩
    obtain rfl := List.mem_singleton.1 hz
    have hy := (i1 y).1 hy
    have hle := h2 y hy z (by simp)
    have hne : y ≠ z := by
      rintro rfl
      obtain ⟨q, hq⟩ : ∃ q, zs.getLast? = some q := by
        cases zs with
        | nil => cases hy
        | cons a t => exact ⟨_, List.getLast?_eq_some_getLast (by simp)⟩
      have hqm : q ∈ zs := List.mem_of_getLast? hq
      have h3 := h2 q hqm y (by simp)
      have h4 : y ≤ q := by
        have hlast := List.getLast?_eq_some_iff.1 hq
        obtain ⟨t, rfl⟩ := hlast
        rcases List.mem_append.1 hy with h5 | h5
        · exact (List.pairwise_append.1 h1).2.2 y h5 q (by simp)
        · rw [List.mem_singleton.1 h5]; exact Int.le_refl _
      exact hl (by rw [hq]; congr 1; omega)
    omega
theorem sortI_sorted (l : List Int) : (sortI l).Pairwise (· ≤ ·) := by
  have := List.pairwise_mergeSort (le := fun x y : Int => decide (x ≤ y)) (fun a b c h1 h2 => by simp at *; omega) (fun a b => by simp; omega) l
  exact this.imp fun h => by simpa using h
theorem rise_mem {l : List Int} {x : Int} : x ∈ riseI l ↔ x ∈ l := by
  unfold riseI
  rw [(compact_sorted _ (sortI_sorted l)).1]
  exact (List.mergeSort_perm l _).mem_iff
theorem rise_strict (l : List Int) : (riseI l).Pairwise (· < ·) := (compact_sorted _ (sortI_sorted l)).2
theorem strict_ext : ∀ {a b : List Int}, a.Pairwise (· < ·) → b.Pairwise (· < ·) → (∀ x, x ∈ a ↔ x ∈ b) → a = b
  | [], [], _, _, _ => rfl
  | [], y :: b, _, _, h => by have := (h y).2 (by simp); cases this
  | x :: a, [], _, _, h => by have := (h x).1 (by simp); cases this
  | x :: a, y :: b, ha, hb, h => by
    obtain ⟨a1, a2⟩ := List.pairwise_cons.1 ha
    obtain ⟨b1, b2⟩ := List.pairwise_cons.1 hb
    have e : x = y := by
      rcases List.mem_cons.1 ((h x).1 (by simp)) with e | e
      · exact e
      · rcases List.mem_cons.1 ((h y).2 (by simp)) with e2 | e2
        · exact e2.symm
        · have := a1 y e2; have := b1 x e; omega
    subst e
    rw [strict_ext a2 b2 fun z => ?_]
    have hz := h z
    rw [List.mem_cons, List.mem_cons] at hz
    constructor
    · intro h1
      rcases hz.1 (.inr h1) with h2 | h2
      · have := a1 z h1; omega
      · exact h2
    · intro h1
      rcases hz.2 (.inr h1) with h2 | h2
      · have := b1 z h1; omega
      · exact h2

/-- ahead of each other. -/
def EgLt (x y : Eg) : Prop := x.a < y.a ∨ (x.a = y.a ∧ x.b < y.b)
theorem eg_ext {x y : Eg} (h1 : x.a = y.a) (h2 : x.b = y.b) : x = y := by
  obtain ⟨a, b⟩ := x; obtain ⟨c, d⟩ := y; simp only at h1 h2; subst h1 h2; rfl
theorem eg_strict_ext : ∀ {a b : List Eg}, a.Pairwise EgLt → b.Pairwise EgLt → (∀ x, x ∈ a ↔ x ∈ b) → a = b
  | [], [], _, _, _ => rfl
  | [], y :: b, _, _, h => by have := (h y).2 (by simp); cases this
  | x :: a, [], _, _, h => by have := (h x).1 (by simp); cases this
  | x :: a, y :: b, ha, hb, h => by
    obtain ⟨a1, a2⟩ := List.pairwise_cons.1 ha
    obtain ⟨b1, b2⟩ := List.pairwise_cons.1 hb
    have e : x = y := by
      rcases List.mem_cons.1 ((h x).1 (by simp)) with e | e
      · exact e
      · rcases List.mem_cons.1 ((h y).2 (by simp)) with e2 | e2
        · exact e2.symm
        · have h1 := a1 y e2; have h2 := b1 x e; unfold EgLt at h1 h2; omega
    subst e
    rw [eg_strict_ext a2 b2 fun z => ?_]
    have hz := h z
    rw [List.mem_cons, List.mem_cons] at hz
    constructor
    · intro h1
      rcases hz.1 (.inr h1) with h2 | h2
      · subst h2; have := a1 z h1; unfold EgLt at this; omega
      · exact h2
    · intro h1
      rcases hz.2 (.inr h1) with h2 | h2
      · subst h2; have := b1 z h1; unfold EgLt at this; omega
      · exact h2
theorem cptUp_ok {l : List Eg} (hs : EgUp l) : ∀ j, j ≤ l.length → (∀ x, x ∈ cptUp l j ↔ x ∈ l.take j) ∧ (cptUp l j).Pairwise EgLt
  | 0, _ => by simp [cptUp]
  | j + 1, hj => by
    obtain ⟨i1, i2⟩ := cptUp_ok hs j (by omega)
    have hj' : j < l.length := by omega
    rcases Nat.eq_zero_or_pos j with rfl | h0
    · rw [cptUp_one l hj', List.take_succ_eq_append_getElem hj']
      exact ⟨fun x => Iff.rfl, by simp⟩
    · rw [cptUp_step l j hj' h0, List.take_succ_eq_append_getElem hj']
      have hp : ¬ EgLt l[j] l[j - 1] := by
        have := List.pairwise_iff_getElem.1 hs (j - 1) j (by omega) hj' (by omega)
        rw [egC_neg] at this; exact this
      by_cases hq : eqE l[j] l[j - 1] = false
      · rw [if_pos hq]
        refine ⟨fun x => by rw [List.mem_append, List.mem_append, i1], List.pairwise_append.2 ⟨i2, by simp, fun y hy z hz => ?_⟩⟩
        obtain rfl := List.mem_singleton.1 hz
        have hy := (i1 y).1 hy
        obtain ⟨i, hi, rfl⟩ := List.mem_iff_getElem.1 hy
        rw [List.length_take] at hi
        rw [List.getElem_take]
        have h1 : ¬ EgLt l[j] l[i] := by
          have := List.pairwise_iff_getElem.1 hs i j (by omega) hj' (by omega)
          rw [egC_neg] at this; exact this
        have h2 : i = j - 1 ∨ ¬ EgLt l[j - 1] l[i] := by
          by_cases e : i = j - 1
          · exact .inl e
          · right
            have := List.pairwise_iff_getElem.1 hs i (j - 1) (by omega) (by omega) (by omega)
            rw [egC_neg] at this; exact this
        have h3 : ¬ (l[j].a = l[j - 1].a ∧ l[j].b = l[j - 1].b) := by
          unfold eqE at hq
          intro h
          rw [h.1, h.2] at hq
          simp at hq
        unfold EgLt at *
        rcases h2 with rfl | h2
        · omega
        · omega
      · rw [if_neg hq, List.append_nil]
        refine ⟨fun x => ?_, i2⟩
        rw [i1, List.mem_append]
        constructor
        · exact .inl
        · rintro (h | h)
          · exact h
          · rw [List.mem_singleton.1 h]
            have he : l[j] = l[j - 1] := by
              unfold eqE at hq
              simp only [Bool.not_eq_false, Bool.and_eq_true, beq_iff_eq] at hq
              exact eg_ext hq.1 hq.2
            rw [he]
            exact List.mem_iff_getElem.2 ⟨j - 1, by rw [List.length_take]; omega, by rw [List.getElem_take]⟩
/-- is there such an edge? -/
def EdgeP (l : List Mk) (x y : Int) : Prop := ∃ i j, ∃ (hi : i < l.length) (hj : j < l.length), j < i ∧ meetB l l[j] l[i] = true ∧ l[j].tx = x ∧ l[i].tx = y
theorem edUp_mem (l : List Mk) (e : Eg) : e ∈ edUp l l.length ↔ EdgeP l e.a e.b := by
  unfold edUp edIn
  simp only [List.mem_flatMap, List.mem_range, List.mem_map, List.mem_filter]
  constructor
  · rintro ⟨i, hi, m, ⟨hm, hmt⟩, rfl⟩
    rw [getElem!_pos l i hi] at hmt ⊢
    obtain ⟨j, hj, rfl⟩ := List.mem_iff_getElem.1 hm
    rw [List.length_take] at hj
    rw [List.getElem_take] at hmt ⊢
    exact ⟨i, j, hi, by omega, by omega, hmt, rfl, rfl⟩
  · rintro ⟨i, j, hi, hj, hji, hmt, h1, h2⟩
    refine ⟨i, hi, l[j], ⟨List.mem_iff_getElem.2 ⟨j, by rw [List.length_take]; omega, by rw [List.getElem_take]⟩, by rw [getElem!_pos l i hi]; exact hmt⟩, ?_⟩
    rw [getElem!_pos l i hi]
    exact eg_ext h1 h2
theorem isEdges_ok {l : List Mk} {E : List Eg} (h0 : rightM l = 0) (h : IsEdges l E) : (∀ e, e ∈ E ↔ EdgeP l e.a e.b) ∧ E.Pairwise EgLt := by
  unfold IsEdges at h
  rw [if_pos h0] at h
  obtain ⟨S, h1, h2, rfl⟩ := h
  obtain ⟨k1, k2⟩ := cptUp_ok h2 S.length (Nat.le_refl _)
  refine ⟨fun e => ?_, k2⟩
  show e ∈ cptUp S S.length ↔ _
  rw [k1, List.take_length, h1.mem_iff, edUp_mem]
theorem allM_mem (l : List Mk) (x : Int) : x ∈ allM l ↔ liveB l x = true ∧ ∃ m ∈ l, m.tx = x := by
  unfold allM
  rw [rise_mem]
  unfold allUp
  rw [List.take_length]
  simp only [List.mem_map, List.mem_filter]
  constructor
  · rintro ⟨m, ⟨h1, h2⟩, rfl⟩; exact ⟨h2, m, h1, rfl⟩
  · rintro ⟨h1, m, h2, rfl⟩; exact ⟨m, ⟨h2, h1⟩, rfl⟩
theorem allM_strict (l : List Mk) : (allM l).Pairwise (· < ·) := rise_strict _
/-- a schedule that may be. -/
structure RightP (l : List Mk) : Prop where
  odd : ∀ m ∈ l, oddB m = false
  over : ∀ j k (hj : j < l.length) (hk : k < l.length), j < k → endB l[j] = true → l[j].tx ≠ l[k].tx
theorem endsB_iff (l : List Mk) (tx : Int) (k : Nat) : endsB l tx k = true ↔ ∃ j, ∃ (hj : j < l.length), j < k ∧ l[j].tx = tx ∧ endB l[j] = true := by
  unfold endsB
  rw [List.any_eq_true]
  constructor
  · rintro ⟨m, hm, h⟩
    obtain ⟨j, hj, rfl⟩ := List.mem_iff_getElem.1 hm
    rw [List.length_take] at hj
    rw [List.getElem_take] at h
    simp only [Bool.and_eq_true, beq_iff_eq] at h
    exact ⟨j, by omega, by omega, h⟩
  · rintro ⟨j, hj, hjk, h1, h2⟩
    exact ⟨l[j], List.mem_iff_getElem.2 ⟨j, by rw [List.length_take]; omega, by rw [List.getElem_take]⟩, by rw [h1, h2]; simp⟩
theorem right_iff (l : List Mk) : rightM l = 0 ↔ l.length ≤ 256 ∧ RightP l := by
  unfold rightM
  by_cases h1 : 256 < (l.length : Int)
  · rw [if_pos h1]
    constructor
    · intro h; omega
    · intro h; have := h.1; omega
  · rw [if_neg h1]
    cases h2 : l.any oddB with
    | true =>
      rw [if_pos rfl]
      constructor
      · intro h; omega
      · rintro ⟨_, h⟩
        obtain ⟨m, hm, ho⟩ := List.any_eq_true.1 h2
        rw [h.odd m hm] at ho; cases ho
    | false =>
      rw [if_neg (by simp)]
      cases h3 : overB l with
      | true =>
        rw [if_pos rfl]
        constructor
        · intro h; omega
        · rintro ⟨_, h⟩
          obtain ⟨k, hk, ho⟩ := List.any_eq_true.1 h3
          have hk' : k < l.length := by simpa using hk
          rw [getElem!_pos l k hk', endsB_iff] at ho
          obtain ⟨j, hj, hjk, e1, e2⟩ := ho
          exact absurd e1 (h.over j k hj hk' hjk e2)
      | false =>
        rw [if_neg (by simp)]
        refine ⟨fun _ => ⟨by omega, anyOdd_false h2, fun j k hj hk hjk he e => ?_⟩, fun _ => rfl⟩
        have := overB_true k hk ((endsB_iff l _ k).2 ⟨j, hj, hjk, e, he⟩)
        rw [h3] at this; cases this
theorem endB_kind {m : Mk} : endB m = true ↔ m.kind = 3 ∨ m.kind = 4 := by unfold endB; simp
theorem accB_kind {m : Mk} : accB m = true ↔ m.kind = 1 ∨ m.kind = 2 := by unfold accB; simp
theorem fate_iff {l : List Mk} (h : RightP l) (x : Int) : ∀ k, k ≤ l.length → (fateF (l.take k) x = 4 ↔ ∃ i, ∃ (hi : i < l.length), i < k ∧ l[i].tx = x ∧ l[i].kind = 4)
  | 0, _ => by simp [fateF]
  | k + 1, hk => by
    have ih := fate_iff h x k (by omega)
    have hk' : k < l.length := by omega
    rw [fateF_succ l x k hk']
    by_cases hc : (l[k].tx == x && endB l[k]) = true
    · rw [if_pos hc]
      simp only [Bool.and_eq_true, beq_iff_eq] at hc
      constructor
      · intro h4; exact ⟨k, hk', by omega, hc.1, h4⟩
      · rintro ⟨i, hi, hik, h1, h2⟩
        by_cases e : i = k
        · subst e; exact h2
        · exact absurd (h1.trans hc.1.symm) (h.over i k hi hk' (by omega) (endB_kind.2 (.inr h2)))
    · rw [if_neg hc, ih]
      constructor
      · rintro ⟨i, hi, hik, h1⟩; exact ⟨i, hi, by omega, h1⟩
      · rintro ⟨i, hi, hik, h1, h2⟩
        by_cases e : i = k
        · subst e
          exact absurd (by rw [h1, endB_kind.2 (.inr h2)]; simp) hc
        · exact ⟨i, hi, by omega, h1, h2⟩
theorem live_iff {l : List Mk} (h : RightP l) (x : Int) : liveB l x = true ↔ ∀ i (hi : i < l.length), l[i].tx = x → l[i].kind ≠ 4 := by
  have := fate_iff h x l.length (Nat.le_refl _)
  rw [List.take_length] at this
  unfold liveB
  rw [Bool.not_eq_true', beq_eq_false_iff_ne, ne_eq, this]
  constructor
  · intro hn i hi h1 h2; exact hn ⟨i, hi, hi, h1, h2⟩
  · rintro hn ⟨i, hi, _, h1, h2⟩; exact hn i hi h1 h2
theorem srcGo_spec (l : List Mk) (p : Nat) (key : ByteArray) : ∀ k, k ≤ l.length → (srcGo l p key k = -1 ∧ ∀ j (hj : j < l.length), j < k → hitB l p key j l[j] = false) ∨
    ∃ j, ∃ (hj : j < l.length), j < k ∧ hitB l p key j l[j] = true ∧ srcGo l p key k = l[j].tx ∧ ∀ i (hi : i < l.length), j < i → i < k → hitB l p key i l[i] = false
  | 0, _ => .inl ⟨rfl, fun j _ h => by omega⟩
  | k + 1, hk => by
    have hk' : k < l.length := by omega
    rw [srcGo_succ l p key k hk']
    cases hh : hitB l p key k l[k] with
    | true => exact .inr ⟨k, hk', by omega, hh, by rw [if_pos rfl], fun i _ h1 h2 => by omega⟩
    | false =>
      rw [if_neg (by simp)]
      rcases srcGo_spec l p key k (by omega) with ⟨h1, h2⟩ | ⟨j, hj, hjk, h1, h2, h3⟩
      · refine .inl ⟨h1, fun j hj hjk => ?_⟩
        by_cases e : j = k
        · subst e; exact hh
        · exact h2 j hj (by omega)
      · refine .inr ⟨j, hj, by omega, h1, h2, fun i hi hji hik => ?_⟩
        by_cases e : i = k
        · subst e; exact hh
        · exact h3 i hi hji (by omega)
theorem gone_iff (l : List Mk) (p : Nat) (tx : Int) (k : Nat) : goneB l p tx k = true ↔ ∃ i, ∃ (hi : i < l.length), k ≤ i ∧ i < p ∧ l[i].kind = 4 ∧ l[i].tx = tx := by
  unfold goneB
  rw [List.any_eq_true]
  constructor
  · rintro ⟨m, hm, h⟩
    obtain ⟨j, hj, rfl⟩ := List.mem_iff_getElem.1 hm
    rw [List.length_drop, List.length_take] at hj
    rw [List.getElem_drop, List.getElem_take] at h
    simp only [Bool.and_eq_true, beq_iff_eq] at h
    exact ⟨k + j, by omega, by omega, by omega, h⟩
  · rintro ⟨i, hi, h1, h2, h3⟩
    refine ⟨l[i], List.mem_iff_getElem.2 ⟨i - k, by rw [List.length_drop, List.length_take]; omega, ?_⟩, by rw [h3.1, h3.2]; simp⟩
    rw [List.getElem_drop, List.getElem_take]
    congr 1; omega
/-- a writing of a key, not aborted till a place. -/
def Wr (l : List Mk) (p : Nat) (key : ByteArray) (j : Nat) (m : Mk) : Prop := m.kind = 2 ∧ m.key.toList = key.toList ∧ ∀ i (hi : i < l.length), i < p → l[i].tx = m.tx → l[i].kind ≠ 4
theorem hit_iff {l : List Mk} (h : RightP l) (p : Nat) (key : ByteArray) (j : Nat) (hj : j < l.length) : hitB l p key j l[j] = true ↔ Wr l p key j l[j] := by
  unfold hitB Wr
  simp only [Bool.and_eq_true, beq_iff_eq, Bool.not_eq_true', and_assoc]
  refine and_congr_right fun _ => and_congr_right fun _ => ?_
  rw [← Bool.not_eq_true, gone_iff]
  constructor
  · intro hn i hi hip h1 h2
    by_cases hji : j ≤ i
    · exact hn ⟨i, hi, hji, hip, h2, h1⟩
    · exact h.over i j hi hj (by omega) (endB_kind.2 (.inr h2)) h1
  · rintro hn ⟨i, hi, _, hip, h2, h1⟩
    exact hn i hi hip h1 h2
/-- the source: the last writing ahead. -/
theorem source_spec {l : List Mk} (h : RightP l) (p : Nat) (hp : p < l.length) : (sourceM l p = -1 ∧ ∀ j (hj : j < l.length), j < p → ¬ Wr l p l[p].key j l[j]) ∨
    ∃ j, ∃ (hj : j < l.length), j < p ∧ Wr l p l[p].key j l[j] ∧ sourceM l p = l[j].tx ∧ ∀ i (hi : i < l.length), j < i → i < p → ¬ Wr l p l[p].key i l[i] := by
  have e : sourceM l p = srcGo l p l[p].key p := by unfold sourceM; rw [getElem!_pos l p hp]
  rw [e]
  rcases srcGo_spec l p l[p].key p (by omega) with ⟨h1, h2⟩ | ⟨j, hj, hjp, h1, h2, h3⟩
  · exact .inl ⟨h1, fun j hj hjp hw => by have := h2 j hj hjp; rw [(hit_iff h p _ j hj).2 hw] at this; cases this⟩
  · exact .inr ⟨j, hj, hjp, (hit_iff h p _ j hj).1 h1, h2, fun i hi h4 h5 hw => by have := h3 i hi h4 h5; rw [(hit_iff h p _ i hi).2 hw] at this; cases this⟩
theorem nodd {m : Mk} (h : oddB m = false) : (1 ≤ m.kind ∧ m.kind ≤ 4) ∧ 0 ≤ m.tx := by
  rw [oddR_eq] at h
  unfold oddR at h
  simp only [Bool.or_eq_false_iff, decide_eq_false_iff_not] at h
  omega
/-- a place with a commit. -/
theorem place_spec {l : List Mk} (h : RightP l) (x : Int) : (placeM l x = (l.length : Int) ∧ ∀ i (hi : i < l.length), ¬ (l[i].kind = 3 ∧ l[i].tx = x)) ∨ ∃ i, ∃ (hi : i < l.length), placeM l x = (i : Int) ∧ l[i].kind = 3 ∧ l[i].tx = x := by
  unfold placeM idxL
  cases hf : l.findIdx? (comB x) with
  | none =>
    refine .inl ⟨by simp, fun i hi hh => ?_⟩
    have := List.findIdx?_eq_none_iff.1 hf _ (List.getElem_mem hi)
    unfold comB at this
    rw [hh.1, hh.2] at this
    simp at this
  | some i =>
    obtain ⟨hi, hp, _⟩ := List.findIdx?_eq_some_iff_getElem.1 hf
    refine .inr ⟨i, hi, by simp only; rw [if_neg (by omega)], ?_⟩
    unfold comB at hp
    simpa using hp
end Go.Proofs.Ytbgabdofnmijnaa
