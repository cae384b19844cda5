/- The document's Order: the plain law. -/
import Derived.Test.YtbgabdofnmijnaaAP
namespace Go.Proofs.Ytbgabdofnmijnaa
open Go.RowKit
def freeQ (Q : Int → Int → Bool) (left : List Int) (k : Nat) (b : Int) : Bool := (left.take k).all fun a => !Q a b
def ordQGo (Q : Int → Int → Bool) : Nat → List Int → Option (List Int)
  | _, [] => some []
  | 0, _ :: _ => none
  | n + 1, x :: r => match (x :: r).findIdx? (freeQ Q (x :: r) (x :: r).length) with
    | none => none
    | some i => (ordQGo Q n ((x :: r).eraseIdx i)).map ((x :: r)[i]! :: ·)
def ordQ (Q : Int → Int → Bool) (left : List Int) : Option (List Int) := ordQGo Q left.length left
theorem ordQ_none {Q : Int → Int → Bool} {left : List Int} (h0 : left ≠ []) (h : ∀ i (h : i < left.length), freeQ Q left left.length left[i] = false) : ordQ Q left = none := by
  match left, h0 with
  | x :: r, _ =>
    have : (x :: r).findIdx? (freeQ Q (x :: r) (x :: r).length) = none := by
      rw [List.findIdx?_eq_none_iff]
      intro y hy
      obtain ⟨j, hj, rfl⟩ := List.getElem_of_mem hy
      exact h j hj
    show (match (x :: r).findIdx? (freeQ Q (x :: r) (x :: r).length) with | none => none | some i => _) = none
    rw [this]
theorem ordQ_some {Q : Int → Int → Bool} {left : List Int} {i : Nat} (hi : i < left.length) (h : ∀ j (h : j < left.length), j < i → freeQ Q left left.length left[j] = false) (hf : freeQ Q left left.length left[i] = true) : ordQ Q left = (ordQ Q (left.eraseIdx i)).map (left[i] :: ·) := by
  match left, hi with
  | x :: r, hi =>
    have : (x :: r).findIdx? (freeQ Q (x :: r) (x :: r).length) = some i := by
      rw [List.findIdx?_eq_some_iff_getElem]
      exact ⟨hi, hf, fun j hj => by rw [h j (by omega) hj]; simp⟩
    have hl : ((x :: r).eraseIdx i).length = r.length := by rw [List.length_eraseIdx]; simp at hi ⊢; omega
    unfold ordQ
    rw [hl]
    show (match (x :: r).findIdx? (freeQ Q (x :: r) (x :: r).length) with | none => none | some i => (ordQGo Q r.length ((x :: r).eraseIdx i)).map ((x :: r)[i]! :: ·)) = _
    rw [this]
    simp only [getElem!_pos (x :: r) i hi]
theorem freeQ_succ (Q : Int → Int → Bool) (left : List Int) (k : Nat) (b : Int) (h : k < left.length) : freeQ Q left (k + 1) b = (freeQ Q left k b && !Q left[k] b) := by
  unfold freeQ
  rw [List.take_succ_eq_append_getElem h, List.all_append]; simp
theorem freeQ_zero (Q : Int → Int → Bool) (left : List Int) (b : Int) : freeQ Q left 0 b = true := rfl
theorem mem_eraseIdx_ne {l : List Int} {i : Nat} (hi : i < l.length) {x : Int} (h : x ∈ l) (hn : x ≠ l[i]) : x ∈ l.eraseIdx i := by
  obtain ⟨j, hj, rfl⟩ := List.getElem_of_mem h
  rw [List.mem_eraseIdx_iff_getElem]
  exact ⟨j, hj, fun e => hn (by subst e; rfl), rfl⟩
/-- by edges, by asking for each: the same. -/
theorem ord_same (Q : Int → Int → Bool) : ∀ (n : Nat) (left : List Int) (E : List Eg), left.length = n → left.Nodup → (∀ e ∈ E, e.a ∈ left) → (∀ a ∈ left, ∀ b ∈ left, (∃ e ∈ E, e.a = a ∧ e.b = b) ↔ Q a b = true) → ordR left E = ordQ Q left := by
  intro n
  induction n with
  | zero => intro left E hl _ _ _; obtain rfl := List.eq_nil_of_length_eq_zero hl; rfl
  | succ n ih =>
    intro left E hl hnd hin hq
    have h0 : left ≠ [] := by intro e; subst e; simp at hl
    have hfree : ∀ b ∈ left, freeB E b = freeQ Q left left.length b := fun b hb => by
      unfold freeB freeQ
      rw [List.take_length, Bool.eq_iff_iff]
      rw [List.all_eq_true, Bool.not_eq_true', ← Bool.not_eq_true, List.any_eq_true]
      constructor
      · intro h a ha
        rw [Bool.not_eq_true', ← Bool.not_eq_true]
        intro hQ
        obtain ⟨e, he, rfl, rfl⟩ := (hq a ha b hb).2 hQ
        exact h ⟨e, he, by simp⟩
      · rintro h ⟨e, he, hb'⟩
        have hb' : e.b = b := by simpa using hb'
        have h1 := h e.a (hin e he)
        have h2 := (hq e.a (hin e he) b hb).1 ⟨e, he, rfl, hb'⟩
        rw [h2] at h1; cases h1
    cases hf : left.findIdx? (freeB E) with
    | none =>
      rw [List.findIdx?_eq_none_iff] at hf
      rw [ordR_none h0 fun i hi => by have := hf _ (List.getElem_mem hi); simpa using this, ordQ_none h0 fun i hi => by rw [← hfree _ (List.getElem_mem hi)]; have := hf _ (List.getElem_mem hi); simpa using this]
    | some i =>
      rw [List.findIdx?_eq_some_iff_getElem] at hf
      obtain ⟨hi, h1, h2⟩ := hf
      have h3 : ∀ j (h : j < left.length), j < i → freeB E left[j] = false := fun j hj hji => by have := h2 j hji; simpa using this
      rw [ordR_some hi h3 h1, ordQ_some hi (fun j hj hji => by rw [← hfree _ (List.getElem_mem hj)]; exact h3 j hj hji) (by rw [← hfree _ (List.getElem_mem hi)]; exact h1)]
      have hsub : ∀ {y}, y ∈ left.eraseIdx i → y ∈ left := fun hy => (List.eraseIdx_sublist left i).subset hy
      have hne : ∀ {y}, y ∈ left.eraseIdx i → y ≠ left[i] := fun {y} hy => by
        rw [List.mem_eraseIdx_iff_getElem] at hy
        obtain ⟨j, hj, hji, rfl⟩ := hy
        intro e
        rcases Nat.lt_or_gt_of_ne hji with h | h
        · exact List.pairwise_iff_getElem.1 hnd j i hj hi h e
        · exact List.pairwise_iff_getElem.1 hnd i j hi hj h e.symm
      rw [ih (left.eraseIdx i) (outE E left[i]) (by rw [List.length_eraseIdx, if_pos hi]; omega) (hnd.sublist (List.eraseIdx_sublist _ _)) (fun e he => by
        unfold outE at he
        obtain ⟨he1, he2⟩ := List.mem_filter.1 he
        exact mem_eraseIdx_ne hi (hin e he1) (by simpa using he2)) (fun a ha b hb => by
        rw [← hq a (hsub ha) b (hsub hb)]
        constructor
        · rintro ⟨e, he, h5⟩; exact ⟨e, (List.mem_filter.1 he).1, h5⟩
        · rintro ⟨e, he, rfl, rfl⟩
          exact ⟨e, List.mem_filter.2 ⟨he, by simpa using hne ha⟩, rfl, rfl⟩)]
theorem edgesRef_mem {l : List Mk} {e : Eg} : e ∈ edgesRef l ↔ e.a ∈ allM l ∧ e.b ∈ allM l ∧ edgeQ l e.a e.b = true := by
  unfold edgesRef egUp egRow
  rw [List.take_length, List.mem_flatMap]
  constructor
  · rintro ⟨p, hp, h⟩
    obtain ⟨y, hy, rfl⟩ := List.mem_map.1 h
    obtain ⟨h1, h2⟩ := List.mem_filter.1 hy
    exact ⟨hp, h1, h2⟩
  · rintro ⟨h1, h2, h3⟩
    exact ⟨e.a, h1, List.mem_map.2 ⟨e.b, List.mem_filter.2 ⟨h2, h3⟩, rfl⟩⟩
theorem egRow_strict (l : List Mk) {A : List Int} (hA : A.Pairwise (· < ·)) (p : Int) (j : Nat) : (egRow l A p j).Pairwise EgLt := by
  unfold egRow
  exact List.pairwise_map.2 (((hA.sublist (List.take_sublist _ _)).sublist List.filter_sublist).imp fun h => .inr ⟨rfl, h⟩)
theorem egUp_strict (l : List Mk) {A : List Int} (hA : A.Pairwise (· < ·)) : ∀ i, i ≤ A.length → (egUp l A i).Pairwise EgLt
  | 0, _ => by simp [egUp]
  | i + 1, h => by
    rw [egUp_succ l A i (by omega)]
    refine List.pairwise_append.2 ⟨egUp_strict l hA i (by omega), egRow_strict l hA _ _, fun x hx y hy => ?_⟩
    unfold egUp at hx
    obtain ⟨q, hq, hx⟩ := List.mem_flatMap.1 hx
    unfold egRow at hx hy
    obtain ⟨_, _, rfl⟩ := List.mem_map.1 hx
    obtain ⟨_, _, rfl⟩ := List.mem_map.1 hy
    obtain ⟨j, hj, rfl⟩ := List.getElem_of_mem hq
    rw [List.length_take] at hj
    rw [List.getElem_take]
    exact .inl (List.pairwise_iff_getElem.1 hA j i (by omega) (by omega) (by omega))
/-- the program's edges and the document's. -/
theorem edges_same {l : List Mk} (h0 : rightM l = 0) {E : List Eg} (h : IsEdges l E) : E = edgesRef l := by
  obtain ⟨h1, h2⟩ := isEdges_ok h0 h
  refine eg_strict_ext h2 (egUp_strict l (allM_strict l) _ (Nat.le_refl _)) fun e => ?_
  rw [h1, ← edgeQ_iff]
  show _ ↔ e ∈ edgesRef l
  rw [edgesRef_mem]
  constructor
  · intro h
    obtain ⟨a1, a2, _⟩ := edge_live ((edgeQ_iff l _ _).1 h)
    exact ⟨a1, a2, h⟩
  · rintro ⟨_, _, h⟩; exact h
/-- the program's order and the document's. -/
theorem order_same {l : List Mk} (h0 : rightM l = 0) {E : List Eg} (h : IsEdges l E) : ordR (allM l) E = ordQ (edgeQ l) (allM l) := by
  obtain ⟨h1, _⟩ := isEdges_ok h0 h
  refine ord_same (edgeQ l) _ _ E rfl ((allM_strict l).imp fun h => by omega) (fun e he => (edge_live ((h1 e).1 he)).1) fun a _ b _ => ?_
  rw [edgeQ_iff]
  constructor
  · rintro ⟨e, he, rfl, rfl⟩; exact (h1 e).1 he
  · intro h; exact ⟨⟨a, b⟩, (h1 _).2 h, rfl, rfl⟩
end Go.Proofs.Ytbgabdofnmijnaa
