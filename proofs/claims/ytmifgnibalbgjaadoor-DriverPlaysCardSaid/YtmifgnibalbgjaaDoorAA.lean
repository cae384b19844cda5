/- What becomes of a driver that is told an answer: plain facts. -/
import Derived.Test.YtmifgnibalbgjaaDoorU
namespace Go.Proofs.YtmifgnibalbgjaaDoor
open Go.RowKit
theorem insS_len (x : Int) (tl : List Int) : (insS x tl).length ≤ tl.length + 1 := by
  unfold insS
  split
  · omega
  · simp only [List.length_append, List.length_cons, List.length_take, List.length_drop]; omega
/-- in a row that rises, who is less stands ahead. -/
theorem countP_split (x : Int) : ∀ tl : List Int, tl.Pairwise (· < ·) → (∀ y ∈ tl.take (tl.countP (· < x)), y < x) ∧ (∀ y ∈ tl.drop (tl.countP (· < x)), ¬ y < x)
  | [], _ => by simp
  | a :: r, h => by
    obtain ⟨ha, hr⟩ := List.pairwise_cons.1 h
    obtain ⟨h1, h2⟩ := countP_split x r hr
    by_cases hx : a < x
    · rw [List.countP_cons_of_pos (by simpa using hx)]
      refine ⟨fun y hy => ?_, fun y hy => h2 y (by simpa using hy)⟩
      rw [List.take_succ_cons] at hy
      rcases List.mem_cons.1 hy with rfl | hy
      · exact hx
      · exact h1 y hy
    · have h0 : r.countP (· < x) = 0 := by
        rw [List.countP_eq_zero]
        intro y hy
        have := ha y hy
        simp; omega
      rw [List.countP_cons_of_neg (by simpa using hx), h0]
      refine ⟨by simp, fun y hy => ?_⟩
      simp only [List.drop_zero] at hy
      rcases List.mem_cons.1 hy with rfl | hy
      · exact hx
      · have := ha y hy; omega
theorem insS_rise (x : Int) (tl : List Int) (h : tl.Pairwise (· < ·)) : (insS x tl).Pairwise (· < ·) := by
  unfold insS
  split
  · exact h
  · rename_i hc
    obtain ⟨h1, h2⟩ := countP_split x tl h
    have hsplit : tl = tl.take (tl.countP (· < x)) ++ tl.drop (tl.countP (· < x)) := (List.take_append_drop _ _).symm
    generalize tl.take (tl.countP (· < x)) = A at *
    generalize tl.drop (tl.countP (· < x)) = B at *
    subst hsplit
    obtain ⟨hA, hB, hAB⟩ := List.pairwise_append.1 h
    have hxB : ∀ y ∈ B, x < y := fun y hy => by
      have h3 := h2 y hy
      have h4 : y ≠ x := fun e => by
        subst e
        exact hc (by simp [hy])
      omega
    refine List.pairwise_append.2 ⟨hA, List.pairwise_cons.2 ⟨hxB, hB⟩, fun a ha b hb => ?_⟩
    rcases List.mem_cons.1 hb with rfl | hb
    · exact h1 a ha
    · exact hAB a ha b hb
section
variable {ss : List ByteArray} {l : List Opp} {d : Dr}
/-- what stays of a driver. -/
structure Same (d e : Dr) : Prop where
  tx : e.tx = d.tx
  stamp : e.stamp = d.stamp
  tries : e.tries = d.tries
theorem Same.refl (d : Dr) : Same d d := ⟨rfl, rfl, rfl⟩
theorem begins_spec (i : Nat) : Same d (beginsM ss l d i) ∧ (beginsM ss l d i).attempt = d.attempt ∧ (beginsM ss l d i).outcome = d.outcome ∧ (beginsM ss l d i).nth = i ∧ (beginsM ss l d i).res = d.res ∧
    (((beginsM ss l d i).phase = 5 ∧ l.length ≤ i ∧ (beginsM ss l d i).tl = d.tl) ∨ ((beginsM ss l d i).phase = 6 ∧ i < l.length ∧ (beginsM ss l d i).tl = d.tl) ∨ ((beginsM ss l d i).phase = 1 ∧ i < l.length ∧ ∃ x, (beginsM ss l d i).tl = insS x d.tl)) := by
  unfold beginsM
  split
  · rename_i h
    have := List.getElem?_eq_none_iff.1 h
    exact ⟨⟨rfl, rfl, rfl⟩, rfl, rfl, rfl, rfl, .inl ⟨rfl, this, rfl⟩⟩
  · rename_i o h
    have := (List.getElem?_eq_some_iff.1 h).1
    split
    · exact ⟨⟨rfl, rfl, rfl⟩, rfl, rfl, rfl, rfl, .inr (.inl ⟨rfl, this, rfl⟩)⟩
    · exact ⟨⟨rfl, rfl, rfl⟩, rfl, rfl, rfl, rfl, .inr (.inr ⟨rfl, this, _, rfl⟩)⟩
theorem behind_spec (h : d.tl = []) : Same d (behindM d) ∧ (behindM d).nth = d.nth ∧ (behindM d).tl = [] ∧ (behindM d).res.length ≤ d.res.length ∧
    (((behindM d).phase = 8 ∧ (behindM d).attempt = d.attempt ∧ (behindM d).outcome = d.outcome) ∨
     ((behindM d).phase = 0 ∧ d.outcome ≠ 2 ∧ d.attempt + 1 < d.tries ∧ (behindM d).attempt = d.attempt + 1 ∧ (behindM d).outcome = 1 ∧ (behindM d).res = [])) := by
  unfold behindM
  split
  · exact ⟨⟨rfl, rfl, rfl⟩, rfl, rfl, Nat.le_refl _, .inl ⟨rfl, rfl, rfl⟩⟩
  · rename_i h2
    split
    · exact ⟨⟨rfl, rfl, rfl⟩, rfl, rfl, Nat.zero_le _, .inl ⟨rfl, rfl, rfl⟩⟩
    · rename_i h3
      exact ⟨⟨rfl, rfl, rfl⟩, rfl, rfl, Nat.zero_le _, .inr ⟨rfl, h2, by omega, rfl, rfl, rfl⟩⟩
theorem ends_spec (s : Int) : Same d (endsM d s) ∧ (endsM d s).nth = d.nth ∧ (endsM d s).res.length ≤ d.res.length ∧
    (((endsM d s).phase = 7 ∧ (endsM d s).attempt = d.attempt ∧ (endsM d s).outcome = s ∧ (endsM d s).tl = d.tl ∧ d.tl ≠ []) ∨
     ((endsM d s).phase = 8 ∧ (endsM d s).attempt = d.attempt ∧ (endsM d s).outcome = s ∧ (endsM d s).tl = []) ∨
     ((endsM d s).phase = 0 ∧ s ≠ 2 ∧ d.attempt + 1 < d.tries ∧ (endsM d s).attempt = d.attempt + 1 ∧ (endsM d s).outcome = 1 ∧ (endsM d s).tl = [] ∧ (endsM d s).res = [])) := by
  unfold endsM
  split
  · rename_i h
    obtain ⟨⟨a, b, c⟩, e, f, g, i⟩ := behind_spec (d := { d with outcome := s, phase := 7 }) h
    refine ⟨⟨a, b, c⟩, e, g, ?_⟩
    rcases i with ⟨i1, i2, i3⟩ | ⟨i1, i2, i3, i4, i5, i6⟩
    · exact .inr (.inl ⟨i1, i2, i3, f⟩)
    · exact .inr (.inr ⟨i1, i2, i3, i4, i5, f, i6⟩)
  · rename_i h
    exact ⟨⟨rfl, rfl, rfl⟩, rfl, Nat.le_refl _, .inl ⟨rfl, rfl, rfl, rfl, h⟩⟩
end
end Go.Proofs.YtmifgnibalbgjaaDoor
