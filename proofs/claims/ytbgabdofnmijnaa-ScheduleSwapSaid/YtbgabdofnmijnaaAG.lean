/- Plain law: two marks that don't clash change places. -/
import Derived.Test.YtbgabdofnmijnaaAE
namespace Go.Proofs.Ytbgabdofnmijnaa
open Go.RowKit
/-- the places, two of them swapped. -/
def swI (n i : Nat) : List Nat := List.range i ++ ([i + 1, i] ++ List.range' (i + 2) (n - (i + 2)))
theorem range_two {n i : Nat} (h : i + 1 < n) : List.range n = List.range i ++ ([i, i + 1] ++ List.range' (i + 2) (n - (i + 2))) := by
  apply List.ext_getElem
  · simp; omega
  · intro p h1 h2
    rw [List.getElem_range]
    rcases Nat.lt_trichotomy p i with h3 | h3 | h3
    · rw [List.getElem_append_left (by simpa using h3), List.getElem_range]
    · subst h3
      rw [List.getElem_append_right (by simp)]
      simp
    · rw [List.getElem_append_right (by simp; omega)]
      by_cases h4 : p = i + 1
      · subst h4
        simp
      · rw [List.getElem_append_right (by simp; omega), List.getElem_range']
        simp; omega
theorem swI_len {n i : Nat} (h : i + 1 < n) : (swI n i).length = n := by unfold swI; simp; omega
theorem swI_get {n i : Nat} (h : i + 1 < n) (p : Nat) (hp : p < (swI n i).length) : (swI n i)[p] = if p = i then i + 1 else if p = i + 1 then i else p := by
  unfold swI at hp ⊢
  rcases Nat.lt_trichotomy p i with h3 | h3 | h3
  · rw [List.getElem_append_left (by simpa using h3), List.getElem_range, if_neg (by omega), if_neg (by omega)]
  · subst h3
    rw [List.getElem_append_right (by simp), if_pos rfl]
    simp
  · rw [List.getElem_append_right (by simp; omega), if_neg (by omega)]
    by_cases h4 : p = i + 1
    · subst h4
      rw [if_pos rfl]
      simp
    · rw [if_neg h4, List.getElem_append_right (by simp; omega), List.getElem_range']
      simp; omega
/-- two marks that may change places. -/
structure SwP (l : List Mk) (i : Nat) : Prop where
  r0 : rightM l = 0
  lt : i + 1 < l.length
  tx : (l[i]'(by omega)).tx ≠ l[i + 1].tx
  k0 : (l[i]'(by omega)).kind ≤ 2
  k1 : l[i + 1].kind ≤ 2
  cl : ¬ ((l[i]'(by omega)).key.toList = l[i + 1].key.toList ∧ 2 < (l[i]'(by omega)).kind + l[i + 1].kind)
section
variable {l : List Mk} {i : Nat} (h : SwP l i)
include h
theorem SwP.kept : Kept l (swI l.length i) where
  r0 := h.r0
  R := ((right_iff l).1 h.r0).2
  mem j := by
    have hp : (swI l.length i).Perm (List.range l.length) := by
      rw [range_two h.lt]
      exact ((List.Perm.swap _ _ _).append_right _).append_left _
    rw [hp.mem_iff, List.mem_range]
  nodup := by
    have hp : (swI l.length i).Perm (List.range l.length) := by
      rw [range_two h.lt]
      exact ((List.Perm.swap _ _ _).append_right _).append_left _
    exact hp.nodup_iff.2 List.nodup_range
  lt1 {p q} hp hq hpq hc := by
    have hlt := h.lt
    rw [swI_get h.lt, swI_get h.lt] at hc ⊢
    have hq' : q < l.length := by rw [swI_len h.lt] at hq; exact hq
    by_cases e1 : p = i
    · by_cases e2 : q = i + 1
      · exfalso
        subst e1 e2
        rw [if_pos rfl, if_neg (by omega), if_pos rfl, getElem!_pos l (p + 1) hlt, getElem!_pos l p (by omega)] at hc
        rcases hc with hc | ⟨_, c2, c3, c4, c5⟩ | hc | hc
        · exact h.tx hc.symm
        · refine h.cl ⟨c4.symm, ?_⟩
          have d2 := accB_kind.1 c2
          have d3 := accB_kind.1 c3
          omega
        · have := h.k1; omega
        · have := h.k0; omega
      · rw [if_pos e1, if_neg (by omega), if_neg e2]; omega
    · by_cases e2 : p = i + 1
      · rw [if_neg e1, if_pos e2, if_neg (by omega), if_neg (by omega)]; omega
      · rw [if_neg e1, if_neg e2]
        by_cases e3 : q = i
        · rw [if_pos e3]; omega
        · by_cases e4 : q = i + 1
          · rw [if_neg e3, if_pos e4]; omega
          · rw [if_neg e3, if_neg e4]; exact hpq
theorem SwP.map : (l.set i l[i + 1]!).set (i + 1) l[i]! = (swI l.length i).map fun j => l[j]! := by
  have hlt := h.lt
  apply List.ext_getElem
  · rw [List.length_set, List.length_set, List.length_map, swI_len h.lt]
  · intro p h1 h2
    rw [List.length_set, List.length_set] at h1
    rw [List.getElem_map, swI_get h.lt p (by rw [swI_len h.lt]; exact h1), List.getElem_set, List.getElem_set]
    by_cases e1 : p = i
    · rw [if_neg (by omega), if_pos e1.symm, if_pos e1]
    · by_cases e2 : p = i + 1
      · rw [if_pos e2.symm, if_neg e1, if_pos e2]
      · rw [if_neg (by omega), if_neg (by omega), if_neg e1, if_neg e2, getElem!_pos l p h1]
end
/-- readings among so many marks. -/
def rdUp (l : List Mk) : Nat → Nat
  | 0 => 0
  | k + 1 => rdUp l k + if l[k]!.kind == 1 then 1 else 0
theorem rdUp_succ (l : List Mk) (k : Nat) (hk : k < l.length) : rdUp l (k + 1) = rdUp l k + if l[k].kind == 1 then 1 else 0 := by
  rw [rdUp, getElem!_pos l k hk]
theorem rdUp_len (l : List Mk) : ∀ k, ((List.range k).filter fun j => l[j]!.kind == 1).length = rdUp l k
  | 0 => rfl
  | k + 1 => by
    rw [List.range_succ, List.filter_append, List.length_append, rdUp_len l k, rdUp, List.filter_cons]
    cases l[k]!.kind == 1 <;> rfl
theorem rdUp_le (l : List Mk) : ∀ k, rdUp l k ≤ k
  | 0 => Nat.le_refl _
  | k + 1 => by
    have := rdUp_le l k
    rw [rdUp]; split <;> omega
theorem set_two {α : Type} (A Z : List α) (x y : α) : ((A ++ ([x, y] ++ Z)).set A.length y).set (A.length + 1) x = A ++ ([y, x] ++ Z) := by
  rw [List.set_append_right _ _ (Nat.le_refl _), List.set_append_right _ _ (by omega), Nat.sub_self]
  congr 1
  rw [show A.length + 1 - A.length = 1 by omega]
  rfl
theorem SwP.srcs {l : List Mk} {i : Nat} (h : SwP l i) {m : List Mk} (hm : m = (swI l.length i).map fun j => l[j]!) :
    (srcsUp m m.length).length = (srcsUp l l.length).length ∧
    (l[i]!.kind = 1 ∧ l[i + 1]!.kind = 1 → ∃ x y, (srcsUp m m.length)[rdUp l i]? = some x ∧ (srcsUp m m.length)[rdUp l i + 1]? = some y ∧ (((srcsUp m m.length).set (rdUp l i) y).set (rdUp l i + 1) x) = srcsUp l l.length) ∧
    (¬ (l[i]!.kind = 1 ∧ l[i + 1]!.kind = 1) → srcsUp m m.length = srcsUp l l.length) := by
  have hY := h.kept.srcsRow hm
  rw [hY]
  unfold srcsUp
  conv => lhs; rw [range_two h.lt]
  rw [range_two h.lt]
  unfold swI
  simp only [List.filter_append, List.map_append]
  have hA : (((List.range i).filter fun i => l[i]!.kind == 1).map fun i => (⟨l[i]!.tx, sourceM l i⟩ : Sr)).length = rdUp l i := by rw [List.length_map, rdUp_len]
  generalize (((List.range i).filter fun i => l[i]!.kind == 1).map fun i => (⟨l[i]!.tx, sourceM l i⟩ : Sr)) = A at *
  generalize (((List.range' (i + 2) (l.length - (i + 2))).filter fun i => l[i]!.kind == 1).map fun i => (⟨l[i]!.tx, sourceM l i⟩ : Sr)) = Z at *
  by_cases k0 : l[i]!.kind = 1
  · by_cases k1 : l[i + 1]!.kind = 1
    · have q0 : (l[i]!.kind == 1) = true := by simpa using k0
      have q1 : (l[i + 1]!.kind == 1) = true := by simpa using k1
      simp only [List.filter_cons, List.filter_nil, q0, q1, if_true, List.map_cons, List.map_nil]
      refine ⟨by simp, fun _ => ⟨⟨l[i + 1]!.tx, sourceM l (i + 1)⟩, ⟨l[i]!.tx, sourceM l i⟩, ?_, ?_, ?_⟩, fun hn => absurd ⟨k0, k1⟩ hn⟩
      · rw [← hA]; simp
      · rw [← hA, List.getElem?_append_right (by omega)]; simp
      · rw [← hA]; exact set_two A Z _ _
    · have q0 : (l[i]!.kind == 1) = true := by simpa using k0
      have q1 : (l[i + 1]!.kind == 1) = false := by simpa using k1
      simp only [List.filter_cons, List.filter_nil, q0, q1, if_true, Bool.false_eq_true, if_false]
      exact ⟨by simp, fun hn => absurd hn.2 k1, fun _ => by simp⟩
  · have q0 : (l[i]!.kind == 1) = false := by simpa using k0
    cases q1 : l[i + 1]!.kind == 1 <;> simp only [List.filter_cons, List.filter_nil, q0, q1, if_true, Bool.false_eq_true, if_false] <;> exact ⟨by simp, fun hn => absurd hn.1 k0, fun _ => by simp⟩
end Go.Proofs.Ytbgabdofnmijnaa
