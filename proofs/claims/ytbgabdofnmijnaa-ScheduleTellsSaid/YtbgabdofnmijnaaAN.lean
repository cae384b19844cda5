/- A rising list, made one by one (of no program). -/
import Derived.Test.YtbgabdofnmijnaaAM
import Derived.Test.YtbgabdofnmijnaaMem3
namespace Go.Proofs.Ytbgabdofnmijnaa
open Go.RowKit
def posBy {α : Type} (q : α → Bool) : List α → Nat
  | [] => 0
  | x :: r => if q x then posBy q r + 1 else 0
theorem posBy_le {α : Type} (q : α → Bool) (l : List α) : posBy q l ≤ l.length := by
  induction l with
  | nil => exact Nat.le_refl _
  | cons x r ih => unfold posBy; split <;> simp <;> omega
theorem posBy_lt {α : Type} (q : α → Bool) : ∀ (l : List α) (j : Nat) (h : j < l.length), j < posBy q l → q l[j] = true
  | [], _, h, _ => by cases h
  | x :: r, j, h, hj => by
    unfold posBy at hj
    split at hj
    · cases j with
      | zero => assumption
      | succ j => exact posBy_lt q r j (by simpa using h) (by omega)
    · omega
theorem posBy_ge {α : Type} (q : α → Bool) (R : α → α → Prop) (hq : ∀ a b, R a b → q a = false → q b = false) : ∀ (l : List α), l.Pairwise R → ∀ (j : Nat) (h : j < l.length), posBy q l ≤ j → q l[j] = false
  | [], _, _, h, _ => by cases h
  | x :: r, hs, j, h, hj => by
    obtain ⟨h1, h2⟩ := List.pairwise_cons.1 hs
    unfold posBy at hj
    split at hj
    · cases j with
      | zero => omega
      | succ j => exact posBy_ge q R hq r h2 j (by simpa using h) (by omega)
    · rename_i hx
      cases j with
      | zero => simpa using hx
      | succ j => exact hq _ _ (h1 _ (List.getElem_mem _)) (by simpa using hx)
theorem posBy_app {α : Type} (q : α → Bool) : ∀ (A B : List α), (∀ x ∈ A, q x = true) → (∀ x, B.head? = some x → q x = false) → posBy q (A ++ B) = A.length
  | [], [], _, _ => rfl
  | [], x :: B, _, h => by unfold posBy; simp [h x rfl]
  | a :: A, B, h, h' => by
    show posBy q (a :: (A ++ B)) = _
    unfold posBy
    rw [if_pos (h a (by simp)), posBy_app q A B (fun x hx => h x (List.mem_cons_of_mem _ hx)) h', List.length_cons]
/-- put in, rising, if it isn't there. -/
def insG {α : Type} [DecidableEq α] (lt : α → α → Bool) (x : α) (out : List α) : List α := if out[posBy (fun y => lt y x) out]? = some x then out else out.take (posBy (fun y => lt y x) out) ++ x :: out.drop (posBy (fun y => lt y x) out)
theorem insG_ok {α : Type} [DecidableEq α] {lt : α → α → Bool} (tr : ∀ a b c, lt a b = true → lt b c = true → lt a c = true) (tot : ∀ a b, lt a b = true ∨ lt b a = true ∨ a = b) (x : α) {out : List α} (h : out.Pairwise fun a b => lt a b = true) : (insG lt x out).Pairwise (fun a b => lt a b = true) ∧ ∀ y, y ∈ insG lt x out ↔ y = x ∨ y ∈ out := by
  unfold insG
  split
  · rename_i e
    refine ⟨h, fun y => ⟨.inr, ?_⟩⟩
    rintro (rfl | h')
    · exact List.mem_of_getElem? e
    · exact h'
  · rename_i hne
    have hA : ∀ y ∈ out.take (posBy (fun y => lt y x) out), lt y x = true := fun y hy => by
      obtain ⟨j, hj, rfl⟩ := List.getElem_of_mem hy
      rw [List.length_take] at hj
      rw [List.getElem_take]
      exact posBy_lt (fun y => lt y x) out j (by omega) (by omega)
    have hB : ∀ y ∈ out.drop (posBy (fun y => lt y x) out), lt x y = true := fun y hy => by
      obtain ⟨j, hj, rfl⟩ := List.getElem_of_mem hy
      rw [List.length_drop] at hj
      rw [List.getElem_drop]
      have hge := posBy_ge (fun y => lt y x) (fun a b => lt a b = true) (fun a b hab ha => by
        cases hb : lt b x with
        | false => rfl
        | true => rw [tr a b x hab hb] at ha; cases ha) out h (posBy (fun y => lt y x) out + j) (by omega) (by omega)
      have hge : lt out[posBy (fun y => lt y x) out + j] x = false := hge
      rcases tot x out[posBy (fun y => lt y x) out + j] with h1 | h1 | h1
      · exact h1
      · rw [hge] at h1; cases h1
      · exfalso
        cases j with
        | zero =>
          refine hne ?_
          rw [List.getElem?_eq_getElem (by omega)]
          exact congrArg some (by simpa using h1.symm)
        | succ j =>
          have hp := List.pairwise_iff_getElem.1 h (posBy (fun y => lt y x) out) (posBy (fun y => lt y x) out + (j + 1)) (by omega) (by omega) (by omega)
          rw [← h1] at hp
          have h0 : lt out[posBy (fun y => lt y x) out] x = false := posBy_ge (fun y => lt y x) (fun a b => lt a b = true) (fun a b hab ha => by
            cases hb : lt b x with
            | false => rfl
            | true => rw [tr a b x hab hb] at ha; cases ha) out h (posBy (fun y => lt y x) out) (by omega) (Nat.le_refl _)
          rw [h0] at hp; cases hp
    refine ⟨List.pairwise_append.2 ⟨h.sublist (List.take_sublist _ _), List.pairwise_cons.2 ⟨hB, h.sublist (List.drop_sublist _ _)⟩, fun a ha b hb => ?_⟩, fun y => ?_⟩
    · rcases List.mem_cons.1 hb with rfl | hb
      · exact hA a ha
      · exact tr a x b (hA a ha) (hB b hb)
    · rw [List.mem_append, List.mem_cons]
      conv => rhs; rw [← List.take_append_drop (posBy (fun y => lt y x) out) out, List.mem_append]
      constructor
      · rintro (h1 | h1 | h1)
        · exact .inr (.inl h1)
        · exact .inl h1
        · exact .inr (.inr h1)
      · rintro (h1 | h1 | h1)
        · exact .inr (.inl h1)
        · exact .inl h1
        · exact .inr (.inr h1)
theorem risG_ok {α : Type} [DecidableEq α] {lt : α → α → Bool} (tr : ∀ a b c, lt a b = true → lt b c = true → lt a c = true) (tot : ∀ a b, lt a b = true ∨ lt b a = true ∨ a = b) (l out : List α) (h : out.Pairwise fun a b => lt a b = true) : (l.foldl (fun o x => insG lt x o) out).Pairwise (fun a b => lt a b = true) ∧ ∀ y, y ∈ l.foldl (fun o x => insG lt x o) out ↔ y ∈ l ∨ y ∈ out := by
  induction l generalizing out with
  | nil => exact ⟨h, fun y => by simp⟩
  | cons x r ih =>
    obtain ⟨h1, h2⟩ := insG_ok tr tot x h
    obtain ⟨h3, h4⟩ := ih _ h1
    refine ⟨h3, fun y => ?_⟩
    rw [List.foldl_cons, h4, h2, List.mem_cons]
    constructor
    · rintro (h | h | h)
      · exact .inl (.inr h)
      · exact .inl (.inl h)
      · exact .inr h
    · rintro ((h | h) | h)
      · exact .inr (.inl h)
      · exact .inl h
      · exact .inr (.inr h)
def ltI (a b : Int) : Bool := decide (a < b)
theorem ltI_irr (a : Int) : ltI a a = false := by simp [ltI]
theorem ltI_tr (a b c : Int) (h : ltI a b = true) (k : ltI b c = true) : ltI a c = true := by simp [ltI] at *; omega
theorem ltI_tot (a b : Int) : ltI a b = true ∨ ltI b a = true ∨ a = b := by simp [ltI]; omega
/-- each once, rising: one by one. -/
def risI (l : List Int) : List Int := l.foldl (fun o x => insG ltI x o) []
theorem risI_rise (l : List Int) : risI l = riseI l := by
  obtain ⟨h1, h2⟩ := risG_ok ltI_tr ltI_tot l [] List.Pairwise.nil
  refine strict_ext (h1.imp fun h => of_decide_eq_true h) (rise_strict l) fun x => ?_
  rw [rise_mem]
  show x ∈ l.foldl _ [] ↔ _
  rw [h2]; simp
theorem posBy_is {α : Type} (f : α → Bool) (O : List α) (q : Nat) (hq : q ≤ O.length) (h1 : ∀ t (ht : t < O.length), t < q → f O[t] = true) (h2 : ∀ h : q < O.length, f O[q] = false) : posBy f O = q := by
  have := posBy_app f (O.take q) (O.drop q) (fun x hx => by
    obtain ⟨t, ht, rfl⟩ := List.getElem_of_mem hx
    rw [List.length_take] at ht
    rw [List.getElem_take]; exact h1 t (by omega) (by omega)) (fun x hx => by
    rcases Nat.lt_or_ge q O.length with h | h
    · rw [List.drop_eq_getElem_cons h] at hx
      simp only [List.head?_cons, Option.some.injEq] at hx
      rw [← hx]; exact h2 h
    · rw [List.drop_of_length_le h] at hx; cases hx)
  rw [List.take_append_drop, List.length_take, Nat.min_eq_left hq] at this
  exact this
theorem insG_is {α : Type} [DecidableEq α] (lt : α → α → Bool) (x : α) (O : List α) (q : Nat) (hq : q ≤ O.length) (h1 : ∀ t (ht : t < O.length), t < q → lt O[t] x = true) (h2 : ∀ h : q < O.length, lt O[q] x = false) :
    ((∃ h : q < O.length, O[q] = x) → insG lt x O = O) ∧ ((∀ h : q < O.length, O[q] ≠ x) → insG lt x O = O.take q ++ x :: O.drop q) := by
  have e := posBy_is (fun y => lt y x) O q hq h1 h2
  unfold insG
  rw [e]
  constructor
  · rintro ⟨h, hx⟩
    rw [if_pos (by rw [List.getElem?_eq_getElem h, hx])]
  · intro h
    rw [if_neg]
    intro hx
    obtain ⟨hl, hx⟩ := List.getElem?_eq_some_iff.1 hx
    exact h hl hx
theorem foldl_take {α β : Type} (f : β → α → β) (b : β) {l : List α} {i : Nat} (h : i < l.length) : (l.take (i + 1)).foldl f b = f ((l.take i).foldl f b) l[i] := by
  rw [List.take_succ_eq_append_getElem h, List.foldl_append]; rfl
theorem insG_len {α : Type} [DecidableEq α] (lt : α → α → Bool) (x : α) (O : List α) : (insG lt x O).length ≤ O.length + 1 := by
  unfold insG
  split
  · omega
  · rw [List.length_append, List.length_cons, List.length_take, List.length_drop]
    have := posBy_le (fun y => lt y x) O
    omega
theorem risN_len {α : Type} [DecidableEq α] (lt : α → α → Bool) : ∀ (l O : List α), (l.foldl (fun o x => insG lt x o) O).length ≤ O.length + l.length
  | [], O => by simp
  | x :: r, O => by
    have h1 := risN_len lt r (insG lt x O)
    have h2 := insG_len lt x O
    rw [List.foldl_cons, List.length_cons]
    omega
theorem Mem.rowNew {w W : World} {b : Option Addr} {c : Nat} {O : List Int} (h : Mem w [] W [RowI b c O]) : Row W 3 1 b O.length c (intsV O) ∧ (∀ x ∈ blkOf b, w.heap.size ≤ x) ∧ Below w.heap.size w W := by
  obtain ⟨D, hA, hD⟩ := h.out
  obtain ⟨D1, D2, rfl, -, ⟨rfl, hr⟩, rfl⟩ := hA
  exact ⟨hr, fun x hx => by
    rcases hD.fresh x (List.mem_append_left _ hx) with h | h
    · cases h
    · exact h, h.bel⟩
theorem risI_snoc (l : List Int) (x : Int) : risI (l ++ [x]) = insG ltI x (risI l) := by unfold risI; rw [List.foldl_append]; rfl
end Go.Proofs.Ytbgabdofnmijnaa
