/- Keys in order, each once: the plain facts, and that the program's way and the document's way come to them. -/
import Derived.Test.YteocoijkfkoddaaL
import Derived.Test.YteocoijkfkoddaaShelf
import Derived.Lib.SlicesCompact
import Derived.Deep.LoopGhost
namespace Go.Proofs.Yteocoijkfkoddaa
open Go.RowKit

/-! ### Plain -/
def Asc (l : List (List UInt8)) : Prop := l.Pairwise (· < ·)
theorem asc_unique : ∀ (l l' : List (List UInt8)), Asc l → Asc l' → (∀ x, x ∈ l ↔ x ∈ l') → l = l'
  | [], [], _, _, _ => rfl
  | [], y :: r, _, _, h => absurd ((h y).2 (List.mem_cons_self ..)) (by simp)
  | x :: r, [], _, _, h => absurd ((h x).1 (List.mem_cons_self ..)) (by simp)
  | x :: r, y :: r', h1, h2, h => by
    have p1 := List.pairwise_cons.1 h1
    have p2 := List.pairwise_cons.1 h2
    have e : x = y := by
      rcases List.mem_cons.1 ((h x).1 (List.mem_cons_self ..)) with e | hx
      · exact e
      · rcases List.mem_cons.1 ((h y).2 (List.mem_cons_self ..)) with e | hy
        · exact e.symm
        · exact absurd (p2.1 x hx) (Std.not_gt_of_lt (p1.1 y hy))
    subst e
    rw [asc_unique r r' p1.2 p2.2 fun z => ?_]
    constructor
    · intro hz
      rcases List.mem_cons.1 ((h z).1 (List.mem_cons_of_mem _ hz)) with e | hz'
      · subst e; exact absurd (p1.1 z hz) Std.lt_irrefl
      · exact hz'
    · intro hz
      rcases List.mem_cons.1 ((h z).2 (List.mem_cons_of_mem _ hz)) with e | hz'
      · subst e; exact absurd (p2.1 z hz) Std.lt_irrefl
      · exact hz'

theorem compact_inv (d : Array (List UInt8)) (hd : ∀ i j, i ≤ j → j < d.size → d[i]! ≤ d[j]!) : ∀ m, m ≤ d.size →
    Asc (Lib.compactUpTo d m) ∧ (∀ x, x ∈ Lib.compactUpTo d m ↔ ∃ j, j < m ∧ d[j]! = x)
  | 0, _ => ⟨by simp [Lib.compactUpTo, Asc], fun x => by simp [Lib.compactUpTo]⟩
  | m + 1, hm => by
    obtain ⟨h1, h2⟩ := compact_inv d hd m (by omega)
    rw [Lib.compactUpTo_succ]
    by_cases hk : Lib.keeps d m = true
    · rw [if_pos hk]
      refine ⟨List.pairwise_append.2 ⟨h1, by simp, fun x hx y hy => ?_⟩, fun x => ?_⟩
      · simp only [List.mem_singleton] at hy
        subst hy
        obtain ⟨j, hj, rfl⟩ := (h2 x).1 hx
        simp only [Lib.keeps, decide_eq_true_eq] at hk
        have hne : d[m]! ≠ d[m - 1]! := hk.resolve_left (by omega)
        have hle := hd j (m - 1) (by omega) (by omega)
        have hlt : d[m - 1]! < d[m]! := Std.lt_of_le_of_ne (hd (m - 1) m (by omega) (by omega)) (fun e => hne e.symm)
        exact Std.lt_of_le_of_lt hle hlt
      · rw [List.mem_append, h2, List.mem_singleton]
        constructor
        · rintro (⟨j, hj, e⟩ | e)
          · exact ⟨j, by omega, e⟩
          · exact ⟨m, by omega, e.symm⟩
        · rintro ⟨j, hj, e⟩
          by_cases ej : j = m
          · subst ej; exact .inr e.symm
          · exact .inl ⟨j, by omega, e⟩
    · rw [if_neg hk, List.append_nil]
      refine ⟨h1, fun x => ?_⟩
      rw [h2]
      have hk' : m ≠ 0 ∧ d[m]! = d[m - 1]! := by
        simp only [Lib.keeps, decide_eq_true_eq, not_or, Decidable.not_not] at hk
        exact hk
      constructor
      · rintro ⟨j, hj, e⟩; exact ⟨j, by omega, e⟩
      · rintro ⟨j, hj, e⟩
        by_cases ej : j = m
        · subst ej; exact ⟨j - 1, by omega, by rw [← hk'.2]; exact e⟩
        · exact ⟨j, by omega, e⟩

/-- The keys in order, each once. -/
def srt (L : List (List UInt8)) : List (List UInt8) := Lib.compact (L.mergeSort fun x y => decide (x ≤ y))
theorem srt_spec (L : List (List UInt8)) : Asc (srt L) ∧ ∀ x, x ∈ srt L ↔ x ∈ L := by
  have hs : (L.mergeSort fun x y => decide (x ≤ y)).Pairwise (fun x y => decide (x ≤ y) = true) :=
    List.pairwise_mergeSort (le := fun x y => decide (x ≤ y)) (fun a b c h1 h2 => decide_eq_true (Std.le_trans (of_decide_eq_true h1) (of_decide_eq_true h2))) (fun a b => by
      rcases Std.le_total (a := a) (b := b) with h | h <;> simp [decide_eq_true h]) L
  generalize hM : L.mergeSort (fun x y => decide (x ≤ y)) = M at hs
  have hd : ∀ i j, i ≤ j → j < M.toArray.size → M.toArray[i]! ≤ M.toArray[j]! := fun i j hij hj => by
    have hj' : j < M.length := by simpa using hj
    by_cases e : i = j
    · subst e; exact Std.le_refl _
    · have := List.pairwise_iff_getElem.1 hs i j (by omega) hj' (by omega)
      simpa [hj', show i < M.length by omega] using this
  obtain ⟨h1, h2⟩ := compact_inv M.toArray hd M.length (by simp)
  have e : srt L = Lib.compactUpTo M.toArray M.length := by unfold srt Lib.compact; rw [hM]
  rw [e]
  refine ⟨h1, fun x => ?_⟩
  rw [h2]
  have hp : x ∈ M ↔ x ∈ L := by rw [← hM]; exact (List.mergeSort_perm L _).mem_iff
  rw [← hp]
  constructor
  · rintro ⟨j, hj, rfl⟩
    have hj' : j < M.length := hj
    simp [hj']
  · intro hx
    obtain ⟨j, hj, rfl⟩ := List.getElem_of_mem hx
    exact ⟨j, hj, by simp [hj]⟩

theorem countP_lt {α : Type} (p q : α → Bool) : ∀ (l : List α), (∀ x ∈ l, p x = true → q x = true) → (∃ x ∈ l, q x = true ∧ p x = false) → l.countP p < l.countP q
  | [], _, ⟨x, hx, _⟩ => absurd hx (by simp)
  | a :: l, h, ⟨x, hx, hq, hp⟩ => by
    have hle : l.countP p ≤ l.countP q := List.countP_mono_left fun x hx => h x (List.mem_cons_of_mem _ hx)
    rw [List.countP_cons, List.countP_cons]
    rcases List.mem_cons.1 hx with rfl | hx'
    · rw [hq, hp]; simp; omega
    · have := countP_lt p q l (fun x hx => h x (List.mem_cons_of_mem _ hx)) ⟨x, hx', hq, hp⟩
      have ha := h a (List.mem_cons_self ..)
      cases hpa : p a <;> cases hqa : q a <;> simp_all <;> omega
end Go.Proofs.Yteocoijkfkoddaa
