/- Parts alike: the plain law of the splits, and the program's way to them. -/
import Derived.Test.YteocoijkfkoddaaQ
namespace Go.Proofs.Yteocoijkfkoddaa
open Go.RowKit

/-- The splits behind the parts 1 to k of N, and the place of the last one. -/
def evenS (l : List ByteArray) (N : Nat) : Nat → List ByteArray × Nat
  | 0 => ([], 0)
  | k + 1 => if (evenS l N k).2 < (k + 1) * l.length / N then ((evenS l N k).1 ++ [l.getD ((k + 1) * l.length / N) ByteArray.empty], (k + 1) * l.length / N) else evenS l N k
theorem even_len (l : List ByteArray) (N : Nat) : ∀ k, (evenS l N k).1.length ≤ k
  | 0 => by simp [evenS]
  | k + 1 => by
    have := even_len l N k
    unfold evenS
    split
    · simp; omega
    · omega
theorem even_place (l : List ByteArray) (N : Nat) (_hN : 0 < N) : ∀ k, (evenS l N k).2 ≤ k * l.length / N
  | 0 => by simp [evenS]
  | k + 1 => by
    have := even_place l N _hN k
    have hm : k * l.length / N ≤ (k + 1) * l.length / N := Nat.div_le_div_right (Nat.mul_le_mul_right _ (by omega))
    unfold evenS
    split
    · exact Nat.le_refl _
    · omega
theorem at_lt (len N k : Nat) (hk : k < N) (hl : 0 < len) : k * len / N < len :=
  Nat.div_lt_of_lt_mul (Nat.mul_lt_mul_of_pos_right hk hl)
/-- The last split is the text at the last place. -/
theorem even_last (l : List ByteArray) (N : Nat) : ∀ k, ((evenS l N k).1 = [] ∧ (evenS l N k).2 = 0) ∨ ((evenS l N k).1 ≠ [] ∧ 0 < (evenS l N k).2 ∧ (evenS l N k).1.getD ((evenS l N k).1.length - 1) ByteArray.empty = l.getD (evenS l N k).2 ByteArray.empty)
  | 0 => .inl ⟨rfl, rfl⟩
  | k + 1 => by
    have := even_last l N k
    unfold evenS
    split
    · right
      refine ⟨by simp, by omega, ?_⟩
      simp [List.getD]
    · exact this
/-- The document's test is the program's. -/
theorem even_test (l : List ByteArray) (N k : Nat) (hN : 0 < N) (hk : k + 1 < N) (hl : Asc (l.map (·.toList))) (hp : 0 < (k + 1) * l.length / N) (hne : (evenS l N k).1 ≠ []) :
    (decide ((evenS l N k).2 < (k + 1) * l.length / N)) = !(((evenS l N k).1.getD ((evenS l N k).1.length - 1) ByteArray.empty).toList == (l.getD ((k + 1) * l.length / N) ByteArray.empty).toList) := by
  rcases even_last l N k with ⟨h, _⟩ | ⟨_, h2, h3⟩
  · exact absurd h hne
  · rw [h3]
    have hle := even_place l N hN k
    have hm : k * l.length / N ≤ (k + 1) * l.length / N := Nat.div_le_div_right (Nat.mul_le_mul_right _ (by omega))
    have hpos : 0 < l.length := by
      rcases Nat.eq_zero_or_pos l.length with e | e
      · rw [e] at hp; simp at hp
      · exact e
    have hlt := at_lt l.length N (k + 1) hk hpos
    generalize (k + 1) * l.length / N = t at *
    generalize (evenS l N k).2 = s at *
    by_cases e : s = t
    · subst e; simp
    · have h4 := List.pairwise_iff_getElem.1 hl s t (by simp; omega) (by simpa using hlt) (by omega)
      simp only [List.getElem_map] at h4
      rw [decide_eq_true (by omega)]
      symm
      rw [Bool.not_eq_true', beq_eq_false_iff_ne]
      intro h5
      simp only [List.getD, List.getElem?_eq_getElem hlt, List.getElem?_eq_getElem (show s < l.length by omega), Option.getD_some] at h5
      rw [h5] at h4
      exact Std.lt_irrefl h4

/-! ### Sorting, in the words of rows -/
theorem holds_of_row {w : World} {g n c : Nat} {ss : List ByteArray} (h : Row w 9 1 (some ⟨g, 0, none⟩) n c (ss.map Value.string)) : Go.Sort.Holds encStr w g 0 (ss.map (·.toList)).toArray := by
  intro j hj
  have hj' : j < ss.length := by simpa using hj
  rcases h.out with ⟨e, _⟩ | ⟨g', cur, e, hg, _⟩
  · simp at e
  · simp only [Option.some.injEq, Addr.mk.injEq, and_true] at e
    subst e
    obtain ⟨g2, e2, hc⟩ := h.cellAt j (by simpa using hj')
    simp only [Option.some.injEq, Addr.mk.injEq, and_true] at e2
    subst e2
    refine ⟨?_, ?_⟩
    · rw [Nat.zero_add, hc]
      have : (ss.map (·.toList)).toArray[j]! = ss[j].toList := by simp [hj']
      rw [this, List.getElem_map]
      exact congrArg (fun s => some (Value.string s)) (toB_toList ss[j]).symm
    · unfold World.frozen?; rw [show (⟨g, 0 + j, none⟩ : Addr).block = g from rfl, hg]; simp
theorem touch_sorted {α : Type} [Inhabited α] (enc : α → Value) (w : World) (n blk off : Nat) (d : Array α) (os : Array Obj) : Touch [blk] w (Go.Sort.grow (Go.Sort.putRow enc (Go.Sort.ahead w n) blk off d) os) := by
  refine ⟨rfl, rfl, rfl, by simp [Go.Sort.grow], fun k hk hn => ?_⟩
  have hk2 : k < (Go.Sort.putRow enc (Go.Sort.ahead w n) blk off d).heap.size := by simpa using hk
  simp only [Go.Sort.grow]
  rw [Array.getElem?_append_left hk2]
  simp only [Go.Sort.putRow, Go.Sort.mapBlock, Go.Sort.heap_ahead, Array.getElem?_modify]
  rw [if_neg (by simp at hn; omega)]
theorem holds_grow {α : Type} [Inhabited α] {enc : α → Value} {w : World} {blk off : Nat} {d : Array α} (h : Go.Sort.Holds enc w blk off d) (os : Array Obj) : Go.Sort.Holds enc (Go.Sort.grow w os) blk off d := by
  intro j hj
  obtain ⟨h1, h2⟩ := h j hj
  have hb : blk < w.heap.size := World.block_lt_of_cell? w _ h1
  have e : (Go.Sort.grow w os).heap[(⟨blk, off + j, none⟩ : Addr).block]? = w.heap[(⟨blk, off + j, none⟩ : Addr).block]? := by simp only [Go.Sort.grow]; rw [Array.getElem?_append_left hb]
  exact ⟨(World.cell?_of_block e).trans h1, (World.frozen?_of_block e).trans h2⟩
theorem strs_of_holds {w : World} {g : Nat} {L : List (List UInt8)} {Z : List (List UInt8)} (h : Go.Sort.Holds encStr w g 0 (L ++ Z).toArray) : StrsAt w (some ⟨g, 0, none⟩) L.length (L.map toB) := by
  refine ⟨by simp, fun j hj => ⟨g, 0, rfl, ?_⟩⟩
  obtain ⟨h1, _⟩ := h j (by simp; omega)
  rw [h1]
  have : (L ++ Z).toArray[j]! = L[j] := by
    have : j < (L ++ Z).length := by rw [List.length_append]; omega
    rw [show (L ++ Z).toArray[j]! = (L ++ Z)[j] by simp only [List.getElem!_toArray, getElem!_pos, this], List.getElem_append_left hj]
  rw [this]
  simp [List.getD, hj, toB]

/-- Clone, Sort, Compact: the keys in order, each once. -/
theorem sort_any (g n c : Nat) (ss : List ByteArray) (w : World) (hn : n ≤ 1000) (h : Row w 9 1 (some ⟨g, 0, none⟩) n c (ss.map Value.string)) :
    Calls Try.prog 30 #[.slice (some ⟨g, 0, none⟩) n c] w fun e w' => e = .returned (.tuple #[]) ∧ Go.Sort.Holds encStr w' g 0 ((ss.map (·.toList)).mergeSort fun x y => decide (x ≤ y)).toArray ∧ Touch [g] w w' := by
  have hl : (ss.map (·.toList)).length = n := by have := h.len; rw [List.length_map] at this ⊢; omega
  have hg : g < w.heap.size := h.lt _ rfl
  have hH := holds_of_row h
  generalize ss.map (·.toList) = L at *
  have hc := Try.slices_Sort_string g 0 c L w hH hg (by omega)
  rw [hl] at hc
  refine hc.mono fun e w' hw => ?_
  obtain ⟨he, q, os, hw'⟩ := hw
  have h1 : Go.Sort.Holds encStr (Go.Sort.ahead w q) g 0 L.toArray := hH
  have h2 := Go.Sort.holds_putRow encStr (Go.Sort.ahead w q) g 0 L.toArray (L.mergeSort fun x y => decide (x ≤ y)).toArray h1 (by simp)
  have h3 := holds_grow h2 os
  have h4 := touch_sorted encStr w q g 0 (L.mergeSort fun x y => decide (x ≤ y)).toArray os
  rw [← hw'] at h3 h4
  exact ⟨he, h3, h4⟩
theorem compact_any (g c : Nat) (M : List (List UInt8)) (w : World) (hn : M.length ≤ 1000) (hc : M.length ≤ c) (h : Go.Sort.Holds encStr w g 0 M.toArray) :
    Calls Try.prog 31 #[.slice (some ⟨g, 0, none⟩) M.length c] w fun e w' => e = .returned (.slice (some ⟨g, 0, none⟩) (Lib.compact M).length c) ∧ StrsAt w' (some ⟨g, 0, none⟩) (Lib.compact M).length ((Lib.compact M).map toB) ∧ Touch [g] w w' := by
  have hlen : (Lib.compact M).length ≤ M.length := by
    unfold Lib.compact Lib.compactUpTo
    rw [List.length_map]
    exact Nat.le_trans (List.length_filter_le _ _) (by simp)
  refine (Try.slices_Compact_string g 0 c M w h (by omega) hc).mono ?_
  rintro e w' ⟨he, q, rfl⟩
  refine ⟨he, strs_of_holds (Go.Sort.holds_putRow encStr _ g 0 _ _ (Go.Sort.holds_ahead _ _ _ _ _ _ h) (by simp; omega)), ?_⟩
  have := touch_sorted encStr w q g 0 (Lib.compact M ++ List.replicate (M.length - (Lib.compact M).length) []).toArray #[]
  rwa [Go.Sort.grow_empty] at this
end Go.Proofs.Yteocoijkfkoddaa
