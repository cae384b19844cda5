/- A row that slices.SortFunc sorts (of no program). -/
import Derived.Test.YtbgabdofnmijnaaMem
import Derived.Shelf.SlSortCmp.NoneTotal
namespace Go.Proofs.Ytbgabdofnmijnaa
open Go.RowKit Go.Sort
theorem flat_len {α : Type} (enc : α → List Value) (k : Nat) (hk : ∀ x, (enc x).length = k) (l : List α) : (l.flatMap enc).length = l.length * k := by
  induction l with
  | nil => simp
  | cons x r ih => rw [List.flatMap_cons, List.length_append, hk, ih, List.length_cons, Nat.add_mul, Nat.one_mul]; omega
variable {α : Type} [Inhabited α]
theorem flat_get (enc : α → List Value) (k : Nat) (hk : ∀ x, (enc x).length = k) (hk0 : 0 < k) : ∀ (l : List α) (t : Nat), t < l.length * k → (l.flatMap enc)[t]? = some ((enc l[t / k]!)[t % k]!)
  | [], t, h => by simp at h
  | x :: r, t, h => by
    rw [List.flatMap_cons]
    by_cases ht : t < k
    · rw [List.getElem?_append_left (by rw [hk]; exact ht), Nat.div_eq_of_lt ht, Nat.mod_eq_of_lt ht]
      simp only [List.getElem!_cons_zero]
      rw [List.getElem?_eq_getElem (by rw [hk]; exact ht), getElem!_pos _ _ (by rw [hk]; exact ht)]
    · have h1 : k ≤ t := by omega
      have h2 : t - k < r.length * k := by simp only [List.length_cons, Nat.add_mul, Nat.one_mul] at h; omega
      rw [List.getElem?_append_right (by rw [hk]; exact h1), hk, flat_get enc k hk hk0 r (t - k) h2]
      have e1 : t / k = (t - k) / k + 1 := by rw [Nat.div_eq_sub_div hk0 h1]
      have e2 : (t - k) % k = t % k := by rw [← Nat.mod_eq_sub_mod h1]
      rw [e1, e2]; rfl
theorem flatK_list (enc : α → List Value) (k : Nat) (hk : ∀ x, (enc x).length = k) (hk0 : 0 < k) (d : Array α) : (flatK enc k d).toList = d.toList.flatMap enc := by
  apply List.ext_getElem?
  intro t
  by_cases h : t < d.size * k
  · rw [flat_get enc k hk hk0 _ t (by simpa using h)]
    have := get_flatK enc k d t h
    rw [getElem!_pos _ t (by simpa using h)] at this
    rw [List.getElem?_eq_getElem (by simpa using h)]
    simp only [Array.getElem_toList, this]
    congr 2
    have hq : t / k < d.size := Nat.div_lt_of_lt_mul (by rw [Nat.mul_comm]; exact h)
    rw [getElem!_pos d _ hq, getElem!_pos d.toList _ (by simpa using hq)]
    simp
  · rw [List.getElem?_eq_none (by simpa using h), List.getElem?_eq_none (by rw [flat_len enc k hk]; simpa using h)]
theorem row_holdsK {w : World} {E k g n c : Nat} {enc : α → List Value} (hk : ∀ x, (enc x).length = k) (hk0 : 0 < k) {d : Array α} (hd : d.size = n) (h : Row w E k (some ⟨g, 0, none⟩) n c (d.toList.flatMap enc)) : HoldsK enc k w g 0 d := by
  rcases h.out with ⟨e, _⟩ | ⟨g', cur, e, hg, hnc, _, hcs, htk, _⟩
  · cases e
  · obtain rfl : g = g' := by simpa using e
    intro j hj
    rw [size_flatK] at hj
    have hj' : j < n * k := by rw [← hd]; exact hj
    have hle := Nat.mul_le_mul_right k hnc
    have h1 := congrArg (fun l : List Value => l[j]?) htk
    rw [List.getElem?_take, if_pos hj', ← flatK_list enc k hk hk0] at h1
    have hjc : j < cur.size := by omega
    obtain ⟨c1, c2⟩ := cell_of_heap (i := 0 + j) (v := cur[j]) hg (by simp [hjc])
    refine ⟨?_, c2⟩
    rw [c1]
    rw [List.getElem?_eq_getElem (by simpa using hjc), List.getElem?_eq_getElem (by simpa using hj)] at h1
    rw [getElem!_pos _ j (by simpa using hj)]
    simpa using h1
/-- what it leaves. -/
theorem row_sorted {w w' : World} {E k g n c m : Nat} {enc : α → List Value} (hk : ∀ x, (enc x).length = k) (hk0 : 0 < k) {d d' : Array α} {os : Array Obj} (hd : d.size = n) (hd' : d'.size = n) (h : Row w E k (some ⟨g, 0, none⟩) n c (d.toList.flatMap enc))
    (hw : w' = sortWorldK enc k w g 0 m d' os) : Row w' E k (some ⟨g, 0, none⟩) n c (d'.toList.flatMap enc) ∧ Touch [g] w w' := by
  subst hw
  rcases h.out with ⟨e, _⟩ | ⟨g', cur, e, hg, hnc, hcm, hcs, htk, _⟩
  · cases e
  · obtain rfl : g = g' := by simpa using e
    have hlt : g < w.heap.size := lt_of_heap hg
    have hle := Nat.mul_le_mul_right k hnc
    have hheap : ∀ x, x < w.heap.size → (sortWorldK enc k w g 0 m d' os).heap[x]? = if g = x then (w.heap[x]?).map (onCells (putCells id 0 (flatK enc k d'))) else w.heap[x]? := by
      intro x hx
      unfold sortWorldK
      rw [heap_grow_old _ _ (by rw [size_putRowK]; exact hx)]
      show ((Sort.ahead w m).heap.modify g _)[x]? = _
      rw [Array.getElem?_modify]; rfl
    refine ⟨Row.mk (cur := putCells id 0 (flatK enc k d') cur) ?_ hnc hcm (by simp [putCells, hcs]) ?_, rfl, rfl, rfl, ?_, fun x hx hn => ?_⟩
    · rw [hheap g hlt, if_pos rfl, hg]; rfl
    · rw [← flatK_list enc k hk hk0]
      apply List.ext_getElem?
      intro t
      by_cases ht : t < n * k
      · rw [List.getElem?_take, if_pos ht]
        have h1 : t < cur.size := by omega
        have h2 : t < (flatK enc k d').size := by rw [size_flatK, hd']; exact ht
        rw [List.getElem?_eq_getElem (by simpa [putCells] using h1), List.getElem?_eq_getElem (by simpa using h2)]
        simp only [Array.getElem_toList, putCells, Array.getElem_mapIdx]
        rw [if_pos ⟨Nat.zero_le _, by omega⟩]
        rw [Nat.sub_zero, getElem!_pos _ t h2]; rfl
      · rw [List.getElem?_eq_none (by rw [List.length_take]; omega), List.getElem?_eq_none (by rw [Array.length_toList, size_flatK, hd']; omega)]
    · exact size_sortWorldK_c enc k w g 0 m d' os
    · rw [hheap x hx, if_neg (by simpa [eq_comm] using hn)]
/-- a permutation, sorted, as lists. -/
theorem permIn_list {d d' : Array α} (h : PermIn 0 d.size d d') : d'.toList.Perm d.toList := by
  obtain ⟨hs, _, hp⟩ := h
  rw [Array.extract_size] at hp
  rwa [show d'.extract 0 d.size = d' by rw [← hs]; exact Array.extract_size] at hp
theorem sortedIn_list {lt : α → α → Bool} {d d' : Array α} (hs : d'.size = d.size) (h : SortedIn lt 0 d.size d') : d'.toList.Pairwise fun x y => lt y x = false := by
  rw [List.pairwise_iff_getElem]
  intro i j hi hj hij
  have hi' : i < d'.size := by simpa using hi
  have hj' : j < d'.size := by simpa using hj
  have := h i j (Nat.zero_le _) hij (by omega)
  rw [getElem!_pos d' j hj', getElem!_pos d' i hi'] at this
  simpa using this
end Go.Proofs.Ytbgabdofnmijnaa
