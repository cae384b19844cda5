/- Sort and Compact of whole numbers. -/
import Derived.Test.YtnemgmlhcjhdhaaT
import Derived.Test.YtnemgmlhcjhdhaaShelf
namespace Go.Proofs.Ytnemgmlhcjhdhaa
open Go.RowKit Go.Sort Go.Lib
theorem Row.upto {w : World} {E k n c m : Nat} {a : Option Addr} {xs : List Value} (h : Row w E k a n c xs) (hm : m ≤ n) : Row w E k a m c (xs.take (m * k)) := by
  rcases h.out with ⟨rfl, rfl, rfl, rfl⟩ | ⟨g, cur, rfl, hg, h1, h2, h3, h4, _⟩
  · obtain rfl : m = 0 := by omega
    simpa using Row.nil w E k
  · refine Row.mk hg (by omega) h2 h3 ?_
    rw [← h4, List.take_take, Nat.min_eq_left (Nat.mul_le_mul_right _ hm)]
theorem heap_grow_old' (w : World) (os : Array Obj) {x : Nat} (h : x < w.heap.size) : (grow w os).heap[x]? = w.heap[x]? := by
  simp only [grow]; rw [Array.getElem?_append_left h]
theorem row_put {w w' : World} {g n c q : Nat} {o d : List Int} {os : Array Obj} (h : Row w 3 1 (some ⟨g, 0, none⟩) n c (intsV o)) (hd : d.length = n) (hw : w' = grow (putRow (Value.int .i64) (Go.Sort.ahead w q) g 0 d.toArray) os) :
    Row w' 3 1 (some ⟨g, 0, none⟩) n c (intsV d) ∧ Touch [g] w w' := by
  subst hw
  rcases h.out with ⟨e, _⟩ | ⟨g', cur, e, hg, hnc, hcm, hcs, htk, _⟩
  · cases e
  · obtain rfl : g = g' := by simpa using e
    have hlt : g < w.heap.size := lt_of_heap hg
    have hsz : (putRow (Value.int .i64) (Go.Sort.ahead w q) g 0 d.toArray).heap.size = w.heap.size := by show ((Go.Sort.ahead w q).heap.modify g _).size = _; rw [Array.size_modify]; rfl
    have hheap : ∀ x, x < w.heap.size → (grow (putRow (Value.int .i64) (Go.Sort.ahead w q) g 0 d.toArray) os).heap[x]? = if g = x then (w.heap[x]?).map (onCells (putCells (Value.int .i64) 0 d.toArray)) else w.heap[x]? := by
      intro x hx
      rw [heap_grow_old' _ _ (by rw [hsz]; exact hx)]
      show ((Go.Sort.ahead w q).heap.modify g _)[x]? = _
      rw [Array.getElem?_modify]; rfl
    refine ⟨Row.mk (cur := putCells (Value.int .i64) 0 d.toArray cur) ?_ hnc hcm (by simp [putCells, hcs]) ?_, rfl, rfl, rfl, ?_, fun x hx hn => ?_⟩
    · rw [hheap g hlt, if_pos rfl, hg]; rfl
    · apply List.ext_getElem?
      intro t
      by_cases ht : t < n * 1
      · rw [List.getElem?_take, if_pos ht]
        have h1 : t < cur.size := by omega
        have h2 : t < d.length := by omega
        rw [List.getElem?_eq_getElem (by simpa [putCells] using h1), List.getElem?_eq_getElem (by simpa [intsV] using h2)]
        simp only [Array.getElem_toList, putCells, Array.getElem_mapIdx, intsV, List.getElem_map]
        rw [if_pos ⟨Nat.zero_le _, by simpa using h2⟩]
        rw [Nat.sub_zero, getElem!_pos _ t (by simpa using h2)]; rfl
      · rw [List.getElem?_eq_none (by rw [List.length_take]; omega), List.getElem?_eq_none (by simp [intsV]; omega)]
    · show w.heap.size ≤ ((putRow (Value.int .i64) (Go.Sort.ahead w q) g 0 d.toArray).heap ++ os).size
      rw [Array.size_append, hsz]; omega
    · rw [hheap x hx, if_neg (by simpa [eq_comm] using hn)]
theorem holds_ints {w : World} {g n c : Nat} {o : List Int} (h : Row w 3 1 (some ⟨g, 0, none⟩) n c (intsV o)) : Holds (Value.int .i64) w g 0 o.toArray := fun j hj => by
  have hj' : j < o.length := by simpa using hj
  have := row_cell h (j := j) (v := .int .i64 o[j]) (by simp [intsV, hj'])
  rw [Nat.zero_add, List.getElem!_toArray, getElem!_pos o j hj']
  exact this
def sortI (o : List Int) : List Int := o.mergeSort fun x y => decide (x ≤ y)
theorem sortI_len (o : List Int) : (sortI o).length = o.length := List.length_mergeSort _
/-- each once, rising. -/
def riseI (o : List Int) : List Int := Lib.compact (sortI o)
section
variable {w0 w : World} {D0 : List Nat} (l : List Asn) {r : List Asn} [Stables l] [Stables r]
theorem mem_sort {a : Option Addr} {c : Nat} {o : List Int} (h : Mem w0 D0 w (l ++ RowI a c o :: r)) (hn : o.length ≤ 1000000) :
    Calls Try.prog 42 #[.slice a o.length c] w fun e w' => e = .returned (.tuple #[]) ∧ Mem w0 D0 w' (l ++ RowI a c (sortI o) :: r) := by
  have hr := Mem.rowAt l h
  rcases hr.out with ⟨rfl, h0, rfl, _⟩ | ⟨g, cur, rfl, hg, _⟩
  · obtain rfl : o = [] := List.length_eq_zero_iff.1 h0
    refine (Try.slices_Sort_int_none none 0 w).mono fun e w' ⟨he, hw⟩ => ⟨he, ?_⟩
    rw [hw, show sortI [] = [] by simp [sortI]]
    exact h
  · refine (Try.slices_Sort_int g 0 c o w (holds_ints hr) (hr.lt _ rfl) (by omega)).mono fun e w' hw => ?_
    obtain ⟨he, q, os, hw'⟩ := hw
    obtain ⟨h1, h2⟩ := row_put hr (d := sortI o) (sortI_len o) hw'
    refine ⟨he, ?_⟩
    have h3 := Mem.rowTurn l h (xs' := intsV (sortI o)) (n' := o.length) h1 (by simpa [blkOf] using h2) (Fresh.refl _ _)
    rw [show RowI (some ⟨g, 0, none⟩) c (sortI o) = RowA 3 1 (some ⟨g, 0, none⟩) o.length c (intsV (sortI o)) by unfold RowI; rw [sortI_len]]
    exact h3
theorem mem_compact {a : Option Addr} {c : Nat} {o : List Int} (h : Mem w0 D0 w (l ++ RowI a c o :: r)) (hn : o.length ≤ 1000000) :
    Calls Try.prog 43 #[.slice a o.length c] w fun e w' => e = .returned (.slice a (Lib.compact o).length c) ∧ Mem w0 D0 w' (l ++ RowI a c (Lib.compact o) :: r) := by
  have hr := Mem.rowAt l h
  rcases hr.out with ⟨rfl, h0, rfl, _⟩ | ⟨g, cur, rfl, hg, hnc, _⟩
  · obtain rfl : o = [] := List.length_eq_zero_iff.1 h0
    refine (Try.slices_Compact_int_empty none 0 w).mono fun e w' ⟨he, hw⟩ => ⟨he, ?_⟩
    rw [hw]
    exact h
  · have hle := Lib.compact_length_le o
    refine (Try.slices_Compact_int g 0 c o w (holds_ints hr) (by omega) hnc).mono fun e w' hw => ?_
    obtain ⟨he, q, hw'⟩ := hw
    obtain ⟨h1, h2⟩ := row_put (w' := w') (q := q) (os := #[]) hr (d := Lib.compact o ++ List.replicate (o.length - (Lib.compact o).length) 0) (by rw [List.length_append, List.length_replicate]; omega) (by rw [hw', grow_empty])
    refine ⟨he, Mem.rowTurn l h ?_ (by simpa [blkOf] using h2) (Fresh.refl _ _)⟩
    have h3 := Row.upto h1 hle
    rw [Nat.mul_one, show (intsV (Lib.compact o ++ List.replicate (o.length - (Lib.compact o).length) 0)).take (Lib.compact o).length = intsV (Lib.compact o) by unfold intsV; rw [List.map_append, List.take_left' (by simp)]] at h3
    exact h3
end
end Go.Proofs.Ytnemgmlhcjhdhaa
