/- Rows of ints and of edges beside other things: sorted, compacted, cut. -/
import Derived.Test.YtbgabdofnmijnaaM
import Derived.Test.YtbgabdofnmijnaaShelf
namespace Go.Proofs.Ytbgabdofnmijnaa
open Go.RowKit Go.Sort Go.Lib
theorem row_cell {w : World} {E k g n c : Nat} {xs : List Value} (h : Row w E k (some ⟨g, 0, none⟩) n c xs) {j : Nat} {v : Value} (hj : xs[j]? = some v) : w.cell? ⟨g, j, none⟩ = some v ∧ w.frozen? ⟨g, j, none⟩ = false := by
  rcases h.out with ⟨e, _⟩ | ⟨g', cur, e, hg, h1, h2, h3, h4, _⟩
  · cases e
  · obtain rfl : g = g' := by simpa using e
    have hc : cur[j]? = some v := by
      rw [← h4, List.getElem?_take] at hj
      split at hj
      · simpa using hj
      · cases hj
    exact cell_of_heap hg hc
section
variable {w0 w : World} {D0 : List Nat} (l : List Asn) {r : List Asn} [Stables l] [Stables r]
/-- a row is another one now. -/
theorem Mem.rowTurn {w' : World} {E k n c n' c' : Nat} {a a' : Option Addr} {xs xs' : List Value} (h : Mem w0 D0 w (l ++ RowA E k a n c xs :: r)) (hr : Row w' E k a' n' c' xs') (ht : Touch (blkOf a) w w') (hf : Fresh w a a') : Mem w0 D0 w' (l ++ RowA E k a' n' c' xs' :: r) := by
  obtain ⟨D, ⟨rfl, _⟩, k⟩ := Mem.focus l h
  exact k [RowA E _ a' n' c' xs'] _ (blkOf a') (all_one ⟨rfl, hr⟩) ⟨ht, fun x hx => by obtain ⟨y, hy, rfl⟩ := mem_blkOf.1 hx; exact hf y hy⟩
end
theorem infoInt : (Try.prog.info? 3).map (fun i => (i.zero, i.size, i.bytes)) = some (some (.int .i64 0), 1, 8) := by kernel_rfl
def intsV (l : List Int) : List Value := l.map fun i => .int .i64 i
abbrev RowI (a : Option Addr) (c : Nat) (l : List Int) : Asn := RowA 3 1 a l.length c (intsV l)
theorem rowI_app (b : Option Addr) (c : Nat) (I : List Int) (y : Int) : RowA 3 1 b (I.length + 1) c (intsV I ++ [.int .i64 y]) = RowI b c (I ++ [y]) := by
  unfold RowI intsV
  rw [List.length_append, List.map_append]; rfl
theorem Row.upto {w : World} {E k n c m : Nat} {a : Option Addr} {xs : List Value} (h : Row w E k a n c xs) (hm : m ≤ n) : Row w E k a m c (xs.take (m * k)) := by
  rcases h.out with ⟨rfl, rfl, rfl, rfl⟩ | ⟨g, cur, rfl, hg, h1, h2, h3, h4, _⟩
  · obtain rfl : m = 0 := by omega
    simpa using Row.nil w E k
  · refine Row.mk hg (by omega) h2 h3 ?_
    rw [← h4, List.take_take, Nat.min_eq_left (Nat.mul_le_mul_right _ hm)]
theorem heap_grow_old' (w : World) (os : Array Obj) {x : Nat} (h : x < w.heap.size) : (grow w os).heap[x]? = w.heap[x]? := by
  simp only [grow]; rw [Array.getElem?_append_left h]
theorem row_put {w w' : World} {g n c q : Nat} {o d : List Int} {os : Array Obj} (h : Row w 3 1 (some ⟨g, 0, none⟩) n c (intsV o)) (hd : d.length = n) (hw : w' = grow (putRow (Value.int .i64) (Go.Sort.ahead w q) g 0 d.toArray) os) :
    Row w' 3 1 (some ⟨g, 0, none⟩) n c (intsV d) ∧ Touch [g] w w' := by
  subst hw
  rcases h.out with ⟨e, _⟩ | ⟨g', cur, e, hg, hnc, hcm, hcs, htk, _⟩
  · cases e
  · obtain rfl : g = g' := by simpa using e
    have hlt : g < w.heap.size := lt_of_heap hg
    have hsz : (putRow (Value.int .i64) (Go.Sort.ahead w q) g 0 d.toArray).heap.size = w.heap.size := by show ((Go.Sort.ahead w q).heap.modify g _).size = _; rw [Array.size_modify]; rfl
    have hheap : ∀ x, x < w.heap.size → (grow (putRow (Value.int .i64) (Go.Sort.ahead w q) g 0 d.toArray) os).heap[x]? = if g = x then (w.heap[x]?).map (onCells (putCells (Value.int .i64) 0 d.toArray)) else w.heap[x]? := by
      intro x hx
      rw [heap_grow_old' _ _ (by rw [hsz]; exact hx)]
      show ((Go.Sort.ahead w q).heap.modify g _)[x]? = _
      rw [Array.getElem?_modify]; rfl
    refine ⟨Row.mk (cur := putCells (Value.int .i64) 0 d.toArray cur) ?_ hnc hcm (by simp [putCells, hcs]) ?_, rfl, rfl, rfl, ?_, fun x hx hn => ?_⟩
    · rw [hheap g hlt, if_pos rfl, hg]; rfl
    · apply List.ext_getElem?
      intro t
      by_cases ht : t < n * 1
      · rw [List.getElem?_take, if_pos ht]
        have h1 : t < cur.size := by omega
        have h2 : t < d.length := by omega
        rw [List.getElem?_eq_getElem (by simpa [putCells] using h1), List.getElem?_eq_getElem (by simpa [intsV] using h2)]
        simp only [Array.getElem_toList, putCells, Array.getElem_mapIdx, intsV, List.getElem_map]
        rw [if_pos ⟨Nat.zero_le _, by simpa using h2⟩]
        rw [Nat.sub_zero, getElem!_pos _ t (by simpa using h2)]; rfl
      · rw [List.getElem?_eq_none (by rw [List.length_take]; omega), List.getElem?_eq_none (by simp [intsV]; omega)]
    · show w.heap.size ≤ ((putRow (Value.int .i64) (Go.Sort.ahead w q) g 0 d.toArray).heap ++ os).size
      rw [Array.size_append, hsz]; omega
    · rw [hheap x hx, if_neg (by simpa [eq_comm] using hn)]
theorem holds_ints {w : World} {g n c : Nat} {o : List Int} (h : Row w 3 1 (some ⟨g, 0, none⟩) n c (intsV o)) : Holds (Value.int .i64) w g 0 o.toArray := fun j hj => by
  have hj' : j < o.length := by simpa using hj
  have := row_cell h (j := j) (v := .int .i64 o[j]) (by simp [intsV, hj'])
  rw [Nat.zero_add, List.getElem!_toArray, getElem!_pos o j hj']
  exact this
def sortI (o : List Int) : List Int := o.mergeSort fun x y => decide (x ≤ y)
theorem sortI_len (o : List Int) : (sortI o).length = o.length := List.length_mergeSort _
/-- each once, rising. -/
def riseI (o : List Int) : List Int := Lib.compact (sortI o)
section
variable {w0 w : World} {D0 : List Nat} (l : List Asn) {r : List Asn} [Stables l] [Stables r]
theorem mem_sort {a : Option Addr} {c : Nat} {o : List Int} (h : Mem w0 D0 w (l ++ RowI a c o :: r)) (hn : o.length ≤ 1000000) :
    Calls Try.prog 61 #[.slice a o.length c] w fun e w' => e = .returned (.tuple #[]) ∧ Mem w0 D0 w' (l ++ RowI a c (sortI o) :: r) := by
  have hr := Mem.rowAt l h
  rcases hr.out with ⟨rfl, h0, rfl, _⟩ | ⟨g, cur, rfl, hg, _⟩
  · obtain rfl : o = [] := List.length_eq_zero_iff.1 h0
    refine (Try.slices_Sort_int_none none 0 w).mono fun e w' ⟨he, hw⟩ => ⟨he, ?_⟩
    rw [hw, show sortI [] = [] by simp [sortI]]
    exact h
  · refine (Try.slices_Sort_int g 0 c o w (holds_ints hr) (hr.lt _ rfl) (by omega)).mono fun e w' hw => ?_
    obtain ⟨he, q, os, hw'⟩ := hw
    obtain ⟨h1, h2⟩ := row_put hr (d := sortI o) (sortI_len o) hw'
    refine ⟨he, ?_⟩
    have h3 := Mem.rowTurn l h (xs' := intsV (sortI o)) (n' := o.length) h1 (by simpa [blkOf] using h2) (Fresh.refl _ _)
    rw [show RowI (some ⟨g, 0, none⟩) c (sortI o) = RowA 3 1 (some ⟨g, 0, none⟩) o.length c (intsV (sortI o)) by unfold RowI; rw [sortI_len]]
    exact h3
theorem mem_compact {a : Option Addr} {c : Nat} {o : List Int} (h : Mem w0 D0 w (l ++ RowI a c o :: r)) (hn : o.length ≤ 1000000) :
    Calls Try.prog 62 #[.slice a o.length c] w fun e w' => e = .returned (.slice a (Lib.compact o).length c) ∧ Mem w0 D0 w' (l ++ RowI a c (Lib.compact o) :: r) := by
  have hr := Mem.rowAt l h
  rcases hr.out with ⟨rfl, h0, rfl, _⟩ | ⟨g, cur, rfl, hg, hnc, _⟩
  · obtain rfl : o = [] := List.length_eq_zero_iff.1 h0
    refine (Try.slices_Compact_int_empty none 0 w).mono fun e w' ⟨he, hw⟩ => ⟨he, ?_⟩
    rw [hw]
    exact h
  · have hle := Lib.compact_length_le o
    refine (Try.slices_Compact_int g 0 c o w (holds_ints hr) (by omega) hnc).mono fun e w' hw => ?_
    obtain ⟨he, q, hw'⟩ := hw
    obtain ⟨h1, h2⟩ := row_put (w' := w') (q := q) (os := #[]) hr (d := Lib.compact o ++ List.replicate (o.length - (Lib.compact o).length) 0) (by rw [List.length_append, List.length_replicate]; omega) (by rw [hw', grow_empty])
    refine ⟨he, Mem.rowTurn l h ?_ (by simpa [blkOf] using h2) (Fresh.refl _ _)⟩
    have h3 := Row.upto h1 hle
    rw [Nat.mul_one, show (intsV (Lib.compact o ++ List.replicate (o.length - (Lib.compact o).length) 0)).take (Lib.compact o).length = intsV (Lib.compact o) by unfold intsV; rw [List.map_append, List.take_left' (by simp)]] at h3
    exact h3
end
abbrev RowE (b : Option Addr) (d : Nat) (E : List Eg) : Asn := RowA 42 2 b E.length d (egFlat E)
theorem infoEg : (Try.prog.info? 42).map (fun i => (i.zero, i.size, i.bytes)) = some (some (.agg #[.int .i64 0, .int .i64 0]), 2, 16) := by kernel_rfl
section
variable {w0 w : World} {D0 : List Nat} (l : List Asn) {r : List Asn} [Stables l] [Stables r]
theorem mem_sortE {a : Option Addr} {c : Nat} {E : List Eg} (h : Mem w0 D0 w (l ++ RowE a c E :: r)) (hn : E.length ≤ 100000) :
    Calls Try.prog 31 #[.slice a E.length c, .func (.func 32) #[] #[]] w fun e w' => e = .returned (.tuple #[]) ∧ ∃ S : List Eg, S.Perm E ∧ EgUp S ∧ S.length = E.length ∧ Mem w0 D0 w' (l ++ RowE a c S :: r) := by
  refine (sort_eg a E.length c E rfl hn w (Mem.rowAt l h)).mono ?_
  rintro e w' ⟨rfl, S, hp, hu, hr, ht⟩
  have hl := hp.length_eq
  refine ⟨rfl, S, hp, hu, hl, ?_⟩
  rw [← hl] at hr
  exact Mem.rowTurn l h hr ht (Fresh.refl _ _)
theorem mem_compactE {a : Option Addr} {c : Nat} {E : List Eg} (h : Mem w0 D0 w (l ++ RowE a c E :: r)) (hn : E.length ≤ 100000) :
    Calls Try.prog 35 #[.slice a E.length c] w fun e w' => e = .returned (.slice a (cptE E).length c) ∧ Mem w0 D0 w' (l ++ RowE a c (cptE E) :: r) := by
  have hr := Mem.rowAt l h
  rcases hr.out with ⟨rfl, h0, rfl, _⟩ | ⟨g, cur, rfl, hg, _⟩
  · obtain rfl : E = [] := List.length_eq_zero_iff.1 h0
    have HM := Lib.hid h
    clear h hr
    go_enter Try.func35, Try.ntmps35
    go_wp2_with fail
    go_ret
    exact ⟨rfl, HM.out⟩
  · refine (compact_some g E.length c E w hr hn).mono ?_
    rintro e w' ⟨rfl, hr', ht⟩
    exact ⟨rfl, Mem.rowTurn l h hr' ht (Fresh.refl _ _)⟩
theorem mem_delE {a : Option Addr} {c bi : Nat} {tx : Int} {E : List Eg} (h : Mem w0 D0 w (BlockA bi #[.int .i64 tx] 3 :: (l ++ RowE a c E :: r))) (hn : E.length ≤ 100000) :
    Calls Try.prog 41 #[.slice a E.length c, .func (.func 42) #[] #[.pointer (some ⟨bi, 0, none⟩)]] w fun e w' => e = .returned (.slice a (E.filter fun x => !(x.a == tx)).length c) ∧ Mem w0 D0 w' (BlockA bi #[.int .i64 tx] 3 :: (l ++ RowE a c (E.filter fun x => !(x.a == tx)) :: r)) := by
  have hr := Mem.rowAt (BlockA bi #[.int .i64 tx] 3 :: l) h
  have hb := (h.block_cell (i := 0) rfl).1
  obtain ⟨D, hD, _⟩ := h.out
  obtain ⟨D1, D2, rfl, hd, ⟨rfl, hg⟩, hA⟩ := hD
  obtain ⟨D3, D4, rfl, hd2, h3, E1, E2, rfl, hd3, ⟨rfl, _⟩, h4⟩ := all_append l (RowE a c E :: r) hA
  have hne : bi ∉ blkOf a := fun hm => hd bi (by simp) (List.mem_append_right _ (List.mem_append_left _ hm))
  refine (ef_del bi (fun x => x.a == tx) (fun W => W.cell? ⟨bi, 0, none⟩ = some (.int .i64 tx)) (fun W W' h b => (b.cell (World.block_lt_of_cell? W _ h)).trans h) (fun x W h => fromIs_any bi tx x W h) a (fun W W' h t => t.cell h hne) E.length c E w hb hr (by omega)).mono ?_
  rintro e w' ⟨rfl, hr', ht⟩
  exact ⟨rfl, Mem.rowTurn (BlockA bi #[.int .i64 tx] 3 :: l) h hr' ht (Fresh.refl _ _)⟩
theorem mem_delI {a : Option Addr} {c : Nat} {o : List Int} {i : Nat} (h : Mem w0 D0 w (l ++ RowI a c o :: r)) (hi : i < o.length) (hn : o.length ≤ 1000000) :
    Calls Try.prog 40 #[.slice a o.length c, .int .i64 i, .int .i64 ((i + 1 : Nat) : Int)] w fun e w' => e = .returned (.slice a (o.eraseIdx i).length c) ∧ Mem w0 D0 w' (l ++ RowI a c (o.eraseIdx i) :: r) := by
  have hr := Mem.rowAt l h
  have hle : (o.eraseIdx i).length = o.length - 1 := by rw [List.length_eraseIdx]; simp [hi]
  rcases hr.out with ⟨rfl, h0, rfl, _⟩ | ⟨g, cur, rfl, hg, hnc, hcm, _⟩
  · omega
  · unfold maxLen at hcm
    refine (Try.slices_Delete_int g 0 c i (i + 1) o w (holds_ints hr) hnc (by omega) (by omega) (by omega)).mono fun e w' hw => ?_
    obtain ⟨he, q, hw'⟩ := hw
    have hi1 : i + 1 - i = 1 := by omega
    rw [hi1] at he hw'
    have hee : o.take i ++ o.drop (i + 1) = o.eraseIdx i := (List.eraseIdx_eq_take_drop_succ o i).symm
    rw [hee] at hw'
    obtain ⟨h1, h2⟩ := row_put (w' := w') (q := q) (os := #[]) hr (d := o.eraseIdx i ++ List.replicate 1 0) (by rw [List.length_append, List.length_replicate]; omega) (by rw [hw', grow_empty])
    refine ⟨by rw [he, hle], Mem.rowTurn l h ?_ (by simpa [blkOf] using h2) (Fresh.refl _ _)⟩
    have h3 := Row.upto h1 (m := (o.eraseIdx i).length) (by omega)
    rw [Nat.mul_one, show (intsV (o.eraseIdx i ++ List.replicate 1 0)).take (o.eraseIdx i).length = intsV (o.eraseIdx i) by unfold intsV; rw [List.map_append, List.take_left' (by simp)]] at h3
    exact h3
end
end Go.Proofs.Ytbgabdofnmijnaa
