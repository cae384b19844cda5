/- More on things side by side (of no program): blocks and rows at any place; a row that is read from its head on. -/
import Derived.Test.YtmifgnibalbgjaaDoorMem
import Derived.Deep.AppendSrc
namespace Go.Proofs.YtmifgnibalbgjaaDoor
open Go.RowKit

theorem Mem.ofAll {w : World} {D : List Nat} {l : List Asn} (h : All l w D) : Mem w D w l := ⟨D, h, Touch.refl _ _, fun _ h => .inl h⟩
section
variable {w0 w w' : World} {D0 : List Nat} (l : List Asn) {r : List Asn} [Stables l] [Stables r]
theorem Mem.setAt {g i : Nat} {cur : Array Value} {T : TypeId} (h : Mem w0 D0 w (l ++ BlockA g cur T :: r)) (v : Value) : Mem w0 D0 (w.setCell ⟨g, i, none⟩ v) (l ++ BlockA g (cur.set! i v) T :: r) := by
  obtain ⟨D, ⟨rfl, hg⟩, k⟩ := Mem.focus l h
  exact k [BlockA g (cur.set! i v) T] _ [g] (all_one ⟨rfl, heap_set hg v⟩) ⟨Touch.setCell _ _ _ (by simp), fun x hx => .inl hx⟩
theorem Mem.cellAt {g i : Nat} {cur : Array Value} {T : TypeId} {v : Value} (h : Mem w0 D0 w (l ++ BlockA g cur T :: r)) (hv : cur[i]? = some v) : w.cell? ⟨g, i, none⟩ = some v ∧ w.frozen? ⟨g, i, none⟩ = false := by
  obtain ⟨D, _, hD⟩ := Mem.get l h
  exact cell_of_heap hD hv
theorem Mem.rowAt {E k : Nat} {a : Option Addr} {n c : Nat} {xs : List Value} (h : Mem w0 D0 w (l ++ RowA E k a n c xs :: r)) : Row w E k a n c xs := by
  obtain ⟨D, _, hD⟩ := Mem.get l h
  exact hD
theorem Mem.app1 {P : Program} {t e ty : TypeId} {z0 : Value} {k by' : Nat} (ht : P.underlying t = some (.slice e)) (hinfo : (P.info? e).map (fun i => (i.zero, i.size, i.bytes)) = some (some z0, k, by')) (hz : z0.cells.size = k) (hk : 0 < k)
    {a : Option Addr} {n c : Nat} {xs : List Value} (h : Mem w0 D0 w (l ++ RowA e k a n c xs :: r)) (vs : List Value) (hvl : vs.length = k) (hone : ∀ u ∈ vs, u.oneCell' = true) (hbig : n ≤ 1000000) (hby : by' ≤ 1000000) :
    ∃ b' cap' w', (Builtin.append_ #[t, t] ty #[.slice a n c, .slice (some ⟨w.heap.size, 0, none⟩) 1 1]).run P (w.alloc (.cells vs.toArray e)) = .ok (.slice b' (n + 1) cap') w' ∧ Mem w0 D0 w' (l ++ RowA e k b' (n + 1) cap' (xs ++ vs) :: r) := by
  obtain ⟨D, ⟨rfl, hr⟩, kk⟩ := Mem.focus l h
  obtain ⟨b', cap', w', h1, h2, h3, h4⟩ := app_row1 w t ty e ht hinfo hz hk a n c xs hr vs hvl hone hbig hby
  refine ⟨b', cap', w', h1, kk [RowA e k b' (n + 1) cap' (xs ++ vs)] w' (blkOf b') (all_one ⟨rfl, h2⟩) ⟨h3, fun x hx => ?_⟩⟩
  obtain ⟨y, hy, rfl⟩ := mem_blkOf.1 hx
  exact h4 y hy
theorem Mem.blockAt {l : List Asn} [Stables l] (h : Mem w0 D0 w l) (cur : Array Value) (T : TypeId) : Mem w0 D0 (w.alloc (.cells cur T)) (BlockA w.heap.size cur T :: l) := h.block cur T
end

/-- A slice of one-cell elements anywhere in a block of its own. -/
def QRow (w : World) (E : Nat) (a : Option Addr) (n c : Nat) (xs : List Value) : Prop :=
  ∃ g off cur, a = some ⟨g, off, none⟩ ∧ w.heap[g]? = some (.cells cur E (0, 0)) ∧ n ≤ c ∧ c ≤ maxLen ∧ off + c ≤ cur.size ∧ (cur.toList.drop off).take n = xs ∧ xs.length = n
def QRowA (E : Nat) (a : Option Addr) (n c : Nat) (xs : List Value) : Asn := fun w D => D = blkOf a ∧ QRow w E a n c xs
instance {E : Nat} {a : Option Addr} {n c : Nat} {xs : List Value} : Stable (QRowA E a n c xs) where
  lt := fun ⟨e, g, off, cur, ha, hg, _⟩ x hx => by subst e ha; simp [blkOf] at hx; subst hx; exact lt_of_heap hg
  keep := fun ⟨e, g, off, cur, ha, hg, h⟩ hk => ⟨e, g, off, cur, ha, by rw [hk g (by subst e ha; simp [blkOf])]; exact hg, h⟩
theorem QRow.cell {w : World} {E : Nat} {a : Option Addr} {n c : Nat} {xs : List Value} (h : QRow w E a n c xs) (j : Nat) (hj : j < xs.length) : ∃ g off, a = some ⟨g, off, none⟩ ∧ w.cell? ⟨g, off + j, none⟩ = some xs[j] := by
  obtain ⟨g, off, cur, ha, hg, hnc, _, hoc, hx, hl⟩ := h
  refine ⟨g, off, ha, ?_⟩
  have h1 := congrArg (fun l : List Value => l[j]?) hx
  rw [List.getElem?_take, if_pos (by omega), List.getElem?_drop, List.getElem?_eq_getElem hj] at h1
  have : cur[off + j]? = some xs[j] := by rw [← h1]; simp
  exact (cell_of_heap hg this).1
/-- the first one is read away. -/
theorem QRow.tail {w : World} {E : Nat} {a : Option Addr} {n c : Nat} {x : Value} {xs : List Value} (h : QRow w E a (n + 1) c (x :: xs)) :
    ∃ g off, a = some ⟨g, off, none⟩ ∧ 1 ≤ c ∧ QRow w E (some ⟨g, off + 1, none⟩) n (c - 1) xs ∧ QRow w E (if c = 1 then some ⟨g, off, none⟩ else some ⟨g, off + 1, none⟩) n (c - 1) xs := by
  obtain ⟨g, off, cur, ha, hg, hnc, hcm, hoc, hx, hl⟩ := h
  have h1 : (cur.toList.drop (off + 1)).take n = xs := by
    have := congrArg (List.drop 1) hx
    rw [List.drop_take, List.drop_drop, List.drop_one, List.tail_cons] at this
    exact this
  refine ⟨g, off, ha, by omega, ⟨g, off + 1, cur, rfl, hg, by omega, by omega, by omega, h1, by simpa using hl⟩, ?_⟩
  split
  · have hn : n = 0 := by omega
    subst hn
    have : xs = [] := List.eq_nil_of_length_eq_zero (by simpa using hl)
    subst this
    exact ⟨g, off, cur, rfl, hg, by omega, by omega, by omega, by simp, rfl⟩
  · exact ⟨g, off + 1, cur, rfl, hg, by omega, by omega, by omega, h1, by simpa using hl⟩
theorem setCells_one (w : World) (b o : Nat) (v : Value) : w.setCells b o [v] = w.setCell ⟨b, o, none⟩ v := rfl
/-- one is put behind. -/
theorem app_qrow {P : Program} (w : World) (t ty e : TypeId) {z0 : Value} {by' : Nat} (ht : P.underlying t = some (.slice e)) (hinfo : (P.info? e).map (fun i => (i.zero, i.size, i.bytes)) = some (some z0, 1, by')) (hz : z0.cells.size = 1)
    (a : Option Addr) (n c : Nat) (xs : List Value) (hr : QRow w e a n c xs) (v : Value) (hone : v.oneCell' = true) (hbig : n ≤ 1000000) (hby : by' ≤ 1000000) :
    ∃ b' cap' w', (Builtin.append_ #[t, t] ty #[.slice a n c, .slice (some ⟨w.heap.size, 0, none⟩) 1 1]).run P (w.alloc (.cells #[v] e)) = .ok (.slice b' (n + 1) cap') w' ∧
      QRow w' e b' (n + 1) cap' (xs ++ [v]) ∧ Touch (blkOf a) w w' ∧ Fresh w a b' := by
  obtain ⟨i0, hi, hz0, hz1, hz2⟩ := info_parts hinfo
  obtain ⟨g, off, cur, rfl, hg, hnc, hcm, hoc, hx, hl⟩ := hr
  have hlt := lt_of_heap hg
  have hb := bel_new w (.cells #[v] e)
  have hg1 : (w.alloc (.cells #[v] e)).heap[g]? = some (.cells cur e (0, 0)) := (hb.block g hlt).trans hg
  have hnew : (w.alloc (.cells #[v] e)).cell? ⟨w.heap.size, 0, none⟩ = some v := (cell_of_heap (heap_new w (.cells #[v] e)) rfl).1
  have S : Src P i0.size t (.slice (some ⟨w.heap.size, 0, none⟩) 1 1) 1 [v] (w.alloc (.cells #[v] e)) :=
    Src.ofSlice _ ht _ 1 1 [v] (by rw [hz1]; rfl) (fun j u hj => by
      cases j with
      | zero => simp at hj; subst hj; exact hnew
      | succ j => simp at hj) (fun u hu => by simp at hu; subst hu; exact hone)
  by_cases hroom : n + 1 ≤ c
  · have hlt2 : off + n < cur.size := by omega
    obtain ⟨c1, c2⟩ := cell_of_heap (i := off + n) (v := cur[off + n]) hg1 (by simp [hlt2])
    have hrun := run_append_room_src (P := P) (w.alloc (.cells #[v] e)) t t ty e i0 ht hi g off n c _ 1 [v] S hroom (fun j hj => by
      have : j = 0 := by simpa using hj
      subst this; rw [hz1, Nat.mul_one, Nat.add_zero, c1]; rfl) (fun j hj => by
      have : j = 0 := by simpa using hj
      subst this; rw [hz1, Nat.mul_one, Nat.add_zero]; exact c2)
    refine ⟨_, _, _, hrun, ⟨g, off, cur.set! (off + n) v, rfl, ?_, hroom, hcm, by simpa using hoc, ?_, by simp [hl]⟩, ?_, Fresh.refl _ _⟩
    · rw [hz1, Nat.mul_one, setCells_one]; exact heap_set hg1 v
    · have e1 : (cur.set! (off + n) v).toList = cur.toList.set (off + n) v := by simp [Array.set!_eq_setIfInBounds]
      rw [e1, List.drop_set, if_neg (by omega), show off + n - off = n by omega]
      rw [List.take_add_one, List.take_set_of_le (by omega), hx]
      congr 1
      rw [List.getElem?_set_self (by simp; omega)]; rfl
    · refine (Touch.of_below hb _).andThen ?_
      rw [hz1, Nat.mul_one, setCells_one]
      exact Touch.setCell _ _ _ (by simp [blkOf])
  · have hold : (Builtin.firstCells i0.size n (.slice (some ⟨g, off, none⟩) n c)).run P (w.alloc (.cells #[v] e)).drew = .ok xs.toArray (w.alloc (.cells #[v] e)).drew :=
      run_firstCells_some _ i0.size n ⟨g, off, none⟩ n c xs (by rw [hz1, Nat.mul_one]; exact hl) (fun j u hj => by
        obtain ⟨hj', e'⟩ := List.getElem?_eq_some_iff.1 hj
        subst e'
        obtain ⟨g', off', he, hc⟩ := QRow.cell (w := (w.alloc (.cells #[v] e)).drew) ⟨g, off, cur, rfl, hg1, hnc, hcm, hoc, hx, hl⟩ j hj'
        simp only [Option.some.injEq, Addr.mk.injEq, and_true] at he
        obtain ⟨rfl, rfl⟩ := he
        rw [Addr.add_lit]; exact hc)
    have hfit : Builtin.nextslicecap (n + 1) c * i0.bytes ≤ 281474976710656 := growslice_fits (by omega) (by
      have : (n + 1) * by' ≤ 1000001 * 1000000 := Nat.mul_le_mul (by omega) hby
      rw [hz2]; omega)
    have hrun := run_append_grow_src (P := P) (w.alloc (.cells #[v] e)) t t ty e i0 z0 ht hi hz0 (some ⟨g, off, none⟩) n c xs hold _ 1 [v] S (by omega) (by omega) hfit
    have hge := grownCap_ge (w.alloc (.cells #[v] e)) (n + 1) c e
    have hlm := grownCap_le_maxLen (w.alloc (.cells #[v] e)) (n + 1) c e (by unfold maxLen; omega)
    refine ⟨_, _, _, hrun, ⟨_, 0, _, rfl, heap_alloc_new (w.alloc (.cells #[v] e)).drew _, hge, hlm, ?_, ?_, by simp [hl]⟩, (Touch.of_below hb _).andThen ((Touch.drew _ _).andThen (Touch.alloc _ _ _)), fun x hx => ?_⟩
    · simp only [Array.size_append, List.size_toArray, List.length_append, List.length_singleton, size_zeroCells, hz, hl]
      omega
    · simp only [Array.toList_append, List.drop_zero]
      rw [List.take_append_of_le_length (by simp [hl]), List.take_of_length_le (by simp [hl])]
    · simp only [Option.some.injEq] at hx
      subst hx
      right
      show w.heap.size ≤ (w.alloc (.cells #[v] e)).heap.size
      exact hb.size
theorem QRow.of_row {w : World} {E : Nat} {g n c : Nat} {xs : List Value} (h : Row w E 1 (some ⟨g, 0, none⟩) n c xs) : QRow w E (some ⟨g, 0, none⟩) n c xs := by
  rcases h.out with ⟨e, _⟩ | ⟨g', cur, e, hg, hnc, hcm, hcs, htk, hl⟩
  · cases e
  · exact ⟨g', 0, cur, e, hg, hnc, hcm, by omega, by rw [List.drop_zero]; simpa using htk, by simpa using hl⟩
section
variable {w0 w w' : World} {D0 : List Nat} (l : List Asn) {r : List Asn} [Stables l] [Stables r]
theorem Mem.qrowAt {E : Nat} {a : Option Addr} {n c : Nat} {xs : List Value} (h : Mem w0 D0 w (l ++ QRowA E a n c xs :: r)) : QRow w E a n c xs := by
  obtain ⟨D, _, hD⟩ := Mem.get l h
  exact hD
theorem Mem.qset {E : Nat} {g off n c n' c' off' : Nat} {xs xs' : List Value} (h : Mem w0 D0 w (l ++ QRowA E (some ⟨g, off, none⟩) n c xs :: r)) (hq : QRow w E (some ⟨g, off', none⟩) n' c' xs') : Mem w0 D0 w (l ++ QRowA E (some ⟨g, off', none⟩) n' c' xs' :: r) := by
  obtain ⟨D, ⟨rfl, _⟩, kk⟩ := Mem.focus l h
  exact kk [QRowA E (some ⟨g, off', none⟩) n' c' xs'] w _ (all_one ⟨rfl, hq⟩) ⟨Touch.refl _ _, fun x hx => .inl hx⟩
theorem Mem.qapp {P : Program} {t e ty : TypeId} {z0 : Value} {by' : Nat} (ht : P.underlying t = some (.slice e)) (hinfo : (P.info? e).map (fun i => (i.zero, i.size, i.bytes)) = some (some z0, 1, by')) (hz : z0.cells.size = 1)
    {a : Option Addr} {n c : Nat} {xs : List Value} (h : Mem w0 D0 w (l ++ QRowA e a n c xs :: r)) (v : Value) (hone : v.oneCell' = true) (hbig : n ≤ 1000000) (hby : by' ≤ 1000000) :
    ∃ b' cap' w', (Builtin.append_ #[t, t] ty #[.slice a n c, .slice (some ⟨w.heap.size, 0, none⟩) 1 1]).run P (w.alloc (.cells #[v] e)) = .ok (.slice b' (n + 1) cap') w' ∧ Mem w0 D0 w' (l ++ QRowA e b' (n + 1) cap' (xs ++ [v]) :: r) := by
  obtain ⟨D, ⟨rfl, hr⟩, kk⟩ := Mem.focus l h
  obtain ⟨b', cap', w', h1, h2, h3, h4⟩ := app_qrow w t ty e ht hinfo hz a n c xs hr v hone hbig hby
  refine ⟨b', cap', w', h1, kk [QRowA e b' (n + 1) cap' (xs ++ [v])] w' (blkOf b') (all_one ⟨rfl, h2⟩) ⟨h3, fun x hx => ?_⟩⟩
  obtain ⟨y, hy, rfl⟩ := mem_blkOf.1 hx
  exact h4 y hy
end
end Go.Proofs.YtmifgnibalbgjaaDoor
