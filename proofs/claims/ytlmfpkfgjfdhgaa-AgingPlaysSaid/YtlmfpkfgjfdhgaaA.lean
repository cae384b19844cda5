/- Members and locks as rows of cells. -/
import Derived.Test.YtlmfpkfgjfdhgaaOwn
import Derived.Test.YtlmfpkfgjfdhgaaRows
import Derived.Laws.Externs
import Derived.Deep.RegionLaw
namespace Go.Proofs.Ytlmfpkfgjfdhgaa
open Go.RowKit
/-- A member. -/
structure Mb where
  id : Int
  stamp : Int
  waits : Bool
  key : ByteArray
def mbCells (t : Mb) : List Value := [.int .i64 t.id, .int .i64 t.stamp, .bool t.waits, .string t.key]
def mbFlat : List Mb → List Value
  | [] => []
  | t :: r => .int .i64 t.id :: .int .i64 t.stamp :: .bool t.waits :: .string t.key :: mbFlat r
theorem mbFlat_len : ∀ l : List Mb, (mbFlat l).length = l.length * 4
  | [] => rfl
  | t :: r => by simp only [mbFlat, List.length_cons, mbFlat_len r]; omega
theorem mbFlat_append : ∀ l r : List Mb, mbFlat (l ++ r) = mbFlat l ++ mbFlat r
  | [], r => rfl
  | t :: l, r => by simp [mbFlat, mbFlat_append l r]
theorem mbFlat_cons (t : Mb) (r : List Mb) : mbFlat (t :: r) = mbCells t ++ mbFlat r := rfl
theorem mbFlat_take : ∀ (l : List Mb) (k : Nat), (mbFlat l).take (k * 4) = mbFlat (l.take k)
  | [], k => by simp [mbFlat]
  | t :: r, 0 => by simp [mbFlat]
  | t :: r, k + 1 => by
    rw [show (k + 1) * 4 = k * 4 + 1 + 1 + 1 + 1 by omega]
    simp [mbFlat, mbFlat_take r k]
theorem mbFlat_drop : ∀ (l : List Mb) (k : Nat), (mbFlat l).drop (k * 4) = mbFlat (l.drop k)
  | [], k => by simp [mbFlat]
  | t :: r, 0 => by simp [mbFlat]
  | t :: r, k + 1 => by
    rw [show (k + 1) * 4 = k * 4 + 1 + 1 + 1 + 1 by omega]
    simp [mbFlat, mbFlat_drop r k]
theorem mbFlat_get : ∀ (l : List Mb) (k : Nat) (h : k < l.length), (mbFlat l)[k * 4]? = some (.int .i64 l[k].id) ∧ (mbFlat l)[k * 4 + 1]? = some (.int .i64 l[k].stamp) ∧ (mbFlat l)[k * 4 + 2]? = some (.bool l[k].waits) ∧ (mbFlat l)[k * 4 + 3]? = some (.string l[k].key)
  | [], k, h => absurd h (by simp)
  | t :: r, 0, _ => by simp [mbFlat]
  | t :: r, k + 1, h => by
    have := mbFlat_get r k (by simpa using h)
    rw [show (k + 1) * 4 = k * 4 + 4 by omega]
    simpa [mbFlat] using this
theorem mbFlat_one : ∀ (l : List Mb), ∀ u ∈ mbFlat l, u.oneCell' = true
  | [], _, h => by cases h
  | t :: r, u, h => by
    simp only [mbFlat, List.mem_cons] at h
    rcases h with rfl | rfl | rfl | rfl | h
    · rfl
    · rfl
    · rfl
    · rfl
    · exact mbFlat_one r u h
theorem mbCells_one (t : Mb) : ∀ u ∈ mbCells t, u.oneCell' = true := fun u h => mbFlat_one [t] u (by simpa [mbFlat, mbCells] using h)
def mbAt (w : World) (g o : Nat) (t : Mb) : Prop := w.cell? ⟨g, o, none⟩ = some (.int .i64 t.id) ∧ w.cell? ⟨g, o + 1, none⟩ = some (.int .i64 t.stamp) ∧ w.cell? ⟨g, o + 2, none⟩ = some (.bool t.waits) ∧ w.cell? ⟨g, o + 3, none⟩ = some (.string t.key)
theorem mbAt_row {w : World} {E : Nat} {a : Option Addr} {n c : Nat} {l : List Mb} (h : Row w E 4 a n c (mbFlat l)) (k : Nat) (hk : k < l.length) : ∃ g, a = some ⟨g, 0, none⟩ ∧ mbAt w g (k * 4) l[k] := by
  obtain ⟨h0, h1, h2, h3⟩ := mbFlat_get l k hk
  have hl := mbFlat_len l
  obtain ⟨g0, e0, c0⟩ := h.cellAt (k * 4) (by omega)
  obtain ⟨g1, e1, c1⟩ := h.cellAt (k * 4 + 1) (by omega)
  obtain ⟨g2, e2, c2⟩ := h.cellAt (k * 4 + 2) (by omega)
  obtain ⟨g3, e3, c3⟩ := h.cellAt (k * 4 + 3) (by omega)
  subst e0
  simp only [Option.some.injEq, Addr.mk.injEq, and_true] at e1 e2 e3
  subst e1 e2 e3
  rw [List.getElem?_eq_getElem (by omega)] at h0 h1 h2 h3
  exact ⟨g0, rfl, by rw [c0, h0], by rw [c1, h1], by rw [c2, h2], by rw [c3, h3]⟩
theorem mbAt.cells {w w' : World} {g o : Nat} {t : Mb} (h : mbAt w g o t) (hk : ∀ {p : Addr} {v : Value}, w.cell? p = some v → w'.cell? p = some v) : mbAt w' g o t :=
  ⟨hk h.1, hk h.2.1, hk h.2.2.1, hk h.2.2.2⟩
theorem mbAt.below {w w' : World} {B g o : Nat} {t : Mb} (h : mbAt w g o t) (b : Below B w w') (hB : w.heap.size ≤ B := by exact Nat.le_refl _) : mbAt w' g o t :=
  h.cells fun {p v} hp => (World.cell?_of_block (w := w) (b.block p.block (Nat.lt_of_lt_of_le (World.block_lt_of_cell? w p hp) hB))).trans hp
theorem mbAt_new (w : World) (t : Mb) (T : TypeId) : mbAt (w.alloc (.cells #[.int .i64 t.id, .int .i64 t.stamp, .bool t.waits, .string t.key] T)) w.heap.size 0 t := by
  refine ⟨?_, ?_, ?_, ?_⟩ <;> simp [go_sem]
theorem mbAt_block {w : World} {g : Nat} {t : Mb} {T : TypeId} (h : w.heap[g]? = some (.cells #[.int .i64 t.id, .int .i64 t.stamp, .bool t.waits, .string t.key] T (0, 0))) : mbAt w g 0 t := by
  refine ⟨?_, ?_, ?_, ?_⟩ <;> (simp only [World.cell?, h]; rfl)
theorem mbAt_at {w : World} {g E n j : Nat} {cur : Array Value} {l : List Mb} (hg : w.heap[g]? = some (.cells cur E (0, 0))) (h : (cur.toList.take (n * 4)).drop (j * 4) = mbFlat (l.drop j)) (hj : j < l.length) : mbAt w g (j * 4) l[j] := by
  have key : ∀ r u, (mbFlat (l.drop j))[r]? = some u → w.cell? ⟨g, j * 4 + r, none⟩ = some u := fun r u hu => by
    rw [← h, List.getElem?_drop, List.getElem?_take] at hu
    split at hu
    · unfold World.cell?; rw [show (⟨g, j * 4 + r, none⟩ : Addr).block = g from rfl, hg]; simpa using hu
    · cases hu
  rw [List.drop_eq_getElem_cons hj] at key
  exact ⟨key 0 _ rfl, key 1 _ rfl, key 2 _ rfl, key 3 _ rfl⟩
/-- A lock. -/
structure Lk where
  key : ByteArray
  holder : Int
def lkCells (t : Lk) : List Value := [.string t.key, .int .i64 t.holder]
def lkFlat : List Lk → List Value
  | [] => []
  | t :: r => .string t.key :: .int .i64 t.holder :: lkFlat r
theorem lkFlat_len : ∀ l : List Lk, (lkFlat l).length = l.length * 2
  | [] => rfl
  | t :: r => by simp only [lkFlat, List.length_cons, lkFlat_len r]; omega
theorem lkFlat_append : ∀ l r : List Lk, lkFlat (l ++ r) = lkFlat l ++ lkFlat r
  | [], r => rfl
  | t :: l, r => by simp [lkFlat, lkFlat_append l r]
theorem lkFlat_cons (t : Lk) (r : List Lk) : lkFlat (t :: r) = lkCells t ++ lkFlat r := rfl
theorem lkFlat_take : ∀ (l : List Lk) (k : Nat), (lkFlat l).take (k * 2) = lkFlat (l.take k)
  | [], k => by simp [lkFlat]
  | t :: r, 0 => by simp [lkFlat]
  | t :: r, k + 1 => by
    rw [show (k + 1) * 2 = k * 2 + 1 + 1 by omega]
    simp [lkFlat, lkFlat_take r k]
theorem lkFlat_drop : ∀ (l : List Lk) (k : Nat), (lkFlat l).drop (k * 2) = lkFlat (l.drop k)
  | [], k => by simp [lkFlat]
  | t :: r, 0 => by simp [lkFlat]
  | t :: r, k + 1 => by
    rw [show (k + 1) * 2 = k * 2 + 1 + 1 by omega]
    simp [lkFlat, lkFlat_drop r k]
theorem lkFlat_get : ∀ (l : List Lk) (k : Nat) (h : k < l.length), (lkFlat l)[k * 2]? = some (.string l[k].key) ∧ (lkFlat l)[k * 2 + 1]? = some (.int .i64 l[k].holder)
  | [], k, h => absurd h (by simp)
  | t :: r, 0, _ => by simp [lkFlat]
  | t :: r, k + 1, h => by
    have := lkFlat_get r k (by simpa using h)
    rw [show (k + 1) * 2 = k * 2 + 2 by omega]
    simpa [lkFlat] using this
theorem lkFlat_one : ∀ (l : List Lk), ∀ u ∈ lkFlat l, u.oneCell' = true
  | [], _, h => by cases h
  | t :: r, u, h => by
    simp only [lkFlat, List.mem_cons] at h
    rcases h with rfl | rfl | h
    · rfl
    · rfl
    · exact lkFlat_one r u h
theorem lkCells_one (t : Lk) : ∀ u ∈ lkCells t, u.oneCell' = true := fun u h => lkFlat_one [t] u (by simpa [lkFlat, lkCells] using h)
def lkAt (w : World) (g o : Nat) (t : Lk) : Prop := w.cell? ⟨g, o, none⟩ = some (.string t.key) ∧ w.cell? ⟨g, o + 1, none⟩ = some (.int .i64 t.holder)
theorem lkAt_row {w : World} {E : Nat} {a : Option Addr} {n c : Nat} {l : List Lk} (h : Row w E 2 a n c (lkFlat l)) (k : Nat) (hk : k < l.length) : ∃ g, a = some ⟨g, 0, none⟩ ∧ lkAt w g (k * 2) l[k] := by
  obtain ⟨h0, h1⟩ := lkFlat_get l k hk
  have hl := lkFlat_len l
  obtain ⟨g0, e0, c0⟩ := h.cellAt (k * 2) (by omega)
  obtain ⟨g1, e1, c1⟩ := h.cellAt (k * 2 + 1) (by omega)
  subst e0
  simp only [Option.some.injEq, Addr.mk.injEq, and_true] at e1
  subst e1
  rw [List.getElem?_eq_getElem (by omega)] at h0 h1
  exact ⟨g0, rfl, by rw [c0, h0], by rw [c1, h1]⟩
theorem lkAt.cells {w w' : World} {g o : Nat} {t : Lk} (h : lkAt w g o t) (hk : ∀ {p : Addr} {v : Value}, w.cell? p = some v → w'.cell? p = some v) : lkAt w' g o t :=
  ⟨hk h.1, hk h.2⟩
theorem lkAt.below {w w' : World} {B g o : Nat} {t : Lk} (h : lkAt w g o t) (b : Below B w w') (hB : w.heap.size ≤ B := by exact Nat.le_refl _) : lkAt w' g o t :=
  h.cells fun {p v} hp => (World.cell?_of_block (w := w) (b.block p.block (Nat.lt_of_lt_of_le (World.block_lt_of_cell? w p hp) hB))).trans hp
theorem lkAt_new (w : World) (t : Lk) (T : TypeId) : lkAt (w.alloc (.cells #[.string t.key, .int .i64 t.holder] T)) w.heap.size 0 t := by
  refine ⟨?_, ?_⟩ <;> simp [go_sem]
theorem lkAt_block {w : World} {g : Nat} {t : Lk} {T : TypeId} (h : w.heap[g]? = some (.cells #[.string t.key, .int .i64 t.holder] T (0, 0))) : lkAt w g 0 t := by
  refine ⟨?_, ?_⟩ <;> (simp only [World.cell?, h]; rfl)
theorem lkAt_at {w : World} {g E n j : Nat} {cur : Array Value} {l : List Lk} (hg : w.heap[g]? = some (.cells cur E (0, 0))) (h : (cur.toList.take (n * 2)).drop (j * 2) = lkFlat (l.drop j)) (hj : j < l.length) : lkAt w g (j * 2) l[j] := by
  have key : ∀ r u, (lkFlat (l.drop j))[r]? = some u → w.cell? ⟨g, j * 2 + r, none⟩ = some u := fun r u hu => by
    rw [← h, List.getElem?_drop, List.getElem?_take] at hu
    split at hu
    · unfold World.cell?; rw [show (⟨g, j * 2 + r, none⟩ : Addr).block = g from rfl, hg]; simpa using hu
    · cases hu
  rw [List.drop_eq_getElem_cons hj] at key
  exact ⟨key 0 _ rfl, key 1 _ rfl⟩
end Go.Proofs.Ytlmfpkfgjfdhgaa
