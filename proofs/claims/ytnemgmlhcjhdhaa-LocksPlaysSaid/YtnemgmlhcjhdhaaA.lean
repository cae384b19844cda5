/- Holds and lines as rows of cells. -/
import Derived.Test.YtnemgmlhcjhdhaaOwn
import Derived.Test.YtnemgmlhcjhdhaaRows
import Derived.Laws.Externs
import Derived.Deep.RegionLaw
namespace Go.Proofs.Ytnemgmlhcjhdhaa
open Go.RowKit
/-- A slice's header. -/
structure Sl where
  a : Option Addr
  n : Nat
  c : Nat
structure Hd where
  owner : Int
  mode : Int
def hdCells (t : Hd) : List Value := [.int .i64 t.owner, .int .i64 t.mode]
def hdFlat : List Hd → List Value
  | [] => []
  | t :: r => .int .i64 t.owner :: .int .i64 t.mode :: hdFlat r
theorem hdFlat_len : ∀ l : List Hd, (hdFlat l).length = l.length * 2
  | [] => rfl
  | t :: r => by simp only [hdFlat, List.length_cons, hdFlat_len r]; omega
theorem hdFlat_append : ∀ l r : List Hd, hdFlat (l ++ r) = hdFlat l ++ hdFlat r
  | [], r => rfl
  | t :: l, r => by simp [hdFlat, hdFlat_append l r]
theorem hdFlat_cons (t : Hd) (r : List Hd) : hdFlat (t :: r) = hdCells t ++ hdFlat r := rfl
theorem hdFlat_take : ∀ (l : List Hd) (k : Nat), (hdFlat l).take (k * 2) = hdFlat (l.take k)
  | [], k => by simp [hdFlat]
  | t :: r, 0 => by simp [hdFlat]
  | t :: r, k + 1 => by
    rw [show (k + 1) * 2 = k * 2 + 1 + 1 by omega]
    simp [hdFlat, hdFlat_take r k]
theorem hdFlat_drop : ∀ (l : List Hd) (k : Nat), (hdFlat l).drop (k * 2) = hdFlat (l.drop k)
  | [], k => by simp [hdFlat]
  | t :: r, 0 => by simp [hdFlat]
  | t :: r, k + 1 => by
    rw [show (k + 1) * 2 = k * 2 + 1 + 1 by omega]
    simp [hdFlat, hdFlat_drop r k]
theorem hdFlat_get : ∀ (l : List Hd) (k : Nat) (h : k < l.length), (hdFlat l)[k * 2]? = some (.int .i64 l[k].owner) ∧ (hdFlat l)[k * 2 + 1]? = some (.int .i64 l[k].mode)
  | [], k, h => absurd h (by simp)
  | t :: r, 0, _ => by simp [hdFlat]
  | t :: r, k + 1, h => by
    have := hdFlat_get r k (by simpa using h)
    rw [show (k + 1) * 2 = k * 2 + 2 by omega]
    simpa [hdFlat] using this
theorem hdFlat_one : ∀ (l : List Hd), ∀ u ∈ hdFlat l, u.oneCell' = true
  | [], _, h => by cases h
  | t :: r, u, h => by
    simp only [hdFlat, List.mem_cons] at h
    rcases h with rfl | rfl | h
    · rfl
    · rfl
    · exact hdFlat_one r u h
theorem hdCells_one (t : Hd) : ∀ u ∈ hdCells t, u.oneCell' = true := fun u h => hdFlat_one [t] u (by simpa [hdFlat, hdCells] using h)
def hdAt (w : World) (g o : Nat) (t : Hd) : Prop := w.cell? ⟨g, o, none⟩ = some (.int .i64 t.owner) ∧ w.cell? ⟨g, o + 1, none⟩ = some (.int .i64 t.mode)
theorem hdAt_row {w : World} {E : Nat} {a : Option Addr} {n c : Nat} {l : List Hd} (h : Row w E 2 a n c (hdFlat l)) (k : Nat) (hk : k < l.length) : ∃ g, a = some ⟨g, 0, none⟩ ∧ hdAt w g (k * 2) l[k] := by
  obtain ⟨h0, h1⟩ := hdFlat_get l k hk
  have hl := hdFlat_len l
  obtain ⟨g0, e0, c0⟩ := h.cellAt (k * 2) (by omega)
  obtain ⟨g1, e1, c1⟩ := h.cellAt (k * 2 + 1) (by omega)
  subst e0
  simp only [Option.some.injEq, Addr.mk.injEq, and_true] at e1
  subst e1
  rw [List.getElem?_eq_getElem (by omega)] at h0 h1
  exact ⟨g0, rfl, by rw [c0, h0], by rw [c1, h1]⟩
theorem hdAt.cells {w w' : World} {g o : Nat} {t : Hd} (h : hdAt w g o t) (hk : ∀ {p : Addr} {v : Value}, w.cell? p = some v → w'.cell? p = some v) : hdAt w' g o t :=
  ⟨hk h.1, hk h.2⟩
theorem hdAt.below {w w' : World} {B g o : Nat} {t : Hd} (h : hdAt w g o t) (b : Below B w w') (hB : w.heap.size ≤ B := by exact Nat.le_refl _) : hdAt w' g o t :=
  h.cells fun {p _v} hp => (World.cell?_of_block (w := w) (b.block p.block (Nat.lt_of_lt_of_le (World.block_lt_of_cell? w p hp) hB))).trans hp
theorem hdAt_new (w : World) (t : Hd) (T : TypeId) : hdAt (w.alloc (.cells #[.int .i64 t.owner, .int .i64 t.mode] T)) w.heap.size 0 t := by
  refine ⟨?_, ?_⟩ <;> simp [go_sem]
theorem hdAt_block {w : World} {g : Nat} {t : Hd} {T : TypeId} (h : w.heap[g]? = some (.cells #[.int .i64 t.owner, .int .i64 t.mode] T (0, 0))) : hdAt w g 0 t := by
  refine ⟨?_, ?_⟩ <;> (simp only [World.cell?, h]; rfl)
theorem hdAt_at {w : World} {g E n j : Nat} {cur : Array Value} {l : List Hd} (hg : w.heap[g]? = some (.cells cur E (0, 0))) (h : (cur.toList.take (n * 2)).drop (j * 2) = hdFlat (l.drop j)) (hj : j < l.length) : hdAt w g (j * 2) l[j] := by
  have key : ∀ r u, (hdFlat (l.drop j))[r]? = some u → w.cell? ⟨g, j * 2 + r, none⟩ = some u := fun r u hu => by
    rw [← h, List.getElem?_drop, List.getElem?_take] at hu
    split at hu
    · unfold World.cell?; rw [show (⟨g, j * 2 + r, none⟩ : Addr).block = g from rfl, hg]; simpa using hu
    · cases hu
  rw [List.drop_eq_getElem_cons hj] at key
  exact ⟨key 0 _ rfl, key 1 _ rfl⟩
structure Ln where
  key : ByteArray
  hs : Sl
  qs : Sl
def lnCells (t : Ln) : List Value := [.string t.key, .slice t.hs.a t.hs.n t.hs.c, .slice t.qs.a t.qs.n t.qs.c]
def lnFlat : List Ln → List Value
  | [] => []
  | t :: r => .string t.key :: .slice t.hs.a t.hs.n t.hs.c :: .slice t.qs.a t.qs.n t.qs.c :: lnFlat r
theorem lnFlat_len : ∀ l : List Ln, (lnFlat l).length = l.length * 3
  | [] => rfl
  | t :: r => by simp only [lnFlat, List.length_cons, lnFlat_len r]; omega
theorem lnFlat_append : ∀ l r : List Ln, lnFlat (l ++ r) = lnFlat l ++ lnFlat r
  | [], r => rfl
  | t :: l, r => by simp [lnFlat, lnFlat_append l r]
theorem lnFlat_cons (t : Ln) (r : List Ln) : lnFlat (t :: r) = lnCells t ++ lnFlat r := rfl
theorem lnFlat_take : ∀ (l : List Ln) (k : Nat), (lnFlat l).take (k * 3) = lnFlat (l.take k)
  | [], k => by simp [lnFlat]
  | t :: r, 0 => by simp [lnFlat]
  | t :: r, k + 1 => by
    rw [show (k + 1) * 3 = k * 3 + 1 + 1 + 1 by omega]
    simp [lnFlat, lnFlat_take r k]
theorem lnFlat_drop : ∀ (l : List Ln) (k : Nat), (lnFlat l).drop (k * 3) = lnFlat (l.drop k)
  | [], k => by simp [lnFlat]
  | t :: r, 0 => by simp [lnFlat]
  | t :: r, k + 1 => by
    rw [show (k + 1) * 3 = k * 3 + 1 + 1 + 1 by omega]
    simp [lnFlat, lnFlat_drop r k]
theorem lnFlat_get : ∀ (l : List Ln) (k : Nat) (h : k < l.length), (lnFlat l)[k * 3]? = some (.string l[k].key) ∧ (lnFlat l)[k * 3 + 1]? = some (.slice l[k].hs.a l[k].hs.n l[k].hs.c) ∧ (lnFlat l)[k * 3 + 2]? = some (.slice l[k].qs.a l[k].qs.n l[k].qs.c)
  | [], k, h => absurd h (by simp)
  | t :: r, 0, _ => by simp [lnFlat]
  | t :: r, k + 1, h => by
    have := lnFlat_get r k (by simpa using h)
    rw [show (k + 1) * 3 = k * 3 + 3 by omega]
    simpa [lnFlat] using this
theorem lnFlat_one : ∀ (l : List Ln), ∀ u ∈ lnFlat l, u.oneCell' = true
  | [], _, h => by cases h
  | t :: r, u, h => by
    simp only [lnFlat, List.mem_cons] at h
    rcases h with rfl | rfl | rfl | h
    · rfl
    · rfl
    · rfl
    · exact lnFlat_one r u h
theorem lnCells_one (t : Ln) : ∀ u ∈ lnCells t, u.oneCell' = true := fun u h => lnFlat_one [t] u (by simpa [lnFlat, lnCells] using h)
def lnAt (w : World) (g o : Nat) (t : Ln) : Prop := w.cell? ⟨g, o, none⟩ = some (.string t.key) ∧ w.cell? ⟨g, o + 1, none⟩ = some (.slice t.hs.a t.hs.n t.hs.c) ∧ w.cell? ⟨g, o + 2, none⟩ = some (.slice t.qs.a t.qs.n t.qs.c)
theorem lnAt_row {w : World} {E : Nat} {a : Option Addr} {n c : Nat} {l : List Ln} (h : Row w E 3 a n c (lnFlat l)) (k : Nat) (hk : k < l.length) : ∃ g, a = some ⟨g, 0, none⟩ ∧ lnAt w g (k * 3) l[k] := by
  obtain ⟨h0, h1, h2⟩ := lnFlat_get l k hk
  have hl := lnFlat_len l
  obtain ⟨g0, e0, c0⟩ := h.cellAt (k * 3) (by omega)
  obtain ⟨g1, e1, c1⟩ := h.cellAt (k * 3 + 1) (by omega)
  obtain ⟨g2, e2, c2⟩ := h.cellAt (k * 3 + 2) (by omega)
  subst e0
  simp only [Option.some.injEq, Addr.mk.injEq, and_true] at e1 e2
  subst e1 e2
  rw [List.getElem?_eq_getElem (by omega)] at h0 h1 h2
  exact ⟨g0, rfl, by rw [c0, h0], by rw [c1, h1], by rw [c2, h2]⟩
theorem lnAt.cells {w w' : World} {g o : Nat} {t : Ln} (h : lnAt w g o t) (hk : ∀ {p : Addr} {v : Value}, w.cell? p = some v → w'.cell? p = some v) : lnAt w' g o t :=
  ⟨hk h.1, hk h.2.1, hk h.2.2⟩
theorem lnAt.below {w w' : World} {B g o : Nat} {t : Ln} (h : lnAt w g o t) (b : Below B w w') (hB : w.heap.size ≤ B := by exact Nat.le_refl _) : lnAt w' g o t :=
  h.cells fun {p _v} hp => (World.cell?_of_block (w := w) (b.block p.block (Nat.lt_of_lt_of_le (World.block_lt_of_cell? w p hp) hB))).trans hp
theorem lnAt_new (w : World) (t : Ln) (T : TypeId) : lnAt (w.alloc (.cells #[.string t.key, .slice t.hs.a t.hs.n t.hs.c, .slice t.qs.a t.qs.n t.qs.c] T)) w.heap.size 0 t := by
  refine ⟨?_, ?_, ?_⟩ <;> simp [go_sem]
theorem lnAt_block {w : World} {g : Nat} {t : Ln} {T : TypeId} (h : w.heap[g]? = some (.cells #[.string t.key, .slice t.hs.a t.hs.n t.hs.c, .slice t.qs.a t.qs.n t.qs.c] T (0, 0))) : lnAt w g 0 t := by
  refine ⟨?_, ?_, ?_⟩ <;> (simp only [World.cell?, h]; rfl)
theorem lnAt_at {w : World} {g E n j : Nat} {cur : Array Value} {l : List Ln} (hg : w.heap[g]? = some (.cells cur E (0, 0))) (h : (cur.toList.take (n * 3)).drop (j * 3) = lnFlat (l.drop j)) (hj : j < l.length) : lnAt w g (j * 3) l[j] := by
  have key : ∀ r u, (lnFlat (l.drop j))[r]? = some u → w.cell? ⟨g, j * 3 + r, none⟩ = some u := fun r u hu => by
    rw [← h, List.getElem?_drop, List.getElem?_take] at hu
    split at hu
    · unfold World.cell?; rw [show (⟨g, j * 3 + r, none⟩ : Addr).block = g from rfl, hg]; simpa using hu
    · cases hu
  rw [List.drop_eq_getElem_cons hj] at key
  exact ⟨key 0 _ rfl, key 1 _ rfl, key 2 _ rfl⟩
end Go.Proofs.Ytnemgmlhcjhdhaa
