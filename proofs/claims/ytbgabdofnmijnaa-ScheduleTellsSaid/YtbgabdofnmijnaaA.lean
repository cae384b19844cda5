/- Marks, edges and sources as rows of cells. -/
import Derived.Test.YtbgabdofnmijnaaMem3
import Derived.Test.YtbgabdofnmijnaaRows
import Derived.Laws.Externs
import Derived.Deep.RegionLaw
namespace Go.Proofs.Ytbgabdofnmijnaa
open Go.RowKit
structure Mk where
  kind : Int
  tx : Int
  key : ByteArray
def mkCells (t : Mk) : List Value := [.int .i64 t.kind, .int .i64 t.tx, .string t.key]
def mkFlat : List Mk → List Value
  | [] => []
  | t :: r => .int .i64 t.kind :: .int .i64 t.tx :: .string t.key :: mkFlat r
theorem mkFlat_len : ∀ l : List Mk, (mkFlat l).length = l.length * 3
  | [] => rfl
  | t :: r => by simp only [mkFlat, List.length_cons, mkFlat_len r]; omega
theorem mkFlat_append : ∀ l r : List Mk, mkFlat (l ++ r) = mkFlat l ++ mkFlat r
  | [], r => rfl
  | t :: l, r => by simp [mkFlat, mkFlat_append l r]
theorem mkFlat_cons (t : Mk) (r : List Mk) : mkFlat (t :: r) = mkCells t ++ mkFlat r := rfl
theorem mkFlat_take : ∀ (l : List Mk) (k : Nat), (mkFlat l).take (k * 3) = mkFlat (l.take k)
  | [], k => by simp [mkFlat]
  | t :: r, 0 => by simp [mkFlat]
  | t :: r, k + 1 => by
    rw [show (k + 1) * 3 = k * 3 + 1 + 1 + 1 by omega]
    simp [mkFlat, mkFlat_take r k]
theorem mkFlat_drop : ∀ (l : List Mk) (k : Nat), (mkFlat l).drop (k * 3) = mkFlat (l.drop k)
  | [], k => by simp [mkFlat]
  | t :: r, 0 => by simp [mkFlat]
  | t :: r, k + 1 => by
    rw [show (k + 1) * 3 = k * 3 + 1 + 1 + 1 by omega]
    simp [mkFlat, mkFlat_drop r k]
theorem mkFlat_get : ∀ (l : List Mk) (k : Nat) (h : k < l.length), (mkFlat l)[k * 3]? = some (.int .i64 l[k].kind) ∧ (mkFlat l)[k * 3 + 1]? = some (.int .i64 l[k].tx) ∧ (mkFlat l)[k * 3 + 2]? = some (.string l[k].key)
  | [], k, h => absurd h (by simp)
  | t :: r, 0, _ => by simp [mkFlat]
  | t :: r, k + 1, h => by
    have := mkFlat_get r k (by simpa using h)
    rw [show (k + 1) * 3 = k * 3 + 3 by omega]
    simpa [mkFlat] using this
theorem mkFlat_one : ∀ (l : List Mk), ∀ u ∈ mkFlat l, u.oneCell' = true
  | [], _, h => by cases h
  | t :: r, u, h => by
    simp only [mkFlat, List.mem_cons] at h
    rcases h with rfl | rfl | rfl | h
    · rfl
    · rfl
    · rfl
    · exact mkFlat_one r u h
theorem mkCells_one (t : Mk) : ∀ u ∈ mkCells t, u.oneCell' = true := fun u h => mkFlat_one [t] u (by simpa [mkFlat, mkCells] using h)
def mkAt (w : World) (g o : Nat) (t : Mk) : Prop := w.cell? ⟨g, o, none⟩ = some (.int .i64 t.kind) ∧ w.cell? ⟨g, o + 1, none⟩ = some (.int .i64 t.tx) ∧ w.cell? ⟨g, o + 2, none⟩ = some (.string t.key)
theorem mkAt_row {w : World} {E : Nat} {a : Option Addr} {n c : Nat} {l : List Mk} (h : Row w E 3 a n c (mkFlat l)) (k : Nat) (hk : k < l.length) : ∃ g, a = some ⟨g, 0, none⟩ ∧ mkAt w g (k * 3) l[k] := by
  obtain ⟨h0, h1, h2⟩ := mkFlat_get l k hk
  have hl := mkFlat_len l
  obtain ⟨g0, e0, c0⟩ := h.cellAt (k * 3) (by omega)
  obtain ⟨g1, e1, c1⟩ := h.cellAt (k * 3 + 1) (by omega)
  obtain ⟨g2, e2, c2⟩ := h.cellAt (k * 3 + 2) (by omega)
  subst e0
  simp only [Option.some.injEq, Addr.mk.injEq, and_true] at e1 e2
  subst e1 e2
  rw [List.getElem?_eq_getElem (by omega)] at h0 h1 h2
  exact ⟨g0, rfl, by rw [c0, h0], by rw [c1, h1], by rw [c2, h2]⟩
theorem mkAt.cells {w w' : World} {g o : Nat} {t : Mk} (h : mkAt w g o t) (hk : ∀ {p : Addr} {v : Value}, w.cell? p = some v → w'.cell? p = some v) : mkAt w' g o t :=
  ⟨hk h.1, hk h.2.1, hk h.2.2⟩
theorem mkAt.below {w w' : World} {B g o : Nat} {t : Mk} (h : mkAt w g o t) (b : Below B w w') (hB : w.heap.size ≤ B := by exact Nat.le_refl _) : mkAt w' g o t :=
  h.cells fun {p _v} hp => (World.cell?_of_block (w := w) (b.block p.block (Nat.lt_of_lt_of_le (World.block_lt_of_cell? w p hp) hB))).trans hp
theorem mkAt_new (w : World) (t : Mk) (T : TypeId) : mkAt (w.alloc (.cells #[.int .i64 t.kind, .int .i64 t.tx, .string t.key] T)) w.heap.size 0 t := by
  refine ⟨?_, ?_, ?_⟩ <;> simp [go_sem]
theorem mkAt_block {w : World} {g : Nat} {t : Mk} {T : TypeId} (h : w.heap[g]? = some (.cells #[.int .i64 t.kind, .int .i64 t.tx, .string t.key] T (0, 0))) : mkAt w g 0 t := by
  refine ⟨?_, ?_, ?_⟩ <;> (simp only [World.cell?, h]; rfl)
theorem mkAt_at {w : World} {g E n j : Nat} {cur : Array Value} {l : List Mk} (hg : w.heap[g]? = some (.cells cur E (0, 0))) (h : (cur.toList.take (n * 3)).drop (j * 3) = mkFlat (l.drop j)) (hj : j < l.length) : mkAt w g (j * 3) l[j] := by
  have key : ∀ r u, (mkFlat (l.drop j))[r]? = some u → w.cell? ⟨g, j * 3 + r, none⟩ = some u := fun r u hu => by
    rw [← h, List.getElem?_drop, List.getElem?_take] at hu
    split at hu
    · unfold World.cell?; rw [show (⟨g, j * 3 + r, none⟩ : Addr).block = g from rfl, hg]; simpa using hu
    · cases hu
  rw [List.drop_eq_getElem_cons hj] at key
  exact ⟨key 0 _ rfl, key 1 _ rfl, key 2 _ rfl⟩
structure Eg where
  a : Int
  b : Int
def egCells (t : Eg) : List Value := [.int .i64 t.a, .int .i64 t.b]
def egFlat : List Eg → List Value
  | [] => []
  | t :: r => .int .i64 t.a :: .int .i64 t.b :: egFlat r
theorem egFlat_len : ∀ l : List Eg, (egFlat l).length = l.length * 2
  | [] => rfl
  | t :: r => by simp only [egFlat, List.length_cons, egFlat_len r]; omega
theorem egFlat_append : ∀ l r : List Eg, egFlat (l ++ r) = egFlat l ++ egFlat r
  | [], r => rfl
  | t :: l, r => by simp [egFlat, egFlat_append l r]
theorem egFlat_cons (t : Eg) (r : List Eg) : egFlat (t :: r) = egCells t ++ egFlat r := rfl
theorem egFlat_take : ∀ (l : List Eg) (k : Nat), (egFlat l).take (k * 2) = egFlat (l.take k)
  | [], k => by simp [egFlat]
  | t :: r, 0 => by simp [egFlat]
  | t :: r, k + 1 => by
    rw [show (k + 1) * 2 = k * 2 + 1 + 1 by omega]
    simp [egFlat, egFlat_take r k]
theorem egFlat_drop : ∀ (l : List Eg) (k : Nat), (egFlat l).drop (k * 2) = egFlat (l.drop k)
  | [], k => by simp [egFlat]
  | t :: r, 0 => by simp [egFlat]
  | t :: r, k + 1 => by
    rw [show (k + 1) * 2 = k * 2 + 1 + 1 by omega]
    simp [egFlat, egFlat_drop r k]
theorem egFlat_get : ∀ (l : List Eg) (k : Nat) (h : k < l.length), (egFlat l)[k * 2]? = some (.int .i64 l[k].a) ∧ (egFlat l)[k * 2 + 1]? = some (.int .i64 l[k].b)
  | [], k, h => absurd h (by simp)
  | t :: r, 0, _ => by simp [egFlat]
  | t :: r, k + 1, h => by
    have := egFlat_get r k (by simpa using h)
    rw [show (k + 1) * 2 = k * 2 + 2 by omega]
    simpa [egFlat] using this
theorem egFlat_one : ∀ (l : List Eg), ∀ u ∈ egFlat l, u.oneCell' = true
  | [], _, h => by cases h
  | t :: r, u, h => by
    simp only [egFlat, List.mem_cons] at h
    rcases h with rfl | rfl | h
    · rfl
    · rfl
    · exact egFlat_one r u h
theorem egCells_one (t : Eg) : ∀ u ∈ egCells t, u.oneCell' = true := fun u h => egFlat_one [t] u (by simpa [egFlat, egCells] using h)
def egAt (w : World) (g o : Nat) (t : Eg) : Prop := w.cell? ⟨g, o, none⟩ = some (.int .i64 t.a) ∧ w.cell? ⟨g, o + 1, none⟩ = some (.int .i64 t.b)
theorem egAt_row {w : World} {E : Nat} {a : Option Addr} {n c : Nat} {l : List Eg} (h : Row w E 2 a n c (egFlat l)) (k : Nat) (hk : k < l.length) : ∃ g, a = some ⟨g, 0, none⟩ ∧ egAt w g (k * 2) l[k] := by
  obtain ⟨h0, h1⟩ := egFlat_get l k hk
  have hl := egFlat_len l
  obtain ⟨g0, e0, c0⟩ := h.cellAt (k * 2) (by omega)
  obtain ⟨g1, e1, c1⟩ := h.cellAt (k * 2 + 1) (by omega)
  subst e0
  simp only [Option.some.injEq, Addr.mk.injEq, and_true] at e1
  subst e1
  rw [List.getElem?_eq_getElem (by omega)] at h0 h1
  exact ⟨g0, rfl, by rw [c0, h0], by rw [c1, h1]⟩
theorem egAt.cells {w w' : World} {g o : Nat} {t : Eg} (h : egAt w g o t) (hk : ∀ {p : Addr} {v : Value}, w.cell? p = some v → w'.cell? p = some v) : egAt w' g o t :=
  ⟨hk h.1, hk h.2⟩
theorem egAt.below {w w' : World} {B g o : Nat} {t : Eg} (h : egAt w g o t) (b : Below B w w') (hB : w.heap.size ≤ B := by exact Nat.le_refl _) : egAt w' g o t :=
  h.cells fun {p _v} hp => (World.cell?_of_block (w := w) (b.block p.block (Nat.lt_of_lt_of_le (World.block_lt_of_cell? w p hp) hB))).trans hp
theorem egAt_new (w : World) (t : Eg) (T : TypeId) : egAt (w.alloc (.cells #[.int .i64 t.a, .int .i64 t.b] T)) w.heap.size 0 t := by
  refine ⟨?_, ?_⟩ <;> simp [go_sem]
theorem egAt_block {w : World} {g : Nat} {t : Eg} {T : TypeId} (h : w.heap[g]? = some (.cells #[.int .i64 t.a, .int .i64 t.b] T (0, 0))) : egAt w g 0 t := by
  refine ⟨?_, ?_⟩ <;> (simp only [World.cell?, h]; rfl)
theorem egAt_at {w : World} {g E n j : Nat} {cur : Array Value} {l : List Eg} (hg : w.heap[g]? = some (.cells cur E (0, 0))) (h : (cur.toList.take (n * 2)).drop (j * 2) = egFlat (l.drop j)) (hj : j < l.length) : egAt w g (j * 2) l[j] := by
  have key : ∀ r u, (egFlat (l.drop j))[r]? = some u → w.cell? ⟨g, j * 2 + r, none⟩ = some u := fun r u hu => by
    rw [← h, List.getElem?_drop, List.getElem?_take] at hu
    split at hu
    · unfold World.cell?; rw [show (⟨g, j * 2 + r, none⟩ : Addr).block = g from rfl, hg]; simpa using hu
    · cases hu
  rw [List.drop_eq_getElem_cons hj] at key
  exact ⟨key 0 _ rfl, key 1 _ rfl⟩
structure Sr where
  tx : Int
  wr : Int
def srCells (t : Sr) : List Value := [.int .i64 t.tx, .int .i64 t.wr]
def srFlat : List Sr → List Value
  | [] => []
  | t :: r => .int .i64 t.tx :: .int .i64 t.wr :: srFlat r
theorem srFlat_len : ∀ l : List Sr, (srFlat l).length = l.length * 2
  | [] => rfl
  | t :: r => by simp only [srFlat, List.length_cons, srFlat_len r]; omega
theorem srFlat_append : ∀ l r : List Sr, srFlat (l ++ r) = srFlat l ++ srFlat r
  | [], r => rfl
  | t :: l, r => by simp [srFlat, srFlat_append l r]
theorem srFlat_cons (t : Sr) (r : List Sr) : srFlat (t :: r) = srCells t ++ srFlat r := rfl
theorem srFlat_take : ∀ (l : List Sr) (k : Nat), (srFlat l).take (k * 2) = srFlat (l.take k)
  | [], k => by simp [srFlat]
  | t :: r, 0 => by simp [srFlat]
  | t :: r, k + 1 => by
    rw [show (k + 1) * 2 = k * 2 + 1 + 1 by omega]
    simp [srFlat, srFlat_take r k]
theorem srFlat_drop : ∀ (l : List Sr) (k : Nat), (srFlat l).drop (k * 2) = srFlat (l.drop k)
  | [], k => by simp [srFlat]
  | t :: r, 0 => by simp [srFlat]
  | t :: r, k + 1 => by
    rw [show (k + 1) * 2 = k * 2 + 1 + 1 by omega]
    simp [srFlat, srFlat_drop r k]
theorem srFlat_get : ∀ (l : List Sr) (k : Nat) (h : k < l.length), (srFlat l)[k * 2]? = some (.int .i64 l[k].tx) ∧ (srFlat l)[k * 2 + 1]? = some (.int .i64 l[k].wr)
  | [], k, h => absurd h (by simp)
  | t :: r, 0, _ => by simp [srFlat]
  | t :: r, k + 1, h => by
    have := srFlat_get r k (by simpa using h)
    rw [show (k + 1) * 2 = k * 2 + 2 by omega]
    simpa [srFlat] using this
theorem srFlat_one : ∀ (l : List Sr), ∀ u ∈ srFlat l, u.oneCell' = true
  | [], _, h => by cases h
  | t :: r, u, h => by
    simp only [srFlat, List.mem_cons] at h
    rcases h with rfl | rfl | h
    · rfl
    · rfl
    · exact srFlat_one r u h
theorem srCells_one (t : Sr) : ∀ u ∈ srCells t, u.oneCell' = true := fun u h => srFlat_one [t] u (by simpa [srFlat, srCells] using h)
def srAt (w : World) (g o : Nat) (t : Sr) : Prop := w.cell? ⟨g, o, none⟩ = some (.int .i64 t.tx) ∧ w.cell? ⟨g, o + 1, none⟩ = some (.int .i64 t.wr)
theorem srAt_row {w : World} {E : Nat} {a : Option Addr} {n c : Nat} {l : List Sr} (h : Row w E 2 a n c (srFlat l)) (k : Nat) (hk : k < l.length) : ∃ g, a = some ⟨g, 0, none⟩ ∧ srAt w g (k * 2) l[k] := by
  obtain ⟨h0, h1⟩ := srFlat_get l k hk
  have hl := srFlat_len l
  obtain ⟨g0, e0, c0⟩ := h.cellAt (k * 2) (by omega)
  obtain ⟨g1, e1, c1⟩ := h.cellAt (k * 2 + 1) (by omega)
  subst e0
  simp only [Option.some.injEq, Addr.mk.injEq, and_true] at e1
  subst e1
  rw [List.getElem?_eq_getElem (by omega)] at h0 h1
  exact ⟨g0, rfl, by rw [c0, h0], by rw [c1, h1]⟩
theorem srAt.cells {w w' : World} {g o : Nat} {t : Sr} (h : srAt w g o t) (hk : ∀ {p : Addr} {v : Value}, w.cell? p = some v → w'.cell? p = some v) : srAt w' g o t :=
  ⟨hk h.1, hk h.2⟩
theorem srAt.below {w w' : World} {B g o : Nat} {t : Sr} (h : srAt w g o t) (b : Below B w w') (hB : w.heap.size ≤ B := by exact Nat.le_refl _) : srAt w' g o t :=
  h.cells fun {p _v} hp => (World.cell?_of_block (w := w) (b.block p.block (Nat.lt_of_lt_of_le (World.block_lt_of_cell? w p hp) hB))).trans hp
theorem srAt_new (w : World) (t : Sr) (T : TypeId) : srAt (w.alloc (.cells #[.int .i64 t.tx, .int .i64 t.wr] T)) w.heap.size 0 t := by
  refine ⟨?_, ?_⟩ <;> simp [go_sem]
theorem srAt_block {w : World} {g : Nat} {t : Sr} {T : TypeId} (h : w.heap[g]? = some (.cells #[.int .i64 t.tx, .int .i64 t.wr] T (0, 0))) : srAt w g 0 t := by
  refine ⟨?_, ?_⟩ <;> (simp only [World.cell?, h]; rfl)
theorem srAt_at {w : World} {g E n j : Nat} {cur : Array Value} {l : List Sr} (hg : w.heap[g]? = some (.cells cur E (0, 0))) (h : (cur.toList.take (n * 2)).drop (j * 2) = srFlat (l.drop j)) (hj : j < l.length) : srAt w g (j * 2) l[j] := by
  have key : ∀ r u, (srFlat (l.drop j))[r]? = some u → w.cell? ⟨g, j * 2 + r, none⟩ = some u := fun r u hu => by
    rw [← h, List.getElem?_drop, List.getElem?_take] at hu
    split at hu
    · unfold World.cell?; rw [show (⟨g, j * 2 + r, none⟩ : Addr).block = g from rfl, hg]; simpa using hu
    · cases hu
  rw [List.drop_eq_getElem_cons hj] at key
  exact ⟨key 0 _ rfl, key 1 _ rfl⟩
end Go.Proofs.Ytbgabdofnmijnaa
