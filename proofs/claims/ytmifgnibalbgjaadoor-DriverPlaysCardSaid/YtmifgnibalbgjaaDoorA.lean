/- Operations and results as rows of cells; commands and replies. -/
import Derived.Test.YtmifgnibalbgjaaDoorMem3
import Derived.Test.YtmifgnibalbgjaaDoorProg
import Derived.Laws.Externs
import Derived.Deep.RegionLaw
namespace Go.Proofs.YtmifgnibalbgjaaDoor
open Go.RowKit
structure Opp where
  kind : Int
  key : ByteArray
  value : ByteArray
  n : Int
def opCells (t : Opp) : List Value := [.int .i64 t.kind, .string t.key, .string t.value, .int .i64 t.n]
def opFlat : List Opp → List Value
  | [] => []
  | t :: r => .int .i64 t.kind :: .string t.key :: .string t.value :: .int .i64 t.n :: opFlat r
theorem opFlat_len : ∀ l : List Opp, (opFlat l).length = l.length * 4
  | [] => rfl
  | t :: r => by simp only [opFlat, List.length_cons, opFlat_len r]; omega
theorem opFlat_append : ∀ l r : List Opp, opFlat (l ++ r) = opFlat l ++ opFlat r
  | [], r => rfl
  | t :: l, r => by simp [opFlat, opFlat_append l r]
theorem opFlat_cons (t : Opp) (r : List Opp) : opFlat (t :: r) = opCells t ++ opFlat r := rfl
theorem opFlat_take : ∀ (l : List Opp) (k : Nat), (opFlat l).take (k * 4) = opFlat (l.take k)
  | [], k => by simp [opFlat]
  | t :: r, 0 => by simp [opFlat]
  | t :: r, k + 1 => by
    rw [show (k + 1) * 4 = k * 4 + 1 + 1 + 1 + 1 by omega]
    simp [opFlat, opFlat_take r k]
theorem opFlat_drop : ∀ (l : List Opp) (k : Nat), (opFlat l).drop (k * 4) = opFlat (l.drop k)
  | [], k => by simp [opFlat]
  | t :: r, 0 => by simp [opFlat]
  | t :: r, k + 1 => by
    rw [show (k + 1) * 4 = k * 4 + 1 + 1 + 1 + 1 by omega]
    simp [opFlat, opFlat_drop r k]
theorem opFlat_get : ∀ (l : List Opp) (k : Nat) (h : k < l.length), (opFlat l)[k * 4]? = some (.int .i64 l[k].kind) ∧ (opFlat l)[k * 4 + 1]? = some (.string l[k].key) ∧ (opFlat l)[k * 4 + 2]? = some (.string l[k].value) ∧ (opFlat l)[k * 4 + 3]? = some (.int .i64 l[k].n)
  | [], k, h => absurd h (by simp)
  | t :: r, 0, _ => by simp [opFlat]
  | t :: r, k + 1, h => by
    have := opFlat_get r k (by simpa using h)
    rw [show (k + 1) * 4 = k * 4 + 4 by omega]
    simpa [opFlat] using this
theorem opFlat_one : ∀ (l : List Opp), ∀ u ∈ opFlat l, u.oneCell' = true
  | [], _, h => by cases h
  | t :: r, u, h => by
    simp only [opFlat, List.mem_cons] at h
    rcases h with rfl | rfl | rfl | rfl | h
    · rfl
    · rfl
    · rfl
    · rfl
    · exact opFlat_one r u h
theorem opCells_one (t : Opp) : ∀ u ∈ opCells t, u.oneCell' = true := fun u h => opFlat_one [t] u (by simpa [opFlat, opCells] using h)
def opAt (w : World) (g o : Nat) (t : Opp) : Prop := w.cell? ⟨g, o, none⟩ = some (.int .i64 t.kind) ∧ w.cell? ⟨g, o + 1, none⟩ = some (.string t.key) ∧ w.cell? ⟨g, o + 2, none⟩ = some (.string t.value) ∧ w.cell? ⟨g, o + 3, none⟩ = some (.int .i64 t.n)
theorem opAt_row {w : World} {E : Nat} {a : Option Addr} {n c : Nat} {l : List Opp} (h : Row w E 4 a n c (opFlat l)) (k : Nat) (hk : k < l.length) : ∃ g, a = some ⟨g, 0, none⟩ ∧ opAt w g (k * 4) l[k] := by
  obtain ⟨h0, h1, h2, h3⟩ := opFlat_get l k hk
  have hl := opFlat_len l
  obtain ⟨g0, e0, c0⟩ := h.cellAt (k * 4) (by omega)
  obtain ⟨g1, e1, c1⟩ := h.cellAt (k * 4 + 1) (by omega)
  obtain ⟨g2, e2, c2⟩ := h.cellAt (k * 4 + 2) (by omega)
  obtain ⟨g3, e3, c3⟩ := h.cellAt (k * 4 + 3) (by omega)
  subst e0
  simp only [Option.some.injEq, Addr.mk.injEq, and_true] at e1 e2 e3
  subst e1 e2 e3
  rw [List.getElem?_eq_getElem (by omega)] at h0 h1 h2 h3
  exact ⟨g0, rfl, by rw [c0, h0], by rw [c1, h1], by rw [c2, h2], by rw [c3, h3]⟩
theorem opAt.cells {w w' : World} {g o : Nat} {t : Opp} (h : opAt w g o t) (hk : ∀ {p : Addr} {v : Value}, w.cell? p = some v → w'.cell? p = some v) : opAt w' g o t :=
  ⟨hk h.1, hk h.2.1, hk h.2.2.1, hk h.2.2.2⟩
theorem opAt.below {w w' : World} {B g o : Nat} {t : Opp} (h : opAt w g o t) (b : Below B w w') (hB : w.heap.size ≤ B := by exact Nat.le_refl _) : opAt w' g o t :=
  h.cells fun {p _v} hp => (World.cell?_of_block (w := w) (b.block p.block (Nat.lt_of_lt_of_le (World.block_lt_of_cell? w p hp) hB))).trans hp
theorem opAt_new (w : World) (t : Opp) (T : TypeId) : opAt (w.alloc (.cells #[.int .i64 t.kind, .string t.key, .string t.value, .int .i64 t.n] T)) w.heap.size 0 t := by
  refine ⟨?_, ?_, ?_, ?_⟩ <;> simp [go_sem]
theorem opAt_block {w : World} {g : Nat} {t : Opp} {T : TypeId} (h : w.heap[g]? = some (.cells #[.int .i64 t.kind, .string t.key, .string t.value, .int .i64 t.n] T (0, 0))) : opAt w g 0 t := by
  refine ⟨?_, ?_, ?_, ?_⟩ <;> (simp only [World.cell?, h]; rfl)
theorem opAt_at {w : World} {g E n j : Nat} {cur : Array Value} {l : List Opp} (hg : w.heap[g]? = some (.cells cur E (0, 0))) (h : (cur.toList.take (n * 4)).drop (j * 4) = opFlat (l.drop j)) (hj : j < l.length) : opAt w g (j * 4) l[j] := by
  have key : ∀ r u, (opFlat (l.drop j))[r]? = some u → w.cell? ⟨g, j * 4 + r, none⟩ = some u := fun r u hu => by
    rw [← h, List.getElem?_drop, List.getElem?_take] at hu
    split at hu
    · unfold World.cell?; rw [show (⟨g, j * 4 + r, none⟩ : Addr).block = g from rfl, hg]; simpa using hu
    · cases hu
  rw [List.drop_eq_getElem_cons hj] at key
  exact ⟨key 0 _ rfl, key 1 _ rfl, key 2 _ rfl, key 3 _ rfl⟩
structure Rs where
  v : ByteArray
  h : Bool
def rsCells (t : Rs) : List Value := [.string t.v, .bool t.h]
def rsFlat : List Rs → List Value
  | [] => []
  | t :: r => .string t.v :: .bool t.h :: rsFlat r
theorem rsFlat_len : ∀ l : List Rs, (rsFlat l).length = l.length * 2
  | [] => rfl
  | t :: r => by simp only [rsFlat, List.length_cons, rsFlat_len r]; omega
theorem rsFlat_append : ∀ l r : List Rs, rsFlat (l ++ r) = rsFlat l ++ rsFlat r
  | [], r => rfl
  | t :: l, r => by simp [rsFlat, rsFlat_append l r]
theorem rsFlat_cons (t : Rs) (r : List Rs) : rsFlat (t :: r) = rsCells t ++ rsFlat r := rfl
theorem rsFlat_take : ∀ (l : List Rs) (k : Nat), (rsFlat l).take (k * 2) = rsFlat (l.take k)
  | [], k => by simp [rsFlat]
  | t :: r, 0 => by simp [rsFlat]
  | t :: r, k + 1 => by
    rw [show (k + 1) * 2 = k * 2 + 1 + 1 by omega]
    simp [rsFlat, rsFlat_take r k]
theorem rsFlat_drop : ∀ (l : List Rs) (k : Nat), (rsFlat l).drop (k * 2) = rsFlat (l.drop k)
  | [], k => by simp [rsFlat]
  | t :: r, 0 => by simp [rsFlat]
  | t :: r, k + 1 => by
    rw [show (k + 1) * 2 = k * 2 + 1 + 1 by omega]
    simp [rsFlat, rsFlat_drop r k]
theorem rsFlat_get : ∀ (l : List Rs) (k : Nat) (h : k < l.length), (rsFlat l)[k * 2]? = some (.string l[k].v) ∧ (rsFlat l)[k * 2 + 1]? = some (.bool l[k].h)
  | [], k, h => absurd h (by simp)
  | t :: r, 0, _ => by simp [rsFlat]
  | t :: r, k + 1, h => by
    have := rsFlat_get r k (by simpa using h)
    rw [show (k + 1) * 2 = k * 2 + 2 by omega]
    simpa [rsFlat] using this
theorem rsFlat_one : ∀ (l : List Rs), ∀ u ∈ rsFlat l, u.oneCell' = true
  | [], _, h => by cases h
  | t :: r, u, h => by
    simp only [rsFlat, List.mem_cons] at h
    rcases h with rfl | rfl | h
    · rfl
    · rfl
    · exact rsFlat_one r u h
theorem rsCells_one (t : Rs) : ∀ u ∈ rsCells t, u.oneCell' = true := fun u h => rsFlat_one [t] u (by simpa [rsFlat, rsCells] using h)
def rsAt (w : World) (g o : Nat) (t : Rs) : Prop := w.cell? ⟨g, o, none⟩ = some (.string t.v) ∧ w.cell? ⟨g, o + 1, none⟩ = some (.bool t.h)
theorem rsAt_row {w : World} {E : Nat} {a : Option Addr} {n c : Nat} {l : List Rs} (h : Row w E 2 a n c (rsFlat l)) (k : Nat) (hk : k < l.length) : ∃ g, a = some ⟨g, 0, none⟩ ∧ rsAt w g (k * 2) l[k] := by
  obtain ⟨h0, h1⟩ := rsFlat_get l k hk
  have hl := rsFlat_len l
  obtain ⟨g0, e0, c0⟩ := h.cellAt (k * 2) (by omega)
  obtain ⟨g1, e1, c1⟩ := h.cellAt (k * 2 + 1) (by omega)
  subst e0
  simp only [Option.some.injEq, Addr.mk.injEq, and_true] at e1
  subst e1
  rw [List.getElem?_eq_getElem (by omega)] at h0 h1
  exact ⟨g0, rfl, by rw [c0, h0], by rw [c1, h1]⟩
theorem rsAt.cells {w w' : World} {g o : Nat} {t : Rs} (h : rsAt w g o t) (hk : ∀ {p : Addr} {v : Value}, w.cell? p = some v → w'.cell? p = some v) : rsAt w' g o t :=
  ⟨hk h.1, hk h.2⟩
theorem rsAt.below {w w' : World} {B g o : Nat} {t : Rs} (h : rsAt w g o t) (b : Below B w w') (hB : w.heap.size ≤ B := by exact Nat.le_refl _) : rsAt w' g o t :=
  h.cells fun {p _v} hp => (World.cell?_of_block (w := w) (b.block p.block (Nat.lt_of_lt_of_le (World.block_lt_of_cell? w p hp) hB))).trans hp
theorem rsAt_new (w : World) (t : Rs) (T : TypeId) : rsAt (w.alloc (.cells #[.string t.v, .bool t.h] T)) w.heap.size 0 t := by
  refine ⟨?_, ?_⟩ <;> simp [go_sem]
theorem rsAt_block {w : World} {g : Nat} {t : Rs} {T : TypeId} (h : w.heap[g]? = some (.cells #[.string t.v, .bool t.h] T (0, 0))) : rsAt w g 0 t := by
  refine ⟨?_, ?_⟩ <;> (simp only [World.cell?, h]; rfl)
theorem rsAt_at {w : World} {g E n j : Nat} {cur : Array Value} {l : List Rs} (hg : w.heap[g]? = some (.cells cur E (0, 0))) (h : (cur.toList.take (n * 2)).drop (j * 2) = rsFlat (l.drop j)) (hj : j < l.length) : rsAt w g (j * 2) l[j] := by
  have key : ∀ r u, (rsFlat (l.drop j))[r]? = some u → w.cell? ⟨g, j * 2 + r, none⟩ = some u := fun r u hu => by
    rw [← h, List.getElem?_drop, List.getElem?_take] at hu
    split at hu
    · unfold World.cell?; rw [show (⟨g, j * 2 + r, none⟩ : Addr).block = g from rfl, hg]; simpa using hu
    · cases hu
  rw [List.drop_eq_getElem_cons hj] at key
  exact ⟨key 0 _ rfl, key 1 _ rfl⟩
/-- A reply. -/
structure Rep where
  code : Int
  state : Int
  v : ByteArray
  h : Bool
def Rep.val (r : Rep) : Value := .agg #[.int .i64 r.code, .int .i64 r.state, .string r.v, .bool r.h]
/-- A command. -/
structure Cmd where
  kind : Int
  tx : Int
  attempt : Int
  stamp : Int
  op : Int
  key : ByteArray
  value : ByteArray
  mode : Int
  yes : Bool
def Cmd.val (c : Cmd) : Value := .agg #[.int .i64 c.kind, .int .i64 c.tx, .int .i64 c.attempt, .int .i64 c.stamp, .int .i64 c.op, .string c.key, .string c.value, .int .i64 c.mode, .bool c.yes]
end Go.Proofs.YtmifgnibalbgjaaDoor
