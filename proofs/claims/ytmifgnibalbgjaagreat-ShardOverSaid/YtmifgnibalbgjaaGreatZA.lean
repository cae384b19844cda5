/- Versions, writes, rows of the table, as rows of cells. -/
import Derived.Test.YtmifgnibalbgjaaGreatZOwn
import Derived.Test.YtmifgnibalbgjaaGreatProg
import Derived.Test.YtmifgnibalbgjaaGreatRows
import Derived.Laws.Externs
import Derived.Deep.RegionLaw
import Derived.Lib.SlicesS
import Derived.Sort.Walk0
namespace Go.Proofs.YtmifgnibalbgjaaGreat
open Go.RowKit set_option linter.unusedVariables false set_option linter.unusedSimpArgs false
structure Ver where
  at_ : Int
  v : ByteArray
  h : Bool
def veCells (t : Ver) : List Value := [.int .i64 t.at_, .string t.v, .bool t.h]
def veFlat : List Ver → List Value
  | [] => []
  | t :: r => .int .i64 t.at_ :: .string t.v :: .bool t.h :: veFlat r
theorem veFlat_len : ∀ l : List Ver, (veFlat l).length = l.length * 3
  | [] => rfl
  | t :: r => by simp only [veFlat, List.length_cons, veFlat_len r]; omega
theorem veFlat_append : ∀ l r : List Ver, veFlat (l ++ r) = veFlat l ++ veFlat r
  | [], r => rfl
  | t :: l, r => by simp [veFlat, veFlat_append l r]
theorem veFlat_cons (t : Ver) (r : List Ver) : veFlat (t :: r) = veCells t ++ veFlat r := rfl
theorem veFlat_take : ∀ (l : List Ver) (k : Nat), (veFlat l).take (k * 3) = veFlat (l.take k)
  | [], k => by simp [veFlat]
  | t :: r, 0 => by simp [veFlat]
  | t :: r, k + 1 => by
    rw [show (k + 1) * 3 = k * 3 + 1 + 1 + 1 by omega]
    simp [veFlat, veFlat_take r k]
theorem veFlat_drop : ∀ (l : List Ver) (k : Nat), (veFlat l).drop (k * 3) = veFlat (l.drop k)
  | [], k => by simp [veFlat]
  | t :: r, 0 => by simp [veFlat]
  | t :: r, k + 1 => by
    rw [show (k + 1) * 3 = k * 3 + 1 + 1 + 1 by omega]
    simp [veFlat, veFlat_drop r k]
theorem veFlat_get : ∀ (l : List Ver) (k : Nat) (h : k < l.length), (veFlat l)[k * 3]? = some (.int .i64 l[k].at_) ∧ (veFlat l)[k * 3 + 1]? = some (.string l[k].v) ∧ (veFlat l)[k * 3 + 2]? = some (.bool l[k].h)
  | [], k, h => absurd h (by simp)
  | t :: r, 0, _ => by simp [veFlat]
  | t :: r, k + 1, h => by
    have := veFlat_get r k (by simpa using h)
    rw [show (k + 1) * 3 = k * 3 + 3 by omega]
    simpa [veFlat] using this
theorem veFlat_one : ∀ (l : List Ver), ∀ u ∈ veFlat l, u.oneCell' = true
  | [], _, h => by cases h
  | t :: r, u, h => by
    simp only [veFlat, List.mem_cons] at h
    rcases h with rfl | rfl | rfl | h
    · rfl
    · rfl
    · rfl
    · exact veFlat_one r u h
theorem veCells_one (t : Ver) : ∀ u ∈ veCells t, u.oneCell' = true := fun u h => veFlat_one [t] u (by simpa [veFlat, veCells] using h)
def veAt (w : World) (g o : Nat) (t : Ver) : Prop := w.cell? ⟨g, o, none⟩ = some (.int .i64 t.at_) ∧ w.cell? ⟨g, o + 1, none⟩ = some (.string t.v) ∧ w.cell? ⟨g, o + 2, none⟩ = some (.bool t.h)
theorem veAt_row {w : World} {E : Nat} {a : Option Addr} {n c : Nat} {l : List Ver} (h : Row w E 3 a n c (veFlat l)) (k : Nat) (hk : k < l.length) : ∃ g, a = some ⟨g, 0, none⟩ ∧ veAt w g (k * 3) l[k] := by
  obtain ⟨h0, h1, h2⟩ := veFlat_get l k hk
  have hl := veFlat_len l
  obtain ⟨g0, e0, c0⟩ := h.cellAt (k * 3) (by omega)
  obtain ⟨g1, e1, c1⟩ := h.cellAt (k * 3 + 1) (by omega)
  obtain ⟨g2, e2, c2⟩ := h.cellAt (k * 3 + 2) (by omega)
  subst e0
  simp only [Option.some.injEq, Addr.mk.injEq, and_true] at e1 e2
  subst e1 e2
  rw [List.getElem?_eq_getElem (by omega)] at h0 h1 h2
  exact ⟨g0, rfl, by rw [c0, h0], by rw [c1, h1], by rw [c2, h2]⟩
theorem veAt.cells {w w' : World} {g o : Nat} {t : Ver} (h : veAt w g o t) (hk : ∀ {p : Addr} {v : Value}, w.cell? p = some v → w'.cell? p = some v) : veAt w' g o t :=
  ⟨hk h.1, hk h.2.1, hk h.2.2⟩
theorem veAt.below {w w' : World} {B g o : Nat} {t : Ver} (h : veAt w g o t) (b : Below B w w') (hB : w.heap.size ≤ B := by exact Nat.le_refl _) : veAt w' g o t :=
  h.cells fun {p _v} hp => (World.cell?_of_block (w := w) (b.block p.block (Nat.lt_of_lt_of_le (World.block_lt_of_cell? w p hp) hB))).trans hp
theorem veAt_new (w : World) (t : Ver) (T : TypeId) : veAt (w.alloc (.cells #[.int .i64 t.at_, .string t.v, .bool t.h] T)) w.heap.size 0 t := by
  refine ⟨?_, ?_, ?_⟩ <;> simp [go_sem]
theorem veAt_block {w : World} {g : Nat} {t : Ver} {T : TypeId} (h : w.heap[g]? = some (.cells #[.int .i64 t.at_, .string t.v, .bool t.h] T (0, 0))) : veAt w g 0 t := by
  refine ⟨?_, ?_, ?_⟩ <;> (simp only [World.cell?, h]; rfl)
theorem veAt_at {w : World} {g E n j : Nat} {cur : Array Value} {l : List Ver} (hg : w.heap[g]? = some (.cells cur E (0, 0))) (h : (cur.toList.take (n * 3)).drop (j * 3) = veFlat (l.drop j)) (hj : j < l.length) : veAt w g (j * 3) l[j] := by
  have key : ∀ r u, (veFlat (l.drop j))[r]? = some u → w.cell? ⟨g, j * 3 + r, none⟩ = some u := fun r u hu => by
    rw [← h, List.getElem?_drop, List.getElem?_take] at hu
    split at hu
    · unfold World.cell?; rw [show (⟨g, j * 3 + r, none⟩ : Addr).block = g from rfl, hg]; simpa using hu
    · cases hu
  rw [List.drop_eq_getElem_cons hj] at key
  exact ⟨key 0 _ rfl, key 1 _ rfl, key 2 _ rfl⟩
structure Wr where
  key : ByteArray
  v : ByteArray
  h : Bool
def wrCells (t : Wr) : List Value := [.string t.key, .string t.v, .bool t.h]
def wrFlat : List Wr → List Value
  | [] => []
  | t :: r => .string t.key :: .string t.v :: .bool t.h :: wrFlat r
theorem wrFlat_len : ∀ l : List Wr, (wrFlat l).length = l.length * 3
  | [] => rfl
  | t :: r => by simp only [wrFlat, List.length_cons, wrFlat_len r]; omega
theorem wrFlat_append : ∀ l r : List Wr, wrFlat (l ++ r) = wrFlat l ++ wrFlat r
  | [], r => rfl
  | t :: l, r => by simp [wrFlat, wrFlat_append l r]
theorem wrFlat_cons (t : Wr) (r : List Wr) : wrFlat (t :: r) = wrCells t ++ wrFlat r := rfl
theorem wrFlat_take : ∀ (l : List Wr) (k : Nat), (wrFlat l).take (k * 3) = wrFlat (l.take k)
  | [], k => by simp [wrFlat]
  | t :: r, 0 => by simp [wrFlat]
  | t :: r, k + 1 => by
    rw [show (k + 1) * 3 = k * 3 + 1 + 1 + 1 by omega]
    simp [wrFlat, wrFlat_take r k]
theorem wrFlat_drop : ∀ (l : List Wr) (k : Nat), (wrFlat l).drop (k * 3) = wrFlat (l.drop k)
  | [], k => by simp [wrFlat]
  | t :: r, 0 => by simp [wrFlat]
  | t :: r, k + 1 => by
    rw [show (k + 1) * 3 = k * 3 + 1 + 1 + 1 by omega]
    simp [wrFlat, wrFlat_drop r k]
theorem wrFlat_get : ∀ (l : List Wr) (k : Nat) (h : k < l.length), (wrFlat l)[k * 3]? = some (.string l[k].key) ∧ (wrFlat l)[k * 3 + 1]? = some (.string l[k].v) ∧ (wrFlat l)[k * 3 + 2]? = some (.bool l[k].h)
  | [], k, h => absurd h (by simp)
  | t :: r, 0, _ => by simp [wrFlat]
  | t :: r, k + 1, h => by
    have := wrFlat_get r k (by simpa using h)
    rw [show (k + 1) * 3 = k * 3 + 3 by omega]
    simpa [wrFlat] using this
theorem wrFlat_one : ∀ (l : List Wr), ∀ u ∈ wrFlat l, u.oneCell' = true
  | [], _, h => by cases h
  | t :: r, u, h => by
    simp only [wrFlat, List.mem_cons] at h
    rcases h with rfl | rfl | rfl | h
    · rfl
    · rfl
    · rfl
    · exact wrFlat_one r u h
theorem wrCells_one (t : Wr) : ∀ u ∈ wrCells t, u.oneCell' = true := fun u h => wrFlat_one [t] u (by simpa [wrFlat, wrCells] using h)
def wrAt (w : World) (g o : Nat) (t : Wr) : Prop := w.cell? ⟨g, o, none⟩ = some (.string t.key) ∧ w.cell? ⟨g, o + 1, none⟩ = some (.string t.v) ∧ w.cell? ⟨g, o + 2, none⟩ = some (.bool t.h)
theorem wrAt_row {w : World} {E : Nat} {a : Option Addr} {n c : Nat} {l : List Wr} (h : Row w E 3 a n c (wrFlat l)) (k : Nat) (hk : k < l.length) : ∃ g, a = some ⟨g, 0, none⟩ ∧ wrAt w g (k * 3) l[k] := by
  obtain ⟨h0, h1, h2⟩ := wrFlat_get l k hk
  have hl := wrFlat_len l
  obtain ⟨g0, e0, c0⟩ := h.cellAt (k * 3) (by omega)
  obtain ⟨g1, e1, c1⟩ := h.cellAt (k * 3 + 1) (by omega)
  obtain ⟨g2, e2, c2⟩ := h.cellAt (k * 3 + 2) (by omega)
  subst e0
  simp only [Option.some.injEq, Addr.mk.injEq, and_true] at e1 e2
  subst e1 e2
  rw [List.getElem?_eq_getElem (by omega)] at h0 h1 h2
  exact ⟨g0, rfl, by rw [c0, h0], by rw [c1, h1], by rw [c2, h2]⟩
theorem wrAt.cells {w w' : World} {g o : Nat} {t : Wr} (h : wrAt w g o t) (hk : ∀ {p : Addr} {v : Value}, w.cell? p = some v → w'.cell? p = some v) : wrAt w' g o t :=
  ⟨hk h.1, hk h.2.1, hk h.2.2⟩
theorem wrAt.below {w w' : World} {B g o : Nat} {t : Wr} (h : wrAt w g o t) (b : Below B w w') (hB : w.heap.size ≤ B := by exact Nat.le_refl _) : wrAt w' g o t :=
  h.cells fun {p _v} hp => (World.cell?_of_block (w := w) (b.block p.block (Nat.lt_of_lt_of_le (World.block_lt_of_cell? w p hp) hB))).trans hp
theorem wrAt_new (w : World) (t : Wr) (T : TypeId) : wrAt (w.alloc (.cells #[.string t.key, .string t.v, .bool t.h] T)) w.heap.size 0 t := by
  refine ⟨?_, ?_, ?_⟩ <;> simp [go_sem]
theorem wrAt_block {w : World} {g : Nat} {t : Wr} {T : TypeId} (h : w.heap[g]? = some (.cells #[.string t.key, .string t.v, .bool t.h] T (0, 0))) : wrAt w g 0 t := by
  refine ⟨?_, ?_, ?_⟩ <;> (simp only [World.cell?, h]; rfl)
theorem wrAt_at {w : World} {g E n j : Nat} {cur : Array Value} {l : List Wr} (hg : w.heap[g]? = some (.cells cur E (0, 0))) (h : (cur.toList.take (n * 3)).drop (j * 3) = wrFlat (l.drop j)) (hj : j < l.length) : wrAt w g (j * 3) l[j] := by
  have key : ∀ r u, (wrFlat (l.drop j))[r]? = some u → w.cell? ⟨g, j * 3 + r, none⟩ = some u := fun r u hu => by
    rw [← h, List.getElem?_drop, List.getElem?_take] at hu
    split at hu
    · unfold World.cell?; rw [show (⟨g, j * 3 + r, none⟩ : Addr).block = g from rfl, hg]; simpa using hu
    · cases hu
  rw [List.drop_eq_getElem_cons hj] at key
  exact ⟨key 0 _ rfl, key 1 _ rfl, key 2 _ rfl⟩
structure Rw where
  tx : Int
  att : Int
  stamp : Int
  state : Int
  heard : Int
def rwCells (t : Rw) : List Value := [.int .i64 t.tx, .int .i64 t.att, .int .i64 t.stamp, .int .i64 t.state, .int .i64 t.heard]
def rwFlat : List Rw → List Value
  | [] => []
  | t :: r => .int .i64 t.tx :: .int .i64 t.att :: .int .i64 t.stamp :: .int .i64 t.state :: .int .i64 t.heard :: rwFlat r
theorem rwFlat_len : ∀ l : List Rw, (rwFlat l).length = l.length * 5
  | [] => rfl
  | t :: r => by simp only [rwFlat, List.length_cons, rwFlat_len r]; omega
theorem rwFlat_append : ∀ l r : List Rw, rwFlat (l ++ r) = rwFlat l ++ rwFlat r
  | [], r => rfl
  | t :: l, r => by simp [rwFlat, rwFlat_append l r]
theorem rwFlat_cons (t : Rw) (r : List Rw) : rwFlat (t :: r) = rwCells t ++ rwFlat r := rfl
theorem rwFlat_take : ∀ (l : List Rw) (k : Nat), (rwFlat l).take (k * 5) = rwFlat (l.take k)
  | [], k => by simp [rwFlat]
  | t :: r, 0 => by simp [rwFlat]
  | t :: r, k + 1 => by
    rw [show (k + 1) * 5 = k * 5 + 1 + 1 + 1 + 1 + 1 by omega]
    simp [rwFlat, rwFlat_take r k]
theorem rwFlat_drop : ∀ (l : List Rw) (k : Nat), (rwFlat l).drop (k * 5) = rwFlat (l.drop k)
  | [], k => by simp [rwFlat]
  | t :: r, 0 => by simp [rwFlat]
  | t :: r, k + 1 => by
    rw [show (k + 1) * 5 = k * 5 + 1 + 1 + 1 + 1 + 1 by omega]
    simp [rwFlat, rwFlat_drop r k]
theorem rwFlat_get : ∀ (l : List Rw) (k : Nat) (h : k < l.length), (rwFlat l)[k * 5]? = some (.int .i64 l[k].tx) ∧ (rwFlat l)[k * 5 + 1]? = some (.int .i64 l[k].att) ∧ (rwFlat l)[k * 5 + 2]? = some (.int .i64 l[k].stamp) ∧ (rwFlat l)[k * 5 + 3]? = some (.int .i64 l[k].state) ∧ (rwFlat l)[k * 5 + 4]? = some (.int .i64 l[k].heard)
  | [], k, h => absurd h (by simp)
  | t :: r, 0, _ => by simp [rwFlat]
  | t :: r, k + 1, h => by
    have := rwFlat_get r k (by simpa using h)
    rw [show (k + 1) * 5 = k * 5 + 5 by omega]
    simpa [rwFlat] using this
theorem rwFlat_one : ∀ (l : List Rw), ∀ u ∈ rwFlat l, u.oneCell' = true
  | [], _, h => by cases h
  | t :: r, u, h => by
    simp only [rwFlat, List.mem_cons] at h
    rcases h with rfl | rfl | rfl | rfl | rfl | h
    · rfl
    · rfl
    · rfl
    · rfl
    · rfl
    · exact rwFlat_one r u h
theorem rwCells_one (t : Rw) : ∀ u ∈ rwCells t, u.oneCell' = true := fun u h => rwFlat_one [t] u (by simpa [rwFlat, rwCells] using h)
def rwAt (w : World) (g o : Nat) (t : Rw) : Prop := w.cell? ⟨g, o, none⟩ = some (.int .i64 t.tx) ∧ w.cell? ⟨g, o + 1, none⟩ = some (.int .i64 t.att) ∧ w.cell? ⟨g, o + 2, none⟩ = some (.int .i64 t.stamp) ∧ w.cell? ⟨g, o + 3, none⟩ = some (.int .i64 t.state) ∧ w.cell? ⟨g, o + 4, none⟩ = some (.int .i64 t.heard)
theorem rwAt_row {w : World} {E : Nat} {a : Option Addr} {n c : Nat} {l : List Rw} (h : Row w E 5 a n c (rwFlat l)) (k : Nat) (hk : k < l.length) : ∃ g, a = some ⟨g, 0, none⟩ ∧ rwAt w g (k * 5) l[k] := by
  obtain ⟨h0, h1, h2, h3, h4⟩ := rwFlat_get l k hk
  have hl := rwFlat_len l
  obtain ⟨g0, e0, c0⟩ := h.cellAt (k * 5) (by omega)
  obtain ⟨g1, e1, c1⟩ := h.cellAt (k * 5 + 1) (by omega)
  obtain ⟨g2, e2, c2⟩ := h.cellAt (k * 5 + 2) (by omega)
  obtain ⟨g3, e3, c3⟩ := h.cellAt (k * 5 + 3) (by omega)
  obtain ⟨g4, e4, c4⟩ := h.cellAt (k * 5 + 4) (by omega)
  subst e0
  simp only [Option.some.injEq, Addr.mk.injEq, and_true] at e1 e2 e3 e4
  subst e1 e2 e3 e4
  rw [List.getElem?_eq_getElem (by omega)] at h0 h1 h2 h3 h4
  exact ⟨g0, rfl, by rw [c0, h0], by rw [c1, h1], by rw [c2, h2], by rw [c3, h3], by rw [c4, h4]⟩
theorem rwAt.cells {w w' : World} {g o : Nat} {t : Rw} (h : rwAt w g o t) (hk : ∀ {p : Addr} {v : Value}, w.cell? p = some v → w'.cell? p = some v) : rwAt w' g o t :=
  ⟨hk h.1, hk h.2.1, hk h.2.2.1, hk h.2.2.2.1, hk h.2.2.2.2⟩
theorem rwAt.below {w w' : World} {B g o : Nat} {t : Rw} (h : rwAt w g o t) (b : Below B w w') (hB : w.heap.size ≤ B := by exact Nat.le_refl _) : rwAt w' g o t :=
  h.cells fun {p _v} hp => (World.cell?_of_block (w := w) (b.block p.block (Nat.lt_of_lt_of_le (World.block_lt_of_cell? w p hp) hB))).trans hp
theorem rwAt_new (w : World) (t : Rw) (T : TypeId) : rwAt (w.alloc (.cells #[.int .i64 t.tx, .int .i64 t.att, .int .i64 t.stamp, .int .i64 t.state, .int .i64 t.heard] T)) w.heap.size 0 t := by
  refine ⟨?_, ?_, ?_, ?_, ?_⟩ <;> simp [go_sem]
theorem rwAt_block {w : World} {g : Nat} {t : Rw} {T : TypeId} (h : w.heap[g]? = some (.cells #[.int .i64 t.tx, .int .i64 t.att, .int .i64 t.stamp, .int .i64 t.state, .int .i64 t.heard] T (0, 0))) : rwAt w g 0 t := by
  refine ⟨?_, ?_, ?_, ?_, ?_⟩ <;> (simp only [World.cell?, h]; rfl)
theorem rwAt_at {w : World} {g E n j : Nat} {cur : Array Value} {l : List Rw} (hg : w.heap[g]? = some (.cells cur E (0, 0))) (h : (cur.toList.take (n * 5)).drop (j * 5) = rwFlat (l.drop j)) (hj : j < l.length) : rwAt w g (j * 5) l[j] := by
  have key : ∀ r u, (rwFlat (l.drop j))[r]? = some u → w.cell? ⟨g, j * 5 + r, none⟩ = some u := fun r u hu => by
    rw [← h, List.getElem?_drop, List.getElem?_take] at hu
    split at hu
    · unfold World.cell?; rw [show (⟨g, j * 5 + r, none⟩ : Addr).block = g from rfl, hg]; simpa using hu
    · cases hu
  rw [List.drop_eq_getElem_cons hj] at key
  exact ⟨key 0 _ rfl, key 1 _ rfl, key 2 _ rfl, key 3 _ rfl, key 4 _ rfl⟩
end Go.Proofs.YtmifgnibalbgjaaGreat
/- slices.Insert at writes and at rows of the table. -/
namespace Go.Proofs.YtmifgnibalbgjaaGreat
open Go.RowKit set_option linter.unusedVariables false set_option linter.unusedSimpArgs false

/-- The element type's zero value, cells and bytes. -/
theorem insW_info : (Tryz.prog.info? 43).map (fun i => (i.zero, i.size, i.bytes)) = some (some (.agg #[.string ⟨#[]⟩, .string ⟨#[]⟩, .bool false]), 3, 40) := by kernel_rfl
theorem insW_size : (Tryz.prog.info? 43).map (·.size) = some 3 := by kernel_rfl
theorem insW_over (w : World) (g vb o la ca lb cb : Nat) (cur vs : Array Value) (hne : vb ≠ g) (hv : w.heap[vb]? = some (.cells vs 43 (0, 0))) (hg : w.heap[g]? = some (.cells cur 43 (0, 0))) (hpos : 0 < cur.size) :
    (callFunc 135 #[.slice (some ⟨vb, 0, none⟩) la ca, .slice (some ⟨g, o, none⟩) lb cb]).run Tryz.prog w = .ok (.value (.bool false)) w := by
  rw [run_callFunc_extern Tryz.func135 (by kernel_rfl) (by kernel_rfl) (by kernel_rfl) (e := Extern.SlicesOverlaps.overlaps #[39, 39] #[4]) (by kernel_rfl)]
  have hsz : ∀ w, (Go.sizeOf 43).run Tryz.prog w = .ok 3 w := fun _ => by kernel_rfl
  rw [Lib.run_overlaps_apart w 39 4 43 Tryz.underlying39 3 hsz ⟨vb, 0, none⟩ ⟨g, o, none⟩ la ca lb cb hne 43 43 vs.size cur.size (by unfold World.shape?; rw [hv]) (by unfold World.shape?; rw [hg]) (by omega)
    (by unfold World.frozen?; rw [show (⟨vb, 0, none⟩ : Addr).block = vb from rfl, hv]; simp) (by unfold World.frozen?; rw [show (⟨vb, vs.size, none⟩ : Addr).block = vb from rfl, hv]; simp)]
  rfl

set_option maxRecDepth 100000 in
set_option maxHeartbeats 1000000 in
theorem insW_end (a : Option Addr) (n c vb : Nat) (xs : List Value) (vs : List Value) (w : World) (hr : Row w 43 3 a n c xs) (hv : w.heap[vb]? = some (.cells vs.toArray 43 (0, 0))) (hvl : vs.length = 3)
    (hone : ∀ u ∈ vs, u.oneCell' = true) (hbig : (n + 1) * 40 ≤ 140737488355328) :
    Calls Tryz.prog 91 #[.slice a n c, .int .i64 n, .slice (some ⟨vb, 0, none⟩) 1 1] w fun e w' => ∃ a' c', e = .returned (.slice a' (n + 1) c') ∧ Row w' 43 3 a' (n + 1) c' (xs ++ vs) ∧ Touch (blkOf a) w w' ∧ Fresh w a a' := by
  obtain ⟨i0, hi, hz0, hz1, hz2⟩ := info_parts insW_info
  have hcl : ∀ j u, vs[j]? = some u → w.cell? ((⟨vb, 0, none⟩ : Addr).add j) = some u := fun j u hj => by
    rw [Addr.add_lit]; unfold World.cell?; rw [show (⟨vb, 0 + j, none⟩ : Addr).block = vb from rfl, hv]; simpa using hj
  have hnc : n ≤ c := by rcases hr.out with ⟨_, rfl, rfl, _⟩ | ⟨g, cur, _, _, h, _⟩; exact Nat.le_refl _; exact h
  obtain ⟨a', c', w', hrun, hown, ht, hf⟩ := run_append_row (P := Tryz.prog) w 39 39 43 i0 (.agg #[.string ⟨#[]⟩, .string ⟨#[]⟩, .bool false]) 3 40 Tryz.underlying39 hi hz0 hz1 hz2 rfl (by decide) a n c xs hr ⟨vb, 0, none⟩ 1 1 vs (by rw [hvl, Nat.one_mul]) hcl hone (by unfold maxLen; omega) hbig
  have hb : n < 9223372036854775807 := by omega
  have HN := Lib.hid hnc
  have HF : Hid (Row w' 43 3 a' (n + 1) c' (xs ++ vs) ∧ Touch (blkOf a) w w' ∧ Fresh w a a') := Lib.hid ⟨hown, ht, hf⟩
  have HR := Lib.hid hrun
  clear hrun hown ht hf hcl hv hr hi hz0 hz1 hz2
  by_cases hcn : c = n
  · subst hcn
    go_enter Tryz.func91, Tryz.ntmps91
    go_wp2_with (at_builtin; refine wpList_appendR _ rfl _ _ 39 39 rfl _ _ rfl rfl HR.out ?_)
    go_ret
    exact ⟨_, _, rfl, HF.out⟩
  · go_enter Tryz.func91, Tryz.ntmps91
    go_wp2_with (at_builtin; refine wpList_appendR _ rfl _ _ 39 39 rfl _ _ rfl rfl HR.out ?_)
    go_ret
    exact ⟨_, _, rfl, HF.out⟩

set_option maxRecDepth 100000 in
set_option maxHeartbeats 2000000 in
theorem insW_room (g n c i vb : Nat) (cur : Array Value) (xs vs : List Value) (w : World) (hg : w.heap[g]? = some (.cells cur 43 (0, 0))) (hcs : cur.size = c * 3) (hcm : c ≤ maxLen) (htk : cur.toList.take (n * 3) = xs)
    (hv : w.heap[vb]? = some (.cells vs.toArray 43 (0, 0))) (hvl : vs.length = 3) (hne : vb ≠ g) (honex : ∀ u ∈ xs, u.oneCell' = true) (hone : ∀ u ∈ vs, u.oneCell' = true) (hi : i < n) (hroom : n + 1 ≤ c) :
    Calls Tryz.prog 91 #[.slice (some ⟨g, 0, none⟩) n c, .int .i64 i, .slice (some ⟨vb, 0, none⟩) 1 1] w fun e w' => e = .returned (.slice (some ⟨g, 0, none⟩) (n + 1) c) ∧ Row w' 43 3 (some ⟨g, 0, none⟩) (n + 1) c (xs.take (i * 3) ++ vs ++ xs.drop (i * 3)) ∧ Touch [g] w w' := by
  have hcl0 : 0 < cur.size := by omega
  have hxl : xs.length = n * 3 := by rw [← htk, List.length_take, Array.length_toList]; omega
  obtain ⟨L1, L2, L3⟩ := ins_list cur.toList xs vs n i c 3 hi hroom (by rw [Array.length_toList]; exact hcs) htk hvl
  have hov := fun la ca o lb cb => insW_over w g vb o la ca lb cb cur vs.toArray hne hv hg hcl0
  -- the first copy: what stands from i on moves one place up
  obtain ⟨C1, hC1⟩ : ∃ C1 : Array Value, C1 = (cur.toList.take ((i + 1) * 3) ++ xs.drop (i * 3) ++ cur.toList.drop ((n + 1) * 3)).toArray := ⟨_, rfl⟩
  have hdl : (xs.drop (i * 3)).length = (n - i) * 3 := by rw [List.length_drop, hxl]; omega
  have hcp1 : ∀ ty dc sc, (Builtin.copy_ #[39, 39] ty #[.slice (some ⟨g, (i + 1) * 3, none⟩) (n - i) dc, .slice (some ⟨g, i * 3, none⟩) (n + 1 - i) sc]).run Tryz.prog w.drew = .ok (goInt (n - i : Nat)) (w.drew.setRow g C1) := fun ty dc sc => by
    have := run_copy_k (P := Tryz.prog) w.drew 39 39 ty 43 3 g ((i + 1) * 3) (n - i) dc ⟨g, i * 3, none⟩ (n + 1 - i) sc cur 43 (xs.drop (i * 3)) (n - i) Tryz.underlying39 insW_size hg (by simp only [Nat.min_def]; split <;> omega) hdl
      (fun j u hj => by
        rw [Addr.add_lit]
        rw [List.getElem?_drop, ← htk, List.getElem?_take] at hj
        split at hj
        · unfold World.cell?; rw [show (⟨g, i * 3 + j, none⟩ : Addr).block = g from rfl, show w.drew.heap[g]? = _ from hg]; simpa using hj
        · cases hj)
      (by rw [hdl]; omega) (fun u hu => honex u (List.mem_of_mem_drop hu))
    rw [this, hC1, hdl, show (i + 1) * 3 + (n - i) * 3 = (n + 1) * 3 by rw [← Nat.add_mul]; congr 1; omega]
  have hg1 : (w.drew.setRow g C1).heap[g]? = some (.cells C1 43 (0, 0)) := setRow_heap _ g cur C1 43 _ hg
  have hC1s : C1.size = c * 3 := by rw [hC1, List.size_toArray]; exact L3
  obtain ⟨C2, hC2⟩ : ∃ C2 : Array Value, C2 = (C1.toList.take (i * 3) ++ vs ++ C1.toList.drop (i * 3 + 3)).toArray := ⟨_, rfl⟩
  have hcp2 : ∀ (W : World), W.heap[g]? = some (.cells C1 43 (0, 0)) → W.heap[vb]? = some (.cells vs.toArray 43 (0, 0)) → ∀ ty dc, (Builtin.copy_ #[39, 39] ty #[.slice (some ⟨g, i * 3, none⟩) (n + 1 - i) dc, .slice (some ⟨vb, 0, none⟩) 1 1]).run Tryz.prog W = .ok (goInt (1 : Nat)) (W.setRow g C2) := fun W hW hWv ty dc => by
    have := run_copy_k (P := Tryz.prog) W 39 39 ty 43 3 g (i * 3) (n + 1 - i) dc ⟨vb, 0, none⟩ 1 1 C1 43 vs 1 Tryz.underlying39 insW_size hW (by simp only [Nat.min_def]; split <;> omega) (by rw [hvl])
      (fun j u hj => by rw [Addr.add_lit]; unfold World.cell?; rw [show (⟨vb, 0 + j, none⟩ : Addr).block = vb from rfl, hWv]; simpa using hj)
      (by rw [hvl, hC1s]; omega) hone
    rw [this, hC2, hvl]
  have hfin : Hid (Row ((w.drew.setRow g C1).setRow g C2) 43 3 (some ⟨g, 0, none⟩) (n + 1) c (xs.take (i * 3) ++ vs ++ xs.drop (i * 3)) ∧ Touch [g] w ((w.drew.setRow g C1).setRow g C2)) := Lib.hid (by
    refine ⟨Row.mk (cur := C2) (setRow_heap _ g C1 C2 43 _ hg1) hroom hcm ?_ ?_, ((Touch.drew _ _).andThen (Touch.setRow _ g C1 (by simp))).andThen (Touch.setRow _ g C2 (by simp))⟩
    · rw [hC2, List.size_toArray, hC1]; exact L2
    · rw [hC2, List.toList_toArray, hC1]; exact L1)
  have hv1 : (w.drew.setRow g C1).heap[vb]? = some (.cells vs.toArray 43 (0, 0)) := by rw [setRow_other _ g vb C1 hne]; exact hv
  have hcp3 := hcp2 _ hg1 hv1
  try simp only [Nat.mul_one] at hcp1 hcp3
  have H1 := Lib.hid hcp1
  have H2 := Lib.hid hcp3
  have HC : Hid (c = c) := Lib.hid rfl
  have hb1 : i ≤ n := by omega
  have hb2 : n + 1 ≤ 9223372036854775807 := by unfold maxLen at hcm; omega
  have hb3 : ¬ (c = i) := by omega
  have hb4 : ¬ (c = i + 1) := by omega
  clear hcp1 hcp2 hcp3 hg1 hC1s hC1 hC2 hdl hv1 L1 L2 L3 hxl hcl0 htk hcs hg hv hvl honex hone hcm
  go_enter Tryz.func91, Tryz.ntmps91
  go_wp2_with (simp only [hov])
  have hr1 : IntKind.i64.wrap ((i : Int) + 1) = (i : Int) + 1 := by rw [IntKind.wrap_i64]; omega
  have hr2 : (0 : Int) ≤ (i : Int) + 1 := by omega
  have hr3 : ((i : Int) + 1).toNat = i + 1 := by omega
  have hr4 : (i : Int) ≤ (n : Int) + 1 := by omega
  have hr5 : (i : Int) + 1 ≤ (n : Int) + 1 := by omega
  have hq := fun dc sc => H1.out 3 dc sc
  go_region
  clear hq hr1 hr2 hr3 hr4 hr5
  have hq2 := fun dc => H2.out 3 dc
  go_wp2_with fail
  go_ret
  exact ⟨rfl, hfin.out.1, hfin.out.2⟩

set_option maxRecDepth 100000 in
set_option maxHeartbeats 2000000 in
theorem insW_grow (g n i vb : Nat) (cur : Array Value) (xs vs : List Value) (w : World) (hg : w.heap[g]? = some (.cells cur 43 (0, 0))) (hcs : cur.size = n * 3) (hcm : n ≤ maxLen) (htk : cur.toList.take (n * 3) = xs)
    (hv : w.heap[vb]? = some (.cells vs.toArray 43 (0, 0))) (hvl : vs.length = 3) (honex : ∀ u ∈ xs, u.oneCell' = true) (hone : ∀ u ∈ vs, u.oneCell' = true) (hi : i < n) (hbig : (n + 1) * 40 ≤ 140737488355328) :
    Calls Tryz.prog 91 #[.slice (some ⟨g, 0, none⟩) n n, .int .i64 i, .slice (some ⟨vb, 0, none⟩) 1 1] w fun e w' => ∃ a' c', e = .returned (.slice a' (n + 1) c') ∧ Row w' 43 3 a' (n + 1) c' (xs.take (i * 3) ++ vs ++ xs.drop (i * 3)) ∧ (∀ x, a' = some x → x.block = w.heap.size) ∧ Touch [] w w' := by
  obtain ⟨i0, hi0, hz0, hz1, hz2⟩ := info_parts insW_info
  have hxl : xs.length = n * 3 := by rw [← htk, List.length_take, Array.length_toList]; omega
  have hgl : g < w.heap.size := (Array.getElem?_eq_some_iff.1 hg).1
  have hvbl : vb < w.heap.size := (Array.getElem?_eq_some_iff.1 hv).1
  have hcell : ∀ (W : World), W.heap[g]? = some (.cells cur 43 (0, 0)) → ∀ j u, xs[j]? = some u → W.cell? ⟨g, j, none⟩ = some u := fun W hW j u hj => by
    rw [← htk, List.getElem?_take] at hj
    split at hj
    · unfold World.cell?; rw [show (⟨g, j, none⟩ : Addr).block = g from rfl, hW]; simpa using hj
    · cases hj
  have hik : i * 3 ≤ n * 3 := Nat.mul_le_mul_right _ (by omega)
  have htl : (xs.take (i * 3)).length = i * 3 := by rw [List.length_take]; omega
  have hold : (Builtin.firstCells i0.size i (.slice (some ⟨g, 0, none⟩) i n)).run Tryz.prog w.drew = .ok (xs.take (i * 3)).toArray w.drew := by
    rw [hz1]
    exact run_firstCells_some w.drew 3 i ⟨g, 0, none⟩ i n (xs.take (i * 3)) (by rw [htl]) (fun j u hj => by
      rw [Addr.add_lit, Nat.zero_add]
      rw [List.getElem?_take] at hj
      split at hj
      · exact hcell w.drew hg j u hj
      · cases hj)
  have hrun := run_append_zeros_grow (P := Tryz.prog) w 39 3 39 43 i0 (.agg #[.string ⟨#[]⟩, .string ⟨#[]⟩, .bool false]) .i64 .i64 Tryz.underlying39 Tryz.underlying3 hi0 hz0 (some ⟨g, 0, none⟩) i n (xs.take (i * 3)) hold (n + 1 - i) (by omega) (by rw [hz1]; decide) (by omega) (by omega) (by rw [hz2]; rw [show i + (n + 1 - i) = n + 1 by omega]; exact hbig)
  rw [show i + (n + 1 - i) = n + 1 by omega] at hrun
  obtain ⟨cc, hcc⟩ : ∃ cc, grownCap w (n + 1) n 43 = cc := ⟨_, rfl⟩
  have hccge : n + 1 ≤ cc := hcc ▸ grownCap_ge _ _ _ _
  have hccle : cc ≤ maxLen := hcc ▸ grownCap_le_maxLen _ _ _ _ (by unfold maxLen; omega)
  rw [hcc] at hrun
  obtain ⟨zs, hzs⟩ : ∃ zs, (Builtin.zeroCells (Value.cells (.agg #[.string ⟨#[]⟩, .string ⟨#[]⟩, .bool false])) (n + 1 - i)).toList = zs := ⟨_, rfl⟩
  obtain ⟨rs, hrs⟩ : ∃ rs, (Builtin.zeroCells (Value.cells (.agg #[.string ⟨#[]⟩, .string ⟨#[]⟩, .bool false])) (cc - (n + 1))).toList = rs := ⟨_, rfl⟩
  have hzl : zs.length = (n + 1 - i) * 3 := by rw [← hzs, Array.length_toList, size_zeroCells]; rfl
  have hrl : rs.length = (cc - (n + 1)) * 3 := by rw [← hrs, Array.length_toList, size_zeroCells]; rfl
  obtain ⟨C0, hC0⟩ : ∃ C0 : Array Value, (xs.take (i * 3) ++ zs ++ rs).toArray = C0 := ⟨_, rfl⟩
  have hC0' : (xs.take (i * 3)).toArray ++ Builtin.zeroCells (Value.cells (.agg #[.string ⟨#[]⟩, .string ⟨#[]⟩, .bool false])) (n + 1 - i) ++ Builtin.zeroCells (Value.cells (.agg #[.string ⟨#[]⟩, .string ⟨#[]⟩, .bool false])) (cc - (n + 1)) = C0 := by
    rw [← hC0, ← hzs, ← hrs]; simp
  rw [hC0'] at hrun
  obtain ⟨N1, N2, N3⟩ := ins_new xs vs zs rs n i 3 hi hxl hvl hzl
  have hC0s : C0.size = cc * 3 := by rw [← hC0, List.size_toArray]; rw [N3, hrl, ← Nat.add_mul]; congr 1; omega
  obtain ⟨C1, hC1⟩ : ∃ C1 : Array Value, (C0.toList.take (i * 3) ++ vs ++ C0.toList.drop (i * 3 + 3)).toArray = C1 := ⟨_, rfl⟩
  have hC0l : C0.toList = xs.take (i * 3) ++ zs ++ rs := by rw [← hC0]
  have hC1s : C1.size = cc * 3 := by rw [← hC1, List.size_toArray, hC0l, N2, ← hC0l, Array.length_toList, hC0s]
  obtain ⟨C2, hC2⟩ : ∃ C2 : Array Value, (C1.toList.take ((i + 1) * 3) ++ xs.drop (i * 3) ++ C1.toList.drop ((n + 1) * 3)).toArray = C2 := ⟨_, rfl⟩
  have hC2l : C2.toList = xs.take (i * 3) ++ vs ++ xs.drop (i * 3) ++ rs := by rw [← hC2, ← hC1, hC0l]; exact N1
  have hdl : (xs.drop (i * 3)).length = (n - i) * 3 := by rw [List.length_drop, hxl]; omega
  -- the worlds
  obtain ⟨W0, hW0⟩ : ∃ W0, w.drew.alloc (.cells C0 43) = W0 := ⟨_, rfl⟩
  have hW0n : W0.heap[w.heap.size]? = some (.cells C0 43 (0, 0)) := hW0 ▸ heap_alloc_new w.drew _
  have hW0t : Touch [] w W0 := hW0 ▸ (Touch.drew _ _).andThen (Touch.alloc _ _ _)
  rw [hW0] at hrun
  have hin1 : (i + 1) * 3 ≤ (n + 1) * 3 := Nat.mul_le_mul_right _ (by omega)
  have hnc1 : (n + 1) * 3 ≤ cc * 3 := Nat.mul_le_mul_right _ hccge
  have hcp1 : ∀ ty dc, (Builtin.copy_ #[39, 39] ty #[.slice (some ⟨w.heap.size, i * 3, none⟩) (n + 1 - i) dc, .slice (some ⟨vb, 0, none⟩) 1 1]).run Tryz.prog W0 = .ok (goInt (1 : Nat)) (W0.setRow w.heap.size C1) := fun ty dc => by
    have := run_copy_k (P := Tryz.prog) W0 39 39 ty 43 3 w.heap.size (i * 3) (n + 1 - i) dc ⟨vb, 0, none⟩ 1 1 C0 43 vs 1 Tryz.underlying39 insW_size hW0n (by simp only [Nat.min_def]; split <;> omega) (by rw [hvl])
      (fun j u hj => by rw [Addr.add_lit]; unfold World.cell?; rw [show (⟨vb, 0 + j, none⟩ : Addr).block = vb from rfl, hW0t.heap hv (by simp)]; simpa using hj)
      (by rw [hvl, hC0s]; omega) hone
    rw [this, hvl, hC1]
  have hW1n : (W0.setRow w.heap.size C1).drew.heap[w.heap.size]? = some (.cells C1 43 (0, 0)) := setRow_heap _ _ C0 C1 43 _ hW0n
  have hW1g : (W0.setRow w.heap.size C1).drew.heap[g]? = some (.cells cur 43 (0, 0)) := (setRow_other _ _ g C1 (by omega)).trans (hW0t.heap hg (by simp))
  have hcp2 : ∀ ty dc sc, (Builtin.copy_ #[39, 39] ty #[.slice (some ⟨w.heap.size, (i + 1) * 3, none⟩) (n - i) dc, .slice (some ⟨g, i * 3, none⟩) (n - i) sc]).run Tryz.prog (W0.setRow w.heap.size C1).drew = .ok (goInt (n - i : Nat)) ((W0.setRow w.heap.size C1).drew.setRow w.heap.size C2) := fun ty dc sc => by
    have := run_copy_k (P := Tryz.prog) (W0.setRow w.heap.size C1).drew 39 39 ty 43 3 w.heap.size ((i + 1) * 3) (n - i) dc ⟨g, i * 3, none⟩ (n - i) sc C1 43 (xs.drop (i * 3)) (n - i) Tryz.underlying39 insW_size hW1n (by simp only [Nat.min_def]; split <;> omega) hdl
      (fun j u hj => by
        rw [Addr.add_lit]
        rw [List.getElem?_drop] at hj
        exact hcell _ hW1g _ _ hj)
      (by rw [hdl, hC1s, ← Nat.add_mul]; exact Nat.le_trans (Nat.mul_le_mul_right _ (by omega)) hnc1) (fun u hu => honex u (List.mem_of_mem_drop hu))
    rw [this, hdl, show (i + 1) * 3 + (n - i) * 3 = (n + 1) * 3 by rw [← Nat.add_mul]; congr 1; omega, hC2]
  have hfin : Hid (Row ((W0.setRow w.heap.size C1).drew.setRow w.heap.size C2) 43 3 (some ⟨w.heap.size, 0, none⟩) (n + 1) cc (xs.take (i * 3) ++ vs ++ xs.drop (i * 3)) ∧ Touch [] w ((W0.setRow w.heap.size C1).drew.setRow w.heap.size C2)) := Lib.hid (by
    refine ⟨Row.mk (cur := C2) (setRow_heap _ _ C1 C2 43 _ hW1n) hccge hccle ?_ ?_, ?_⟩
    · rw [← Array.length_toList, hC2l]; simp only [List.length_append, htl, hdl, hvl, hrl]
      have h1 : (n - i) * 3 + i * 3 = n * 3 := by rw [← Nat.add_mul]; congr 1; omega
      have h2 : (cc - (n + 1)) * 3 + (n * 3 + 3) = cc * 3 := by rw [← Nat.succ_mul, ← Nat.add_mul]; congr 1; omega
      omega
    · rw [hC2l]
      have h1 : (n - i) * 3 + i * 3 = n * 3 := by rw [← Nat.add_mul]; congr 1; omega
      have h2 : (n + 1) * 3 = n * 3 + 3 := Nat.succ_mul _ _
      rw [List.take_append_of_le_length (by simp only [List.length_append, htl, hdl, hvl]; omega), List.take_of_length_le (by simp only [List.length_append, htl, hdl, hvl]; omega)]
    · exact (hW0t.trans (Touch.setRow (bs := [w.heap.size]) _ _ C1 (by simp)) (by simp)).trans ((Touch.drew _ _).andThen (Touch.setRow (bs := [w.heap.size]) _ _ C2 (by simp))) (by simp))
  have HA : Hid ((Builtin.append_ #[39, 3] 39 #[.slice (some ⟨g, 0, none⟩) i n, .int .i64 ((n : Int) + 1 - i)]).run Tryz.prog w = .ok (.slice (some ⟨w.heap.size, 0, none⟩) (n + 1) cc) W0) := Lib.hid (by rw [show ((n + 1 - i : Nat) : Int) = (n : Int) + 1 - i by omega] at hrun; exact hrun)
  try simp only [Nat.mul_one] at hcp1 hcp2
  have H1 := Lib.hid hcp1
  have H2 := Lib.hid hcp2
  have hb1 : i ≤ n := by omega
  have hb2 : n + 1 ≤ 9223372036854775807 := by omega
  have hb3 : ¬ (n = i) := by omega
  have hb4 : ¬ (cc = i) := by omega
  have hb5 : ¬ (cc = i + 1) := by omega
  have hb6 : cc ≤ 9223372036854775807 := by unfold maxLen at hccle; omega
  clear hrun hcp1 hcp2 hW1n hW1g hW0n hW0t hW0 hC2l hC2 hC1s hC1 hC0l hC0s hC0' hC0 hzl hrl hzs hrs hcell hold N1 N2 N3 hik htl hdl htk hcs hg hv hvl honex hone hcm hxl hz0 hz1 hz2 hi0 hbig hin1 hnc1 hccle
  clear hcc
  have hq1 := fun dc => H1.out 3 dc
  go_enter Tryz.func91, Tryz.ntmps91
  go_wp2_with (at_builtin; refine wpList_appendR _ rfl _ _ 39 3 rfl _ _ rfl rfl HA.out ?_)
  clear hq1
  have hr1 : IntKind.i64.wrap ((i : Int) + 1) = (i : Int) + 1 := by rw [IntKind.wrap_i64]; omega
  have hr2 : (0 : Int) ≤ (i : Int) + 1 := by omega
  have hr3 : ((i : Int) + 1).toNat = i + 1 := by omega
  have hr4 : (i : Int) ≤ (n : Int) + 1 := by omega
  have hr5 : (i : Int) + 1 ≤ (n : Int) + 1 := by omega
  have hq2 := fun dc sc => H2.out 3 dc sc
  go_region
  clear hq2 hr1 hr2 hr3 hr4 hr5
  go_wp2_with fail
  go_ret
  exact ⟨_, _, rfl, hfin.out.1, fun x hx => by simp only [Option.some.injEq] at hx; subst hx; rfl, hfin.out.2⟩

theorem insW_any (a : Option Addr) (n c i vb : Nat) (xs vs : List Value) (w : World) (hr : Row w 43 3 a n c xs) (hv : w.heap[vb]? = some (.cells vs.toArray 43 (0, 0))) (hvl : vs.length = 3) (hne : vb ∉ blkOf a)
    (honex : ∀ u ∈ xs, u.oneCell' = true) (hone : ∀ u ∈ vs, u.oneCell' = true) (hi : i ≤ n) (hbig : (n + 1) * 40 ≤ 140737488355328) :
    Calls Tryz.prog 91 #[.slice a n c, .int .i64 i, .slice (some ⟨vb, 0, none⟩) 1 1] w fun e w' => ∃ a' c', e = .returned (.slice a' (n + 1) c') ∧ Row w' 43 3 a' (n + 1) c' (xs.take (i * 3) ++ vs ++ xs.drop (i * 3)) ∧ Touch (blkOf a) w w' ∧ Fresh w a a' := by
  by_cases hin : i = n
  · subst hin
    have hl := hr.len
    rw [List.take_of_length_le (by omega), List.drop_eq_nil_of_le (by omega), List.append_nil]
    exact insW_end a i c vb xs vs w hr hv hvl hone hbig
  · rcases hr.out with ⟨rfl, rfl, rfl, rfl⟩ | ⟨g, cur, rfl, hg, hnc, hcm, hcs, htk, hxl⟩
    · omega
    · have hneg : vb ≠ g := by simpa [blkOf] using hne
      by_cases hroom : n + 1 ≤ c
      · exact (insW_room g n c i vb cur xs vs w hg hcs hcm htk hv hvl hneg honex hone (by omega) hroom).mono fun e w' ⟨he, h1, h2⟩ => ⟨_, _, he, h1, h2, Fresh.refl _ _⟩
      · obtain rfl : c = n := by omega
        exact (insW_grow g c i vb cur xs vs w hg hcs hcm htk hv hvl honex hone (by omega) hbig).mono fun e w' ⟨a', c', he, h1, h2, h3⟩ => ⟨a', c', he, h1, h3.mono (by simp), fun x hx => .inr (by rw [h2 x hx]; exact Nat.le_refl _)⟩


/-- The element type's zero value, cells and bytes. -/
theorem insR_info : (Tryz.prog.info? 85).map (fun i => (i.zero, i.size, i.bytes)) = some (some (.agg #[.int .i64 0, .int .i64 0, .int .i64 0, .int .i64 0, .int .i64 0]), 5, 40) := by kernel_rfl
theorem insR_size : (Tryz.prog.info? 85).map (·.size) = some 5 := by kernel_rfl
theorem insR_over (w : World) (g vb o la ca lb cb : Nat) (cur vs : Array Value) (hne : vb ≠ g) (hv : w.heap[vb]? = some (.cells vs 85 (0, 0))) (hg : w.heap[g]? = some (.cells cur 85 (0, 0))) (hpos : 0 < cur.size) :
    (callFunc 191 #[.slice (some ⟨vb, 0, none⟩) la ca, .slice (some ⟨g, o, none⟩) lb cb]).run Tryz.prog w = .ok (.value (.bool false)) w := by
  rw [run_callFunc_extern Tryz.func191 (by kernel_rfl) (by kernel_rfl) (by kernel_rfl) (e := Extern.SlicesOverlaps.overlaps #[52, 52] #[4]) (by kernel_rfl)]
  have hsz : ∀ w, (Go.sizeOf 85).run Tryz.prog w = .ok 5 w := fun _ => by kernel_rfl
  rw [Lib.run_overlaps_apart w 52 4 85 Tryz.underlying52 5 hsz ⟨vb, 0, none⟩ ⟨g, o, none⟩ la ca lb cb hne 85 85 vs.size cur.size (by unfold World.shape?; rw [hv]) (by unfold World.shape?; rw [hg]) (by omega)
    (by unfold World.frozen?; rw [show (⟨vb, 0, none⟩ : Addr).block = vb from rfl, hv]; simp) (by unfold World.frozen?; rw [show (⟨vb, vs.size, none⟩ : Addr).block = vb from rfl, hv]; simp)]
  rfl

set_option maxRecDepth 100000 in
set_option maxHeartbeats 1000000 in
theorem insR_end (a : Option Addr) (n c vb : Nat) (xs : List Value) (vs : List Value) (w : World) (hr : Row w 85 5 a n c xs) (hv : w.heap[vb]? = some (.cells vs.toArray 85 (0, 0))) (hvl : vs.length = 5)
    (hone : ∀ u ∈ vs, u.oneCell' = true) (hbig : (n + 1) * 40 ≤ 140737488355328) :
    Calls Tryz.prog 159 #[.slice a n c, .int .i64 n, .slice (some ⟨vb, 0, none⟩) 1 1] w fun e w' => ∃ a' c', e = .returned (.slice a' (n + 1) c') ∧ Row w' 85 5 a' (n + 1) c' (xs ++ vs) ∧ Touch (blkOf a) w w' ∧ Fresh w a a' := by
  obtain ⟨i0, hi, hz0, hz1, hz2⟩ := info_parts insR_info
  have hcl : ∀ j u, vs[j]? = some u → w.cell? ((⟨vb, 0, none⟩ : Addr).add j) = some u := fun j u hj => by
    rw [Addr.add_lit]; unfold World.cell?; rw [show (⟨vb, 0 + j, none⟩ : Addr).block = vb from rfl, hv]; simpa using hj
  have hnc : n ≤ c := by rcases hr.out with ⟨_, rfl, rfl, _⟩ | ⟨g, cur, _, _, h, _⟩; exact Nat.le_refl _; exact h
  obtain ⟨a', c', w', hrun, hown, ht, hf⟩ := run_append_row (P := Tryz.prog) w 52 52 85 i0 (.agg #[.int .i64 0, .int .i64 0, .int .i64 0, .int .i64 0, .int .i64 0]) 5 40 Tryz.underlying52 hi hz0 hz1 hz2 rfl (by decide) a n c xs hr ⟨vb, 0, none⟩ 1 1 vs (by rw [hvl, Nat.one_mul]) hcl hone (by unfold maxLen; omega) hbig
  have hb : n < 9223372036854775807 := by omega
  have HN := Lib.hid hnc
  have HF : Hid (Row w' 85 5 a' (n + 1) c' (xs ++ vs) ∧ Touch (blkOf a) w w' ∧ Fresh w a a') := Lib.hid ⟨hown, ht, hf⟩
  have HR := Lib.hid hrun
  clear hrun hown ht hf hcl hv hr hi hz0 hz1 hz2
  by_cases hcn : c = n
  · subst hcn
    go_enter Tryz.func159, Tryz.ntmps159
    go_wp2_with (at_builtin; refine wpList_appendR _ rfl _ _ 52 52 rfl _ _ rfl rfl HR.out ?_)
    go_ret
    exact ⟨_, _, rfl, HF.out⟩
  · go_enter Tryz.func159, Tryz.ntmps159
    go_wp2_with (at_builtin; refine wpList_appendR _ rfl _ _ 52 52 rfl _ _ rfl rfl HR.out ?_)
    go_ret
    exact ⟨_, _, rfl, HF.out⟩

set_option maxRecDepth 100000 in
set_option maxHeartbeats 2000000 in
theorem insR_room (g n c i vb : Nat) (cur : Array Value) (xs vs : List Value) (w : World) (hg : w.heap[g]? = some (.cells cur 85 (0, 0))) (hcs : cur.size = c * 5) (hcm : c ≤ maxLen) (htk : cur.toList.take (n * 5) = xs)
    (hv : w.heap[vb]? = some (.cells vs.toArray 85 (0, 0))) (hvl : vs.length = 5) (hne : vb ≠ g) (honex : ∀ u ∈ xs, u.oneCell' = true) (hone : ∀ u ∈ vs, u.oneCell' = true) (hi : i < n) (hroom : n + 1 ≤ c) :
    Calls Tryz.prog 159 #[.slice (some ⟨g, 0, none⟩) n c, .int .i64 i, .slice (some ⟨vb, 0, none⟩) 1 1] w fun e w' => e = .returned (.slice (some ⟨g, 0, none⟩) (n + 1) c) ∧ Row w' 85 5 (some ⟨g, 0, none⟩) (n + 1) c (xs.take (i * 5) ++ vs ++ xs.drop (i * 5)) ∧ Touch [g] w w' := by
  have hcl0 : 0 < cur.size := by omega
  have hxl : xs.length = n * 5 := by rw [← htk, List.length_take, Array.length_toList]; omega
  obtain ⟨L1, L2, L3⟩ := ins_list cur.toList xs vs n i c 5 hi hroom (by rw [Array.length_toList]; exact hcs) htk hvl
  have hov := fun la ca o lb cb => insR_over w g vb o la ca lb cb cur vs.toArray hne hv hg hcl0
  -- the first copy: what stands from i on moves one place up
  obtain ⟨C1, hC1⟩ : ∃ C1 : Array Value, C1 = (cur.toList.take ((i + 1) * 5) ++ xs.drop (i * 5) ++ cur.toList.drop ((n + 1) * 5)).toArray := ⟨_, rfl⟩
  have hdl : (xs.drop (i * 5)).length = (n - i) * 5 := by rw [List.length_drop, hxl]; omega
  have hcp1 : ∀ ty dc sc, (Builtin.copy_ #[52, 52] ty #[.slice (some ⟨g, (i + 1) * 5, none⟩) (n - i) dc, .slice (some ⟨g, i * 5, none⟩) (n + 1 - i) sc]).run Tryz.prog w.drew = .ok (goInt (n - i : Nat)) (w.drew.setRow g C1) := fun ty dc sc => by
    have := run_copy_k (P := Tryz.prog) w.drew 52 52 ty 85 5 g ((i + 1) * 5) (n - i) dc ⟨g, i * 5, none⟩ (n + 1 - i) sc cur 85 (xs.drop (i * 5)) (n - i) Tryz.underlying52 insR_size hg (by simp only [Nat.min_def]; split <;> omega) hdl
      (fun j u hj => by
        rw [Addr.add_lit]
        rw [List.getElem?_drop, ← htk, List.getElem?_take] at hj
        split at hj
        · unfold World.cell?; rw [show (⟨g, i * 5 + j, none⟩ : Addr).block = g from rfl, show w.drew.heap[g]? = _ from hg]; simpa using hj
        · cases hj)
      (by rw [hdl]; omega) (fun u hu => honex u (List.mem_of_mem_drop hu))
    rw [this, hC1, hdl, show (i + 1) * 5 + (n - i) * 5 = (n + 1) * 5 by rw [← Nat.add_mul]; congr 1; omega]
  have hg1 : (w.drew.setRow g C1).heap[g]? = some (.cells C1 85 (0, 0)) := setRow_heap _ g cur C1 85 _ hg
  have hC1s : C1.size = c * 5 := by rw [hC1, List.size_toArray]; exact L3
  obtain ⟨C2, hC2⟩ : ∃ C2 : Array Value, C2 = (C1.toList.take (i * 5) ++ vs ++ C1.toList.drop (i * 5 + 5)).toArray := ⟨_, rfl⟩
  have hcp2 : ∀ (W : World), W.heap[g]? = some (.cells C1 85 (0, 0)) → W.heap[vb]? = some (.cells vs.toArray 85 (0, 0)) → ∀ ty dc, (Builtin.copy_ #[52, 52] ty #[.slice (some ⟨g, i * 5, none⟩) (n + 1 - i) dc, .slice (some ⟨vb, 0, none⟩) 1 1]).run Tryz.prog W = .ok (goInt (1 : Nat)) (W.setRow g C2) := fun W hW hWv ty dc => by
    have := run_copy_k (P := Tryz.prog) W 52 52 ty 85 5 g (i * 5) (n + 1 - i) dc ⟨vb, 0, none⟩ 1 1 C1 85 vs 1 Tryz.underlying52 insR_size hW (by simp only [Nat.min_def]; split <;> omega) (by rw [hvl])
      (fun j u hj => by rw [Addr.add_lit]; unfold World.cell?; rw [show (⟨vb, 0 + j, none⟩ : Addr).block = vb from rfl, hWv]; simpa using hj)
      (by rw [hvl, hC1s]; omega) hone
    rw [this, hC2, hvl]
  have hfin : Hid (Row ((w.drew.setRow g C1).setRow g C2) 85 5 (some ⟨g, 0, none⟩) (n + 1) c (xs.take (i * 5) ++ vs ++ xs.drop (i * 5)) ∧ Touch [g] w ((w.drew.setRow g C1).setRow g C2)) := Lib.hid (by
    refine ⟨Row.mk (cur := C2) (setRow_heap _ g C1 C2 85 _ hg1) hroom hcm ?_ ?_, ((Touch.drew _ _).andThen (Touch.setRow _ g C1 (by simp))).andThen (Touch.setRow _ g C2 (by simp))⟩
    · rw [hC2, List.size_toArray, hC1]; exact L2
    · rw [hC2, List.toList_toArray, hC1]; exact L1)
  have hv1 : (w.drew.setRow g C1).heap[vb]? = some (.cells vs.toArray 85 (0, 0)) := by rw [setRow_other _ g vb C1 hne]; exact hv
  have hcp3 := hcp2 _ hg1 hv1
  try simp only [Nat.mul_one] at hcp1 hcp3
  have H1 := Lib.hid hcp1
  have H2 := Lib.hid hcp3
  have HC : Hid (c = c) := Lib.hid rfl
  have hb1 : i ≤ n := by omega
  have hb2 : n + 1 ≤ 9223372036854775807 := by unfold maxLen at hcm; omega
  have hb3 : ¬ (c = i) := by omega
  have hb4 : ¬ (c = i + 1) := by omega
  clear hcp1 hcp2 hcp3 hg1 hC1s hC1 hC2 hdl hv1 L1 L2 L3 hxl hcl0 htk hcs hg hv hvl honex hone hcm
  go_enter Tryz.func159, Tryz.ntmps159
  go_wp2_with (simp only [hov])
  have hr1 : IntKind.i64.wrap ((i : Int) + 1) = (i : Int) + 1 := by rw [IntKind.wrap_i64]; omega
  have hr2 : (0 : Int) ≤ (i : Int) + 1 := by omega
  have hr3 : ((i : Int) + 1).toNat = i + 1 := by omega
  have hr4 : (i : Int) ≤ (n : Int) + 1 := by omega
  have hr5 : (i : Int) + 1 ≤ (n : Int) + 1 := by omega
  have hq := fun dc sc => H1.out 3 dc sc
  go_region
  clear hq hr1 hr2 hr3 hr4 hr5
  have hq2 := fun dc => H2.out 3 dc
  go_wp2_with fail
  go_ret
  exact ⟨rfl, hfin.out.1, hfin.out.2⟩

set_option maxRecDepth 100000 in
set_option maxHeartbeats 2000000 in
theorem insR_grow (g n i vb : Nat) (cur : Array Value) (xs vs : List Value) (w : World) (hg : w.heap[g]? = some (.cells cur 85 (0, 0))) (hcs : cur.size = n * 5) (hcm : n ≤ maxLen) (htk : cur.toList.take (n * 5) = xs)
    (hv : w.heap[vb]? = some (.cells vs.toArray 85 (0, 0))) (hvl : vs.length = 5) (honex : ∀ u ∈ xs, u.oneCell' = true) (hone : ∀ u ∈ vs, u.oneCell' = true) (hi : i < n) (hbig : (n + 1) * 40 ≤ 140737488355328) :
    Calls Tryz.prog 159 #[.slice (some ⟨g, 0, none⟩) n n, .int .i64 i, .slice (some ⟨vb, 0, none⟩) 1 1] w fun e w' => ∃ a' c', e = .returned (.slice a' (n + 1) c') ∧ Row w' 85 5 a' (n + 1) c' (xs.take (i * 5) ++ vs ++ xs.drop (i * 5)) ∧ (∀ x, a' = some x → x.block = w.heap.size) ∧ Touch [] w w' := by
  obtain ⟨i0, hi0, hz0, hz1, hz2⟩ := info_parts insR_info
  have hxl : xs.length = n * 5 := by rw [← htk, List.length_take, Array.length_toList]; omega
  have hgl : g < w.heap.size := (Array.getElem?_eq_some_iff.1 hg).1
  have hvbl : vb < w.heap.size := (Array.getElem?_eq_some_iff.1 hv).1
  have hcell : ∀ (W : World), W.heap[g]? = some (.cells cur 85 (0, 0)) → ∀ j u, xs[j]? = some u → W.cell? ⟨g, j, none⟩ = some u := fun W hW j u hj => by
    rw [← htk, List.getElem?_take] at hj
    split at hj
    · unfold World.cell?; rw [show (⟨g, j, none⟩ : Addr).block = g from rfl, hW]; simpa using hj
    · cases hj
  have hik : i * 5 ≤ n * 5 := Nat.mul_le_mul_right _ (by omega)
  have htl : (xs.take (i * 5)).length = i * 5 := by rw [List.length_take]; omega
  have hold : (Builtin.firstCells i0.size i (.slice (some ⟨g, 0, none⟩) i n)).run Tryz.prog w.drew = .ok (xs.take (i * 5)).toArray w.drew := by
    rw [hz1]
    exact run_firstCells_some w.drew 5 i ⟨g, 0, none⟩ i n (xs.take (i * 5)) (by rw [htl]) (fun j u hj => by
      rw [Addr.add_lit, Nat.zero_add]
      rw [List.getElem?_take] at hj
      split at hj
      · exact hcell w.drew hg j u hj
      · cases hj)
  have hrun := run_append_zeros_grow (P := Tryz.prog) w 52 3 52 85 i0 (.agg #[.int .i64 0, .int .i64 0, .int .i64 0, .int .i64 0, .int .i64 0]) .i64 .i64 Tryz.underlying52 Tryz.underlying3 hi0 hz0 (some ⟨g, 0, none⟩) i n (xs.take (i * 5)) hold (n + 1 - i) (by omega) (by rw [hz1]; decide) (by omega) (by omega) (by rw [hz2]; rw [show i + (n + 1 - i) = n + 1 by omega]; exact hbig)
  rw [show i + (n + 1 - i) = n + 1 by omega] at hrun
  obtain ⟨cc, hcc⟩ : ∃ cc, grownCap w (n + 1) n 85 = cc := ⟨_, rfl⟩
  have hccge : n + 1 ≤ cc := hcc ▸ grownCap_ge _ _ _ _
  have hccle : cc ≤ maxLen := hcc ▸ grownCap_le_maxLen _ _ _ _ (by unfold maxLen; omega)
  rw [hcc] at hrun
  obtain ⟨zs, hzs⟩ : ∃ zs, (Builtin.zeroCells (Value.cells (.agg #[.int .i64 0, .int .i64 0, .int .i64 0, .int .i64 0, .int .i64 0])) (n + 1 - i)).toList = zs := ⟨_, rfl⟩
  obtain ⟨rs, hrs⟩ : ∃ rs, (Builtin.zeroCells (Value.cells (.agg #[.int .i64 0, .int .i64 0, .int .i64 0, .int .i64 0, .int .i64 0])) (cc - (n + 1))).toList = rs := ⟨_, rfl⟩
  have hzl : zs.length = (n + 1 - i) * 5 := by rw [← hzs, Array.length_toList, size_zeroCells]; rfl
  have hrl : rs.length = (cc - (n + 1)) * 5 := by rw [← hrs, Array.length_toList, size_zeroCells]; rfl
  obtain ⟨C0, hC0⟩ : ∃ C0 : Array Value, (xs.take (i * 5) ++ zs ++ rs).toArray = C0 := ⟨_, rfl⟩
  have hC0' : (xs.take (i * 5)).toArray ++ Builtin.zeroCells (Value.cells (.agg #[.int .i64 0, .int .i64 0, .int .i64 0, .int .i64 0, .int .i64 0])) (n + 1 - i) ++ Builtin.zeroCells (Value.cells (.agg #[.int .i64 0, .int .i64 0, .int .i64 0, .int .i64 0, .int .i64 0])) (cc - (n + 1)) = C0 := by
    rw [← hC0, ← hzs, ← hrs]; simp
  rw [hC0'] at hrun
  obtain ⟨N1, N2, N3⟩ := ins_new xs vs zs rs n i 5 hi hxl hvl hzl
  have hC0s : C0.size = cc * 5 := by rw [← hC0, List.size_toArray]; rw [N3, hrl, ← Nat.add_mul]; congr 1; omega
  obtain ⟨C1, hC1⟩ : ∃ C1 : Array Value, (C0.toList.take (i * 5) ++ vs ++ C0.toList.drop (i * 5 + 5)).toArray = C1 := ⟨_, rfl⟩
  have hC0l : C0.toList = xs.take (i * 5) ++ zs ++ rs := by rw [← hC0]
  have hC1s : C1.size = cc * 5 := by rw [← hC1, List.size_toArray, hC0l, N2, ← hC0l, Array.length_toList, hC0s]
  obtain ⟨C2, hC2⟩ : ∃ C2 : Array Value, (C1.toList.take ((i + 1) * 5) ++ xs.drop (i * 5) ++ C1.toList.drop ((n + 1) * 5)).toArray = C2 := ⟨_, rfl⟩
  have hC2l : C2.toList = xs.take (i * 5) ++ vs ++ xs.drop (i * 5) ++ rs := by rw [← hC2, ← hC1, hC0l]; exact N1
  have hdl : (xs.drop (i * 5)).length = (n - i) * 5 := by rw [List.length_drop, hxl]; omega
  -- the worlds
  obtain ⟨W0, hW0⟩ : ∃ W0, w.drew.alloc (.cells C0 85) = W0 := ⟨_, rfl⟩
  have hW0n : W0.heap[w.heap.size]? = some (.cells C0 85 (0, 0)) := hW0 ▸ heap_alloc_new w.drew _
  have hW0t : Touch [] w W0 := hW0 ▸ (Touch.drew _ _).andThen (Touch.alloc _ _ _)
  rw [hW0] at hrun
  have hin1 : (i + 1) * 5 ≤ (n + 1) * 5 := Nat.mul_le_mul_right _ (by omega)
  have hnc1 : (n + 1) * 5 ≤ cc * 5 := Nat.mul_le_mul_right _ hccge
  have hcp1 : ∀ ty dc, (Builtin.copy_ #[52, 52] ty #[.slice (some ⟨w.heap.size, i * 5, none⟩) (n + 1 - i) dc, .slice (some ⟨vb, 0, none⟩) 1 1]).run Tryz.prog W0 = .ok (goInt (1 : Nat)) (W0.setRow w.heap.size C1) := fun ty dc => by
    have := run_copy_k (P := Tryz.prog) W0 52 52 ty 85 5 w.heap.size (i * 5) (n + 1 - i) dc ⟨vb, 0, none⟩ 1 1 C0 85 vs 1 Tryz.underlying52 insR_size hW0n (by simp only [Nat.min_def]; split <;> omega) (by rw [hvl])
      (fun j u hj => by rw [Addr.add_lit]; unfold World.cell?; rw [show (⟨vb, 0 + j, none⟩ : Addr).block = vb from rfl, hW0t.heap hv (by simp)]; simpa using hj)
      (by rw [hvl, hC0s]; omega) hone
    rw [this, hvl, hC1]
  have hW1n : (W0.setRow w.heap.size C1).drew.heap[w.heap.size]? = some (.cells C1 85 (0, 0)) := setRow_heap _ _ C0 C1 85 _ hW0n
  have hW1g : (W0.setRow w.heap.size C1).drew.heap[g]? = some (.cells cur 85 (0, 0)) := (setRow_other _ _ g C1 (by omega)).trans (hW0t.heap hg (by simp))
  have hcp2 : ∀ ty dc sc, (Builtin.copy_ #[52, 52] ty #[.slice (some ⟨w.heap.size, (i + 1) * 5, none⟩) (n - i) dc, .slice (some ⟨g, i * 5, none⟩) (n - i) sc]).run Tryz.prog (W0.setRow w.heap.size C1).drew = .ok (goInt (n - i : Nat)) ((W0.setRow w.heap.size C1).drew.setRow w.heap.size C2) := fun ty dc sc => by
    have := run_copy_k (P := Tryz.prog) (W0.setRow w.heap.size C1).drew 52 52 ty 85 5 w.heap.size ((i + 1) * 5) (n - i) dc ⟨g, i * 5, none⟩ (n - i) sc C1 85 (xs.drop (i * 5)) (n - i) Tryz.underlying52 insR_size hW1n (by simp only [Nat.min_def]; split <;> omega) hdl
      (fun j u hj => by
        rw [Addr.add_lit]
        rw [List.getElem?_drop] at hj
        exact hcell _ hW1g _ _ hj)
      (by rw [hdl, hC1s, ← Nat.add_mul]; exact Nat.le_trans (Nat.mul_le_mul_right _ (by omega)) hnc1) (fun u hu => honex u (List.mem_of_mem_drop hu))
    rw [this, hdl, show (i + 1) * 5 + (n - i) * 5 = (n + 1) * 5 by rw [← Nat.add_mul]; congr 1; omega, hC2]
  have hfin : Hid (Row ((W0.setRow w.heap.size C1).drew.setRow w.heap.size C2) 85 5 (some ⟨w.heap.size, 0, none⟩) (n + 1) cc (xs.take (i * 5) ++ vs ++ xs.drop (i * 5)) ∧ Touch [] w ((W0.setRow w.heap.size C1).drew.setRow w.heap.size C2)) := Lib.hid (by
    refine ⟨Row.mk (cur := C2) (setRow_heap _ _ C1 C2 85 _ hW1n) hccge hccle ?_ ?_, ?_⟩
    · rw [← Array.length_toList, hC2l]; simp only [List.length_append, htl, hdl, hvl, hrl]
      have h1 : (n - i) * 5 + i * 5 = n * 5 := by rw [← Nat.add_mul]; congr 1; omega
      have h2 : (cc - (n + 1)) * 5 + (n * 5 + 5) = cc * 5 := by rw [← Nat.succ_mul, ← Nat.add_mul]; congr 1; omega
      omega
    · rw [hC2l]
      have h1 : (n - i) * 5 + i * 5 = n * 5 := by rw [← Nat.add_mul]; congr 1; omega
      have h2 : (n + 1) * 5 = n * 5 + 5 := Nat.succ_mul _ _
      rw [List.take_append_of_le_length (by simp only [List.length_append, htl, hdl, hvl]; omega), List.take_of_length_le (by simp only [List.length_append, htl, hdl, hvl]; omega)]
    · exact (hW0t.trans (Touch.setRow (bs := [w.heap.size]) _ _ C1 (by simp)) (by simp)).trans ((Touch.drew _ _).andThen (Touch.setRow (bs := [w.heap.size]) _ _ C2 (by simp))) (by simp))
  have HA : Hid ((Builtin.append_ #[52, 3] 52 #[.slice (some ⟨g, 0, none⟩) i n, .int .i64 ((n : Int) + 1 - i)]).run Tryz.prog w = .ok (.slice (some ⟨w.heap.size, 0, none⟩) (n + 1) cc) W0) := Lib.hid (by rw [show ((n + 1 - i : Nat) : Int) = (n : Int) + 1 - i by omega] at hrun; exact hrun)
  try simp only [Nat.mul_one] at hcp1 hcp2
  have H1 := Lib.hid hcp1
  have H2 := Lib.hid hcp2
  have hb1 : i ≤ n := by omega
  have hb2 : n + 1 ≤ 9223372036854775807 := by omega
  have hb3 : ¬ (n = i) := by omega
  have hb4 : ¬ (cc = i) := by omega
  have hb5 : ¬ (cc = i + 1) := by omega
  have hb6 : cc ≤ 9223372036854775807 := by unfold maxLen at hccle; omega
  clear hrun hcp1 hcp2 hW1n hW1g hW0n hW0t hW0 hC2l hC2 hC1s hC1 hC0l hC0s hC0' hC0 hzl hrl hzs hrs hcell hold N1 N2 N3 hik htl hdl htk hcs hg hv hvl honex hone hcm hxl hz0 hz1 hz2 hi0 hbig hin1 hnc1 hccle
  clear hcc
  have hq1 := fun dc => H1.out 3 dc
  go_enter Tryz.func159, Tryz.ntmps159
  go_wp2_with (at_builtin; refine wpList_appendR _ rfl _ _ 52 3 rfl _ _ rfl rfl HA.out ?_)
  clear hq1
  have hr1 : IntKind.i64.wrap ((i : Int) + 1) = (i : Int) + 1 := by rw [IntKind.wrap_i64]; omega
  have hr2 : (0 : Int) ≤ (i : Int) + 1 := by omega
  have hr3 : ((i : Int) + 1).toNat = i + 1 := by omega
  have hr4 : (i : Int) ≤ (n : Int) + 1 := by omega
  have hr5 : (i : Int) + 1 ≤ (n : Int) + 1 := by omega
  have hq2 := fun dc sc => H2.out 3 dc sc
  go_region
  clear hq2 hr1 hr2 hr3 hr4 hr5
  go_wp2_with fail
  go_ret
  exact ⟨_, _, rfl, hfin.out.1, fun x hx => by simp only [Option.some.injEq] at hx; subst hx; rfl, hfin.out.2⟩

theorem insR_any (a : Option Addr) (n c i vb : Nat) (xs vs : List Value) (w : World) (hr : Row w 85 5 a n c xs) (hv : w.heap[vb]? = some (.cells vs.toArray 85 (0, 0))) (hvl : vs.length = 5) (hne : vb ∉ blkOf a)
    (honex : ∀ u ∈ xs, u.oneCell' = true) (hone : ∀ u ∈ vs, u.oneCell' = true) (hi : i ≤ n) (hbig : (n + 1) * 40 ≤ 140737488355328) :
    Calls Tryz.prog 159 #[.slice a n c, .int .i64 i, .slice (some ⟨vb, 0, none⟩) 1 1] w fun e w' => ∃ a' c', e = .returned (.slice a' (n + 1) c') ∧ Row w' 85 5 a' (n + 1) c' (xs.take (i * 5) ++ vs ++ xs.drop (i * 5)) ∧ Touch (blkOf a) w w' ∧ Fresh w a a' := by
  by_cases hin : i = n
  · subst hin
    have hl := hr.len
    rw [List.take_of_length_le (by omega), List.drop_eq_nil_of_le (by omega), List.append_nil]
    exact insR_end a i c vb xs vs w hr hv hvl hone hbig
  · rcases hr.out with ⟨rfl, rfl, rfl, rfl⟩ | ⟨g, cur, rfl, hg, hnc, hcm, hcs, htk, hxl⟩
    · omega
    · have hneg : vb ≠ g := by simpa [blkOf] using hne
      by_cases hroom : n + 1 ≤ c
      · exact (insR_room g n c i vb cur xs vs w hg hcs hcm htk hv hvl hneg honex hone (by omega) hroom).mono fun e w' ⟨he, h1, h2⟩ => ⟨_, _, he, h1, h2, Fresh.refl _ _⟩
      · obtain rfl : c = n := by omega
        exact (insR_grow g c i vb cur xs vs w hg hcs hcm htk hv hvl honex hone (by omega) hbig).mono fun e w' ⟨a', c', he, h1, h2, h3⟩ => ⟨a', c', he, h1, h3.mono (by simp), fun x hx => .inr (by rw [h2 x hx]; exact Nat.le_refl _)⟩

end Go.Proofs.YtmifgnibalbgjaaGreat
/- The orders of numbers and texts; the search for a write, and for a row of the table. -/
namespace Go.Proofs.YtmifgnibalbgjaaGreat
open Go.RowKit set_option linter.unusedVariables false set_option linter.unusedSimpArgs false
def foundAt {α β : Type} (cmpf : α → β → Int) (l : List α) (t : β) (k : Nat) : Bool := decide (k < l.length ∧ ∃ h : k < l.length, cmpf l[k] t = 0)
theorem foundAt_none {α β : Type} (cmpf : α → β → Int) (l : List α) (t : β) (k : Nat) (h : ¬ k < l.length) : foundAt cmpf l t k = false := decide_eq_false fun h' => h h'.1
theorem foundAt_some {α β : Type} (cmpf : α → β → Int) (l : List α) (t : β) (k : Nat) (h : k < l.length) : foundAt cmpf l t k = (cmpf l[k] t == 0) := by
  unfold foundAt
  rw [Bool.eq_iff_iff]
  simp [h]

set_option maxRecDepth 100000 in
set_option maxHeartbeats 2000000 in
theorem wrote_bsf (cmpf : Wr → ByteArray → Int) (hcmp : ∀ (x : Wr) (t : ByteArray) W, Calls Tryz.prog 133 #[.agg #[.string x.key, .string x.v, .bool x.h], .string t] W fun e W' => e = .returned (.int .i64 (cmpf x t)) ∧ Below W.heap.size W W')
    (a : Option Addr) (n c : Nat) (l : List Wr) (t : ByteArray) (k : Nat) (w : World) (hr : Row w 43 3 a n c (wrFlat l)) (hn : n ≤ 1099511627776) (hk : k ≤ l.length)
    (hlo : ∀ j (h : j < l.length), j < k → cmpf l[j] t < 0) (hhi : ∀ j (h : j < l.length), k ≤ j → 0 ≤ cmpf l[j] t) :
    Calls Tryz.prog 132 #[.slice a n c, .string t, .func (.func 133) #[] #[]] w fun e w' => e = .returned (.tuple #[.int .i64 k, .bool (foundAt cmpf l t k)]) ∧ Below w.heap.size w w' := by
  have hl : n = l.length := by have := hr.len; rw [wrFlat_len] at this; omega
  subst hl
  have HR := Lib.hid hr
  have HC := Lib.hid fun x => hcmp x t
  have HLo := Lib.hid hlo
  have HHi := Lib.hid hhi
  clear hr hcmp hlo hhi
  have hfo : Hid (foundAt cmpf l t k = decide (k < l.length ∧ ∃ h : k < l.length, cmpf l[k] t = 0)) := Lib.hid rfl
  have hfn : Hid (¬ k < l.length → foundAt cmpf l t k = false) := Lib.hid fun h => foundAt_none cmpf l t k h
  have hfs : Hid (∀ h : k < l.length, foundAt cmpf l t k = (cmpf l[k] t == 0)) := Lib.hid fun h => foundAt_some cmpf l t k h
  generalize hfd : foundAt cmpf l t k = fd at *
  clear hfd hfo
  go_enter Tryz.func132, Tryz.ntmps132
  go_wp2_with fail
  go_loopw [9, 10, 11] (fun i j _ wr => ∃ x y : Nat, x ≤ k ∧ k ≤ y ∧ y ≤ l.length ∧ i = .int .i64 x ∧ j = .int .i64 y ∧ Hid (Below w.heap.size w wr)) (fun i j _ _ => ((intOf j) - (intOf i)).toNat)
  case atStart => exact ⟨0, l.length, by omega, hk, Nat.le_refl _, rfl, rfl, Lib.hid (Below.refl _ _)⟩
  case round =>
    obtain ⟨x, y, hx, hy, hyn, rfl, rfl, HB⟩ := hrel
    by_cases hlt : x < y
    · have hm : (((x : Int) + (y : Int)) / 2).toNat = (x + y) / 2 := by omega
      have hml : (x + y) / 2 < l.length := by omega
      obtain ⟨g, rfl, hcs0⟩ := wrAt_row HR.out ((x + y) / 2) hml
      have hcs := hcs0.below HB.out
      clear hcs0
      have hC := HC.out l[(x + y) / 2]
      cases hle : decide (cmpf l[(x + y) / 2] t < 0) with
      | true =>
        have hneg : cmpf l[(x + y) / 2] t < 0 := of_decide_eq_true hle
        have hin : (x + y) / 2 < k := by
          rcases Nat.lt_or_ge ((x + y) / 2) k with h | h
          · exact h
          · have := HHi.out _ hml h; omega
        generalize cmpf l[(x + y) / 2] t = r at *
        generalize l[(x + y) / 2] = z at *
        have HCC := Lib.hid hC
        obtain ⟨zkey, zv, zh⟩ := z
        obtain ⟨hc0, hc1, hc2⟩ := hcs
        simp only at hc0 hc1 hc2
        clear hC hle
        go_wp2_with fail
        refine (HCC.out _).mono ?_
        rintro e w2 ⟨rfl, hb2⟩
        have HB2 := Lib.hid (HB.out.trans (hb2.mono HB.out.size))
        clear hb2
        go_wp2_with fail
        go_roundw
        case rel => exact ⟨(x + y) / 2 + 1, y, by omega, hy, hyn, by congr 1, rfl, HB2⟩
        case measure => simp [intOf]; omega
      | false =>
        have hneg : ¬ cmpf l[(x + y) / 2] t < 0 := of_decide_eq_false hle
        have hin : k ≤ (x + y) / 2 := by
          rcases Nat.lt_or_ge ((x + y) / 2) k with h | h
          · have := HLo.out _ hml h; omega
          · exact h
        generalize cmpf l[(x + y) / 2] t = r at *
        generalize l[(x + y) / 2] = z at *
        have HCC := Lib.hid hC
        obtain ⟨zkey, zv, zh⟩ := z
        obtain ⟨hc0, hc1, hc2⟩ := hcs
        simp only at hc0 hc1 hc2
        clear hC hle
        go_wp2_with fail
        refine (HCC.out _).mono ?_
        rintro e w2 ⟨rfl, hb2⟩
        have HB2 := Lib.hid (HB.out.trans (hb2.mono HB.out.size))
        clear hb2
        go_wp2_with fail
        go_roundw
        case rel => exact ⟨x, (x + y) / 2, hx, hin, by omega, rfl, by congr 1, HB2⟩
        case measure => simp [intOf]; omega
    · obtain rfl : x = k := by omega
      by_cases hkl : x < l.length
      · obtain ⟨g, rfl, hcs0⟩ := wrAt_row HR.out x hkl
        have hF := Lib.hid (hfs.out hkl)
        have hcs := hcs0.below HB.out
        have hC := HC.out l[x]
        clear hcs0
        generalize cmpf l[x] t = r at *
        generalize l[x] = z at *
        have HCC := Lib.hid hC
        obtain ⟨zkey, zv, zh⟩ := z
        obtain ⟨hc0, hc1, hc2⟩ := hcs
        simp only at hc0 hc1 hc2
        clear hC
        have hd : decide ((x : Int) < (l.length : Int)) = true := decide_eq_true (by omega)
        go_wp2_with fail
        refine (HCC.out _).mono ?_
        rintro e w2 ⟨rfl, hb2⟩
        have HB2 := Lib.hid (HB.out.trans (hb2.mono HB.out.size))
        clear hb2
        go_wp2_with fail
        go_ret2
        exact ⟨by rw [hF.out]; first | rfl | simp, HB2.out⟩
      · have hF := Lib.hid (hfn.out hkl)
        have hd : decide ((x : Int) < (l.length : Int)) = false := decide_eq_false (by omega)
        go_wp2_with fail
        go_ret2
        exact ⟨by rw [hF.out]; rfl, HB.out⟩


set_option maxRecDepth 100000 in
set_option maxHeartbeats 2000000 in
theorem rowf_bsf (cmpf : Rw → Int → Int) (hcmp : ∀ (x : Rw) (t : Int) W, Calls Tryz.prog 189 #[.agg #[.int .i64 x.tx, .int .i64 x.att, .int .i64 x.stamp, .int .i64 x.state, .int .i64 x.heard], .int .i64 t] W fun e W' => e = .returned (.int .i64 (cmpf x t)) ∧ Below W.heap.size W W')
    (a : Option Addr) (n c : Nat) (l : List Rw) (t : Int) (k : Nat) (w : World) (hr : Row w 85 5 a n c (rwFlat l)) (hn : n ≤ 1099511627776) (hk : k ≤ l.length)
    (hlo : ∀ j (h : j < l.length), j < k → cmpf l[j] t < 0) (hhi : ∀ j (h : j < l.length), k ≤ j → 0 ≤ cmpf l[j] t) :
    Calls Tryz.prog 188 #[.slice a n c, .int .i64 t, .func (.func 189) #[] #[]] w fun e w' => e = .returned (.tuple #[.int .i64 k, .bool (foundAt cmpf l t k)]) ∧ Below w.heap.size w w' := by
  have hl : n = l.length := by have := hr.len; rw [rwFlat_len] at this; omega
  subst hl
  have HR := Lib.hid hr
  have HC := Lib.hid fun x => hcmp x t
  have HLo := Lib.hid hlo
  have HHi := Lib.hid hhi
  clear hr hcmp hlo hhi
  have hfo : Hid (foundAt cmpf l t k = decide (k < l.length ∧ ∃ h : k < l.length, cmpf l[k] t = 0)) := Lib.hid rfl
  have hfn : Hid (¬ k < l.length → foundAt cmpf l t k = false) := Lib.hid fun h => foundAt_none cmpf l t k h
  have hfs : Hid (∀ h : k < l.length, foundAt cmpf l t k = (cmpf l[k] t == 0)) := Lib.hid fun h => foundAt_some cmpf l t k h
  generalize hfd : foundAt cmpf l t k = fd at *
  clear hfd hfo
  go_enter Tryz.func188, Tryz.ntmps188
  go_wp2_with fail
  go_loopw [9, 10, 11] (fun i j _ wr => ∃ x y : Nat, x ≤ k ∧ k ≤ y ∧ y ≤ l.length ∧ i = .int .i64 x ∧ j = .int .i64 y ∧ Hid (Below w.heap.size w wr)) (fun i j _ _ => ((intOf j) - (intOf i)).toNat)
  case atStart => exact ⟨0, l.length, by omega, hk, Nat.le_refl _, rfl, rfl, Lib.hid (Below.refl _ _)⟩
  case round =>
    obtain ⟨x, y, hx, hy, hyn, rfl, rfl, HB⟩ := hrel
    by_cases hlt : x < y
    · have hm : (((x : Int) + (y : Int)) / 2).toNat = (x + y) / 2 := by omega
      have hml : (x + y) / 2 < l.length := by omega
      obtain ⟨g, rfl, hcs0⟩ := rwAt_row HR.out ((x + y) / 2) hml
      have hcs := hcs0.below HB.out
      clear hcs0
      have hC := HC.out l[(x + y) / 2]
      cases hle : decide (cmpf l[(x + y) / 2] t < 0) with
      | true =>
        have hneg : cmpf l[(x + y) / 2] t < 0 := of_decide_eq_true hle
        have hin : (x + y) / 2 < k := by
          rcases Nat.lt_or_ge ((x + y) / 2) k with h | h
          · exact h
          · have := HHi.out _ hml h; omega
        generalize cmpf l[(x + y) / 2] t = r at *
        generalize l[(x + y) / 2] = z at *
        have HCC := Lib.hid hC
        obtain ⟨ztx, zatt, zstamp, zstate, zheard⟩ := z
        obtain ⟨hc0, hc1, hc2, hc3, hc4⟩ := hcs
        simp only at hc0 hc1 hc2 hc3 hc4
        clear hC hle
        go_wp2_with fail
        refine (HCC.out _).mono ?_
        rintro e w2 ⟨rfl, hb2⟩
        have HB2 := Lib.hid (HB.out.trans (hb2.mono HB.out.size))
        clear hb2
        go_wp2_with fail
        go_roundw
        case rel => exact ⟨(x + y) / 2 + 1, y, by omega, hy, hyn, by congr 1, rfl, HB2⟩
        case measure => simp [intOf]; omega
      | false =>
        have hneg : ¬ cmpf l[(x + y) / 2] t < 0 := of_decide_eq_false hle
        have hin : k ≤ (x + y) / 2 := by
          rcases Nat.lt_or_ge ((x + y) / 2) k with h | h
          · have := HLo.out _ hml h; omega
          · exact h
        generalize cmpf l[(x + y) / 2] t = r at *
        generalize l[(x + y) / 2] = z at *
        have HCC := Lib.hid hC
        obtain ⟨ztx, zatt, zstamp, zstate, zheard⟩ := z
        obtain ⟨hc0, hc1, hc2, hc3, hc4⟩ := hcs
        simp only at hc0 hc1 hc2 hc3 hc4
        clear hC hle
        go_wp2_with fail
        refine (HCC.out _).mono ?_
        rintro e w2 ⟨rfl, hb2⟩
        have HB2 := Lib.hid (HB.out.trans (hb2.mono HB.out.size))
        clear hb2
        go_wp2_with fail
        go_roundw
        case rel => exact ⟨x, (x + y) / 2, hx, hin, by omega, rfl, by congr 1, HB2⟩
        case measure => simp [intOf]; omega
    · obtain rfl : x = k := by omega
      by_cases hkl : x < l.length
      · obtain ⟨g, rfl, hcs0⟩ := rwAt_row HR.out x hkl
        have hF := Lib.hid (hfs.out hkl)
        have hcs := hcs0.below HB.out
        have hC := HC.out l[x]
        clear hcs0
        generalize cmpf l[x] t = r at *
        generalize l[x] = z at *
        have HCC := Lib.hid hC
        obtain ⟨ztx, zatt, zstamp, zstate, zheard⟩ := z
        obtain ⟨hc0, hc1, hc2, hc3, hc4⟩ := hcs
        simp only at hc0 hc1 hc2 hc3 hc4
        clear hC
        have hd : decide ((x : Int) < (l.length : Int)) = true := decide_eq_true (by omega)
        go_wp2_with fail
        refine (HCC.out _).mono ?_
        rintro e w2 ⟨rfl, hb2⟩
        have HB2 := Lib.hid (HB.out.trans (hb2.mono HB.out.size))
        clear hb2
        go_wp2_with fail
        go_ret2
        exact ⟨by rw [hF.out]; first | rfl | simp, HB2.out⟩
      · have hF := Lib.hid (hfn.out hkl)
        have hd : decide ((x : Int) < (l.length : Int)) = false := decide_eq_false (by omega)
        go_wp2_with fail
        go_ret2
        exact ⟨by rw [hF.out]; rfl, HB.out⟩

def cmpI (a b : Int) : Int := if a < b then -1 else if b < a then 1 else 0
theorem cmpI_cases (a b : Int) : (a < b ∧ cmpI a b = -1) ∨ (b < a ∧ cmpI a b = 1) ∨ (a = b ∧ cmpI a b = 0) := by
  unfold cmpI; split
  · exact Or.inl ⟨by assumption, rfl⟩
  · split
    · exact Or.inr (Or.inl ⟨by assumption, rfl⟩)
    · exact Or.inr (Or.inr ⟨by omega, rfl⟩)
set_option maxHeartbeats 400000 in
theorem isnan_int (a : Int) (w : World) : Calls Tryz.prog 190 #[.int .i64 a] w fun e w' => e = .returned (.bool false) ∧ w = w' := by
  go_enter Tryz.func190, Tryz.ntmps190
  go_wp2_with fail
  go_ret
  exact ⟨by simp, rfl⟩
set_option maxHeartbeats 400000 in
theorem compare_int (a b : Int) (w : World) : Calls Tryz.prog 158 #[.int .i64 a, .int .i64 b] w fun e w' => e = .returned (.int .i64 (cmpI a b)) ∧ w = w' := by
  have h0 := cmpI_cases a b
  generalize cmpI a b = r at *
  go_enter Tryz.func158, Tryz.ntmps158
  go_wp2_with fail
  refine (isnan_int a _).mono ?_
  rintro e w1 ⟨rfl, rfl⟩
  go_wp2_with fail
  refine (isnan_int b _).mono ?_
  rintro e w1 ⟨rfl, rfl⟩
  rcases h0 with ⟨h1, rfl⟩ | ⟨h1, rfl⟩ | ⟨rfl, rfl⟩
  · go_wp2_with fail
    go_ret
    exact ⟨rfl, rfl⟩
  · have h2 : ¬ a < b := by omega
    go_wp2_with fail
    go_ret
    exact ⟨rfl, rfl⟩
  · go_wp2_with fail
    go_ret
    exact ⟨rfl, rfl⟩

/-- texts in their order. -/
def ltS (a b : ByteArray) : Bool := Op.bytesLess a.toList b.toList
def cmpS (a b : ByteArray) : Int := if ltS a b then -1 else if ltS b a then 1 else 0
theorem ltS_iff (a b : ByteArray) : ltS a b = true ↔ a.toList < b.toList := by
  unfold ltS; rw [Go.Proofs.bytesLess_eq]; simp
theorem toList_inj {s t : ByteArray} (h : s.toList = t.toList) : s = t := (Lib.bytes_beq_iff s t).1 (beq_iff_eq.2 h)
theorem ltS_irrefl (a : ByteArray) : ltS a a = false := by
  cases h : ltS a a with
  | false => rfl
  | true => exact absurd ((ltS_iff a a).1 h) (Std.lt_irrefl)
theorem ltS_trans {a b c : ByteArray} (h : ltS a b = true) (k : ltS b c = true) : ltS a c = true := (ltS_iff a c).2 (Std.lt_trans ((ltS_iff a b).1 h) ((ltS_iff b c).1 k))
theorem ltS_asymm {a b : ByteArray} (h : ltS a b = true) : ltS b a = false := by
  cases k : ltS b a with
  | false => rfl
  | true => have := ltS_trans h k; rw [ltS_irrefl] at this; cases this
theorem ltS_total (a b : ByteArray) : ltS a b = true ∨ ltS b a = true ∨ a = b := by
  by_cases h : ltS a b = true
  · exact .inl h
  · by_cases e : a = b
    · exact .inr (.inr e)
    · refine .inr (.inl ((ltS_iff b a).2 ?_))
      have h1 : ¬ a.toList < b.toList := fun hl => h ((ltS_iff a b).2 hl)
      exact Std.lt_of_le_of_ne (List.not_lt.1 h1) fun hh => e (toList_inj hh.symm)
theorem cmpS_cases (a b : ByteArray) : (ltS a b = true ∧ cmpS a b = -1) ∨ (ltS a b = false ∧ ltS b a = true ∧ cmpS a b = 1) ∨ (ltS a b = false ∧ ltS b a = false ∧ a = b ∧ cmpS a b = 0) := by
  unfold cmpS
  cases h : ltS a b with
  | true => exact .inl ⟨rfl, rfl⟩
  | false =>
    cases k : ltS b a with
    | true => exact .inr (.inl ⟨rfl, rfl, rfl⟩)
    | false =>
      rcases ltS_total a b with h' | h' | h'
      · rw [h] at h'; cases h'
      · rw [k] at h'; cases h'
      · exact .inr (.inr ⟨rfl, rfl, h', rfl⟩)
set_option maxHeartbeats 400000 in
theorem isnan_str (a : ByteArray) (w : World) : Calls Tryz.prog 164 #[.string a] w fun e w' => e = .returned (.bool false) ∧ w = w' := by
  go_enter Tryz.func164, Tryz.ntmps164
  go_wp2_with fail
  go_ret
  exact ⟨by simp, rfl⟩
set_option maxHeartbeats 400000 in
theorem compare_str (a b : ByteArray) (w : World) : Calls Tryz.prog 134 #[.string a, .string b] w fun e w' => e = .returned (.int .i64 (cmpS a b)) ∧ w = w' := by
  have h0 := cmpS_cases a b
  generalize cmpS a b = r at *
  go_enter Tryz.func134, Tryz.ntmps134
  go_wp2_with fail
  refine (isnan_str a _).mono ?_
  rintro e w1 ⟨rfl, rfl⟩
  go_wp2_with fail
  refine (isnan_str b _).mono ?_
  rintro e w1 ⟨rfl, rfl⟩
  rcases h0 with ⟨h1, rfl⟩ | ⟨h1, h2, rfl⟩ | ⟨h1, h2, rfl, rfl⟩
  · unfold ltS at h1
    go_wp2_with fail
    go_ret
    exact ⟨rfl, rfl⟩
  · have hne : (a.toList == b.toList) = false := by
      rw [beq_eq_false_iff_ne]
      intro e
      obtain rfl := toList_inj e
      rw [ltS_irrefl] at h2; cases h2
    unfold ltS at h1 h2
    go_wp2_with fail
    go_ret
    exact ⟨rfl, rfl⟩
  · unfold ltS at h1
    go_wp2_with fail
    go_ret
    exact ⟨rfl, rfl⟩

set_option maxHeartbeats 800000 in
theorem wrote1_any (x : Wr) (t : ByteArray) (w : World) : Calls Tryz.prog 133 #[.agg #[.string x.key, .string x.v, .bool x.h], .string t] w fun e w' => e = .returned (.int .i64 (cmpS x.key t)) ∧ Below w.heap.size w w' := by
  obtain ⟨xk, xv, xh⟩ := x
  simp only
  go_enter Tryz.func133, Tryz.ntmps133
  go_wp2_with fail
  refine (compare_str xk t _).mono ?_
  rintro e w1 ⟨rfl, rfl⟩
  go_wp2_with fail
  go_ret
  exact ⟨rfl, Below.alloc (Below.refl _ _) (Nat.le_refl _) _⟩
set_option maxHeartbeats 800000 in
theorem rowf1_any (x : Rw) (t : Int) (w : World) : Calls Tryz.prog 189 #[.agg #[.int .i64 x.tx, .int .i64 x.att, .int .i64 x.stamp, .int .i64 x.state, .int .i64 x.heard], .int .i64 t] w fun e w' => e = .returned (.int .i64 (cmpI x.tx t)) ∧ Below w.heap.size w w' := by
  obtain ⟨x1, x2, x3, x4, x5⟩ := x
  simp only
  go_enter Tryz.func189, Tryz.ntmps189
  go_wp2_with fail
  refine (compare_int x1 t _).mono ?_
  rintro e w1 ⟨rfl, rfl⟩
  go_wp2_with fail
  go_ret
  exact ⟨rfl, Below.alloc (Below.refl _ _) (Nat.le_refl _) _⟩
end Go.Proofs.YtmifgnibalbgjaaGreat
