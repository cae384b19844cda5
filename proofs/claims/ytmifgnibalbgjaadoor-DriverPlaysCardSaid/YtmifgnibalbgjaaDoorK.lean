/- Plain facts and words that the walks of this seat share: what is kept, what a slice of texts holds, and the order of texts. -/
import Derived.WalkKit
import Derived.WalkSpells
import Derived.WalkLawsBesides
import Derived.Lib.Hide
import Derived.Sort.Walk0
import Derived.Lib.SlicesS
namespace Go.Proofs.YtmifgnibalbgjaaDoor
open Go.RowKit

/-- Nothing that was there has turned. -/
def Keep (w w' : World) : Prop := Below w.heap.size w w'
theorem Keep.refl (w : World) : Keep w w := Below.refl _ _
theorem Keep.trans {a b c : World} (h : Keep a b) (k : Keep b c) : Keep a c := Below.trans h (Below.mono k h.size)
theorem Keep.drewN (w : World) (n : Nat) : Keep w (w.drewN n) := ⟨rfl, rfl, rfl, Nat.le_refl _, fun _ _ => rfl⟩
theorem Keep.drew (w : World) : Keep w w.drew := ⟨rfl, rfl, rfl, Nat.le_refl _, fun _ _ => rfl⟩
theorem Keep.alloc (w : World) (o : Obj) : Keep w (w.alloc o) := Below.alloc (Below.refl _ _) (Nat.le_refl _) o
theorem Keep.cell {w w' : World} (h : Keep w w') {p : Addr} {v : Value} (hp : w.cell? p = some v) : w'.cell? p = some v := by
  rw [Below.cell h (World.block_lt_of_cell? w p hp)]; exact hp
theorem Keep.size {w w' : World} (h : Keep w w') : w.heap.size ≤ w'.heap.size := Below.size h

/-- The slice at a, n long, holds these texts. -/
def StrsAt (w : World) (a : Option Addr) (n : Nat) (ss : List ByteArray) : Prop :=
  n = ss.length ∧ ∀ j, j < n → ∃ b off, a = some ⟨b, off, none⟩ ∧ w.cell? ⟨b, off + j, none⟩ = some (.string (ss.getD j ByteArray.empty))
theorem StrsAt.keep {w w' : World} {a : Option Addr} {n : Nat} {ss : List ByteArray} (h : StrsAt w a n ss) (k : Keep w w') : StrsAt w' a n ss :=
  ⟨h.1, fun j hj => let ⟨b, off, e, hc⟩ := h.2 j hj; ⟨b, off, e, k.cell hc⟩⟩
theorem strsAt_of_owns {w : World} {B E : Nat} {v : Value} {n : Nat} {ss : List ByteArray} (h : w.ownsRow B E 1 v n (ss.map Value.string)) : ∃ a c, v = .slice a n c ∧ StrsAt w a n ss := by
  obtain ⟨hl, h | ⟨g, cap, cur, rfl, _, hg, hnc, hcm, hcs, htk⟩⟩ := h
  · obtain ⟨rfl, rfl⟩ := h
    exact ⟨none, 0, rfl, by simpa using hl.symm, fun j hj => absurd hj (by omega)⟩
  · have hl' : n = ss.length := by simpa using hl.symm
    refine ⟨_, cap, rfl, hl', fun j hj => ⟨g, 0, rfl, ?_⟩⟩
    have h1 : (cur.toList.take (n * 1))[j]? = some (Value.string (ss.getD j ByteArray.empty)) := by
      rw [htk]; simp [List.getD, show j < ss.length by omega]
    rw [List.getElem?_take, if_pos (by omega)] at h1
    simp only [World.cell?, hg]
    simpa using h1

theorem cell_new1 (w : World) (v : Value) (t : TypeId) : (w.alloc (.cells #[v] t)).cell? ⟨w.heap.size, 0, none⟩ = some v := by
  unfold World.cell?; rw [show (⟨w.heap.size, 0, none⟩ : Addr).block = w.heap.size from rfl, heap_alloc_new]; rfl
/-- The order of texts. -/
theorem less_iff (x y : List UInt8) : Op.bytesLess x y = decide (x < y) := Go.Proofs.bytesLess_eq x y
theorem lt_of_not_lt {x y : List UInt8} (h : ¬ x < y) (hne : x ≠ y) : y < x :=
  Std.lt_of_le_of_ne (List.not_lt.1 h) (fun e => hne e.symm)
theorem toList_inj {s t : ByteArray} (h : s.toList = t.toList) : s = t := (Lib.bytes_beq_iff s t).1 (beq_iff_eq.2 h)
/-- s ≤ t as the walk spells it. -/
def leStr (s t : ByteArray) : Bool := Op.bytesLess s.toList t.toList || s.toList == t.toList
theorem leStr_iff (s t : ByteArray) : leStr s t = !(Op.bytesLess t.toList s.toList) := by
  unfold leStr
  rw [less_iff, less_iff]
  by_cases h : s.toList < t.toList
  · simp [h, Std.not_gt_of_lt h]
  · by_cases e : s.toList = t.toList
    · simp [e, Std.lt_irrefl]
    · simp [h, e, lt_of_not_lt h e]
end Go.Proofs.YtmifgnibalbgjaaDoor

