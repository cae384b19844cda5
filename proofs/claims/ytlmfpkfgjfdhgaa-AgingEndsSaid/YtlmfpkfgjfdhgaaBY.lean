/- AgingEnds: what is had, and who is over, in memory. -/
import Derived.Test.YtlmfpkfgjfdhgaaBX
import Derived.Test.YtlmfpkfgjfdhgaaAF
import Derived.Test.YtlmfpkfgjfdhgaaMem2
import Derived.Deep.OwnRows
import Derived.Laws.OwnMore
namespace Go.Proofs.Ytlmfpkfgjfdhgaa
open Go.RowKit

/-- a list of n numbers. -/
def natRow (n : Nat) (f : Nat → Nat) : List Value := (List.range n).map fun j => .int .i64 (f j : Nat)
theorem natRow_len (n : Nat) (f : Nat → Nat) : (natRow n f).length = n := by unfold natRow; simp
theorem natRow_at (n : Nat) (f : Nat → Nat) {i : Nat} (h : i < n) (h' : i < (natRow n f).length) : (natRow n f)[i] = .int .i64 (f i : Nat) := by simp [natRow]
theorem natRow_set (n : Nat) (f : Nat → Nat) (i v : Nat) : (natRow n f).set i (.int .i64 (v : Nat)) = natRow n (upd f i v) := by
  apply List.ext_getElem
  · simp [natRow]
  · intro j h1 h2
    have hj : j < n := by simpa [natRow] using h2
    rw [List.getElem_set, natRow_at n (upd f i v) hj]
    split
    · rename_i e; subst e; rw [upd_eq]
    · rename_i e
      rw [natRow_at n f hj, upd_ne f v (fun e' => e e'.symm)]
def ovN (o : Nat → Bool) (j : Nat) : Nat := if o j then 1 else 0
theorem ovN_upd (o : Nat → Bool) (i : Nat) : upd (ovN o) i 1 = ovN (upd o i true) := by
  funext j
  unfold ovN upd
  split <;> simp_all
theorem mem_made {w0 w : World} {D0 : List Nat} {l : List Asn} [Stables l] (h : Mem w0 D0 w l) (n : Nat) (hn : n ≤ 1000) : Mem w0 D0 (w.alloc (.cells (madeCells #[.int .i64 0] n) 3)) (RowA 3 1 (some ⟨w.heap.size, 0, none⟩) n n (natRow n fun _ => 0) :: l) :=
  h.new (bel_new w _) (As := [RowA 3 1 (some ⟨w.heap.size, 0, none⟩) n n (natRow n fun _ => 0)]) (all_one ⟨rfl, Row.mk (heap_new w _) (Nat.le_refl _) (by unfold maxLen; omega) (by rw [size_madeCells, Nat.mul_one]) (by
    rw [toList_madeCells_one, Nat.mul_one, List.take_of_length_le (by simp)]
    apply List.ext_getElem
    · simp [natRow]
    · intro j h1 h2
      simp [natRow])⟩) (by simp [blkOf])
end Go.Proofs.Ytlmfpkfgjfdhgaa
