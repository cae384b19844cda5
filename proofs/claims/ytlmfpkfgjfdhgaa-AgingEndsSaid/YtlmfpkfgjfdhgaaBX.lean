/- AgingEnds: the keys that are wanted. -/
import Derived.Test.YtlmfpkfgjfdhgaaBW
import Derived.Test.YtlmfpkfgjfdhgaaBV
import Derived.Laws.IdiomStrings
namespace Go.Proofs.Ytlmfpkfgjfdhgaa
open Go.RowKit

def kyE (c : Int) : ByteArray := ⟨#[107, UInt8.ofNat (97 + c % 4).toNat]⟩
theorem key_conv (W : World) (c : Int) (h0 : 0 ≤ c) : (convert 66 9 (.slice (some ⟨W.heap.size, 0, none⟩) 2 2)).run Try.prog (W.alloc (.cells #[.int .u8 107, .int .u8 (97 + c % 4)] 5)) = .ok (.string (kyE c)) (W.alloc (.cells #[.int .u8 107, .int .u8 (97 + c % 4)] 5)) := by
  have hh := heap_new W (.cells #[.int .u8 107, .int .u8 (97 + c % 4)] 5)
  refine run_convert_bytes_back (P := Try.prog) _ 66 9 5 ⟨W.heap.size, 0, none⟩ 2 [107, UInt8.ofNat (97 + c % 4).toNat] Try.underlying66 Try.underlying5 Try.underlying9 fun j hj => ?_
  have hb : 0 ≤ c % 4 ∧ c % 4 < 4 := ⟨Int.emod_nonneg _ (by decide), Int.emod_lt_of_pos _ (by decide)⟩
  match j, hj with
  | 0, _ => exact (cell_of_heap (i := 0) hh rfl).1
  | 1, _ =>
    have h1 := (cell_of_heap (i := 1) hh rfl).1
    have e : ((UInt8.ofNat (97 + c % 4).toNat).toNat : Int) = 97 + c % 4 := by
      rw [UInt8.toNat_ofNat']; omega
    show (W.alloc _).cell? ⟨W.heap.size, 0 + 1, none⟩ = some (.int .u8 ((UInt8.ofNat (97 + c % 4).toNat).toNat : Int))
    rw [e]; exact h1
theorem kyE_size (c : Int) : (kyE c).size = 2 := rfl
def KSE : List ByteArray := [kyE 0, kyE 1, kyE 2, kyE 3]
theorem kyE_mem (c : Int) : kyE c ∈ KSE := by
  have hb : 0 ≤ c % 4 ∧ c % 4 < 4 := ⟨Int.emod_nonneg _ (by decide), Int.emod_lt_of_pos _ (by decide)⟩
  have h : c % 4 = 0 ∨ c % 4 = 1 ∨ c % 4 = 2 ∨ c % 4 = 3 := by omega
  have hk : ∀ d : Int, c % 4 = d % 4 → kyE c = kyE d := fun d e => by unfold kyE; rw [e]
  unfold KSE
  rcases h with h | h | h | h
  · rw [hk 0 (by rw [h]; rfl)]; simp
  · rw [hk 1 (by rw [h]; rfl)]; simp
  · rw [hk 2 (by rw [h]; rfl)]; simp
  · rw [hk 3 (by rw [h]; rfl)]; simp
/-- the lists that are wanted, as keys. -/
def WE (ws : List (List Int)) (i : Nat) : List ByteArray := (ws[i]?.getD []).map kyE
theorem WE_at {ws : List (List Int)} {i : Nat} (h : i < ws.length) : WE ws i = ws[i].map kyE := by unfold WE; simp [h]
theorem WE_ok (ws : List (List Int)) : WOk ws.length (WE ws) KSE :=
  ⟨fun i hi k hk => by
    rw [WE_at hi] at hk
    obtain ⟨c, -, rfl⟩ := List.mem_map.1 hk
    exact ⟨kyE_mem c, by rw [kyE_size]; decide⟩, by decide⟩
theorem WE_four {ws : List (List Int)} (h : ∀ w ∈ ws, w.length ≤ 4) : ∀ i < ws.length, (WE ws i).length ≤ 4 := fun i hi => by
  rw [WE_at hi, List.length_map]; exact h _ (List.getElem_mem hi)
end Go.Proofs.Ytlmfpkfgjfdhgaa
