/- Each lock's holder is a member. -/
import Derived.Test.YtlmfpkfgjfdhgaaW
namespace Go.Proofs.Ytlmfpkfgjfdhgaa
open Go.RowKit

abbrev HoldOk (M : List Mb) (K : List Lk) : Prop := ∀ l ∈ K, hasM M l.holder = true
theorem mem_modify' {α : Type} {l : List α} {q : Nat} {f : α → α} {y : α} (h : y ∈ l.modify q f) : y ∈ l ∨ ∃ x, l[q]? = some x ∧ y = f x := by
  obtain ⟨j, hj, rfl⟩ := List.getElem_of_mem h
  rw [List.length_modify] at hj
  rw [List.getElem_modify]
  split
  · rename_i e; subst e; exact .inr ⟨_, List.getElem?_eq_getElem hj, rfl⟩
  · exact .inl (List.getElem_mem hj)
theorem hasM_mono {M M' : List Mb} (h : ∀ m ∈ M, ∃ m' ∈ M', m'.id = m.id) {id : Int} (hh : hasM M id = true) : hasM M' id = true := by
  obtain ⟨m, hm, e⟩ := List.any_eq_true.1 hh
  obtain ⟨m', hm', e'⟩ := h m hm
  exact List.any_eq_true.2 ⟨m', hm', by rw [e']; exact e⟩
theorem giveT_hold {wd : Bool} {M : List Mb} {K : List Lk} {key : ByteArray} (h : HoldOk M K) : HoldOk (giveT wd M K key).1 (giveT wd M K key).2 := by
  intro l hl
  rw [hasM_ids (giveT_ids wd M K key)]
  unfold giveT at hl
  split at hl
  · exact h l (List.mem_of_mem_eraseIdx hl)
  · rename_i x0 r hw
    rcases mem_modify' hl with h1 | ⟨x, _, rfl⟩
    · exact h l h1
    · have hpm : pickM wd x0 r ∈ M := (List.mem_filter.1 (by rw [show (M.filter fun t => t.waits && t.key.toList == key.toList) = x0 :: r from hw]; exact pick_mem wd x0 r)).1
      exact hasM_mem hpm
theorem gives_hold {wd : Bool} : ∀ (ks : List ByteArray) (s : List Mb × List Lk), HoldOk s.1 s.2 → HoldOk (gives wd s ks).1 (gives wd s ks).2
  | [], _, h => h
  | k :: r, s, h => gives_hold (wd := wd) r (giveT wd s.1 s.2 k) (giveT_hold h)
theorem losesT_hold {wd : Bool} {M : List Mb} {K : List Lk} {id : Int} (h : HoldOk M K) : HoldOk (losesT wd M K id).1 (losesT wd M K id).2 := by
  unfold losesT
  exact gives_hold _ _ fun l hl => by rw [hasM_ids (restM_ids M id)]; exact h l hl
theorem waitT_hold {M : List Mb} {K : List Lk} {id : Int} {key : ByteArray} (h : HoldOk M K) : HoldOk (waitT M id key) K := fun l hl => by
  rw [hasM_ids (waitT_ids ..)]; exact h l hl
theorem joinT_hold {M : List Mb} {K : List Lk} {id stamp : Int} (h : HoldOk M K) : HoldOk (joinT M id stamp).2 K := by
  unfold joinT
  split
  · exact h
  · split
    · exact h
    · split
      · exact h
      · exact fun l hl => hasM_mono (fun m hm => ⟨m, mem_insAt.2 (.inr hm), rfl⟩) (h l hl)
theorem askT_hold {wd : Bool} {M : List Mb} {K : List Lk} {id : Int} {key : ByteArray} (h : HoldOk M K) : HoldOk (askT wd M K id key).2.1 (askT wd M K id key).2.2 := by
  unfold askT
  split
  · exact h
  split
  · exact h
  rename_i hh
  split
  · exact h
  split
  · intro l hl
    rcases mem_insAt.1 hl with rfl | hl
    · simpa using hh
    · exact h l hl
  split
  · exact h
  split
  · split
    · exact losesT_hold (waitT_hold h)
    · exact waitT_hold h
  · split
    · exact waitT_hold h
    · exact losesT_hold h
end Go.Proofs.Ytlmfpkfgjfdhgaa
