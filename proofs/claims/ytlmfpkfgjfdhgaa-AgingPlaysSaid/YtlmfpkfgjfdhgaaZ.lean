/- Ask keeps what holds. -/
import Derived.Test.YtlmfpkfgjfdhgaaY
namespace Go.Proofs.Ytlmfpkfgjfdhgaa
open Go.RowKit

theorem insK_sort {K : List Lk} (hs : SortK K) (t : Lk) (hh : hasK K t.key = false) : SortK (insAt K (posK K t.key) t) :=
  insAt_sort hs (fun j h hj => posK_lt _ j h hj) fun j h hj => by
    have h1 := posK_ge hs t.key j h hj
    rcases cmpS_cases K[j].key t.key with ⟨h2, _⟩ | ⟨_, h2, _⟩ | ⟨_, _, h2, _⟩
    · rw [h1] at h2; cases h2
    · exact h2
    · have : hasK K t.key = true := List.any_eq_true.2 ⟨_, List.getElem_mem h, by simpa using h2⟩
      rw [hh] at this; cases this
theorem giveT_len {wd : Bool} {M : List Mb} {K : List Lk} {key : ByteArray} : (giveT wd M K key).2.length ≤ K.length := by
  unfold giveT
  split
  · exact List.length_eraseIdx_le _ _
  · simp
theorem gives_len {wd : Bool} : ∀ (ks : List ByteArray) (s : List Mb × List Lk), (gives wd s ks).2.length ≤ s.2.length
  | [], _ => Nat.le_refl _
  | k :: r, s => Nat.le_trans (gives_len (wd := wd) r (giveT wd s.1 s.2 k)) giveT_len
theorem losesT_len {wd : Bool} {M : List Mb} {K : List Lk} {id : Int} : (losesT wd M K id).2.length ≤ K.length := by
  unfold losesT; exact gives_len _ _
theorem leaveT_len {wd : Bool} {M : List Mb} {K : List Lk} {id : Int} : (leaveT wd M K id).2.2.length ≤ K.length := by
  unfold leaveT
  split
  · exact losesT_len
  · exact Nat.le_refl _
theorem askT_len {wd : Bool} {M : List Mb} {K : List Lk} {id : Int} {key : ByteArray} : (askT wd M K id key).2.2.length ≤ K.length + 1 := by
  unfold askT
  split
  · exact Nat.le_succ _
  split
  · exact Nat.le_succ _
  split
  · exact Nat.le_succ _
  split
  · have hle : posK K key ≤ K.length := posBy_le _ _
    show (insAt K (posK K key) _).length ≤ _
    rw [insAt_len hle]; exact Nat.le_refl _
  split
  · exact Nat.le_succ _
  split
  · split
    · exact Nat.le_trans losesT_len (Nat.le_succ _)
    · exact Nat.le_succ _
  · split
    · exact Nat.le_succ _
    · exact Nat.le_trans losesT_len (Nat.le_succ _)
theorem askT_ok {wd : Bool} {M : List Mb} {K : List Lk} {id : Int} {key : ByteArray} (h : TOk M K) (hb : K.length < 100000) : TOk (askT wd M K id key).2.1 (askT wd M K id key).2.2 := by
  unfold askT
  split
  · exact h
  split
  · exact h
  split
  · exact h
  split
  · rename_i hk
    have hle : posK K key ≤ K.length := posBy_le _ _
    exact ⟨h.sm, insK_sort h.sk ⟨key, id⟩ hk, h.fm, by show (insAt K (posK K key) _).length ≤ _; rw [insAt_len hle]; omega⟩
  split
  · exact h
  split
  · split
    · exact losesT_ok (waitT_ok h)
    · exact waitT_ok h
  · split
    · exact waitT_ok h
    · exact losesT_ok h
end Go.Proofs.Ytlmfpkfgjfdhgaa
