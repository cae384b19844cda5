/- Who left holds nothing. -/
import Derived.Test.YtlmfpkfgjfdhgaaX
namespace Go.Proofs.Ytlmfpkfgjfdhgaa
open Go.RowKit

abbrev Rests (M : List Mb) (id : Int) : Prop := ∀ m ∈ M, m.id = id → m.waits = false
theorem pw_inj {α : Type} {R : α → α → Prop} {l : List α} (hs : l.Pairwise R) (hir : ∀ a b, R a b → a ≠ b) {i j : Nat} (hi : i < l.length) (hj : j < l.length) (f : α → Int) (hf : ∀ a b, R a b → f a ≠ f b) (e : f l[i] = f l[j]) : i = j := by
  rcases Nat.lt_trichotomy i j with h | h | h
  · exact absurd e (hf _ _ (List.pairwise_iff_getElem.1 hs i j hi hj h))
  · exact h
  · exact absurd e.symm (hf _ _ (List.pairwise_iff_getElem.1 hs j i hj hi h))
theorem sortM_inj {M : List Mb} (hs : SortM M) {i j : Nat} (hi : i < M.length) (hj : j < M.length) (e : M[i].id = M[j].id) : i = j := by
  rcases Nat.lt_trichotomy i j with h | h | h
  · have := List.pairwise_iff_getElem.1 hs i j hi hj h; omega
  · exact h
  · have := List.pairwise_iff_getElem.1 hs j i hj hi h; omega
theorem sortK_inj {K : List Lk} (hs : SortK K) {i j : Nat} (hi : i < K.length) (hj : j < K.length) (e : K[i].key = K[j].key) : i = j := by
  rcases Nat.lt_trichotomy i j with h | h | h
  · have := List.pairwise_iff_getElem.1 hs i j hi hj h; rw [e, ltS_irrefl] at this; cases this
  · exact h
  · have := List.pairwise_iff_getElem.1 hs j i hj hi h; rw [e, ltS_irrefl] at this; cases this
theorem restM_rests {M : List Mb} {id : Int} (hs : SortM M) (hh : hasM M id = true) : Rests (restM M id) id := by
  obtain ⟨hl, he⟩ := (hasM_iff hs id).1 hh
  intro m hm e
  unfold restM at hm
  obtain ⟨j, hj, rfl⟩ := List.getElem_of_mem hm
  rw [List.length_modify] at hj
  rw [List.getElem_modify] at e ⊢
  split
  · rfl
  · rename_i hne
    rw [if_neg hne] at e
    exact absurd (sortM_inj hs hl hj (he.trans e.symm)) hne
theorem giveT_rests {wd : Bool} {M : List Mb} {K : List Lk} {key : ByteArray} {id : Int} (h : Rests M id) : Rests (giveT wd M K key).1 id := by
  unfold giveT
  split
  · exact h
  · intro m hm e
    rcases mem_modify' hm with h1 | ⟨x, _, rfl⟩
    · exact h m h1 e
    · rfl
theorem giveT_free {wd : Bool} {M : List Mb} {K : List Lk} {key : ByteArray} {id : Int} (hs : SortK K) (hk : hasK K key = true) (h : Rests M id) (l : Lk) (hl : l ∈ (giveT wd M K key).2) (he : l.holder = id) : l ∈ K ∧ l.key ≠ key := by
  obtain ⟨hp, hpk⟩ := (hasK_iff hs key).1 hk
  unfold giveT at hl
  split at hl
  · rw [List.mem_eraseIdx_iff_getElem] at hl
    obtain ⟨j, hj, hne, rfl⟩ := hl
    exact ⟨List.getElem_mem hj, fun e => hne (sortK_inj hs hj hp (e.trans hpk.symm))⟩
  · rename_i x0 r hw
    have hpm := (List.mem_filter.1 (by rw [show (M.filter fun t => t.waits && t.key.toList == key.toList) = x0 :: r from hw]; exact pick_mem wd x0 r))
    obtain ⟨j, hj, rfl⟩ := List.getElem_of_mem hl
    rw [List.length_modify] at hj
    rw [List.getElem_modify] at he ⊢
    split
    · rename_i e
      rw [if_pos e] at he
      have h1 := h _ hpm.1 he
      have h2 := hpm.2
      simp [h1] at h2
    · rename_i hne
      exact ⟨List.getElem_mem hj, fun e => hne (sortK_inj hs hp hj (hpk.trans e.symm))⟩
theorem gives_free {wd : Bool} {id : Int} : ∀ (ks : List ByteArray) (s : List Mb × List Lk), TOk s.1 s.2 → Rests s.1 id → (∀ x ∈ ks, hasK s.2 x = true) → ks.Nodup → ∀ l ∈ (gives wd s ks).2, l.holder = id → l ∈ s.2 ∧ l.key ∉ ks
  | [], _, _, _, _, _, l, hl, _ => ⟨hl, by simp⟩
  | x :: r, s, h, hr, ha, hn, l, hl, he => by
    obtain ⟨n1, n2⟩ := List.nodup_cons.1 hn
    have hx := ha x (List.mem_cons_self ..)
    obtain ⟨k1, k2⟩ := gives_free (wd := wd) r (giveT wd s.1 s.2 x) (giveT_ok h) (giveT_rests hr) (fun y hy => by
      rw [giveT_has h.sk hx (fun e => n1 (e ▸ hy))]; exact ha y (List.mem_cons_of_mem _ hy)) n2 l hl he
    obtain ⟨m1, m2⟩ := giveT_free h.sk hx hr l k1 he
    exact ⟨m1, by simp [m2, k2]⟩
theorem losesT_free {wd : Bool} {M : List Mb} {K : List Lk} {id : Int} (h : TOk M K) (hh : hasM M id = true) : ∀ l ∈ (losesT wd M K id).2, l.holder ≠ id := by
  intro l hl he
  unfold losesT at hl
  obtain ⟨k1, k2⟩ := gives_free (holdsK K id) (restM M id, K) ⟨sortM_ids h.sm (restM_ids M id), h.sk, by have := congrArg List.length (restM_ids M id); simp only [List.length_map] at this; rw [this]; exact h.fm, h.fk⟩ (restM_rests h.sm hh) (fun x hx => holdsK_has hx) (holdsK_nodup h.sk id) l hl he
  exact k2 (List.mem_map.2 ⟨l, List.mem_filter.2 ⟨k1, by simpa using he⟩, rfl⟩)
theorem leaveT_hold {wd : Bool} {M : List Mb} {K : List Lk} {id : Int} (hok : TOk M K) (h : HoldOk M K) : HoldOk (leaveT wd M K id).2.1 (leaveT wd M K id).2.2 := by
  unfold leaveT
  split
  · rename_i hh
    intro l hl
    have h1 := losesT_hold (wd := wd) (id := id) h l hl
    have h2 := losesT_free hok hh l hl
    have h3 := losesT_ok (wd := wd) (id := id) hok
    have hp := posM_ids (losesT_ids wd M K id) id
    have hhl : hasM (losesT wd M K id).1 id = true := by rw [hasM_ids (losesT_ids ..)]; exact hh
    obtain ⟨q1, q2⟩ := (hasM_iff h3.sm id).1 hhl
    obtain ⟨m, hm, e⟩ := List.any_eq_true.1 h1
    have e : m.id = l.holder := by simpa using e
    obtain ⟨j, hj, rfl⟩ := List.getElem_of_mem hm
    refine List.any_eq_true.2 ⟨_, List.mem_eraseIdx_iff_getElem.2 ⟨j, hj, fun ej => ?_, rfl⟩, by simpa using e⟩
    rw [← hp] at ej
    subst ej
    exact h2 (e.symm.trans q2)
  · exact h
end Go.Proofs.Ytlmfpkfgjfdhgaa
