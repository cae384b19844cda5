/- What the reference's set does; whom it gives a key to (plain law). -/
import Derived.Test.YtlmfpkfgjfdhgaaAS
import Derived.Test.YtlmfpkfgjfdhgaaAM
namespace Go.Proofs.Ytlmfpkfgjfdhgaa
open Go.RowKit

def notKey (key : ByteArray) (l : Lk) : Bool := !(l.key.toList == key.toList)
theorem set_true (key : ByteArray) (id : Int) : ∀ (K acc : List Lk), K.foldl (setStep key id) (acc, true) = (acc ++ K.filter (notKey key), true)
  | [], acc => by simp
  | x :: r, acc => by
    rw [List.foldl_cons]
    have h1 : set1 key id (acc, true) x = (acc, true) := by unfold set1; rw [if_neg (by simp)]
    unfold setStep
    rw [h1]
    cases hq : x.key.toList == key.toList with
    | true =>
      simp only [if_true]
      have := set_true key id r acc
      unfold setStep at this
      rw [this, List.filter_cons, if_neg (by simp [notKey, hq])]
    | false =>
      simp only [Bool.false_eq_true, if_false]
      have := set_true key id r (acc ++ [x])
      unfold setStep at this
      rw [this, List.filter_cons, if_pos (by simp [notKey, hq]), List.append_assoc]; rfl
theorem set_false (key : ByteArray) (id : Int) : ∀ (K acc : List Lk), (let s := K.foldl (setStep key id) (acc, false); if s.2 = true then s.1 else s.1 ++ [⟨key, id⟩]) = acc ++ K.take (posK K key) ++ ⟨key, id⟩ :: (K.drop (posK K key)).filter (notKey key)
  | [], acc => by simp [posK, posBy]
  | x :: r, acc => by
    rw [List.foldl_cons]
    cases hl : ltS x.key key with
    | true =>
      have h1 : set1 key id (acc, false) x = (acc, false) := by unfold set1; rw [if_neg (by simp [hl])]
      have hne : (x.key.toList == key.toList) = false := by
        rw [beq_eq_false_iff_ne]
        intro e
        have := toList_inj e
        rw [this, ltS_irrefl] at hl; cases hl
      have hp : posK (x :: r) key = posK r key + 1 := by
        show posBy _ (x :: r) = _
        unfold posBy; rw [if_pos hl]; rfl
      have hst : setStep key id (acc, false) x = (acc ++ [x], false) := by
        unfold setStep; rw [h1, hne]; rfl
      rw [hst, hp]
      have := set_false key id r (acc ++ [x])
      rw [this]
      simp
    | false =>
      have h1 : set1 key id (acc, false) x = (acc ++ [⟨key, id⟩], true) := by unfold set1; rw [if_pos (by simp [hl])]
      have hp : posK (x :: r) key = 0 := by
        show posBy _ (x :: r) = _
        unfold posBy; rw [if_neg (by simp [hl])]
      rw [hp]
      have hst : setStep key id (acc, false) x = (acc ++ [⟨key, id⟩] ++ [x].filter (notKey key), true) := by
        unfold setStep; rw [h1]
        cases hq : x.key.toList == key.toList with
        | true => simp [notKey, hq]
        | false => simp [notKey, hq]
      rw [hst, set_true]
      simp only [if_true, List.take_zero, List.drop_zero, List.append_nil, List.append_assoc, ← List.filter_append]
      rfl
theorem filter_gt {K : List Lk} (hs : SortK K) (key : ByteArray) (q : Nat) (h : ∀ j (hj : j < K.length), q ≤ j → K[j].key ≠ key) : (K.drop q).filter (notKey key) = K.drop q := by
  rw [List.filter_eq_self]
  intro x hx
  obtain ⟨j, hj, rfl⟩ := List.getElem_of_mem hx
  rw [List.length_drop] at hj
  rw [List.getElem_drop]
  have := h (q + j) (by omega) (by omega)
  unfold notKey
  simp only [Bool.not_eq_true']
  exact beq_eq_false_iff_ne.2 fun e => this (toList_inj e)
theorem drop_has {K : List Lk} (hs : SortK K) {key : ByteArray} (hk : hasK K key = true) : (K.drop (posK K key)).filter (notKey key) = K.drop (posK K key + 1) := by
  obtain ⟨h1, h2⟩ := (hasK_iff hs key).1 hk
  rw [List.drop_eq_getElem_cons h1, List.filter_cons, if_neg (by simp [notKey, h2])]
  refine filter_gt hs key _ fun j hj hq e => ?_
  have := sortK_inj hs h1 hj (h2.trans e.symm)
  omega
theorem setF_has {K : List Lk} (hs : SortK K) {key : ByteArray} (hk : hasK K key = true) {id : Int} (hi : 0 ≤ id) : setF K key id = K.modify (posK K key) fun l => ⟨l.key, id⟩ := by
  obtain ⟨h1, h2⟩ := (hasK_iff hs key).1 hk
  have h3 := set_false key id K []
  unfold setF setAcc
  rw [decide_eq_false (by omega)]
  simp only at h3
  rw [h3, drop_has hs hk, modK_eq h1, List.set_eq_take_append_cons_drop, if_pos h1, h2]; rfl
theorem setF_del {K : List Lk} (hs : SortK K) {key : ByteArray} (hk : hasK K key = true) {id : Int} (hi : id < 0) : setF K key id = K.eraseIdx (posK K key) := by
  unfold setF setAcc
  rw [decide_eq_true hi, set_true]
  simp only [if_true, List.nil_append]
  rw [List.eraseIdx_eq_take_drop_succ, ← drop_has hs hk]
  have e : K.filter (notKey key) = (K.take (posK K key)).filter (notKey key) ++ (K.drop (posK K key)).filter (notKey key) := by rw [← List.filter_append, List.take_append_drop]
  rw [e]
  congr 1
  rw [List.filter_eq_self]
  intro x hx
  obtain ⟨j, hj, rfl⟩ := List.getElem_of_mem hx
  rw [List.length_take] at hj
  rw [List.getElem_take]
  have := posK_lt (K := K) key j (by omega) (by omega)
  unfold notKey
  simp only [Bool.not_eq_true']
  refine beq_eq_false_iff_ne.2 fun e => ?_
  have e := toList_inj e
  rw [e, ltS_irrefl] at this; cases this
theorem setF_new {K : List Lk} (hs : SortK K) {key : ByteArray} (hk : hasK K key = false) {id : Int} (hi : 0 ≤ id) : setF K key id = insAt K (posK K key) ⟨key, id⟩ := by
  have h3 := set_false key id K []
  unfold setF setAcc
  rw [decide_eq_false (by omega)]
  simp only at h3
  rw [h3]
  unfold insAt
  rw [filter_gt hs key _ fun j hj hq e => ?_]
  · rfl
  · have : hasK K key = true := List.any_eq_true.2 ⟨_, List.getElem_mem hj, by simpa using e⟩
    rw [hk] at this; cases this
/-- whom the reference gives a key to: by number. -/
def nextI (wd : Bool) (S : List Mb) : Int := if S = [] then -1 else if wd then (S.head?.map (·.id)).getD (-1) else (S.getLast?.map (·.id)).getD (-1)
theorem age_id {a b : Mb} (h1 : ¬ older a b) (h2 : ¬ older b a) : a.id = b.id := by
  unfold older at *; omega
theorem byAge_le {S : List Mb} (h : ByAge S) {i j : Nat} (hi : i < S.length) (hj : j < S.length) (hij : i ≤ j) : ¬ older S[j] S[i] := by
  rcases Nat.lt_or_ge i j with h1 | h1
  · intro ho
    exact List.pairwise_iff_getElem.1 h i j hi hj h1 ((older_iff _ _).1 ho)
  · obtain rfl : i = j := by omega
    exact older_irr _
/-- the reference's giving of a key. -/
theorem giveT_ref {wd : Bool} {M : List Mb} {K : List Lk} {key : ByteArray} {S : List Mb} (hs : SortK K) (hk : hasK K key = true) (hid : ∀ m ∈ M, 0 ≤ m.id) (hp : S.Perm (waitM M key)) (ho : ByAge S) :
    (S = [] ∧ giveT wd M K key = (M, setF K key (-1))) ∨ (∃ h : 0 < S.length, giveT wd M K key = (restM M (if wd then S[0].id else S[S.length - 1].id), setF K key (if wd then S[0].id else S[S.length - 1].id)) ∧ hasM M (if wd then S[0].id else S[S.length - 1].id) = true) := by
  unfold giveT
  cases hw : waitM M key with
  | nil =>
    rw [hw] at hp
    left
    have := List.Perm.eq_nil hp
    subst this
    refine ⟨rfl, ?_⟩
    simp only
    rw [setF_del hs hk (by decide)]
  | cons x0 r =>
    right
    rw [hw] at hp
    have hl := hp.length_eq
    simp only [List.length_cons] at hl
    have h0 : 0 < S.length := by omega
    refine ⟨h0, ?_⟩
    have hpk := pick_mem wd x0 r
    have hpS : pickM wd x0 r ∈ S := hp.mem_iff.2 hpk
    have hpM : pickM wd x0 r ∈ M := by
      have : pickM wd x0 r ∈ waitM M key := by rw [hw]; exact hpk
      exact (mem_waitM.1 this).1
    have hS : ∀ i (hi : i < S.length), S[i] ∈ x0 :: r := fun i hi => hp.mem_iff.1 (List.getElem_mem hi)
    have he : (if wd then S[0].id else S[S.length - 1].id) = (pickM wd x0 r).id := by
      obtain ⟨j, hj, ej⟩ := List.getElem_of_mem hpS
      cases wd with
      | true =>
        simp only [if_true]
        have h1 := minF_le r x0 S[0] (hS 0 h0)
        have h2 := byAge_le ho h0 hj (Nat.zero_le _)
        rw [ej] at h2
        exact age_id h1 h2
      | false =>
        simp only [Bool.false_eq_true, if_false]
        have h1 := maxF_ge r x0 S[S.length - 1] (hS _ (by omega))
        have h2 := byAge_le ho hj (j := S.length - 1) (by omega) (by omega)
        rw [ej] at h2
        exact age_id h2 h1
    rw [he]
    simp only
    rw [setF_has hs hk (hid _ hpM)]
    exact ⟨rfl, hasM_mem hpM⟩
end Go.Proofs.Ytlmfpkfgjfdhgaa
