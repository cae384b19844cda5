/- AgingEnds: the beginning and the end (of no program). -/
import Derived.Test.YtlmfpkfgjfdhgaaBU
namespace Go.Proofs.Ytlmfpkfgjfdhgaa
open Go.RowKit

instance (st : Nat → Int) (i j : Nat) : Decidable (olderS st i j) := by unfold olderS; infer_instance
theorem rk_ex {n : Nat} (hn : n ≤ 5) (st : Nat → Int) : ∃ r, Rk n st r := by
  have nd : ∀ i, ((List.range n).filter fun j => decide (olderS st i j)).Nodup := fun i => (List.nodup_range).sublist List.filter_sublist
  have hm : ∀ i j, j ∈ ((List.range n).filter fun j => decide (olderS st i j)) ↔ j < n ∧ olderS st i j := fun i j => by rw [List.mem_filter, List.mem_range, decide_eq_true_iff]
  refine ⟨fun i => ((List.range n).filter fun j => decide (olderS st i j)).length, fun i hi j hj h => ?_, fun i hi => ?_⟩
  · have := nodup_le (j :: ((List.range n).filter fun k => decide (olderS st j k))) ((List.range n).filter fun k => decide (olderS st i k)) (List.nodup_cons.2 ⟨fun h1 => by
      have := ((hm j j).1 h1).2
      unfold olderS at this; omega, nd j⟩) (fun x hx => by
      rcases List.mem_cons.1 hx with rfl | hx
      · exact (hm i x).2 ⟨hj, h⟩
      · obtain ⟨a, b⟩ := (hm j x).1 hx
        refine (hm i x).2 ⟨a, ?_⟩
        unfold olderS at *; omega)
    rw [List.length_cons] at this
    omega
  · have := nodup_le (i :: ((List.range n).filter fun k => decide (olderS st i k))) (List.range n) (List.nodup_cons.2 ⟨fun h1 => by
      have := ((hm i i).1 h1).2
      unfold olderS at this; omega, nd i⟩) (fun x hx => by
      rcases List.mem_cons.1 hx with rfl | hx
      · exact List.mem_range.2 hi
      · exact List.mem_range.2 ((hm i x).1 hx).1)
    rw [List.length_cons, List.length_range] at this
    omega
/-- so many have joined. -/
structure EJ (wd : Bool) (st : Nat → Int) (i : Nat) (M : List Mb) : Prop where
  c : CInv wd M []
  len : M.length = i
  has : ∀ j : Nat, hasM M (j : Int) = true ↔ j < i
  only : ∀ m ∈ M, ∃ j < i, m.id = (j : Int) ∧ m.stamp = st j ∧ m.waits = false
theorem EJ.start (wd : Bool) (st : Nat → Int) : EJ wd st 0 [] := ⟨CInv.start wd, rfl, fun j => by simp [hasM], fun _ h => by cases h⟩
theorem EJ.join {wd : Bool} {st : Nat → Int} {i : Nat} {M : List Mb} (h : EJ wd st i M) (hi : i < 5) (h0 : 0 ≤ st i) (h1 : st i ≤ 255) : ∃ M', joinT M i (st i) = (0, M') ∧ EJ wd st (i + 1) M' := by
  have hn : hasM M (i : Int) = false := by
    cases e : hasM M (i : Int) with
    | false => rfl
    | true => have := (h.has i).1 e; omega
  have e : joinT M i (st i) = (0, insAt M (posM M i) ⟨i, st i, false, ⟨#[]⟩⟩) := by
    unfold joinT
    rw [if_neg (by omega), if_neg (by rw [hn]; simp), if_neg (by rw [h.len]; omega)]
  refine ⟨_, e, (h.c.join e).1, by rw [insAt_len (show posM M i ≤ M.length from posBy_le _ M), h.len], fun j => ?_, fun m hm => ?_⟩
  · constructor
    · intro hj
      obtain ⟨m, hm, e2⟩ := List.any_eq_true.1 hj
      have e2 : m.id = (j : Int) := by simpa using e2
      rcases mem_insAt.1 hm with rfl | hm
      · simp only at e2; omega
      · have := (h.has j).1 (e2 ▸ hasM_mem hm); omega
    · intro hj
      by_cases e2 : j = i
      · subst e2
        exact hasM_mem (m := ⟨(j : Int), st j, false, ⟨#[]⟩⟩) (mem_insAt.2 (.inl rfl))
      · exact hasM_mono (fun m hm => ⟨m, mem_insAt.2 (.inr hm), rfl⟩) ((h.has j).2 (by omega))
  · rcases mem_insAt.1 hm with rfl | hm
    · exact ⟨i, by omega, rfl, rfl, rfl⟩
    · obtain ⟨j, hj, r⟩ := h.only m hm
      exact ⟨j, by omega, r⟩
theorem EJ.all {wd : Bool} {st : Nat → Int} {n : Nat} {M : List Mb} (h : EJ wd st n M) (W : Nat → List ByteArray) (KS : List ByteArray) : EI wd n W st KS ⟨M, [], fun _ => 0, fun _ => false⟩ := by
  have hn : ∀ z k, ¬ WaitsOn M z k := fun z k ⟨m, hm, _, hw, _⟩ => by
    obtain ⟨_, _, _, _, e⟩ := h.only m hm
    rw [e] at hw; cases hw
  exact ⟨h.c, (fun _ h => by cases h), (fun i hi => (h.has i).2 hi), (fun m hm => by
    obtain ⟨j, hj, a, b, _⟩ := h.only m hm
    exact ⟨j, hj, a, b⟩), fun _ _ => Nat.zero_le _, fun i _ k hw => absurd hw (hn _ _), fun _ i _ _ ha => by simp at ha⟩
theorem EI.none {wd : Bool} {n : Nat} {W : Nat → List ByteArray} {st : Nat → Int} {KS : List ByteArray} {s : ES} (h : EI wd n W st KS s) (ho : ∀ j < n, s.o j = true) : s.M = [] := by
  refine List.eq_nil_iff_forall_not_mem.2 fun m hm => ?_
  obtain ⟨i, hi, _, _, e⟩ := h.mem hm
  rw [ho i hi] at e; cases e
/-- how many aren't over. -/
def leftE (n : Nat) (o : Nat → Bool) : Nat := ((List.range n).filter fun j => !o j).length
theorem leftE_pos {n : Nat} {o : Nat → Bool} : 0 < leftE n o ↔ ∃ j < n, o j = false := by
  unfold leftE
  rw [List.length_pos_iff_exists_mem]
  constructor
  · rintro ⟨j, hj⟩
    obtain ⟨a, b⟩ := List.mem_filter.1 hj
    exact ⟨j, List.mem_range.1 a, by simpa using b⟩
  · rintro ⟨j, hj, e⟩
    exact ⟨j, List.mem_filter.2 ⟨List.mem_range.2 hj, by simp [e]⟩⟩
theorem leftE_start (n : Nat) : leftE n (fun _ => false) = n := by
  unfold leftE
  rw [show ((List.range n).filter fun j => !(fun _ : Nat => false) j) = List.range n from List.filter_eq_self.2 (fun _ _ => rfl), List.length_range]
theorem leftE_over : ∀ (n : Nat) (o : Nat → Bool) (i : Nat), i < n → o i = false → leftE n (upd o i true) + 1 = leftE n o
  | 0, _, _, h, _ => by omega
  | n + 1, o, i, h, ho => by
    unfold leftE
    rw [List.range_succ, List.filter_append, List.filter_append, List.length_append, List.length_append]
    by_cases e : i = n
    · subst e
      have h1 : ((List.range i).filter fun j => !upd o i true j) = (List.range i).filter fun j => !o j := List.filter_congr fun j hj => by
        rw [upd_ne _ _ (by have := List.mem_range.1 hj; omega)]
      rw [h1]
      simp [upd_eq, ho]
    · have ih := leftE_over n o i (by omega) ho
      unfold leftE at ih
      have h2 : ([n].filter fun j => !upd o i true j) = [n].filter fun j => !o j := List.filter_congr fun j hj => by
        rw [upd_ne _ _ (by have : j = n := by simpa using hj
                           omega)]
      rw [h2]; omega
end Go.Proofs.Ytlmfpkfgjfdhgaa
