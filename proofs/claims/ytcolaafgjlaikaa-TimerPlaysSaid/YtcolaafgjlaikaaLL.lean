/- TimerPlays: the reference's contracts at every argument, and what both boards keep. -/
import Derived.Test.YtcolaafgjlaikaaKK
namespace Go.Proofs.Ytcolaafgjlaikaa
open Go.RowKit

/-- what both boards keep. -/
structure Both (N : Nat) (m : MB) (ck : List Int) (L : List Rt) (k : Nat) : Prop where
  ok : BOk m
  pr : PR m ck L
  len : ck.length = N
  few : L.length ≤ k
  rng : ∀ t ∈ L, 0 ≤ t.node ∧ t.node < N
theorem Both.mlen {N : Nat} {m : MB} {ck : List Int} {L : List Rt} {k : Nat} (h : Both N m ck L k) : m.length = N := by rw [h.pr.len, h.len]
theorem Both.clk {N : Nat} {m : MB} {ck : List Int} {L : List Rt} {k : Nat} (h : Both N m ck L k) (j : Nat) (hj : j < ck.length) : 0 ≤ ck[j] ∧ ck[j] ≤ 1099511627776 := by
  have hj' : j < m.length := by rw [h.pr.len]; exact hj
  have := h.ok _ (List.getElem_mem hj')
  rw [← h.pr.clk j hj' hj]
  exact ⟨this.c0, this.c1⟩
theorem Both.every {N : Nat} {m : MB} {ck : List Int} {L : List Rt} {k : Nat} (h : Both N m ck L k) : ∀ t ∈ L, 0 ≤ t.every ∧ t.every ≤ 1099511627776 := fun t ht => by
  obtain ⟨h1, h2⟩ := h.rng t ht
  obtain ⟨j, hj⟩ := Int.eq_ofNat_of_zero_le h1
  have hj' : j < m.length := by rw [h.mlen]; omega
  have hm : toTm t ∈ ofN L j := List.mem_map.2 ⟨t, List.mem_filter.2 ⟨ht, by simp [hj]⟩, rfl⟩
  have := (h.ok _ (List.getElem_mem hj')).ok.rng _ ((h.pr.perm j hj').symm.subset hm)
  exact ⟨this.2.2.1, this.2.2.2.1⟩
theorem Both.start (N : Nat) : Both N (m0 N) (List.replicate N 0) [] 0 := by
  refine ⟨m0_ok N, ⟨by simp [m0], fun j h h' => by simp [m0], fun j h => ?_, List.Pairwise.nil⟩, by simp, Nat.le_refl _, fun _ h => by cases h⟩
  simp [m0, ofN]
theorem Both.more {N : Nat} {m : MB} {ck : List Int} {L : List Rt} {k k' : Nat} (h : Both N m ck L k) (hk : k ≤ k') : Both N m ck L k' := ⟨h.ok, h.pr, h.len, Nat.le_trans h.few hk, h.rng⟩
theorem Both.set {N : Nat} {m : MB} {ck : List Int} {L : List Rt} {k : Nat} (h : Both N m ck L k) (i id after every : Int) :
    ∃ x m' L', mSet m i id after every = (x, m') ∧ rSet ck L i id after every = (x, L') ∧ Both N m' ck L' (k + 1) := by
  obtain ⟨h1, h2⟩ := plays_set h.pr h.ok i id after every
  have h3 := mSet_ok h.ok i id after every
  have h4 : (rSet ck L i id after every).2.length ≤ k + 1 ∧ ∀ t ∈ (rSet ck L i id after every).2, 0 ≤ t.node ∧ t.node < N := by
    have hf := h.few
    unfold rSet
    split
    · split
      · rename_i hi
        split
        · exact ⟨by simp only; omega, h.rng⟩
        · have e : (rWithout L i id).takeWhile (fun t => decide (t.id < id)) ++ (rWithout L i id).dropWhile (fun t => decide (t.id < id)) = rWithout L i id := List.takeWhile_append_dropWhile
          have hl : (rWithout L i id).length ≤ L.length := List.length_filter_le _ _
          refine ⟨?_, fun t ht => ?_⟩
          · have := congrArg List.length e
            simp only [rSetL, List.length_append, List.length_cons] at this ⊢
            omega
          · have hsub : ∀ y ∈ rWithout L i id, 0 ≤ y.node ∧ y.node < N := fun y hy => h.rng y (List.mem_filter.1 hy).1
            simp only [rSetL] at ht
            rcases List.mem_append.1 ht with ht | ht
            · exact hsub t (List.takeWhile_subset _ ht)
            · rcases List.mem_cons.1 ht with rfl | ht
              · have := of_decide_eq_true hi
                rw [h.len] at this; exact this
              · exact hsub t (List.dropWhile_subset _ ht)
      · exact ⟨by simp only; omega, h.rng⟩
    · exact ⟨by simp only; omega, h.rng⟩
  exact ⟨(mSet m i id after every).1, (mSet m i id after every).2, (rSet ck L i id after every).2, rfl, Prod.ext h1.symm rfl, h3, h2, h.len, h4.1, h4.2⟩
theorem Both.cancel {N : Nat} {m : MB} {ck : List Int} {L : List Rt} {k : Nat} (h : Both N m ck L k) (i id : Int) :
    ∃ x m' L', mCancel m i id = (x, m') ∧ rCancel ck L i id = (x, L') ∧ Both N m' ck L' (k + 1) := by
  obtain ⟨h1, h2⟩ := plays_cancel h.pr i id
  have h3 := mCancel_ok h.ok i id
  have h4 : (rCancel ck L i id).2.length ≤ k + 1 ∧ ∀ t ∈ (rCancel ck L i id).2, 0 ≤ t.node ∧ t.node < N := by
    have hf := h.few
    have hl : (rWithout L i id).length ≤ L.length := List.length_filter_le _ _
    unfold rCancel
    split
    · split
      · exact ⟨by simp only; omega, h.rng⟩
      · exact ⟨by simp only; omega, fun y hy => h.rng y (List.mem_filter.1 hy).1⟩
    · exact ⟨by simp only; omega, h.rng⟩
  exact ⟨(mCancel m i id).1, (mCancel m i id).2, (rCancel ck L i id).2, rfl, Prod.ext h1.symm rfl, h3, h2, h.len, h4.1, h4.2⟩
theorem Both.crash {N : Nat} {m : MB} {ck : List Int} {L : List Rt} {k : Nat} (h : Both N m ck L k) (i : Int) :
    ∃ x m' L', mCrash m i = (x, m') ∧ rCrash ck L i = (x, L') ∧ Both N m' ck L' (k + 1) := by
  obtain ⟨h1, h2⟩ := plays_crash h.pr i
  have h3 := mCrash_ok h.ok i
  have h4 : (rCrash ck L i).2.length ≤ k + 1 ∧ ∀ t ∈ (rCrash ck L i).2, 0 ≤ t.node ∧ t.node < N := by
    have hf := h.few
    have hl : (L.filter fun t => t.node != i).length ≤ L.length := List.length_filter_le _ _
    unfold rCrash
    split
    · exact ⟨by simp only; omega, fun y hy => h.rng y (List.mem_filter.1 hy).1⟩
    · exact ⟨by simp only; omega, h.rng⟩
  exact ⟨(mCrash m i).1, (mCrash m i).2, (rCrash ck L i).2, rfl, Prod.ext h1.symm rfl, h3, h2, h.len, h4.1, h4.2⟩
theorem rTicks_rng {node c : Int} {L : List Rt} {N : Nat} (h : ∀ t ∈ L, 0 ≤ t.node ∧ t.node < N) : ∀ j : Nat, ∀ t ∈ (rTicks node c L j).2, 0 ≤ t.node ∧ t.node < N
  | 0 => h
  | j + 1 => fun t ht => by
    obtain ⟨x, hx, hu⟩ := List.mem_filterMap.1 (show t ∈ List.filterMap (rUpd node (c + ((j + 1 : Nat) : Int))) (rTicks node c L j).2 from ht)
    have := rTicks_rng h j x hx
    rw [(rUpd_id hu).2]; exact this
theorem Both.skip {N : Nat} {m : MB} {ck : List Int} {L : List Rt} {k : Nat} (h : Both N m ck L k) (hk : k ≤ 1000) (i n : Int) :
    ∃ x o m' ck' L', mSkip m i n = (x, o, m') ∧ rSkip ck L i n = (x, o, ck', L') ∧ Both N m' ck' L' (k + 1) ∧ o.length ≤ 1000000 := by
  obtain ⟨h1, h2, h5⟩ := plays_skip h.pr h.ok i n
  have h3 := mSkip_ok h.ok i n
  have h4 : (rSkip ck L i n).2.2.1.length = N ∧ (rSkip ck L i n).2.2.2.length ≤ k + 1 ∧ (∀ t ∈ (rSkip ck L i n).2.2.2, 0 ≤ t.node ∧ t.node < N) ∧ (rSkip ck L i n).2.1.length ≤ 1000000 := by
    have hf := h.few
    unfold rSkip
    split
    · exact ⟨h.len, by simp only; omega, h.rng, by simp⟩
    · split
      · split
        · exact ⟨h.len, by simp only; omega, h.rng, by simp⟩
        · obtain ⟨k1, k2⟩ := rTicks_len i (ck.getD i.toNat 0) L n.toNat
          have k3 : n.toNat * L.length ≤ 256 * 1000 := Nat.mul_le_mul (by omega) (by omega)
          exact ⟨by simpa using h.len, by simp only; omega, rTicks_rng h.rng _, by simp only; omega⟩
      · exact ⟨h.len, by simp only; omega, h.rng, by simp⟩
  exact ⟨(mSkip m i n).1, (mSkip m i n).2.1, (mSkip m i n).2.2, (rSkip ck L i n).2.2.1, (rSkip ck L i n).2.2.2, rfl, Prod.ext h1.symm (Prod.ext h2.symm rfl), ⟨h3, h5, h4.1, h4.2.1, h4.2.2.1⟩, by rw [h2]; exact h4.2.2.2⟩

theorem rf_set (p : Nat) {ck : List Int} {L : List Rt} {N k : Nat} {m : MB} (hB : Both N m ck L k) (hk : k ≤ 1000) {i id after every x : Int} {L' : List Rt} (he : rSet ck L i id after every = (x, L')) (w : World) (D : List Nat) (h : RefA p ck L w D) :
    Calls Try.prog 9 #[.pointer (some ⟨p, 0, none⟩), .int .i64 i, .int .i64 id, .int .i64 after, .int .i64 every] w (RPost w D p (.returned (.int .i64 x)) ck L') := by
  unfold rSet at he
  cases hs : okSet id after every with
  | false =>
    rw [hs] at he
    obtain ⟨rfl, rfl⟩ : 1 = x ∧ L = L' := by simpa using he
    exact (rf_set_bad p i id after every hs w).mono fun e w' ⟨h1, h2⟩ => by subst h1 h2; exact rf_same h _ (Below.refl _ _)
  | true =>
    rw [hs] at he
    simp only [if_true] at he
    cases hi : rIs ck i with
    | false =>
      rw [hi] at he
      obtain ⟨rfl, rfl⟩ : 6 = x ∧ L = L' := by simpa using he
      exact (rf_set_out p ck L i id after every hs hi w D h).mono fun e w' ⟨h1, h2⟩ => by subst h1 h2; exact rf_same h _ (Below.refl _ _)
    | true =>
      rw [hi] at he
      have hi' := of_decide_eq_true hi
      obtain ⟨j, rfl⟩ := Int.eq_ofNat_of_zero_le hi'.1
      have hj : j < ck.length := by omega
      obtain ⟨c0, c1⟩ := hB.clk j hj
      refine rf_set_ok p ck L j hj id after every hs w D h (Nat.le_trans hB.few hk) c0 c1 _ (fun h64 w' hb => ?_) (fun h64 w' hp => ?_)
      all_goals unfold cntN at h64
      · simp only [if_true] at he
        rw [if_pos h64] at he
        obtain ⟨rfl, rfl⟩ : 7 = x ∧ L = L' := by simpa using he
        exact rf_same h _ hb
      · simp only [if_true] at he
        rw [if_neg h64] at he
        obtain ⟨rfl, rfl⟩ : 0 = x ∧ rSetL ck L j id after every = L' := by simpa using he
        exact hp
theorem rf_skip (p : Nat) {ck : List Int} {L : List Rt} {N k : Nat} {m : MB} (hB : Both N m ck L k) (hk : k ≤ 1000) {i n x : Int} {o : List Int} {ck' : List Int} {L' : List Rt} (he : rSkip ck L i n = (x, o, ck', L')) (w : World) (D : List Nat) (h : RefA p ck L w D) :
    Calls Try.prog 13 #[.pointer (some ⟨p, 0, none⟩), .int .i64 i, .int .i64 n] w (RIPost w D p x o ck' L') := by
  unfold rSkip at he
  by_cases hn : n < 0 ∨ 256 < n
  · rw [if_pos hn] at he
    obtain ⟨rfl, rfl, rfl, rfl⟩ : 1 = x ∧ [] = o ∧ ck = ck' ∧ L = L' := by simpa using he
    exact rf_skip_bad p ck L i n w D h hn
  · rw [if_neg hn] at he
    cases hi : rIs ck i with
    | false =>
      rw [hi] at he
      obtain ⟨rfl, rfl, rfl, rfl⟩ : 6 = x ∧ [] = o ∧ ck = ck' ∧ L = L' := by simpa using he
      exact rf_skip_out p ck L i n w D h (by omega) (by omega) hi
    | true =>
      rw [hi] at he
      have hi' := of_decide_eq_true hi
      obtain ⟨j, rfl⟩ := Int.eq_ofNat_of_zero_le hi'.1
      have hj : j < ck.length := by omega
      obtain ⟨c0, c1⟩ := hB.clk j hj
      have hg : ck.getD ((j : Int)).toNat 0 = ck[j] := by simp [List.getD, hj]
      rw [hg] at he
      simp only [if_true, Int.toNat_natCast] at he
      by_cases hc : 1099511627776 < ck[j] + n
      · rw [if_pos hc] at he
        obtain ⟨rfl, rfl, rfl, rfl⟩ : 7 = x ∧ [] = o ∧ ck = ck' ∧ L = L' := by simpa using he
        exact rf_skip_full p ck L j hj n w D h (by omega) (by omega) c0 c1 hc
      · rw [if_neg hc] at he
        simp only [Prod.mk.injEq] at he
        obtain ⟨rfl, rfl, rfl, rfl⟩ := he
        exact rf_skip_ok p ck L j hj n w D h (Nat.le_trans hB.few hk) (by omega) (by omega) c0 hc hB.every
theorem rf_cancel' (p : Nat) {ck : List Int} {L : List Rt} {N k : Nat} {m : MB} (hB : Both N m ck L k) (hk : k ≤ 1000) {i id x : Int} {L' : List Rt} (he : rCancel ck L i id = (x, L')) (w : World) (D : List Nat) (h : RefA p ck L w D) :
    Calls Try.prog 11 #[.pointer (some ⟨p, 0, none⟩), .int .i64 i, .int .i64 id] w (RPost w D p (.returned (.int .i64 x)) ck L') := by
  have := rf_cancel p ck L i id w D h (Nat.le_trans hB.few (by omega))
  rw [he] at this; exact this
theorem rf_crash' (p : Nat) {ck : List Int} {L : List Rt} {N k : Nat} {m : MB} (hB : Both N m ck L k) (hk : k ≤ 1000) {i x : Int} {L' : List Rt} (he : rCrash ck L i = (x, L')) (w : World) (D : List Nat) (h : RefA p ck L w D) :
    Calls Try.prog 17 #[.pointer (some ⟨p, 0, none⟩), .int .i64 i] w (RPost w D p (.returned (.int .i64 x)) ck L') := by
  have := rf_crash p ck L i w D h (Nat.le_trans hB.few (by omega))
  rw [he] at this; exact this
end Go.Proofs.Ytcolaafgjlaikaa
