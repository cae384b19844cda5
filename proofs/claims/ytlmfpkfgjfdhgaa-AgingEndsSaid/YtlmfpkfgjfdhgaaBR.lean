/- AgingEnds: what holds of a state is kept (of no program). -/
import Derived.Test.YtlmfpkfgjfdhgaaBQ
namespace Go.Proofs.Ytlmfpkfgjfdhgaa
open Go.RowKit

theorem leave_has {wd : Bool} {M : List Mb} {K : List Lk} {id : Int} (ok : TOk M K) (hh : hasM M id = true) : (∀ z, hasM (leaveT wd M K id).2.1 z = true ↔ hasM M z = true ∧ z ≠ id) ∧ ∀ m ∈ (leaveT wd M K id).2.1, ∃ m0 ∈ M, m0.id = m.id ∧ m0.stamp = m.stamp := by
  unfold leaveT
  rw [if_pos hh]
  have hok := losesT_ok (wd := wd) (id := id) ok
  have hids := losesT_ids wd M K id
  have hsg := losesT_sg wd M K id
  have hh2 : hasM (losesT wd M K id).1 id = true := by rw [hasM_ids hids]; exact hh
  have hpos : posM (losesT wd M K id).1 id = posM M id := posM_ids hids id
  simp only
  rw [← hpos]
  have hhz : ∀ z, hasM (losesT wd M K id).1 z = hasM M z := fun z => hasM_ids hids z
  generalize losesT wd M K id = s at *
  obtain ⟨hp, hpi⟩ := (hasM_iff hok.sm id).1 hh2
  refine ⟨fun z => ?_, fun m hm => mem_sg hsg (List.mem_of_mem_eraseIdx hm)⟩
  rw [← hhz z]
  constructor
  · intro h
    obtain ⟨m, hm, e⟩ := List.any_eq_true.1 h
    have e : m.id = z := by simpa using e
    obtain ⟨i, hi, hne, rfl⟩ := List.mem_eraseIdx_iff_getElem.1 hm
    subst e
    exact ⟨hasM_mem (List.getElem_mem hi), fun e => hne (sortM_inj hok.sm hi hp (e.trans hpi.symm))⟩
  · rintro ⟨h, hne⟩
    obtain ⟨m, hm, e⟩ := List.any_eq_true.1 h
    have e : m.id = z := by simpa using e
    obtain ⟨i, hi, rfl⟩ := List.getElem_of_mem hm
    subst e
    exact hasM_mem (List.mem_eraseIdx_iff_getElem.2 ⟨i, hi, fun e => hne (by subst e; exact hpi), rfl⟩)
/-- what one wants. -/
structure WOk (n : Nat) (W : Nat → List ByteArray) (KS : List ByteArray) : Prop where
  key : ∀ i < n, ∀ k ∈ W i, k ∈ KS ∧ k.size ≤ 16
  few : KS.length ≤ 1000
section
variable {wd : Bool} {n : Nat} {W : Nat → List ByteArray} {st : Nat → Int} {KS : List ByteArray} {s : ES} {y : Nat}
theorem EI.has (h : EI wd n W st KS s) (hy : y < n) (ho : s.o y = false) : hasM s.M (y : Int) = true := by rw [h.alive y hy, ho]; rfl
theorem EI.eat_le (h : EI wd n W st KS s) (hy : y < n) : eatE s y ≤ (W y).length := by
  unfold eatE
  split
  · exact Nat.zero_le _
  · exact h.bnd y hy
theorem EI.go (h : EI wd n W st KS s) (hW : WOk n W KS) (hy : y < n) (ho : s.o y = false) (hnw : ∀ k, ¬ WaitsOn s.M y k) : EI wd n W st KS (goE wd W s y) := by
  have hh := h.has hy ho
  have ok := h.c.sok.ok
  have hkl : s.K.length < 100000 := by have := h.klen; have := hW.few; omega
  unfold goE
  split
  · rename_i hlt
    obtain ⟨hks, hsz⟩ := hW.key y hy _ (List.getElem_mem hlt)
    generalize (W y)[eatE s y] = k at *
    rcases ha : askT wd s.M s.K y k with ⟨⟨nn, cd⟩, M', K'⟩
    obtain ⟨hc, hsg⟩ := h.c.ask hkl ha
    have hids : M'.map (·.id) = s.M.map (·.id) := by have := congrArg (List.map Prod.fst) hsg; simpa [List.map_map, Function.comp_def, sgM] using this
    have heff := ask_eff ok h.c.sok.hold hsz hh hnw ha (Int.natCast_nonneg y)
    simp only
    -- who holds in the end
    have hkeys : ∀ l ∈ K', l.key ∈ KS := by
      rintro ⟨k', z⟩ hl
      rcases heff with ⟨-, -, h3⟩ | ⟨-, -, rfl, -⟩ | ⟨-, -, h3, -⟩ | ⟨-, -, hd, M1, -, -, -, -, -, h3⟩
      · rcases (h3 _).1 hl with h4 | h4
        · exact h.keys _ h4
        · have : k' = k := congrArg Lk.key h4
          rw [show (⟨k', z⟩ : Lk).key = k' from rfl, this]; exact hks
      · exact h.keys _ hl
      · rcases (h3.new _ _ hl).2 with h4 | ⟨h4, -⟩
        · exact h.keys _ h4
        · have := h.keys _ h4; exact this
      · rcases (h3.new _ _ hl).2 with h4 | ⟨h4, -⟩
        · exact h.keys _ h4
        · have := h.keys _ h4; exact this
    refine ⟨hc, hkeys, fun i hi => by rw [hasM_ids hids]; exact h.alive i hi, fun m hm => ?_, fun i hi => ?_, fun i hi k' hw => ?_, fun hwd i hi hoi hai hnwi => ?_⟩
    · obtain ⟨m0, h0, e1, e2⟩ := mem_sg hsg hm
      obtain ⟨i, hi, i1, i2⟩ := h.only m0 h0
      exact ⟨i, hi, e1.symm.trans i1, e2.symm.trans i2⟩
    · by_cases e : i = y
      · subst e
        rw [show (ES.mk M' K' (upd s.a i (if cd = 11 then 0 else eatE s i + 1)) s.o).a i = _ from upd_eq _ _ _]
        split <;> omega
      · rw [show (ES.mk M' K' (upd s.a y (if cd = 11 then 0 else eatE s y + 1)) s.o).a i = _ from upd_ne _ _ e]
        exact h.bnd i hi
    · by_cases e : i = y
      · subst e
        rw [show (ES.mk M' K' (upd s.a i (if cd = 11 then 0 else eatE s i + 1)) s.o).a i = _ from upd_eq _ _ _]
        rcases heff with ⟨rfl, -⟩ | ⟨rfl, -⟩ | ⟨-, -, h3, -⟩ | ⟨-, h3, -⟩
        · rw [if_neg (by omega)]; omega
        · rw [if_neg (by omega)]; omega
        · exact absurd hw (h3.rest k')
        · rw [if_neg (by omega)]; omega
      · rw [show (ES.mk M' K' (upd s.a y (if cd = 11 then 0 else eatE s y + 1)) s.o).a i = _ from upd_ne _ _ e]
        have hne : (i : Int) ≠ (y : Int) := by omega
        refine h.wt i hi k' ?_
        have hw : WaitsOn M' i k' := hw
        rcases heff with ⟨-, rfl, -⟩ | ⟨-, -, -, h3, -⟩ | ⟨-, -, h3, -⟩ | ⟨-, -, hd, M1, -, -, -, -, h3, h4⟩
        · exact hw
        · rcases (h3 _ _).1 hw with h5 | h5
          · exact h5.2
          · exact absurd h5.1 hne
        · exact h3.les _ _ hw
        · rcases (h3 _ _).1 (h4.les _ _ hw) with h5 | h5
          · exact h5.2
          · exact absurd h5.1 hne
    · subst hwd
      have hnwi : ∀ k, ¬ WaitsOn M' i k := hnwi
      by_cases e : i = y
      · subst e
        rcases heff with ⟨-, -, h3⟩ | ⟨-, -, -, h3, -⟩ | ⟨rfl, -⟩ | ⟨h3, -⟩
        · exact ⟨k, (h3 _).2 (.inr rfl)⟩
        · exact absurd ((h3 _ k).2 (.inr ⟨rfl, rfl⟩)) (hnwi k)
        · rw [show (ES.mk M' K' (upd s.a i (if (11 : Int) = 11 then 0 else eatE s i + 1)) s.o).a i = _ from upd_eq _ _ _] at hai
          simp at hai
        · cases h3
      · rw [show (ES.mk M' K' (upd s.a y (if cd = 11 then 0 else eatE s y + 1)) s.o).a i = _ from upd_ne _ _ e] at hai
        have hne : (i : Int) ≠ (y : Int) := by omega
        by_cases hwi : ∃ k', WaitsOn s.M i k'
        · obtain ⟨k', hwi⟩ := hwi
          rcases heff with ⟨-, rfl, -⟩ | ⟨-, -, -, h3, -⟩ | ⟨-, -, h3, -⟩ | ⟨h3, -⟩
          · exact absurd hwi (hnwi k')
          · exact absurd ((h3 _ k').2 (.inl ⟨hne, hwi⟩)) (hnwi k')
          · rcases h3.wt _ _ hne hwi with h4 | ⟨-, h4⟩
            · exact absurd h4 (hnwi k')
            · exact ⟨k', h4⟩
          · cases h3
        · obtain ⟨k', hk'⟩ := h.hold rfl i hi hoi hai (fun k' hx => hwi ⟨k', hx⟩)
          refine ⟨k', ?_⟩
          rcases heff with ⟨-, -, h3⟩ | ⟨-, -, rfl, -⟩ | ⟨-, -, h3, -⟩ | ⟨h3, -⟩
          · exact (h3 _).2 (.inl hk')
          · exact hk'
          · exact h3.oth _ _ hk' hne
          · cases h3
  · rename_i hlt
    rcases ha : leaveT wd s.M s.K y with ⟨x, M', K'⟩
    have hc := (h.c.leave ha).1
    have hl := (leave_lost (wd := wd) ok hh).2
    obtain ⟨hm1, hm2⟩ := leave_has (wd := wd) ok hh
    rw [ha] at hl hm1 hm2
    simp only at hl hm1 hm2 ⊢
    refine ⟨hc, ?_, fun i hi => ?_, fun m hm => ?_, fun i hi => ?_, fun i hi k' hw => ?_, fun hwd i hi hoi hai hnwi => ?_⟩
    · rintro ⟨k', z⟩ hk'
      rcases (hl.new _ _ hk').2 with h4 | ⟨h4, -⟩
      · exact h.keys _ h4
      · have := h.keys _ h4; exact this
    · show hasM M' i = !upd s.o y true i
      by_cases e : i = y
      · subst e
        rw [upd_eq]
        cases e2 : hasM M' (i : Int) with
        | false => rfl
        | true => exact absurd rfl ((hm1 _).1 e2).2
      · rw [upd_ne _ _ e, ← h.alive i hi]
        have hne : (i : Int) ≠ (y : Int) := by omega
        cases e2 : hasM M' (i : Int) with
        | true => exact ((hm1 _).1 e2).1.symm
        | false =>
          cases e3 : hasM s.M (i : Int) with
          | false => rfl
          | true => rw [(hm1 _).2 ⟨e3, hne⟩] at e2; cases e2
    · obtain ⟨m0, h0, e1, e2⟩ := hm2 m hm
      obtain ⟨i, hi, i1, i2⟩ := h.only m0 h0
      exact ⟨i, hi, e1.symm.trans i1, e2.symm.trans i2⟩
    · show upd s.a y (eatE s y) i ≤ _
      by_cases e : i = y
      · subst e; rw [upd_eq]; exact h.eat_le hi
      · rw [upd_ne _ _ e]; exact h.bnd i hi
    · show 1 ≤ upd s.a y (eatE s y) i
      have hw : WaitsOn M' i k' := hw
      by_cases e : i = y
      · subst e; exact absurd hw (hl.rest k')
      · rw [upd_ne _ _ e]; exact h.wt i hi k' (hl.les _ _ hw)
    · have hoi : upd s.o y true i = false := hoi
      have hai : 0 < upd s.a y (eatE s y) i := hai
      have hnwi : ∀ k, ¬ WaitsOn M' i k := hnwi
      by_cases e : i = y
      · subst e; rw [upd_eq] at hoi; cases hoi
      · rw [upd_ne _ _ e] at hoi hai
        have hne : (i : Int) ≠ (y : Int) := by omega
        by_cases hwi : ∃ k', WaitsOn s.M i k'
        · obtain ⟨k', hwi⟩ := hwi
          rcases hl.wt _ _ hne hwi with h4 | ⟨-, h4⟩
          · exact absurd h4 (hnwi k')
          · exact ⟨k', h4⟩
        · obtain ⟨k', hk'⟩ := h.hold hwd i hi hoi hai (fun k' hx => hwi ⟨k', hx⟩)
          exact ⟨k', hl.oth _ _ hk' hne⟩
end
end Go.Proofs.Ytlmfpkfgjfdhgaa
