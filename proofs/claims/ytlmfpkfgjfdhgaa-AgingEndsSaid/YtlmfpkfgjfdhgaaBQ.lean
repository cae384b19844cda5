/- AgingEnds: what a turn does (of no program). -/
import Derived.Test.YtlmfpkfgjfdhgaaBP
namespace Go.Proofs.Ytlmfpkfgjfdhgaa
open Go.RowKit

/-- one more waits. -/
def Waits (y : Int) (k : ByteArray) (M M' : List Mb) : Prop := ∀ z k', WaitsOn M' z k' ↔ (z ≠ y ∧ WaitsOn M z k') ∨ (z = y ∧ k' = k)
theorem waitT_Waits {M : List Mb} (hs : SortM M) {y : Int} (hh : hasM M y = true) (k : ByteArray) : Waits y k M (waitT M y k) := fun z k' => by
  obtain ⟨hp, hpi⟩ := (hasM_iff hs y).1 hh
  have hg : ∀ i (hi : i < M.length), (waitT M y k)[i]'(by unfold waitT; rw [List.length_modify]; exact hi) = if posM M y = i then ⟨M[i].id, M[i].stamp, true, k⟩ else M[i] := fun i hi => by
    simp only [waitT, List.getElem_modify]
  have hlen : (waitT M y k).length = M.length := by unfold waitT; rw [List.length_modify]
  constructor
  · rintro ⟨m, hm, h2, h3, h4⟩
    obtain ⟨i, hi, e⟩ := List.getElem_of_mem hm
    rw [hlen] at hi
    rw [hg i hi] at e
    split at e
    · rename_i e2; subst e2; subst e
      exact .inr ⟨h2.symm.trans hpi, h4.symm⟩
    · rename_i hne; subst e
      exact .inl ⟨fun e => hne (sortM_inj hs hp hi (hpi.trans (e.symm.trans h2.symm))), _, List.getElem_mem hi, h2, h3, h4⟩
  · rintro (⟨hne, m, hm, h2, h3, h4⟩ | ⟨rfl, rfl⟩)
    · obtain ⟨i, hi, rfl⟩ := List.getElem_of_mem hm
      refine ⟨M[i], List.mem_iff_getElem.2 ⟨i, by rw [hlen]; exact hi, ?_⟩, h2, h3, h4⟩
      rw [hg i hi, if_neg (fun e => hne (by subst e; rw [← h2, hpi]))]
    · refine ⟨⟨M[posM M z].id, M[posM M z].stamp, true, k'⟩, List.mem_iff_getElem.2 ⟨posM M z, by rw [hlen]; exact hp, ?_⟩, hpi, rfl, rfl⟩
      rw [hg _ hp, if_pos rfl]
theorem leave_lost {wd : Bool} {M : List Mb} {K : List Lk} {id : Int} (ok : TOk M K) (hh : hasM M id = true) : (leaveT wd M K id).1 = 0 ∧ Lost id M K (leaveT wd M K id).2.1 (leaveT wd M K id).2.2 := by
  unfold leaveT
  rw [if_pos hh]
  refine ⟨rfl, ?_⟩
  have hl := losesT_lost (wd := wd) ok hh
  have hok := losesT_ok (wd := wd) (id := id) ok
  have hids := losesT_ids wd M K id
  have hh2 : hasM (losesT wd M K id).1 id = true := by rw [hasM_ids hids]; exact hh
  have hpos : posM (losesT wd M K id).1 id = posM M id := posM_ids hids id
  simp only
  rw [← hpos]
  generalize losesT wd M K id = s at *
  obtain ⟨hp, hpi⟩ := (hasM_iff hok.sm id).1 hh2
  have hw : ∀ z k, WaitsOn (s.1.eraseIdx (posM s.1 id)) z k ↔ WaitsOn s.1 z k := fun z k => by
    constructor
    · rintro ⟨m, hm, h2, h3, h4⟩
      exact ⟨m, List.mem_of_mem_eraseIdx hm, h2, h3, h4⟩
    · rintro ⟨m, hm, h2, h3, h4⟩
      refine ⟨m, List.mem_eraseIdx_iff_getElem.2 ?_, h2, h3, h4⟩
      obtain ⟨i, hi, rfl⟩ := List.getElem_of_mem hm
      refine ⟨i, hi, fun e => ?_, rfl⟩
      subst e
      rw [hpi] at h2
      subst h2
      exact hl.rest k ⟨_, List.getElem_mem hi, hpi, h3, h4⟩
  exact ⟨hl.non, fun k hx => hl.rest k ((hw id k).1 hx), hl.oth, fun k h hk => by
    obtain ⟨a, b⟩ := hl.new k h hk
    exact ⟨a, b.imp (fun t => t) fun ⟨c, d, e⟩ => ⟨c, d, fun k' hx => e k' ((hw h k').1 hx)⟩⟩, fun z k hz hx => (hl.wt z k hz hx).imp (hw z k).2 (fun t => t), fun z k hx => hl.les z k ((hw z k).1 hx)⟩
/-- what asking does. -/
theorem ask_eff {wd : Bool} {M : List Mb} {K : List Lk} {y : Int} {k : ByteArray} (ok : TOk M K) (hI : HoldOk M K) (hz : k.size ≤ 16) (hh : hasM M y = true) (hnw : ∀ k, ¬ WaitsOn M y k) {n e : Int} {M' : List Mb} {K' : List Lk} (ha : askT wd M K y k = ((n, e), M', K')) (hy0 : 0 ≤ y) :
    (e = 0 ∧ M' = M ∧ ∀ l, l ∈ K' ↔ l ∈ K ∨ l = ⟨k, y⟩) ∨
    (e = 10 ∧ n ≠ y ∧ K' = K ∧ Waits y k M M' ∧ ∃ hd, (⟨k, hd⟩ : Lk) ∈ K ∧ hd ≠ y) ∨
    (e = 11 ∧ wd = false ∧ Lost y M K M' K' ∧ ∃ hd, (⟨k, hd⟩ : Lk) ∈ K ∧ hd ≠ y ∧ hasM M hd = true ∧ ¬ older (mbOf M y) (mbOf M hd)) ∨
    (wd = true ∧ (e = 0 ∨ e = 10 ∧ n ≠ y) ∧ ∃ hd M1, hd ≠ y ∧ (⟨k, hd⟩ : Lk) ∈ K ∧ hasM M hd = true ∧ older (mbOf M y) (mbOf M hd) ∧ Waits y k M M1 ∧ Lost hd M1 K M' K') := by
  unfold askT at ha
  rw [if_neg (by omega), if_neg (by rw [hh]; simp)] at ha
  obtain ⟨hl, hle⟩ := (hasM_iff ok.sm y).1 hh
  have hw : waitsAt M (posM M y) = false := by
    rw [waitsAt_eq hl]
    cases e : M[posM M y].waits with
    | false => rfl
    | true => exact absurd ⟨_, List.getElem_mem hl, hle, e, rfl⟩ (hnw _)
  rw [if_neg (by rw [hw]; simp)] at ha
  by_cases hk : hasK K k = false
  · rw [if_pos hk] at ha
    obtain ⟨h1, h2⟩ := Prod.mk.inj ha
    obtain ⟨-, rfl⟩ := Prod.mk.inj h1
    obtain ⟨rfl, rfl⟩ := Prod.mk.inj h2
    exact .inl ⟨rfl, rfl, fun l => by rw [mem_insAt]; exact ⟨fun h => h.elim .inr .inl, fun h => h.elim .inr .inl⟩⟩
  rw [if_neg hk] at ha
  have hk : hasK K k = true := by simpa using hk
  obtain ⟨l, hlK, e1, e2⟩ := holdK_mem ok.sk hk
  have hmem : (⟨k, holdK K k⟩ : Lk) ∈ K := by
    have : l = ⟨k, holdK K k⟩ := by obtain ⟨a, b⟩ := l; simp only at e1 e2; rw [e1, e2]
    rw [← this]; exact hlK
  by_cases he : holdK K k = y
  · rw [if_pos he] at ha
    obtain ⟨h1, h2⟩ := Prod.mk.inj ha
    obtain ⟨-, rfl⟩ := Prod.mk.inj h1
    obtain ⟨rfl, rfl⟩ := Prod.mk.inj h2
    exact .inl ⟨rfl, rfl, fun l => ⟨.inl, fun h => h.elim id fun e => by subst e; rw [← he]; exact hmem⟩⟩
  rw [if_neg he] at ha
  have hh2 : hasM M (holdK K k) = true := hI _ hmem
  by_cases hag : ageC (mbOf M y) (mbOf M (holdK K k)) < 0
  · rw [if_pos hag] at ha
    by_cases hwd : wd = true
    · rw [if_pos hwd] at ha
      obtain ⟨h1, h2⟩ := Prod.mk.inj ha
      obtain ⟨rfl, h3⟩ := Prod.mk.inj h1
      have hok1 : TOk (waitT M y k) K := waitT_ok ok
      refine .inr (.inr (.inr ⟨hwd, ?_, holdK K k, waitT M y k, he, hmem, hh2, (older_iff _ _).2 hag, waitT_Waits ok.sm hh k, ?_⟩))
      · split at h3
        · exact .inr ⟨h3.symm, he⟩
        · exact .inl h3.symm
      · have := losesT_lost (wd := wd) hok1 (id := holdK K k) (by rw [hasM_ids (waitT_ids M y k)]; exact hh2)
        rw [h2] at this; exact this
    · rw [if_neg hwd] at ha
      obtain ⟨h1, h2⟩ := Prod.mk.inj ha
      obtain ⟨rfl, rfl⟩ := Prod.mk.inj h1
      obtain ⟨rfl, rfl⟩ := Prod.mk.inj h2
      exact .inr (.inl ⟨rfl, by omega, rfl, waitT_Waits ok.sm hh k, _, hmem, he⟩)
  · rw [if_neg hag] at ha
    by_cases hwd : wd = true
    · rw [if_pos hwd] at ha
      obtain ⟨h1, h2⟩ := Prod.mk.inj ha
      obtain ⟨rfl, rfl⟩ := Prod.mk.inj h1
      obtain ⟨rfl, rfl⟩ := Prod.mk.inj h2
      exact .inr (.inl ⟨rfl, by omega, rfl, waitT_Waits ok.sm hh k, _, hmem, he⟩)
    · rw [if_neg hwd] at ha
      obtain ⟨h1, h2⟩ := Prod.mk.inj ha
      obtain ⟨-, rfl⟩ := Prod.mk.inj h1
      have := losesT_lost (wd := wd) ok hh
      rw [h2] at this
      exact .inr (.inr (.inl ⟨rfl, by simpa using hwd, this, _, hmem, he, hh2, fun h => hag ((older_iff _ _).1 h)⟩))
end Go.Proofs.Ytlmfpkfgjfdhgaa
