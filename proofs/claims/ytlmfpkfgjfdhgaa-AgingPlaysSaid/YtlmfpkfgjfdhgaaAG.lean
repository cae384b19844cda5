/- The eldest keeps what it holds (plain law). -/
import Derived.Test.YtlmfpkfgjfdhgaaAE
namespace Go.Proofs.Ytlmfpkfgjfdhgaa
open Go.RowKit

-- who is who stays
def sgM (m : Mb) : Int × Int := (m.id, m.stamp)
theorem map_modify {α β : Type} (g : α → β) (f : α → α) (h : ∀ x, g (f x) = g x) (l : List α) (q : Nat) : (l.modify q f).map g = l.map g := by
  apply List.ext_getElem
  · simp
  · intro j h1 h2
    simp only [List.getElem_map, List.getElem_modify]
    split
    · exact h _
    · rfl
theorem restM_sg (M : List Mb) (id : Int) : (restM M id).map sgM = M.map sgM := by unfold restM; rw [map_modify]; intro _; rfl
theorem waitT_sg (M : List Mb) (id : Int) (key : ByteArray) : (waitT M id key).map sgM = M.map sgM := by unfold waitT; rw [map_modify]; intro _; rfl
theorem giveT_sg (wd : Bool) (M : List Mb) (K : List Lk) (key : ByteArray) : (giveT wd M K key).1.map sgM = M.map sgM := by
  unfold giveT
  split
  · rfl
  · exact restM_sg _ _
theorem gives_sg (wd : Bool) : ∀ (ks : List ByteArray) (s : List Mb × List Lk), (gives wd s ks).1.map sgM = s.1.map sgM
  | [], _ => rfl
  | k :: r, s => by
    rw [show gives wd s (k :: r) = gives wd (giveT wd s.1 s.2 k) r from rfl, gives_sg wd r]
    exact giveT_sg ..
theorem losesT_sg (wd : Bool) (M : List Mb) (K : List Lk) (id : Int) : (losesT wd M K id).1.map sgM = M.map sgM := by
  unfold losesT
  rw [gives_sg]
  exact restM_sg ..
theorem askT_sg (wd : Bool) (M : List Mb) (K : List Lk) (id : Int) (key : ByteArray) : (askT wd M K id key).2.1.map sgM = M.map sgM := by
  unfold askT
  split
  · rfl
  split
  · rfl
  split
  · rfl
  split
  · rfl
  split
  · rfl
  split
  · split
    · exact (losesT_sg ..).trans (waitT_sg ..)
    · exact waitT_sg ..
  · split
    · exact waitT_sg ..
    · exact losesT_sg ..
theorem mem_sg {M M' : List Mb} (h : M'.map sgM = M.map sgM) {m : Mb} (hm : m ∈ M') : ∃ m0 ∈ M, m0.id = m.id ∧ m0.stamp = m.stamp := by
  have h1 : sgM m ∈ M.map sgM := by rw [← h]; exact List.mem_map_of_mem hm
  obtain ⟨m0, h2, h3⟩ := List.mem_map.1 h1
  simp only [sgM, Prod.mk.injEq] at h3
  exact ⟨m0, h2, h3⟩

-- what another one holds stays
theorem giveT_keeps {wd : Bool} {M : List Mb} {K : List Lk} {key : ByteArray} (hs : SortK K) (hk : hasK K key = true) {l : Lk} (hl : l ∈ K) (hne : l.key ≠ key) : l ∈ (giveT wd M K key).2 := by
  obtain ⟨hp, hpk⟩ := (hasK_iff hs key).1 hk
  obtain ⟨j, hj, rfl⟩ := List.getElem_of_mem hl
  have hjp : j ≠ posK K key := fun e => by subst e; exact hne hpk
  unfold giveT
  split
  · exact List.mem_eraseIdx_iff_getElem.2 ⟨j, hj, hjp, rfl⟩
  · rw [List.mem_iff_getElem]
    refine ⟨j, by rw [List.length_modify]; exact hj, ?_⟩
    rw [List.getElem_modify, if_neg (fun e => hjp e.symm)]
theorem gives_keeps {wd : Bool} : ∀ (ks : List ByteArray) (s : List Mb × List Lk), TOk s.1 s.2 → (∀ x ∈ ks, hasK s.2 x = true) → ks.Nodup → ∀ l ∈ s.2, l.key ∉ ks → l ∈ (gives wd s ks).2
  | [], _, _, _, _, l, hl, _ => hl
  | x :: r, s, h, ha, hn, l, hl, hk => by
    obtain ⟨n1, n2⟩ := List.nodup_cons.1 hn
    have hx := ha x (List.mem_cons_self ..)
    exact gives_keeps (wd := wd) r (giveT wd s.1 s.2 x) (giveT_ok h) (fun y hy => by
      rw [giveT_has h.sk hx (fun e => n1 (e ▸ hy))]; exact ha y (List.mem_cons_of_mem _ hy)) n2 l (giveT_keeps h.sk hx hl (fun e => hk (by rw [e]; exact List.mem_cons_self ..))) (fun hm => hk (List.mem_cons_of_mem _ hm))
theorem restM_tok {M : List Mb} {K : List Lk} (id : Int) (h : TOk M K) : TOk (restM M id) K :=
  ⟨sortM_ids h.sm (restM_ids M id), h.sk, by have := congrArg List.length (restM_ids M id); simp only [List.length_map] at this; rw [this]; exact h.fm, h.fk⟩
theorem losesT_keeps {wd : Bool} {M : List Mb} {K : List Lk} {id : Int} (h : TOk M K) {l : Lk} (hl : l ∈ K) (hne : l.holder ≠ id) : l ∈ (losesT wd M K id).2 := by
  unfold losesT
  refine gives_keeps (holdsK K id) (restM M id, K) (restM_tok id h) (fun x hx => holdsK_has hx) (holdsK_nodup h.sk id) l hl fun hm => ?_
  obtain ⟨l2, h2, e⟩ := List.mem_map.1 hm
  obtain ⟨h3, h4⟩ := List.mem_filter.1 h2
  obtain ⟨i, hi, rfl⟩ := List.getElem_of_mem hl
  obtain ⟨j, hj, rfl⟩ := List.getElem_of_mem h3
  have := sortK_inj h.sk hj hi e
  subst this
  exact hne (by simpa using h4)

/-- what holds while number 1000 is the eldest. -/
structure EOk (M : List Mb) (K : List Lk) : Prop where
  sok : SOk M K
  has : hasM M 1000 = true
  old : ∀ m ∈ M, m.id = 1000 → m.stamp = 0
  yng : ∀ m ∈ M, m.id ≠ 1000 → 1 ≤ m.stamp
theorem mbOf_has {M : List Mb} (hs : SortM M) {id : Int} (h : hasM M id = true) : mbOf M id ∈ M ∧ (mbOf M id).id = id := by
  obtain ⟨h1, h2⟩ := (hasM_iff hs id).1 h
  rw [mbOf_eq h1]
  exact ⟨List.getElem_mem h1, h2⟩
theorem EOk.elder {M : List Mb} {K : List Lk} (h : EOk M K) {id : Int} (hi : hasM M id = true) (hne : id ≠ 1000) : ageC (mbOf M 1000) (mbOf M id) < 0 ∧ ¬ ageC (mbOf M id) (mbOf M 1000) < 0 := by
  obtain ⟨h1, h2⟩ := mbOf_has h.sok.ok.sm h.has
  obtain ⟨h3, h4⟩ := mbOf_has h.sok.ok.sm hi
  have a := h.old _ h1 h2
  have b := h.yng _ h3 (by rw [h4]; exact hne)
  rw [ageC_neg, ageC_neg]
  omega
theorem EOk.sig {M M' : List Mb} {K K' : List Lk} (h : EOk M K) (hs : SOk M' K') (e : M'.map sgM = M.map sgM) : EOk M' K' := by
  refine ⟨hs, ?_, fun m hm hi => ?_, fun m hm hi => ?_⟩
  · rw [hasM_ids (M := M) (by have := congrArg (List.map Prod.fst) e; simpa [List.map_map, Function.comp_def, sgM] using this)]; exact h.has
  · obtain ⟨m0, h1, h2, h3⟩ := mem_sg e hm
    rw [← h3]; exact h.old m0 h1 (by rw [h2]; exact hi)
  · obtain ⟨m0, h1, h2, h3⟩ := mem_sg e hm
    rw [← h3]; exact h.yng m0 h1 (by rw [h2]; exact hi)
theorem EOk.join {M M' : List Mb} {K : List Lk} {id stamp x : Int} (h : EOk M K) (hne : id ≠ 1000) (hst : 1 ≤ stamp) (e : joinT M id stamp = (x, M')) : EOk M' K := by
  have hs := h.sok.join e
  have hM : M' = M ∨ M' = insAt M (posM M id) ⟨id, stamp, false, ⟨#[]⟩⟩ := by
    unfold joinT at e
    split at e
    · exact .inl (Prod.mk.inj e).2.symm
    split at e
    · exact .inl (Prod.mk.inj e).2.symm
    split at e
    · exact .inl (Prod.mk.inj e).2.symm
    · exact .inr (Prod.mk.inj e).2.symm
  rcases hM with rfl | rfl
  · exact ⟨hs, h.has, h.old, h.yng⟩
  · refine ⟨hs, hasM_mono (fun m hm => ⟨m, mem_insAt.2 (.inr hm), rfl⟩) h.has, fun m hm hi => ?_, fun m hm hi => ?_⟩
    · rcases mem_insAt.1 hm with rfl | hm
      · exact absurd hi hne
      · exact h.old m hm hi
    · rcases mem_insAt.1 hm with rfl | hm
      · exact hst
      · exact h.yng m hm hi
abbrev Keeps (K K' : List Lk) : Prop := ∀ l ∈ K, l.holder = 1000 → l ∈ K'
theorem EOk.leave {wd : Bool} {M M' : List Mb} {K K' : List Lk} {id x : Int} (h : EOk M K) (hne : id ≠ 1000) (e : leaveT wd M K id = (x, M', K')) : EOk M' K' ∧ Keeps K K' := by
  have hs := (h.sok.leave e).1
  unfold leaveT at e
  split at e
  · rename_i hhI
    simp only [Prod.mk.injEq] at e
    obtain ⟨_, rfl, rfl⟩ := e
    have hsg := losesT_sg wd M K id
    refine ⟨⟨hs, ?_, fun m hm hi => ?_, fun m hm hi => ?_⟩, fun l hl hh => losesT_keeps h.sok.ok hl (by rw [hh]; exact fun e => hne e.symm)⟩
    · have h1 : hasM (losesT wd M K id).1 1000 = true := by rw [hasM_ids (losesT_ids ..)]; exact h.has
      have hsm := (losesT_ok (wd := wd) (id := id) h.sok.ok).sm
      obtain ⟨m, hm, hi⟩ := List.any_eq_true.1 h1
      have hi : m.id = 1000 := by simpa using hi
      obtain ⟨j, hj, rfl⟩ := List.getElem_of_mem hm
      refine List.any_eq_true.2 ⟨_, List.mem_eraseIdx_iff_getElem.2 ⟨j, hj, fun ej => ?_, rfl⟩, by simpa using hi⟩
      have hhl : hasM (losesT wd M K id).1 id = true := by rw [hasM_ids (losesT_ids ..)]; exact hhI
      obtain ⟨q1, q2⟩ := (hasM_iff hsm id).1 hhl
      rw [← posM_ids (losesT_ids wd M K id) id] at ej
      subst ej
      exact hne (q2.symm.trans hi)
    · obtain ⟨m0, h1, h2, h3⟩ := mem_sg hsg (List.mem_of_mem_eraseIdx hm)
      rw [← h3]; exact h.old m0 h1 (by rw [h2]; exact hi)
    · obtain ⟨m0, h1, h2, h3⟩ := mem_sg hsg (List.mem_of_mem_eraseIdx hm)
      rw [← h3]; exact h.yng m0 h1 (by rw [h2]; exact hi)
  · simp only [Prod.mk.injEq] at e
    obtain ⟨_, rfl, rfl⟩ := e
    exact ⟨h, fun l hl _ => hl⟩
theorem holdK_mem {K : List Lk} (hs : SortK K) {key : ByteArray} (hk : hasK K key = true) : ∃ l ∈ K, l.key = key ∧ l.holder = holdK K key := by
  obtain ⟨h1, h2⟩ := (hasK_iff hs key).1 hk
  refine ⟨_, List.getElem_mem h1, h2, ?_⟩
  unfold holdK; rw [hk]; simp [h1]
theorem EOk.ask {wd : Bool} {M M' : List Mb} {K K' : List Lk} {id x y : Int} {key : ByteArray} (h : EOk M K) (hb : K.length < 100000) (e : askT wd M K id key = ((x, y), M', K')) : EOk M' K' ∧ Keeps K K' ∧ x ≠ 1000 ∧ (id = 1000 → y ≠ 11) := by
  have hs := (h.sok.ask hb e).1
  have hsg := askT_sg wd M K id key
  rw [e] at hsg
  refine ⟨h.sig hs hsg, ?_⟩
  unfold askT at e
  split at e
  · simp only [Prod.mk.injEq] at e
    obtain ⟨⟨rfl, rfl⟩, rfl, rfl⟩ := e
    exact ⟨fun l hl _ => hl, by decide, fun _ => by decide⟩
  split at e
  · simp only [Prod.mk.injEq] at e
    obtain ⟨⟨rfl, rfl⟩, rfl, rfl⟩ := e
    exact ⟨fun l hl _ => hl, by decide, fun _ => by decide⟩
  rename_i hmem
  have hmem : hasM M id = true := by simpa using hmem
  split at e
  · simp only [Prod.mk.injEq] at e
    obtain ⟨⟨rfl, rfl⟩, rfl, rfl⟩ := e
    exact ⟨fun l hl _ => hl, by decide, fun _ => by decide⟩
  split at e
  · simp only [Prod.mk.injEq] at e
    obtain ⟨⟨rfl, rfl⟩, rfl, rfl⟩ := e
    exact ⟨fun l hl _ => mem_insAt.2 (.inr hl), by decide, fun _ => by decide⟩
  rename_i hk
  have hk : hasK K key = true := by simpa using hk
  obtain ⟨l0, hl0, _, hh0⟩ := holdK_mem h.sok.ok.sk hk
  have hhm : hasM M (holdK K key) = true := by rw [← hh0]; exact h.sok.hold l0 hl0
  split at e
  · simp only [Prod.mk.injEq] at e
    obtain ⟨⟨rfl, rfl⟩, rfl, rfl⟩ := e
    exact ⟨fun l hl _ => hl, by decide, fun _ => by decide⟩
  rename_i hne
  split at e
  · rename_i hag
    have hd : holdK K key ≠ 1000 := fun e2 => by
      rw [e2] at hag hne
      exact (h.elder hmem (fun e3 => hne e3.symm)).2 hag
    split at e
    · simp only [Prod.mk.injEq] at e
      obtain ⟨⟨rfl, rfl⟩, e2⟩ := e
      refine ⟨fun l hl hh => by have := losesT_keeps (wd := wd) (waitT_ok (id := id) (key := key) h.sok.ok) hl (id := holdK K key) (by rw [hh]; exact fun e => hd e.symm); rw [e2] at this; exact this, hd, fun _ => ?_⟩
      split <;> decide
    · simp only [Prod.mk.injEq] at e
      obtain ⟨⟨rfl, rfl⟩, rfl, rfl⟩ := e
      exact ⟨fun l hl _ => hl, by decide, fun _ => by decide⟩
  · rename_i hag
    split at e
    · simp only [Prod.mk.injEq] at e
      obtain ⟨⟨rfl, rfl⟩, rfl, rfl⟩ := e
      exact ⟨fun l hl _ => hl, by decide, fun _ => by decide⟩
    · simp only [Prod.mk.injEq] at e
      obtain ⟨⟨rfl, rfl⟩, e2⟩ := e
      have hi : id ≠ 1000 := fun e2 => by
        subst e2
        exact hag (h.elder hhm hne).1
      exact ⟨fun l hl hh => by have := losesT_keeps (wd := wd) h.sok.ok hl (id := id) (by rw [hh]; exact fun e => hi e.symm); rw [e2] at this; exact this, by decide, fun e2 => absurd e2 hi⟩
theorem Keeps.holds {K K' : List Lk} (h : Keeps K K') {s : ByteArray} (hs : s ∈ holdsK K 1000) : s ∈ holdsK K' 1000 := by
  obtain ⟨l, h1, rfl⟩ := List.mem_map.1 hs
  obtain ⟨h2, h3⟩ := List.mem_filter.1 h1
  exact List.mem_map.2 ⟨l, List.mem_filter.2 ⟨h l h2 (by simpa using h3), h3⟩, rfl⟩
theorem eld0 : joinT [] 1000 0 = (0, [⟨1000, 0, false, nk⟩]) := by kernel_rfl
theorem EOk.start : EOk [⟨1000, 0, false, nk⟩] [] := ⟨SOk.nil.join eld0, by kernel_rfl, by simp, by simp⟩
end Go.Proofs.Ytlmfpkfgjfdhgaa
