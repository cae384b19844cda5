/- Who is given what when one loses all. -/
import Derived.Test.YtlmfpkfgjfdhgaaAM
namespace Go.Proofs.Ytlmfpkfgjfdhgaa
open Go.RowKit

/-- one waits for a key. -/
def WaitsOn (M : List Mb) (z : Int) (k : ByteArray) : Prop := ∃ m ∈ M, m.id = z ∧ m.waits = true ∧ m.key = k
theorem WaitsOn.uniq {M : List Mb} (hs : SortM M) {z : Int} {k k' : ByteArray} (h : WaitsOn M z k) (h' : WaitsOn M z k') : k = k' := by
  obtain ⟨m, h1, h2, h3, h4⟩ := h
  obtain ⟨m', h1', h2', h3', h4'⟩ := h'
  have := sortM_id hs h1 h1' (h2.trans h2'.symm)
  subst this
  exact h4.symm.trans h4'
theorem WaitsOn.rest {M : List Mb} (hs : SortM M) {id : Int} (hh : hasM M id = true) {z : Int} {k : ByteArray} : WaitsOn (restM M id) z k ↔ WaitsOn M z k ∧ z ≠ id := by
  constructor
  · rintro ⟨m, h1, h2, h3, h4⟩
    exact ⟨⟨m, restM_waits h1 h3, h2, h3, h4⟩, fun e => restM_not hs hh h1 h3 (h2.trans e)⟩
  · rintro ⟨⟨m, h1, h2, h3, h4⟩, hne⟩
    obtain ⟨i, hi, rfl⟩ := List.getElem_of_mem h1
    obtain ⟨hp, hpi⟩ := (hasM_iff hs id).1 hh
    have hj : ¬ posM M id = i := fun e => hne (by subst e; rw [← h2, hpi])
    refine ⟨M[i], List.mem_iff_getElem.2 ⟨i, ?_, ?_⟩, h2, h3, h4⟩
    · unfold restM; rw [List.length_modify]; exact hi
    · simp only [restM, List.getElem_modify]; rw [if_neg hj]
theorem holder_uniq {K : List Lk} (hs : SortK K) {k : ByteArray} {h h' : Int} (a : (⟨k, h⟩ : Lk) ∈ K) (b : (⟨k, h'⟩ : Lk) ∈ K) : h = h' := by
  obtain ⟨i, hi, e⟩ := List.getElem_of_mem a
  obtain ⟨j, hj, e'⟩ := List.getElem_of_mem b
  have := sortK_inj hs hi hj (by rw [e, e'])
  subst this
  rw [e] at e'
  exact congrArg Lk.holder e'
theorem hasK_mem {K : List Lk} {k : ByteArray} {h : Int} (a : (⟨k, h⟩ : Lk) ∈ K) : hasK K k = true := List.any_eq_true.2 ⟨_, a, by simp⟩
theorem hasM_waits {M : List Mb} {z : Int} {k : ByteArray} (h : WaitsOn M z k) : hasM M z = true := by
  obtain ⟨m, h1, rfl, -⟩ := h
  exact hasM_mem h1
/-- what giving a key does. -/
structure Given (ks : List ByteArray) (M : List Mb) (K : List Lk) (M' : List Mb) (K' : List Lk) : Prop where
  oth : ∀ k h, k ∉ ks → ((⟨k, h⟩ : Lk) ∈ K' ↔ (⟨k, h⟩ : Lk) ∈ K)
  new : ∀ k h, k ∈ ks → (⟨k, h⟩ : Lk) ∈ K' → WaitsOn M h k ∧ ∀ k', ¬ WaitsOn M' h k'
  wt : ∀ z k, WaitsOn M z k → WaitsOn M' z k ∨ (k ∈ ks ∧ (⟨k, z⟩ : Lk) ∈ K')
  les : ∀ z k, WaitsOn M' z k → WaitsOn M z k
theorem giveT_given {wd : Bool} {M : List Mb} {K : List Lk} {key : ByteArray} (ok : TOk M K) (hh : hasK K key = true) : Given [key] M K (giveT wd M K key).1 (giveT wd M K key).2 := by
  obtain ⟨hp, hpk⟩ := (hasK_iff ok.sk key).1 hh
  unfold giveT
  split
  · rename_i hnil
    have hno : ∀ z, ¬ WaitsOn M z key := fun z ⟨m, h1, _, h3, h4⟩ => by
      have : m ∈ waitM M key := mem_waitM.2 ⟨h1, h3, h4⟩
      rw [hnil] at this; cases this
    have hmem : ∀ l : Lk, l ∈ K.eraseIdx (posK K key) ↔ l ∈ K ∧ l.key ≠ key := fun l => by
      rw [List.mem_eraseIdx_iff_getElem]
      constructor
      · rintro ⟨i, hi, hne, rfl⟩
        exact ⟨List.getElem_mem hi, fun e => hne (sortK_inj ok.sk hi hp (e.trans hpk.symm))⟩
      · rintro ⟨h1, h2⟩
        obtain ⟨i, hi, rfl⟩ := List.getElem_of_mem h1
        exact ⟨i, hi, fun e => h2 (by subst e; exact hpk), rfl⟩
    refine ⟨fun k h hk => ?_, fun k h hk hm => ?_, fun z k hw => .inl hw, fun z k hw => hw⟩
    · rw [hmem]
      exact ⟨fun h => h.1, fun h => ⟨h, fun e => hk (by simp only at e; subst e; simp)⟩⟩
    · have := (hmem _).1 hm
      exact absurd (by simpa using hk) this.2
  · rename_i x0 r hcons
    have hpw : pickM wd x0 r ∈ waitM M key := by rw [hcons]; exact pick_mem wd x0 r
    obtain ⟨p1, p2, p3⟩ := mem_waitM.1 hpw
    have hhp := hasM_mem p1
    generalize pickM wd x0 r = z at *
    have hwz : WaitsOn M z.id key := ⟨z, p1, rfl, p2, p3⟩
    have hmem : ∀ l : Lk, l ∈ (K.modify (posK K key) fun l => ⟨l.key, z.id⟩) ↔ (l ∈ K ∧ l.key ≠ key) ∨ l = ⟨key, z.id⟩ := fun l => by
      constructor
      · intro h
        obtain ⟨i, hi, e⟩ := List.getElem_of_mem h
        rw [List.length_modify] at hi
        rw [List.getElem_modify] at e
        split at e
        · rename_i e2; subst e2; right; rw [← e, hpk]
        · rename_i hne; left
          subst e
          exact ⟨List.getElem_mem hi, fun e => hne (sortK_inj ok.sk hp hi (hpk.trans e.symm))⟩
      · rintro (⟨h1, h2⟩ | rfl)
        · obtain ⟨i, hi, rfl⟩ := List.getElem_of_mem h1
          refine List.mem_iff_getElem.2 ⟨i, by rw [List.length_modify]; exact hi, ?_⟩
          rw [List.getElem_modify, if_neg (fun e => h2 (by subst e; exact hpk))]
        · refine List.mem_iff_getElem.2 ⟨posK K key, by rw [List.length_modify]; exact hp, ?_⟩
          rw [List.getElem_modify, if_pos rfl, hpk]
    refine ⟨fun k h hk => ?_, fun k h hk hm => ?_, fun y k hw => ?_, fun y k hw => ((WaitsOn.rest ok.sm hhp).1 hw).1⟩
    · have hk : k ≠ key := by simpa using hk
      rw [hmem]
      constructor
      · rintro (h | h)
        · exact h.1
        · exact absurd (congrArg Lk.key h) hk
      · exact fun h => .inl ⟨h, hk⟩
    · obtain rfl : k = key := by simpa using hk
      rcases (hmem _).1 hm with h1 | h1
      · exact absurd rfl h1.2
      · obtain rfl : h = z.id := congrArg Lk.holder h1
        exact ⟨hwz, fun k' hw => ((WaitsOn.rest ok.sm hhp).1 hw).2 rfl⟩
    · by_cases e : y = z.id
      · subst e
        obtain rfl : k = key := WaitsOn.uniq ok.sm hw hwz
        exact .inr ⟨by simp, (hmem _).2 (.inr rfl)⟩
      · exact .inl ((WaitsOn.rest ok.sm hhp).2 ⟨hw, e⟩)
theorem gives_given {wd : Bool} : ∀ (ks : List ByteArray) (s : List Mb × List Lk), TOk s.1 s.2 → (∀ x ∈ ks, hasK s.2 x = true) → ks.Nodup → Given ks s.1 s.2 (gives wd s ks).1 (gives wd s ks).2
  | [], s, _, _, _ => ⟨fun _ _ _ => Iff.rfl, fun _ _ h => (by cases h), fun _ _ h => .inl h, fun _ _ h => h⟩
  | k0 :: r, s, ok, ha, hn => by
    obtain ⟨n1, n2⟩ := List.nodup_cons.1 hn
    have hx := ha k0 (List.mem_cons_self ..)
    have g := giveT_given (wd := wd) ok hx
    have ih := gives_given (wd := wd) r (giveT wd s.1 s.2 k0) (giveT_ok ok) (fun y hy => by
      rw [giveT_has ok.sk hx (fun e => n1 (e ▸ hy))]; exact ha y (List.mem_cons_of_mem _ hy)) n2
    rw [show gives wd s (k0 :: r) = gives wd (giveT wd s.1 s.2 k0) r from rfl]
    generalize giveT wd s.1 s.2 k0 = s1 at *
    refine ⟨fun k h hk => ?_, fun k h hk hm => ?_, fun z k hw => ?_, fun z k hw => g.les z k (ih.les z k hw)⟩
    · rw [List.mem_cons, not_or] at hk
      rw [ih.oth k h hk.2, g.oth k h (by simpa using hk.1)]
    · rcases List.mem_cons.1 hk with rfl | hk
      · obtain ⟨a, b⟩ := g.new k h (by simp) ((ih.oth k h n1).1 hm)
        exact ⟨a, fun k' hw => b k' (ih.les h k' hw)⟩
      · obtain ⟨a, b⟩ := ih.new k h hk hm
        exact ⟨g.les h k a, b⟩
    · rcases g.wt z k hw with h1 | ⟨h1, h2⟩
      · rcases ih.wt z k h1 with h3 | ⟨h3, h4⟩
        · exact .inl h3
        · exact .inr ⟨List.mem_cons_of_mem _ h3, h4⟩
      · obtain rfl : k = k0 := by simpa using h1
        exact .inr ⟨List.mem_cons_self .., (ih.oth k z n1).2 h2⟩
theorem mem_holdsK {K : List Lk} {id : Int} {k : ByteArray} : k ∈ holdsK K id ↔ (⟨k, id⟩ : Lk) ∈ K := by
  unfold holdsK
  rw [List.mem_map]
  constructor
  · rintro ⟨l, hl, rfl⟩
    obtain ⟨h1, h2⟩ := List.mem_filter.1 hl
    have h2 : l.holder = id := by simpa using h2
    subst h2; exact h1
  · intro h
    exact ⟨_, List.mem_filter.2 ⟨h, by simp⟩, rfl⟩
/-- what one's loss of all does. -/
structure Lost (id : Int) (M : List Mb) (K : List Lk) (M' : List Mb) (K' : List Lk) : Prop where
  non : ∀ k, (⟨k, id⟩ : Lk) ∉ K'
  rest : ∀ k, ¬ WaitsOn M' id k
  oth : ∀ k h, (⟨k, h⟩ : Lk) ∈ K → h ≠ id → (⟨k, h⟩ : Lk) ∈ K'
  new : ∀ k h, (⟨k, h⟩ : Lk) ∈ K' → h ≠ id ∧ ((⟨k, h⟩ : Lk) ∈ K ∨ ((⟨k, id⟩ : Lk) ∈ K ∧ WaitsOn M h k ∧ ∀ k', ¬ WaitsOn M' h k'))
  wt : ∀ z k, z ≠ id → WaitsOn M z k → WaitsOn M' z k ∨ ((⟨k, id⟩ : Lk) ∈ K ∧ (⟨k, z⟩ : Lk) ∈ K')
  les : ∀ z k, WaitsOn M' z k → WaitsOn M z k
theorem losesT_lost {wd : Bool} {M : List Mb} {K : List Lk} {id : Int} (ok : TOk M K) (hh : hasM M id = true) : Lost id M K (losesT wd M K id).1 (losesT wd M K id).2 := by
  have g := gives_given (wd := wd) (holdsK K id) (restM M id, K) (restM_tok id ok) (fun x hx => holdsK_has hx) (holdsK_nodup ok.sk id)
  have hf := losesT_free (wd := wd) ok hh
  unfold losesT at *
  generalize gives wd (restM M id, K) (holdsK K id) = s at *
  refine ⟨fun k hk => hf _ hk rfl, fun k hw => ((WaitsOn.rest ok.sm hh).1 (g.les id k hw)).2 rfl, fun k h hk hne => ?_, fun k h hk => ?_, fun z k hz hw => ?_, fun z k hw => ((WaitsOn.rest ok.sm hh).1 (g.les z k hw)).1⟩
  · exact (g.oth k h (fun hm => hne (holder_uniq ok.sk hk (mem_holdsK.1 hm)))).2 hk
  · refine ⟨fun e => hf _ hk e, ?_⟩
    by_cases hm : k ∈ holdsK K id
    · obtain ⟨a, b⟩ := g.new k h hm hk
      exact .inr ⟨mem_holdsK.1 hm, ((WaitsOn.rest ok.sm hh).1 a).1, b⟩
    · exact .inl ((g.oth k h hm).1 hk)
  · rcases g.wt z k ((WaitsOn.rest ok.sm hh).2 ⟨hw, hz⟩) with h1 | ⟨h1, h2⟩
    · exact .inl h1
    · exact .inr ⟨mem_holdsK.1 h1, h2⟩
end Go.Proofs.Ytlmfpkfgjfdhgaa
