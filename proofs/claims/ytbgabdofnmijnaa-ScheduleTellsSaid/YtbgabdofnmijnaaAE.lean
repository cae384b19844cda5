/- Plain law: one transaction behind the other, in the order. -/
import Derived.Test.YtbgabdofnmijnaaAB
namespace Go.Proofs.Ytbgabdofnmijnaa
open Go.RowKit
theorem erase_perm {l : List Int} {i : Nat} (hi : i < l.length) : (l[i] :: l.eraseIdx i).Perm l := by
  rw [List.eraseIdx_eq_take_drop_succ]
  have h : l = l.take i ++ l[i] :: l.drop (i + 1) := by
    conv => lhs; rw [← List.take_append_drop i l, List.drop_eq_getElem_cons hi]
  conv => rhs; rw [h]
  exact List.perm_middle.symm
theorem ord_ok : ∀ (n : Nat) (left : List Int) (E : List Eg) (P : List Int), left.length = n → left.Nodup → ordR left E = some P → P.Perm left ∧ P.Pairwise fun x y => ∀ e ∈ E, ¬ (e.a = y ∧ e.b = x)
  | 0, left, E, P, hn, _, h => by
    obtain rfl : left = [] := List.length_eq_zero_iff.1 hn
    rw [ordR_nil] at h
    obtain rfl : [] = P := Option.some.inj h
    exact ⟨.refl _, List.Pairwise.nil⟩
  | n + 1, left, E, P, hn, hnd, h => by
    cases hf : left.findIdx? (freeB E) with
    | none =>
      rw [ordR_none (by intro h'; rw [h'] at hn; simp at hn) fun i hi => by simpa using List.findIdx?_eq_none_iff.1 hf _ (List.getElem_mem hi)] at h
      cases h
    | some i =>
      obtain ⟨hi, hp, hb⟩ := List.findIdx?_eq_some_iff_getElem.1 hf
      rw [ordR_some hi (fun j hj hji => by simpa using hb j hji) hp] at h
      obtain ⟨P', hP', rfl⟩ := Option.map_eq_some_iff.1 h
      have hpm : (left[i] :: left.eraseIdx i).Perm left := erase_perm hi
      have hnd2 := hpm.nodup_iff.2 hnd
      obtain ⟨h1, h2⟩ := ord_ok n (left.eraseIdx i) (outE E left[i]) P' (by rw [List.length_eraseIdx]; simp [hi]; omega) (List.nodup_cons.1 hnd2).2 hP'
      refine ⟨(h1.cons _).trans hpm, List.pairwise_cons.2 ⟨fun y _ e he hab => ?_, h2.imp_of_mem fun {x y} hx hy hxy e he hab => ?_⟩⟩
      · unfold freeB at hp
        rw [Bool.not_eq_true', List.any_eq_false] at hp
        exact hp e he (by simpa using hab.2)
      · have hne : e.a ≠ left[i] := by
          rw [hab.1]
          rintro rfl
          exact (List.nodup_cons.1 hnd2).1 (h1.mem_iff.1 hy)
        exact hxy e (List.mem_filter.2 ⟨he, by simpa using hne⟩) hab
/-- the places, one transaction behind the other. -/
def serI (l : List Mk) (O : List Int) : List Nat := O.flatMap fun tx => (List.range l.length).filter fun i => l[i]!.tx == tx
theorem map_get (l : List Mk) : (List.range l.length).map (fun i => l[i]!) = l := by
  apply List.ext_getElem
  · simp
  · intro i h1 h2
    rw [List.getElem_map, List.getElem_range, getElem!_pos l i h2]
theorem serIn_map (l : List Mk) (tx : Int) : serIn l tx l.length = ((List.range l.length).filter fun i => l[i]!.tx == tx).map fun i => l[i]! := by
  unfold serIn
  rw [List.take_length]
  conv => lhs; rw [← map_get l]
  rw [List.filter_map]
  congr 1
theorem serUp_nodup {l : List Mk} {O : List Int} (h : O.Nodup) : ∀ k, k ≤ O.length → serUp l O k = (O.take k).flatMap fun tx => serIn l tx l.length
  | 0, _ => by simp [serUp]
  | k + 1, hk => by
    have hk' : k < O.length := by omega
    rw [serUp_succ l O k hk', serUp_nodup h k (by omega), List.take_succ_eq_append_getElem hk', List.flatMap_append]
    have hc : (O.take k).contains O[k] = false := by
      cases hcc : (O.take k).contains O[k] with
      | false => rfl
      | true =>
        have hm : O[k] ∈ O.take k := by simpa using hcc
        obtain ⟨j, hj, e⟩ := List.mem_iff_getElem.1 hm
        rw [List.length_take] at hj
        rw [List.getElem_take] at e
        have := (List.getElem_inj h).1 e
        omega
    rw [hc, if_neg (by simp)]
    simp
theorem serM_eq {l : List Mk} {O : List Int} (h0 : rightM l = 0) (h : O.Nodup) : serM l O = (serI l O).map fun i => l[i]! := by
  unfold serM serI
  rw [if_pos h0, serUp_nodup h _ (Nat.le_refl _), List.take_length, List.map_flatMap]
  congr 1
  funext tx
  exact serIn_map l tx
/-- marks whose order counts: of one transaction, or clashing, or an abort. -/
def Cmp (x y : Mk) : Prop := x.tx = y.tx ∨ (x.tx ≠ y.tx ∧ accB x = true ∧ accB y = true ∧ x.key.toList = y.key.toList ∧ (x.kind = 2 ∨ y.kind = 2)) ∨ x.kind = 4 ∨ y.kind = 4
theorem Cmp.symm {x y : Mk} (hc : Cmp x y) : Cmp y x := by
  rcases hc with h1 | ⟨h1, h2, h3, h4, h5⟩ | h1 | h1
  · exact .inl h1.symm
  · exact .inr (.inl ⟨h1.symm, h3, h2, h4.symm, h5.symm⟩)
  · exact .inr (.inr (.inr h1))
  · exact .inr (.inr (.inl h1))
/-- the places of a schedule in another order, in which what counts stays. -/
structure Kept (l : List Mk) (I : List Nat) : Prop where
  r0 : rightM l = 0
  R : RightP l
  mem : ∀ i, i ∈ I ↔ i < l.length
  nodup : I.Nodup
  lt1 : ∀ {p q : Nat} (hp : p < I.length) (hq : q < I.length), p < q → Cmp l[I[p]]! l[I[q]]! → I[p] < I[q]
section
variable {l : List Mk} {I : List Nat} (h : Kept l I)
include h
theorem Kept.len : I.length = l.length := by
  have hp : I.Perm (List.range l.length) := by
    rw [List.perm_ext_iff_of_nodup h.nodup List.nodup_range]
    intro i
    rw [h.mem, List.mem_range]
  rw [hp.length_eq, List.length_range]
theorem Kept.iff {p q : Nat} (hp : p < I.length) (hq : q < I.length) (hc : Cmp l[I[p]]! l[I[q]]!) : p < q ↔ I[p] < I[q] := by
  constructor
  · intro hpq; exact h.lt1 hp hq hpq hc
  · intro hlt
    rcases Nat.lt_trichotomy p q with h1 | h1 | h1
    · exact h1
    · subst h1; omega
    · have := h.lt1 hq hp h1 hc.symm; omega
/-- the last ones of two rows that answer each other. -/
theorem Kept.last (P : Nat → Prop) (hP : ∀ i j, i < l.length → j < l.length → P i → P j → Cmp l[i]! l[j]!) {j q : Nat} (hj : j < l.length) (hPj : P j) (hlast : ∀ i, i < l.length → j < i → ¬ P i)
    (hq : q < I.length) (hPq : P I[q]) (hlast2 : ∀ p (hp : p < I.length), q < p → ¬ P I[p]) : I[q] = j := by
  obtain ⟨p, hp, e⟩ := List.mem_iff_getElem.1 ((h.mem j).2 hj)
  have hb := (h.mem _).1 (List.getElem_mem hq)
  rcases Nat.lt_trichotomy q p with h1 | h1 | h1
  · exact absurd (by rw [e]; exact hPj) (hlast2 p hp h1)
  · subst h1; exact e
  · have h2 := h.lt1 hp hq h1 (hP _ _ (by rw [e]; exact hj) hb (by rw [e]; exact hPj) hPq)
    rw [e] at h2
    exact absurd hPq (hlast _ hb h2)
theorem Kept.get {s : List Mk} (hs : s = I.map fun i => l[i]!) {p : Nat} (hp : p < s.length) : ∃ (hp' : p < I.length) (hb : I[p] < l.length), s[p] = l[I[p]] := by
  subst hs
  rw [List.length_map] at hp
  refine ⟨hp, (h.mem _).1 (List.getElem_mem hp), ?_⟩
  rw [List.getElem_map, getElem!_pos l _ ((h.mem _).1 (List.getElem_mem hp))]
theorem Kept.right {s : List Mk} (hs : s = I.map fun i => l[i]!) : rightM s = 0 ∧ RightP s ∧ ∀ x, liveB s x = liveB l x := by
  have hm : ∀ m ∈ s, m ∈ l := by
    intro m hm
    obtain ⟨p, hp, rfl⟩ := List.getElem_of_mem hm
    obtain ⟨_, hb, e⟩ := h.get hs hp
    rw [e]; exact List.getElem_mem hb
  have hR : RightP s := ⟨fun m hmm => h.R.odd m (hm m hmm), fun j k hj hk hjk he htx => by
    obtain ⟨hj', bj, ej⟩ := h.get hs hj
    obtain ⟨hk', bk, ek⟩ := h.get hs hk
    rw [ej] at he htx
    rw [ek] at htx
    have := h.lt1 hj' hk' hjk (.inl (by rw [getElem!_pos l _ bj, getElem!_pos l _ bk]; exact htx))
    exact h.R.over _ _ bj bk this he htx⟩
  refine ⟨(right_iff s).2 ⟨?_, hR⟩, hR, fun x => ?_⟩
  rotate_left
  · rw [Bool.eq_iff_iff, live_iff hR, live_iff h.R]
    constructor
    · intro hl i hi ht
      obtain ⟨p, hp, e⟩ := List.mem_iff_getElem.1 ((h.mem i).2 hi)
      have hps : p < s.length := by rw [hs, List.length_map]; exact hp
      obtain ⟨_, b, ep⟩ := h.get hs hps
      have ep' : s[p] = l[i] := by rw [ep]; congr 1
      rw [← ep'] at ht ⊢
      exact hl p hps ht
    · intro hl p hp ht
      obtain ⟨_, b, ep⟩ := h.get hs hp
      rw [ep] at ht ⊢
      exact hl _ b ht
  have h1 := ((right_iff l).1 h.r0).1
  rw [hs, List.length_map, h.len]; exact h1
theorem Kept.edges {s : List Mk} (hs : s = I.map fun i => l[i]!) (x y : Int) : EdgeP s x y ↔ EdgeP l x y := by
  obtain ⟨_, hR, hlv⟩ := h.right hs
  have hmt : ∀ a b : Mk, meetB s a b = meetB l a b := fun a b => by unfold meetB; rw [hlv, hlv]
  constructor
  · rintro ⟨i, j, hi, hj, hji, hm, rfl, rfl⟩
    obtain ⟨hi', bi, ei⟩ := h.get hs hi
    obtain ⟨hj', bj, ej⟩ := h.get hs hj
    obtain ⟨p1, p2, p3, p4, p5, _, _⟩ := meet_parts hm
    rw [ei] at p1 p3 p4 p5
    rw [ej] at p1 p2 p4 p5
    have hlt := h.lt1 hj' hi' hji (.inr (.inl (by rw [getElem!_pos l _ bj, getElem!_pos l _ bi]; exact ⟨p1, p2, p3, p4, p5⟩)))
    exact ⟨_, _, bi, bj, hlt, by rw [← hmt, ← ei, ← ej]; exact hm, by rw [ej], by rw [ei]⟩
  · rintro ⟨i, j, hi, hj, hji, hm, rfl, rfl⟩
    obtain ⟨p1, p2, p3, p4, p5, _, _⟩ := meet_parts hm
    obtain ⟨pi, hpi, e1⟩ := List.mem_iff_getElem.1 ((h.mem i).2 hi)
    obtain ⟨pj, hpj, e2⟩ := List.mem_iff_getElem.1 ((h.mem j).2 hj)
    have hlen : s.length = I.length := by rw [hs, List.length_map]
    obtain ⟨_, bi, ei⟩ := h.get hs (p := pi) (by omega)
    obtain ⟨_, bj, ej⟩ := h.get hs (p := pj) (by omega)
    have ei' : s[pi]'(by omega) = l[i] := by rw [ei]; congr 1
    have ej' : s[pj]'(by omega) = l[j] := by rw [ej]; congr 1
    have hlt : pj < pi := (h.iff hpj hpi (.inr (.inl (by rw [e1, e2, getElem!_pos l _ hj, getElem!_pos l _ hi]; exact ⟨p1, p2, p3, p4, p5⟩)))).2 (by rw [e1, e2]; exact hji)
    exact ⟨pi, pj, by omega, by omega, hlt, by rw [ei', ej', hmt]; exact hm, by rw [ej'], by rw [ei']⟩
theorem Kept.source {s : List Mk} (hs : s = I.map fun i => l[i]!) {p : Nat} (hp : p < s.length) (hp' : p < I.length) (hk : s[p].kind = 1) : sourceM s p = sourceM l I[p] := by
  obtain ⟨_, hRs, _⟩ := h.right hs
  have hlen : s.length = I.length := by rw [hs, List.length_map]
  obtain ⟨_, bp, ep⟩ := h.get hs hp
  have hacc : accB s[p] = true := accB_kind.2 (.inl hk)
  have wr_cmp : ∀ x y : Mk, x.kind = 2 → (y.kind = 2 ∨ y.kind = 1) → x.key.toList = y.key.toList → Cmp x y := fun x y h1 h2 h3 => by
    by_cases e : x.tx = y.tx
    · exact .inl e
    · exact .inr (.inl ⟨e, accB_kind.2 (.inr h1), accB_kind.2 h2.symm, h3, .inl h1⟩)
  -- an abort ahead of the place, here and there
  have hab : ∀ t : Int, (∀ q (hq : q < l.length), q < I[p] → l[q].tx = t → l[q].kind ≠ 4) ↔ (∀ q (hq : q < s.length), q < p → s[q].tx = t → s[q].kind ≠ 4) := fun t => by
    constructor
    · intro hl q hq hqp ht h4
      obtain ⟨hq', bq, eq⟩ := h.get hs hq
      rw [eq] at ht h4
      exact hl _ bq (h.lt1 hq' hp' hqp (.inr (.inr (.inl (by rw [getElem!_pos l _ bq]; exact h4))))) ht h4
    · intro hl q hq hqp ht h4
      obtain ⟨pq, hpq, e2⟩ := List.mem_iff_getElem.1 ((h.mem q).2 hq)
      have hpqs : pq < s.length := by omega
      obtain ⟨_, bq, eq⟩ := h.get hs hpqs
      have eq' : s[pq] = l[q] := by rw [eq]; congr 1
      have hlt := (h.iff hpq hp' (.inr (.inr (.inl (by rw [e2, getElem!_pos l _ hq]; exact h4))))).2 (by rw [e2]; exact hqp)
      exact hl pq hpqs hlt (by rw [eq']; exact ht) (by rw [eq']; exact h4)
  have toWl : ∀ (i : Nat) (hi : i < l.length) (q : Nat) (hq : q < s.length), s[q] = l[i] → Wr s p s[p].key q s[q] → Wr l I[p] l[I[p]].key i l[i] := fun i hi q hq e hw => by
    unfold Wr at hw ⊢
    rw [e, ← hab] at hw
    rw [← ep]
    exact hw
  have toWs : ∀ (i : Nat) (hi : i < l.length) (q : Nat) (hq : q < s.length), s[q] = l[i] → Wr l I[p] l[I[p]].key i l[i] → Wr s p s[p].key q s[q] := fun i hi q hq e hw => by
    unfold Wr at hw ⊢
    rw [hab, ← ep] at hw
    rw [e]
    exact hw
  rcases source_spec h.R I[p] bp with ⟨a1, a2⟩ | ⟨j, hj, hji, a1, a2, a3⟩
  · rcases source_spec hRs p hp with ⟨b1, _⟩ | ⟨q, hq, hqp, b1, b2, _⟩
    · rw [a1, b1]
    · exfalso
      obtain ⟨hq', bq, eq⟩ := h.get hs hq
      have hc : Cmp l[I[q]]! l[I[p]]! := by
        rw [getElem!_pos l _ bq, getElem!_pos l _ bp, ← eq, ← ep]
        exact wr_cmp _ _ b1.1 (.inr hk) b1.2.1
      exact a2 _ bq (h.lt1 hq' hp' hqp hc) (toWl _ bq q hq eq b1)
  · rcases source_spec hRs p hp with ⟨_, b2⟩ | ⟨q, hq, hqp, b1, b2, b3⟩
    · exfalso
      obtain ⟨pj, hpj, e2⟩ := List.mem_iff_getElem.1 ((h.mem j).2 hj)
      have hpjs : pj < s.length := by omega
      obtain ⟨_, bj, ej⟩ := h.get hs hpjs
      have ej' : s[pj] = l[j] := by rw [ej]; congr 1
      have hc : Cmp l[I[pj]]! l[I[p]]! := by
        rw [getElem!_pos l _ bj, getElem!_pos l _ bp, ← ej, ← ep, ej']
        exact wr_cmp _ _ a1.1 (.inr hk) (by rw [ep]; exact a1.2.1)
      exact b2 pj hpjs ((h.iff hpj hp' hc).2 (by rw [e2]; exact hji)) (toWs j hj pj hpjs ej' a1)
    · obtain ⟨hq', bq, eq⟩ := h.get hs hq
      have hcqp : Cmp l[I[q]]! l[I[p]]! := by
        rw [getElem!_pos l _ bq, getElem!_pos l _ bp, ← eq, ← ep]
        exact wr_cmp _ _ b1.1 (.inr hk) b1.2.1
      have hqlt := h.lt1 hq' hp' hqp hcqp
      have hfin := h.last (fun i => i < I[p] ∧ ∃ hi : i < l.length, Wr l I[p] l[I[p]].key i l[i])
        (fun i i2 hi hi2 c1 c2 => by
          obtain ⟨_, _, c1⟩ := c1
          obtain ⟨_, _, c2⟩ := c2
          rw [getElem!_pos l i hi, getElem!_pos l i2 hi2]
          exact wr_cmp _ _ c1.1 (.inl c2.1) (c1.2.1.trans c2.2.1.symm)) hj
        ⟨hji, hj, a1⟩ (fun i hi hjii c => a3 i hi hjii c.1 c.2.2)
        hq' ⟨hqlt, bq, toWl _ bq q hq eq b1⟩
        (fun p2 hp2 hqp2 c => by
          have hp2s : p2 < s.length := by omega
          obtain ⟨_, bp2, ep2⟩ := h.get hs hp2s
          obtain ⟨c0, _, c1⟩ := c
          have hw := toWs _ bp2 p2 hp2s ep2 c1
          have hc2 : Cmp l[I[p2]]! l[I[p]]! := by
            rw [getElem!_pos l _ bp2, getElem!_pos l _ bp, ← ep2, ← ep]
            exact wr_cmp _ _ hw.1 (.inr hk) hw.2.1
          exact b3 p2 hp2s hqp2 ((h.iff hp2 hp' hc2).2 c0) hw)
      rw [a2, b2, eq]
      congr 2
theorem Kept.srcsRow {s : List Mk} (hs : s = I.map fun i => l[i]!) : srcsUp s s.length = (I.filter fun i => l[i]!.kind == 1).map fun i => ⟨l[i]!.tx, sourceM l i⟩ := by
  have hlen : s.length = I.length := by rw [hs, List.length_map]
  unfold srcsUp
  have e2 : I = (List.range s.length).map fun p => I[p]! := by
    apply List.ext_getElem
    · rw [List.length_map, List.length_range, hlen]
    · intro p h1 h2
      rw [List.getElem_map, List.getElem_range, getElem!_pos I p h1]
  have hat : ∀ p, p < s.length → s[p]! = l[I[p]!]! := fun p hp => by
    obtain ⟨hp', hb, e⟩ := h.get hs hp
    rw [getElem!_pos s p hp, e, getElem!_pos I p hp', getElem!_pos l _ hb]
  conv => rhs; rw [e2]
  rw [List.filter_map, List.map_map]
  have e3 : (List.range s.length).filter (fun i => s[i]!.kind == 1) = (List.range s.length).filter ((fun i : Nat => l[i]!.kind == (1 : Int)) ∘ fun p => I[p]!) := List.filter_congr fun p hp => by
    have hp' : p < s.length := List.mem_range.1 hp
    simp only [Function.comp_apply, hat p hp']
  rw [e3]
  refine List.map_congr_left fun p hp => ?_
  obtain ⟨hp1, hp2⟩ := List.mem_filter.1 hp
  have hp' : p < s.length := List.mem_range.1 hp1
  have hp3 : p < I.length := by omega
  simp only [Function.comp_apply] at hp2 ⊢
  rw [hat p hp']
  congr 1
  rw [getElem!_pos I p hp3]
  refine h.source hs hp' hp3 ?_
  rw [← hat p hp', getElem!_pos s p hp'] at hp2
  simpa using hp2
end
/-- what is known of the schedule and its order. -/
structure SerP (l : List Mk) (O : List Int) : Prop where
  r0 : rightM l = 0
  R : RightP l
  na : ∀ m ∈ l, m.kind ≠ 4
  nd : O.Nodup
  mem : ∀ x, x ∈ O ↔ ∃ m ∈ l, m.tx = x
  top : O.Pairwise fun x y => ¬ EdgeP l y x
theorem live_na {l : List Mk} (hR : RightP l) (h : ∀ m ∈ l, m.kind ≠ 4) (x : Int) : liveB l x = true := (live_iff hR x).2 fun i hi _ => h _ (List.getElem_mem hi)
theorem serP_of {l : List Mk} {O : List Int} (h0 : rightM l = 0) (hna : ∀ m ∈ l, m.kind ≠ 4) (ho : IsOrder l O true) : SerP l O := by
  have hR := ((right_iff l).1 h0).2
  unfold IsOrder at ho
  rw [if_pos h0] at ho
  obtain ⟨E, h1, h2⟩ := ho
  obtain ⟨k1, _⟩ := isEdges_ok h0 h1
  have hnd : (allM l).Nodup := (allM_strict l).imp fun h => by omega
  cases hP : ordR (allM l) E with
  | none => rw [hP] at h2; exact absurd h2.2 (by simp)
  | some P =>
    rw [hP] at h2
    obtain rfl := h2.1
    obtain ⟨p1, p2⟩ := ord_ok _ (allM l) E O rfl hnd hP
    refine ⟨h0, hR, hna, p1.nodup_iff.2 hnd, fun x => ?_, p2.imp fun {x y} h he => h ⟨y, x⟩ ((k1 ⟨y, x⟩).2 he) ⟨rfl, rfl⟩⟩
    rw [p1.mem_iff, allM_mem]
    exact ⟨fun h => h.2, fun h => ⟨live_na hR hna x, h⟩⟩
section
variable {l : List Mk} {O : List Int} (h : SerP l O)
include h
theorem SerP.mem_I (i : Nat) : i ∈ serI l O ↔ i < l.length := by
  unfold serI
  simp only [List.mem_flatMap, List.mem_filter, List.mem_range, beq_iff_eq]
  constructor
  · rintro ⟨_, _, h1, _⟩; exact h1
  · intro hi
    refine ⟨l[i]!.tx, (h.mem _).2 ⟨l[i]!, ?_, rfl⟩, hi, rfl⟩
    rw [getElem!_pos l i hi]; exact List.getElem_mem hi
/-- one behind the other. -/
theorem SerP.pair : (serI l O).Pairwise fun i j => (l[i]!.tx = l[j]!.tx ∧ i < j) ∨ (l[i]!.tx ≠ l[j]!.tx ∧ ¬ EdgeP l l[j]!.tx l[i]!.tx) := by
  unfold serI
  rw [List.pairwise_flatMap]
  refine ⟨fun tx _ => ?_, ?_⟩
  · refine (List.pairwise_lt_range.filter _).imp_of_mem fun {i j} hi hj hij => .inl ⟨?_, hij⟩
    have h1 := (List.mem_filter.1 hi).2
    have h2 := (List.mem_filter.1 hj).2
    simp only [beq_iff_eq] at h1 h2
    rw [h1, h2]
  · have := (List.pairwise_and_iff.2 ⟨h.top, h.nd⟩)
    refine this.imp fun {x y} hxy i hi j hj => .inr ?_
    have h1 := (List.mem_filter.1 hi).2
    have h2 := (List.mem_filter.1 hj).2
    simp only [beq_iff_eq] at h1 h2
    rw [h1, h2]
    exact ⟨hxy.2, hxy.1⟩
theorem SerP.nodup : (serI l O).Nodup := h.pair.imp fun {i j} hij => by
  rcases hij with h1 | h1
  · omega
  · rintro rfl; exact h1.1 rfl
theorem SerP.kept : Kept l (serI l O) where
  r0 := h.r0
  R := h.R
  mem := h.mem_I
  nodup := h.nodup
  lt1 {p q} hp hq hpq hc := by
    have h1 := List.pairwise_iff_getElem.1 h.pair p q hp hq hpq
    have b1 := (h.mem_I _).1 (List.getElem_mem hp)
    have b2 := (h.mem_I _).1 (List.getElem_mem hq)
    rcases h1 with h1 | ⟨h1, h2⟩
    · exact h1.2
    · rcases hc with hc | ⟨_, c2, c3, c4, c5⟩ | hc | hc
      · exact absurd hc h1
      · rcases Nat.lt_trichotomy (serI l O)[p] (serI l O)[q] with h3 | h3 | h3
        · exact h3
        · exact absurd (by rw [h3]) h1
        · refine absurd ⟨(serI l O)[p], (serI l O)[q], b1, b2, h3, ?_, ?_, ?_⟩ h2
          · rw [getElem!_pos l _ b1] at c2 c4 c5 h1
            rw [getElem!_pos l _ b2] at c3 c4 c5 h1
            unfold meetB clashB
            rw [live_na h.R h.na, live_na h.R h.na, c2, c3, show (l[(serI l O)[q]].tx == l[(serI l O)[p]].tx) = false by simpa using fun e => h1 e.symm, show (l[(serI l O)[q]].key.toList == l[(serI l O)[p]].key.toList) = true by simpa using c4.symm, show (l[(serI l O)[q]].kind == 2 || l[(serI l O)[p]].kind == 2) = true by simpa using c5.symm]
            rfl
          · rw [getElem!_pos l _ b2]
          · rw [getElem!_pos l _ b1]
      · rw [getElem!_pos l _ b1] at hc
        exact absurd hc (h.na _ (List.getElem_mem b1))
      · rw [getElem!_pos l _ b2] at hc
        exact absurd hc (h.na _ (List.getElem_mem b2))
end
/-- the last writer of a key, of so many marks. -/
def lastU (l : List Mk) (key : ByteArray) : Nat → Int
  | 0 => -1
  | k + 1 => if l[k]!.kind == 2 && l[k]!.key.toList == key.toList then l[k]!.tx else lastU l key k
theorem lastU_succ (l : List Mk) (key : ByteArray) (k : Nat) (hk : k < l.length) : lastU l key (k + 1) = if l[k].kind == 2 && l[k].key.toList == key.toList then l[k].tx else lastU l key k := by
  rw [lastU, getElem!_pos l k hk]
theorem lastU_spec (l : List Mk) (key : ByteArray) : ∀ k, k ≤ l.length → (lastU l key k = -1 ∧ ∀ j (hj : j < l.length), j < k → ¬ (l[j].kind = 2 ∧ l[j].key.toList = key.toList)) ∨
    ∃ j, ∃ (hj : j < l.length), j < k ∧ (l[j].kind = 2 ∧ l[j].key.toList = key.toList) ∧ lastU l key k = l[j].tx ∧ ∀ i (hi : i < l.length), j < i → i < k → ¬ (l[i].kind = 2 ∧ l[i].key.toList = key.toList)
  | 0, _ => .inl ⟨rfl, fun j _ h => by omega⟩
  | k + 1, hk => by
    have hk' : k < l.length := by omega
    rw [lastU_succ l key k hk']
    by_cases hh : l[k].kind = 2 ∧ l[k].key.toList = key.toList
    · exact .inr ⟨k, hk', by omega, hh, by rw [if_pos (by rw [hh.1, hh.2]; simp)], fun i _ h1 h2 => by omega⟩
    · rw [if_neg (by simpa using hh)]
      rcases lastU_spec l key k (by omega) with ⟨h1, h2⟩ | ⟨j, hj, hjk, h1, h2, h3⟩
      · refine .inl ⟨h1, fun j hj hjk => ?_⟩
        by_cases e : j = k
        · subst e; exact hh
        · exact h2 j hj (by omega)
      · refine .inr ⟨j, hj, by omega, h1, h2, fun i hi hji hik => ?_⟩
        by_cases e : i = k
        · subst e; exact hh
        · exact h3 i hi hji (by omega)
theorem SerP.lastW {l : List Mk} {O : List Int} (h : SerP l O) {s : List Mk} (hs : s = (serI l O).map fun i => l[i]!) (key : ByteArray) : lastU s key s.length = lastU l key l.length := by
  have hlen : s.length = (serI l O).length := by rw [hs, List.length_map]
  have h := h.kept
  rcases lastU_spec l key l.length (Nat.le_refl _) with ⟨a1, a2⟩ | ⟨j, hj, _, a1, a2, a3⟩
  · rcases lastU_spec s key s.length (Nat.le_refl _) with ⟨b1, _⟩ | ⟨q, hq, _, b1, _, _⟩
    · rw [a1, b1]
    · obtain ⟨_, bq, eq⟩ := h.get hs hq
      rw [eq] at b1
      exact absurd b1 (a2 _ bq bq)
  · rcases lastU_spec s key s.length (Nat.le_refl _) with ⟨_, b2⟩ | ⟨q, hq, _, b1, b2, b3⟩
    · obtain ⟨pj, hpj, e2⟩ := List.mem_iff_getElem.1 ((h.mem j).2 hj)
      have hpjs : pj < s.length := by omega
      obtain ⟨_, bj, ej⟩ := h.get hs hpjs
      have ej' : s[pj] = l[j] := by rw [ej]; congr 1
      exact absurd (by rw [ej']; exact a1) (b2 pj hpjs hpjs)
    · obtain ⟨hq', bq, eq⟩ := h.get hs hq
      have hfin := h.last (fun i => l[i]!.kind = 2 ∧ l[i]!.key.toList = key.toList)
        (fun i i2 hi hi2 c1 c2 => by
          by_cases e : l[i]!.tx = l[i2]!.tx
          · exact .inl e
          · exact .inr (.inl ⟨e, accB_kind.2 (.inr c1.1), accB_kind.2 (.inr c2.1), c1.2.trans c2.2.symm, .inl c1.1⟩)) hj
        (by rw [getElem!_pos l j hj]; exact a1) (fun i hi hji c => a3 i hi hji hi (by rwa [getElem!_pos l i hi] at c))
        hq' (by rw [getElem!_pos l _ bq, ← eq]; exact b1)
        (fun p2 hp2 hqp2 c => by
          have hp2s : p2 < s.length := by omega
          obtain ⟨_, bp2, ep2⟩ := h.get hs hp2s
          rw [getElem!_pos l _ bp2, ← ep2] at c
          exact b3 p2 hp2s hqp2 hp2s c)
      rw [a2, b2, eq]
      congr 2
theorem filter_flat (f : Int → List Nat) (g : Nat → Int) (hf : ∀ x, ∀ i ∈ f x, g i = x) (t : Int) : ∀ (O : List Int), O.Nodup → t ∈ O → (O.flatMap f).filter (fun i => g i == t) = f t
  | [], _, h => by cases h
  | x :: r, hnd, h => by
    rw [List.flatMap_cons, List.filter_append]
    obtain ⟨h1, h2⟩ := List.nodup_cons.1 hnd
    by_cases e : x = t
    · subst e
      have h3 : (f x).filter (fun i => g i == x) = f x := List.filter_eq_self.2 fun i hi => by simpa using hf x i hi
      have h4 : (r.flatMap f).filter (fun i => g i == x) = [] := List.filter_eq_nil_iff.2 fun i hi => by
        obtain ⟨y, hy, hi⟩ := List.mem_flatMap.1 hi
        have := hf y i hi
        simp only [beq_iff_eq, this]
        rintro rfl
        exact h1 hy
      rw [h3, h4, List.append_nil]
    · have h3 : (f x).filter (fun i => g i == t) = [] := List.filter_eq_nil_iff.2 fun i hi => by
        have := hf x i hi
        simp only [beq_iff_eq, this]
        exact e
      rw [h3, List.nil_append]
      exact filter_flat f g hf t r h2 (by rcases List.mem_cons.1 h with h | h; exact absurd h.symm e; exact h)
/-- the sources of one transaction's readings. -/
def srcOf (l : List Mk) (t : Int) : List Sr := (srcsUp l l.length).filter fun x => x.tx == t
theorem SerP.srcs {l : List Mk} {O : List Int} (h : SerP l O) {s : List Mk} (hs : s = (serI l O).map fun i => l[i]!) {t : Int} (ht : t ∈ O) : srcOf s t = srcOf l t := by
  have e1 := h.kept.srcsRow hs
  unfold srcOf
  rw [e1]
  unfold srcsUp
  rw [List.filter_map, List.filter_map]
  congr 1
  rw [List.filter_filter, List.filter_filter]
  have e4 : (serI l O).filter (fun a => ((fun x : Sr => x.tx == t) ∘ fun i => (⟨l[i]!.tx, sourceM l i⟩ : Sr)) a && (l[a]!.kind == 1)) = ((serI l O).filter fun a => l[a]!.tx == t).filter fun a => l[a]!.kind == 1 := by
    rw [List.filter_filter]
    refine List.filter_congr fun a _ => ?_
    simp only [Function.comp_apply]
    rw [Bool.and_comm]
  have e5 : (serI l O).filter (fun a => l[a]!.tx == t) = (List.range l.length).filter fun a => l[a]!.tx == t :=
    filter_flat (fun tx => (List.range l.length).filter fun i => l[i]!.tx == tx) (fun i => l[i]!.tx) (fun x i hi => by simpa using (List.mem_filter.1 hi).2) t O h.nd ht
  rw [e4, e5, List.filter_filter]
  refine List.filter_congr fun a _ => ?_
  simp only [Function.comp_apply]
  rw [Bool.and_comm]
end Go.Proofs.Ytbgabdofnmijnaa
