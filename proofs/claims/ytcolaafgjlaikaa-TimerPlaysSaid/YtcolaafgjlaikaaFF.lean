/- The plain law of TimerPlays: ticks, and the first that is due. -/
import Derived.Test.YtcolaafgjlaikaaEE
namespace Go.Proofs.Ytcolaafgjlaikaa
open Go.RowKit

def updT (c : Int) (t : Tm) : Option Tm := if t.due = c then (if t.every = 0 then none else some ⟨t.id, t.due + t.every, t.every⟩) else some t
theorem insT_front {P Q : List Tm} {t : Tm} (h : ∀ x ∈ P, x.due < t.due) : insT (P ++ Q) t = P ++ insT Q t := by
  induction P with
  | nil => rfl
  | cons x r ih =>
    have hx := h x (List.mem_cons_self ..)
    have hc : cmpT x t < 0 := (cmpT_neg x t).2 (.inl hx)
    have e : insT (x :: (r ++ Q)) t = x :: insT (r ++ Q) t := by
      conv => lhs; unfold insT
      rw [if_pos hc]
    show insT (x :: (r ++ Q)) t = x :: (r ++ insT Q t)
    rw [e, ih fun y hy => h y (List.mem_cons_of_mem _ hy)]
theorem id_inj {l : List Tm} (h : (l.map (·.id)).Nodup) {x t : Tm} (hx : x ∈ l) (ht : t ∈ l) (e : x.id = t.id) : x = t := by
  induction l with
  | nil => cases hx
  | cons y r ih =>
    obtain ⟨h1, h2⟩ := List.nodup_cons.1 h
    rcases List.mem_cons.1 hx with rfl | hx2
    · rcases List.mem_cons.1 ht with rfl | ht
      · rfl
      · exact absurd (show x.id ∈ r.map (·.id) from List.mem_map.2 ⟨t, ht, e.symm⟩) h1
    · rcases List.mem_cons.1 ht with rfl | ht
      · exact absurd (show t.id ∈ r.map (·.id) from List.mem_map.2 ⟨x, hx2, e⟩) h1
      · exact ih h2 hx2 ht
/-- one tick: those that are due come out, in order. -/
theorem drain_tick (c : Int) : ∀ (P Q : List Tm), (∀ t ∈ P, t.due = c ∧ 0 ≤ t.every) → SortedT Q → (∀ t ∈ Q, c < t.due) → (∀ t ∈ P, ∀ x ∈ Q, x.id ≠ t.id) → (P.map (·.id)).Nodup →
    ∃ l', Drain c (P ++ Q) (P.map (·.id)) l' ∧ l'.Perm (Q ++ P.filterMap (updT c))
  | [], Q, _, _, hQ, _, _ => ⟨Q, .done (fun t ht => hQ t (List.mem_of_mem_head? ht)), by simp⟩
  | t :: P, Q, hP, hs, hQ, hd, hn => by
    obtain ⟨h1, h2⟩ := hP t (List.mem_cons_self ..)
    have hP' := fun x hx => hP x (List.mem_cons_of_mem _ hx)
    have hn' := List.nodup_cons.1 hn
    by_cases he : 0 < t.every
    · have hq : nextT t (P ++ Q) = P ++ insT Q ⟨t.id, t.due + t.every, t.every⟩ := by
        unfold nextT
        rw [if_pos he]
        exact insT_front fun x hx => by have := (hP' x hx).1; simp only; omega
      obtain ⟨l', k1, k2⟩ := drain_tick c P (insT Q ⟨t.id, t.due + t.every, t.every⟩) hP' (insT_sorted hs (hd t (List.mem_cons_self ..))) (fun x hx => by
        rcases mem_insT.1 hx with rfl | hx
        · simp only; omega
        · exact hQ x hx) (fun y hy x hx => by
        rcases mem_insT.1 hx with rfl | hx
        · exact fun e => hn'.1 (List.mem_map.2 ⟨y, hy, e.symm⟩)
        · exact hd y (List.mem_cons_of_mem _ hy) x hx) hn'.2
      refine ⟨l', .step (by omega) (by show Drain c (nextT t (P ++ Q)) _ _; rw [hq]; exact k1), k2.trans ?_⟩
      have hu : updT c t = some ⟨t.id, t.due + t.every, t.every⟩ := by unfold updT; rw [if_pos h1, if_neg (by omega)]
      rw [List.filterMap_cons, hu]
      refine ((insT_perm Q _).append_right _).trans ?_
      exact List.perm_middle.symm
    · have hq : nextT t (P ++ Q) = P ++ Q := by unfold nextT; rw [if_neg he]
      obtain ⟨l', k1, k2⟩ := drain_tick c P Q hP' hs hQ (fun y hy x hx => hd y (List.mem_cons_of_mem _ hy) x hx) hn'.2
      have hu : updT c t = none := by unfold updT; rw [if_pos h1, if_pos (by omega)]
      refine ⟨l', .step (by omega) (by show Drain c (nextT t (P ++ Q)) _ _; rw [hq]; exact k1), ?_⟩
      rw [List.filterMap_cons, hu]
      exact k2
theorem filterMap_late {c : Int} {Q : List Tm} (h : ∀ t ∈ Q, c < t.due) : Q.filterMap (updT c) = Q := by
  induction Q with
  | nil => rfl
  | cons x r ih =>
    have hx := h x (List.mem_cons_self ..)
    have hu : updT c x = some x := by unfold updT; rw [if_neg (by omega)]
    rw [List.filterMap_cons, hu, ih fun t ht => h t (List.mem_cons_of_mem _ ht)]
/-- a sorted list parts. -/
theorem split_due {c : Int} {l : List Tm} (hs : SortedT l) (h : ∀ t ∈ l, c ≤ t.due) : l = (l.filter fun t => t.due == c) ++ l.filter fun t => decide (c < t.due) := by
  induction l with
  | nil => rfl
  | cons x r ih =>
    obtain ⟨h1, h2⟩ := List.pairwise_cons.1 hs
    have hx := h x (List.mem_cons_self ..)
    have ih' := ih h2 fun t ht => h t (List.mem_cons_of_mem _ ht)
    by_cases he : x.due = c
    · have hn : ¬ c < x.due := by omega
      simp only [List.filter_cons, he, beq_self_eq_true, if_true, Int.lt_irrefl, decide_false, Bool.false_eq_true, if_false, List.cons_append]
      rw [← ih']
    · have hb : (x.due == c) = false := beq_eq_false_iff_ne.2 he
      have hr : r.filter (fun t => t.due == c) = [] := by
        rw [List.filter_eq_nil_iff]
        intro t ht
        have := h1 t ht
        unfold ltT at this
        simp; omega
      have hr2 : r.filter (fun t => decide (c < t.due)) = r := by
        rw [List.filter_eq_self]
        intro t ht
        have := h1 t ht
        unfold ltT at this
        simp; omega
      simp only [List.filter_cons, hb, Bool.false_eq_true, if_false, hr, List.nil_append]
      rw [if_pos (by simp; omega), hr2]
theorem ofN_tick (L : List Rt) (node c : Int) : ofN (rTick node c L) node = (ofN L node).filterMap (updT c) := by
  induction L with
  | nil => rfl
  | cons t r ih =>
    have e1 : rTick node c (t :: r) = (match rUpd node c t with | none => rTick node c r | some x => x :: rTick node c r) := by
      unfold rTick; rw [List.filterMap_cons]; cases rUpd node c t <;> rfl
    rw [e1, ofN_cons]
    by_cases hn : t.node = node
    · rw [if_pos hn, List.filterMap_cons]
      by_cases hd : t.due = c
      · by_cases he : t.every = 0
        · have h1 : rUpd node c t = none := by unfold rUpd; rw [if_pos ⟨hn, hd⟩, if_pos he]
          have h2 : updT c (toTm t) = none := by unfold updT toTm; rw [if_pos hd, if_pos he]
          rw [h1, h2]; exact ih
        · have h1 : rUpd node c t = some ⟨t.node, t.id, t.due + t.every, t.every⟩ := by unfold rUpd; rw [if_pos ⟨hn, hd⟩, if_neg he]
          have h2 : updT c (toTm t) = some ⟨t.id, t.due + t.every, t.every⟩ := by unfold updT toTm; rw [if_pos hd, if_neg he]
          rw [h1, h2]
          simp only
          rw [ofN_cons, if_pos hn, ih]
          rfl
      · have h1 : rUpd node c t = some t := by unfold rUpd; rw [if_neg fun h => hd h.2]
        have h2 : updT c (toTm t) = some (toTm t) := by unfold updT toTm; rw [if_neg hd]
        rw [h1, h2]
        simp only
        rw [ofN_cons, if_pos hn, ih]
    · have h1 : rUpd node c t = some t := by unfold rUpd; rw [if_neg fun h => hn h.1]
      rw [h1, if_neg hn]
      simp only
      rw [ofN_cons, if_neg hn, ih]
theorem ofN_tick_other (L : List Rt) (node c i : Int) (hi : i ≠ node) : ofN (rTick node c L) i = ofN L i := by
  induction L with
  | nil => rfl
  | cons t r ih =>
    have e1 : rTick node c (t :: r) = (match rUpd node c t with | none => rTick node c r | some x => x :: rTick node c r) := by
      unfold rTick; rw [List.filterMap_cons]; cases rUpd node c t <;> rfl
    rw [e1, ofN_cons]
    by_cases hn : t.node = node
    · have h2 : ¬ t.node = i := by omega
      rw [if_neg h2]
      cases hu : rUpd node c t with
      | none => exact ih
      | some x =>
        have hx : x.node = node := by
          unfold rUpd at hu
          split at hu
          · split at hu
            · cases hu
            · simp only [Option.some.injEq] at hu; subst hu; exact hn
          · simp only [Option.some.injEq] at hu; subst hu; exact hn
        simp only
        rw [ofN_cons, if_neg (by omega), ih]
    · have h1 : rUpd node c t = some t := by unfold rUpd; rw [if_neg fun h => hn h.1]
      rw [h1]
      simp only
      rw [ofN_cons, ih]
theorem rUpd_id {node c : Int} {t x : Rt} (h : rUpd node c t = some x) : x.id = t.id ∧ x.node = t.node := by
  unfold rUpd at h
  split at h
  · split at h
    · cases h
    · simp only [Option.some.injEq] at h; subst h; exact ⟨rfl, rfl⟩
  · simp only [Option.some.injEq] at h; subst h; exact ⟨rfl, rfl⟩
theorem tick_srt {L : List Rt} (h : L.Pairwise fun a b => a.id ≤ b.id) (node c : Int) : (rTick node c L).Pairwise fun a b => a.id ≤ b.id := by
  unfold rTick
  rw [List.pairwise_filterMap]
  refine h.imp fun {a b} hab x hx y hy => ?_
  rw [(rUpd_id hx).1, (rUpd_id hy).1]; exact hab

/-- one tick, seen from both sides. -/
theorem tick_step {c : Int} {l : List Tm} {L : List Rt} {node : Int} (hok : LOk c (c + 1099511627776) l) (hp : l.Perm (ofN L node)) (hs : L.Pairwise fun a b => a.id ≤ b.id) :
    ∃ l', Drain (c + 1) l (rOut node (c + 1) L) l' ∧ l'.Perm (ofN (rTick node (c + 1) L) node) := by
  have hsp := split_due (c := c + 1) hok.srt (fun t ht => by have := hok.rng t ht; omega)
  have hnd := hok.nd
  have hne : ∀ t ∈ l.filter (fun t => t.due == c + 1), ∀ x ∈ l.filter (fun t => decide (c + 1 < t.due)), x.id ≠ t.id := fun t ht x hx e => by
    have h1 := (List.mem_filter.1 ht).2
    have h2 := (List.mem_filter.1 hx).2
    have h3 : x = t := id_inj hnd (List.mem_filter.1 hx).1 (List.mem_filter.1 ht).1 e
    subst h3
    simp at h1 h2
    omega
  obtain ⟨l', k1, k2⟩ := drain_tick (c + 1) (l.filter fun t => t.due == c + 1) (l.filter fun t => decide (c + 1 < t.due)) (fun t ht => by
    obtain ⟨h1, h2⟩ := List.mem_filter.1 ht
    exact ⟨by simpa using h2, (hok.rng t h1).2.2.1⟩) (hok.srt.sublist List.filter_sublist) (fun t ht => by simpa using (List.mem_filter.1 ht).2) hne (hnd.sublist (List.filter_sublist.map _))
  rw [← hsp] at k1
  have ho : (l.filter fun t => t.due == c + 1).map (·.id) = rOut node (c + 1) L := by
    refine perm_sorted_eq ?_ ?_ ?_
    · have h1 := (hp.filter fun t => t.due == c + 1).map (·.id)
      refine h1.trans (List.Perm.of_eq ?_)
      unfold ofN rOut
      rw [List.filter_map, List.map_map, List.filter_filter]
      congr 1
      refine List.filter_congr fun t _ => ?_
      rw [Bool.and_comm]; rfl
    · refine List.pairwise_map.2 ?_
      have h1 : (l.filter fun t => t.due == c + 1).Pairwise ltT := hok.srt.sublist List.filter_sublist
      refine h1.imp_of_mem fun {a b} ha hb hab => ?_
      have h2 := (List.mem_filter.1 ha).2
      have h3 := (List.mem_filter.1 hb).2
      unfold ltT at hab
      simp at h2 h3
      omega
    · exact List.pairwise_map.2 ((hs.sublist List.filter_sublist).imp fun h => h)
  rw [ho] at k1
  refine ⟨l', k1, k2.trans ?_⟩
  rw [ofN_tick]
  refine List.Perm.trans ?_ (hp.filterMap (updT (c + 1)))
  conv => rhs; rw [hsp]
  rw [List.filterMap_append, filterMap_late (Q := l.filter fun t => decide (c + 1 < t.due)) fun t ht => by simpa using (List.mem_filter.1 ht).2]
  exact List.perm_append_comm

theorem ticks_step {c : Int} {l : List Tm} {L : List Rt} {node : Int} (hok : LOk c (c + 1099511627776) l) (hp : l.Perm (ofN L node)) (hs : L.Pairwise fun a b => a.id ≤ b.id) :
    ∀ j : Nat, ∃ l', Drain (c + j) l (rTicks node c L j).1 l' ∧ l'.Perm (ofN (rTicks node c L j).2 node) ∧ (rTicks node c L j).2.Pairwise (fun a b => a.id ≤ b.id) ∧ (∀ i, i ≠ node → ofN (rTicks node c L j).2 i = ofN L i) ∧ LOk (c + j) (c + j + 1099511627776) l'
  | 0 => ⟨l, by
      simp only [Int.natCast_zero, Int.add_zero]
      exact .done fun t ht => (hok.rng t (List.mem_of_mem_head? ht)).1, hp, hs, fun _ _ => rfl, by simpa using hok⟩
  | j + 1 => by
    obtain ⟨l1, h1, h2, h3, h4, h5⟩ := ticks_step hok hp hs j
    obtain ⟨l2, k1, k2⟩ := tick_step h5 h2 h3
    have e : c + ((j + 1 : Nat) : Int) = c + j + 1 := by omega
    have k1' : Drain (c + ((j + 1 : Nat) : Int)) l1 (rOut node (c + ((j + 1 : Nat) : Int)) (rTicks node c L j).2) l2 := by rw [e]; exact k1
    refine ⟨l2, h1.trans (by omega) k1', ?_, tick_srt h3 _ _, fun i hi => ?_, ?_⟩
    · show l2.Perm (ofN (rTick node (c + ((j + 1 : Nat) : Int)) (rTicks node c L j).2) node)
      rw [e]; exact k2
    · show ofN (rTick node _ (rTicks node c L j).2) i = _
      rw [ofN_tick_other _ _ _ _ hi]; exact h4 i hi
    · rw [e]
      exact k1.after (lo := c + j) (h5.mono (by omega) (by omega)) (by omega)

theorem plays_skip {m : MB} {ck : List Int} {L : List Rt} (h : PR m ck L) (hok : BOk m) (i k : Int) :
    (mSkip m i k).1 = (rSkip ck L i k).1 ∧ (mSkip m i k).2.1 = (rSkip ck L i k).2.1 ∧ PR (mSkip m i k).2.2 (rSkip ck L i k).2.2.1 (rSkip ck L i k).2.2.2 := by
  unfold mSkip rSkip
  by_cases hk : k < 0 ∨ 256 < k
  · rw [if_pos hk, if_pos hk]; exact ⟨rfl, rfl, h⟩
  · rw [if_neg hk, if_neg hk]
    rcases nodeAt_is h.len i with ⟨hi, j, rfl, hj, hn⟩ | ⟨hi, hn⟩
    · rw [hi, hn]
      simp only [if_true, Int.toNat_natCast, h.clkAt j hj]
      by_cases hc : 1099511627776 < m[j].1 + k
      · simp only [if_pos hc]; exact ⟨by trivial, by trivial, h⟩
      · simp only [if_neg hc]
        obtain ⟨l', h1, h2, h3, h4, _⟩ := ticks_step (hok _ (List.getElem_mem hj)).ok (h.perm j hj) h.srt k.toNat
        have e : ((k.toNat : Nat) : Int) = k := by omega
        rw [e] at h1
        rw [drainF_eq h1]
        refine ⟨by trivial, by trivial, ⟨by simpa using h.len, fun a ha ha' => ?_, fun a ha => ?_, h3⟩⟩
        · have ha2 : a < m.length := by simpa using ha
          have ha3 : a < ck.length := by rw [← h.len]; exact ha2
          simp only [List.getElem_set]
          by_cases e : j = a
          · simp [e]
          · simp only [if_neg e]; exact h.clk a ha2 ha3
        · have ha2 : a < m.length := by simpa using ha
          simp only [List.getElem_set]
          by_cases e : j = a
          · subst e; rw [if_pos rfl]; exact h2
          · rw [if_neg e]
            rw [h4 a (by omega)]
            exact h.perm a ha2
    · rw [hi, hn]; exact ⟨rfl, rfl, h⟩

theorem next_fold (node : Int) : ∀ (L : List Rt) (s : Int × Bool), L.foldl (rNextStep node) s = (ofN L node).foldl (fun s t => if s.2 = false ∨ t.due < s.1 then (t.due, true) else s) s
  | [], s => rfl
  | t :: r, s => by
    rw [List.foldl_cons, ofN_cons, next_fold node r]
    by_cases hn : t.node = node
    · rw [if_pos hn, List.foldl_cons]
      congr 1
      unfold rNextStep toTm
      simp [hn]
    · rw [if_neg hn]
      unfold rNextStep
      simp [hn]
theorem min_fold : ∀ (l : List Tm) (d : Int), ∃ x, l.foldl (fun (s : Int × Bool) t => if s.2 = false ∨ t.due < s.1 then (t.due, true) else s) (d, true) = (x, true) ∧ x ≤ d ∧ (∀ t ∈ l, x ≤ t.due) ∧ (x = d ∨ ∃ t ∈ l, x = t.due)
  | [], d => ⟨d, rfl, Int.le_refl _, fun _ h => (by cases h), .inl rfl⟩
  | t :: r, d => by
    by_cases h : t.due < d
    · obtain ⟨x, h1, h2, h3, h4⟩ := min_fold r t.due
      refine ⟨x, ?_, by omega, fun y hy => ?_, .inr ?_⟩
      · rw [List.foldl_cons]; simp only [h, or_true, if_true]; exact h1
      · rcases List.mem_cons.1 hy with rfl | hy
        · exact h2
        · exact h3 y hy
      · rcases h4 with h4 | ⟨y, hy, h4⟩
        · exact ⟨t, List.mem_cons_self .., h4⟩
        · exact ⟨y, List.mem_cons_of_mem _ hy, h4⟩
    · obtain ⟨x, h1, h2, h3, h4⟩ := min_fold r d
      refine ⟨x, ?_, h2, fun y hy => ?_, ?_⟩
      · rw [List.foldl_cons]; simp only [h, or_false, Bool.true_eq_false, if_false]; exact h1
      · rcases List.mem_cons.1 hy with rfl | hy
        · omega
        · exact h3 y hy
      · rcases h4 with h4 | ⟨y, hy, h4⟩
        · exact .inl h4
        · exact .inr ⟨y, List.mem_cons_of_mem _ hy, h4⟩
theorem plays_next {m : MB} {ck : List Int} {L : List Rt} (h : PR m ck L) (hok : BOk m) (i : Int) (hn' : ∀ t ∈ L, 0 ≤ t.node ∧ t.node < ck.length) : mNext m i = rNext L i := by
  unfold mNext rNext
  rw [next_fold]
  rcases nodeAt_is h.len i with ⟨_, j, rfl, hj, hn⟩ | ⟨hi, hn⟩
  · rw [hn]
    simp only
    have hp := h.perm j hj
    have hs := (hok _ (List.getElem_mem hj)).ok.srt
    cases hl : ofN L j with
    | nil =>
      rw [hl] at hp
      rw [List.perm_nil.1 hp]; rfl
    | cons t r =>
      rw [List.foldl_cons]
      simp only [true_or, if_true]
      obtain ⟨x, h1, h2, h3, h4⟩ := min_fold r t.due
      rw [h1]
      rw [hl] at hp
      cases hm : m[j].2 with
      | nil => rw [hm] at hp; have := hp.length_eq; simp at this
      | cons y q =>
        rw [hm] at hp hs
        simp only
        have hy : y ∈ t :: r := hp.subset (List.mem_cons_self ..)
        have hx1 : x ≤ y.due := by
          rcases List.mem_cons.1 hy with rfl | hy
          · exact h2
          · exact h3 y hy
        have hx2 : ∃ z ∈ t :: r, x = z.due := by
          rcases h4 with h4 | ⟨z, hz, h4⟩
          · exact ⟨t, List.mem_cons_self .., h4⟩
          · exact ⟨z, List.mem_cons_of_mem _ hz, h4⟩
        obtain ⟨z, hz, rfl⟩ := hx2
        have hz' : z ∈ y :: q := hp.symm.subset hz
        have : y.due ≤ z.due := by
          rcases List.mem_cons.1 hz' with rfl | hz'
          · exact Int.le_refl _
          · have := (List.pairwise_cons.1 hs).1 z hz'
            unfold ltT at this; omega
        have : y.due = z.due := by omega
        rw [this]
  · rw [hn]
    simp only
    have : ofN L i = [] := by
      unfold ofN
      rw [List.map_eq_nil_iff, List.filter_eq_nil_iff]
      intro t ht
      have := hn' t ht
      unfold rIs at hi
      simp only [decide_eq_false_iff_not] at hi
      simp; omega
    rw [this]; rfl
theorem plays_clock {m : MB} {ck : List Int} {L : List Rt} (h : PR m ck L) (i : Int) : mClock m i = if rIs ck i then ck.getD i.toNat 0 else 0 := by
  unfold mClock
  rcases nodeAt_is h.len i with ⟨hi, j, rfl, hj, hn⟩ | ⟨hi, hn⟩
  · rw [hn, hi]; simp only [if_true, Int.toNat_natCast, h.clkAt j hj]
  · rw [hn, hi]; rfl
end Go.Proofs.Ytcolaafgjlaikaa
