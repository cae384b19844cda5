/- Plain laws: who came later doesn't come in ahead; when all have left nobody is there; each once, rising. -/
import Derived.Test.YtnemgmlhcjhdhaaAK
namespace Go.Proofs.Ytnemgmlhcjhdhaa
open Go.RowKit
theorem compact_snoc (zs : List Int) (x : Int) : Lib.compact (zs ++ [x]) = Lib.compact zs ++ (if zs.getLast? = some x then [] else [x]) := by
  have hget : ∀ j, j < zs.length → (zs ++ [x]).toArray[j]! = zs.toArray[j]! := fun j hj => by
    rw [getElem!_pos _ j (by simp; omega), getElem!_pos _ j (by simpa using hj)]
    simp [List.getElem_append_left hj]
  unfold Lib.compact
  rw [List.length_append, List.length_singleton, Lib.compactUpTo_succ]
  congr 1
  · unfold Lib.compactUpTo
    have h1 : (List.range zs.length).filter (Lib.keeps (zs ++ [x]).toArray) = (List.range zs.length).filter (Lib.keeps zs.toArray) := by
      refine List.filter_congr fun j hj => ?_
      have hj := List.mem_range.1 hj
      unfold Lib.keeps
      rw [hget j hj]
      by_cases h0 : j = 0
      · subst h0; simp
      · rw [hget (j - 1) (by omega)]
    rw [h1]
    refine List.map_congr_left fun j hj => hget j (List.mem_range.1 (List.mem_filter.1 hj).1)
  · have hx : (zs ++ [x]).toArray[zs.length]! = x := by
      rw [getElem!_pos _ zs.length (by simp)]; simp
    rw [hx]
    unfold Lib.keeps
    rw [hx]
    by_cases h0 : zs.length = 0
    · obtain rfl := List.eq_nil_of_length_eq_zero h0
      simp
    · rw [hget (zs.length - 1) (by omega), getElem!_pos _ (zs.length - 1) (by simp; omega)]
      have hl : zs.getLast? = some (zs[zs.length - 1]'(by omega)) := by
        rw [List.getLast?_eq_getElem?, List.getElem?_eq_getElem (by omega)]
      rw [hl]
      by_cases e : x = zs[zs.length - 1]'(by omega)
      · simp [h0, ← e]
      · have e2 : ¬ zs[zs.length - 1]'(by omega) = x := fun h => e h.symm
        simp [e, e2]
theorem snoc_ind {p : List Int → Prop} (h0 : p []) (h1 : ∀ l x, p l → p (l ++ [x])) (zs : List Int) : p zs := by
  have h : ∀ l : List Int, p l.reverse := fun l => by
    induction l with
    | nil => exact h0
    | cons x r ih => rw [List.reverse_cons]; exact h1 _ _ ih
  have := h zs.reverse
  rwa [List.reverse_reverse] at this
theorem compact_sorted (zs : List Int) : zs.Pairwise (· ≤ ·) → (∀ x, x ∈ Lib.compact zs ↔ x ∈ zs) ∧ (Lib.compact zs).Pairwise (· < ·) := by
  refine snoc_ind (p := fun zs => zs.Pairwise (· ≤ ·) → (∀ x, x ∈ Lib.compact zs ↔ x ∈ zs) ∧ (Lib.compact zs).Pairwise (· < ·)) (fun _ => ⟨fun x => by simp [Lib.compact, Lib.compactUpTo], by simp [Lib.compact, Lib.compactUpTo]⟩) (fun zs x ih h => ?_) zs
  obtain ⟨h1, -, h2⟩ := List.pairwise_append.1 h
  obtain ⟨i1, i2⟩ := ih h1
  rw [compact_snoc]
  split
  · rename_i hl
    have hm : x ∈ zs := List.mem_of_getLast? hl
    rw [List.append_nil]
    refine ⟨fun y => ?_, i2⟩
    rw [i1, List.mem_append]
    constructor
    · exact .inl
    · rintro (h | h)
      · exact h
      · rw [List.mem_singleton.1 h]; exact hm
  · rename_i hl
    refine ⟨fun y => by rw [List.mem_append, List.mem_append, i1], List.pairwise_append.2 ⟨i2, List.pairwise_singleton _ _, fun y hy z hz => ?_⟩⟩
    obtain rfl := List.mem_singleton.1 hz
    have hy := (i1 y).1 hy
    have hle := h2 y hy z (by simp)
    have hne : y ≠ z := by
      rintro rfl
      obtain ⟨q, hq⟩ : ∃ q, zs.getLast? = some q := by
        cases zs with
        | nil => cases hy
        | cons a t => exact ⟨_, List.getLast?_eq_some_getLast (by simp)⟩
      have hqm : q ∈ zs := List.mem_of_getLast? hq
      have h3 := h2 q hqm y (by simp)
      have h4 : y ≤ q := by
        have hlast := List.getLast?_eq_some_iff.1 hq
        obtain ⟨t, rfl⟩ := hlast
        rcases List.mem_append.1 hy with h5 | h5
        · exact (List.pairwise_append.1 h1).2.2 y h5 q (by simp)
        · rw [List.mem_singleton.1 h5]; exact Int.le_refl _
      exact hl (by rw [hq]; congr 1; omega)
    omega
theorem sortI_sorted (l : List Int) : (sortI l).Pairwise (· ≤ ·) := by
  have := List.pairwise_mergeSort (le := fun x y : Int => decide (x ≤ y)) (fun a b c h1 h2 => by simp at *; omega) (fun a b => by simp; omega) l
  exact this.imp fun h => by simpa using h
theorem rise_mem {l : List Int} {x : Int} : x ∈ riseI l ↔ x ∈ l := by
  unfold riseI
  rw [(compact_sorted _ (sortI_sorted l)).1]
  exact (List.mergeSort_perm l _).mem_iff
theorem rise_strict (l : List Int) : (riseI l).Pairwise (· < ·) := (compact_sorted _ (sortI_sorted l)).2
theorem strict_ext : ∀ {a b : List Int}, a.Pairwise (· < ·) → b.Pairwise (· < ·) → (∀ x, x ∈ a ↔ x ∈ b) → a = b
  | [], [], _, _, _ => rfl
  | [], y :: b, _, _, h => by have := (h y).2 (by simp); cases this
  | x :: a, [], _, _, h => by have := (h x).1 (by simp); cases this
  | x :: a, y :: b, ha, hb, h => by
    obtain ⟨a1, a2⟩ := List.pairwise_cons.1 ha
    obtain ⟨b1, b2⟩ := List.pairwise_cons.1 hb
    have e : x = y := by
      rcases List.mem_cons.1 ((h x).1 (by simp)) with e | e
      · exact e
      · rcases List.mem_cons.1 ((h y).2 (by simp)) with e2 | e2
        · exact e2.symm
        · have := a1 y e2; have := b1 x e; omega
    subst e
    rw [strict_ext a2 b2 fun z => ?_]
    have hz := h z
    rw [List.mem_cons, List.mem_cons] at hz
    constructor
    · intro h1
      rcases hz.1 (.inr h1) with h2 | h2
      · have := a1 z h1; omega
      · exact h2
    · intro h1
      rcases hz.2 (.inr h1) with h2 | h2
      · have := b1 z h1; omega
      · exact h2
theorem rise_nil {l : List Int} (h : riseI l = []) : l = [] := by
  cases l with
  | nil => rfl
  | cons x r => have : x ∈ riseI (x :: r) := rise_mem.2 (by simp); rw [h] at this; cases this
theorem rise_of_nil : riseI [] = [] := by simp [riseI, sortI, Lib.compact, Lib.compactUpTo]
/-- asking a line with a queue: nobody of the queue comes in, nor one that holds nothing. -/
theorem ask_keeps {l : Li} (h : LiW l.hs l.qs) (hm : mayH l.hs l.qs = false) (hq : l.qs ≠ []) {w : Hd} (h0 : 0 ≤ w.owner) (hmo : modeM w.mode = true) :
    (∀ x ∈ l.qs, x ∈ (askLi l w).2.qs) ∧ ∀ x ∈ (askLi l w).2.hs, ∃ y ∈ l.hs, y.owner = x.owner := by
  have hself : (∀ x ∈ l.qs, x ∈ l.qs) ∧ ∀ x ∈ l.hs, ∃ y ∈ l.hs, y.owner = x.owner := ⟨fun x hx => hx, fun x hx => ⟨x, hx, rfl⟩⟩
  unfold askLi
  split
  · exact hself
  · rename_i hc
    split
    · exact hself
    · rename_i hw
      have hno : ∀ x ∈ l.qs, x.owner ≠ w.owner := fun x hx e => hw (by rw [← e]; exact ofH_pos h.qpos hx)
      simp only
      split
      · rename_i hup
        obtain ⟨y, hy, e, -⟩ := ofH_mem hup
        cases hu : upsH l.hs l.qs with
        | zero =>
          simp only [List.take_zero, List.nil_append, List.drop_zero]
          by_cases hmay : mayH l.hs (w :: l.qs) = true
          · have hW := h.ask h0 hmo (by omega) hw
            rw [if_pos hup, hu] at hW
            simp only [List.take_zero, List.nil_append, List.drop_zero] at hW
            have hput := (hW.put hmay)
            have hmn : mayH (putH l.hs w) l.qs = false := by
              match hqe : l.qs, hq with
              | z :: r, _ =>
                rw [hqe] at hno hu
                have hz : ¬ 0 < ofH l.hs z.owner := by
                  intro hz
                  unfold upsH posBy at hu
                  rw [if_pos (by simpa using hz)] at hu
                  omega
                have hof : ofH (putH l.hs w) z.owner = ofH l.hs z.owner := by rw [ofH_put h.sh h.hpos w (mode_pos hmo), if_neg (hno z (by simp))]
                rw [mayH_cons, hof, if_neg hz]
                cases hf : fitsH (putH l.hs w) z.mode with
                | false => rfl
                | true =>
                  have := fitsH_iff.1 hf w ((putH_mem h.sh).2 (.inl rfl))
                  have hw2 : w.mode = 2 := by rcases modeM_iff.1 hmo with e | e <;> omega
                  rw [hw2] at this
                  exact absurd this (by simp [clashM])
            rw [show letH l.hs (w :: l.qs) = (w.owner :: (letH (putH l.hs w) l.qs).1, (letH (putH l.hs w) l.qs).2) by conv => lhs; unfold letH; rw [if_pos hmay], letH_not hmn]
            refine ⟨fun x hx => hx, fun x hx => ?_⟩
            rcases (putH_mem h.sh).1 hx with rfl | ⟨h1, -⟩
            · exact ⟨y, hy, e⟩
            · exact ⟨x, h1, rfl⟩
          · have hmay : mayH l.hs (w :: l.qs) = false := by simpa using hmay
            rw [letH_not hmay]
            exact ⟨fun x hx => List.mem_cons_of_mem _ hx, hself.2⟩
        | succ u =>
          have hmay : mayH l.hs (l.qs.take (u + 1) ++ w :: l.qs.drop (u + 1)) = false := by
            match hqe : l.qs, hq with
            | z :: r, _ => rw [hqe] at hm; exact hm
          rw [letH_not hmay]
          refine ⟨fun x hx => ?_, hself.2⟩
          rw [← List.take_append_drop (u + 1) l.qs] at hx
          rcases List.mem_append.1 hx with hx | hx
          · exact List.mem_append_left _ hx
          · exact List.mem_append_right _ (List.mem_cons_of_mem _ hx)
      · have hmay : mayH l.hs (l.qs ++ [w]) = false := by
          match hqe : l.qs, hq with
          | z :: r, _ => rw [hqe] at hm; exact hm
        rw [letH_not hmay]
        exact ⟨fun x hx => List.mem_append_left _ hx, hself.2⟩
/-- leaving: who stood behind one that waits yet waits, too. -/
theorem leave_keeps {l : Li} (h : LiW l.hs l.qs) (o : Int) {i : Nat} (hi : i < l.qs.length) (hw : l.qs[i].owner ≠ o) (hz : 0 < ofH (leaveLi l o).2.qs l.qs[i].owner) :
    (∀ x ∈ l.qs.drop (i + 1), x.owner ≠ o → x ∈ (leaveLi l o).2.qs) ∧ ∀ x ∈ (leaveLi l o).2.hs, (∃ y ∈ l.hs, y.owner = x.owner) ∨ ∃ y ∈ l.qs, y.owner = x.owner := by
  obtain ⟨p, h1, -, h3, -, -⟩ := letH_parts (h.out o)
  have hO := h.out o
  have hz : 0 < ofH (letH (outH l.hs o) (outH l.qs o)).2.2 l.qs[i].owner := hz
  show (∀ x ∈ l.qs.drop (i + 1), x.owner ≠ o → x ∈ (letH (outH l.hs o) (outH l.qs o)).2.2) ∧ ∀ x ∈ (letH (outH l.hs o) (outH l.qs o)).2.1, _
  generalize (letH (outH l.hs o) (outH l.qs o)).2.2 = rest at *
  constructor
  · intro x hx hxo
    have hsp : outH l.qs o = outH (l.qs.take i) o ++ l.qs[i] :: outH (l.qs.drop (i + 1)) o := by
      conv => lhs; rw [← List.take_append_drop i l.qs, List.drop_eq_getElem_cons hi]
      unfold outH
      rw [List.filter_append, List.filter_cons_of_pos (by simpa using hw)]
    have hxm : x ∈ outH (l.qs.drop (i + 1)) o := mem_outH.2 ⟨hx, hxo⟩
    have hd := hO.qd
    rw [h1] at hsp hd
    rcases List.append_eq_append_iff.1 hsp with ⟨a', -, e2⟩ | ⟨c', e1, e2⟩
    · rw [e2]; exact List.mem_append_right _ (List.mem_cons_of_mem _ hxm)
    · cases c' with
      | nil => rw [List.nil_append] at e2; rw [← e2]; exact List.mem_cons_of_mem _ hxm
      | cons z c'' =>
        simp only [List.cons_append, List.cons.injEq] at e2
        obtain ⟨rfl, -⟩ := e2
        obtain ⟨y, hy, ey, -⟩ := ofH_mem hz
        exact absurd ey.symm ((List.pairwise_append.1 hd).2.2 l.qs[i] (by rw [e1]; simp) y hy)
  · intro x hx
    rw [h3] at hx
    rcases foldl_put_mem p _ hO.sh x hx with hx | hx
    · exact .inr ⟨x, (mem_outH.1 (show x ∈ outH l.qs o by rw [h1]; exact List.mem_append_left _ hx)).1, rfl⟩
    · exact .inl ⟨x, (mem_outH.1 hx).1, rfl⟩
/-- WHO CAME LATER. -/
theorem fair_do {L : List Li} (h : LOk L) (a : Ac) {l : Li} (hl : l ∈ L) {i : Nat} (hi : i < l.qs.length) (hw : ¬ (l.qs[i].owner = a.owner ∧ a.leave = true)) (hz : ofH (lineL (doT L a) l.key).qs l.qs[i].owner ≠ 0) :
    (∀ x ∈ l.qs.drop (i + 1), ofH (lineL (doT L a) l.key).hs x.owner < x.mode) ∧ ∀ x ∈ (lineL (doT L a) l.key).hs, (∃ y ∈ l.hs, y.owner = x.owner) ∨ ∃ y ∈ l.qs, y.owner = x.owner := by
  have hOk := (h.ok l hl)
  have hle := lineL_eq h.s hl
  have hd : ∀ x ∈ l.qs.drop (i + 1), x ∈ l.qs := fun x hx => List.mem_of_mem_drop hx
  have hnil : l.qs ≠ [] := by intro e; rw [e] at hi; exact absurd hi (Nat.not_lt_zero _)
  have hself : lineL (doT L a) l.key = l → (∀ x ∈ l.qs.drop (i + 1), ofH (lineL (doT L a) l.key).hs x.owner < x.mode) ∧ ∀ x ∈ (lineL (doT L a) l.key).hs, (∃ y ∈ l.hs, y.owner = x.owner) ∨ ∃ y ∈ l.qs, y.owner = x.owner := fun e => by
    rw [e]
    exact ⟨fun x hx => (hOk.w.qp x (hd x hx)).2.2, fun x hx => .inl ⟨x, hx, rfl⟩⟩
  cases ha : a.leave with
  | false =>
    have hT : doT L a = (askL L a.owner a.key a.mode).2 := by unfold doT; rw [ha]; rfl
    by_cases hk : l.key = a.key
    · by_cases hv : 0 ≤ a.owner ∧ a.key.size ≤ 16 ∧ modeM a.mode = true
      · obtain ⟨v0, v1, v2⟩ := hv
        have hhas : hasL L a.key = true := List.any_eq_true.2 ⟨l, hl, by simpa using hk⟩
        have e := lineL_ask_eq h v0 v1 v2
        rw [if_pos hhas, ← hk, hle, hk, ← hT] at e
        rw [hk, e]
        obtain ⟨k1, k2⟩ := ask_keeps hOk.w hOk.may hnil (w := ⟨a.owner, a.mode⟩) v0 v2
        have hok2 := askLi_ok hOk (w := ⟨a.owner, a.mode⟩) v0 v2
        exact ⟨fun x hx => (hok2.w.qp x (k1 x (hd x hx))).2.2, fun x hx => .inl (k2 x hx)⟩
      · refine hself ?_
        have : (askL L a.owner a.key a.mode).2 = L := by
          unfold askL
          rw [if_pos]
          by_cases c0 : a.owner < 0
          · exact .inl c0
          · by_cases c1 : 16 < a.key.size
            · exact .inr (.inl c1)
            · refine .inr (.inr ?_)
              cases c2 : modeM a.mode with
              | false => rfl
              | true => exact absurd ⟨by omega, by omega, c2⟩ hv
        rw [hT, this, hle]
    · refine hself ?_
      rw [hT, lineL_ask_ne h _ _ hk, hle]
  | true =>
    have hT : doT L a = (leaveL L a.owner).2 := by unfold doT; rw [ha]; rfl
    have hw' : l.qs[i].owner ≠ a.owner := fun e => hw ⟨e, ha⟩
    obtain ⟨e1, e2⟩ := lineL_leave h a.owner l.key
    rw [hle, ← hT] at e1 e2
    rw [e2] at hz
    rw [e1]
    have hW2 := (letH_ok _ _ (hOk.w.out a.owner)).1
    have hz2 : 0 < ofH (leaveLi l a.owner).2.qs l.qs[i].owner := by
      rcases Int.lt_trichotomy 0 (ofH (leaveLi l a.owner).2.qs l.qs[i].owner) with h1 | h1 | h1
      · exact h1
      · exact absurd h1.symm hz
      · exfalso
        have hpos := hW2.qpos
        have : ∀ (q : List Hd) (o : Int), (∀ x ∈ q, 0 < x.mode) → 0 ≤ ofH q o := fun q o hq => by
          induction q with
          | nil => exact Int.le_refl _
          | cons y r ih =>
            unfold ofH
            split
            · exact Int.le_of_lt (hq y (by simp))
            · exact ih fun z hz => hq z (List.mem_cons_of_mem _ hz)
        have := this (leaveLi l a.owner).2.qs l.qs[i].owner hpos
        omega
    obtain ⟨k1, k2⟩ := leave_keeps hOk.w a.owner hi hw' hz2
    refine ⟨fun x hx => ?_, k2⟩
    by_cases hxo : x.owner = a.owner
    · rw [hxo, ofH_none (leaveLi_none hOk.w a.owner).1]
      exact mode_pos (hOk.w.qp x (hd x hx)).2.1
    · exact (hW2.qp x (k1 x hx hxo)).2.2
/-- who isn't there leaves: nothing changes. -/
theorem leave_none {L : List Li} (h : LOk L) {o : Int} (hn : o ∉ ownsL L) : leaveL L o = ([], L) := by
  have hl : ∀ l ∈ L, leaveLi l o = ([], l) := fun l hl => by
    have h1 : ∀ x ∈ l.hs, x.owner ≠ o := fun x hx e => hn (List.mem_flatMap.2 ⟨l, hl, List.mem_append_left _ (List.mem_map.2 ⟨x, hx, e⟩)⟩)
    have h2 : ∀ x ∈ l.qs, x.owner ≠ o := fun x hx e => hn (List.mem_flatMap.2 ⟨l, hl, List.mem_append_right _ (List.mem_map.2 ⟨x, hx, e⟩)⟩)
    have e1 : outH l.hs o = l.hs := List.filter_eq_self.2 fun x hx => by simpa using h1 x hx
    have e2 : outH l.qs o = l.qs := List.filter_eq_self.2 fun x hx => by simpa using h2 x hx
    unfold leaveLi
    rw [e1, e2, letH_not (h.ok l hl).may]
  unfold leaveL
  have e1 : L.flatMap (fun l => (leaveLi l o).1) = [] := List.flatMap_eq_nil_iff.2 fun l hl' => by rw [hl l hl']
  have e2 : L.map (fun l => (leaveLi l o).2) = L := by
    conv => rhs; rw [← List.map_id L]
    exact List.map_congr_left fun l hl' => by rw [hl l hl']; rfl
  rw [e1, e2, List.filter_eq_self.2 fun l hl' => by rw [(h.ok l hl').ne]; rfl]
theorem foldl_put_owner : ∀ (p hs : List Hd), SortH hs → ∀ o, (∃ x ∈ p.foldl putH hs, x.owner = o) ↔ (∃ x ∈ p, x.owner = o) ∨ ∃ x ∈ hs, x.owner = o
  | [], hs, _, o => by simp
  | w :: p, hs, h0, o => by
    show (∃ x ∈ p.foldl putH (putH hs w), x.owner = o) ↔ _
    rw [foldl_put_owner p (putH hs w) (putH_sort h0 w) o]
    constructor
    · rintro (⟨x, hx, e⟩ | ⟨x, hx, e⟩)
      · exact .inl ⟨x, List.mem_cons_of_mem _ hx, e⟩
      · rcases (putH_mem h0).1 hx with rfl | ⟨hx, -⟩
        · exact .inl ⟨x, List.mem_cons_self .., e⟩
        · exact .inr ⟨x, hx, e⟩
    · rintro (⟨x, hx, e⟩ | ⟨x, hx, e⟩)
      · rcases List.mem_cons.1 hx with rfl | hx
        · exact .inr ⟨x, (putH_mem h0).2 (.inl rfl), e⟩
        · exact .inl ⟨x, hx, e⟩
      · by_cases hw : x.owner = w.owner
        · exact .inr ⟨w, (putH_mem h0).2 (.inl rfl), by rw [← hw, e]⟩
        · exact .inr ⟨x, (putH_mem h0).2 (.inr ⟨hx, hw⟩), e⟩
theorem owns_li {l : Li} {o : Int} : o ∈ ownsLi l ↔ (∃ x ∈ l.hs, x.owner = o) ∨ ∃ x ∈ l.qs, x.owner = o := by
  unfold ownsLi; rw [List.mem_append, List.mem_map, List.mem_map]
theorem owns_leaveLi {l : Li} (h : LiW l.hs l.qs) (o x : Int) : x ∈ ownsLi (leaveLi l o).2 ↔ x ∈ ownsLi l ∧ x ≠ o := by
  obtain ⟨p, h1, -, h3, -, -⟩ := letH_parts (h.out o)
  rw [owns_li, owns_li]
  show ((∃ y ∈ (letH (outH l.hs o) (outH l.qs o)).2.1, y.owner = x) ∨ ∃ y ∈ (letH (outH l.hs o) (outH l.qs o)).2.2, y.owner = x) ↔ _
  rw [h3, foldl_put_owner p _ (h.out o).sh x]
  have hq : ∀ y, y ∈ outH l.qs o ↔ y ∈ p ∨ y ∈ (letH (outH l.hs o) (outH l.qs o)).2.2 := fun y => by
    conv => lhs; rw [h1]
    exact List.mem_append
  generalize (letH (outH l.hs o) (outH l.qs o)).2.2 = rest at *
  constructor
  · rintro ((⟨y, hy, e⟩ | ⟨y, hy, e⟩) | ⟨y, hy, e⟩)
    · have := mem_outH.1 ((hq y).2 (.inl hy)); exact ⟨.inr ⟨y, this.1, e⟩, by rw [← e]; exact this.2⟩
    · have := mem_outH.1 hy; exact ⟨.inl ⟨y, this.1, e⟩, by rw [← e]; exact this.2⟩
    · have := mem_outH.1 ((hq y).2 (.inr hy)); exact ⟨.inr ⟨y, this.1, e⟩, by rw [← e]; exact this.2⟩
  · rintro ⟨⟨y, hy, e⟩ | ⟨y, hy, e⟩, hne⟩
    · exact .inl (.inr ⟨y, mem_outH.2 ⟨hy, by rw [e]; exact hne⟩, e⟩)
    · rcases (hq y).1 (mem_outH.2 ⟨hy, by rw [e]; exact hne⟩) with h | h
      · exact .inl (.inl ⟨y, h, e⟩)
      · exact .inr ⟨y, h, e⟩
theorem owns_leave {L : List Li} (h : LOk L) (o x : Int) : x ∈ ownsL (leaveL L o).2 ↔ x ∈ ownsL L ∧ x ≠ o := by
  unfold ownsL leaveL
  simp only [List.mem_flatMap, List.mem_filter, List.mem_map]
  constructor
  · rintro ⟨_, ⟨⟨l, hl, rfl⟩, -⟩, hx⟩
    obtain ⟨h1, h2⟩ := (owns_leaveLi (h.ok l hl).w o x).1 hx
    exact ⟨⟨l, hl, h1⟩, h2⟩
  · rintro ⟨⟨l, hl, h1⟩, h2⟩
    have hx := (owns_leaveLi (h.ok l hl).w o x).2 ⟨h1, h2⟩
    refine ⟨_, ⟨⟨l, hl, rfl⟩, ?_⟩, hx⟩
    rcases owns_li.1 hx with ⟨y, hy, -⟩ | ⟨y, hy, -⟩ <;> (have := List.length_pos_of_mem hy; simp only [emptyLi, Bool.not_eq_true', beq_eq_false_iff_ne]; omega)
/-- who leaves doesn't come in. -/
theorem leave_not_in {L : List Li} (h : LOk L) (o : Int) : o ∉ riseI (leaveL L o).1 := by
  rw [rise_mem]
  intro hm
  obtain ⟨l, hl, hx⟩ := List.mem_flatMap.1 hm
  obtain ⟨p, h1, h2, -, -, -⟩ := letH_parts ((h.ok l hl).w.out o)
  have hx : o ∈ (letH (outH l.hs o) (outH l.qs o)).1 := hx
  rw [h2] at hx
  obtain ⟨y, hy, e⟩ := List.mem_map.1 hx
  exact outH_none l.qs o y (by rw [h1]; exact List.mem_append_left _ hy) e
theorem rise_leave {L : List Li} (h : LOk L) {R : List Int} {i : Nat} (hi : i < R.length) (hR : R.Pairwise (· < ·)) (hl : riseI (ownsL L) = R.drop i) : riseI (ownsL (leaveL L R[i]).2) = R.drop (i + 1) := by
  refine strict_ext (rise_strict _) (hR.sublist (List.drop_sublist _ _)) fun x => ?_
  rw [rise_mem, owns_leave h, ← rise_mem, hl, List.drop_eq_getElem_cons hi, List.mem_cons]
  have hd : ∀ y ∈ R.drop (i + 1), R[i] < y := by
    have := hR.sublist (List.drop_sublist i R)
    rw [List.drop_eq_getElem_cons hi] at this
    exact (List.pairwise_cons.1 this).1
  constructor
  · rintro ⟨h1 | h1, h2⟩
    · exact absurd h1 h2
    · exact h1
  · intro h1
    have := hd x h1
    exact ⟨.inr h1, by omega⟩
/-- a table in which nobody is has no line. -/
theorem owns_nil {L : List Li} (h : LOk L) (he : ownsL L = []) : L = [] := by
  cases L with
  | nil => rfl
  | cons l r =>
    exfalso
    have hn := (h.ok l (by simp)).ne
    have : ownsLi l = [] := by
      unfold ownsL at he
      rw [List.flatMap_cons] at he
      exact (List.append_eq_nil_iff.1 he).1
    unfold ownsLi at this
    have := congrArg List.length this
    rw [List.length_append, List.length_map, List.length_map] at this
    unfold emptyLi at hn
    rw [this] at hn
    cases hn
end Go.Proofs.Ytnemgmlhcjhdhaa
