/- The plain law of TimerPlays (no program in sight): what goes tick by tick, and the drain, tell the same. -/
import Derived.Test.YtcolaafgjlaikaaDD
namespace Go.Proofs.Ytcolaafgjlaikaa
open Go.RowKit

def toTm (t : Rt) : Tm := ⟨t.id, t.due, t.every⟩
/-- a node's timers. -/
def ofN (L : List Rt) (i : Int) : List Tm := (L.filter fun t => t.node == i).map toTm

/-- The two boards tell the same. -/
structure PR (m : MB) (ck : List Int) (L : List Rt) : Prop where
  len : m.length = ck.length
  clk : ∀ j (h : j < m.length) (h' : j < ck.length), m[j].1 = ck[j]
  perm : ∀ j (h : j < m.length), m[j].2.Perm (ofN L j)
  srt : L.Pairwise fun a b => a.id ≤ b.id

def rSetL (ck : List Int) (L : List Rt) (node id after every : Int) : List Rt :=
  (rWithout L node id).takeWhile (fun t => decide (t.id < id)) ++ ⟨node, id, ck.getD node.toNat 0 + after, every⟩ :: (rWithout L node id).dropWhile fun t => decide (t.id < id)
def rSet (ck : List Int) (L : List Rt) (node id after every : Int) : Int × List Rt :=
  if okSet id after every then (if rIs ck node then (if 64 ≤ ((rWithout L node id).filter fun t => t.node == node).length then (7, L) else (0, rSetL ck L node id after every)) else (6, L)) else (1, L)
def rCancel (ck : List Int) (L : List Rt) (node id : Int) : Int × List Rt :=
  if rIs ck node then (if (rWithout L node id).length = L.length then (6, L) else (0, rWithout L node id)) else (6, L)
def rCrash (ck : List Int) (L : List Rt) (node : Int) : Int × List Rt := if rIs ck node then (0, L.filter fun t => t.node != node) else (6, L)
def rUpd (node c : Int) (t : Rt) : Option Rt := if t.node = node ∧ t.due = c then (if t.every = 0 then none else some ⟨t.node, t.id, t.due + t.every, t.every⟩) else some t
def rTick (node c : Int) (L : List Rt) : List Rt := L.filterMap (rUpd node c)
def rOut (node c : Int) (L : List Rt) : List Int := (L.filter fun t => t.node == node && t.due == c).map (·.id)
/-- j ticks from clock c on. -/
def rTicks (node c : Int) (L : List Rt) : Nat → List Int × List Rt
  | 0 => ([], L)
  | j + 1 => ((rTicks node c L j).1 ++ rOut node (c + (j + 1 : Nat)) (rTicks node c L j).2, rTick node (c + (j + 1 : Nat)) (rTicks node c L j).2)
def rSkip (ck : List Int) (L : List Rt) (node k : Int) : Int × List Int × List Int × List Rt :=
  if k < 0 ∨ 256 < k then (1, [], ck, L) else if rIs ck node then (if 1099511627776 < ck.getD node.toNat 0 + k then (7, [], ck, L) else (0, (rTicks node (ck.getD node.toNat 0) L k.toNat).1, ck.set node.toNat (ck.getD node.toNat 0 + k), (rTicks node (ck.getD node.toNat 0) L k.toNat).2)) else (6, [], ck, L)
def rNextStep (node : Int) (s : Int × Bool) (t : Rt) : Int × Bool := if t.node = node ∧ (s.2 = false ∨ t.due < s.1) then (t.due, true) else s
def rNext (L : List Rt) (node : Int) : Int × Bool := L.foldl (rNextStep node) (0, false)
def rIds (L : List Rt) (node : Int) : List Int := (L.filter fun t => t.node == node).map (·.id)

theorem nodeAt_is {m : MB} {ck : List Int} (h : m.length = ck.length) (i : Int) : (rIs ck i = true ∧ ∃ j : Nat, i = j ∧ ∃ hj : j < m.length, nodeAt m i = some m[j]) ∨ (rIs ck i = false ∧ nodeAt m i = none) := by
  unfold rIs nodeAt
  by_cases h0 : i < 0
  · right
    exact ⟨decide_eq_false (by omega), if_pos h0⟩
  · by_cases h1 : i < ck.length
    · left
      refine ⟨decide_eq_true (by omega), i.toNat, by omega, by omega, ?_⟩
      rw [if_neg h0, List.getElem?_eq_getElem (by omega)]
    · right
      refine ⟨decide_eq_false (by omega), ?_⟩
      rw [if_neg h0, List.getElem?_eq_none (by omega)]

theorem ofN_len (L : List Rt) (i : Int) : (ofN L i).length = (L.filter fun t => t.node == i).length := by simp [ofN]
theorem ofN_without (L : List Rt) (node id : Int) : ofN (rWithout L node id) node = (ofN L node).filter fun x => !(x.id == id) := by
  unfold ofN rWithout
  rw [List.filter_map, List.filter_filter, List.filter_filter]
  congr 1
  refine List.filter_congr fun t _ => ?_
  by_cases h : t.node = node
  · simp [h, toTm]; rfl
  · have h2 : (t.node == node) = false := beq_eq_false_iff_ne.2 h
    simp [h2]
theorem ofN_without_other (L : List Rt) (node id i : Int) (hi : i ≠ node) : ofN (rWithout L node id) i = ofN L i := by
  unfold ofN rWithout
  rw [List.filter_filter]
  congr 1
  refine List.filter_congr fun t _ => ?_
  by_cases h : t.node = i
  · simp [h, hi]
  · simp [h]
theorem keep_perm {m : MB} {ck : List Int} {L : List Rt} (h : PR m ck L) (j : Nat) (hj : j < m.length) (id : Int) : (keepT id m[j].2).Perm (ofN (rWithout L j id) j) := by
  rw [ofN_without]; exact (h.perm j hj).filter _
theorem ofN_append (L M : List Rt) (i : Int) : ofN (L ++ M) i = ofN L i ++ ofN M i := by simp [ofN]
theorem ofN_cons (t : Rt) (L : List Rt) (i : Int) : ofN (t :: L) i = if t.node = i then toTm t :: ofN L i else ofN L i := by
  unfold ofN
  by_cases h : t.node = i <;> simp [h]
theorem ofN_setL (ck : List Int) (L : List Rt) (node id after every i : Int) : (ofN (rSetL ck L node id after every) i).Perm (if node = i then ⟨id, ck.getD node.toNat 0 + after, every⟩ :: ofN (rWithout L node id) i else ofN (rWithout L node id) i) := by
  unfold rSetL
  rw [ofN_append, ofN_cons]
  have hs : ofN (rWithout L node id) i = ofN ((rWithout L node id).takeWhile fun t => decide (t.id < id)) i ++ ofN ((rWithout L node id).dropWhile fun t => decide (t.id < id)) i := by
    rw [← ofN_append, List.takeWhile_append_dropWhile]
  rw [hs]
  by_cases h : node = i
  · simp only [h, if_true]
    exact List.perm_middle
  · simp only [h, if_false]
    exact List.Perm.refl _
theorem without_srt {L : List Rt} (h : L.Pairwise fun a b => a.id ≤ b.id) (node id : Int) : (rWithout L node id).Pairwise fun a b => a.id ≤ b.id := h.sublist List.filter_sublist
theorem ins_srt {l : List Rt} (h : l.Pairwise fun a b => a.id ≤ b.id) (t : Rt) : (l.takeWhile (fun x => decide (x.id < t.id)) ++ t :: l.dropWhile fun x => decide (x.id < t.id)).Pairwise fun a b => a.id ≤ b.id := by
  induction l with
  | nil => simp
  | cons x r ih =>
    obtain ⟨h1, h2⟩ := List.pairwise_cons.1 h
    by_cases hx : x.id < t.id
    · simp only [List.takeWhile_cons, List.dropWhile_cons, hx, decide_true, if_true, List.cons_append]
      refine List.pairwise_cons.2 ⟨fun y hy => ?_, ih h2⟩
      rcases List.mem_append.1 hy with hy | hy
      · exact h1 y (List.takeWhile_subset _ hy)
      · rcases List.mem_cons.1 hy with rfl | hy
        · omega
        · exact h1 y (List.dropWhile_subset _ hy)
    · simp only [List.takeWhile_cons, List.dropWhile_cons, hx, decide_false, Bool.false_eq_true, if_false, List.nil_append]
      refine List.pairwise_cons.2 ⟨fun y hy => ?_, h⟩
      rcases List.mem_cons.1 hy with rfl | hy
      · omega
      · have := h1 y hy; omega

/-- one node's list is another one, and so is its part of L. -/
theorem PR.at {m : MB} {ck : List Int} {L L' : List Rt} (h : PR m ck L) (j : Nat) (hj : j < m.length) (l : List Tm) (hl : l.Perm (ofN L' j)) (ho : ∀ i : Int, i ≠ j → ofN L' i = ofN L i ∨ (ofN L' i).Perm (ofN L i)) (hs : L'.Pairwise fun a b => a.id ≤ b.id) :
    PR (m.set j (m[j].1, l)) ck L' := by
  refine ⟨by simpa using h.len, fun i hi hi' => ?_, fun i hi => ?_, hs⟩
  · rw [List.length_set] at hi
    rw [List.getElem_set]
    by_cases e : j = i
    · subst e; rw [if_pos rfl]; exact h.clk j hi hi'
    · rw [if_neg e]; exact h.clk i hi hi'
  · rw [List.length_set] at hi
    rw [List.getElem_set]
    by_cases e : j = i
    · subst e; rw [if_pos rfl]; exact hl
    · rw [if_neg e]
      rcases ho i (by omega) with h' | h'
      · rw [h']; exact h.perm i hi
      · exact (h.perm i hi).trans h'.symm
theorem PR.clkAt {m : MB} {ck : List Int} {L : List Rt} (h : PR m ck L) (j : Nat) (hj : j < m.length) : ck.getD j 0 = m[j].1 := by
  have hj' : j < ck.length := by rw [← h.len]; exact hj
  rw [h.clk j hj hj']; simp [List.getD, hj']
theorem set_same {m : MB} {j : Nat} (hj : j < m.length) {l : List Tm} (hl : l = m[j].2) : m.set j (m[j].1, l) = m := by
  subst hl
  apply List.ext_getElem
  · simp
  · intro i h1 h2
    rw [List.getElem_set]
    split
    · rename_i e; subst e; rfl
    · rfl
theorem keepT_all {id : Int} {l : List Tm} (h : ¬ (keepT id l).length < l.length) : keepT id l = l := by
  have := List.Sublist.eq_of_length_le (l₁ := keepT id l) (l₂ := l) List.filter_sublist (by omega)
  exact this

theorem plays_set {m : MB} {ck : List Int} {L : List Rt} (h : PR m ck L) (hok : BOk m) (i id after every : Int) :
    (mSet m i id after every).1 = (rSet ck L i id after every).1 ∧ PR (mSet m i id after every).2 ck (rSet ck L i id after every).2 := by
  unfold mSet rSet
  cases hs : okSet id after every with
  | false => exact ⟨rfl, h⟩
  | true =>
    rcases nodeAt_is h.len i with ⟨hi, j, rfl, hj, hn⟩ | ⟨hi, hn⟩
    · rw [hi, hn]
      simp only [if_true, Int.toNat_natCast]
      have hk := keep_perm h j hj id
      have hkl := hk.length_eq
      rw [ofN_len] at hkl
      unfold setE setL
      by_cases hf : fullT id m[j].2 = true
      · have hf' := hf
        unfold fullT at hf'
        simp only [Bool.and_eq_true, decide_eq_true_eq] at hf'
        have h64 : 64 ≤ ((rWithout L j id).filter fun t => t.node == (j : Int)).length := by omega
        simp only [hf, if_true, if_pos h64]
        refine ⟨by trivial, ?_⟩
        rw [set_same hj (keepT_all hf'.1)]
        exact h
      · have hf' := hf
        unfold fullT at hf'
        simp only [Bool.and_eq_true, decide_eq_true_eq] at hf'
        have hle := (hok _ (List.getElem_mem hj)).ok.len
        have hlt : ¬ 64 ≤ (keepT id m[j].2).length := by
          intro h64
          by_cases hd : (keepT id m[j].2).length < m[j].2.length
          · omega
          · exact hf' ⟨hd, h64⟩
        have h64 : ¬ 64 ≤ ((rWithout L j id).filter fun t => t.node == (j : Int)).length := by omega
        have hf0 : fullT id m[j].2 = false := by simpa using hf
        simp only [hf0, Bool.false_eq_true, if_false, if_neg h64]
        refine ⟨by trivial, h.at j hj _ ?_ (fun i hi => .inr ?_) (ins_srt (without_srt h.srt j id) ⟨j, id, ck.getD ((j : Int)).toNat 0 + after, every⟩)⟩
        · refine (insT_perm _ _).trans ?_
          refine List.Perm.trans ?_ (ofN_setL ck L j id after every j).symm
          rw [if_pos rfl, Int.toNat_natCast, h.clkAt j hj]
          exact List.Perm.cons _ hk
        · refine (ofN_setL ck L j id after every i).trans ?_
          rw [if_neg (fun e => hi e.symm), ofN_without_other _ _ _ _ hi]
    · rw [hi, hn]; exact ⟨rfl, h⟩
theorem without_len {L : List Rt} {node id : Int} : (rWithout L node id).length = L.length ↔ (ofN (rWithout L node id) node).length = (ofN L node).length := by
  constructor
  · intro h
    have : rWithout L node id = L := List.Sublist.eq_of_length_le List.filter_sublist (by rw [h]; exact Nat.le_refl _)
    rw [this]
  · intro h
    rw [ofN_without] at h
    have h2 : (ofN L node).filter (fun x => !(x.id == id)) = ofN L node := List.Sublist.eq_of_length_le List.filter_sublist (by rw [h]; exact Nat.le_refl _)
    have h3 : rWithout L node id = L := by
      unfold rWithout
      rw [List.filter_eq_self]
      intro t ht
      by_cases hn : t.node = node
      · have hm : toTm t ∈ ofN L node := List.mem_map.2 ⟨t, List.mem_filter.2 ⟨ht, by simp [hn]⟩, rfl⟩
        rw [← h2] at hm
        have := (List.mem_filter.1 hm).2
        simpa [hn, toTm] using this
      · simp [hn]
    rw [h3]
theorem plays_cancel {m : MB} {ck : List Int} {L : List Rt} (h : PR m ck L) (i id : Int) : (mCancel m i id).1 = (rCancel ck L i id).1 ∧ PR (mCancel m i id).2 ck (rCancel ck L i id).2 := by
  unfold mCancel rCancel
  rcases nodeAt_is h.len i with ⟨hi, j, rfl, hj, hn⟩ | ⟨hi, hn⟩
  · rw [hi, hn]
    simp only [if_true, Int.toNat_natCast]
    have hk := keep_perm h j hj id
    have hkl := hk.length_eq
    have hl := (h.perm j hj).length_eq
    have hle := keepT_len id m[j].2
    unfold cancelE
    by_cases he : (rWithout L j id).length = L.length
    · have h2 := without_len.1 he
      have hn : ¬ (keepT id m[j].2).length < m[j].2.length := by omega
      rw [if_pos he, if_neg hn]
      refine ⟨rfl, ?_⟩
      rw [set_same hj (keepT_all hn)]
      exact h
    · have h2 : ¬ (ofN (rWithout L j id) j).length = (ofN L j).length := fun e => he (without_len.2 e)
      rw [if_neg he, if_pos (by omega)]
      exact ⟨rfl, h.at j hj _ hk (fun i hi => .inl (ofN_without_other _ _ _ _ hi)) (without_srt h.srt _ _)⟩
  · rw [hi, hn]; exact ⟨rfl, h⟩
theorem plays_crash {m : MB} {ck : List Int} {L : List Rt} (h : PR m ck L) (i : Int) : (mCrash m i).1 = (rCrash ck L i).1 ∧ PR (mCrash m i).2 ck (rCrash ck L i).2 := by
  unfold mCrash rCrash
  rcases nodeAt_is h.len i with ⟨hi, j, rfl, hj, hn⟩ | ⟨hi, hn⟩
  · rw [hi, hn]
    simp only [if_true, Int.toNat_natCast]
    refine ⟨by trivial, h.at j hj _ ?_ (fun i hi => .inl ?_) (h.srt.sublist List.filter_sublist)⟩
    · have : ofN (L.filter fun t => t.node != (j : Int)) j = [] := by
        unfold ofN
        rw [List.filter_filter, List.map_eq_nil_iff, List.filter_eq_nil_iff]
        intro t _; simp
      rw [this]
    · unfold ofN
      rw [List.filter_filter]
      congr 1
      refine List.filter_congr fun t _ => ?_
      by_cases h : t.node = i
      · simp [h, hi]
      · simp [h]
  · rw [hi, hn]; exact ⟨rfl, h⟩

theorem perm_sorted_eq {l l' : List Int} (hp : l.Perm l') (h : l.Pairwise (· ≤ ·)) (h' : l'.Pairwise (· ≤ ·)) : l = l' := hp.eq_of_pairwise (fun a b _ _ h1 h2 => Int.le_antisymm h1 h2) h h'
theorem plays_ids {m : MB} {ck : List Int} {L : List Rt} (h : PR m ck L) (i : Int) (hn' : ∀ t ∈ L, 0 ≤ t.node ∧ t.node < ck.length) : sortI (mIds m i) = rIds L i := by
  unfold mIds rIds
  rcases nodeAt_is h.len i with ⟨_, j, rfl, hj, hn⟩ | ⟨hi, hn⟩
  · rw [hn]
    simp only
    refine perm_sorted_eq ((List.mergeSort_perm _ _).trans ?_) ?_ ?_
    · have := (h.perm j hj).map (·.id)
      rw [ofN, List.map_map] at this
      exact this
    · have := List.pairwise_mergeSort (le := fun x y : Int => decide (x ≤ y)) (by intro a b c; simp; omega) (by intro a b; simp; omega) (m[j].2.map (·.id))
      refine this.imp fun h => by simpa using h
    · exact List.pairwise_map.2 ((h.srt.sublist List.filter_sublist).imp fun h => h)
  · rw [hn]
    simp only
    have : L.filter (fun t => t.node == i) = [] := by
      rw [List.filter_eq_nil_iff]
      intro t ht
      have := hn' t ht
      unfold rIs at hi
      simp only [decide_eq_false_iff_not] at hi
      simp; omega
    rw [this]; simp [sortI]
end Go.Proofs.Ytcolaafgjlaikaa
