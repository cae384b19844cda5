/- The lock table as plain lists: what a key's line is behind each call; nobody is lost; who waits is blocked. -/
import Derived.Test.YtnemgmlhcjhdhaaZ
import Derived.Test.YtnemgmlhcjhdhaaAE
namespace Go.Proofs.Ytnemgmlhcjhdhaa
open Go.RowKit
abbrev Li0 : Li := ⟨ByteArray.empty, [], []⟩
theorem hasL_false {L : List Li} {k : ByteArray} : hasL L k = false ↔ ∀ l ∈ L, l.key ≠ k := by
  unfold hasL; rw [List.any_eq_false]; simp
theorem lineL_no {L : List Li} {k : ByteArray} (h : hasL L k = false) : lineL L k = Li0 := by unfold lineL; rw [h]; rfl
theorem SortL.inj {L : List Li} (hs : SortL L) {a b : Li} (ha : a ∈ L) (hb : b ∈ L) (e : a.key = b.key) : a = b := by
  obtain ⟨i, hi, rfl⟩ := List.getElem_of_mem ha
  obtain ⟨j, hj, rfl⟩ := List.getElem_of_mem hb
  rcases Nat.lt_trichotomy i j with h | h | h
  · have := List.pairwise_iff_getElem.1 hs i j hi hj h; rw [e, ltS_irrefl] at this; cases this
  · subst h; rfl
  · have := List.pairwise_iff_getElem.1 hs j i hj hi h; rw [e, ltS_irrefl] at this; cases this
theorem lineL_inL {L : List Li} (hs : SortL L) {k : ByteArray} (h : hasL L k = true) : lineL L k ∈ L ∧ (lineL L k).key = k := by
  obtain ⟨hl, e⟩ := (hasL_iff hs k).1 h
  unfold lineL
  rw [h, if_pos rfl, List.getElem?_eq_getElem hl, Option.getD_some]
  exact ⟨List.getElem_mem _, e⟩
theorem lineL_eq {L : List Li} (hs : SortL L) {l : Li} (h : l ∈ L) : lineL L l.key = l := by
  have hh : hasL L l.key = true := List.any_eq_true.2 ⟨l, h, by simp⟩
  obtain ⟨h1, h2⟩ := lineL_inL hs hh
  exact hs.inj h1 h h2
theorem lineL_cases {L : List Li} (hs : SortL L) (k : ByteArray) : (lineL L k ∈ L ∧ (lineL L k).key = k) ∨ (hasL L k = false ∧ lineL L k = Li0) := by
  cases h : hasL L k with
  | true => exact .inl (lineL_inL hs h)
  | false => exact .inr ⟨rfl, lineL_no h⟩
/-- another key's line stays. -/
theorem lineL_ask_ne {L : List Li} (h : LOk L) (o : Int) {k k' : ByteArray} (m : Int) (hk : k' ≠ k) : lineL (askL L o k m).2 k' = lineL L k' := by
  have h' := (h.ask o k m).s
  have hmem : ∀ l : Li, l.key = k' → (l ∈ (askL L o k m).2 ↔ l ∈ L) := by
    rintro l rfl
    unfold askL
    split
    · rfl
    · split
      · rename_i hh
        obtain ⟨hl, e⟩ := (hasL_iff h.s k).1 hh
        simp only [List.getElem?_eq_getElem hl, Option.getD_some]
        constructor
        · intro hm
          rcases List.mem_or_eq_of_mem_set hm with hm | rfl
          · exact hm
          · rw [askLi_key, e] at hk; exact absurd rfl hk
        · intro hm
          obtain ⟨j, hj, rfl⟩ := List.getElem_of_mem hm
          refine List.mem_iff_getElem.2 ⟨j, by simpa using hj, ?_⟩
          rw [List.getElem_set, if_neg]
          rintro rfl
          exact hk e
      · constructor
        · intro hm
          rcases List.mem_append.1 hm with hm | hm
          · exact List.mem_of_mem_take hm
          · rcases List.mem_cons.1 hm with rfl | hm
            · exact absurd rfl hk
            · exact List.mem_of_mem_drop hm
        · intro hm
          rw [← List.take_append_drop (posL L k) L] at hm
          rcases List.mem_append.1 hm with hm | hm
          · exact List.mem_append_left _ hm
          · exact List.mem_append_right _ (List.mem_cons_of_mem _ hm)
  cases hh : hasL L k' with
  | true =>
    obtain ⟨h1, h2⟩ := lineL_inL h.s hh
    have := lineL_eq h' ((hmem _ h2).2 h1)
    rwa [h2] at this
  | false =>
    rw [lineL_no hh, lineL_no]
    rw [hasL_false] at hh ⊢
    intro l hl e
    exact hh l ((hmem l e).1 hl) e
/-- the line that is asked for. -/
theorem lineL_ask_eq {L : List Li} (h : LOk L) {o : Int} {k : ByteArray} {m : Int} (h0 : 0 ≤ o) (hk : k.size ≤ 16) (hm : modeM m = true) :
    lineL (askL L o k m).2 k = if hasL L k = true then (askLi (lineL L k) ⟨o, m⟩).2 else ⟨k, [⟨o, m⟩], []⟩ := by
  have h' := (h.ask o k m).s
  have hg : ¬ (o < 0 ∨ 16 < k.size ∨ modeM m = false) := by rw [hm]; simp; omega
  have hv : ∀ l : Li, l.key = k → l ∈ (askL L o k m).2 → lineL (askL L o k m).2 k = l := by
    rintro l rfl hl; exact lineL_eq h' hl
  split
  · rename_i hh
    obtain ⟨h1, h2⟩ := lineL_inL h.s hh
    refine hv _ (by rw [askLi_key, h2]) ?_
    obtain ⟨hl, e⟩ := (hasL_iff h.s k).1 hh
    unfold askL
    rw [if_neg hg, if_pos hh]
    simp only [List.getElem?_eq_getElem hl, Option.getD_some]
    have : lineL L k = L[posL L k] := by unfold lineL; rw [if_pos hh, List.getElem?_eq_getElem hl, Option.getD_some]
    rw [this]
    exact List.mem_iff_getElem.2 ⟨posL L k, by simpa using hl, by simp⟩
  · rename_i hh
    refine hv ⟨k, [⟨o, m⟩], []⟩ rfl ?_
    unfold askL
    rw [if_neg hg, if_neg hh]
    simp
theorem leaveLi0 (o : Int) : (leaveLi Li0 o).2 = Li0 := rfl
/-- a line behind a leaving. -/
theorem lineL_leave {L : List Li} (h : LOk L) (o : Int) (k : ByteArray) : (lineL (leaveL L o).2 k).hs = (leaveLi (lineL L k) o).2.hs ∧ (lineL (leaveL L o).2 k).qs = (leaveLi (lineL L k) o).2.qs := by
  have h' := (h.leave o).s
  rcases lineL_cases h.s k with ⟨h1, h2⟩ | ⟨h1, h2⟩
  · cases he : emptyLi (leaveLi (lineL L k) o).2 with
    | false =>
      have hm : (leaveLi (lineL L k) o).2 ∈ (leaveL L o).2 := List.mem_filter.2 ⟨List.mem_map.2 ⟨_, h1, rfl⟩, by rw [he]; rfl⟩
      have := lineL_eq h' hm
      rw [show (leaveLi (lineL L k) o).2.key = k from h2] at this
      rw [this]; exact ⟨rfl, rfl⟩
    | true =>
      have hno : hasL (leaveL L o).2 k = false := by
        rw [hasL_false]
        rintro l hl rfl
        obtain ⟨hl1, hl2⟩ := List.mem_filter.1 hl
        obtain ⟨x, hx, rfl⟩ := List.mem_map.1 hl1
        have e3 := h.s.inj hx h1 (by rw [h2]; rfl)
        have e4 : emptyLi (leaveLi x o).2 = true := by rw [e3]; exact he
        rw [e4] at hl2; cases hl2
      rw [lineL_no hno]
      have he2 : (leaveLi (lineL L k) o).2.hs.length + (leaveLi (lineL L k) o).2.qs.length = 0 := by simpa [emptyLi] using he
      exact ⟨(List.eq_nil_of_length_eq_zero (by omega)).symm, (List.eq_nil_of_length_eq_zero (by omega)).symm⟩
  · have hno : hasL (leaveL L o).2 k = false := by
      rw [hasL_false] at h1 ⊢
      intro l hl e
      obtain ⟨hl1, -⟩ := List.mem_filter.1 hl
      obtain ⟨x, hx, rfl⟩ := List.mem_map.1 hl1
      exact h1 x hx e
    rw [lineL_no hno, h2]
    exact ⟨rfl, rfl⟩
theorem LiW.nil : LiW [] [] := ⟨List.Pairwise.nil, by simp, by simp, by simp, List.Pairwise.nil, List.Pairwise.nil⟩
/-- of any key. -/
theorem LOk.line {L : List Li} (h : LOk L) (k : ByteArray) : LiW (lineL L k).hs (lineL L k).qs ∧ mayH (lineL L k).hs (lineL L k).qs = false := by
  rcases lineL_cases h.s k with ⟨h1, -⟩ | ⟨-, h2⟩
  · exact ⟨(h.ok _ h1).w, (h.ok _ h1).may⟩
  · rw [h2]; exact ⟨LiW.nil, rfl⟩
/-- the modes of those who were put in. -/
theorem foldl_put_of : ∀ (p hs : List Hd), SortH hs → (∀ h ∈ hs, 0 < h.mode) → (∀ h ∈ p, 0 < h.mode) → (p.Pairwise fun a b => a.owner ≠ b.owner) →
    (∀ w ∈ p, ofH (p.foldl putH hs) w.owner = w.mode) ∧ (∀ o, (∀ w ∈ p, w.owner ≠ o) → ofH (p.foldl putH hs) o = ofH hs o)
  | [], _, _, _, _, _ => ⟨by simp, fun _ _ => rfl⟩
  | w :: p, hs, h0, h1, h2, h3 => by
    obtain ⟨d1, d2⟩ := List.pairwise_cons.1 h3
    have hw := h2 w (List.mem_cons_self ..)
    have hpos : ∀ h ∈ putH hs w, 0 < h.mode := fun h hh => by
      rcases (putH_mem h0).1 hh with rfl | ⟨hh, -⟩
      · exact hw
      · exact h1 h hh
    obtain ⟨k1, k2⟩ := foldl_put_of p (putH hs w) (putH_sort h0 w) hpos (fun h hh => h2 h (List.mem_cons_of_mem _ hh)) d2
    refine ⟨fun x hx => ?_, fun o ho => ?_⟩
    · rcases List.mem_cons.1 hx with rfl | hx
      · show ofH (p.foldl putH (putH hs x)) x.owner = _
        rw [k2 x.owner fun y hy e => d1 y hy e.symm, ofH_put h0 h1 x hw, if_pos rfl]
      · exact k1 x hx
    · show ofH (p.foldl putH (putH hs w)) o = _
      rw [k2 o fun y hy => ho y (List.mem_cons_of_mem _ hy), ofH_put h0 h1 w hw, if_neg fun e => ho w (List.mem_cons_self ..) e.symm]
/-- who comes in, who stays. -/
theorem letH_parts {hs qs : List Hd} (h : LiW hs qs) : ∃ p, qs = p ++ (letH hs qs).2.2 ∧ (letH hs qs).1 = p.map (·.owner) ∧ (letH hs qs).2.1 = p.foldl putH hs ∧
    (∀ w ∈ p, ofH (letH hs qs).2.1 w.owner = w.mode) ∧ (∀ o, (∀ w ∈ p, w.owner ≠ o) → ofH (letH hs qs).2.1 o = ofH hs o) := by
  obtain ⟨p, h1, h2, h3⟩ := letH_split qs hs
  have hsub : p.Sublist qs := by rw [h1]; exact List.sublist_append_left ..
  obtain ⟨k1, k2⟩ := foldl_put_of p hs h.sh h.hpos (fun x hx => h.qpos x (hsub.subset hx)) (h.qd.sublist hsub)
  rw [← h3] at k1 k2
  exact ⟨p, h1, h2, h3, k1, k2⟩
/-- a line of nobody ahead: nobody comes in. -/
theorem letH_not {hs qs : List Hd} (h : mayH hs qs = false) : letH hs qs = ([], hs, qs) := by
  cases qs with
  | nil => rfl
  | cons w r => unfold letH; rw [h]; rfl
/-- who asks has it, or waits. -/
theorem askLi_has {l : Li} (h : LiW l.hs l.qs) {w : Hd} (h0 : 0 ≤ w.owner) (hm : modeM w.mode = true) (hlt : ofH (askLi l w).2.hs w.owner < w.mode) : 0 < ofH (askLi l w).2.qs w.owner := by
  unfold askLi at hlt ⊢
  split
  · rename_i hc; rw [if_pos hc] at hlt; simp only at hlt; omega
  · rename_i hc
    rw [if_neg hc] at hlt
    split
    · assumption
    · rename_i hq
      rw [if_neg hq] at hlt
      have hW := h.ask h0 hm (by omega) hq
      simp only at hlt ⊢
      have hwq : w ∈ (if 0 < ofH l.hs w.owner then l.qs.take (upsH l.hs l.qs) ++ w :: l.qs.drop (upsH l.hs l.qs) else l.qs ++ [w]) := by split <;> simp
      generalize (if 0 < ofH l.hs w.owner then l.qs.take (upsH l.hs l.qs) ++ w :: l.qs.drop (upsH l.hs l.qs) else l.qs ++ [w]) = q at *
      obtain ⟨p, h1, -, -, h4, -⟩ := letH_parts hW
      have hrest : ∀ x ∈ (letH l.hs q).2.2, 0 < x.mode := fun x hx => hW.qpos x (by rw [h1]; exact List.mem_append_right _ hx)
      rw [h1] at hwq
      rcases List.mem_append.1 hwq with hp | hp
      · have := h4 w hp; omega
      · exact ofH_pos hrest hp
theorem outH_none (l : List Hd) (o : Int) : ∀ x ∈ outH l o, x.owner ≠ o := fun _x hx => (mem_outH.1 hx).2
/-- who left holds nothing, and waits for nothing. -/
theorem leaveLi_none {l : Li} (h : LiW l.hs l.qs) (o : Int) : (∀ x ∈ (leaveLi l o).2.hs, x.owner ≠ o) ∧ ∀ x ∈ (leaveLi l o).2.qs, x.owner ≠ o := by
  obtain ⟨p, h1, -, h3, -, -⟩ := letH_parts (h.out o)
  constructor
  · intro x hx
    have hx : x ∈ (letH (outH l.hs o) (outH l.qs o)).2.1 := hx
    rw [h3] at hx
    rcases foldl_put_mem p _ (h.out o).sh x hx with hx | hx
    · exact outH_none l.qs o x (by rw [h1]; exact List.mem_append_left _ hx)
    · exact outH_none l.hs o x hx
  · intro x hx
    exact outH_none l.qs o x (by rw [h1]; exact List.mem_append_right _ hx)
theorem holder_of_may {hs qs : List Hd} (h : mayH hs qs = false) (hne : ¬ (hs.length + qs.length == 0) = true) : hs ≠ [] := by
  rintro rfl
  cases qs with
  | nil => exact hne rfl
  | cons w r => rw [mayH_cons] at h; simp [ofH, fitsH] at h
/-- each line has a holder. -/
theorem LOk.held {L : List Li} (h : LOk L) {l : Li} (hl : l ∈ L) : l.hs ≠ [] := holder_of_may (h.ok l hl).may (by have := (h.ok l hl).ne; unfold emptyLi at this; rw [this]; decide)
/-- each has the mode in which it is told to hold. -/
theorem LiW.hof {hs qs : List Hd} (h : LiW hs qs) {x : Hd} (hx : x ∈ hs) : ofH hs x.owner = x.mode := ofH_eq h.sh.ne hx
/-- the sizes. -/
theorem askLi_sum (l : Li) (w : Hd) : (askLi l w).2.hs.length + (askLi l w).2.qs.length ≤ l.hs.length + l.qs.length + 1 := by
  unfold askLi
  split
  · simp
  · split
    · simp
    · simp only
      refine Nat.le_trans (letH_sum _ _) ?_
      split
      · rw [List.length_append, List.length_cons, List.length_take, List.length_drop]; omega
      · rw [List.length_append, List.length_singleton]; omega
theorem Sm.ask {N : Nat} {L : List Li} (h : Sm N L) (o : Int) (k : ByteArray) (m : Int) : Sm (N + 1) (askL L o k m).2 := by
  unfold askL
  split
  · exact ⟨by have := h.1; simp only; omega, fun l hl => by have := h.2 l hl; omega⟩
  · split
    · refine ⟨by have := h.1; simp only [List.length_set]; omega, fun l hl => ?_⟩
      rcases List.mem_or_eq_of_mem_set hl with hl | rfl
      · have := h.2 l hl; omega
      · refine Nat.le_trans (askLi_sum _ _) ?_
        cases hx : L[posL L k]? with
        | none => simp
        | some x =>
          have := h.2 x (List.mem_of_getElem? hx)
          rw [Option.getD_some]; omega
    · refine ⟨by have := h.1; simp only [List.length_append, List.length_cons, List.length_take, List.length_drop]; omega, fun l hl => ?_⟩
      rcases List.mem_append.1 hl with hl | hl
      · have := h.2 l (List.mem_of_mem_take hl); omega
      · rcases List.mem_cons.1 hl with rfl | hl
        · simp
        · have := h.2 l (List.mem_of_mem_drop hl); omega
theorem Sm.leave {N : Nat} {L : List Li} (h : Sm N L) (o : Int) : Sm N (leaveL L o).2 := by
  refine ⟨Nat.le_trans (List.length_filter_le _ _) (by rw [List.length_map]; exact h.1), fun l hl => ?_⟩
  obtain ⟨h1, -⟩ := List.mem_filter.1 hl
  obtain ⟨x, hx, rfl⟩ := List.mem_map.1 h1
  exact Nat.le_trans (leaveLi_sum x o) (h.2 x hx)
/-- who waits is blocked. -/
theorem blkH_mem {l : List Hd} {x : Hd} {o : Int} : o ∈ blkH l x ↔ ∃ h ∈ l, h.owner = o ∧ h.owner ≠ x.owner ∧ clashM h.mode x.mode = true := by
  unfold blkH
  simp only [List.mem_map, List.mem_filter, Bool.and_eq_true, Bool.not_eq_true', beq_eq_false_iff_ne]
  constructor
  · rintro ⟨h, ⟨h1, h2, h3⟩, rfl⟩; exact ⟨h, h1, rfl, h2, h3⟩
  · rintro ⟨h, h1, rfl, h2, h3⟩; exact ⟨h, ⟨h1, h2, h3⟩, rfl⟩
theorem blkQ_mem {hs qs : List Hd} {o x : Int} : ∀ {n : Nat}, x ∈ blkQ hs qs o n ↔ ∃ i, i < n ∧ ∃ h : i < qs.length, qs[i].owner = o ∧ (x ∈ blkH hs qs[i] ∨ x ∈ blkH (qs.take i) qs[i])
  | 0 => by simp [blkQ]
  | n + 1 => by
    rw [blkQ, List.mem_append, blkQ_mem (n := n)]
    constructor
    · rintro (⟨i, hi, h1, h2⟩ | h)
      · exact ⟨i, by omega, h1, h2⟩
      · split at h
        · rename_i z hz
          obtain ⟨hl, rfl⟩ := List.getElem?_eq_some_iff.1 hz
          split at h
          · exact ⟨n, by omega, hl, by assumption, List.mem_append.1 h⟩
          · cases h
        · cases h
    · rintro ⟨i, hi, h1, h2, h3⟩
      by_cases e : i = n
      · subst e
        right
        rw [List.getElem?_eq_getElem h1]
        simp only [h2, if_true]
        exact List.mem_append.2 h3
      · exact .inl ⟨i, by omega, h1, h2, h3⟩
theorem blkLi_mem {l : Li} {o x : Int} : x ∈ blkLi l o ↔ ∃ i, ∃ h : i < l.qs.length, l.qs[i].owner = o ∧ (x ∈ blkH l.hs l.qs[i] ∨ x ∈ blkH (l.qs.take i) l.qs[i]) := by
  unfold blkLi
  rw [blkQ_mem]
  constructor
  · rintro ⟨i, _, h⟩; exact ⟨i, h⟩
  · rintro ⟨i, h, h2⟩; exact ⟨i, h, h, h2⟩
theorem blkLi_not_self {l : Li} {o : Int} : o ∉ blkLi l o := by
  rw [blkLi_mem]
  rintro ⟨i, h, rfl, h2 | h2⟩
  · obtain ⟨y, -, e, hne, -⟩ := blkH_mem.1 h2; exact hne e
  · obtain ⟨y, -, e, hne, -⟩ := blkH_mem.1 h2; exact hne e
theorem LiW.first {hs r : List Hd} {w : Hd} (h : LiW hs (w :: r)) (hm : mayH hs (w :: r) = false) : ∃ z ∈ hs, z.owner ≠ w.owner ∧ clashM z.mode w.mode = true ∧ (w.mode = 2 ∨ z.mode = 2) := by
  obtain ⟨q0, q1, q2⟩ := h.qp w (List.mem_cons_self ..)
  rw [mayH_cons] at hm
  split at hm
  · rename_i hup
    have h2 : w.mode = 2 := by rcases modeM_iff.1 q1 with e | e <;> omega
    obtain ⟨y, hy, e, -⟩ := ofH_mem hup
    have hlen : hs.length ≠ 1 := by simpa using hm
    match hs, hy with
    | [a], _ => simp at hlen
    | a :: b :: t, _ =>
      have hab := (List.pairwise_cons.1 h.sh).1 b (by simp)
      by_cases ea : a.owner = w.owner
      · exact ⟨b, by simp, by omega, by simp [clashM, h2], .inl h2⟩
      · exact ⟨a, by simp, ea, by simp [clashM, h2], .inl h2⟩
  · rename_i hup
    have hex : ∃ z ∈ hs, clashM z.mode w.mode = true := by
      have hn : ¬ fitsH hs w.mode = true := by rw [hm]; decide
      rw [fitsH_iff] at hn
      refine Classical.byContradiction fun hne => hn fun z hz => ?_
      cases hc : clashM z.mode w.mode with
      | false => rfl
      | true => exact absurd ⟨z, hz, hc⟩ hne
    obtain ⟨z, hz, hc⟩ := hex
    refine ⟨z, hz, fun e => hup ?_, hc, by simp [clashM] at hc; exact hc.symm⟩
    rw [← e]; exact ofH_pos h.hpos hz
/-- one that waits is blocked by someone. -/
theorem LiW.blocked {hs qs : List Hd} (h : LiW hs qs) (hm : mayH hs qs = false) {i : Nat} (hi : i < qs.length) : ∃ x, x ∈ blkH hs qs[i] ∨ x ∈ blkH (qs.take i) qs[i] := by
  match qs, h, hm, hi with
  | w :: r, h, hm, hi =>
    obtain ⟨z, hz, hne, hc, h2⟩ := h.first hm
    cases i with
    | zero => exact ⟨z.owner, .inl (blkH_mem.2 ⟨z, hz, rfl, hne, hc⟩)⟩
    | succ i =>
      have hi' : i < r.length := by simpa using hi
      have hd : w.owner ≠ r[i].owner := (List.pairwise_cons.1 h.qd).1 _ (List.getElem_mem hi')
      rcases h2 with h2 | h2
      · refine ⟨w.owner, .inr (blkH_mem.2 ⟨w, by simp, rfl, hd, by simp [clashM, h2]⟩)⟩
      · refine ⟨z.owner, .inl (blkH_mem.2 ⟨z, hz, rfl, fun e => ?_, by simp [clashM, h2]⟩)⟩
        obtain ⟨-, q1, q2⟩ := h.qp r[i] (List.mem_cons_of_mem _ (List.getElem_mem hi'))
        have e' : z.owner = r[i].owner := e
        rw [← e', h.hof hz] at q2
        rcases modeM_iff.1 q1 with e | e <;> omega
/-- who waits somewhere is blocked; who is blocked waits somewhere. -/
theorem blkL_iff {L : List Li} (h : LOk L) (o : Int) : blkL L o ≠ [] ↔ ∃ l ∈ L, 0 < ofH l.qs o := by
  constructor
  · intro hne
    obtain ⟨x, hx⟩ := List.exists_mem_of_ne_nil _ hne
    obtain ⟨l, hl, hx⟩ := List.mem_flatMap.1 hx
    obtain ⟨i, hi, rfl, -⟩ := blkLi_mem.1 hx
    exact ⟨l, hl, ofH_pos (h.ok l hl).w.qpos (List.getElem_mem hi)⟩
  · rintro ⟨l, hl, hq⟩
    obtain ⟨y, hy, rfl, -⟩ := ofH_mem hq
    obtain ⟨i, hi, rfl⟩ := List.getElem_of_mem hy
    obtain ⟨x, hx⟩ := (h.ok l hl).w.blocked (h.ok l hl).may hi
    exact List.ne_nil_of_mem (List.mem_flatMap.2 ⟨l, hl, blkLi_mem.2 ⟨i, hi, rfl, hx⟩⟩)
theorem blkL_not_self {L : List Li} {o : Int} : o ∉ blkL L o := by
  intro h
  obtain ⟨l, -, hx⟩ := List.mem_flatMap.1 h
  exact blkLi_not_self hx
end Go.Proofs.Ytnemgmlhcjhdhaa
