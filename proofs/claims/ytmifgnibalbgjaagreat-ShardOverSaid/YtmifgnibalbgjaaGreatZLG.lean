/- The lock table as plain lists: a line stays right. -/
import Derived.Test.YtmifgnibalbgjaaGreatZLA
import Derived.Test.YtmifgnibalbgjaaGreatZLI
import Derived.Test.YtmifgnibalbgjaaGreatZLB
namespace Go.Proofs.YtmifgnibalbgjaaGreat
open Go.RowKit set_option linter.unusedVariables false set_option linter.unusedSimpArgs false
theorem modeM_iff {m : Int} : modeM m = true ↔ m = 1 ∨ m = 2 := by simp [modeM]
theorem ofH_none {l : List Hd} {o : Int} (h : ∀ x ∈ l, x.owner ≠ o) : ofH l o = 0 := by
  induction l with
  | nil => rfl
  | cons x r ih =>
    unfold ofH
    rw [if_neg (h x (List.mem_cons_self ..))]
    exact ih fun y hy => h y (List.mem_cons_of_mem _ hy)
theorem ofH_mem {l : List Hd} {o : Int} (h : 0 < ofH l o) : ∃ x ∈ l, x.owner = o ∧ x.mode = ofH l o := by
  induction l with
  | nil => simp [ofH] at h
  | cons x r ih =>
    unfold ofH at h ⊢
    split at h <;> rename_i e
    · rw [if_pos e]; exact ⟨x, List.mem_cons_self .., e, rfl⟩
    · rw [if_neg e]
      obtain ⟨y, hy, h1, h2⟩ := ih h
      exact ⟨y, List.mem_cons_of_mem _ hy, h1, h2⟩
theorem ofH_pos {l : List Hd} {x : Hd} (hp : ∀ h ∈ l, 0 < h.mode) (h : x ∈ l) : 0 < ofH l x.owner := by
  induction l with
  | nil => cases h
  | cons y r ih =>
    unfold ofH
    split
    · exact hp y (List.mem_cons_self ..)
    · rename_i e
      rcases List.mem_cons.1 h with rfl | h
      · exact absurd rfl e
      · exact ih (fun z hz => hp z (List.mem_cons_of_mem _ hz)) h
/-- among owners all unlike: a member's mode. -/
theorem ofH_eq {l : List Hd} {x : Hd} (hd : l.Pairwise fun a b => a.owner ≠ b.owner) (h : x ∈ l) : ofH l x.owner = x.mode := by
  induction l with
  | nil => cases h
  | cons y r ih =>
    obtain ⟨h1, h2⟩ := List.pairwise_cons.1 hd
    unfold ofH
    rcases List.mem_cons.1 h with rfl | h
    · rw [if_pos rfl]
    · rw [if_neg (h1 x h)]; exact ih h2 h
theorem SortH.ne {l : List Hd} (h : SortH l) : l.Pairwise fun a b => a.owner ≠ b.owner := h.imp fun hab e => by omega
theorem ofH_app (l r : List Hd) (o : Int) (hp : ∀ h ∈ l, 0 < h.mode) : ofH (l ++ r) o = if 0 < ofH l o then ofH l o else ofH r o := by
  induction l with
  | nil => simp [ofH]
  | cons x l ih =>
    have hx := hp x (List.mem_cons_self ..)
    simp only [List.cons_append, ofH]
    by_cases e : x.owner = o
    · simp only [e, if_true, hx]
    · simp only [e, if_false]; exact ih fun y hy => hp y (List.mem_cons_of_mem _ hy)
theorem ofH_out (l : List Hd) (o z : Int) : ofH (outH l o) z = if z = o then 0 else ofH l z := by
  induction l with
  | nil => simp [outH, ofH]
  | cons x r ih =>
    unfold outH at ih ⊢
    rw [List.filter_cons]
    by_cases e : x.owner = o
    · rw [if_neg (by simp [e]), ih]
      split
      · rfl
      · rename_i hz
        show _ = if x.owner = z then x.mode else ofH r z
        rw [if_neg (fun e2 => hz (by rw [← e2, e]))]
    · rw [if_pos (by simp [e])]
      unfold ofH
      by_cases hz : x.owner = z
      · rw [if_pos hz, if_pos hz, if_neg (fun e2 => e (by rw [hz, e2]))]
      · rw [if_neg hz, if_neg hz, ih]
theorem mem_outH {l : List Hd} {o : Int} {x : Hd} : x ∈ outH l o ↔ x ∈ l ∧ x.owner ≠ o := by simp [outH]
theorem putH_mem {l : List Hd} (hs : SortH l) {w x : Hd} : x ∈ putH l w ↔ x = w ∨ (x ∈ l ∧ x.owner ≠ w.owner) := by
  unfold putH
  split
  · rename_i h
    obtain ⟨hl, e⟩ := (hasH_iff hs w.owner).1 h
    constructor
    · intro hx
      obtain ⟨j, hj, rfl⟩ := List.getElem_of_mem hx
      rw [List.getElem_set]
      split
      · exact .inl rfl
      · rename_i hne
        refine .inr ⟨List.getElem_mem _, fun e2 => hne ?_⟩
        have e2 := e2.trans e.symm
        rcases Nat.lt_trichotomy j (posH l w.owner) with h1 | h1 | h1
        · have := List.pairwise_iff_getElem.1 hs j _ (by simpa using hj) hl h1; omega
        · exact h1.symm
        · have := List.pairwise_iff_getElem.1 hs _ j hl (by simpa using hj) h1; omega
    · rintro (rfl | ⟨hx, hne⟩)
      · exact List.mem_iff_getElem.2 ⟨posH l x.owner, by simpa using hl, by simp⟩
      · obtain ⟨j, hj, rfl⟩ := List.getElem_of_mem hx
        refine List.mem_iff_getElem.2 ⟨j, by simpa using hj, ?_⟩
        rw [List.getElem_set, if_neg]
        rintro rfl
        exact hne e
  · rename_i h
    have hno : ∀ y ∈ l, y.owner ≠ w.owner := fun y hy e => h (List.any_eq_true.2 ⟨y, hy, by simpa using e⟩)
    have hsp : ∀ y, y ∈ l ↔ y ∈ l.take (posH l w.owner) ∨ y ∈ l.drop (posH l w.owner) := fun y => by
      rw [← List.mem_append, List.take_append_drop]
    rw [List.mem_append, List.mem_cons]
    constructor
    · rintro (h1 | rfl | h1)
      · have := (hsp x).2 (.inl h1); exact .inr ⟨this, hno x this⟩
      · exact .inl rfl
      · have := (hsp x).2 (.inr h1); exact .inr ⟨this, hno x this⟩
    · rintro (rfl | ⟨h1, -⟩)
      · exact .inr (.inl rfl)
      · rcases (hsp x).1 h1 with h2 | h2
        · exact .inl h2
        · exact .inr (.inr h2)
theorem posH_split {l : List Hd} (hs : SortH l) (o : Int) : (∀ x ∈ l.take (posH l o), x.owner < o) ∧ ∀ x ∈ l.drop (posH l o), o ≤ x.owner := by
  constructor
  · intro x hx
    obtain ⟨j, hj, rfl⟩ := List.getElem_of_mem hx
    rw [List.length_take] at hj
    rw [List.getElem_take]
    exact posH_lt o j (by omega) (by omega)
  · intro x hx
    obtain ⟨j, hj, rfl⟩ := List.getElem_of_mem hx
    rw [List.length_drop] at hj
    rw [List.getElem_drop]
    exact posH_ge hs o _ (by omega) (by omega)
theorem putH_sort {l : List Hd} (hs : SortH l) (w : Hd) : SortH (putH l w) := by
  unfold putH
  split
  · rename_i h
    obtain ⟨hl, e⟩ := (hasH_iff hs w.owner).1 h
    refine List.pairwise_iff_getElem.2 fun i j hi hj hij => ?_
    have hi' : i < l.length := by simpa using hi
    have hj' : j < l.length := by simpa using hj
    have hp := List.pairwise_iff_getElem.1 hs i j hi' hj' hij
    rw [List.getElem_set, List.getElem_set]
    split <;> split
    · omega
    · rename_i h1 h2; subst h1; omega
    · rename_i h1 h2; subst h2; omega
    · exact hp
  · rename_i h
    have hno : ∀ y ∈ l, y.owner ≠ w.owner := fun y hy e => h (List.any_eq_true.2 ⟨y, hy, by simpa using e⟩)
    obtain ⟨h1, h2⟩ := posH_split hs w.owner
    refine List.pairwise_append.2 ⟨hs.sublist (List.take_sublist _ _), List.pairwise_cons.2 ⟨fun y hy => ?_, hs.sublist (List.drop_sublist _ _)⟩, fun x hx y hy => ?_⟩
    · have := h2 y hy
      have := hno y (List.mem_of_mem_drop hy)
      omega
    · have h3 := h1 x hx
      rcases List.mem_cons.1 hy with rfl | hy
      · exact h3
      · have := h2 y hy; omega
theorem ofH_put {l : List Hd} (hs : SortH l) (hp : ∀ h ∈ l, 0 < h.mode) (w : Hd) (hw : 0 < w.mode) (o : Int) : ofH (putH l w) o = if o = w.owner then w.mode else ofH l o := by
  have hs' := putH_sort hs w
  have hp' : ∀ h ∈ putH l w, 0 < h.mode := fun h hh => by
    rcases (putH_mem hs).1 hh with rfl | ⟨h1, -⟩
    · exact hw
    · exact hp h h1
  split
  · rename_i e
    subst e
    exact ofH_eq hs'.ne ((putH_mem hs).2 (.inl rfl))
  · rename_i hne
    by_cases h0 : 0 < ofH l o
    · obtain ⟨x, hx, rfl, e⟩ := ofH_mem h0
      rw [← e]
      exact ofH_eq hs'.ne ((putH_mem hs).2 (.inr ⟨hx, hne⟩))
    · have hno : ∀ x ∈ l, x.owner ≠ o := fun x hx e => h0 (by rw [← e]; exact ofH_pos hp hx)
      rw [ofH_none hno]
      refine ofH_none fun x hx e => ?_
      rcases (putH_mem hs).1 hx with rfl | ⟨h1, -⟩
      · exact hne e.symm
      · exact hno x h1 e
/-- what holds of a line, ahead of letting in. -/
structure LiW (hs qs : List Hd) : Prop where
  sh : SortH hs
  hp : ∀ h ∈ hs, 0 ≤ h.owner ∧ modeM h.mode = true
  sole : ∀ h ∈ hs, h.mode = 2 → hs.length = 1
  qp : ∀ w ∈ qs, 0 ≤ w.owner ∧ modeM w.mode = true ∧ ofH hs w.owner < w.mode
  qd : qs.Pairwise fun a b => a.owner ≠ b.owner
  up : qs.Pairwise fun a b => 0 < ofH hs b.owner → 0 < ofH hs a.owner
theorem mode_pos {m : Int} (h : modeM m = true) : 0 < m := by rcases modeM_iff.1 h with rfl | rfl <;> decide
theorem LiW.hpos {hs qs : List Hd} (h : LiW hs qs) : ∀ x ∈ hs, 0 < x.mode := fun x hx => mode_pos (h.hp x hx).2
theorem LiW.qpos {hs qs : List Hd} (h : LiW hs qs) : ∀ x ∈ qs, 0 < x.mode := fun x hx => mode_pos (h.qp x hx).2.1
theorem fitsH_iff {l : List Hd} {m : Int} : fitsH l m = true ↔ ∀ h ∈ l, clashM h.mode m = false := by
  induction l with
  | nil => simp [fitsH]
  | cons x r ih => simp only [fitsH, Bool.and_eq_true, Bool.not_eq_true', ih, List.forall_mem_cons]
theorem clashM_false {a b : Int} : clashM a b = false ↔ a ≠ 2 ∧ b ≠ 2 := by simp [clashM]
theorem one_of_length {α : Type} {l : List α} (h : l.length = 1) {a b : α} (ha : a ∈ l) (hb : b ∈ l) : a = b := by
  match l, h with
  | [x], _ => simp at ha hb; rw [ha, hb]
theorem mayH_cons (hs r : List Hd) (w : Hd) : mayH hs (w :: r) = if 0 < ofH hs w.owner then hs.length == 1 else fitsH hs w.mode := rfl
theorem LiW.put {hs r : List Hd} {w : Hd} (h : LiW hs (w :: r)) (hm : mayH hs (w :: r) = true) : LiW (putH hs w) r := by
  obtain ⟨q0, q1, q2⟩ := h.qp w (List.mem_cons_self ..)
  have hw := mode_pos q1
  obtain ⟨d1, d2⟩ := List.pairwise_cons.1 h.qd
  obtain ⟨u1, u2⟩ := List.pairwise_cons.1 h.up
  have hof : ∀ x ∈ r, ofH (putH hs w) x.owner = ofH hs x.owner := fun x hx => by
    rw [ofH_put h.sh h.hpos w hw, if_neg (fun e => d1 x hx e.symm)]
  refine ⟨putH_sort h.sh w, fun x hx => ?_, fun x hx hx2 => ?_, fun x hx => ?_, d2, ?_⟩
  · rcases (putH_mem h.sh).1 hx with rfl | ⟨h1, -⟩
    · exact ⟨q0, q1⟩
    · exact h.hp x h1
  · have hone : ∀ {l : List Hd}, SortH l → (∀ a ∈ l, a.owner = w.owner) → l ≠ [] → l.length = 1 := fun {l} hs' ha hne => by
      match l, hs', ha, hne with
      | [a], _, _, _ => rfl
      | a :: b :: t, hs', ha, _ =>
        have h1 := (List.pairwise_cons.1 hs').1 b (by simp)
        have h2 := ha a (by simp)
        have h3 := ha b (by simp)
        omega
    refine hone (putH_sort h.sh w) (fun a ha => ?_) (List.ne_nil_of_mem hx)
    rcases (putH_mem h.sh).1 ha with rfl | ⟨ha1, hne⟩
    · rfl
    · exfalso
      rw [mayH_cons] at hm
      split at hm
      · rename_i hof0
        obtain ⟨y, hy, e1, -⟩ := ofH_mem hof0
        have := one_of_length (by simpa using hm) hy ha1
        exact hne (by rw [← this, e1])
      · rw [fitsH_iff] at hm
        have h1 := clashM_false.1 (hm a ha1)
        rcases (putH_mem h.sh).1 hx with rfl | ⟨hx1, -⟩
        · exact h1.2 hx2
        · exact (clashM_false.1 (hm x hx1)).1 hx2
  · rw [hof x hx]; exact h.qp x (List.mem_cons_of_mem _ hx)
  · refine List.pairwise_iff_getElem.2 fun i j hi hj hij => ?_
    rw [hof _ (List.getElem_mem hj), hof _ (List.getElem_mem hi)]
    exact List.pairwise_iff_getElem.1 u2 i j hi hj hij
theorem letH_ok : ∀ (qs hs : List Hd), LiW hs qs → LiW (letH hs qs).2.1 (letH hs qs).2.2 ∧ mayH (letH hs qs).2.1 (letH hs qs).2.2 = false
  | [], hs, h => ⟨h, rfl⟩
  | w :: r, hs, h => by
    unfold letH
    by_cases hm : mayH hs (w :: r) = true
    · rw [if_pos hm]; exact letH_ok r (putH hs w) (h.put hm)
    · rw [if_neg hm]; exact ⟨h, by simpa using hm⟩
/-- who is let in: the queue's first ones, just as they stand. -/
theorem letH_split : ∀ (qs hs : List Hd), ∃ p, qs = p ++ (letH hs qs).2.2 ∧ (letH hs qs).1 = p.map (·.owner) ∧ (letH hs qs).2.1 = p.foldl putH hs
  | [], hs => ⟨[], rfl, rfl, rfl⟩
  | w :: r, hs => by
    unfold letH
    split
    · obtain ⟨p, h1, h2, h3⟩ := letH_split r (putH hs w)
      exact ⟨w :: p, by rw [List.cons_append, ← h1], by rw [List.map_cons, ← h2], h3⟩
    · exact ⟨[], rfl, rfl, rfl⟩
/-- a line of a table. -/
structure LiOk (l : Li) : Prop where
  ks : l.key.size ≤ 16
  w : LiW l.hs l.qs
  may : mayH l.hs l.qs = false
  ne : emptyLi l = false
structure LOk (L : List Li) : Prop where
  s : SortL L
  ok : ∀ l ∈ L, LiOk l
theorem upsH_split {hs qs : List Hd} (h : qs.Pairwise fun a b => 0 < ofH hs b.owner → 0 < ofH hs a.owner) : (∀ x ∈ qs.take (upsH hs qs), 0 < ofH hs x.owner) ∧ ∀ x ∈ qs.drop (upsH hs qs), ¬ 0 < ofH hs x.owner := by
  constructor
  · intro x hx
    obtain ⟨j, hj, rfl⟩ := List.getElem_of_mem hx
    rw [List.length_take] at hj
    rw [List.getElem_take]
    simpa using posBy_lt (fun w : Hd => decide (0 < ofH hs w.owner)) qs j (by omega) (by unfold upsH at hj; omega)
  · intro x hx
    obtain ⟨j, hj, rfl⟩ := List.getElem_of_mem hx
    rw [List.length_drop] at hj
    rw [List.getElem_drop]
    simpa using posBy_ge (fun w : Hd => decide (0 < ofH hs w.owner)) (fun a b : Hd => 0 < ofH hs b.owner → 0 < ofH hs a.owner) (fun a b hab ha => by
      simp only [decide_eq_false_iff_not] at ha ⊢; exact fun hb => ha (hab hb)) qs h _ (by omega) (by unfold upsH; omega)
theorem LiW.ask {hs qs : List Hd} (h : LiW hs qs) {w : Hd} (h0 : 0 ≤ w.owner) (hm : modeM w.mode = true) (hlt : ofH hs w.owner < w.mode) (hq : ¬ 0 < ofH qs w.owner) :
    LiW hs (if 0 < ofH hs w.owner then qs.take (upsH hs qs) ++ w :: qs.drop (upsH hs qs) else qs ++ [w]) := by
  have hno : ∀ x ∈ qs, x.owner ≠ w.owner := fun x hx e => hq (by rw [← e]; exact ofH_pos h.qpos hx)
  split
  · rename_i hup
    obtain ⟨u1, u2⟩ := upsH_split h.up
    refine ⟨h.sh, h.hp, h.sole, fun x hx => ?_, ?_, ?_⟩
    · rcases List.mem_append.1 hx with hx | hx
      · exact h.qp x (List.mem_of_mem_take hx)
      · rcases List.mem_cons.1 hx with rfl | hx
        · exact ⟨h0, hm, hlt⟩
        · exact h.qp x (List.mem_of_mem_drop hx)
    · have hd := h.qd
      rw [← List.take_append_drop (upsH hs qs) qs, List.pairwise_append] at hd
      refine List.pairwise_append.2 ⟨hd.1, List.pairwise_cons.2 ⟨fun y hy => (hno y (List.mem_of_mem_drop hy)).symm, hd.2.1⟩, fun x hx y hy => ?_⟩
      rcases List.mem_cons.1 hy with rfl | hy
      · exact hno x (List.mem_of_mem_take hx)
      · exact hd.2.2 x hx y hy
    · have hd := h.up
      rw [← List.take_append_drop (upsH hs qs) qs, List.pairwise_append] at hd
      exact List.pairwise_append.2 ⟨hd.1, List.pairwise_cons.2 ⟨fun y hy _ => hup, hd.2.1⟩, fun x hx y hy _ => u1 x hx⟩
  · rename_i hup
    refine ⟨h.sh, h.hp, h.sole, fun x hx => ?_, ?_, ?_⟩
    · rcases List.mem_append.1 hx with hx | hx
      · exact h.qp x hx
      · obtain rfl := List.mem_singleton.1 hx
        exact ⟨h0, hm, hlt⟩
    · refine List.pairwise_append.2 ⟨h.qd, List.pairwise_singleton _ _, fun x hx y hy => ?_⟩
      obtain rfl := List.mem_singleton.1 hy
      exact hno x hx
    · refine List.pairwise_append.2 ⟨h.up, List.pairwise_singleton _ _, fun x hx y hy h1 => ?_⟩
      obtain rfl := List.mem_singleton.1 hy
      exact absurd h1 hup
theorem LiW.out {hs qs : List Hd} (h : LiW hs qs) (o : Int) : LiW (outH hs o) (outH qs o) := by
  have hof : ∀ x ∈ outH qs o, ofH (outH hs o) x.owner = ofH hs x.owner := fun x hx => by
    rw [ofH_out, if_neg (mem_outH.1 hx).2]
  refine ⟨h.sh.filter _, fun x hx => h.hp x (mem_outH.1 hx).1, fun x hx h2 => ?_, fun x hx => ?_, h.qd.filter _, ?_⟩
  · have h1 := h.sole x (mem_outH.1 hx).1 h2
    have h3 : (outH hs o).length ≤ hs.length := List.length_filter_le _ _
    have h4 := List.length_pos_of_mem hx
    omega
  · rw [hof x hx]; exact h.qp x (mem_outH.1 hx).1
  · have := h.up.filter fun h => !(h.owner == o)
    refine List.pairwise_iff_getElem.2 fun i j hi hj hij => ?_
    rw [hof _ (List.getElem_mem hj), hof _ (List.getElem_mem hi)]
    exact List.pairwise_iff_getElem.1 this i j hi hj hij
/-- who comes in is there; nobody is lost. -/
theorem foldl_put_mem : ∀ (p hs : List Hd), SortH hs → ∀ x, x ∈ p.foldl putH hs → x ∈ p ∨ x ∈ hs
  | [], _, _, _, h => .inr h
  | w :: p, hs, h0, x, h => by
    rcases foldl_put_mem p (putH hs w) (putH_sort h0 w) x h with h | h
    · exact .inl (List.mem_cons_of_mem _ h)
    · rcases (putH_mem h0).1 h with rfl | ⟨h, -⟩
      · exact .inl (List.mem_cons_self ..)
      · exact .inr h
theorem letH_len (qs hs : List Hd) (h : SortH hs) (hne : 0 < hs.length + qs.length) : 0 < (letH hs qs).2.1.length + (letH hs qs).2.2.length := by
  obtain ⟨p, h1, -, h3⟩ := letH_split qs hs
  have hl : ∀ (p hs : List Hd), SortH hs → 0 < hs.length + p.length → 0 < (p.foldl putH hs).length := fun p => by
    induction p with
    | nil => intro hs _ h; simpa using h
    | cons w p ih =>
      intro hs h0 _
      refine ih (putH hs w) (putH_sort h0 w) ?_
      have := List.length_pos_of_mem ((putH_mem h0).2 (.inl rfl) : w ∈ putH hs w)
      omega
  rw [h3]
  have h4 := congrArg List.length h1
  rw [List.length_append] at h4
  by_cases hz : (letH hs qs).2.2.length = 0
  · have := hl p hs h (by omega); omega
  · omega
theorem askLi_ok {l : Li} (h : LiOk l) {w : Hd} (h0 : 0 ≤ w.owner) (hm : modeM w.mode = true) : LiOk (askLi l w).2 := by
  unfold askLi
  split
  · exact h
  · rename_i hlt
    split
    · exact h
    · rename_i hq
      have hW := h.w.ask h0 hm (by omega) hq
      simp only
      generalize hqe : (if 0 < ofH l.hs w.owner then l.qs.take (upsH l.hs l.qs) ++ w :: l.qs.drop (upsH l.hs l.qs) else l.qs ++ [w]) = q at *
      obtain ⟨h1, h2⟩ := letH_ok q l.hs hW
      refine ⟨h.ks, h1, h2, ?_⟩
      have hql : 0 < q.length := by
        rw [← hqe]; split <;> (rw [List.length_append, List.length_cons]; omega)
      have := letH_len q l.hs h.w.sh (by omega)
      simp only [emptyLi, beq_eq_false_iff_ne]; omega
theorem leaveLi_ok {l : Li} (h : LiOk l) (o : Int) (hne : emptyLi (leaveLi l o).2 = false) : LiOk (leaveLi l o).2 := by
  obtain ⟨h1, h2⟩ := letH_ok _ _ (h.w.out o)
  exact ⟨h.ks, h1, h2, hne⟩
theorem askLi_key (l : Li) (w : Hd) : (askLi l w).2.key = l.key := by
  unfold askLi; split
  · rfl
  · split <;> rfl
theorem posL_split {L : List Li} (hs : SortL L) (k : ByteArray) : (∀ x ∈ L.take (posL L k), ltS x.key k = true) ∧ ∀ x ∈ L.drop (posL L k), ltS x.key k = false := by
  constructor
  · intro x hx
    obtain ⟨j, hj, rfl⟩ := List.getElem_of_mem hx
    rw [List.length_take] at hj
    rw [List.getElem_take]
    exact posL_lt k j (by omega) (by omega)
  · intro x hx
    obtain ⟨j, hj, rfl⟩ := List.getElem_of_mem hx
    rw [List.length_drop] at hj
    rw [List.getElem_drop]
    exact posL_ge hs k _ (by omega) (by omega)
theorem set_sort {L : List Li} (hs : SortL L) {i : Nat} (hi : i < L.length) {l : Li} (hk : l.key = L[i].key) : SortL (L.set i l) := by
  refine List.pairwise_iff_getElem.2 fun a b ha hb hab => ?_
  have ha' : a < L.length := by simpa using ha
  have hb' : b < L.length := by simpa using hb
  have hp := List.pairwise_iff_getElem.1 hs a b ha' hb' hab
  rw [List.getElem_set, List.getElem_set]
  split <;> split
  · omega
  · rename_i h1 _; subst h1; rw [hk]; exact hp
  · rename_i _ h1; subst h1; rw [hk]; exact hp
  · exact hp
theorem ins_sort {L : List Li} (hs : SortL L) {l : Li} (hn : hasL L l.key = false) : SortL (L.take (posL L l.key) ++ l :: L.drop (posL L l.key)) := by
  obtain ⟨h1, h2⟩ := posL_split hs l.key
  have hno : ∀ y ∈ L, y.key ≠ l.key := fun y hy e => by
    rw [List.any_eq_true.2 ⟨y, hy, by simpa using e⟩ |> (show hasL L l.key = true from ·)] at hn; cases hn
  refine List.pairwise_append.2 ⟨hs.sublist (List.take_sublist _ _), List.pairwise_cons.2 ⟨fun y hy => ?_, hs.sublist (List.drop_sublist _ _)⟩, fun x hx y hy => ?_⟩
  · have h3 := h2 y hy
    rcases ltS_total l.key y.key with h | h | h
    · exact h
    · rw [h3] at h; cases h
    · exact absurd h.symm (hno y (List.mem_of_mem_drop hy))
  · have h3 := h1 x hx
    rcases List.mem_cons.1 hy with rfl | hy
    · exact h3
    · have hxy : ltS y.key l.key = false := h2 y hy
      rcases ltS_total l.key y.key with h | h | h
      · exact ltS_trans h3 h
      · rw [hxy] at h; cases h
      · rw [← h]; exact h3
theorem LOk.ask {L : List Li} (h : LOk L) (o : Int) (k : ByteArray) (m : Int) : LOk (askL L o k m).2 := by
  unfold askL
  split
  · exact h
  · rename_i hg
    simp only [not_or, Int.not_lt, Nat.not_lt, Bool.not_eq_false] at hg
    obtain ⟨g0, g1, g2⟩ := hg
    split
    · rename_i hh
      obtain ⟨hl, e⟩ := (hasL_iff h.s k).1 hh
      simp only [List.getElem?_eq_getElem hl, Option.getD_some]
      have hok := askLi_ok (h.ok _ (List.getElem_mem hl)) (w := ⟨o, m⟩) g0 g2
      refine ⟨set_sort h.s hl (askLi_key _ _), fun l hm => ?_⟩
      rcases List.mem_or_eq_of_mem_set hm with hm | rfl
      · exact h.ok l hm
      · exact hok
    · rename_i hh
      refine ⟨ins_sort (l := ⟨k, [⟨o, m⟩], []⟩) h.s (by simpa using hh), fun l hl => ?_⟩
      rcases List.mem_append.1 hl with hl | hl
      · exact h.ok l (List.mem_of_mem_take hl)
      · rcases List.mem_cons.1 hl with rfl | hl
        · exact ⟨g1, ⟨List.pairwise_singleton _ _, by simp [g0, g2], by simp, by simp, List.Pairwise.nil, List.Pairwise.nil⟩, rfl, rfl⟩
        · exact h.ok l (List.mem_of_mem_drop hl)
theorem LOk.leave {L : List Li} (h : LOk L) (o : Int) : LOk (leaveL L o).2 := by
  unfold leaveL
  refine ⟨List.Pairwise.filter _ (List.pairwise_map.2 (h.s.imp fun hab => hab)), fun l hl => ?_⟩
  obtain ⟨h1, h2⟩ := List.mem_filter.1 hl
  obtain ⟨l0, hl0, rfl⟩ := List.mem_map.1 h1
  exact leaveLi_ok (h.ok l0 hl0) o (by simpa using h2)
end Go.Proofs.YtmifgnibalbgjaaGreat
/- put. -/
namespace Go.Proofs.YtmifgnibalbgjaaGreat
open Go.RowKit set_option linter.unusedVariables false set_option linter.unusedSimpArgs false
theorem row_cell {w : World} {E k g n c : Nat} {xs : List Value} (h : Row w E k (some ⟨g, 0, none⟩) n c xs) {j : Nat} {v : Value} (hj : xs[j]? = some v) : w.cell? ⟨g, j, none⟩ = some v ∧ w.frozen? ⟨g, j, none⟩ = false := by
  rcases h.out with ⟨e, _⟩ | ⟨g', cur, e, hg, h1, h2, h3, h4, _⟩
  · cases e
  · obtain rfl : g = g' := by simpa using e
    have hc : cur[j]? = some v := by
      rw [← h4, List.getElem?_take] at hj
      split at hj
      · simpa using hj
      · cases hj
    exact cell_of_heap hg hc
theorem hdFlat_set : ∀ (M : List Hd) (q : Nat) (h : q < M.length) (t : Hd), ((hdFlat M).set (q * 2) (.int .i64 t.owner)).set (q * 2 + 1) (.int .i64 t.mode) = hdFlat (M.set q t)
  | [], _, h, _ => by cases h
  | x :: r, 0, _, t => by simp [hdFlat]
  | x :: r, q + 1, h, t => by
    have := hdFlat_set r q (by simpa using h) t
    rw [show (q + 1) * 2 = (q * 2) + 1 + 1 by omega, show (q * 2 + 1 + 1) + 1 = (q * 2 + 1) + 1 + 1 by omega]
    simp only [hdFlat, List.set_cons_succ]
    rw [this]
theorem hdFlat_ins (l : List Hd) (t : Hd) (k : Nat) : (hdFlat l).take (k * 2) ++ hdCells t ++ (hdFlat l).drop (k * 2) = hdFlat (l.take k ++ t :: l.drop k) := by
  rw [hdFlat_take, hdFlat_drop, hdFlat_append, hdFlat_cons, List.append_assoc]
theorem row_len {w : World} {a : Option Addr} {n c : Nat} {l : List Hd} (h : Row w 32 2 a n c (hdFlat l)) : n = l.length := by
  have := h.len; rw [hdFlat_len] at this; omega
set_option maxRecDepth 100000 in
set_option maxHeartbeats 2000000 in
theorem put_any (a : Option Addr) (n c : Nat) (l : List Hd) (h : Hd) (w : World) (hr : Row w 32 2 a n c (hdFlat l)) (hs : SortH l) (hn : n ≤ 1000000) :
    Calls Tryz.prog 155 #[.slice a n c, .agg #[.int .i64 h.owner, .int .i64 h.mode]] w fun e w' => ∃ a' n' c', e = .returned (.slice a' n' c') ∧ n' = (putH l h).length ∧ Row w' 32 2 a' n' c' (hdFlat (putH l h)) ∧ Touch (blkOf a) w w' ∧ Fresh w a a' := by
  obtain rfl := row_len hr
  have HP := Lib.hid fun W (hb : Below w.heap.size w W) => put_bsf (fun (x : Hd) (t : Int) => cmpI x.owner t) put1_any a l.length c l h.owner (posH l h.owner) W (hr.below hb) (by omega) (posBy_le _ _) (fun j hj hl => (cmpI_neg _ _).2 (posH_lt h.owner j hj hl)) (fun j hj hl => by
    have := posH_ge hs h.owner j hj hl
    rcases Int.lt_or_le (cmpI l[j].owner h.owner) 0 with h2 | h2
    · have := (cmpI_neg _ _).1 h2; omega
    · exact h2)
  rw [foundH hs] at HP
  have hp2 : putH l h = if hasH l h.owner then l.set (posH l h.owner) h else l.take (posH l h.owner) ++ h :: l.drop (posH l h.owner) := rfl
  have HK := Lib.hid (posBy_le (fun m : Hd => decide (m.owner < h.owner)) l)
  change Hid (posH l h.owner ≤ l.length) at HK
  cases hh : hasH l h.owner with
  | true =>
    rw [hh] at HP
    obtain ⟨hk, _⟩ := (hasH_iff hs h.owner).1 hh
    rw [hp2, hh]
    simp only [if_true]
    obtain ⟨g, rfl, hcs0⟩ := hdAt_row hr (posH l h.owner) hk
    have HR := Lib.hid hr
    have HFS := Lib.hid (hdFlat_set l (posH l h.owner) hk h)
    clear hr hs hh hp2
    generalize posH l h.owner = k at *
    obtain ⟨ho, hm⟩ := h
    simp only at HP HFS ⊢
    go_enter Tryz.func155, Tryz.ntmps155
    go_wp2_with fail
    refine (HP.out _ (bel_new _ _)).mono ?_
    rintro e w1 ⟨rfl, hb⟩
    obtain ⟨hx0, hx1⟩ := (hdAt_new w ⟨ho, hm⟩ 32).below hb
    simp only [Nat.zero_add] at hx0 hx1
    have HB := Lib.hid ((bel_new w _).trans (hb.mono (by simp only [World.size_alloc]; omega)))
    obtain ⟨hc0, hf0⟩ := row_cell (HR.out.below HB.out) (hdFlat_get l k hk).1
    obtain ⟨hc1, hf1⟩ := row_cell (HR.out.below HB.out) (hdFlat_get l k hk).2
    clear hb hcs0
    go_wp2_with fail
    go_ret
    refine ⟨_, _, _, rfl, (List.length_set ..).symm, ?_, ?_, Fresh.refl _ _⟩
    · rw [← HFS.out]
      exact Row.setCell (Row.setCell (HR.out.below HB.out) _ _) _ _
    · exact (Touch.of_below HB.out _).trans ((Touch.setCell _ _ _ (by simp [blkOf])).trans (Touch.setCell _ _ _ (by simp [blkOf])) fun _ h => .inl h) fun _ h => .inl h
  | false =>
    rw [hh] at HP
    rw [hp2, hh]
    simp only [Bool.false_eq_true, if_false]
    have hlen : (l.take (posH l h.owner) ++ h :: l.drop (posH l h.owner)).length = l.length + 1 := by have := HK.out; simp; omega
    rw [hlen, ← hdFlat_ins]
    have HI := Lib.hid fun W (hb : Below w.heap.size w W) vb (hv : W.heap[vb]? = some (.cells (hdCells h).toArray 32 (0, 0))) (hvb : w.heap.size ≤ vb) =>
      insH_any a l.length c (posH l h.owner) vb (hdFlat l) (hdCells h) W (hr.below hb) hv rfl (fun h => by obtain ⟨y, hy, rfl⟩ := mem_blkOf.1 h; have := hr.lt y hy; omega) (hdFlat_one l) (hdCells_one h) HK.out (by omega)
    clear hr hs hh hp2 hlen
    have hkn : (posH l h.owner : Int) ≤ 1000000 := by have := HK.out; omega
    generalize posH l h.owner = k at *
    obtain ⟨ho, hm⟩ := h
    simp only [hdCells] at HP HI ⊢
    go_enter Tryz.func155, Tryz.ntmps155
    go_wp2_with fail
    refine (HP.out _ (bel_new _ _)).mono ?_
    rintro e w1 ⟨rfl, hb⟩
    obtain ⟨hx0, hx1⟩ := (hdAt_new w ⟨ho, hm⟩ 32).below hb
    simp only [Nat.zero_add] at hx0 hx1
    have HB := Lib.hid ((bel_new w _).trans (hb.mono (by simp only [World.size_alloc]; omega)))
    clear hb
    go_wp2_with fail
    refine (HI.out (w1.alloc (.cells #[.int .i64 ho, .int .i64 hm] 32)) (HB.out.trans ((bel_new _ _).mono HB.out.size)) w1.heap.size (heap_new _ _) HB.out.size).mono ?_
    rintro e w2 ⟨a', c', rfl, hrow, ht, hf⟩
    have HF : Hid (Row w2 32 2 a' (l.length + 1) c' (List.take (k * 2) (hdFlat l) ++ [Value.int IntKind.i64 ho, Value.int IntKind.i64 hm] ++ List.drop (k * 2) (hdFlat l)) ∧ Touch (blkOf a) w w2 ∧ Fresh w a a') := Lib.hid ⟨hrow, (Touch.of_below (HB.out.trans ((bel_new _ _).mono HB.out.size)) _).trans ht fun _ h => .inl h, fun x hx => (hf x hx).imp id fun h => by
      have := HB.out.size
      simp only [World.size_alloc] at h
      omega⟩
    clear hrow ht hf HI
    go_wp2_with fail
    go_ret
    exact ⟨_, _, _, rfl, rfl, HF.out.1, HF.out.2.1, HF.out.2.2⟩
end Go.Proofs.YtmifgnibalbgjaaGreat
