import Derived.Test.YtnemgmlhcjhdhaaAM
/- The document's row of wants as a plain list: what it does, and that it tells what the table tells. -/
namespace Go.Proofs.Ytnemgmlhcjhdhaa
open Go.RowKit
/-- one's want. -/
structure Wn where
  key : ByteArray
  owner : Int
  mode : Int
  isin : Bool
  up : Bool
def hd (w : Wn) : Hd := ⟨w.owner, w.mode⟩
def isW (k : ByteArray) (w : Wn) : Bool := decide (w.key = k) && !w.isin
def isH (k : ByteArray) (w : Wn) : Bool := decide (w.key = k) && w.isin
def waitW (k : ByteArray) (l : List Wn) : List Wn := l.filter (isW k)
def inW (k : ByteArray) (l : List Wn) : List Wn := l.filter (isH k)
theorem waitW_app (k : ByteArray) (a b : List Wn) : waitW k (a ++ b) = waitW k a ++ waitW k b := List.filter_append ..
theorem inW_app (k : ByteArray) (a b : List Wn) : inW k (a ++ b) = inW k a ++ inW k b := List.filter_append ..
theorem waitW_cons (k : ByteArray) (w : Wn) (b : List Wn) : waitW k (w :: b) = if isW k w = true then w :: waitW k b else waitW k b := List.filter_cons ..
theorem inW_cons (k : ByteArray) (w : Wn) (b : List Wn) : inW k (w :: b) = if isH k w = true then w :: inW k b else inW k b := List.filter_cons ..
theorem isW_iff {k : ByteArray} {w : Wn} : isW k w = true ↔ w.key = k ∧ w.isin = false := by simp [isW]
theorem isH_iff {k : ByteArray} {w : Wn} : isH k w = true ↔ w.key = k ∧ w.isin = true := by simp [isH]
/-- the mode in which one holds a key, or waits for it. -/
def hasR : List Wn → Int → ByteArray → Bool → Int
  | [], _, _, _ => 0
  | w :: r, o, k, b => if (w.owner == o && decide (w.key = k) && w.isin == b) = true then w.mode else hasR r o k b
theorem hasR_in (l : List Wn) (o : Int) (k : ByteArray) : hasR l o k true = ofH ((inW k l).map hd) o := by
  induction l with
  | nil => rfl
  | cons w r ih =>
    rw [inW_cons]
    unfold hasR
    by_cases h : isH k w = true
    · obtain ⟨h1, h2⟩ := isH_iff.1 h
      rw [if_pos h, List.map_cons]
      show _ = if w.owner = o then w.mode else _
      by_cases ho : w.owner = o
      · rw [if_pos ho, if_pos (by simp [ho, h1, h2])]
      · rw [if_neg ho, if_neg (by simp [ho]), ih]
    · rw [if_neg h, if_neg (fun h' => h (by simp at h'; exact isH_iff.2 ⟨h'.1.2, h'.2⟩)), ih]
theorem hasR_wait (l : List Wn) (o : Int) (k : ByteArray) : hasR l o k false = ofH ((waitW k l).map hd) o := by
  induction l with
  | nil => rfl
  | cons w r ih =>
    rw [waitW_cons]
    unfold hasR
    by_cases h : isW k w = true
    · obtain ⟨h1, h2⟩ := isW_iff.1 h
      rw [if_pos h, List.map_cons]
      show _ = if w.owner = o then w.mode else _
      by_cases ho : w.owner = o
      · rw [if_pos ho, if_pos (by simp [ho, h1, h2])]
      · rw [if_neg ho, if_neg (by simp [ho]), ih]
    · rw [if_neg h, if_neg (fun h' => h (by simp at h'; exact isW_iff.2 ⟨h'.1.2, h'.2⟩)), ih]
/-- how many hold a key; does one alone? -/
def hcR (l : List Wn) (k : ByteArray) : Nat := (inW k l).length
def soleR (l : List Wn) (k : ByteArray) : Bool := (inW k l).any fun w => w.mode == 2
/-- where the first one that waits is; as many as there are: nowhere. -/
def firstR (l : List Wn) (k : ByteArray) : Nat := posBy (fun w => !isW k w) l
def soleAll (k : ByteArray) (w : Wn) : Wn := if isH k w = true then { w with mode := 2 } else w
/-- one comes in. -/
def stepR (l : List Wn) (k : ByteArray) : Option (Int × List Wn) :=
  match l[firstR l k]? with
  | none => none
  | some w =>
    if (w.up && hcR l k == 1) = true then some (w.owner, ((l.map (soleAll k)).take (firstR l k)) ++ (l.map (soleAll k)).drop (firstR l k + 1))
    else if (!w.up && (hcR l k == 0 || w.mode == 1 && !soleR l k)) = true then some (w.owner, l.set (firstR l k) { w with isin := true })
    else none
def letR (k : ByteArray) : Nat → List Wn → List Int × List Wn
  | 0, l => ([], l)
  | n + 1, l => match stepR l k with
    | none => ([], l)
    | some (o, l') => (o :: (letR k n l').1, (letR k n l').2)
/-- a list, parted at the first one that waits. -/
theorem first_split {l : List Wn} {k : ByteArray} : (firstR l k = l.length ∧ waitW k l = []) ∨ ∃ A w B, l = A ++ w :: B ∧ A.length = firstR l k ∧ waitW k A = [] ∧ isW k w = true := by
  induction l with
  | nil => exact .inl ⟨rfl, rfl⟩
  | cons x r ih =>
    cases hx : isW k x with
    | true => exact .inr ⟨[], x, r, rfl, by unfold firstR posBy; rw [hx]; rfl, rfl, hx⟩
    | false =>
      have e : firstR (x :: r) k = firstR r k + 1 := by
        show posBy _ (x :: r) = _
        conv => lhs; unfold posBy
        rw [hx]; rfl
      rcases ih with ⟨h1, h2⟩ | ⟨A, w, B, h1, h2, h3, h4⟩
      · exact .inl ⟨by rw [e, h1]; rfl, by rw [waitW_cons, hx, h2]; rfl⟩
      · exact .inr ⟨x :: A, w, B, by rw [h1]; rfl, by rw [e, ← h2]; rfl, by rw [waitW_cons, hx, h3]; rfl, h4⟩
/-- one key's line, and the wants of the key. -/
structure RLine (hs qs : List Hd) (l : List Wn) (k : ByteArray) : Prop where
  q : (waitW k l).map hd = qs
  h : ((inW k l).map hd).Perm hs
  u : ∀ w ∈ waitW k l, w.up = decide (0 < ofH hs w.owner)
/-- the other keys' wants stay. -/
def Others (k : ByteArray) (l l' : List Wn) : Prop := ∀ k', k' ≠ k → waitW k' l' = waitW k' l ∧ inW k' l' = inW k' l
theorem Others.refl (k : ByteArray) (l : List Wn) : Others k l l := fun _ _ => ⟨rfl, rfl⟩
theorem Others.trans {k : ByteArray} {a b c : List Wn} (h : Others k a b) (h' : Others k b c) : Others k a c := fun k' hk => ⟨(h' k' hk).1.trans (h k' hk).1, (h' k' hk).2.trans (h k' hk).2⟩
theorem RLine.others {hs qs : List Hd} {l l' : List Wn} {k k' : ByteArray} (h : RLine hs qs l k') (ho : Others k l l') (hk : k' ≠ k) : RLine hs qs l' k' := by
  obtain ⟨h1, h2⟩ := ho k' hk
  exact ⟨by rw [h1]; exact h.q, by rw [h2]; exact h.h, by rw [h1]; exact h.u⟩
theorem ofH_perm {a b : List Hd} (p : a.Perm b) (hd : b.Pairwise fun x y => x.owner ≠ y.owner) (o : Int) : ofH a o = ofH b o := by
  have hda : a.Pairwise fun x y => x.owner ≠ y.owner := p.symm.pairwise hd fun h => fun e => h e.symm
  by_cases h : ∃ x ∈ b, x.owner = o
  · obtain ⟨x, hx, rfl⟩ := h
    rw [ofH_eq hd hx, ofH_eq hda (p.mem_iff.2 hx)]
  · rw [ofH_none fun x hx e => h ⟨x, hx, e⟩, ofH_none fun x hx e => h ⟨x, p.mem_iff.1 hx, e⟩]
theorem putH_perm {l : List Hd} {w : Hd} (hn : hasH l w.owner = false) : (putH l w).Perm (w :: l) := by
  unfold putH
  rw [hn]
  simp only [Bool.false_eq_true, if_false]
  refine List.perm_middle.trans ?_
  rw [List.take_append_drop]
theorem soleAll_key (k : ByteArray) (w : Wn) : (soleAll k w).key = w.key ∧ (soleAll k w).isin = w.isin ∧ (soleAll k w).owner = w.owner := by
  unfold soleAll; split <;> exact ⟨rfl, rfl, rfl⟩
theorem soleAll_wait (k k' : ByteArray) (l : List Wn) : waitW k' (l.map (soleAll k)) = waitW k' l := by
  induction l with
  | nil => rfl
  | cons w r ih =>
    obtain ⟨h1, h2, -⟩ := soleAll_key k w
    rw [List.map_cons, waitW_cons, waitW_cons, ih]
    have e : isW k' (soleAll k w) = isW k' w := by unfold isW; rw [h1, h2]
    rw [e]
    split
    · rename_i hw
      have : soleAll k w = w := by
        unfold soleAll
        rw [if_neg]
        intro hh
        have := (isH_iff.1 hh).2
        rw [(isW_iff.1 hw).2] at this
        cases this
      rw [this]
    · rfl
theorem soleAll_in (k : ByteArray) (l : List Wn) : inW k (l.map (soleAll k)) = (inW k l).map fun w => { w with mode := 2 } := by
  induction l with
  | nil => rfl
  | cons w r ih =>
    obtain ⟨h1, h2, -⟩ := soleAll_key k w
    rw [List.map_cons, inW_cons, inW_cons, ih]
    have e : isH k (soleAll k w) = isH k w := by unfold isH; rw [h1, h2]
    rw [e]
    split
    · rename_i hw
      rw [List.map_cons]
      congr 1
      unfold soleAll
      rw [if_pos hw]
    · rfl
theorem soleAll_other (k k' : ByteArray) (hk : k' ≠ k) (l : List Wn) : inW k' (l.map (soleAll k)) = inW k' l := by
  induction l with
  | nil => rfl
  | cons w r ih =>
    obtain ⟨h1, h2, -⟩ := soleAll_key k w
    rw [List.map_cons, inW_cons, inW_cons, ih]
    have e : isH k' (soleAll k w) = isH k' w := by unfold isH; rw [h1, h2]
    rw [e]
    split
    · rename_i hw
      have : soleAll k w = w := by
        unfold soleAll
        rw [if_neg]
        intro hh
        exact hk ((isH_iff.1 hw).1.symm.trans (isH_iff.1 hh).1)
      rw [this]
    · rfl
theorem cons_wait {k : ByteArray} {w : Wn} (h : isW k w = true) : isH k w = false := by
  obtain ⟨h1, h2⟩ := isW_iff.1 h
  unfold isH; rw [h2]; simp
theorem cut_mid {α : Type} (A : List α) (x : α) (B : List α) : (A ++ x :: B).take A.length ++ (A ++ x :: B).drop (A.length + 1) = A ++ B := by
  rw [List.take_left, show A ++ x :: B = (A ++ [x]) ++ B by simp, show A.length + 1 = (A ++ [x]).length by simp, List.drop_left]
/-- ONE COMES IN in the row as in the line. -/
theorem step_line {hs qs : List Hd} {l : List Wn} {k : ByteArray} (h : RLine hs qs l k) (hW : LiW hs qs) :
    (mayH hs qs = false ∧ stepR l k = none) ∨ ∃ z r l', qs = z :: r ∧ mayH hs qs = true ∧ stepR l k = some (z.owner, l') ∧ RLine (putH hs z) r l' k ∧ Others k l l' := by
  have hlen : hcR l k = hs.length := by
    have := h.h.length_eq
    rw [List.length_map] at this
    exact this
  rcases first_split (l := l) (k := k) with ⟨h1, h2⟩ | ⟨A, w, B, h1, h2, h3, h4⟩
  · left
    have hq : qs = [] := by rw [← h.q, h2]; rfl
    refine ⟨by rw [hq]; rfl, ?_⟩
    unfold stepR
    rw [h1, List.getElem?_eq_none (Nat.le_refl _)]
  · have hwl : waitW k l = w :: waitW k B := by rw [h1, waitW_app, h3, List.nil_append, waitW_cons, if_pos h4]
    have hil : inW k l = inW k A ++ inW k B := by rw [h1, inW_app, inW_cons, cons_wait h4]; rfl
    have hq : qs = hd w :: (waitW k B).map hd := by rw [← h.q, hwl]; rfl
    have hat : l[firstR l k]? = some w := by
      rw [← h2]
      conv => lhs; rw [h1]
      rw [List.getElem?_append_right (Nat.le_refl _), Nat.sub_self]; rfl
    have hup : w.up = decide (0 < ofH hs w.owner) := h.u w (by rw [hwl]; exact List.mem_cons_self ..)
    rw [hq] at hW ⊢
    obtain ⟨q0, q1, q2⟩ := hW.qp (hd w) (List.mem_cons_self ..)
    have q1 : modeM w.mode = true := q1
    have q2 : ofH hs w.owner < w.mode := q2
    have hmo := mode_pos q1
    have hmay : mayH hs (hd w :: (waitW k B).map hd) = if 0 < ofH hs w.owner then hs.length == 1 else fitsH hs w.mode := rfl
    have hnext : ∀ o' m', ∀ x ∈ waitW k B, (∀ y ∈ (waitW k B), y.owner ≠ w.owner) → o' = w.owner → m' = w.mode → ofH (putH hs ⟨o', m'⟩) x.owner = ofH hs x.owner := fun o' m' x hx hno e1 e2 => by
      subst e1; subst e2
      rw [ofH_put hW.sh hW.hpos _ hmo, if_neg (hno x hx)]
    have hno : ∀ y ∈ waitW k B, y.owner ≠ w.owner := fun y hy => by
      have := (List.pairwise_cons.1 hW.qd).1 (hd y) (List.mem_map.2 ⟨y, hy, rfl⟩)
      exact fun e => this e.symm
    have huB : ∀ x ∈ waitW k B, x.up = decide (0 < ofH (putH hs (hd w)) x.owner) := fun x hx => by
      rw [hnext w.owner w.mode x hx hno rfl rfl |> (show ofH (putH hs (hd w)) x.owner = _ from ·)]
      exact h.u x (by rw [hwl]; exact List.mem_cons_of_mem _ hx)
    by_cases hu : 0 < ofH hs w.owner
    · rw [hmay, if_pos hu]
      have hwu : w.up = true := by rw [hup]; exact decide_eq_true hu
      by_cases hone : hs.length = 1
      · right
        refine ⟨hd w, (waitW k B).map hd, (A.map (soleAll k)) ++ B.map (soleAll k), rfl, by simp [hone], ?_, ⟨?_, ?_, ?_⟩, ?_⟩
        · unfold stepR
          rw [hat]
          simp only [hwu, hlen, hone, Bool.true_and, beq_self_eq_true, if_true]
          have e : l.map (soleAll k) = A.map (soleAll k) ++ soleAll k w :: B.map (soleAll k) := by rw [h1, List.map_append, List.map_cons]
          have el : (A.map (soleAll k)).length = firstR l k := by rw [List.length_map, h2]
          rw [e, ← el, cut_mid]
          rfl
        · rw [waitW_app, soleAll_wait, soleAll_wait, h3, List.nil_append]
        · rw [inW_app, soleAll_in, soleAll_in, ← List.map_append, ← hil]
          have h5 : (inW k l).length = 1 := by rw [← hone]; exact hlen
          obtain ⟨x, hx⟩ : ∃ x, inW k l = [x] := by
            match hi : inW k l, h5 with
            | [x], _ => exact ⟨x, rfl⟩
          have hp := h.h
          rw [hx] at hp ⊢
          have hhs : hs = [hd x] := List.perm_singleton.1 hp.symm
          obtain ⟨y, hy, ey, -⟩ := ofH_mem hu
          rw [hhs] at hy
          have hy := List.mem_singleton.1 hy
          have hxo : x.owner = w.owner := by rw [← ey, hy]; rfl
          have hw2 : w.mode = 2 := by rcases modeM_iff.1 q1 with e | e <;> omega
          have hput : putH hs (hd w) = [hd w] := by
            rw [hhs]
            unfold putH
            have : hasH [hd x] (hd w).owner = true := by unfold hasH; simp [hd, hxo]
            rw [this]
            have hp0 : posH [hd x] (hd w).owner = 0 := by unfold posH posBy; simp [hd, hxo]
            rw [hp0]; rfl
          rw [hput]
          simp only [List.map_cons, List.map_nil, hd]
          rw [hxo, hw2]
        · intro x hx
          rw [waitW_app, soleAll_wait, soleAll_wait, h3, List.nil_append] at hx
          exact huB x hx
        · intro k' hk'
          have hw' : isW k' w = false := by
            cases hx : isW k' w with
            | false => rfl
            | true => exact absurd ((isW_iff.1 hx).1.symm.trans (isW_iff.1 h4).1) hk'
          have hh' : isH k' w = false := by
            cases hx : isH k' w with
            | false => rfl
            | true => exact absurd ((isH_iff.1 hx).1.symm.trans (isW_iff.1 h4).1) hk'
          rw [waitW_app, soleAll_wait, soleAll_wait, inW_app, soleAll_other _ _ hk', soleAll_other _ _ hk', h1, waitW_app, inW_app, waitW_cons, inW_cons, hw', hh']
          exact ⟨rfl, rfl⟩
      · left
        refine ⟨by simpa using hone, ?_⟩
        unfold stepR
        rw [hat]
        simp [hwu, hlen, hone]
    · rw [hmay, if_neg hu]
      have hwu : w.up = false := by rw [hup]; exact decide_eq_false hu
      have hnoh : hasH hs (hd w).owner = false := by
        cases hh : hasH hs (hd w).owner with
        | false => rfl
        | true =>
          obtain ⟨x, hx, e⟩ := List.any_eq_true.1 hh
          have e : x.owner = w.owner := beq_iff_eq.1 e
          exact absurd (by rw [← e]; exact ofH_pos hW.hpos hx) hu
      have hfit : (hcR l k == 0 || w.mode == 1 && !soleR l k) = fitsH hs w.mode := by
        have hsole : soleR l k = hs.any fun x => x.mode == 2 := by
          unfold soleR
          have e1 : ((inW k l).map hd).any (fun x => x.mode == 2) = (inW k l).any fun w => w.mode == 2 := by rw [List.any_map]; rfl
          rw [← e1, Bool.eq_iff_iff, List.any_eq_true, List.any_eq_true]
          constructor
          · rintro ⟨x, hx, e⟩; exact ⟨x, h.h.mem_iff.1 hx, e⟩
          · rintro ⟨x, hx, e⟩; exact ⟨x, h.h.mem_iff.2 hx, e⟩
        rw [hlen, hsole, Bool.eq_iff_iff, fitsH_iff]
        simp only [Bool.or_eq_true, beq_iff_eq, Bool.and_eq_true, Bool.not_eq_true', List.any_eq_false]
        constructor
        · rintro (h0 | ⟨hm1, h0⟩)
          · intro x hx
            have := List.length_pos_of_mem hx; omega
          · intro x hx
            have := h0 x hx
            exact clashM_false.2 ⟨by simpa using this, by omega⟩
        · intro h0
          by_cases hz : hs.length = 0
          · exact .inl hz
          · right
            obtain ⟨x, hx⟩ := List.exists_mem_of_length_pos (by omega : 0 < hs.length)
            have := (clashM_false.1 (h0 x hx)).2
            refine ⟨by rcases modeM_iff.1 q1 with e | e <;> omega, fun y hy => ?_⟩
            have := (clashM_false.1 (h0 y hy)).1
            simpa using this
      cases hf : fitsH hs w.mode with
      | false =>
        left
        refine ⟨rfl, ?_⟩
        unfold stepR
        rw [hat]
        simp only [hwu, Bool.false_and, Bool.false_eq_true, if_false, Bool.not_false, Bool.true_and, hfit, hf]
      | true =>
        right
        have hset : l.set (firstR l k) { w with isin := true } = A ++ { w with isin := true } :: B := by
          conv => lhs; rw [h1, ← h1]
          rw [← h2]
          conv => lhs; rw [h1]
          rw [List.set_append_right _ _ (Nat.le_refl _), Nat.sub_self]; rfl
        have hk : w.key = k := (isW_iff.1 h4).1
        have hw'1 : isW k { w with isin := true } = false := by unfold isW; simp
        have hw'2 : isH k { w with isin := true } = true := isH_iff.2 ⟨hk, rfl⟩
        refine ⟨hd w, (waitW k B).map hd, A ++ { w with isin := true } :: B, rfl, rfl, ?_, ⟨?_, ?_, ?_⟩, ?_⟩
        · unfold stepR
          rw [hat]
          show (if (w.up && hcR l k == 1) = true then _ else if (!w.up && (hcR l k == 0 || w.mode == 1 && !soleR l k)) = true then some (w.owner, l.set (firstR l k) { w with isin := true }) else none) = _
          rw [hset, if_neg (by rw [hwu]; simp), if_pos (by rw [hwu, hfit, hf]; rfl)]
          rfl
        · rw [waitW_app, h3, List.nil_append, waitW_cons, hw'1]; rfl
        · rw [inW_app, inW_cons, if_pos hw'2]
          refine List.Perm.trans ?_ (putH_perm hnoh).symm
          rw [List.map_append, List.map_cons]
          refine List.perm_middle.trans (List.Perm.cons (hd w) ?_)
          rw [← List.map_append, ← hil]; exact h.h
        · intro x hx
          rw [waitW_app, h3, List.nil_append, waitW_cons, hw'1] at hx
          exact huB x hx
        · intro k' hk'
          have hne : w.key ≠ k' := fun e => hk' (e.symm.trans hk)
          have g1 : isW k' w = false := by unfold isW; simp [hne]
          have g2 : isH k' w = false := by unfold isH; simp [hne]
          have g3 : isW k' { w with isin := true } = false := by unfold isW; simp
          have g4 : isH k' { w with isin := true } = false := by unfold isH; simp [hne]
          rw [h1, waitW_app, waitW_app, inW_app, inW_app, waitW_cons, waitW_cons, inW_cons, inW_cons, g1, g2, g3, g4]
          exact ⟨rfl, rfl⟩
/-- letting in, in the row as in the line. -/
theorem let_line : ∀ (qs hs : List Hd) (l : List Wn) (k : ByteArray) (n : Nat), RLine hs qs l k → LiW hs qs → qs.length ≤ n →
    (letR k n l).1 = (letH hs qs).1 ∧ RLine (letH hs qs).2.1 (letH hs qs).2.2 (letR k n l).2 k ∧ Others k l (letR k n l).2
  | [], hs, l, k, n, h, hW, _ => by
    have hst : stepR l k = none := by
      rcases step_line h hW with ⟨-, h1⟩ | ⟨z, r, l', h1, -⟩
      · exact h1
      · cases h1
    have : letR k n l = ([], l) := by
      cases n with
      | zero => rfl
      | succ n => unfold letR; rw [hst]
    rw [this]
    exact ⟨rfl, h, Others.refl _ _⟩
  | z :: r, hs, l, k, 0, h, hW, hn => by simp at hn
  | z :: r, hs, l, k, n + 1, h, hW, hn => by
    rcases step_line h hW with ⟨h1, h2⟩ | ⟨z', r', l', h1, h2, h3, h4, h5⟩
    · rw [letH_not h1]
      have : letR k (n + 1) l = ([], l) := by unfold letR; rw [h2]
      rw [this]
      exact ⟨rfl, h, Others.refl _ _⟩
    · simp only [List.cons.injEq] at h1
      obtain ⟨rfl, rfl⟩ := h1
      have e1 : letH hs (z :: r) = (z.owner :: (letH (putH hs z) r).1, (letH (putH hs z) r).2) := by conv => lhs; unfold letH; rw [if_pos h2]
      have e2 : letR k (n + 1) l = (z.owner :: (letR k n l').1, (letR k n l').2) := by conv => lhs; unfold letR; rw [h3]
      obtain ⟨i1, i2, i3⟩ := let_line r (putH hs z) l' k n h4 (hW.put h2) (by simpa using hn)
      rw [e1, e2]
      exact ⟨by rw [i1], i2, h5.trans i3⟩
end Go.Proofs.Ytnemgmlhcjhdhaa
/- The document's row: asking, leaving, and what it is asked; that it tells what the table tells. -/
namespace Go.Proofs.Ytnemgmlhcjhdhaa
open Go.RowKit
def RInv (L : List Li) (l : List Wn) : Prop := ∀ k, RLine (lineL L k).hs (lineL L k).qs l k
theorem RLine.has {hs qs : List Hd} {l : List Wn} {k : ByteArray} (h : RLine hs qs l k) (hs' : SortH hs) (o : Int) : hasR l o k true = ofH hs o := by
  rw [hasR_in]; exact ofH_perm h.h hs'.ne o
theorem RLine.wait {hs qs : List Hd} {l : List Wn} {k : ByteArray} (h : RLine hs qs l k) (o : Int) : hasR l o k false = ofH qs o := by
  rw [hasR_wait, h.q]
theorem RInv.nil : RInv [] [] := fun k => ⟨rfl, List.Perm.nil, by simp [waitW]⟩
/-- asking. -/
def atR (l : List Wn) (o : Int) (k : ByteArray) : Nat := if 0 < hasR l o k true then posBy (fun w => !(isW k w && !w.up)) l else l.length
def askedR (l : List Wn) (o : Int) (k : ByteArray) (m : Int) : List Wn := l.take (atR l o k) ++ ⟨k, o, m, false, decide (0 < hasR l o k true)⟩ :: l.drop (atR l o k)
def askR (l : List Wn) (o : Int) (k : ByteArray) (m : Int) : Int × List Wn :=
  if o < 0 ∨ 16 < k.size ∨ m < 1 ∨ 2 < m then (1, l)
  else if m ≤ hasR l o k true then (0, l)
  else if 0 < hasR l o k false then (10, l)
  else (if m ≤ hasR (letR k (l.length + 1) (askedR l o k m)).2 o k true then 0 else 10, (letR k (l.length + 1) (askedR l o k m)).2)
theorem asked_others (l : List Wn) (o : Int) (k : ByteArray) (m : Int) : Others k l (askedR l o k m) := fun k' hk => by
  unfold askedR
  have hne : ¬ k = k' := fun e => hk e.symm
  have h1 : isW k' ⟨k, o, m, false, decide (0 < hasR l o k true)⟩ = false := by unfold isW; simp [hne]
  have h2 : isH k' ⟨k, o, m, false, decide (0 < hasR l o k true)⟩ = false := by unfold isH; simp
  rw [waitW_app, inW_app, waitW_cons, inW_cons, h1, h2]
  simp only [Bool.false_eq_true, if_false]
  rw [← waitW_app, ← inW_app, List.take_append_drop]
  exact ⟨rfl, rfl⟩
theorem posBy_app {α : Type} (q : α → Bool) : ∀ (A B : List α), (∀ x ∈ A, q x = true) → (∀ x, B.head? = some x → q x = false) → posBy q (A ++ B) = A.length
  | [], [], _, _ => rfl
  | [], x :: B, _, h => by unfold posBy; simp [h x rfl]
  | a :: A, B, h, h' => by
    show posBy q (a :: (A ++ B)) = _
    unfold posBy
    rw [if_pos (h a (by simp)), posBy_app q A B (fun x hx => h x (List.mem_cons_of_mem _ hx)) h', List.length_cons]
/-- the asker in the queue. -/
theorem asked_line {hs qs : List Hd} {l : List Wn} {k : ByteArray} (h : RLine hs qs l k) (hW : LiW hs qs) {o m : Int} (h0 : 0 ≤ o) (hm : modeM m = true) (hlt : ofH hs o < m) :
    RLine hs (if 0 < ofH hs o then qs.take (upsH hs qs) ++ ⟨o, m⟩ :: qs.drop (upsH hs qs) else qs ++ [⟨o, m⟩]) (askedR l o k m) k := by
  have hhas := h.has hW.sh o
  have hw : isW k ⟨k, o, m, false, decide (0 < hasR l o k true)⟩ = true := isW_iff.2 ⟨rfl, rfl⟩
  have hin : inW k (askedR l o k m) = inW k l := by
    unfold askedR
    rw [inW_app, inW_cons, cons_wait hw]
    simp only [Bool.false_eq_true, if_false]
    rw [← inW_app, List.take_append_drop]
  have hwt : waitW k (askedR l o k m) = waitW k (l.take (atR l o k)) ++ ⟨k, o, m, false, decide (0 < hasR l o k true)⟩ :: waitW k (l.drop (atR l o k)) := by
    unfold askedR
    rw [waitW_app, waitW_cons, if_pos hw]
  have hsp : waitW k l = waitW k (l.take (atR l o k)) ++ waitW k (l.drop (atR l o k)) := by rw [← waitW_app, List.take_append_drop]
  refine ⟨?_, by rw [hin]; exact h.h, fun w hwm => ?_⟩
  · rw [hwt, List.map_append, List.map_cons]
    show (waitW k (l.take (atR l o k))).map hd ++ ⟨o, m⟩ :: (waitW k (l.drop (atR l o k))).map hd = _
    by_cases hu : 0 < ofH hs o
    · rw [if_pos hu]
      have hat : atR l o k = posBy (fun w => !(isW k w && !w.up)) l := by unfold atR; rw [if_pos (by rw [hhas]; exact hu)]
      have hA : ∀ w ∈ waitW k (l.take (atR l o k)), 0 < ofH hs w.owner := fun w hwm => by
        have hwl : w ∈ waitW k l := by rw [hsp]; exact List.mem_append_left _ hwm
        have hu := h.u w hwl
        obtain ⟨hm1, hm2⟩ := List.mem_filter.1 hwm
        obtain ⟨j, hj, rfl⟩ := List.getElem_of_mem hm1
        rw [List.length_take] at hj
        rw [List.getElem_take] at hm2 hu ⊢
        have := posBy_lt (fun w => !(isW k w && !w.up)) l j (by omega) (by omega)
        simp only [hm2, Bool.true_and, Bool.not_not] at this
        rw [this] at hu
        exact of_decide_eq_true hu.symm
      have hB : ∀ w, (waitW k (l.drop (atR l o k))).head? = some w → ¬ 0 < ofH hs w.owner := fun w hwm => by
        have hwB : w ∈ waitW k (l.drop (atR l o k)) := List.mem_of_mem_head? hwm
        have hwl : w ∈ waitW k l := by rw [hsp]; exact List.mem_append_right _ hwB
        have hu := h.u w hwl
        have hlt2 : atR l o k < l.length := by
          rcases Nat.lt_or_ge (atR l o k) l.length with h | h
          · exact h
          · rw [List.drop_of_length_le h] at hwB; simp [waitW] at hwB
        have hfst : isW k l[atR l o k] = true ∧ l[atR l o k].up = false := by
          have hge : (fun w : Wn => !(isW k w && !w.up)) l[atR l o k] = false := by
            have : ∀ (l : List Wn) (h : posBy (fun w => !(isW k w && !w.up)) l < l.length), (fun w : Wn => !(isW k w && !w.up)) l[posBy (fun w => !(isW k w && !w.up)) l] = false := fun l => by
              induction l with
              | nil => intro h; simp at h
              | cons x r ih =>
                intro h
                cases hx : (!(isW k x && !x.up)) with
                | true =>
                  have e : posBy (fun w => !(isW k w && !w.up)) (x :: r) = posBy (fun w => !(isW k w && !w.up)) r + 1 := by conv => lhs; unfold posBy; rw [if_pos hx]
                  simp only [e, List.getElem_cons_succ]
                  exact ih (by rw [e] at h; simpa using h)
                | false =>
                  have e : posBy (fun w => !(isW k w && !w.up)) (x :: r) = 0 := by conv => lhs; unfold posBy; rw [if_neg (by rw [hx]; decide)]
                  simp only [e, List.getElem_cons_zero]
                  exact hx
            have := this l (by rw [← hat]; exact hlt2)
            simpa only [← hat] using this
          simp only [Bool.not_eq_false', Bool.and_eq_true, Bool.not_eq_true'] at hge
          exact hge
        rw [List.drop_eq_getElem_cons hlt2, waitW_cons, if_pos hfst.1] at hwm
        simp only [List.head?_cons, Option.some.injEq] at hwm
        rw [← hwm, hfst.2] at hu
        rw [← hwm]
        exact of_decide_eq_false hu.symm
      have hups : upsH hs qs = ((waitW k (l.take (atR l o k))).map hd).length := by
        rw [← h.q, hsp, List.map_append]
        refine posBy_app _ _ _ (fun x hx => ?_) (fun x hx => ?_)
        · obtain ⟨w, hwm, rfl⟩ := List.mem_map.1 hx
          exact decide_eq_true (hA w hwm)
        · rw [List.head?_map] at hx
          obtain ⟨w, hwm, rfl⟩ := Option.map_eq_some_iff.1 hx
          exact decide_eq_false (hB w hwm)
      have hq : qs = (waitW k (l.take (atR l o k))).map hd ++ (waitW k (l.drop (atR l o k))).map hd := by rw [← h.q]; conv => lhs; rw [hsp, List.map_append]
      rw [hups]
      conv => rhs; rw [hq]
      rw [List.take_left, List.drop_left]
    · rw [if_neg hu]
      have hat : atR l o k = l.length := by unfold atR; rw [if_neg (by rw [hhas]; exact hu)]
      rw [hat, List.take_length, List.drop_length, h.q]; rfl
  · rw [hwt] at hwm
    rcases List.mem_append.1 hwm with hwm | hwm
    · exact h.u w (by rw [hsp]; exact List.mem_append_left _ hwm)
    · rcases List.mem_cons.1 hwm with rfl | hwm
      · show decide _ = decide _; rw [hhas]
      · exact h.u w (by rw [hsp]; exact List.mem_append_right _ hwm)
theorem modeM_range {m : Int} : modeM m = true ↔ ¬ m < 1 ∧ ¬ 2 < m := by
  rw [modeM_iff]
  constructor
  · rintro (rfl | rfl) <;> omega
  · rintro ⟨h1, h2⟩; omega
theorem askLi_none (k : ByteArray) {o m : Int} (hm : modeM m = true) : askLi ⟨k, [], []⟩ ⟨o, m⟩ = (0, ⟨k, [⟨o, m⟩], []⟩) := by
  have hp := mode_pos hm
  unfold askLi
  rw [if_neg (by show ¬ m ≤ ofH [] o; simp only [ofH]; omega), if_neg (by show ¬ 0 < ofH [] o; simp [ofH])]
  simp only [show ¬ 0 < ofH [] o from by simp [ofH], if_false, List.nil_append]
  have : letH [] [⟨o, m⟩] = ([o], [⟨o, m⟩], []) := by
    unfold letH
    rw [if_pos (by rw [mayH_cons]; simp [ofH, fitsH])]
    rfl
  rw [this]
  simp [ofH]
/-- what asking does to a key's line, in the row. -/
theorem ask_line {hs qs : List Hd} {l : List Wn} {k : ByteArray} (h : RLine hs qs l k) (hW : LiW hs qs) {o m : Int} (h0 : 0 ≤ o) (hk : k.size ≤ 16) (hm : modeM m = true) (kk : ByteArray) :
    (askR l o k m).1 = (askLi ⟨kk, hs, qs⟩ ⟨o, m⟩).1 ∧ RLine (askLi ⟨kk, hs, qs⟩ ⟨o, m⟩).2.hs (askLi ⟨kk, hs, qs⟩ ⟨o, m⟩).2.qs (askR l o k m).2 k ∧ Others k l (askR l o k m).2 := by
  have hhas := h.has hW.sh o
  have hwt := h.wait o
  obtain ⟨m1, m2⟩ := modeM_range.1 hm
  unfold askR askLi
  rw [if_neg (by simp only [not_or]; exact ⟨by omega, by omega, m1, m2⟩), hhas, hwt]
  show _ = (if m ≤ ofH hs o then _ else _ : Int × Li).1 ∧ _
  by_cases c1 : m ≤ ofH hs o
  · rw [if_pos c1, if_pos c1]; exact ⟨rfl, h, Others.refl _ _⟩
  · rw [if_neg c1, if_neg c1]
    by_cases c2 : 0 < ofH qs o
    · rw [if_pos c2, if_pos c2]; exact ⟨rfl, h, Others.refl _ _⟩
    · rw [if_neg c2, if_neg c2]
      simp only
      have hR := asked_line h hW (o := o) (m := m) h0 hm (by omega)
      have hL := hW.ask (w := ⟨o, m⟩) h0 hm (by show ofH hs o < m; omega) c2
      have hlen : (askedR l o k m).length = l.length + 1 := by
        unfold askedR
        rw [List.length_append, List.length_cons, List.length_take, List.length_drop]
        have : atR l o k ≤ l.length := by unfold atR; split; exact posBy_le _ _; exact Nat.le_refl _
        omega
      have hql := congrArg List.length hR.q
      rw [List.length_map] at hql
      have hqn : (waitW k (askedR l o k m)).length ≤ (askedR l o k m).length := List.length_filter_le _ _
      simp only at hL
      generalize (if 0 < ofH hs o then qs.take (upsH hs qs) ++ ⟨o, m⟩ :: qs.drop (upsH hs qs) else qs ++ [⟨o, m⟩]) = q at *
      obtain ⟨i1, i2, i3⟩ := let_line q hs (askedR l o k m) k (l.length + 1) hR hL (by omega)
      have hok := (letH_ok q hs hL).1
      refine ⟨?_, i2, (asked_others l o k m).trans i3⟩
      rw [i2.has hok.sh o]
/-- ASKING tells the same. -/
theorem ask_row {L : List Li} {l : List Wn} (h : RInv L l) (ok : LOk L) (o : Int) (k : ByteArray) (m : Int) : (askR l o k m).1 = (askL L o k m).1 ∧ RInv (askL L o k m).2 (askR l o k m).2 := by
  by_cases hv : o < 0 ∨ 16 < k.size ∨ modeM m = false
  · have e1 : askL L o k m = (1, L) := by unfold askL; rw [if_pos hv]
    have e2 : askR l o k m = (1, l) := by
      unfold askR
      rw [if_pos]
      rcases hv with hv | hv | hv
      · exact .inl hv
      · exact .inr (.inl hv)
      · refine .inr (.inr ?_)
        by_cases c1 : m < 1
        · exact .inl c1
        · by_cases c2 : 2 < m
          · exact .inr c2
          · rw [modeM_range.2 ⟨c1, c2⟩] at hv; cases hv
    rw [e1, e2]
    exact ⟨rfl, h⟩
  · simp only [not_or, Bool.not_eq_false] at hv
    obtain ⟨h0, h1, h2⟩ := hv
    have h0 : 0 ≤ o := by omega
    have h1 : k.size ≤ 16 := by omega
    obtain ⟨i1, i2, i3⟩ := ask_line (h k) (ok.line k).1 h0 h1 h2 (lineL L k).key
    have hne := fun k' (hk' : k' ≠ k) => lineL_ask_ne ok o m hk'
    have heq := lineL_ask_eq ok h0 h1 h2
    have hl : (⟨(lineL L k).key, (lineL L k).hs, (lineL L k).qs⟩ : Li) = lineL L k := rfl
    rw [hl] at i1 i2
    have hfin : (askLi (lineL L k) ⟨o, m⟩).1 = (askL L o k m).1 ∧ (lineL (askL L o k m).2 k).hs = (askLi (lineL L k) ⟨o, m⟩).2.hs ∧ (lineL (askL L o k m).2 k).qs = (askLi (lineL L k) ⟨o, m⟩).2.qs := by
      rw [heq]
      cases hh : hasL L k with
      | true =>
        simp only [if_true]
        refine ⟨?_, by first | rfl | trivial, by first | rfl | trivial⟩
        obtain ⟨hlt, -⟩ := (hasL_iff ok.s k).1 hh
        unfold askL
        rw [if_neg (by simp only [not_or, Bool.not_eq_false]; exact ⟨by omega, by omega, h2⟩), if_pos hh]
        have : lineL L k = L[posL L k] := by unfold lineL; rw [if_pos hh, List.getElem?_eq_getElem hlt, Option.getD_some]
        simp only [List.getElem?_eq_getElem hlt, Option.getD_some, this]
      | false =>
        rw [lineL_no hh]
        have e := askLi_none ByteArray.empty (o := o) h2
        rw [show Li0 = ⟨ByteArray.empty, [], []⟩ from rfl, e]
        simp only [Bool.false_eq_true, if_false]
        refine ⟨?_, by first | rfl | trivial, by first | rfl | trivial⟩
        unfold askL
        rw [if_neg (by simp only [not_or, Bool.not_eq_false]; exact ⟨by omega, by omega, h2⟩), hh]
        rfl
    refine ⟨i1.trans hfin.1, fun k' => ?_⟩
    by_cases hk' : k' = k
    · subst hk'
      rw [hfin.2.1, hfin.2.2]; exact i2
    · rw [hne k' hk']
      exact (h k').others i3 hk'
/-- leaving. -/
def outR (l : List Wn) (o : Int) : List Wn := l.filter fun w => !(w.owner == o)
def letsR : List Wn → List Wn → List Int × List Wn
  | [], l => ([], l)
  | w :: r, l => ((letR w.key l.length l).1 ++ (letsR r (letR w.key l.length l).2).1, (letsR r (letR w.key l.length l).2).2)
def leaveR (l : List Wn) (o : Int) : List Int × List Wn := letsR l (outR l o)
theorem waitW_out (l : List Wn) (o : Int) (k : ByteArray) : waitW k (outR l o) = (waitW k l).filter fun w => !(w.owner == o) := by
  unfold waitW outR; rw [List.filter_filter, List.filter_filter]; congr 1; funext w; exact Bool.and_comm ..
theorem inW_out (l : List Wn) (o : Int) (k : ByteArray) : inW k (outR l o) = (inW k l).filter fun w => !(w.owner == o) := by
  unfold inW outR; rw [List.filter_filter, List.filter_filter]; congr 1; funext w; exact Bool.and_comm ..
theorem map_out (l : List Wn) (o : Int) : (l.filter fun w => !(w.owner == o)).map hd = outH (l.map hd) o := by
  unfold outH; rw [List.filter_map]; rfl
theorem out_line {hs qs : List Hd} {l : List Wn} {k : ByteArray} (h : RLine hs qs l k) (o : Int) : RLine (outH hs o) (outH qs o) (outR l o) k := by
  refine ⟨by rw [waitW_out, map_out, h.q], by rw [inW_out, map_out]; exact h.h.filter _, fun w hw => ?_⟩
  rw [waitW_out] at hw
  obtain ⟨h1, h2⟩ := List.mem_filter.1 hw
  rw [h.u w h1, ofH_out, if_neg (by simpa using h2)]
theorem lets_inv (f : ByteArray → List Hd × List Hd) (hf : ∀ k, LiW (f k).1 (f k).2) : ∀ (rest l : List Wn) (done : ByteArray → Prop),
    (∀ k, (done k → RLine (letH (f k).1 (f k).2).2.1 (letH (f k).1 (f k).2).2.2 l k) ∧ (¬ done k → RLine (f k).1 (f k).2 l k)) →
    (∀ x, x ∈ (letsR rest l).1 ↔ ∃ k, ¬ done k ∧ (∃ w ∈ rest, w.key = k) ∧ x ∈ (letH (f k).1 (f k).2).1) ∧
    ∀ k, ((done k ∨ ∃ w ∈ rest, w.key = k) → RLine (letH (f k).1 (f k).2).2.1 (letH (f k).1 (f k).2).2.2 (letsR rest l).2 k) ∧ (¬ (done k ∨ ∃ w ∈ rest, w.key = k) → RLine (f k).1 (f k).2 (letsR rest l).2 k)
  | [], l, done, h => ⟨fun x => by simp [letsR], fun k => by simpa [letsR] using h k⟩
  | w :: r, l, done, h => by
    have hln : ∀ {hs qs : List Hd} {k : ByteArray}, RLine hs qs l k → qs.length ≤ l.length := fun {hs qs k} hR => by
      rw [← hR.q, List.length_map]; exact List.length_filter_le _ _
    obtain ⟨hd1, hd2⟩ := h w.key
    have hstep : ∃ l', (letR w.key l.length l).2 = l' ∧ RLine (letH (f w.key).1 (f w.key).2).2.1 (letH (f w.key).1 (f w.key).2).2.2 l' w.key ∧ Others w.key l l' ∧
        (∀ x, x ∈ (letR w.key l.length l).1 ↔ ¬ done w.key ∧ x ∈ (letH (f w.key).1 (f w.key).2).1) := by
      by_cases hd : done w.key
      · have hR := hd1 hd
        obtain ⟨k1, k2⟩ := letH_ok _ _ (hf w.key)
        obtain ⟨i1, i2, i3⟩ := let_line _ _ l w.key l.length hR k1 (hln hR)
        rw [letH_not k2] at i1 i2
        exact ⟨_, rfl, i2, i3, fun x => by rw [i1]; simp [hd]⟩
      · have hR := hd2 hd
        obtain ⟨i1, i2, i3⟩ := let_line _ _ l w.key l.length hR (hf w.key) (hln hR)
        exact ⟨_, rfl, i2, i3, fun x => by rw [i1]; simp [hd]⟩
    obtain ⟨l', e, s1, s2, s3⟩ := hstep
    obtain ⟨j1, j2⟩ := lets_inv f hf r l' (fun k => done k ∨ k = w.key) (fun k => by
      by_cases hk : k = w.key
      · subst hk
        exact ⟨fun _ => s1, fun hn => absurd (.inr rfl) hn⟩
      · refine ⟨fun hd => ?_, fun hd => ?_⟩
        · rcases hd with hd | hd
          · exact ((h k).1 hd).others s2 hk
          · exact absurd hd hk
        · exact ((h k).2 fun hd' => hd (.inl hd')).others s2 hk)
    have e1 : (letsR (w :: r) l).1 = (letR w.key l.length l).1 ++ (letsR r l').1 := by conv => lhs; unfold letsR; rw [e]
    have e2 : (letsR (w :: r) l).2 = (letsR r l').2 := by conv => lhs; unfold letsR; rw [e]
    refine ⟨fun x => ?_, fun k => ?_⟩
    · rw [e1, List.mem_append, s3, j1]
      constructor
      · rintro (⟨h1, h2⟩ | ⟨k, h1, ⟨v, hv, hk⟩, h2⟩)
        · exact ⟨w.key, h1, ⟨w, List.mem_cons_self .., rfl⟩, h2⟩
        · exact ⟨k, fun hd => h1 (.inl hd), ⟨v, List.mem_cons_of_mem _ hv, hk⟩, h2⟩
      · rintro ⟨k, h1, ⟨v, hv, hk⟩, h2⟩
        by_cases hkw : k = w.key
        · subst hkw; exact .inl ⟨h1, h2⟩
        · rcases List.mem_cons.1 hv with rfl | hv
          · exact absurd hk.symm hkw
          · exact .inr ⟨k, fun hd => by rcases hd with hd | hd; exact h1 hd; exact hkw hd, ⟨v, hv, hk⟩, h2⟩
    · have e3 : (done k ∨ ∃ v ∈ w :: r, v.key = k) ↔ ((done k ∨ k = w.key) ∨ ∃ v ∈ r, v.key = k) := by
        constructor
        · rintro (hd | ⟨v, hv, hk⟩)
          · exact .inl (.inl hd)
          · rcases List.mem_cons.1 hv with rfl | hv
            · exact .inl (.inr hk.symm)
            · exact .inr ⟨v, hv, hk⟩
        · rintro ((hd | hk) | ⟨v, hv, hk⟩)
          · exact .inl hd
          · exact .inr ⟨w, List.mem_cons_self .., hk.symm⟩
          · exact .inr ⟨v, List.mem_cons_of_mem _ hv, hk⟩
      rw [e2, e3]
      exact j2 k
/-- a key of which there is a line is in the row; one that is in the row has a line. -/
theorem row_key {L : List Li} {l : List Wn} (h : RInv L l) (ok : LOk L) (k : ByteArray) : (∃ w ∈ l, w.key = k) ↔ ∃ li ∈ L, li.key = k := by
  constructor
  · rintro ⟨w, hw, rfl⟩
    rcases lineL_cases ok.s w.key with ⟨h1, h2⟩ | ⟨-, h2⟩
    · exact ⟨_, h1, h2⟩
    · exfalso
      have hR := h w.key
      rw [h2] at hR
      cases hb : w.isin with
      | true =>
        have : w ∈ inW w.key l := List.mem_filter.2 ⟨hw, isH_iff.2 ⟨rfl, hb⟩⟩
        have hl := hR.h.length_eq
        rw [List.length_map] at hl
        have := List.length_pos_of_mem this
        have hl : (inW w.key l).length = 0 := hl
        omega
      | false =>
        have : w ∈ waitW w.key l := List.mem_filter.2 ⟨hw, isW_iff.2 ⟨rfl, hb⟩⟩
        have hl := congrArg List.length hR.q
        rw [List.length_map] at hl
        have := List.length_pos_of_mem this
        have hl : (waitW w.key l).length = 0 := hl
        omega
  · rintro ⟨li, hli, rfl⟩
    have hR := h li.key
    rw [lineL_eq ok.s hli] at hR
    obtain ⟨x, hx⟩ := List.exists_mem_of_ne_nil _ (ok.held hli)
    obtain ⟨w, hw, -⟩ := List.mem_map.1 (hR.h.mem_iff.2 hx)
    obtain ⟨h1, h2⟩ := List.mem_filter.1 hw
    exact ⟨w, h1, (isH_iff.1 h2).1⟩
/-- LEAVING tells the same. -/
theorem leave_row {L : List Li} {l : List Wn} (h : RInv L l) (ok : LOk L) (o : Int) : (∀ x, x ∈ (leaveR l o).1 ↔ x ∈ (leaveL L o).1) ∧ RInv (leaveL L o).2 (leaveR l o).2 := by
  obtain ⟨j1, j2⟩ := lets_inv (fun k => (outH (lineL L k).hs o, outH (lineL L k).qs o)) (fun k => (ok.line k).1.out o) l (outR l o) (fun _ => False) (fun k => ⟨fun h => h.elim, fun _ => out_line (h k) o⟩)
  constructor
  · intro x
    show x ∈ (letsR l (outR l o)).1 ↔ _
    rw [j1]
    constructor
    · rintro ⟨k, -, hk, hx⟩
      obtain ⟨li, hli, rfl⟩ := (row_key h ok k).1 hk
      rw [lineL_eq ok.s hli] at hx
      exact List.mem_flatMap.2 ⟨li, hli, hx⟩
    · intro hx
      obtain ⟨li, hli, hx⟩ := List.mem_flatMap.1 hx
      refine ⟨li.key, id, (row_key h ok _).2 ⟨li, hli, rfl⟩, ?_⟩
      rw [lineL_eq ok.s hli]; exact hx
  · intro k
    obtain ⟨e1, e2⟩ := lineL_leave ok o k
    rw [e1, e2]
    by_cases hk : ∃ w ∈ l, w.key = k
    · exact (j2 k).1 (.inr hk)
    · have hR := (j2 k).2 (by rintro (h | h); exact h; exact hk h)
      have hno : lineL L k = Li0 := by
        rcases lineL_cases ok.s k with ⟨h1, h2⟩ | ⟨-, h2⟩
        · exact absurd ((row_key h ok k).2 ⟨_, h1, h2⟩) hk
        · exact h2
      simp only [hno] at hR ⊢
      exact hR
end Go.Proofs.Ytnemgmlhcjhdhaa
/- The document's row: what it tells when it is asked. -/
namespace Go.Proofs.Ytnemgmlhcjhdhaa
open Go.RowKit
/-- put in, rising, if it isn't there. -/
def insG {α : Type} [DecidableEq α] (lt : α → α → Bool) (x : α) (out : List α) : List α := if out[posBy (fun y => lt y x) out]? = some x then out else out.take (posBy (fun y => lt y x) out) ++ x :: out.drop (posBy (fun y => lt y x) out)
theorem insG_ok {α : Type} [DecidableEq α] {lt : α → α → Bool} (tr : ∀ a b c, lt a b = true → lt b c = true → lt a c = true) (tot : ∀ a b, lt a b = true ∨ lt b a = true ∨ a = b) (x : α) {out : List α} (h : out.Pairwise fun a b => lt a b = true) : (insG lt x out).Pairwise (fun a b => lt a b = true) ∧ ∀ y, y ∈ insG lt x out ↔ y = x ∨ y ∈ out := by
  unfold insG
  split
  · rename_i e
    refine ⟨h, fun y => ⟨.inr, ?_⟩⟩
    rintro (rfl | h')
    · exact List.mem_of_getElem? e
    · exact h'
  · rename_i hne
    have hA : ∀ y ∈ out.take (posBy (fun y => lt y x) out), lt y x = true := fun y hy => by
      obtain ⟨j, hj, rfl⟩ := List.getElem_of_mem hy
      rw [List.length_take] at hj
      rw [List.getElem_take]
      exact posBy_lt (fun y => lt y x) out j (by omega) (by omega)
    have hB : ∀ y ∈ out.drop (posBy (fun y => lt y x) out), lt x y = true := fun y hy => by
      obtain ⟨j, hj, rfl⟩ := List.getElem_of_mem hy
      rw [List.length_drop] at hj
      rw [List.getElem_drop]
      have hge := posBy_ge (fun y => lt y x) (fun a b => lt a b = true) (fun a b hab ha => by
        cases hb : lt b x with
        | false => rfl
        | true => rw [tr a b x hab hb] at ha; cases ha) out h (posBy (fun y => lt y x) out + j) (by omega) (by omega)
      have hge : lt out[posBy (fun y => lt y x) out + j] x = false := hge
      rcases tot x out[posBy (fun y => lt y x) out + j] with h1 | h1 | h1
      · exact h1
      · rw [hge] at h1; cases h1
      · exfalso
        cases j with
        | zero =>
          refine hne ?_
          rw [List.getElem?_eq_getElem (by omega)]
          exact congrArg some (by simpa using h1.symm)
        | succ j =>
          have hp := List.pairwise_iff_getElem.1 h (posBy (fun y => lt y x) out) (posBy (fun y => lt y x) out + (j + 1)) (by omega) (by omega) (by omega)
          rw [← h1] at hp
          have h0 : lt out[posBy (fun y => lt y x) out] x = false := posBy_ge (fun y => lt y x) (fun a b => lt a b = true) (fun a b hab ha => by
            cases hb : lt b x with
            | false => rfl
            | true => rw [tr a b x hab hb] at ha; cases ha) out h (posBy (fun y => lt y x) out) (by omega) (Nat.le_refl _)
          rw [h0] at hp; cases hp
    refine ⟨List.pairwise_append.2 ⟨h.sublist (List.take_sublist _ _), List.pairwise_cons.2 ⟨hB, h.sublist (List.drop_sublist _ _)⟩, fun a ha b hb => ?_⟩, fun y => ?_⟩
    · rcases List.mem_cons.1 hb with rfl | hb
      · exact hA a ha
      · exact tr a x b (hA a ha) (hB b hb)
    · rw [List.mem_append, List.mem_cons]
      conv => rhs; rw [← List.take_append_drop (posBy (fun y => lt y x) out) out, List.mem_append]
      constructor
      · rintro (h1 | h1 | h1)
        · exact .inr (.inl h1)
        · exact .inl h1
        · exact .inr (.inr h1)
      · rintro (h1 | h1 | h1)
        · exact .inr (.inl h1)
        · exact .inl h1
        · exact .inr (.inr h1)
theorem risG_ok {α : Type} [DecidableEq α] {lt : α → α → Bool} (tr : ∀ a b c, lt a b = true → lt b c = true → lt a c = true) (tot : ∀ a b, lt a b = true ∨ lt b a = true ∨ a = b) (l out : List α) (h : out.Pairwise fun a b => lt a b = true) : (l.foldl (fun o x => insG lt x o) out).Pairwise (fun a b => lt a b = true) ∧ ∀ y, y ∈ l.foldl (fun o x => insG lt x o) out ↔ y ∈ l ∨ y ∈ out := by
  induction l generalizing out with
  | nil => exact ⟨h, fun y => by simp⟩
  | cons x r ih =>
    obtain ⟨h1, h2⟩ := insG_ok tr tot x h
    obtain ⟨h3, h4⟩ := ih _ h1
    refine ⟨h3, fun y => ?_⟩
    rw [List.foldl_cons, h4, h2, List.mem_cons]
    constructor
    · rintro (h | h | h)
      · exact .inl (.inr h)
      · exact .inl (.inl h)
      · exact .inr h
    · rintro ((h | h) | h)
      · exact .inr (.inl h)
      · exact .inl h
      · exact .inr (.inr h)
theorem extG {α : Type} {lt : α → α → Bool} (irr : ∀ a, lt a a = false) (tr : ∀ a b c, lt a b = true → lt b c = true → lt a c = true) : ∀ {a b : List α}, (a.Pairwise fun x y => lt x y = true) → (b.Pairwise fun x y => lt x y = true) → (∀ x, x ∈ a ↔ x ∈ b) → a = b
  | [], [], _, _, _ => rfl
  | [], y :: b, _, _, h => by have := (h y).2 (by simp); cases this
  | x :: a, [], _, _, h => by have := (h x).1 (by simp); cases this
  | x :: a, y :: b, ha, hb, h => by
    obtain ⟨a1, a2⟩ := List.pairwise_cons.1 ha
    obtain ⟨b1, b2⟩ := List.pairwise_cons.1 hb
    have e : x = y := by
      rcases List.mem_cons.1 ((h x).1 (by simp)) with e | e
      · exact e
      · rcases List.mem_cons.1 ((h y).2 (by simp)) with e2 | e2
        · exact e2.symm
        · have := tr x y x (a1 y e2) (b1 x e); rw [irr] at this; cases this
    subst e
    rw [extG irr tr a2 b2 fun z => ?_]
    have hz := h z
    rw [List.mem_cons, List.mem_cons] at hz
    constructor
    · intro h1
      rcases hz.1 (.inr h1) with h2 | h2
      · have := a1 z h1; rw [h2, irr] at this; cases this
      · exact h2
    · intro h1
      rcases hz.2 (.inr h1) with h2 | h2
      · have := b1 z h1; rw [h2, irr] at this; cases this
      · exact h2
def ltI (a b : Int) : Bool := decide (a < b)
theorem ltI_irr (a : Int) : ltI a a = false := by simp [ltI]
theorem ltI_tr (a b c : Int) (h : ltI a b = true) (k : ltI b c = true) : ltI a c = true := by simp [ltI] at *; omega
theorem ltI_tot (a b : Int) : ltI a b = true ∨ ltI b a = true ∨ a = b := by simp [ltI]; omega
/-- each once, rising: one by one. -/
def risI (l : List Int) : List Int := l.foldl (fun o x => insG ltI x o) []
def risS (l : List ByteArray) : List ByteArray := l.foldl (fun o x => insG ltS x o) []
theorem risI_rise (l : List Int) : risI l = riseI l := by
  obtain ⟨h1, h2⟩ := risG_ok ltI_tr ltI_tot l [] List.Pairwise.nil
  refine strict_ext (h1.imp fun h => of_decide_eq_true h) (rise_strict l) fun x => ?_
  rw [rise_mem]
  show x ∈ l.foldl _ [] ↔ _
  rw [h2]; simp
theorem rise_ext {a b : List Int} (h : ∀ x, x ∈ a ↔ x ∈ b) : riseI a = riseI b := strict_ext (rise_strict a) (rise_strict b) fun x => by rw [rise_mem, rise_mem, h]
/-- the keys. -/
theorem keys_row {L : List Li} {l : List Wn} (h : RInv L l) (ok : LOk L) : risS (l.map (·.key)) = L.map (·.key) := by
  obtain ⟨h1, h2⟩ := risG_ok (lt := ltS) (fun a b c => ltS_trans) ltS_total (l.map (·.key)) [] List.Pairwise.nil
  refine extG ltS_irrefl (fun a b c => ltS_trans) h1 (List.pairwise_map.2 (ok.s.imp fun h => h)) fun k => ?_
  show k ∈ List.foldl (fun o x => insG ltS x o) [] (l.map (·.key)) ↔ _
  rw [h2]
  have := row_key h ok k
  simp only [List.mem_map, List.not_mem_nil, or_false]
  exact this
theorem line_mem {L : List Li} {l : List Wn} (h : RInv L l) (k : ByteArray) (x : Hd) : x ∈ (lineL L k).hs ↔ ∃ w ∈ l, isH k w = true ∧ hd w = x := by
  rw [← (h k).h.mem_iff, List.mem_map]
  constructor
  · rintro ⟨w, hw, e⟩
    obtain ⟨h1, h2⟩ := List.mem_filter.1 hw
    exact ⟨w, h1, h2, e⟩
  · rintro ⟨w, h1, h2, e⟩; exact ⟨w, List.mem_filter.2 ⟨h1, h2⟩, e⟩
theorem queue_mem {L : List Li} {l : List Wn} (h : RInv L l) (k : ByteArray) (x : Hd) : x ∈ (lineL L k).qs ↔ ∃ w ∈ l, isW k w = true ∧ hd w = x := by
  rw [← (h k).q, List.mem_map]
  constructor
  · rintro ⟨w, hw, e⟩
    obtain ⟨h1, h2⟩ := List.mem_filter.1 hw
    exact ⟨w, h1, h2, e⟩
  · rintro ⟨w, h1, h2, e⟩; exact ⟨w, List.mem_filter.2 ⟨h1, h2⟩, e⟩
/-- the owners. -/
theorem owners_row {L : List Li} {l : List Wn} (h : RInv L l) (ok : LOk L) : riseI (l.map (·.owner)) = riseI (ownsL L) := by
  refine rise_ext fun x => ?_
  unfold ownsL
  rw [List.mem_map, List.mem_flatMap]
  constructor
  · rintro ⟨w, hw, rfl⟩
    obtain ⟨li, hli, hk⟩ := (row_key h ok w.key).1 ⟨w, hw, rfl⟩
    refine ⟨li, hli, owns_li.2 ?_⟩
    have hle := lineL_eq ok.s hli
    rw [hk] at hle
    cases hb : w.isin with
    | true => exact .inl ⟨hd w, by rw [← hle]; exact (line_mem h w.key (hd w)).2 ⟨w, hw, isH_iff.2 ⟨rfl, hb⟩, rfl⟩, rfl⟩
    | false => exact .inr ⟨hd w, by rw [← hle]; exact (queue_mem h w.key (hd w)).2 ⟨w, hw, isW_iff.2 ⟨rfl, hb⟩, rfl⟩, rfl⟩
  · rintro ⟨li, hli, hx⟩
    have hle := lineL_eq ok.s hli
    rcases owns_li.1 hx with ⟨y, hy, e⟩ | ⟨y, hy, e⟩
    · rw [← hle] at hy
      obtain ⟨w, h1, -, h3⟩ := (line_mem h li.key y).1 hy
      exact ⟨w, h1, by rw [← e, ← h3]; rfl⟩
    · rw [← hle] at hy
      obtain ⟨w, h1, -, h3⟩ := (queue_mem h li.key y).1 hy
      exact ⟨w, h1, by rw [← e, ← h3]; rfl⟩
/-- a key's holders. -/
theorem holders_row {L : List Li} {l : List Wn} (h : RInv L l) (ok : LOk L) (k : ByteArray) : ((riseI ((inW k l).map (·.owner))).map fun o => (⟨o, hasR l o k true⟩ : Hd)) = (lineL L k).hs := by
  have hW := (ok.line k).1
  have e1 : riseI ((inW k l).map (·.owner)) = (lineL L k).hs.map (·.owner) := by
    refine strict_ext (rise_strict _) (List.pairwise_map.2 hW.sh) fun x => ?_
    rw [rise_mem]
    have hp := ((h k).h.map (·.owner)).mem_iff (a := x)
    rw [List.map_map] at hp
    exact hp
  rw [e1, List.map_map]
  conv => rhs; rw [← List.map_id (lineL L k).hs]
  refine List.map_congr_left fun x hx => ?_
  show (⟨x.owner, hasR l x.owner k true⟩ : Hd) = x
  rw [(h k).has hW.sh, hW.hof hx]
/-- is one that waits blocked by another one? -/
def cndR (o : Int) (i : Nat) (w : Wn) (j : Nat) (x : Wn) : Bool := decide (x.key = w.key) && !(x.owner == o) && (x.isin || decide (j < i)) && (x.mode == 2 || w.mode == 2)
def blkAtR (l : List Wn) (o : Int) (i : Nat) (w : Wn) : Nat → List Int
  | 0 => []
  | j + 1 => blkAtR l o i w j ++ (match l[j]? with | some x => if cndR o i w j x = true then [x.owner] else [] | none => [])
def blkUpR (l : List Wn) (o : Int) : Nat → List Int
  | 0 => []
  | i + 1 => blkUpR l o i ++ (match l[i]? with | some w => if (!(w.owner == o) || w.isin) = true then [] else blkAtR l o i w l.length | none => [])
theorem blkAtR_mem {l : List Wn} {o x : Int} {i : Nat} {w : Wn} : ∀ {n : Nat}, x ∈ blkAtR l o i w n ↔ ∃ j, j < n ∧ ∃ h : j < l.length, cndR o i w j l[j] = true ∧ l[j].owner = x
  | 0 => by simp [blkAtR]
  | n + 1 => by
    rw [blkAtR, List.mem_append, blkAtR_mem (n := n)]
    constructor
    · rintro (⟨j, hj, h1⟩ | h)
      · exact ⟨j, by omega, h1⟩
      · split at h
        · rename_i z hz
          obtain ⟨hl, rfl⟩ := List.getElem?_eq_some_iff.1 hz
          split at h
          · exact ⟨n, by omega, hl, by assumption, (List.mem_singleton.1 h).symm⟩
          · cases h
        · cases h
    · rintro ⟨j, hj, h1, h2, h3⟩
      by_cases e : j = n
      · subst e
        right
        rw [List.getElem?_eq_getElem h1]
        simp only [h2, if_true]
        rw [h3]; exact List.mem_singleton.2 rfl
      · exact .inl ⟨j, by omega, h1, h2, h3⟩
theorem blkUpR_mem {l : List Wn} {o x : Int} : ∀ {n : Nat}, x ∈ blkUpR l o n ↔ ∃ i, i < n ∧ ∃ h : i < l.length, (l[i].owner = o ∧ l[i].isin = false) ∧ x ∈ blkAtR l o i l[i] l.length
  | 0 => by simp [blkUpR]
  | n + 1 => by
    rw [blkUpR, List.mem_append, blkUpR_mem (n := n)]
    constructor
    · rintro (⟨j, hj, h1⟩ | h)
      · exact ⟨j, by omega, h1⟩
      · split at h
        · rename_i z hz
          obtain ⟨hl, rfl⟩ := List.getElem?_eq_some_iff.1 hz
          split at h
          · cases h
          · rename_i hc
            simp only [Bool.or_eq_true, Bool.not_eq_true', beq_eq_false_iff_ne, not_or, Classical.not_not, Bool.not_eq_true] at hc
            exact ⟨n, by omega, hl, hc, h⟩
        · cases h
    · rintro ⟨j, hj, h1, ⟨h2, h2'⟩, h3⟩
      by_cases e : j = n
      · subst e
        right
        rw [List.getElem?_eq_getElem h1]
        simp only [h2, h2', beq_self_eq_true, Bool.not_true, Bool.or_false, Bool.false_eq_true, if_false]
        exact h3
      · exact .inl ⟨j, by omega, h1, ⟨h2, h2'⟩, h3⟩
/-- THE BLOCKERS are the same. -/
theorem blockers_row {L : List Li} {l : List Wn} (h : RInv L l) (ok : LOk L) (o : Int) : riseI (blkUpR l o l.length) = riseI (blkL L o) := by
  have hcl : ∀ a b : Int, clashM a b = true ↔ a = 2 ∨ b = 2 := fun a b => by simp [clashM]
  refine rise_ext fun x => ?_
  rw [blkUpR_mem]
  unfold blkL
  rw [List.mem_flatMap]
  constructor
  · rintro ⟨i, -, hi, ⟨ho, hin⟩, hx⟩
    obtain ⟨j, -, hj, hc, hxo⟩ := blkAtR_mem.1 hx
    unfold cndR at hc
    simp only [Bool.and_eq_true, decide_eq_true_eq, Bool.not_eq_true', beq_eq_false_iff_ne, Bool.or_eq_true, beq_iff_eq] at hc
    obtain ⟨⟨⟨hk, hno⟩, hor⟩, hm⟩ := hc
    have hwW : isW l[i].key l[i] = true := isW_iff.2 ⟨rfl, hin⟩
    obtain ⟨li, hli, hlk⟩ := (row_key h ok l[i].key).1 ⟨l[i], List.getElem_mem hi, rfl⟩
    have hle := lineL_eq ok.s hli
    rw [hlk] at hle
    refine ⟨li, hli, blkLi_mem.2 ?_⟩
    have hsp : li.qs = (waitW l[i].key (l.take i)).map hd ++ hd l[i] :: (waitW l[i].key (l.drop (i + 1))).map hd := by
      have e : ∀ kk, isW kk l[i] = true → waitW kk l = waitW kk (l.take i) ++ l[i] :: waitW kk (l.drop (i + 1)) := fun kk hw => by
        have e0 : l = l.take i ++ l[i] :: l.drop (i + 1) := by rw [← List.drop_eq_getElem_cons hi, List.take_append_drop]
        refine (congrArg (waitW kk) e0).trans ?_
        rw [waitW_app, waitW_cons, if_pos hw]
      rw [← hle, ← (h l[i].key).q, e _ hwW, List.map_append, List.map_cons]
    have hpl : ((waitW l[i].key (l.take i)).map hd).length < li.qs.length := by rw [hsp, List.length_append, List.length_cons]; omega
    have hge : li.qs[((waitW l[i].key (l.take i)).map hd).length]'hpl = hd l[i] := by
      have : li.qs[((waitW l[i].key (l.take i)).map hd).length]? = some (hd l[i]) := by
        rw [hsp, List.getElem?_append_right (Nat.le_refl _), Nat.sub_self]; rfl
      rw [List.getElem?_eq_getElem hpl] at this
      exact Option.some.inj this
    refine ⟨_, hpl, by rw [hge]; exact ho, ?_⟩
    rw [hge]
    have hne : l[j].owner ≠ l[i].owner := by rw [ho]; exact hno
    cases hjin : l[j].isin with
    | true =>
      left
      exact blkH_mem.2 ⟨hd l[j], by rw [← hle]; exact (line_mem h _ _).2 ⟨l[j], List.getElem_mem hj, isH_iff.2 ⟨hk, hjin⟩, rfl⟩, hxo, hne, (hcl _ _).2 hm⟩
    | false =>
      right
      have hji : j < i := by
        rcases hor with h1 | h1
        · rw [hjin] at h1; cases h1
        · exact h1
      refine blkH_mem.2 ⟨hd l[j], ?_, hxo, hne, (hcl _ _).2 hm⟩
      rw [hsp, List.take_left]
      refine List.mem_map.2 ⟨l[j], List.mem_filter.2 ⟨?_, isW_iff.2 ⟨hk, hjin⟩⟩, rfl⟩
      exact List.mem_iff_getElem.2 ⟨j, by rw [List.length_take]; omega, by rw [List.getElem_take]⟩
  · rintro ⟨li, hli, hx⟩
    obtain ⟨p, hp, ho, hx⟩ := blkLi_mem.1 hx
    have hle := lineL_eq ok.s hli
    have hR := h li.key
    rw [hle] at hR
    have hq := hR.q
    have hpW : p < (waitW li.key l).length := by rw [← hq, List.length_map] at hp; exact hp
    have hwe : li.qs[p] = hd (waitW li.key l)[p] := by
      have : li.qs[p]? = some (hd (waitW li.key l)[p]) := by rw [← hq, List.getElem?_map, List.getElem?_eq_getElem hpW]; rfl
      rw [List.getElem?_eq_getElem hp] at this
      exact Option.some.inj this
    have hsplit : waitW li.key l = (waitW li.key l).take p ++ (waitW li.key l)[p] :: (waitW li.key l).drop (p + 1) := by
      conv => lhs; rw [← List.take_append_drop p (waitW li.key l), List.drop_eq_getElem_cons hpW]
    obtain ⟨A, B, hl, hA, hB⟩ := List.filter_eq_append_iff.1 hsplit
    obtain ⟨B1, B2, hB', hB1, hwW, hB2⟩ := List.filter_eq_cons_iff.1 hB
    generalize hw : (waitW li.key l)[p] = w at *
    have hl' : l = (A ++ B1) ++ w :: B2 := by rw [hl, hB', List.append_assoc]
    have hwait1 : waitW li.key (A ++ B1) = (waitW li.key l).take p := by
      rw [waitW_app]
      have : waitW li.key B1 = [] := List.filter_eq_nil_iff.2 fun x hx => by simpa using hB1 x hx
      rw [this, List.append_nil]; exact hA
    have hi : (A ++ B1).length < l.length := by rw [hl']; simp
    have hli2 : l[(A ++ B1).length] = w := by
      have : l[(A ++ B1).length]? = some w := by
        conv => lhs; rw [hl']
        rw [List.getElem?_append_right (Nat.le_refl _), Nat.sub_self]; rfl
      rw [List.getElem?_eq_getElem hi] at this
      exact Option.some.inj this
    obtain ⟨hwk, hwi⟩ := isW_iff.1 hwW
    have how : w.owner = o := by rw [hwe] at ho; exact ho
    refine ⟨(A ++ B1).length, hi, hi, by rw [hli2]; exact ⟨how, hwi⟩, ?_⟩
    rw [hli2]
    refine blkAtR_mem.2 ?_
    rw [hwe] at hx
    rcases hx with hx | hx
    · obtain ⟨z, hz, hzo, hzne, hzc⟩ := blkH_mem.1 hx
      rw [← hle] at hz
      obtain ⟨y, hy, hyH, hyz⟩ := (line_mem h li.key z).1 hz
      obtain ⟨hyk, hyi⟩ := isH_iff.1 hyH
      obtain ⟨j, hj, rfl⟩ := List.getElem_of_mem hy
      subst hyz
      have hzne : l[j].owner ≠ w.owner := hzne
      have hm := (hcl _ _).1 hzc
      have hm : l[j].mode = 2 ∨ w.mode = 2 := hm
      refine ⟨j, hj, hj, ?_, hzo⟩
      unfold cndR
      simp only [Bool.and_eq_true, decide_eq_true_eq, Bool.not_eq_true', beq_eq_false_iff_ne, Bool.or_eq_true, beq_iff_eq]
      exact ⟨⟨⟨by rw [hyk, hwk], by rw [← how]; exact hzne⟩, .inl hyi⟩, hm⟩
    · obtain ⟨z, hz, hzo, hzne, hzc⟩ := blkH_mem.1 hx
      have hz2 : z ∈ ((waitW li.key l).take p).map hd := by rw [List.map_take, hq]; exact hz
      obtain ⟨y, hy, hyz⟩ := List.mem_map.1 hz2
      rw [← hwait1] at hy
      obtain ⟨hy1, hy2⟩ := List.mem_filter.1 hy
      obtain ⟨hyk, hyi⟩ := isW_iff.1 hy2
      obtain ⟨j, hj, rfl⟩ := List.getElem_of_mem hy1
      subst hyz
      have hjl : j < l.length := by omega
      have hje : (A ++ B1)[j] = l[j] := by
        have : l[j]? = some (A ++ B1)[j] := by
          conv => lhs; rw [hl']
          rw [List.getElem?_append_left hj, List.getElem?_eq_getElem hj]
        rw [List.getElem?_eq_getElem hjl] at this
        exact (Option.some.inj this).symm
      rw [hje] at hyk hyi hzo hzne hzc
      have hzne : l[j].owner ≠ w.owner := hzne
      have hm : l[j].mode = 2 ∨ w.mode = 2 := (hcl _ _).1 hzc
      refine ⟨j, hjl, hjl, ?_, hzo⟩
      unfold cndR
      simp only [Bool.and_eq_true, decide_eq_true_eq, Bool.not_eq_true', beq_eq_false_iff_ne, Bool.or_eq_true, beq_iff_eq]
      exact ⟨⟨⟨by rw [hyk, hwk], by rw [← how]; exact hzne⟩, .inr hj⟩, hm⟩
end Go.Proofs.Ytnemgmlhcjhdhaa
