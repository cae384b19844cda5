/- The shard's commands as plain functions; rising lists; what a commit leaves in the cells. -/
import Derived.Test.YtmifgnibalbgjaaGreatZM9
import Derived.Test.YtmifgnibalbgjaaGreatZM10
import Derived.Test.YtmifgnibalbgjaaGreatZLAC
namespace Go.Proofs.YtmifgnibalbgjaaGreat
open Go.RowKit set_option linter.unusedVariables false set_option linter.unusedSimpArgs false
set_option linter.unusedSectionVars false
/-! ### rising lists -/
theorem ordZ : Ord ltZ := ordI Tryz.underlying3
theorem ordK : Ord ltK := ordS Tryz.underlying9
section
variable {α β : Type} [DecidableEq α]
theorem kIns_len (lt : α → α → Bool) (x : α × β) : ∀ L : List (α × β), (kIns lt x L).length = L.length + 1
 | [] => rfl
 | y :: r => by
  unfold kIns
  split
  ·rfl
  ·simp [kIns_len lt x r]
theorem kDel_len (x : α) (L : List (α × β)) : (kDel x L).length ≤ L.length := List.length_filter_le _ _
theorem kPut_len (lt : α → α → Bool) (x : α) (v : β) (L : List (α × β)) : (kPut lt x v L).length ≤ L.length + 1 := by
 unfold kPut
 rw [kIns_len]
 have := kDel_len x L
 omega
theorem kIns_mem {lt : α → α → Bool} {x p : α × β} : ∀ {L : List (α × β)}, p ∈ kIns lt x L ↔ p = x ∨ p ∈ L
 | [] => by simp [kIns]
 | y :: r => by
  unfold kIns
  split
  ·simp
  ·simp only [List.mem_cons, kIns_mem (L := r)]
   constructor
   ·rintro (h | h | h)
    ·exact Or.inr (Or.inl h)
    ·exact Or.inl h
    ·exact Or.inr (Or.inr h)
   ·rintro (h | h | h)
    ·exact Or.inr (Or.inl h)
    ·exact Or.inl h
    ·exact Or.inr (Or.inr h)
theorem kDel_mem {x : α} {p : α × β} {L : List (α × β)} : p ∈ kDel x L ↔ p ∈ L ∧ p.1 ≠ x := by
 unfold kDel
 simp
theorem kPut_mem {lt : α → α → Bool} {x : α} {v : β} {p : α × β} {L : List (α × β)} (h : p ∈ kPut lt x v L) : p = (x, v) ∨ p ∈ L := by
 unfold kPut at h
 rcases kIns_mem.1 h with h | h
 ·exact Or.inl h
 ·exact Or.inr (kDel_mem.1 h).1
theorem kGet_of_mem {lt : α → α → Bool} (O : Ord lt) : ∀ {L : List (α × β)}, (L.Pairwise fun p q => lt p.1 q.1 = true) → ∀ {x : α} {v : β}, (x, v) ∈ L → kGet x L = some v
 | [], _, _, _, h => by cases h
 | y :: r, hL, x, v, h => by
  rw [List.pairwise_cons] at hL
  unfold kGet
  rcases List.mem_cons.1 h with e | h
  ·rw [← e]
   simp
  ·have h1 := hL.1 _ h
   have h2 : y.1 ≠ x := O.ne h1
   rw [List.find?_cons_of_neg (by simpa using h2)]
   exact kGet_of_mem O hL.2 h
end
theorem nodup_len {α : Type} [DecidableEq α] : ∀ (l K : List α), (l.Pairwise fun a b => a ≠ b) → (∀ x ∈ l, x ∈ K) → l.length ≤ K.length
 | [], _, _, _ => Nat.zero_le _
 | x :: r, K, hp, hs => by
  rw [List.pairwise_cons] at hp
  have hx := hs x (List.mem_cons_self ..)
  have h1 := nodup_len r (K.erase x) hp.2 (fun y hy => (List.mem_erase_of_ne (fun e => hp.1 y hy e.symm)).2 (hs y (List.mem_cons_of_mem _ hy)))
  have h2 := List.length_erase_of_mem hx
  have h3 := List.length_pos_of_mem hx
  simp only [List.length_cons]
  omega
theorem snoc_cases {α : Type} (l : List α) : l = [] ∨ ∃ r x, l = r ++ [x] := by
 by_cases h : l = []
 ·exact Or.inl h
 ·exact Or.inr ⟨l.dropLast, l.getLast h, (List.dropLast_concat_getLast h).symm⟩
/-! ### versions -/
/-- a row of versions, none later than last. -/
structure VOk (N : Nat) (last : Int) (l : List Ver) : Prop where
 sort : SortV l
 len : l.length ≤ N
 mom : ∀ v ∈ l, 0 ≤ v.at_ ∧ v.at_ ≤ last
 val : ∀ v ∈ l, v.v.size ≤ 32 ∧ (v.h = false → v.v = ⟨#[]⟩) ∧ (v.at_ = 0 → v.h = true)
theorem VOk.mono {N M : Nat} {a b : Int} {l : List Ver} (h : VOk N a l) (hN : N ≤ M) (hab : a ≤ b) : VOk M b l :=
 ⟨h.sort, Nat.le_trans h.len hN, fun v hv => ⟨(h.mom v hv).1, Int.le_trans (h.mom v hv).2 hab⟩, h.val⟩
theorem cutV_snoc (r : List Ver) (x : Ver) (t : Int) : cutV (r ++ [x]) t = if x.at_ = t then r else r ++ [x] := by
 unfold cutV
 by_cases h : x.at_ = t <;> simp [h]
theorem cutV_lt {l : List Ver} {t : Int} (hs : SortV l) (hm : ∀ v ∈ l, v.at_ ≤ t) : ∀ v ∈ cutV l t, v ∈ l ∧ v.at_ < t := by
 rcases snoc_cases l with rfl | ⟨r, x, rfl⟩
 ·intro v hv; cases hv
 ·rw [cutV_snoc]
  rw [SortV, List.pairwise_append] at hs
  intro v hv
  split at hv
  ·rename_i e
   have := hs.2.2 v hv x (by simp)
   exact ⟨by simp [hv], by omega⟩
  ·rename_i e
   refine ⟨hv, ?_⟩
   have h1 := hm x (by simp)
   rcases List.mem_append.1 hv with hv | hv
   ·have := hs.2.2 v hv x (by simp)
    omega
   ·simp at hv
    subst hv
    omega
theorem cutV_sort {l : List Ver} {t : Int} (hs : SortV l) : SortV (cutV l t) := by
 rcases snoc_cases l with rfl | ⟨r, x, rfl⟩
 ·exact List.Pairwise.nil
 ·rw [cutV_snoc]
  split
  ·rw [SortV, List.pairwise_append] at hs
   exact hs.1
  ·exact hs
theorem cutV_len (l : List Ver) (t : Int) : (cutV l t).length ≤ l.length := by
 rcases snoc_cases l with rfl | ⟨r, x, rfl⟩
 ·exact Nat.le_refl _
 ·rw [cutV_snoc]
  split <;> simp
theorem addV_ok {N : Nat} {last t : Int} {l : List Ver} (h : VOk N last l) (ht : 1 ≤ t) (hl : last ≤ t) {v : Ver} (e : v.at_ = t) (hv : v.v.size ≤ 32 ∧ (v.h = false → v.v = ⟨#[]⟩)) : VOk (N + 1) t (addV l v) := by
 subst e
 have hc := cutV_lt h.sort fun x hx => Int.le_trans (h.mom x hx).2 hl
 unfold addV
 refine ⟨?_, ?_, ?_, ?_⟩
 ·rw [SortV, List.pairwise_append]
  refine ⟨cutV_sort h.sort, List.pairwise_singleton _ _, fun a ha b hb => ?_⟩
  simp at hb
  subst hb
  exact (hc a ha).2
 ·have h1 := cutV_len l v.at_
  have h2 := h.len
  simp
  omega
 ·intro x hx
  rcases List.mem_append.1 hx with hx | hx
  ·exact ⟨(h.mom x (hc x hx).1).1, by have := (hc x hx).2; omega⟩
  ·simp at hx
   subst hx
   exact ⟨by omega, by omega⟩
 ·intro x hx
  rcases List.mem_append.1 hx with hx | hx
  ·exact h.val x (hc x hx).1
  ·simp at hx
   subst hx
   exact ⟨hv.1, hv.2, fun e => by omega⟩
/-! ### the cells -/
/-- cells, none later than last. -/
structure CI (K : List ByteArray) (N : Nat) (C : Cl) (last : Int) : Prop where
 rise : C.Pairwise fun p q => ltK p.1 q.1 = true
 keys : ∀ p ∈ C, p.1 ∈ K ∧ p.1.size ≤ 16 ∧ p.2 ≠ []
 vers : ∀ k, VOk N last (versM C k)
theorem CI.mono {K : List ByteArray} {N M : Nat} {C : Cl} {a b : Int} (h : CI K N C a) (hN : N ≤ M) (hab : a ≤ b) : CI K M C b := ⟨h.rise, h.keys, fun k => (h.vers k).mono hN hab⟩
theorem CI.len {K : List ByteArray} {N : Nat} {C : Cl} {last : Int} (h : CI K N C last) : C.length ≤ K.length := by
 have := nodup_len (C.map (·.1)) K (by rw [List.pairwise_map]; exact h.rise.imp fun {a b} hab => ordK.ne hab) (by
  intro x hx
  obtain ⟨p, hp, rfl⟩ := List.mem_map.1 hx
  exact (h.keys p hp).1)
 simpa using this
theorem CI.get {K : List ByteArray} {N : Nat} {C : Cl} {last : Int} (h : CI K N C last) {p : ByteArray × List Ver} (hp : p ∈ C) : versM C p.1 = p.2 := by
 unfold versM
 rw [kGet_of_mem ordK h.rise (x := p.1) (v := p.2) hp]
 rfl
theorem CI.ok {K : List ByteArray} {N M : Nat} {C : Cl} {last : Int} (h : CI K N C last) (hK : K.length ≤ M) (hN : N ≤ M) : COk M C := by
 refine ⟨Nat.le_trans h.len hK, fun p hp => ?_⟩
 have h1 := h.vers p.1
 rw [h.get hp] at h1
 exact ⟨h1.sort, Nat.le_trans h1.len hN, (h.keys p hp).2.2⟩
/-- what may be written. -/
structure WOk (K : List ByteArray) (w : Wr) : Prop where
 mem : w.key ∈ K
 key : w.key.size ≤ 16
 val : w.v.size ≤ 32
 no : w.h = false → w.v = ⟨#[]⟩
theorem cputM_ok {C : Cl} {last : Int} {k v : ByteArray} {h : Bool} {t : Int} (hk : k.size ≤ 16) (hv : v.size ≤ 32) (hno : h = false → v = ⟨#[]⟩) (ht : 1 ≤ t ∧ t ≤ 1099511627776) (hl : last ≤ t) :
  cputM C last k v h t = (0, kPut ltK k (addV (versM C k) ⟨t, v, h⟩) C, t) := by
 unfold cputM
 rw [if_neg (by
  rintro (h1 | h1 | h1)
  ·omega
  ·omega
  ·simp [momM] at h1; omega), if_neg (by omega)]
 cases h with
 | true => rfl
 | false => rw [hno rfl]; rfl
theorem versM_put (C : Cl) (k k' : ByteArray) (l : List Ver) : versM (kPut ltK k l C) k' = if k' = k then l else versM C k' := by
 unfold versM
 rw [kGet_put]
 split <;> rfl
/-- all that was written, put at a moment. -/
def flushC (t : Int) (ws : List Wr) (C : Cl) (last : Int) : Cl × Int := ws.foldl (fun p x => (cputM p.1 p.2 x.key x.v x.h t).2) (C, last)
theorem flushC_cons (t : Int) (x : Wr) (r : List Wr) (C : Cl) (last : Int) : flushC t (x :: r) C last = flushC t r (cputM C last x.key x.v x.h t).2.1 (cputM C last x.key x.v x.h t).2.2 := rfl
theorem flushC_snoc (t : Int) (r : List Wr) (x : Wr) (C : Cl) (last : Int) : flushC t (r ++ [x]) C last = (cputM (flushC t r C last).1 (flushC t r C last).2 x.key x.v x.h t).2 := by
 unfold flushC
 rw [List.foldl_append]
 rfl
theorem flush_ok {K : List ByteArray} {t : Int} (ht : 1 ≤ t ∧ t ≤ 1099511627776) : ∀ (ws : List Wr) (C : Cl) (last : Int), SortW ws → (∀ w ∈ ws, WOk K w) → (C.Pairwise fun p q => ltK p.1 q.1 = true) → (∀ p ∈ C, p.1 ∈ K ∧ p.1.size ≤ 16 ∧ p.2 ≠ []) → last ≤ t →
  (flushC t ws C last).1.Pairwise (fun p q => ltK p.1 q.1 = true) ∧ (∀ p ∈ (flushC t ws C last).1, p.1 ∈ K ∧ p.1.size ≤ 16 ∧ p.2 ≠ []) ∧ (flushC t ws C last).2 = (if ws = [] then last else t) ∧
  (∀ w ∈ ws, versM (flushC t ws C last).1 w.key = addV (versM C w.key) ⟨t, w.v, w.h⟩) ∧ ∀ k, (∀ w ∈ ws, w.key ≠ k) → versM (flushC t ws C last).1 k = versM C k
 | [], C, last, _, _, hr, hk, _ => ⟨hr, hk, (if_pos rfl).symm, fun w hw => absurd hw (by simp), fun _ _ => rfl⟩
 | x :: r, C, last, hs, hw, hr, hk, hl => by
  rw [SortW, List.pairwise_cons] at hs
  have hx := hw x (List.mem_cons_self ..)
  rw [flushC_cons, cputM_ok hx.key hx.val hx.no ht hl]
  have hne : ∀ y ∈ r, y.key ≠ x.key := fun y hy e => by
   have := hs.1 y hy
   rw [e, ltS_irrefl] at this
   cases this
  obtain ⟨h1, h2, h3, h4, h5⟩ := flush_ok ht r (kPut ltK x.key (addV (versM C x.key) ⟨t, x.v, x.h⟩) C) t hs.2 (fun y hy => hw y (List.mem_cons_of_mem _ hy)) (kRise_put ordK hr) (fun p hp => by
   rcases kPut_mem hp with rfl | hp
   ·exact ⟨hx.mem, hx.key, by unfold addV; simp⟩
   ·exact hk p hp) (Int.le_refl _)
  refine ⟨h1, h2, ?_, ?_, ?_⟩
  ·rw [h3]
   simp
  ·intro y hy
   rcases List.mem_cons.1 hy with rfl | hy
   ·rw [h5 _ hne, versM_put, if_pos rfl]
   ·rw [h4 y hy, versM_put, if_neg (hne y hy)]
  ·intro k hk'
   rw [h5 k fun y hy => hk' y (List.mem_cons_of_mem _ hy), versM_put, if_neg fun e => hk' x (List.mem_cons_self ..) e.symm]
theorem CI.flush {K : List ByteArray} {N : Nat} {C : Cl} {last t : Int} (h : CI K N C last) (ht : 1 ≤ t ∧ t ≤ 1099511627776) (hl : last ≤ t) {ws : List Wr} (hs : SortW ws) (hw : ∀ w ∈ ws, WOk K w) :
  CI K (N + 1) (flushC t ws C last).1 t ∧ (flushC t ws C last).2 ≤ t ∧ last ≤ (flushC t ws C last).2 := by
 obtain ⟨h1, h2, h3, h4, h5⟩ := flush_ok ht ws C last hs hw h.rise h.keys hl
 refine ⟨⟨h1, h2, fun k => ?_⟩, ?_, ?_⟩
 ·by_cases hk : ∃ w ∈ ws, w.key = k
  ·obtain ⟨w, hm, rfl⟩ := hk
   rw [h4 w hm]
   exact addV_ok (h.vers w.key) (by omega) hl rfl ⟨(hw w hm).val, (hw w hm).no⟩
  ·rw [h5 k fun w hm e => hk ⟨w, hm, e⟩]
   exact (h.vers k).mono (Nat.le_succ N) hl
 ·rw [h3]; split <;> omega
 ·rw [h3]; split <;> omega
/-! ### the commands -/
def momS (S : Sh) : Int := min (S.moment + 1) 1099511627776
def flushS (S : Sh) (ws : List Wr) : Sh := { S with moment := momS S, cells := (flushC (momS S) ws S.cells S.clast).1, clast := (flushC (momS S) ws S.cells S.clast).2 }
def goneS (S : Sh) (tx : Int) : Sh := { S with locks := (leaveL S.locks tx).2, lives := kDel tx S.lives }
def doneS (S : Sh) (c : Cm) : Sh := { S with dones := kPut ltZ c.tx c.att S.dones }
def isW (c : Cm) (ws : List Wr) : Bool := c.yes && decide (0 < ws.length)
def finM (S : Sh) (c : Cm) : Rp × Sh :=
 if overM S c.tx c.att then (codeR 0, S)
 else if livesM S c.tx && decide ((liveM S c.tx).att < c.att) then (codeR 8, S)
 else if livesM S c.tx && decide ((liveM S c.tx).att = c.att) then (codeR 0, goneS (if isW c (liveM S c.tx).ws then flushS (doneS S c) (liveM S c.tx).ws else doneS S c) c.tx)
 else (codeR 0, doneS S c)
def tickS (S : Sh) : Sh := { S with clock := min (S.clock + 1) 1099511627776 }
def doM (S : Sh) (c : Cm) : Rp × Sh :=
 if rightC c = false then (codeR 1, S)
 else if c.kind = 9 then (codeR 0, tickS S)
 else if c.kind = 7 then finM S c
 else if c.kind = 1 ∨ c.kind = 5 ∨ c.kind = 6 ∨ c.kind = 8 then tabM S c
 else if ¬ lateM S c = 0 then (codeR (lateM S c), S)
 else if c.kind = 2 then lockM S c
 else if c.kind = 3 then getM S c
 else putM S c
end Go.Proofs.YtmifgnibalbgjaaGreat
/- Who holds a key alone keeps it; what holds of a shard behind each command. -/
namespace Go.Proofs.YtmifgnibalbgjaaGreat
open Go.RowKit set_option linter.unusedVariables false set_option linter.unusedSimpArgs false
/-! ### who holds alone -/
theorem sole_may {hs qs : List Hd} (h : LiW hs qs) {x : Hd} (hx : x ∈ hs) (h2 : x.mode = 2) : mayH hs qs = false := by
 cases qs with
 | nil => rfl
 | cons w r =>
  rw [mayH_cons]
  obtain ⟨q0, q1, q2⟩ := h.qp w (List.mem_cons_self ..)
  have hone := h.sole x hx h2
  split
  ·rename_i hof
   exfalso
   obtain ⟨y, hy, e1, e2⟩ := ofH_mem hof
   have e3 := one_of_length hone hx hy
   subst e3
   rcases modeM_iff.1 q1 with e | e <;> omega
  ·cases hf : fitsH hs w.mode with
   | false => rfl
   | true => exact absurd h2 (clashM_false.1 (fitsH_iff.1 hf x hx)).1
theorem sole_askLi {l : Li} (h : LiW l.hs l.qs) {tx : Int} (ht : ofH l.hs tx = 2) {w : Hd} (h0 : 0 ≤ w.owner) (hm : modeM w.mode = true) : (askLi l w).2.hs = l.hs := by
 obtain ⟨x, hx, e1, e2⟩ := ofH_mem (l := l.hs) (o := tx) (by omega)
 unfold askLi
 split
 ·rfl
 ·split
  ·rfl
  ·rename_i h1 h2
   have hW := h.ask h0 hm (by omega) h2
   show (letH l.hs (if 0 < ofH l.hs w.owner then l.qs.take (upsH l.hs l.qs) ++ w :: l.qs.drop (upsH l.hs l.qs) else l.qs ++ [w])).2.1 = l.hs
   rw [letH_not (sole_may hW hx (by omega))]
theorem sole_ask {L : List Li} (h : LOk L) (o : Int) (k : ByteArray) (m : Int) {tx : Int} {k' : ByteArray} (ht : ofH (lineL L k').hs tx = 2) : ofH (lineL (askL L o k m).2 k').hs tx = 2 := by
 by_cases hk : k' = k
 ·subst hk
  by_cases hg : o < 0 ∨ 16 < k'.size ∨ modeM m = false
  ·unfold askL
   rw [if_pos hg]
   exact ht
  ·obtain ⟨g1, g2⟩ := not_or.1 hg
   obtain ⟨g3, g4⟩ := not_or.1 g2
   have hm : modeM m = true := by simpa using g4
   rw [lineL_ask_eq h (by omega) (by omega) hm]
   split
   ·rw [sole_askLi (h.line k').1 ht (w := ⟨o, m⟩) (by simp only; omega) hm]
    exact ht
   ·rename_i hh
    rw [lineL_no (by simpa using hh)] at ht
    exact absurd ht (by show ¬ (0 : Int) = 2; decide)
 ·rw [lineL_ask_ne h o m hk]
  exact ht
theorem sole_leave {L : List Li} (h : LOk L) {o tx : Int} (hne : tx ≠ o) {k : ByteArray} (ht : ofH (lineL L k).hs tx = 2) : ofH (lineL (leaveL L o).2 k).hs tx = 2 := by
 rw [(lineL_leave h o k).1]
 have hW := ((h.line k).1).out o
 have hof : ofH (outH (lineL L k).hs o) tx = 2 := by rw [ofH_out, if_neg hne]; exact ht
 obtain ⟨x, hx, e1, e2⟩ := ofH_mem (l := outH (lineL L k).hs o) (o := tx) (by omega)
 show ofH (letH (outH (lineL L k).hs o) (outH (lineL L k).qs o)).2.1 tx = 2
 rw [letH_not (sole_may hW hx (by omega))]
 exact hof
/-! ### the table of transactions -/
theorem rises_set {l : List Rw} (hl : Rises l) {i : Nat} (hi : i < l.length) {r : Rw} (e : r.tx = l[i].tx) : Rises (l.set i r) := by
 have key : ∀ (j : Nat) (hj : j < (l.set i r).length), (l.set i r)[j].tx = (l[j]'(by simpa using hj)).tx := fun j hj => by
  rw [List.getElem_set]
  split
  ·rename_i e'
   subst e'
   exact e
  ·rfl
 unfold Rises at hl ⊢
 rw [List.pairwise_iff_getElem] at hl ⊢
 intro a b ha hb hab
 rw [key a ha, key b hb]
 exact hl a b (by simpa using ha) (by simpa using hb) hab
theorem rises_ins {l : List Rw} (hl : Rises l) {r : Rw} (hh : hasR l r.tx = false) : Rises (l.take (posR l r.tx) ++ r :: l.drop (posR l r.tx)) := by
 have h1 : ∀ x ∈ l.take (posR l r.tx), x.tx < r.tx := by
  intro x hx
  obtain ⟨j, hj, rfl⟩ := List.getElem_of_mem hx
  rw [List.length_take] at hj
  rw [List.getElem_take]
  exact posR_lo r.tx l j (by omega) (by omega)
 have h2 : ∀ x ∈ l.drop (posR l r.tx), r.tx < x.tx := by
  intro x hx
  have hne : x.tx ≠ r.tx := fun e => by
   have : hasR l r.tx = true := List.any_eq_true.2 ⟨x, List.mem_of_mem_drop hx, by simp [e]⟩
   rw [hh] at this
   cases this
  obtain ⟨j, hj, rfl⟩ := List.getElem_of_mem hx
  rw [List.length_drop] at hj
  rw [List.getElem_drop] at hne ⊢
  have := posR_hi r.tx l hl (posR l r.tx + j) (by omega) (by omega)
  omega
 have hd := hl
 unfold Rises at hd ⊢
 rw [← List.take_append_drop (posR l r.tx) l, List.pairwise_append] at hd
 refine List.pairwise_append.2 ⟨hd.1, List.pairwise_cons.2 ⟨fun y hy => h2 y hy, hd.2.1⟩, fun x hx y hy => ?_⟩
 rcases List.mem_cons.1 hy with rfl | hy
 ·exact h1 x hx
 ·have a1 := h1 x hx
  have a2 := h2 y hy
  omega
/-- rows that rise, not many more. -/
def RwOk (n : Nat) (l : List Rw) : Prop := Rises l ∧ l.length ≤ n
theorem RwOk.succ {n : Nat} {l : List Rw} (h : RwOk n l) : RwOk (n + 1) l := ⟨h.1, Nat.le_succ_of_le h.2⟩
theorem RwOk.put {n : Nat} {l : List Rw} (h : RwOk n l) (r : Rw) : RwOk (n + 1) (putRw l r).2 := by
 unfold putRw
 split
 ·rename_i hh
  obtain ⟨hp, e⟩ := hasR_get l r.tx h.1 hh
  split
  ·refine ⟨rises_set h.1 hp ?_, ?_⟩
   ·rw [e]; split <;> rfl
   ·rw [List.length_set]; exact Nat.le_succ_of_le h.2
  ·exact h.succ
 ·rename_i hh
  refine ⟨rises_ins h.1 (by simpa using hh), ?_⟩
  have h1 := h.2
  have h2 := posR_le l r.tx
  simp
  omega
theorem RwOk.setRw {n : Nat} {l : List Rw} (h : RwOk n l) {tx att : Int} (hh : hasR l tx = true) {r : Rw} (e : r.tx = (rowR l tx).tx) : RwOk (n + 1) (setRw l tx r) := by
 obtain ⟨hp, e2⟩ := hasR_get l tx h.1 hh
 unfold Go.Proofs.YtmifgnibalbgjaaGreat.setRw
 refine ⟨rises_set h.1 hp ?_, ?_⟩
 ·rw [e, rowR_get hp]
 ·rw [List.length_set]; exact Nat.le_succ_of_le h.2
theorem how_has {l : List Rw} {tx att : Int} (h : ¬ 0 < howM l tx att) : hasR l tx = true := by
 unfold howM at h
 cases hh : hasR l tx with
 | true => rfl
 | false => rw [hh] at h; simp at h
theorem RwOk.openM {n : Nat} {l : List Rw} (h : RwOk n l) (tx att stamp now : Int) : RwOk (n + 1) (openM l tx att stamp now).2 := by
 unfold Go.Proofs.YtmifgnibalbgjaaGreat.openM
 split
 ·exact h.succ
 ·split
  ·exact h.put _
  ·split <;> exact h.succ
theorem RwOk.decideM {n : Nat} {l : List Rw} (h : RwOk n l) (tx att : Int) : RwOk (n + 1) (decideM l tx att).2 := by
 unfold Go.Proofs.YtmifgnibalbgjaaGreat.decideM
 split
 ·exact h.succ
 ·split
  ·exact h.succ
  ·rename_i hh
   split
   ·exact h.succ
   ·split
    ·exact h.setRw (att := att) (how_has hh) rfl
    ·split <;> exact h.succ
theorem RwOk.killM {n : Nat} {l : List Rw} (h : RwOk n l) (tx att now : Int) : RwOk (n + 1) (killM l tx att now).2 := by
 unfold Go.Proofs.YtmifgnibalbgjaaGreat.killM
 split
 ·exact h.succ
 ·split
  ·exact h.put _
  ·rename_i hh
   split
   ·exact h.succ
   ·split
    ·exact h.setRw (att := att) (how_has hh) rfl
    ·split <;> exact h.succ
theorem RwOk.beatM {n : Nat} {l : List Rw} (h : RwOk n l) (tx att now : Int) : RwOk (n + 1) (beatM l tx att now).2 := by
 unfold Go.Proofs.YtmifgnibalbgjaaGreat.beatM
 split
 ·exact h.succ
 ·split
  ·exact h.succ
  ·rename_i hh
   split
   ·exact h.succ
   ·split
    ·exact h.setRw (att := att) (how_has hh) rfl
    ·exact h.succ
/-! ### what a live one wrote -/
theorem sortw_set {l : List Wr} (hl : SortW l) {i : Nat} (hi : i < l.length) {r : Wr} (e : r.key = l[i].key) : SortW (l.set i r) := by
 have key : ∀ (j : Nat) (hj : j < (l.set i r).length), (l.set i r)[j].key = (l[j]'(by simpa using hj)).key := fun j hj => by
  rw [List.getElem_set]
  split
  ·rename_i e'
   subst e'
   exact e
  ·rfl
 unfold SortW at hl ⊢
 rw [List.pairwise_iff_getElem] at hl ⊢
 intro a b ha hb hab
 rw [key a ha, key b hb]
 exact hl a b (by simpa using ha) (by simpa using hb) hab
theorem sortw_ins {l : List Wr} (hl : SortW l) {r : Wr} (hh : hasW l r.key = false) : SortW (l.take (posW l r.key) ++ r :: l.drop (posW l r.key)) := by
 have h1 : ∀ x ∈ l.take (posW l r.key), ltS x.key r.key = true := by
  intro x hx
  obtain ⟨j, hj, rfl⟩ := List.getElem_of_mem hx
  rw [List.length_take] at hj
  rw [List.getElem_take]
  exact posW_lt r.key j (by omega) (by omega)
 have h2 : ∀ x ∈ l.drop (posW l r.key), ltS r.key x.key = true := by
  intro x hx
  have hne : x.key ≠ r.key := fun e => by
   have : hasW l r.key = true := List.any_eq_true.2 ⟨x, List.mem_of_mem_drop hx, by simp [e]⟩
   rw [hh] at this
   cases this
  obtain ⟨j, hj, rfl⟩ := List.getElem_of_mem hx
  rw [List.length_drop] at hj
  rw [List.getElem_drop] at hne ⊢
  have h3 := posW_ge hl r.key (posW l r.key + j) (by omega) (by omega)
  rcases ltS_total (l[posW l r.key + j]).key r.key with h | h | h
  ·rw [h3] at h; cases h
  ·exact h
  ·exact absurd h hne
 have hd := hl
 unfold SortW at hd ⊢
 rw [← List.take_append_drop (posW l r.key) l, List.pairwise_append] at hd
 refine List.pairwise_append.2 ⟨hd.1, List.pairwise_cons.2 ⟨fun y hy => h2 y hy, hd.2.1⟩, fun x hx y hy => ?_⟩
 rcases List.mem_cons.1 hy with rfl | hy
 ·exact h1 x hx
 ·exact ltS_trans (h1 x hx) (h2 y hy)
theorem putW_sort {l : List Wr} (hl : SortW l) (r : Wr) : SortW (putW l r) := by
 unfold putW
 split
 ·rename_i hh
  obtain ⟨hp, e⟩ := (hasW_iff hl r.key).1 hh
  exact sortw_set hl hp e.symm
 ·rename_i hh
  exact sortw_ins hl (by simpa using hh)
theorem putW_mem {l : List Wr} {r x : Wr} (h : x ∈ putW l r) : x = r ∨ x ∈ l := by
 unfold putW at h
 split at h
 ·rcases List.mem_or_eq_of_mem_set h with h | h
  ·exact Or.inr h
  ·exact Or.inl h
 ·rcases List.mem_append.1 h with h | h
  ·exact Or.inr (List.mem_of_mem_take h)
  ·rcases List.mem_cons.1 h with h | h
   ·exact Or.inl h
   ·exact Or.inr (List.mem_of_mem_drop h)
/-! ### the shard -/
structure LvOk (K : List ByteArray) (L : List Li) (tx : Int) (x : Lv) : Prop where
 sort : SortW x.ws
 ws : ∀ w ∈ x.ws, WOk K w ∧ ofH (lineL L w.key).hs tx = 2
/-- what holds of a shard behind n commands whose keys are among K. -/
structure SInv (K : List ByteArray) (n : Nat) (S : Sh) : Prop where
 clock : 0 ≤ S.clock ∧ S.clock ≤ 1099511627776
 moment : 0 ≤ S.moment ∧ S.moment ≤ 1099511627776
 last : 0 ≤ S.clast ∧ S.clast ≤ S.moment
 cells : CI K n S.cells S.clast
 locks : LOk S.locks
 lsm : Sm n S.locks
 rows : RwOk n S.rows
 lrise : S.lives.Pairwise fun p q => ltZ p.1 q.1 = true
 llen : S.lives.length ≤ n
 live : ∀ tx x, kGet tx S.lives = some x → LvOk K S.locks tx x
 drise : S.dones.Pairwise fun p q => ltZ p.1 q.1 = true
 dlen : S.dones.length ≤ n
 ltx : ∀ p ∈ S.lives, 0 ≤ p.1 ∧ p.1 ≤ 1048576
 dtx : ∀ p ∈ S.dones, (0 ≤ p.1 ∧ p.1 ≤ 1048576) ∧ 0 ≤ p.2 ∧ p.2 ≤ 1048576
theorem wok_len {K : List ByteArray} {ws : List Wr} (hs : SortW ws) (hw : ∀ w ∈ ws, WOk K w) : ws.length ≤ K.length := by
 have := nodup_len (ws.map (·.key)) K (by
  rw [List.pairwise_map]
  exact hs.imp fun {a b} hab e => by rw [e, ltS_irrefl] at hab; cases hab) (by
  intro x hx
  obtain ⟨p, hp, rfl⟩ := List.mem_map.1 hx
  exact (hw p hp).mem)
 simpa using this
section
variable {K : List ByteArray} {n : Nat} {S : Sh}
theorem SInv.ofLive (h : SInv K n S) (tx : Int) : LvOk K S.locks tx (liveM S tx) := by
 unfold liveM
 cases hg : kGet tx S.lives with
 | none => exact ⟨List.Pairwise.nil, fun w hw => by cases hw⟩
 | some x => exact h.live tx x hg
theorem SInv.succ (h : SInv K n S) : SInv K (n + 1) S :=
 ⟨h.clock, h.moment, h.last, h.cells.mono (Nat.le_succ n) (Int.le_refl _), h.locks, h.lsm.mono (Nat.le_succ n), h.rows.succ, h.lrise, Nat.le_succ_of_le h.llen, h.live, h.drise, Nat.le_succ_of_le h.dlen, h.ltx, h.dtx⟩
theorem SInv.setLive (h : SInv K n S) {L : List Li} (hL : LOk L) (hLs : Sm (n + 1) L) (hk : ∀ tx k, ofH (lineL S.locks k).hs tx = 2 → ofH (lineL L k).hs tx = 2) (tx : Int) (x : Lv) (hx : LvOk K L tx x) (ht : 0 ≤ tx ∧ tx ≤ 1048576) : SInv K (n + 1) { S with locks := L, lives := kPut ltZ tx x S.lives } := by
 refine ⟨h.clock, h.moment, h.last, h.cells.mono (Nat.le_succ n) (Int.le_refl _), hL, hLs, h.rows.succ, kRise_put ordZ h.lrise, Nat.le_trans (kPut_len ltZ tx x S.lives) (Nat.succ_le_succ h.llen), fun t y hy => ?_, h.drise, Nat.le_succ_of_le h.dlen, fun p hp => ?_, h.dtx⟩
 rotate_left
 ·rcases kPut_mem (lt := ltZ) hp with rfl | hp
  ·exact ht
  ·exact h.ltx p hp
 have hy' : kGet t (kPut ltZ tx x S.lives) = some y := hy
 rw [kGet_put] at hy'
 split at hy'
 ·rename_i e
  cases hy'
  rw [e]
  exact hx
 ·have h1 := h.live t y hy'
  exact ⟨h1.sort, fun w hw => ⟨(h1.ws w hw).1, hk _ _ (h1.ws w hw).2⟩⟩
theorem SInv.setRows (h : SInv K n S) {R : List Rw} (hR : RwOk (n + 1) R) : SInv K (n + 1) { S with rows := R } :=
 ⟨h.clock, h.moment, h.last, h.cells.mono (Nat.le_succ n) (Int.le_refl _), h.locks, h.lsm.mono (Nat.le_succ n), hR, h.lrise, Nat.le_succ_of_le h.llen, h.live, h.drise, Nat.le_succ_of_le h.dlen, h.ltx, h.dtx⟩
theorem SInv.tick (h : SInv K n S) : SInv K (n + 1) (tickS S) :=
 ⟨by have := h.clock; unfold tickS; simp only; omega, h.moment, h.last, h.cells.mono (Nat.le_succ n) (Int.le_refl _), h.locks, h.lsm.mono (Nat.le_succ n), h.rows.succ, h.lrise, Nat.le_succ_of_le h.llen, h.live, h.drise, Nat.le_succ_of_le h.dlen, h.ltx, h.dtx⟩
theorem num_iff {c : Cm} (h : numM c = true) : (0 ≤ c.tx ∧ c.tx ≤ 1048576) ∧ 0 ≤ c.att ∧ c.att ≤ 1048576 := by
 unfold numM at h
 simp only [Bool.and_eq_true, decide_eq_true_eq] at h
 omega
theorem dones_in (h : SInv K n S) {c : Cm} (hc : numM c = true) : ∀ p ∈ kPut ltZ c.tx c.att S.dones, (0 ≤ p.1 ∧ p.1 ≤ 1048576) ∧ 0 ≤ p.2 ∧ p.2 ≤ 1048576 := fun p hp => by
 rcases kPut_mem hp with rfl | hp
 ·exact num_iff hc
 ·exact h.dtx p hp
theorem SInv.done (h : SInv K n S) (c : Cm) (hc : numM c = true) : SInv K (n + 1) (doneS S c) :=
 ⟨h.clock, h.moment, h.last, h.cells.mono (Nat.le_succ n) (Int.le_refl _), h.locks, h.lsm.mono (Nat.le_succ n), h.rows.succ, h.lrise, Nat.le_succ_of_le h.llen, h.live, kRise_put ordZ h.drise, Nat.le_trans (kPut_len ltZ c.tx c.att S.dones) (Nat.succ_le_succ h.dlen), h.ltx, dones_in h hc⟩
theorem SInv.gone (h : SInv K n S) (c : Cm) (hc : numM c = true) {m last : Int} {C : Cl} (hm : 0 ≤ m ∧ m ≤ 1099511627776) (hl : 0 ≤ last ∧ last ≤ m) (hC : CI K (n + 1) C last) : SInv K (n + 1) (goneS { doneS S c with moment := m, cells := C, clast := last } c.tx) := by
 refine ⟨h.clock, hm, hl, hC, h.locks.leave c.tx, (h.lsm.leave c.tx).mono (Nat.le_succ n), h.rows.succ, kRise_del h.lrise, Nat.le_trans (kDel_len c.tx S.lives) (Nat.le_succ_of_le h.llen), fun t y hy => ?_, kRise_put ordZ h.drise, Nat.le_trans (kPut_len ltZ c.tx c.att S.dones) (Nat.succ_le_succ h.dlen), fun p hp => h.ltx p (kDel_mem.1 hp).1, dones_in h hc⟩
 have hy' : kGet t (kDel c.tx S.lives) = some y := hy
 rw [kGet_del] at hy'
 split at hy'
 ·cases hy'
 ·rename_i e
  have h1 := h.live t y hy'
  exact ⟨h1.sort, fun w hw => ⟨(h1.ws w hw).1, sole_leave h.locks e (h1.ws w hw).2⟩⟩
theorem momS_ok (h : SInv K n S) : (1 ≤ momS S ∧ momS S ≤ 1099511627776) ∧ S.moment ≤ momS S := by
 have := h.moment
 unfold momS
 omega
theorem SInv.fin (h : SInv K n S) (c : Cm) (hc : numM c = true) : SInv K (n + 1) (finM S c).2 := by
 unfold finM
 split
 ·exact h.succ
 ·split
  ·exact h.succ
  ·split
   ·obtain ⟨h1, h2⟩ := momS_ok h
    have h3 := h.last
    have hL := h.ofLive c.tx
    have h4 := h.cells.flush h1 (by omega) hL.sort fun w hw => (hL.ws w hw).1
    show SInv K (n + 1) (goneS (if isW c (liveM S c.tx).ws then flushS (doneS S c) (liveM S c.tx).ws else doneS S c) c.tx)
    split
    ·exact h.gone c hc (m := momS S) (last := (flushC (momS S) (liveM S c.tx).ws S.cells S.clast).2) (C := (flushC (momS S) (liveM S c.tx).ws S.cells S.clast).1) (by omega) ⟨by omega, h4.2.1⟩ (by
      have h5 := h4.1
      refine ⟨h5.rise, h5.keys, fun k => ?_⟩
      have h6 := flush_ok h1 (liveM S c.tx).ws S.cells S.clast hL.sort (fun w hw => (hL.ws w hw).1) h.cells.rise h.cells.keys (by omega)
      by_cases hw : (liveM S c.tx).ws = []
      ·rw [hw]
       exact (h.cells.vers k).mono (Nat.le_succ n) (Int.le_refl _)
      ·rw [h6.2.2.1, if_neg hw]
       exact h5.vers k)
    ·exact h.gone c hc (m := S.moment) (last := S.clast) (C := S.cells) h.moment h.last (h.cells.mono (Nat.le_succ n) (Int.le_refl _))
   ·exact h.done c hc
theorem SInv.tab (h : SInv K n S) (c : Cm) : SInv K (n + 1) (tabM S c).2 := by
 unfold tabM
 split
 ·exact h.setRows (h.rows.openM ..)
 ·split
  ·exact h.setRows (h.rows.decideM ..)
  ·split
   ·exact h.setRows (h.rows.killM ..)
   ·exact h.setRows (h.rows.beatM ..)
theorem SInv.lock (h : SInv K n S) (c : Cm) (hc : numM c = true) : SInv K (n + 1) (lockM S c).2 := by
 have hL := h.ofLive c.tx
 exact h.setLive (h.locks.ask ..) (h.lsm.ask ..) (fun tx k hk => sole_ask h.locks _ _ _ hk) c.tx _ ⟨hL.sort, fun w hw => ⟨(hL.ws w hw).1, sole_ask h.locks _ _ _ (hL.ws w hw).2⟩⟩ (num_iff hc).1
theorem SInv.get (h : SInv K n S) (c : Cm) (hc : numM c = true) : SInv K (n + 1) (getM S c).2 := by
 have hL := h.ofLive c.tx
 have h1 : SInv K (n + 1) (getS S c) := h.setLive h.locks (h.lsm.mono (Nat.le_succ n)) (fun _ _ hk => hk) c.tx _ ⟨hL.sort, hL.ws⟩ (num_iff hc).1
 unfold getM
 split
 ·exact h.succ
 ·split <;> exact h1
theorem SInv.put (h : SInv K n S) (c : Cm) (hm : numM c = true) (hc : c.key ∈ K) (hk : c.key.size ≤ 16) (hv : c.yes = true → c.value.size ≤ 32) : SInv K (n + 1) (putM S c).2 := by
 have hL := h.ofLive c.tx
 unfold putM
 split
 ·exact h.succ
 ·rename_i hn
  obtain ⟨-, hn⟩ := not_or.1 hn
  have hs : ofH (lineL S.locks c.key).hs c.tx = 2 := Decidable.not_not.1 hn
  refine h.setLive h.locks (h.lsm.mono (Nat.le_succ n)) (fun _ _ hk => hk) c.tx _ ⟨putW_sort hL.sort _, fun w hw => ?_⟩ (num_iff hm).1
  rcases putW_mem hw with rfl | hw
  ·unfold wrOf
   split
   ·rename_i hy
    exact ⟨⟨hc, hk, hv hy, fun e => by cases e⟩, hs⟩
   ·exact ⟨⟨hc, hk, by show (0 : Nat) ≤ 32; decide, fun _ => rfl⟩, hs⟩
  ·exact hL.ws w hw
theorem right_put {c : Cm} (h : rightC c = true) (hk : c.kind = 4) : c.key.size ≤ 16 ∧ (c.yes = true → c.value.size ≤ 32) := by
 unfold rightC at h
 rw [hk] at h
 simp at h
 obtain ⟨⟨⟨⟨h1, h2⟩, h3⟩, h4⟩, h5⟩ := h
 refine ⟨h3, fun hy => ?_⟩
 rcases h4 with h4 | h4
 ·rw [h4] at hy; cases hy
 ·exact h4
theorem right_num {c : Cm} (h : rightC c = true) (hk : ¬ c.kind = 9) : numM c = true := by
 unfold rightC at h
 rw [if_neg hk] at h
 split at h
 ·simp at h; exact h.2
 ·split at h
  ·simp at h; exact h.2
  ·split at h
   ·simp at h; exact h.2
   ·split at h
    ·simp at h; exact h.2
    ·split at h
     ·exact h
     ·cases h
theorem right_kind {c : Cm} (h : rightC c = true) (h1 : ¬ c.kind = 9) (h2 : ¬ c.kind = 7) (h3 : ¬ (c.kind = 1 ∨ c.kind = 5 ∨ c.kind = 6 ∨ c.kind = 8)) (h4 : ¬ c.kind = 2) (h5 : ¬ c.kind = 3) : c.kind = 4 := by
 obtain ⟨g1, g2⟩ := not_or.1 h3
 unfold rightC at h
 rw [if_neg h1, if_neg g1, if_neg h4, if_neg h5] at h
 by_cases h6 : c.kind = 4
 ·exact h6
 ·rw [if_neg h6, if_neg (by rintro (h | h | h | h) <;> omega)] at h
  cases h
theorem SInv.step (h : SInv K n S) (c : Cm) (hc : c.key ∈ K) : SInv K (n + 1) (doM S c).2 := by
 unfold doM
 split
 ·exact h.succ
 ·rename_i hr
  have hr' : rightC c = true := by simpa using hr
  split
  ·exact h.tick
  ·rename_i h9
   have hnum := right_num hr' h9
   split
   ·exact h.fin c hnum
   ·split
    ·exact h.tab c
    ·split
     ·exact h.succ
     ·split
      ·exact h.lock c hnum
      ·split
       ·exact h.get c hnum
       ·have hk := right_kind hr' (by assumption) (by assumption) (by assumption) (by assumption) (by assumption)
        obtain ⟨a1, a2⟩ := right_put hr' hk
        exact h.put c hnum hc a1 a2
end
end Go.Proofs.YtmifgnibalbgjaaGreat
