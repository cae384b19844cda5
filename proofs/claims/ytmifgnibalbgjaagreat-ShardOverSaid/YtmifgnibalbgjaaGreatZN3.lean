/- Who reads holds the key, and who writes holds it alone: the plain law. -/
import Derived.Test.YtmifgnibalbgjaaGreatZN1
import Derived.Test.YtmifgnibalbgjaaGreatZO1
import Derived.Test.YtmifgnibalbgjaaGreatZLAH
namespace Go.Proofs.YtmifgnibalbgjaaGreat
open Go.RowKit set_option linter.unusedVariables false set_option linter.unusedSimpArgs false
theorem sinv0 (K : List ByteArray) : SInv K 0 sh0 :=
 ⟨by decide, by decide, by decide, ⟨List.Pairwise.nil, fun p hp => (by cases hp), fun k => ⟨List.Pairwise.nil, Nat.le_refl _, fun v hv => (by cases hv), fun v hv => (by cases hv)⟩⟩, ⟨List.Pairwise.nil, fun l hl => (by cases hl)⟩, ⟨Nat.le_refl _, fun l hl => (by cases hl)⟩, ⟨List.Pairwise.nil, Nat.le_refl _⟩, List.Pairwise.nil, Nat.le_refl _, fun tx x hx => (by cases hx), List.Pairwise.nil, Nat.le_refl _, fun p hp => (by cases hp), fun p hp => (by cases hp)⟩
end Go.Proofs.YtmifgnibalbgjaaGreat
/- What is written is seen when it is committed, and never else: the plain law. -/
namespace Go.Proofs.YtmifgnibalbgjaaGreat
open Go.RowKit set_option linter.unusedVariables false set_option linter.unusedSimpArgs false
/-! ### what a row of versions tells -/
/-! ### who lives isn't over -/
def NotOver (S : Sh) : Prop := ∀ tx x, kGet tx S.lives = some x → overM S tx x.att = false
theorem over_iff {S : Sh} {tx att : Int} : overM S tx att = false ↔ ∀ d, kGet tx S.dones = some d → d < att := by
 unfold overM
 cases h : kGet tx S.dones with
 | none => simp
 | some d => simp
theorem late_zero {S : Sh} {c : Cm} (h : ¬ ¬ lateM S c = 0) : overM S c.tx c.att = false ∧ (livesM S c.tx = true → (liveM S c.tx).att = c.att) := by
 have h := Decidable.not_not.1 h
 unfold lateM at h
 split at h
 ·exact absurd h (by decide)
 ·rename_i h1
  split at h
  ·exact absurd h (by decide)
  ·rename_i h2
   simp at h1 h2
   refine ⟨h1.1, fun hl => ?_⟩
   have a1 := h1.2 hl
   have a2 := h2 hl
   omega
theorem livesM_iff {S : Sh} {tx : Int} {x : Lv} (h : kGet tx S.lives = some x) : livesM S tx = true ∧ liveM S tx = x := by
 unfold livesM liveM
 rw [h]
 exact ⟨rfl, rfl⟩
theorem NotOver.setLive {S S' : Sh} (h : NotOver S) {tx : Int} {x : Lv} (hx : overM S tx x.att = false) (e1 : S'.lives = kPut ltZ tx x S.lives) (e2 : S'.dones = S.dones) : NotOver S' := by
 intro t y hy
 have ho : ∀ t a, overM S' t a = overM S t a := fun t a => by unfold overM; rw [e2]
 rw [ho]
 rw [e1, kGet_put] at hy
 split at hy
 ·rename_i e
  cases hy
  rw [e]
  exact hx
 ·exact h t y hy
theorem NotOver.same {S S' : Sh} (h : NotOver S) (e1 : S'.lives = S.lives) (e2 : S'.dones = S.dones) : NotOver S' := by
 intro t y hy
 have ho : ∀ t a, overM S' t a = overM S t a := fun t a => by unfold overM; rw [e2]
 rw [ho]
 rw [e1] at hy
 exact h t y hy
theorem tab_same (S : Sh) (c : Cm) : (tabM S c).2.lives = S.lives ∧ (tabM S c).2.dones = S.dones ∧ (tabM S c).2.cells = S.cells ∧ (tabM S c).2.moment = S.moment ∧ (tabM S c).2.locks = S.locks ∧ (tabM S c).2.clock = S.clock ∧ (tabM S c).2.clast = S.clast := by
 unfold tabM
 split
 ·exact ⟨rfl, rfl, rfl, rfl, rfl, rfl, rfl⟩
 ·split
  ·exact ⟨rfl, rfl, rfl, rfl, rfl, rfl, rfl⟩
  ·split <;> exact ⟨rfl, rfl, rfl, rfl, rfl, rfl, rfl⟩
/-- a commit's shard: what is done is the same whether it writes or not. -/
def endS (S : Sh) (c : Cm) : Sh := goneS (if isW c (liveM S c.tx).ws then flushS (doneS S c) (liveM S c.tx).ws else doneS S c) c.tx
theorem endS_lives (S : Sh) (c : Cm) : (endS S c).lives = kDel c.tx S.lives ∧ (endS S c).dones = kPut ltZ c.tx c.att S.dones ∧ (endS S c).locks = (leaveL S.locks c.tx).2 ∧ (endS S c).rows = S.rows ∧ (endS S c).clock = S.clock := by
 unfold endS
 split <;> exact ⟨rfl, rfl, rfl, rfl, rfl⟩
theorem finM_eq (S : Sh) (c : Cm) : finM S c = if overM S c.tx c.att then (codeR 0, S)
 else if livesM S c.tx && decide ((liveM S c.tx).att < c.att) then (codeR 8, S)
 else if livesM S c.tx && decide ((liveM S c.tx).att = c.att) then (codeR 0, endS S c)
 else (codeR 0, doneS S c) := rfl
theorem NotOver.fin {S : Sh} (h : NotOver S) (c : Cm) : NotOver (finM S c).2 := by
 rw [finM_eq]
 split
 ·exact h
 ·split
  ·exact h
  ·rename_i h1 h2
   split
   ·intro t y hy
    have e1 := (endS_lives S c).1
    have e2 := (endS_lives S c).2.1
    rw [e1, kGet_del] at hy
    split at hy
    ·cases hy
    ·rename_i e
     rw [over_iff, e2]
     intro d hd
     rw [kGet_put, if_neg e] at hd
     exact over_iff.1 (h t y hy) d hd
   ·rename_i h3
    intro t y hy
    have hy' : kGet t S.lives = some y := hy
    rw [over_iff]
    intro d hd
    have hd' : kGet t (kPut ltZ c.tx c.att S.dones) = some d := hd
    rw [kGet_put] at hd'
    split at hd'
    ·rename_i e
     subst e
     cases hd'
     obtain ⟨a1, a2⟩ := livesM_iff hy'
     rw [a1, a2] at h2 h3
     simp at h2 h3
     omega
    ·exact over_iff.1 (h t y hy') d hd'
theorem NotOver.step {S : Sh} (h : NotOver S) (c : Cm) : NotOver (doM S c).2 := by
 unfold doM
 split
 ·exact h
 ·split
  ·exact h.same rfl rfl
  ·split
   ·exact h.fin c
   ·split
    ·exact h.same (tab_same S c).1 (tab_same S c).2.1
    ·split
     ·exact h
     ·rename_i hl
      obtain ⟨a1, a2⟩ := late_zero hl
      have hov : livesM S c.tx = true → overM S c.tx (liveM S c.tx).att = false := fun hl => by rw [a2 hl]; exact a1
      split
      ·exact h.setLive (tx := c.tx) (x := ⟨c.att, c, (liveM S c.tx).ws⟩) a1 rfl rfl
      ·split
       ·unfold getM
        split
        ·exact h
        ·rename_i hn
         have hb : livesM S c.tx = true := by simpa using (not_or.1 hn).1
         split <;> exact h.setLive (tx := c.tx) (x := ⟨(liveM S c.tx).att, c, (liveM S c.tx).ws⟩) (hov hb) rfl rfl
       ·unfold putM
        split
        ·exact h
        ·rename_i hn
         have hb : livesM S c.tx = true := by simpa using (not_or.1 hn).1
         exact h.setLive (tx := c.tx) (x := ⟨(liveM S c.tx).att, c, putW (liveM S c.tx).ws (wrOf c)⟩) (hov hb) rfl rfl
theorem notOver0 : NotOver sh0 := fun tx x h => by cases h
/-! ### what a command does to the cells -/
theorem do_fin {S : Sh} {c : Cm} (hr : rightC c = true) (hk : c.kind = 7) : doM S c = finM S c := by
 unfold doM
 rw [if_neg (by rw [hr]; decide), if_neg (by rw [hk]; decide), if_pos hk]
/-! ### who was finished -/
theorem fin_over {S : Sh} {c : Cm} (hk : c.kind = 7) (hc : (doM S c).1.code = 0) : overM (doM S c).2 c.tx c.att = true ∧ numM c = true := by
 have hr : rightC c = true := by
  cases hr : rightC c with
  | true => rfl
  | false =>
   unfold doM at hc
   rw [if_pos hr] at hc
   exact absurd hc (by show ¬ (1 : Int) = 0; decide)
 have hnum : numM c = true := by
  unfold rightC at hr
  rw [hk] at hr
  simpa using hr
 refine ⟨?_, hnum⟩
 rw [do_fin hr hk] at hc ⊢
 rw [finM_eq] at hc ⊢
 split
 ·assumption
 ·rename_i h1
  rw [if_neg h1] at hc
  split
  ·rename_i h2
   rw [if_pos h2] at hc
   exact absurd hc (by show ¬ (8 : Int) = 0; decide)
  ·split
   ·unfold overM
    rw [(endS_lives S c).2.1, kGet_put, if_pos rfl]
    simp
   ·unfold overM
    show (match kGet c.tx (kPut ltZ c.tx c.att S.dones) with | some d => decide (c.att ≤ d) | none => false) = true
    rw [kGet_put, if_pos rfl]
    simp
theorem over_stays {S : Sh} {c : Cm} (ho : overM S c.tx c.att = true) (hk : c.kind = 2 ∨ c.kind = 3 ∨ c.kind = 4) : (doM S c).2 = S ∧ ((doM S c).1.code = 1 ∨ (doM S c).1.code = 9) := by
 unfold doM
 split
 ·exact ⟨rfl, Or.inl rfl⟩
 ·rw [if_neg (by omega), if_neg (by omega), if_neg (by omega)]
  have hl : lateM S c = 9 := by
   unfold lateM
   rw [ho]
   rfl
  rw [hl, if_pos (by decide)]
  exact ⟨rfl, Or.inr rfl⟩
theorem over_fin {S : Sh} {c : Cm} (ho : overM S c.tx c.att = true) (hn : numM c = true) (hk : c.kind = 7) : doM S c = (codeR 0, S) := by
 have hr : rightC c = true := by
  unfold rightC
  rw [hk]
  simpa using hn
 rw [do_fin hr hk, finM_eq, if_pos ho]
end Go.Proofs.YtmifgnibalbgjaaGreat
/- What a shard that was made by commands has, beside: all that a whole must have, from which there is a shard. -/
namespace Go.Proofs.YtmifgnibalbgjaaGreat
open Go.RowKit set_option linter.unusedVariables false set_option linter.unusedSimpArgs false
/-! ### rows -/
def rowB (r : Rw) : Bool := rightM r.tx r.att r.heard && decide (0 ≤ r.stamp) && decide (r.stamp ≤ 1099511627776) && decide (1 ≤ r.state) && decide (r.state ≤ 3)
def RowsIn (l : List Rw) : Prop := ∀ r ∈ l, rowB r = true
/-! ### owners -/
/-! ### the last moment -/
def lastAt (l : List Ver) : Int := (l.getLast?.map fun v => v.at_).getD 0
def maxLast (C : Cl) : Int := C.foldl (fun m p => max m (lastAt p.2)) 0
/-! ### all that there is -/
structure FInv (S : Sh) : Prop where
 nov : NotOver S
 rows : RowsIn S.rows
 dones : ∀ p ∈ S.dones, (0 ≤ p.1 ∧ p.1 ≤ 1048576) ∧ 0 ≤ p.2 ∧ p.2 ≤ 1048576
 owners : S.lives.map (·.1) = riseI (ownsL S.locks)
 last : ∀ tx x, kGet tx S.lives = some x → x.last.tx = tx ∧ x.last.att = x.att ∧ (2 ≤ x.last.kind ∧ x.last.kind ≤ 4) ∧ rightC x.last = true
 mlast : maxLast S.cells = S.clast
section
variable {K : List ByteArray} {n : Nat} {S : Sh}
end
end Go.Proofs.YtmifgnibalbgjaaGreat
