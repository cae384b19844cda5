/- Who reads holds the key, and who writes holds it alone: the plain law. -/
import Derived.Test.YtmifgnibalbgjaaGreatZN1
import Derived.Test.YtmifgnibalbgjaaGreatZO1
import Derived.Test.YtmifgnibalbgjaaGreatZLAH
namespace Go.Proofs.YtmifgnibalbgjaaGreat
open Go.RowKit set_option linter.unusedVariables false set_option linter.unusedSimpArgs false
/-- what is seen of those who hold: does one hold, does it hold alone. -/
def seeH (n : Int) (tx : Int) (l : List Hd) : Bool × Bool := l.foldl (fun p x => if x.owner = tx then (true, x.mode == 2 && n == 1) else p) (false, false)
theorem seeH_snoc (n tx : Int) (l : List Hd) (x : Hd) : seeH n tx (l ++ [x]) = if x.owner = tx then (true, x.mode == 2 && n == 1) else seeH n tx l := by
  unfold seeH
  rw [List.foldl_append]
  rfl
theorem seeH_fold (n tx : Int) : ∀ (l : List Hd) (p : Bool × Bool), (∃ x ∈ l, x.owner = tx) → (l.foldl (fun p x => if x.owner = tx then (true, x.mode == 2 && n == 1) else p) p).1 = true
  | [], _, h => by obtain ⟨x, hx, _⟩ := h; cases hx
  | y :: r, p, h => by
    rw [List.foldl_cons]
    by_cases hr : ∃ x ∈ r, x.owner = tx
    · exact seeH_fold n tx r _ hr
    · obtain ⟨x, hx, e⟩ := h
      have hy : y.owner = tx := by
        rcases List.mem_cons.1 hx with rfl | hx
        · exact e
        · exact absurd ⟨x, hx, e⟩ hr
      rw [if_pos hy]
      have h2 : ∀ (r : List Hd) (q : Bool × Bool), (∀ x ∈ r, x.owner ≠ tx) → (r.foldl (fun p x => if x.owner = tx then (true, x.mode == 2 && n == 1) else p) q) = q := by
        intro r
        induction r with
        | nil => intro q _; rfl
        | cons z r ih =>
          intro q hz
          rw [List.foldl_cons, if_neg (hz z (List.mem_cons_self ..))]
          exact ih q fun x hx => hz x (List.mem_cons_of_mem _ hx)
      rw [h2 r _ fun x hx e => hr ⟨x, hx, e⟩]
theorem see_holds {L : List Li} {tx : Int} {k : ByteArray} (n : Int) (h : ¬ ofH (lineL L k).hs tx = 0) : (seeH n tx (lineL L k).hs).1 = true := by
  refine seeH_fold n tx _ _ ?_
  by_cases hx : ∃ x ∈ (lineL L k).hs, x.owner = tx
  · exact hx
  · exact absurd (ofH_none fun x hm e => hx ⟨x, hm, e⟩) h
theorem see_alone {L : List Li} (hL : LOk L) {tx : Int} {k : ByteArray} (h : ofH (lineL L k).hs tx = 2) : seeH ((lineL L k).hs.length : Int) tx (lineL L k).hs = (true, true) := by
  rw [sole_one hL h]
  simp [seeH]
theorem do_get {S : Sh} {c : Cm} (hk : c.kind = 3) (hc : (doM S c).1.code = 0) : ¬ ofH (lineL S.locks c.key).hs c.tx = 0 := by
  unfold doM at hc
  split at hc
  · exact absurd hc (by show ¬ (1 : Int) = 0; decide)
  · rw [if_neg (by rw [hk]; decide), if_neg (by rw [hk]; decide), if_neg (by rw [hk]; decide)] at hc
    split at hc
    · rename_i hl
      exact absurd hc hl
    · have h2 : ¬ c.kind = 2 := by rw [hk]; decide
      try rw [if_neg h2] at hc
      try rw [if_pos hk] at hc
      unfold getM at hc
      split at hc
      · exact absurd hc (by show ¬ (8 : Int) = 0; decide)
      · rename_i hn
        exact (not_or.1 hn).2
theorem do_put {S : Sh} {c : Cm} (hk : c.kind = 4) (hc : (doM S c).1.code = 0) : ofH (lineL S.locks c.key).hs c.tx = 2 := by
  unfold doM at hc
  split at hc
  · exact absurd hc (by show ¬ (1 : Int) = 0; decide)
  · rw [if_neg (by rw [hk]; decide), if_neg (by rw [hk]; decide), if_neg (by rw [hk]; decide)] at hc
    split at hc
    · rename_i hl
      exact absurd hc hl
    · have h2 : ¬ c.kind = 2 := by rw [hk]; decide
      have h3 : ¬ c.kind = 3 := by rw [hk]; decide
      try rw [if_neg h2] at hc
      try rw [if_neg h3] at hc
      unfold putM at hc
      split at hc
      · exact absurd hc (by show ¬ (8 : Int) = 0; decide)
      · rename_i hn
        exact Decidable.not_not.1 (not_or.1 hn).2
/-- just they are let. -/
theorem locked_let {K : List ByteArray} {n : Nat} {S : Sh} (h : SInv K n S) (c : Cm) (hc : (doM S c).1.code = 0) :
    (c.kind = 3 → (seeH ((lineL S.locks c.key).hs.length : Int) c.tx (lineL S.locks c.key).hs).1 = true) ∧ (c.kind = 4 → (seeH ((lineL S.locks c.key).hs.length : Int) c.tx (lineL S.locks c.key).hs).2 = true) :=
  ⟨fun hk => see_holds _ (do_get hk hc), fun hk => by rw [see_alone h.locks (do_put hk hc)]⟩
/-- what one wrote it holds alone. -/
theorem locked_lives {K : List ByteArray} {n : Nat} {S : Sh} (h : SInv K n S) {tx : Int} {x : Lv} (hx : (tx, x) ∈ S.lives) {w : Wr} (hw : w ∈ x.ws) : (lineL S.locks w.key).hs = [⟨tx, 2⟩] :=
  sole_one h.locks ((h.live tx x (kGet_of_mem ordZ h.lrise hx)).ws w hw).2
theorem sinv0 (K : List ByteArray) : SInv K 0 sh0 :=
  ⟨by decide, by decide, by decide, ⟨List.Pairwise.nil, fun p hp => (by cases hp), fun k => ⟨List.Pairwise.nil, Nat.le_refl _, fun v hv => (by cases hv), fun v hv => (by cases hv)⟩⟩, ⟨List.Pairwise.nil, fun l hl => (by cases hl)⟩, ⟨Nat.le_refl _, fun l hl => (by cases hl)⟩, ⟨List.Pairwise.nil, Nat.le_refl _⟩, List.Pairwise.nil, Nat.le_refl _, fun tx x hx => (by cases hx), List.Pairwise.nil, Nat.le_refl _, fun p hp => (by cases hp), fun p hp => (by cases hp)⟩
end Go.Proofs.YtmifgnibalbgjaaGreat
/- What is written is seen when it is committed, and never else: the plain law. -/
namespace Go.Proofs.YtmifgnibalbgjaaGreat
open Go.RowKit set_option linter.unusedVariables false set_option linter.unusedSimpArgs false
/-! ### what a row of versions tells -/
theorem posBy_all {α : Type} {q : α → Bool} : ∀ {l : List α}, (∀ x ∈ l, q x = true) → posBy q l = l.length
  | [], _ => rfl
  | x :: r, h => by
    have h1 := h x (List.mem_cons_self ..)
    have h2 := posBy_all (l := r) fun y hy => h y (List.mem_cons_of_mem _ hy)
    simp [posBy, h1, h2]
theorem posBy_snoc_not {α : Type} {q : α → Bool} {x : α} (hx : q x = false) : ∀ {r : List α}, posBy q (r ++ [x]) = posBy q r
  | [] => by simp [posBy, hx]
  | y :: r => by
    have := posBy_snoc_not (q := q) hx (r := r)
    simp only [List.cons_append, posBy, this]
theorem valM_last {r : List Ver} {x : Ver} {t : Int} (h : ∀ v ∈ r ++ [x], v.at_ ≤ t) : valM (r ++ [x]) t = (x.v, x.h) := by
  have h1 : upM (r ++ [x]) t = r.length + 1 := by
    unfold upM
    rw [posBy_all fun v hv => decide_eq_true (h v hv)]
    simp
  unfold valM
  rw [h1, if_neg (by omega)]
  simp
theorem valM_before {r : List Ver} {x : Ver} {t : Int} (h : t < x.at_) : valM (r ++ [x]) t = valM r t := by
  have h1 : upM (r ++ [x]) t = upM r t := posBy_snoc_not (by simpa using h)
  have h2 := upM_le r t
  unfold valM
  rw [h1]
  split
  · rfl
  · rw [List.getElem?_append_left (by omega)]
theorem valM_all {l : List Ver} {s t : Int} (hs : ∀ v ∈ l, v.at_ ≤ s) (ht : ∀ v ∈ l, v.at_ ≤ t) : valM l s = valM l t := by
  have h1 : upM l s = l.length := posBy_all fun v hv => decide_eq_true (hs v hv)
  have h2 : upM l t = l.length := posBy_all fun v hv => decide_eq_true (ht v hv)
  unfold valM
  rw [h1, h2]
theorem valM_cut {l : List Ver} {t s : Int} (h : s < t) : valM (cutV l t) s = valM l s := by
  rcases snoc_cases l with rfl | ⟨r, x, rfl⟩
  · rfl
  · rw [cutV_snoc]
    split
    · rw [valM_before (by omega)]
    · rfl
theorem valM_add_before {l : List Ver} {v : Ver} {s : Int} (h : s < v.at_) : valM (addV l v) s = valM l s := by
  unfold addV
  rw [valM_before h, valM_cut h]
theorem valM_add_last {l : List Ver} {v : Ver} {t : Int} (hs : SortV l) (hm : ∀ x ∈ l, x.at_ ≤ v.at_) (ht : v.at_ ≤ t) : valM (addV l v) t = (v.v, v.h) := by
  unfold addV
  refine valM_last fun x hx => ?_
  rcases List.mem_append.1 hx with hx | hx
  · have := (cutV_lt hs hm x hx).2
    omega
  · simp at hx
    rw [hx]
    exact ht
/-! ### who lives isn't over -/
def NotOver (S : Sh) : Prop := ∀ tx x, kGet tx S.lives = some x → overM S tx x.att = false
theorem over_iff {S : Sh} {tx att : Int} : overM S tx att = false ↔ ∀ d, kGet tx S.dones = some d → d < att := by
  unfold overM
  cases h : kGet tx S.dones with
  | none => simp
  | some d => simp
theorem late_zero {S : Sh} {c : Cm} (h : ¬ ¬ lateM S c = 0) : overM S c.tx c.att = false ∧ (livesM S c.tx = true → (liveM S c.tx).att = c.att) := by
  have h := Decidable.not_not.1 h
  unfold lateM at h
  split at h
  · exact absurd h (by decide)
  · rename_i h1
    split at h
    · exact absurd h (by decide)
    · rename_i h2
      simp at h1 h2
      refine ⟨h1.1, fun hl => ?_⟩
      have a1 := h1.2 hl
      have a2 := h2 hl
      omega
theorem livesM_iff {S : Sh} {tx : Int} {x : Lv} (h : kGet tx S.lives = some x) : livesM S tx = true ∧ liveM S tx = x := by
  unfold livesM liveM
  rw [h]
  exact ⟨rfl, rfl⟩
theorem livesM_some {S : Sh} {tx : Int} (h : livesM S tx = true) : kGet tx S.lives = some (liveM S tx) := by
  unfold livesM at h
  unfold liveM
  cases hg : kGet tx S.lives with
  | none => rw [hg] at h; cases h
  | some x => rfl
theorem NotOver.setLive {S S' : Sh} (h : NotOver S) {tx : Int} {x : Lv} (hx : overM S tx x.att = false) (e1 : S'.lives = kPut ltZ tx x S.lives) (e2 : S'.dones = S.dones) : NotOver S' := by
  intro t y hy
  have ho : ∀ t a, overM S' t a = overM S t a := fun t a => by unfold overM; rw [e2]
  rw [ho]
  rw [e1, kGet_put] at hy
  split at hy
  · rename_i e
    cases hy
    rw [e]
    exact hx
  · exact h t y hy
theorem NotOver.same {S S' : Sh} (h : NotOver S) (e1 : S'.lives = S.lives) (e2 : S'.dones = S.dones) : NotOver S' := by
  intro t y hy
  have ho : ∀ t a, overM S' t a = overM S t a := fun t a => by unfold overM; rw [e2]
  rw [ho]
  rw [e1] at hy
  exact h t y hy
theorem tab_same (S : Sh) (c : Cm) : (tabM S c).2.lives = S.lives ∧ (tabM S c).2.dones = S.dones ∧ (tabM S c).2.cells = S.cells ∧ (tabM S c).2.moment = S.moment ∧ (tabM S c).2.locks = S.locks ∧ (tabM S c).2.clock = S.clock ∧ (tabM S c).2.clast = S.clast := by
  unfold tabM
  split
  · exact ⟨rfl, rfl, rfl, rfl, rfl, rfl, rfl⟩
  · split
    · exact ⟨rfl, rfl, rfl, rfl, rfl, rfl, rfl⟩
    · split <;> exact ⟨rfl, rfl, rfl, rfl, rfl, rfl, rfl⟩
/-- a commit's shard: what is done is the same whether it writes or not. -/
def endS (S : Sh) (c : Cm) : Sh := goneS (if isW c (liveM S c.tx).ws then flushS (doneS S c) (liveM S c.tx).ws else doneS S c) c.tx
theorem endS_lives (S : Sh) (c : Cm) : (endS S c).lives = kDel c.tx S.lives ∧ (endS S c).dones = kPut ltZ c.tx c.att S.dones ∧ (endS S c).locks = (leaveL S.locks c.tx).2 ∧ (endS S c).rows = S.rows ∧ (endS S c).clock = S.clock := by
  unfold endS
  split <;> exact ⟨rfl, rfl, rfl, rfl, rfl⟩
theorem finM_eq (S : Sh) (c : Cm) : finM S c = if overM S c.tx c.att then (codeR 0, S)
  else if livesM S c.tx && decide ((liveM S c.tx).att < c.att) then (codeR 8, S)
  else if livesM S c.tx && decide ((liveM S c.tx).att = c.att) then (codeR 0, endS S c)
  else (codeR 0, doneS S c) := rfl
theorem NotOver.fin {S : Sh} (h : NotOver S) (c : Cm) : NotOver (finM S c).2 := by
  rw [finM_eq]
  split
  · exact h
  · split
    · exact h
    · rename_i h1 h2
      split
      · intro t y hy
        have e1 := (endS_lives S c).1
        have e2 := (endS_lives S c).2.1
        rw [e1, kGet_del] at hy
        split at hy
        · cases hy
        · rename_i e
          rw [over_iff, e2]
          intro d hd
          rw [kGet_put, if_neg e] at hd
          exact over_iff.1 (h t y hy) d hd
      · rename_i h3
        intro t y hy
        have hy' : kGet t S.lives = some y := hy
        rw [over_iff]
        intro d hd
        have hd' : kGet t (kPut ltZ c.tx c.att S.dones) = some d := hd
        rw [kGet_put] at hd'
        split at hd'
        · rename_i e
          subst e
          cases hd'
          obtain ⟨a1, a2⟩ := livesM_iff hy'
          rw [a1, a2] at h2 h3
          simp at h2 h3
          omega
        · exact over_iff.1 (h t y hy') d hd'
theorem NotOver.step {S : Sh} (h : NotOver S) (c : Cm) : NotOver (doM S c).2 := by
  unfold doM
  split
  · exact h
  · split
    · exact h.same rfl rfl
    · split
      · exact h.fin c
      · split
        · exact h.same (tab_same S c).1 (tab_same S c).2.1
        · split
          · exact h
          · rename_i hl
            obtain ⟨a1, a2⟩ := late_zero hl
            have hov : livesM S c.tx = true → overM S c.tx (liveM S c.tx).att = false := fun hl => by rw [a2 hl]; exact a1
            split
            · exact h.setLive (tx := c.tx) (x := ⟨c.att, c, (liveM S c.tx).ws⟩) a1 rfl rfl
            · split
              · unfold getM
                split
                · exact h
                · rename_i hn
                  have hb : livesM S c.tx = true := by simpa using (not_or.1 hn).1
                  split <;> exact h.setLive (tx := c.tx) (x := ⟨(liveM S c.tx).att, c, (liveM S c.tx).ws⟩) (hov hb) rfl rfl
              · unfold putM
                split
                · exact h
                · rename_i hn
                  have hb : livesM S c.tx = true := by simpa using (not_or.1 hn).1
                  exact h.setLive (tx := c.tx) (x := ⟨(liveM S c.tx).att, c, putW (liveM S c.tx).ws (wrOf c)⟩) (hov hb) rfl rfl
theorem notOver0 : NotOver sh0 := fun tx x h => by cases h
/-! ### what a command does to the cells -/
/-- what a command's transaction wrote, if this attempt lives. -/
def hidW (S : Sh) (c : Cm) : Bool × List Wr := if livesM S c.tx && decide ((liveM S c.tx).att = c.att) then (true, (liveM S c.tx).ws) else (false, [])
/-- is it a commit? -/
def comB (S : Sh) (c : Cm) : Bool := c.kind == 7 && c.yes && (hidW S c).1 && (doM S c).1.code == 0
theorem do_fin {S : Sh} {c : Cm} (hr : rightC c = true) (hk : c.kind = 7) : doM S c = finM S c := by
  unfold doM
  rw [if_neg (by rw [hr]; decide), if_neg (by rw [hk]; decide), if_pos hk]
/-- no commit of something: the cells stay. -/
theorem cells_stay {S : Sh} (hN : NotOver S) (c : Cm) (h : comB S c = false ∨ (hidW S c).2 = []) : (doM S c).2.cells = S.cells ∧ (doM S c).2.moment = S.moment := by
  by_cases hr : rightC c = false
  · unfold doM
    rw [if_pos hr]
    exact ⟨rfl, rfl⟩
  · have hr' : rightC c = true := by simpa using hr
    by_cases hk : c.kind = 7
    · have hd := do_fin (S := S) hr' hk
      unfold comB at h
      rw [hd] at h ⊢
      rw [finM_eq] at h ⊢
      split
      · exact ⟨rfl, rfl⟩
      · rename_i h1
        split
        · exact ⟨rfl, rfl⟩
        · rename_i h2
          split
          · rename_i h3
            have hw : hidW S c = (true, (liveM S c.tx).ws) := by unfold hidW; rw [if_pos h3]
            rw [if_neg h1, if_neg h2, if_pos h3, hw, hk] at h
            have h4 : isW c (liveM S c.tx).ws = false := by
              unfold isW
              rcases h with h | h
              · have : c.yes = false := by
                  cases hy : c.yes with
                  | false => rfl
                  | true => rw [hy] at h; exact absurd (show true = false from h) (by decide)
                rw [this]
                rfl
              · have h' : (liveM S c.tx).ws = [] := h
                rw [h']
                simp
            unfold endS
            rw [if_neg (by rw [h4]; decide)]
            exact ⟨rfl, rfl⟩
          · exact ⟨rfl, rfl⟩
    · unfold doM
      rw [if_neg hr]
      split
      · exact ⟨rfl, rfl⟩
      · try rw [if_neg hk]
        split
        · exact ⟨(tab_same S c).2.2.1, (tab_same S c).2.2.2.1⟩
        · split
          · exact ⟨rfl, rfl⟩
          · split
            · exact ⟨rfl, rfl⟩
            · split
              · unfold getM
                split
                · exact ⟨rfl, rfl⟩
                · split <;> exact ⟨rfl, rfl⟩
              · unfold putM
                split <;> exact ⟨rfl, rfl⟩
/-- a commit: all of it is put at the next moment. -/
theorem cells_commit {S : Sh} (hN : NotOver S) (c : Cm) (h : comB S c = true) (hne : ¬ (hidW S c).2 = []) :
    (hidW S c).2 = (liveM S c.tx).ws ∧ (doM S c).2.cells = (flushC (momS S) (liveM S c.tx).ws S.cells S.clast).1 ∧ (doM S c).2.moment = momS S := by
  unfold comB at h
  simp only [Bool.and_eq_true, beq_iff_eq] at h
  obtain ⟨⟨⟨hk, hy⟩, hw⟩, hc⟩ := h
  have h3 : (livesM S c.tx && decide ((liveM S c.tx).att = c.att)) = true := by
    cases hb : (livesM S c.tx && decide ((liveM S c.tx).att = c.att)) with
    | true => rfl
    | false => unfold hidW at hw; rw [hb, if_neg (by decide)] at hw; exact absurd (show false = true from hw) (by decide)
  have hw2 : hidW S c = (true, (liveM S c.tx).ws) := by unfold hidW; rw [if_pos h3]
  rw [hw2] at hne ⊢
  have hne' : ¬ (liveM S c.tx).ws = [] := hne
  have hr : rightC c = true := by
    cases hr : rightC c with
    | true => rfl
    | false =>
      unfold doM at hc
      rw [if_pos hr] at hc
      exact absurd hc (by show ¬ (1 : Int) = 0; decide)
  simp only [Bool.and_eq_true, decide_eq_true_eq] at h3
  have h1 : overM S c.tx c.att = false := by
    have := hN c.tx _ (livesM_some h3.1)
    rw [h3.2] at this
    exact this
  have h4 : isW c (liveM S c.tx).ws = true := by
    unfold isW
    rw [hy]
    simpa [List.length_pos_iff] using hne'
  rw [do_fin hr hk, finM_eq, if_neg (by rw [h1]; decide), if_neg (by simp; intro _; omega), if_pos (by simp [h3.1, h3.2])]
  unfold endS
  rw [if_pos h4]
  exact ⟨rfl, rfl, rfl⟩
/-- each key's value behind a command. -/
theorem hidden_val {K : List ByteArray} {n : Nat} {S : Sh} (hS : SInv K n S) (hN : NotOver S) (c : Cm) (hm : S.moment < 1099511627776) (k : ByteArray) :
    (∀ x ∈ (hidW S c).2, comB S c = true → x.key = k → valM (versM (doM S c).2.cells k) 1099511627776 = (x.v, x.h)) ∧
    ((∀ x ∈ (hidW S c).2, ¬ (comB S c = true ∧ x.key = k)) → valM (versM (doM S c).2.cells k) 1099511627776 = valM (versM S.cells k) 1099511627776) ∧
    valM (versM (doM S c).2.cells k) S.moment = valM (versM S.cells k) 1099511627776 := by
  have hl := hS.last
  have hmo := hS.moment
  have hv := hS.cells.vers k
  have hle : ∀ v ∈ versM S.cells k, v.at_ ≤ S.moment := fun v hv' => Int.le_trans (hv.mom v hv').2 hl.2
  have hle2 : ∀ v ∈ versM S.cells k, v.at_ ≤ 1099511627776 := fun v hv' => Int.le_trans (hle v hv') hmo.2
  by_cases hs : comB S c = false ∨ (hidW S c).2 = []
  · obtain ⟨e1, e2⟩ := cells_stay hN c hs
    rw [e1]
    refine ⟨fun x hx hc => ?_, fun _ => rfl, valM_all hle hle2⟩
    rcases hs with hs | hs
    · rw [hs] at hc; cases hc
    · rw [hs] at hx; cases hx
  · obtain ⟨g1, g2⟩ := not_or.1 hs
    have hcb : comB S c = true := by simpa using g1
    obtain ⟨e0, e1, e2⟩ := cells_commit hN c hcb g2
    have hL := hS.ofLive c.tx
    obtain ⟨m1, m2⟩ := momS_ok hS
    have hms : momS S = S.moment + 1 := by unfold momS; omega
    obtain ⟨-, -, -, f4, f5⟩ := flush_ok m1 (liveM S c.tx).ws S.cells S.clast hL.sort (fun w hw => (hL.ws w hw).1) hS.cells.rise hS.cells.keys (by omega)
    rw [e1, e0]
    refine ⟨fun x hx _ hk => ?_, fun hno => ?_, ?_⟩
    · subst hk
      rw [f4 x hx]
      exact valM_add_last hv.sort (fun v hv' => by have := hle v hv'; simp only; omega) (by simp only; omega)
    · rw [f5 k fun w hw e => hno w hw ⟨hcb, e⟩]
    · by_cases hk : ∃ w ∈ (liveM S c.tx).ws, w.key = k
      · obtain ⟨w, hw, rfl⟩ := hk
        rw [f4 w hw, valM_add_before (by simp only; omega)]
        exact valM_all hle hle2
      · rw [f5 k fun w hw e => hk ⟨w, hw, e⟩]
        exact valM_all hle hle2
/-- the moment grows just then. -/
theorem hidden_moment {K : List ByteArray} {n : Nat} {S : Sh} (hS : SInv K n S) (hN : NotOver S) (c : Cm) (hm : S.moment < 1099511627776) :
    (S.moment < (doM S c).2.moment ↔ (comB S c = true ∧ ¬ (hidW S c).2 = [])) ∧ (doM S c).2.moment ≤ S.moment + 1 := by
  by_cases hs : comB S c = false ∨ (hidW S c).2 = []
  · obtain ⟨e1, e2⟩ := cells_stay hN c hs
    rw [e2]
    refine ⟨⟨fun h => absurd h (Int.lt_irrefl _), fun h => ?_⟩, by omega⟩
    rcases hs with hs | hs
    · rw [hs] at h; cases h.1
    · exact absurd hs h.2
  · obtain ⟨g1, g2⟩ := not_or.1 hs
    have hcb : comB S c = true := by simpa using g1
    obtain ⟨-, -, e2⟩ := cells_commit hN c hcb g2
    rw [e2]
    have hms : momS S = S.moment + 1 := by unfold momS; omega
    rw [hms]
    exact ⟨⟨fun _ => ⟨hcb, g2⟩, fun _ => by omega⟩, Int.le_refl _⟩
/-! ### who was finished -/
theorem fin_over {S : Sh} {c : Cm} (hk : c.kind = 7) (hc : (doM S c).1.code = 0) : overM (doM S c).2 c.tx c.att = true ∧ numM c = true := by
  have hr : rightC c = true := by
    cases hr : rightC c with
    | true => rfl
    | false =>
      unfold doM at hc
      rw [if_pos hr] at hc
      exact absurd hc (by show ¬ (1 : Int) = 0; decide)
  have hnum : numM c = true := by
    unfold rightC at hr
    rw [hk] at hr
    simpa using hr
  refine ⟨?_, hnum⟩
  rw [do_fin hr hk] at hc ⊢
  rw [finM_eq] at hc ⊢
  split
  · assumption
  · rename_i h1
    rw [if_neg h1] at hc
    split
    · rename_i h2
      rw [if_pos h2] at hc
      exact absurd hc (by show ¬ (8 : Int) = 0; decide)
    · split
      · unfold overM
        rw [(endS_lives S c).2.1, kGet_put, if_pos rfl]
        simp
      · unfold overM
        show (match kGet c.tx (kPut ltZ c.tx c.att S.dones) with | some d => decide (c.att ≤ d) | none => false) = true
        rw [kGet_put, if_pos rfl]
        simp
theorem over_stays {S : Sh} {c : Cm} (ho : overM S c.tx c.att = true) (hk : c.kind = 2 ∨ c.kind = 3 ∨ c.kind = 4) : (doM S c).2 = S ∧ ((doM S c).1.code = 1 ∨ (doM S c).1.code = 9) := by
  unfold doM
  split
  · exact ⟨rfl, Or.inl rfl⟩
  · rw [if_neg (by omega), if_neg (by omega), if_neg (by omega)]
    have hl : lateM S c = 9 := by
      unfold lateM
      rw [ho]
      rfl
    rw [hl, if_pos (by decide)]
    exact ⟨rfl, Or.inr rfl⟩
theorem over_fin {S : Sh} {c : Cm} (ho : overM S c.tx c.att = true) (hn : numM c = true) (hk : c.kind = 7) : doM S c = (codeR 0, S) := by
  have hr : rightC c = true := by
    unfold rightC
    rw [hk]
    simpa using hn
  rw [do_fin hr hk, finM_eq, if_pos ho]
end Go.Proofs.YtmifgnibalbgjaaGreat
/- What a shard that was made by commands has, beside: all that a whole must have, from which there is a shard. -/
namespace Go.Proofs.YtmifgnibalbgjaaGreat
open Go.RowKit set_option linter.unusedVariables false set_option linter.unusedSimpArgs false
/-! ### rows -/
def rowB (r : Rw) : Bool := rightM r.tx r.att r.heard && decide (0 ≤ r.stamp) && decide (r.stamp ≤ 1099511627776) && decide (1 ≤ r.state) && decide (r.state ≤ 3)
def RowsIn (l : List Rw) : Prop := ∀ r ∈ l, rowB r = true
theorem RowsIn.set {l : List Rw} (h : RowsIn l) {r : Rw} (hr : rowB r = true) (i : Nat) : RowsIn (l.set i r) := fun x hx => by
  rcases List.mem_or_eq_of_mem_set hx with hx | hx
  · exact h x hx
  · rw [hx]; exact hr
theorem RowsIn.put {l : List Rw} (h : RowsIn l) (hl : Rises l) {r : Rw} (hr : rowB r = true) : RowsIn (putRw l r).2 := by
  unfold putRw
  split
  · rename_i hh
    obtain ⟨hp, e⟩ := hasR_get l r.tx hl hh
    split
    · refine h.set ?_ _
      split
      · rw [rowR_get hp]
        have h1 := h _ (List.getElem_mem hp)
        unfold rowB at h1 hr ⊢
        simp only [Bool.and_eq_true] at h1 hr ⊢
        exact ⟨⟨⟨⟨hr.1.1.1.1, h1.1.1.1.2⟩, h1.1.1.2⟩, hr.1.2⟩, hr.2⟩
      · exact hr
    · exact h
  · intro x hx
    rcases List.mem_append.1 hx with hx | hx
    · exact h x (List.mem_of_mem_take hx)
    · rcases List.mem_cons.1 hx with rfl | hx
      · exact hr
      · exact h x (List.mem_of_mem_drop hx)
theorem RowsIn.setS {l : List Rw} (h : RowsIn l) (hl : Rises l) {tx : Int} (hh : hasR l tx = true) {s : Int} (hs : 1 ≤ s ∧ s ≤ 3) : RowsIn (setRw l tx { rowR l tx with state := s }) := by
  obtain ⟨hp, e⟩ := hasR_get l tx hl hh
  refine h.set ?_ _
  rw [rowR_get hp]
  have h1 := h _ (List.getElem_mem hp)
  unfold rowB at h1 ⊢
  simp only [Bool.and_eq_true, decide_eq_true_eq] at h1 ⊢
  exact ⟨⟨h1.1.1, hs.1⟩, hs.2⟩
theorem RowsIn.setH {l : List Rw} (h : RowsIn l) (hl : Rises l) {tx : Int} (hh : hasR l tx = true) {now : Int} (hs : 0 ≤ now ∧ now ≤ 1099511627776) : RowsIn (setRw l tx { rowR l tx with heard := max (rowR l tx).heard now }) := by
  obtain ⟨hp, e⟩ := hasR_get l tx hl hh
  refine h.set ?_ _
  rw [rowR_get hp]
  have h1 := h _ (List.getElem_mem hp)
  unfold rowB rightM at h1 ⊢
  simp only [Bool.and_eq_true, decide_eq_true_eq] at h1 ⊢
  omega
theorem rows_tab {S : Sh} (hr : Rises S.rows) (h : RowsIn S.rows) (hc : 0 ≤ S.clock ∧ S.clock ≤ 1099511627776) (c : Cm) : RowsIn (tabM S c).2.rows := by
  unfold tabM
  split
  · show RowsIn (openM S.rows c.tx c.att c.stamp S.clock).2
    unfold openM
    split
    · exact h
    · rename_i hn
      obtain ⟨n1, n2⟩ := not_or.1 hn
      split
      · refine h.put hr ?_
        unfold rowB
        have n3 : rightM c.tx c.att S.clock = true := by simpa using n1
        rw [n3]
        simp
        omega
      · split <;> exact h
  · split
    · show RowsIn (decideM S.rows c.tx c.att).2
      unfold decideM
      split
      · exact h
      · split
        · exact h
        · rename_i hh
          split
          · exact h
          · split
            · exact h.setS hr (how_has hh) (by decide)
            · split <;> exact h
    · split
      · show RowsIn (killM S.rows c.tx c.att S.clock).2
        unfold killM
        split
        · exact h
        · rename_i hn
          split
          · refine h.put hr ?_
            unfold rowB
            have n3 : rightM c.tx c.att S.clock = true := by simpa using hn
            rw [n3]
            rfl
          · rename_i hh
            split
            · exact h
            · split
              · exact h.setS hr (how_has hh) (by decide)
              · split <;> exact h
      · show RowsIn (beatM S.rows c.tx c.att S.clock).2
        unfold beatM
        split
        · exact h
        · split
          · exact h
          · rename_i hh
            split
            · exact h
            · split
              · exact h.setH hr (how_has hh) hc
              · exact h
/-! ### owners -/
theorem map_kPut (tx : Int) {β : Type} (x : β) (L : List (Int × β)) (hL : L.Pairwise fun p q => ltZ p.1 q.1 = true) {o : List Int} (ho : L.map (·.1) = o) {o' : List Int} (hs : o'.Pairwise (· < ·)) (hm : ∀ y, y ∈ o' ↔ y = tx ∨ y ∈ o) : (kPut ltZ tx x L).map (·.1) = o' := by
  refine strict_ext ?_ hs fun y => ?_
  · rw [List.pairwise_map]
    exact (kRise_put ordZ (v := x) hL).imp fun {a b} h => by simpa [ltZ] using h
  · rw [hm y, ← ho]
    constructor
    · intro h
      obtain ⟨p, hp, rfl⟩ := List.mem_map.1 h
      rcases kPut_mem hp with rfl | hp
      · exact Or.inl rfl
      · exact Or.inr (List.mem_map.2 ⟨p, hp, rfl⟩)
    · intro h
      by_cases e : y = tx
      · subst e
        have := kGet_put (lt := ltZ) y y x L
        rw [if_pos rfl] at this
        exact List.mem_map.2 ⟨_, kGet_mem this, rfl⟩
      · rcases h with h | h
        · exact absurd h e
        · obtain ⟨p, hp, rfl⟩ := List.mem_map.1 h
          have h1 := kGet_of_mem ordZ hL (x := p.1) (v := p.2) hp
          have h2 := kGet_put (lt := ltZ) tx p.1 x L
          rw [if_neg e, h1] at h2
          exact List.mem_map.2 ⟨_, kGet_mem h2, rfl⟩
theorem map_kDel (tx : Int) {β : Type} (L : List (Int × β)) (hL : L.Pairwise fun p q => ltZ p.1 q.1 = true) {o : List Int} (ho : L.map (·.1) = o) {o' : List Int} (hs : o'.Pairwise (· < ·)) (hm : ∀ y, y ∈ o' ↔ y ∈ o ∧ y ≠ tx) : (kDel tx L).map (·.1) = o' := by
  refine strict_ext ?_ hs fun y => ?_
  · rw [List.pairwise_map]
    exact (kRise_del (x := tx) hL).imp fun {a b} h => by simpa [ltZ] using h
  · rw [hm y, ← ho]
    constructor
    · intro h
      obtain ⟨p, hp, rfl⟩ := List.mem_map.1 h
      obtain ⟨h1, h2⟩ := kDel_mem.1 hp
      exact ⟨List.mem_map.2 ⟨p, h1, rfl⟩, h2⟩
    · rintro ⟨h, e⟩
      obtain ⟨p, hp, rfl⟩ := List.mem_map.1 h
      exact List.mem_map.2 ⟨p, kDel_mem.2 ⟨hp, e⟩, rfl⟩
theorem owns_askLi {l : Li} (h : LiW l.hs l.qs) {w : Hd} (hm : modeM w.mode = true) (x : Int) : x ∈ ownsLi (askLi l w).2 ↔ x ∈ ownsLi l ∨ x = w.owner := by
  have hw := mode_pos hm
  unfold askLi
  split
  · rename_i h1
    obtain ⟨y, hy, e, -⟩ := ofH_mem (l := l.hs) (o := w.owner) (by omega)
    constructor
    · exact Or.inl
    · rintro (h | rfl)
      · exact h
      · exact owns_li.2 (Or.inl ⟨y, hy, e⟩)
  · split
    · rename_i h1 h2
      obtain ⟨y, hy, e, -⟩ := ofH_mem h2
      constructor
      · exact Or.inl
      · rintro (h | rfl)
        · exact h
        · exact owns_li.2 (Or.inr ⟨y, hy, e⟩)
    · obtain ⟨q, hq⟩ : ∃ q, q = (if 0 < ofH l.hs w.owner then l.qs.take (upsH l.hs l.qs) ++ w :: l.qs.drop (upsH l.hs l.qs) else l.qs ++ [w]) := ⟨_, rfl⟩
      have hqm : ∀ y, y ∈ q ↔ y = w ∨ y ∈ l.qs := fun y => by
        rw [hq]
        split
        · constructor
          · intro hy
            rcases List.mem_append.1 hy with hy | hy
            · exact Or.inr (List.mem_of_mem_take hy)
            · rcases List.mem_cons.1 hy with hy | hy
              · exact Or.inl hy
              · exact Or.inr (List.mem_of_mem_drop hy)
          · rintro (rfl | hy)
            · simp
            · rw [← List.take_append_drop (upsH l.hs l.qs) l.qs] at hy
              rcases List.mem_append.1 hy with hy | hy
              · exact List.mem_append_left _ hy
              · exact List.mem_append_right _ (List.mem_cons_of_mem _ hy)
        · simp [or_comm]
      show x ∈ ownsLi ⟨l.key, (letH l.hs (if 0 < ofH l.hs w.owner then l.qs.take (upsH l.hs l.qs) ++ w :: l.qs.drop (upsH l.hs l.qs) else l.qs ++ [w])).2.1, (letH l.hs (if 0 < ofH l.hs w.owner then l.qs.take (upsH l.hs l.qs) ++ w :: l.qs.drop (upsH l.hs l.qs) else l.qs ++ [w])).2.2⟩ ↔ _
      rw [← hq, owns_li, owns_li]
      obtain ⟨p, h1, -, h3⟩ := letH_split q l.hs
      simp only
      rw [h3, foldl_put_owner p _ h.sh x]
      have hq2 : ∀ y, y ∈ q ↔ y ∈ p ∨ y ∈ (letH l.hs q).2.2 := fun y => by
        conv => lhs; rw [h1]
        exact List.mem_append
      generalize (letH l.hs q).2.2 = rest at *
      constructor
      · rintro ((⟨y, hy, e⟩ | ⟨y, hy, e⟩) | ⟨y, hy, e⟩)
        · rcases (hqm y).1 ((hq2 y).2 (Or.inl hy)) with rfl | hy'
          · exact Or.inr e.symm
          · exact Or.inl (Or.inr ⟨y, hy', e⟩)
        · exact Or.inl (Or.inl ⟨y, hy, e⟩)
        · rcases (hqm y).1 ((hq2 y).2 (Or.inr hy)) with rfl | hy'
          · exact Or.inr e.symm
          · exact Or.inl (Or.inr ⟨y, hy', e⟩)
      · have hin : ∀ y, y ∈ q → y.owner = x → ((∃ z ∈ p, z.owner = x) ∨ ∃ z ∈ l.hs, z.owner = x) ∨ ∃ z ∈ rest, z.owner = x := fun y hy e => by
          rcases (hq2 y).1 hy with hy | hy
          · exact Or.inl (Or.inl ⟨y, hy, e⟩)
          · exact Or.inr ⟨y, hy, e⟩
        rintro ((⟨y, hy, e⟩ | ⟨y, hy, e⟩) | e)
        · exact Or.inl (Or.inr ⟨y, hy, e⟩)
        · exact hin y ((hqm y).2 (Or.inr hy)) e
        · exact hin w ((hqm w).2 (Or.inl rfl)) e.symm
theorem owns_ask {L : List Li} (h : LOk L) {o : Int} {k : ByteArray} {m : Int} (h0 : 0 ≤ o) (hk : k.size ≤ 16) (hm : modeM m = true) (x : Int) : x ∈ ownsL (askL L o k m).2 ↔ x = o ∨ x ∈ ownsL L := by
  have hg : ¬ (o < 0 ∨ 16 < k.size ∨ modeM m = false) := by rw [hm]; simp; omega
  unfold askL
  rw [if_neg hg]
  split
  · rename_i hh
    obtain ⟨hl, e⟩ := (hasL_iff h.s k).1 hh
    simp only [List.getElem?_eq_getElem hl, Option.getD_some]
    have hz := owns_askLi (h.ok _ (List.getElem_mem hl)).w (w := ⟨o, m⟩) hm x
    have e1 : L.set (posL L k) (askLi L[posL L k] ⟨o, m⟩).2 = L.take (posL L k) ++ (askLi L[posL L k] ⟨o, m⟩).2 :: L.drop (posL L k + 1) := by
      rw [List.set_eq_take_append_cons_drop, if_pos hl]
    have e2 : L = L.take (posL L k) ++ L[posL L k] :: L.drop (posL L k + 1) := by
      rw [← List.drop_eq_getElem_cons hl, List.take_append_drop]
    rw [e1]
    conv => rhs; rw [e2]
    unfold ownsL
    rw [List.flatMap_append, List.flatMap_append, List.flatMap_cons, List.flatMap_cons, List.mem_append, List.mem_append, List.mem_append, List.mem_append, hz]
    constructor
    · rintro (h | (h | h) | h)
      · exact Or.inr (Or.inl h)
      · exact Or.inr (Or.inr (Or.inl h))
      · exact Or.inl h
      · exact Or.inr (Or.inr (Or.inr h))
    · rintro (h | h | h | h)
      · exact Or.inr (Or.inl (Or.inr h))
      · exact Or.inl h
      · exact Or.inr (Or.inl (Or.inl h))
      · exact Or.inr (Or.inr h)
  · have e2 : L = L.take (posL L k) ++ L.drop (posL L k) := (List.take_append_drop _ _).symm
    conv => rhs; rw [e2]
    unfold ownsL
    simp only []
    rw [List.flatMap_append, List.flatMap_append, List.flatMap_cons, List.mem_append, List.mem_append, List.mem_append]
    have e3 : x ∈ ownsLi ⟨k, [⟨o, m⟩], []⟩ ↔ x = o := by unfold ownsLi; simp
    rw [e3]
    constructor
    · rintro (h | h | h)
      · exact Or.inr (Or.inl h)
      · exact Or.inl h
      · exact Or.inr (Or.inr h)
    · rintro (h | h | h)
      · exact Or.inr (Or.inl h)
      · exact Or.inl h
      · exact Or.inr (Or.inr h)
/-! ### the last moment -/
def lastAt (l : List Ver) : Int := (l.getLast?.map fun v => v.at_).getD 0
def maxLast (C : Cl) : Int := C.foldl (fun m p => max m (lastAt p.2)) 0
theorem maxLast_fold : ∀ (C : Cl) (m : Int), m ≤ C.foldl (fun m p => max m (lastAt p.2)) m ∧ (∀ p ∈ C, lastAt p.2 ≤ C.foldl (fun m p => max m (lastAt p.2)) m) ∧ (C.foldl (fun m p => max m (lastAt p.2)) m = m ∨ ∃ p ∈ C, C.foldl (fun m p => max m (lastAt p.2)) m = lastAt p.2)
  | [], m => ⟨Int.le_refl _, fun p hp => absurd hp (by simp), Or.inl rfl⟩
  | x :: r, m => by
    rw [List.foldl_cons]
    obtain ⟨h1, h2, h3⟩ := maxLast_fold r (max m (lastAt x.2))
    refine ⟨by omega, fun p hp => ?_, ?_⟩
    · rcases List.mem_cons.1 hp with rfl | hp
      · omega
      · exact h2 p hp
    · rcases h3 with h3 | ⟨p, hp, h3⟩
      · rw [h3]
        rcases Int.le_total m (lastAt x.2) with h | h
        · exact Or.inr ⟨x, List.mem_cons_self .., by omega⟩
        · exact Or.inl (by omega)
      · exact Or.inr ⟨p, List.mem_cons_of_mem _ hp, h3⟩
theorem maxLast_eq {C : Cl} {t : Int} (h1 : ∀ p ∈ C, lastAt p.2 ≤ t) (h2 : (t = 0) ∨ ∃ p ∈ C, lastAt p.2 = t) (h0 : 0 ≤ t) : maxLast C = t := by
  obtain ⟨a1, a2, a3⟩ := maxLast_fold C 0
  unfold maxLast
  have b1 : t ≤ C.foldl (fun m p => max m (lastAt p.2)) 0 := by
    rcases h2 with h2 | ⟨p, hp, h2⟩
    · omega
    · have := a2 p hp; omega
  rcases a3 with a3 | ⟨p, hp, a3⟩
  · omega
  · have := h1 p hp; omega
theorem maxLast_le {C : Cl} : ∀ p ∈ C, lastAt p.2 ≤ maxLast C := (maxLast_fold C 0).2.1
theorem lastAt_add (l : List Ver) (v : Ver) : lastAt (addV l v) = v.at_ := by
  unfold lastAt addV
  simp
theorem maxLast_put {C : Cl} {k : ByteArray} {l : List Ver} {v : Ver} (h : maxLast C ≤ v.at_) (h0 : 0 ≤ v.at_) : maxLast (kPut ltK k (addV l v) C) = v.at_ := by
  refine maxLast_eq (fun p hp => ?_) (Or.inr ?_) h0
  · rcases kPut_mem hp with rfl | hp
    · show lastAt (addV l v) ≤ v.at_
      rw [lastAt_add]
      exact Int.le_refl _
    · exact Int.le_trans (maxLast_le p hp) h
  · have h1 := kGet_put (lt := ltK) k k (addV l v) C
    rw [if_pos rfl] at h1
    exact ⟨_, kGet_mem h1, lastAt_add l v⟩
theorem maxLast_flush {K : List ByteArray} {t : Int} (ht : 1 ≤ t ∧ t ≤ 1099511627776) : ∀ (ws : List Wr) (C : Cl) (last : Int), (∀ w ∈ ws, WOk K w) → maxLast C = last → last ≤ t → maxLast (flushC t ws C last).1 = (flushC t ws C last).2
  | [], C, last, _, h, _ => h
  | x :: r, C, last, hw, h, hl => by
    have hx := hw x (List.mem_cons_self ..)
    rw [flushC_cons, cputM_ok hx.key hx.val hx.no ht hl]
    exact maxLast_flush ht r _ t (fun y hy => hw y (List.mem_cons_of_mem _ hy)) (maxLast_put (v := ⟨t, x.v, x.h⟩) (by rw [h]; exact hl) (by simp only; omega)) (Int.le_refl _)
/-! ### all that there is -/
structure FInv (S : Sh) : Prop where
  nov : NotOver S
  rows : RowsIn S.rows
  dones : ∀ p ∈ S.dones, (0 ≤ p.1 ∧ p.1 ≤ 1048576) ∧ 0 ≤ p.2 ∧ p.2 ≤ 1048576
  owners : S.lives.map (·.1) = riseI (ownsL S.locks)
  last : ∀ tx x, kGet tx S.lives = some x → x.last.tx = tx ∧ x.last.att = x.att ∧ (2 ≤ x.last.kind ∧ x.last.kind ≤ 4) ∧ rightC x.last = true
  mlast : maxLast S.cells = S.clast
theorem finv0 : FInv sh0 := ⟨notOver0, fun r hr => (by cases hr), fun p hp => (by cases hp), rise_of_nil.symm, fun tx x h => (by cases h), rfl⟩
theorem right_lock {c : Cm} (h : rightC c = true) (hk : c.kind = 2) : c.key.size ≤ 16 ∧ modeM c.mode = true := by
  unfold rightC at h
  rw [hk] at h
  simp at h
  exact ⟨h.1.1.2, h.1.2⟩
section
variable {K : List ByteArray} {n : Nat} {S : Sh}
theorem FInv.setLive (hS : SInv K n S) (h : FInv S) {c : Cm} {x : Lv} (hx : overM S c.tx x.att = false) (hr : rightC c = true) (hk : 2 ≤ c.kind ∧ c.kind ≤ 4) (hl : x.last = c) (ha : x.att = c.att) {S' : Sh} (e1 : S'.lives = kPut ltZ c.tx x S.lives) (e2 : S'.dones = S.dones) (e3 : S'.rows = S.rows) (e4 : S'.cells = S.cells) (e5 : S'.clast = S.clast)
    (hm : ∀ y, y ∈ ownsL S'.locks ↔ y = c.tx ∨ y ∈ ownsL S.locks) : FInv S' := by
  refine ⟨h.nov.setLive hx e1 e2, by rw [e3]; exact h.rows, by rw [e2]; exact h.dones, ?_, ?_, by rw [e4, e5]; exact h.mlast⟩
  · rw [e1]
    exact map_kPut c.tx x S.lives hS.lrise h.owners (rise_strict _) fun y => by rw [rise_mem, rise_mem, hm y]
  · intro t y hy
    rw [e1, kGet_put] at hy
    split at hy
    · rename_i e
      cases hy
      rw [hl, e, ha]
      exact ⟨rfl, rfl, hk, hr⟩
    · exact h.last t y hy
theorem lives_owner (h : FInv S) {tx : Int} (hl : livesM S tx = true) : tx ∈ ownsL S.locks := by
  have h1 := kGet_mem (livesM_some hl)
  have h2 : tx ∈ S.lives.map (·.1) := List.mem_map.2 ⟨_, h1, rfl⟩
  rw [h.owners, rise_mem] at h2
  exact h2
theorem FInv.fin (hS : SInv K n S) (h : FInv S) (c : Cm) (hn : numM c = true) : FInv (finM S c).2 := by
  have hd : ∀ p ∈ kPut ltZ c.tx c.att S.dones, (0 ≤ p.1 ∧ p.1 ≤ 1048576) ∧ 0 ≤ p.2 ∧ p.2 ≤ 1048576 := fun p hp => by
    rcases kPut_mem hp with rfl | hp
    · exact num_iff hn
    · exact h.dones p hp
  have hnov := h.nov.fin c
  rw [finM_eq] at hnov ⊢
  split
  · exact h
  · rename_i h1
    rw [if_neg h1] at hnov
    split
    · exact h
    · rename_i h2
      rw [if_neg h2] at hnov
      split
      · rename_i h3
        rw [if_pos h3] at hnov
        obtain ⟨e1, e2, e3, e4, e5⟩ := endS_lives S c
        refine ⟨hnov, ?_, ?_, ?_, ?_, ?_⟩
        · show RowsIn (endS S c).rows
          rw [e4]; exact h.rows
        · show ∀ p ∈ (endS S c).dones, _
          rw [e2]; exact hd
        · show (endS S c).lives.map (·.1) = riseI (ownsL (endS S c).locks)
          rw [e1, e3]
          exact map_kDel c.tx S.lives hS.lrise h.owners (rise_strict _) fun y => by rw [rise_mem, rise_mem, owns_leave hS.locks]
        · intro t y hy
          have hy' : kGet t (endS S c).lives = some y := hy
          rw [e1, kGet_del] at hy'
          split at hy'
          · cases hy'
          · exact h.last t y hy'
        · show maxLast (endS S c).cells = (endS S c).clast
          unfold endS
          split
          · obtain ⟨m1, m2⟩ := momS_ok hS
            have hl := hS.last
            have hL := hS.ofLive c.tx
            exact maxLast_flush (K := K) (t := momS S) m1 (liveM S c.tx).ws S.cells S.clast (fun w hw => (hL.ws w hw).1) h.mlast (by omega)
          · exact h.mlast
      · rename_i h3
        rw [if_neg h3] at hnov
        exact ⟨hnov, h.rows, hd, h.owners, h.last, h.mlast⟩
theorem FInv.step (hS : SInv K n S) (h : FInv S) (c : Cm) : FInv (doM S c).2 := by
  unfold doM
  split
  · exact h
  · rename_i hr
    have hr' : rightC c = true := by simpa using hr
    split
    · exact ⟨h.nov.same rfl rfl, h.rows, h.dones, h.owners, h.last, h.mlast⟩
    · rename_i h9
      have hnum := right_num hr' h9
      split
      · exact h.fin hS c hnum
      · split
        · obtain ⟨t1, t2, t3, t4, t5, t6, t7⟩ := tab_same S c
          refine ⟨h.nov.same t1 t2, rows_tab hS.rows.1 h.rows hS.clock c, ?_, ?_, ?_, ?_⟩
          · rw [t2]; exact h.dones
          · rw [t1, t5]; exact h.owners
          · rw [t1]; exact h.last
          · rw [t3, t7]; exact h.mlast
        · split
          · exact h
          · rename_i hl
            obtain ⟨a1, a2⟩ := late_zero hl
            split
            · rename_i h2
              obtain ⟨b1, b2⟩ := right_lock hr' h2
              exact h.setLive hS (x := ⟨c.att, c, (liveM S c.tx).ws⟩) a1 hr' (by omega) rfl rfl rfl rfl rfl rfl rfl fun y => owns_ask hS.locks (num_iff hnum).1.1 b1 b2 y
            · have hsame : livesM S c.tx = true → ∀ y, y ∈ ownsL S.locks ↔ y = c.tx ∨ y ∈ ownsL S.locks := fun hl y => ⟨Or.inr, fun hy => by
                rcases hy with rfl | hy
                · exact lives_owner h hl
                · exact hy⟩
              split
              · rename_i h3
                unfold getM
                split
                · exact h
                · rename_i hn
                  have hb : livesM S c.tx = true := by simpa using (not_or.1 hn).1
                  have hov : overM S c.tx (liveM S c.tx).att = false := by rw [a2 hb]; exact a1
                  split <;> exact h.setLive hS (x := ⟨(liveM S c.tx).att, c, (liveM S c.tx).ws⟩) hov hr' (by omega) rfl (a2 hb) rfl rfl rfl rfl rfl (hsame hb)
              · have h4 := right_kind hr' (by assumption) (by assumption) (by assumption) (by assumption) (by assumption)
                unfold putM
                split
                · exact h
                · rename_i hn
                  have hb : livesM S c.tx = true := by simpa using (not_or.1 hn).1
                  have hov : overM S c.tx (liveM S c.tx).att = false := by rw [a2 hb]; exact a1
                  exact h.setLive hS (x := ⟨(liveM S c.tx).att, c, putW (liveM S c.tx).ws (wrOf c)⟩) hov hr' (by omega) rfl (a2 hb) rfl rfl rfl rfl rfl (hsame hb)
end
end Go.Proofs.YtmifgnibalbgjaaGreat
