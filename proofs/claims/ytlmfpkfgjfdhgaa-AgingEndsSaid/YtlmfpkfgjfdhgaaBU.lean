/- AgingEnds: each round brings the end nearer (of no program). -/
import Derived.Test.YtlmfpkfgjfdhgaaBT
namespace Go.Proofs.Ytlmfpkfgjfdhgaa
open Go.RowKit

section
variable {wd : Bool} {n : Nat} {W : Nat → List ByteArray} {st : Nat → Int} {KS : List ByteArray} {r : Nat → Nat} {s : ES} {x y e m d : Nat}
/-- the eldest of those who aren't over. -/
structure Top (n : Nat) (r : Nat → Nat) (s : ES) (e : Nat) : Prop where
  lt : e < n
  o : s.o e = false
  max : ∀ j < n, s.o j = false → j ≠ e → r j < r e
theorem olderS_tot (st : Nat → Int) {i j : Nat} (h : i ≠ j) : olderS st i j ∨ olderS st j i := by unfold olderS; omega
theorem top_ex (hr : Rk n st r) : ∀ k ≤ n, (∀ j < k, s.o j = true) ∨ ∃ e < k, s.o e = false ∧ ∀ j < k, s.o j = false → j ≠ e → r j < r e
  | 0, _ => .inl fun j h => by omega
  | k + 1, hk => by
    rcases top_ex hr k (by omega) with h | ⟨e, h1, h2, h3⟩
    · cases ho : s.o k with
      | true =>
        refine .inl fun j hj => ?_
        by_cases e : j = k
        · rw [e]; exact ho
        · exact h j (by omega)
      | false => exact .inr ⟨k, by omega, ho, fun j hj hjo hne => by have := h j (by omega); rw [this] at hjo; cases hjo⟩
    · cases ho : s.o k with
      | true =>
        refine .inr ⟨e, by omega, h2, fun j hj hjo hne => ?_⟩
        by_cases e2 : j = k
        · subst e2; rw [ho] at hjo; cases hjo
        · exact h3 j (by omega) hjo hne
      | false =>
        rcases olderS_tot st (show e ≠ k by omega) with ho1 | ho1
        · have := hr.lt e (by omega) k (by omega) ho1
          refine .inr ⟨e, by omega, h2, fun j hj hjo hne => ?_⟩
          by_cases e2 : j = k
          · subst e2; exact this
          · exact h3 j (by omega) hjo hne
        · have := hr.lt k (by omega) e (by omega) ho1
          refine .inr ⟨k, by omega, ho, fun j hj hjo hne => ?_⟩
          by_cases e2 : j = e
          · subst e2; exact this
          · have := h3 j (by omega) hjo e2; omega
theorem Top.ex (hr : Rk n st r) : (∀ j < n, s.o j = true) ∨ ∃ e, Top n r s e := (top_ex (s := s) hr n (Nat.le_refl _)).imp (fun h => h) fun ⟨e, h1, h2, h3⟩ => ⟨e, h1, h2, h3⟩
/-- where elder ones wound, the eldest doesn't wait. -/
theorem Top.act (h : EI true n W st KS s) (hr : Rk n st r) (t : Top n r s e) : ∀ k, ¬ WaitsOn s.M e k := fun k hw => by
  obtain ⟨hd, a1, a2, a3, a4, a5, a6⟩ := h.waits hw
  have h1 := hr.lt hd a1 e t.lt (by simpa [olderS] using a6)
  have : hd ≠ e := fun e2 => by subst e2; omega
  have h2 := t.max hd a1 a3 this
  omega
/-- the eldest, and its chain. -/
structure Ph (wd : Bool) (n : Nat) (W : Nat → List ByteArray) (r : Nat → Nat) (s : ES) (e m d : Nat) : Prop where
  top : Top n r s e
  ch : Ch W r s e m d
  wo : wd = true → m = e
theorem Ph.ex (h : EI wd n W st KS s) (h4 : ∀ i < n, (W i).length ≤ 4) (hr : Rk n st r) (t : Top n r s e) : ∃ m d, Ph wd n W r s e m d ∧ d ≤ 5 * 6 ^ r e := by
  cases wd with
  | false =>
    obtain ⟨m, d, hc⟩ := Ch.ex h hr _ e (Nat.le_refl _) t.lt t.o
    exact ⟨m, d, ⟨t, hc, fun e => by cases e⟩, (hc.ok h hr h4 t.lt t.o).2.1⟩
  | true => exact ⟨e, _, ⟨t, .act (t.act h hr), fun _ => rfl⟩, Nat.mul_le_mul_right _ (rem_le (h4 e t.lt))⟩
theorem Ph.ok (h : EI wd n W st KS s) (h4 : ∀ i < n, (W i).length ≤ 4) (hr : Rk n st r) (p : Ph wd n W r s e m d) : 1 ≤ d ∧ m < n ∧ s.o m = false ∧ ∀ k, ¬ WaitsOn s.M m k := by
  cases wd with
  | false =>
    obtain ⟨a, -, b, c, d⟩ := p.ch.ok h hr h4 p.top.lt p.top.o
    exact ⟨a, b, c, d⟩
  | true =>
    obtain rfl := p.wo rfl
    have hn := p.top.act h hr
    obtain ⟨-, rfl⟩ := p.ch.of_act hn
    exact ⟨Nat.mul_le_mul (rem_pos h p.top.lt) (Nat.one_le_pow _ _ (by omega)), p.top.lt, p.top.o, hn⟩
theorem Eff.o_le {s' : ES} (f : Eff wd n W st s y s') {j : Nat} (h : s'.o j = false) : s.o j = false := by
  cases f with
  | left l o a e =>
    rw [o] at h
    by_cases e : j = y
    · subst e; rw [upd_eq] at h; cases h
    · rwa [upd_ne _ _ e] at h
  | got k lt hM hK o a => rw [o] at h; exact h
  | waits k lt hK hM o a => rw [o] at h; exact h
  | died hwd l j hj hjo old o a => rw [o] at h; exact h
  | wounded hwd k lt j hj hjy hjo old hk M1 w l o a => rw [o] at h; exact h
theorem Top.keep {s' : ES} (f : Eff wd n W st s y s') (t : Top n r s e) (ho : s'.o e = false) : Top n r s' e := ⟨t.lt, ho, fun j hj hjo hne => t.max j hj (f.o_le hjo) hne⟩
/-- the eldest has left. -/
theorem Ph.next {s' : ES} (h' : EI wd n W st KS s') (h4 : ∀ i < n, (W i).length ≤ 4) (hr : Rk n st r) (f : Eff wd n W st s y s') (t : Top n r s e) (ho : s'.o e = true) : (∀ j < n, s'.o j = true) ∨ ∃ e' m' d', Ph wd n W r s' e' m' d' ∧ d' + 6 ^ r e' ≤ 6 ^ r e := by
  rcases Top.ex (s := s') hr with h | ⟨e2, t2⟩
  · exact .inl h
  · obtain ⟨m', d', p, b⟩ := Ph.ex h' h4 hr t2
    have hne : e2 ≠ e := fun e => by subst e; rw [t2.o] at ho; cases ho
    have := pow_step (t.max e2 t2.lt (f.o_le t2.o) hne)
    exact .inr ⟨e2, m', d', p, by omega⟩
theorem Ph.turn {s' : ES} (h : EI wd n W st KS s) (h' : EI wd n W st KS s') (h4 : ∀ i < n, (W i).length ≤ 4) (hr : Rk n st r) (f : Eff wd n W st s y s') (hy : y < n) (ho : s.o y = false) (hnw : ∀ k, ¬ WaitsOn s.M y k) (p : Ph wd n W r s e m d) :
    (y ≠ m → Ph wd n W r s' e m d) ∧ (y = m → (∀ j < n, s'.o j = true) ∨ ∃ e' m' d', Ph wd n W r s' e' m' d' ∧ d' + 6 ^ r e' < d + 6 ^ r e) := by
  obtain ⟨hd1, -⟩ := p.ok h h4 hr
  cases wd with
  | false =>
    refine ⟨fun hym => ?_, fun hym => ?_⟩
    · have hye : y ≠ e := fun e2 => by
        subst e2
        exact hym (p.ch.of_act hnw).1.symm
      have fr := f.frame (x := e) (fun e => hye e.symm) (fun e => by cases e)
      exact ⟨p.top.keep f (by rw [fr.o]; exact p.top.o), p.ch.keep h h' hr f hnw hym p.top.lt p.top.o, fun e => by cases e⟩
    · subst hym
      by_cases hye : y = e
      · subst hye
        obtain ⟨-, rfl⟩ := p.ch.of_act hnw
        rcases Ch.self h h' h4 hr f hy ho hnw with ⟨t, -⟩ | ⟨⟨j, hj, hjo, hjy, hol⟩, -⟩ | ⟨t, m', d', t1, t2⟩
        · exact (Ph.next h' h4 hr f p.top t).imp (fun t => t) fun ⟨e', m', d', q, b⟩ => ⟨e', m', d', q, by omega⟩
        · have h1 := p.top.max j hj hjo hjy
          rcases olderS_tot st hjy with h2 | h2
          · have := hr.lt j hj y hy h2; omega
          · exact absurd h2 hol
        · exact .inr ⟨y, m', d', ⟨p.top.keep f t, t1, fun e => by cases e⟩, by omega⟩
      · have fr := f.frame (x := e) (fun e => hye e.symm) (fun e => by cases e)
        obtain ⟨m', d', t1, t2⟩ := p.ch.fall h h' h4 hr f hy ho hnw rfl (fun e => hye e.symm) p.top.lt p.top.o
        exact .inr ⟨e, m', d', ⟨p.top.keep f (by rw [fr.o]; exact p.top.o), t1, fun e => by cases e⟩, by omega⟩
  | true =>
    obtain rfl := p.wo rfl
    have hn := p.top.act h hr
    obtain ⟨-, rfl⟩ := p.ch.of_act hn
    refine ⟨fun hym => ?_, fun hym => ?_⟩
    · have hol : ¬ olderS st y m := fun h1 => by
        have := hr.lt y hy m p.top.lt h1
        have := p.top.max y hy ho hym
        omega
      have fr := f.frame (x := m) (fun e => hym e.symm) (fun _ => hol)
      have e : remE W s' m = remE W s m := by unfold remE; rw [fr.eat_act h.c.sok.ok.sm h'.c.sok.ok.sm hn]
      refine ⟨p.top.keep f (by rw [fr.o]; exact p.top.o), ?_, fun _ => rfl⟩
      rw [← e]
      exact .act fun k hk => hn k (fr.les k hk)
    · subst hym
      have hle := h.eat_le hy
      have hA : 1 ≤ 6 ^ r y := Nat.one_le_pow _ _ (by omega)
      have hrm := lt_rem (rem_pos h hy) hA
      have hstep : s'.o y = false → eatE s' y = eatE s y + 1 → eatE s y < (W y).length → (∀ j < n, s'.o j = true) ∨ ∃ e' m' d', Ph true n W r s' e' m' d' ∧ d' + 6 ^ r e' < remE W s y * 6 ^ r y + 6 ^ r y := fun ho' he hlt => by
        have t' := p.top.keep f ho'
        have e : remE W s' y = remE W s y - 1 := by unfold remE; omega
        exact .inr ⟨y, y, _, ⟨t', .act (t'.act h' hr), fun _ => rfl⟩, by rw [e]; omega⟩
      have hkeep : s'.o y = false → Top n r s' y := fun ho' => p.top.keep f ho'
      have hnext : s'.o y = true → _ := fun ho' => Ph.next h' h4 hr f p.top ho'
      cases f with
      | left l o a e => exact (hnext (by rw [o, upd_eq])).imp (fun t => t) fun ⟨e', m', d', q, b⟩ => ⟨e', m', d', q, by omega⟩
      | died hwd => cases hwd
      | got k lt hM hK o a => exact hstep (by rw [o]; exact ho) (by rw [eat_holds ((hK ⟨k, (y : Int)⟩).2 (.inr rfl)), a, upd_eq]) lt
      | waits k lt hK hM o a =>
        have hw : WaitsOn s'.M y k := (hM _ _).2 (.inr ⟨rfl, rfl⟩)
        exact absurd hw ((hkeep (by rw [o]; exact ho)).act h' hr k)
      | wounded hwd k lt j hj hjy hjo old hk M1 w l o a =>
        have t' := hkeep (by rw [o]; exact ho)
        have hne : (y : Int) ≠ (j : Int) := by omega
        rcases l.wt _ _ hne ((w y k).2 (.inr ⟨rfl, rfl⟩)) with h1 | ⟨-, h1⟩
        · exact absurd h1 (t'.act h' hr k)
        · exact hstep (by rw [o]; exact ho) (by rw [eat_holds h1, a, upd_eq]) lt
/-- a round's first turns. -/
def turnsE (wd : Bool) (W : Nat → List ByteArray) (s : ES) : Nat → ES
  | 0 => s
  | i + 1 => turnE wd W (turnsE wd W s i) i
theorem EI.turn (h : EI wd n W st KS s) (hW : WOk n W KS) (hy : y < n) : EI wd n W st KS (turnE wd W s y) := by
  unfold turnE
  split
  · exact h
  · rename_i hc
    rw [not_or] at hc
    have h1 : (waitsM s.M y).2 = false := by simpa using hc.1
    exact h.go hW hy (by simpa using hc.2) ((waitsM_not h.c.sok.ok.sm _).1 h1)
theorem EI.turns (h : EI wd n W st KS s) (hW : WOk n W KS) : ∀ i ≤ n, EI wd n W st KS (turnsE wd W s i)
  | 0, _ => h
  | i + 1, hi => (EI.turns h hW i (by omega)).turn hW (by omega)
/-- what is left to do is no more than v. -/
def Worth (wd : Bool) (n : Nat) (W : Nat → List ByteArray) (r : Nat → Nat) (s : ES) (v : Nat) : Prop := (∀ j < n, s.o j = true) ∨ ∃ e m d, Ph wd n W r s e m d ∧ d + 6 ^ r e ≤ v
theorem Eff.over {s' : ES} (f : Eff wd n W st s y s') (h : ∀ j < n, s.o j = true) : ∀ j < n, s'.o j = true := fun j hj => by
  cases e : s'.o j with
  | true => rfl
  | false => have := f.o_le e; rw [h j hj] at this; cases this
theorem round_falls (h : EI wd n W st KS s) (hW : WOk n W KS) (h4 : ∀ i < n, (W i).length ≤ 4) (hr : Rk n st r) (p : Ph wd n W r s e m d) {v : Nat} (hv : d + 6 ^ r e ≤ v + 1) : Worth wd n W r (turnsE wd W s n) v := by
  have key : ∀ i ≤ n, Worth wd n W r (turnsE wd W s i) v ∨ (Ph wd n W r (turnsE wd W s i) e m d ∧ i ≤ m) := by
    intro i
    induction i with
    | zero => exact fun _ => .inr ⟨p, Nat.zero_le _⟩
    | succ i ih =>
      intro hi
      have hE := h.turns hW i (by omega)
      have hE' := h.turns hW (i + 1) hi
      have ih := ih (by omega)
      rw [show turnsE wd W s (i + 1) = turnE wd W (turnsE wd W s i) i from rfl] at hE' ⊢
      generalize turnsE wd W s i = t at *
      unfold turnE at hE' ⊢
      split
      · rename_i hc
        rcases ih with h1 | ⟨h1, h2⟩
        · exact .inl h1
        · obtain ⟨-, -, q1, q2⟩ := h1.ok hE h4 hr
          refine .inr ⟨h1, ?_⟩
          by_cases e : i = m
          · subst e
            rcases hc with hc | hc
            · rw [(waitsM_not hE.c.sok.ok.sm _).2 q2] at hc; cases hc
            · rw [q1] at hc; cases hc
          · omega
      · rename_i hc
        rw [if_neg hc] at hE'
        rw [not_or] at hc
        have ho : t.o i = false := by simpa using hc.2
        have hnw := (waitsM_not hE.c.sok.ok.sm _).1 (show (waitsM t.M i).2 = false by simpa using hc.1)
        have f := hE.eff hW (show i < n by omega) ho hnw
        rcases ih with h1 | ⟨h1, h2⟩
        · left
          rcases h1 with h1 | ⟨e2, m2, d2, p2, b2⟩
          · exact .inl (f.over h1)
          · obtain ⟨q1, q2⟩ := Ph.turn hE hE' h4 hr f (by omega) ho hnw p2
            by_cases em : i = m2
            · rcases q2 em with g | ⟨e3, m3, d3, p3, b3⟩
              · exact .inl g
              · exact .inr ⟨e3, m3, d3, p3, by omega⟩
            · exact .inr ⟨e2, m2, d2, q1 em, b2⟩
        · obtain ⟨q1, q2⟩ := Ph.turn hE hE' h4 hr f (by omega) ho hnw h1
          by_cases em : i = m
          · left
            rcases q2 em with g | ⟨e3, m3, d3, p3, b3⟩
            · exact .inl g
            · exact .inr ⟨e3, m3, d3, p3, by omega⟩
          · exact .inr ⟨q1 em, by omega⟩
  rcases key n (Nat.le_refl _) with h1 | ⟨h1, h2⟩
  · exact h1
  · have := (h1.ok (h.turns hW n (Nat.le_refl _)) h4 hr).2.1
    omega
theorem worth_falls (h : EI wd n W st KS s) (hW : WOk n W KS) (h4 : ∀ i < n, (W i).length ≤ 4) (hr : Rk n st r) {v : Nat} (hw : Worth wd n W r s v) (ha : ∃ j < n, s.o j = false) : 2 ≤ v ∧ Worth wd n W r (turnsE wd W s n) (v - 1) := by
  rcases hw with h1 | ⟨e, m, d, p, b⟩
  · obtain ⟨j, hj, ho⟩ := ha
    rw [h1 j hj] at ho; cases ho
  · have h1 := (p.ok h h4 hr).1
    have h2 : 1 ≤ 6 ^ r e := Nat.one_le_pow _ _ (by omega)
    exact ⟨by omega, round_falls h hW h4 hr p (by omega)⟩
theorem worth_start (h : EI wd n W st KS s) (h4 : ∀ i < n, (W i).length ≤ 4) (hr : Rk n st r) : Worth wd n W r s 7776 := by
  rcases Top.ex (s := s) hr with h1 | ⟨e, t⟩
  · exact .inl h1
  · obtain ⟨m, d, p, b⟩ := Ph.ex h h4 hr t
    have h2 : 6 ^ r e ≤ 6 ^ 4 := Nat.pow_le_pow_right (by omega) (hr.top e t.lt)
    exact .inr ⟨e, m, d, p, by omega⟩
end
end Go.Proofs.Ytlmfpkfgjfdhgaa
