/- AgingEnds: where younger ones die, each chain's worth falls (of no program). -/
import Derived.Test.YtlmfpkfgjfdhgaaBS
namespace Go.Proofs.Ytlmfpkfgjfdhgaa
open Go.RowKit

section
variable {wd : Bool} {n : Nat} {W : Nat → List ByteArray} {st : Nat → Int} {KS : List ByteArray} {r : Nat → Nat} {s : ES} {x y m d : Nat}
theorem EI.older (h : EI wd n W st KS s) {i j : Nat} (hi : hasM s.M i = true) (hj : hasM s.M j = true) : older (mbOf s.M i) (mbOf s.M j) ↔ olderS st i j := by
  obtain ⟨a1, a2⟩ := mbOf_has h.c.sok.ok.sm hi
  obtain ⟨b1, b2⟩ := mbOf_has h.c.sok.ok.sm hj
  obtain ⟨i', -, i1, i2⟩ := h.only _ a1
  obtain ⟨j', -, j1, j2⟩ := h.only _ b1
  obtain rfl : i = i' := by rw [a2] at i1; exact_mod_cast i1
  obtain rfl : j = j' := by rw [b2] at j1; exact_mod_cast j1
  unfold Go.Proofs.Ytlmfpkfgjfdhgaa.older olderS
  rw [i1, i2, j1, j2]
  constructor <;> intro h <;> omega
theorem EI.nat (h : EI wd n W st KS s) {z : Int} (hz : hasM s.M z = true) : ∃ j < n, z = (j : Int) ∧ s.o j = false := by
  obtain ⟨m, hm, e⟩ := List.any_eq_true.1 hz
  have e : m.id = z := by simpa using e
  obtain ⟨j, hj, j1, -, j3⟩ := h.mem hm
  exact ⟨j, hj, e.symm.trans j1, j3⟩
/-- what a turn does, in short. -/
inductive Eff (wd : Bool) (n : Nat) (W : Nat → List ByteArray) (st : Nat → Int) (s : ES) (y : Nat) (s' : ES) : Prop
  | left (l : Lost y s.M s.K s'.M s'.K) (o : s'.o = upd s.o y true) (a : s'.a = upd s.a y (eatE s y)) (e : eatE s y = (W y).length)
  | got (k : ByteArray) (lt : eatE s y < (W y).length) (hM : s'.M = s.M) (hK : ∀ l, l ∈ s'.K ↔ l ∈ s.K ∨ l = ⟨k, (y : Int)⟩) (o : s'.o = s.o) (a : s'.a = upd s.a y (eatE s y + 1))
  | waits (k : ByteArray) (lt : eatE s y < (W y).length) (hK : s'.K = s.K) (hM : Waits y k s.M s'.M) (o : s'.o = s.o) (a : s'.a = upd s.a y (eatE s y + 1))
  | died (hwd : wd = false) (l : Lost y s.M s.K s'.M s'.K) (j : Nat) (hj : j < n) (hjo : s.o j = false) (old : j ≠ y ∧ ¬ olderS st y j) (o : s'.o = s.o) (a : s'.a = upd s.a y 0)
  | wounded (hwd : wd = true) (k : ByteArray) (lt : eatE s y < (W y).length) (j : Nat) (hj : j < n) (hjy : j ≠ y) (hjo : s.o j = false) (old : olderS st y j) (hk : (⟨k, (j : Int)⟩ : Lk) ∈ s.K) (M1 : List Mb) (w : Waits y k s.M M1) (l : Lost j M1 s.K s'.M s'.K) (o : s'.o = s.o) (a : s'.a = upd s.a y (eatE s y + 1))
theorem EI.eff (h : EI wd n W st KS s) (hW : WOk n W KS) (hy : y < n) (ho : s.o y = false) (hnw : ∀ k, ¬ WaitsOn s.M y k) : Eff wd n W st s y (goE wd W s y) := by
  have hh := h.has hy ho
  have ok := h.c.sok.ok
  have hle := h.eat_le hy
  unfold goE
  split
  · rename_i hlt
    obtain ⟨hks, hsz⟩ := hW.key y hy _ (List.getElem_mem hlt)
    generalize (W y)[eatE s y] = k at *
    rcases ha : askT wd s.M s.K y k with ⟨⟨nn, cd⟩, M', K'⟩
    rcases ask_eff ok h.c.sok.hold hsz hh hnw ha (Int.natCast_nonneg y) with ⟨rfl, h1, h2⟩ | ⟨rfl, -, h1, h2, -⟩ | ⟨rfl, h0, h1, hd, h2, h3, h4, h5⟩ | ⟨h0, h1, hd, M1, h2, h3, h4, h5, h6, h7⟩
    · exact .got k hlt h1 h2 rfl rfl
    · exact .waits k hlt h1 h2 rfl rfl
    · obtain ⟨j, hj, rfl, hjo⟩ := h.nat h4
      rw [h.older hh h4] at h5
      exact .died h0 h1 j hj hjo ⟨fun e => h3 (by rw [e]), h5⟩ rfl rfl
    · obtain ⟨j, hj, rfl, hjo⟩ := h.nat h4
      rw [h.older hh h4] at h5
      have hc : cd ≠ 11 := by omega
      exact .wounded h0 k hlt j hj (fun e => h2 (by rw [e])) hjo h5 h3 M1 h6 h7 rfl (by simp only [if_neg hc])
  · exact .left (leave_lost (wd := wd) ok hh).2 rfl rfl (by omega)
theorem Eff.frame {s' : ES} (f : Eff wd n W st s y s') (hxy : x ≠ y) (hxo : wd = true → ¬ olderS st y x) : Frame y x s s' := by
  have hne : (x : Int) ≠ (y : Int) := by omega
  cases f with
  | left l o a e => exact ⟨fun k hk => l.les _ _ hk, fun k hk => l.oth _ _ hk hne, fun hn k hk => ((l.new _ _ hk).2).elim (fun t => t) (fun ⟨_, t, _⟩ => absurd t (hn k)), by rw [a, upd_ne _ _ hxy], by rw [o, upd_ne _ _ hxy]⟩
  | got k lt hM hK o a => exact ⟨fun k hk => by rw [hM] at hk; exact hk, fun k hk => (hK _).2 (.inl hk), fun _ k' hk => ((hK _).1 hk).elim (fun t => t) (fun t => absurd (congrArg Lk.holder t) hne), by rw [a, upd_ne _ _ hxy], by rw [o]⟩
  | waits k lt hK hM o a => exact ⟨fun k hk => ((hM _ _).1 hk).elim (fun t => t.2) (fun t => absurd t.1 hne), fun k hk => by rw [hK]; exact hk, fun _ k hk => by rw [hK] at hk; exact hk, by rw [a, upd_ne _ _ hxy], by rw [o]⟩
  | died hwd l j hj hjo old o a => exact ⟨fun k hk => l.les _ _ hk, fun k hk => l.oth _ _ hk hne, fun hn k hk => ((l.new _ _ hk).2).elim (fun t => t) (fun ⟨_, t, _⟩ => absurd t (hn k)), by rw [a, upd_ne _ _ hxy], by rw [o]⟩
  | wounded hwd k lt j hj hjy hjo old hk M1 w l o a =>
    have hne2 : (x : Int) ≠ (j : Int) := fun e => hxo hwd (by obtain rfl : x = j := by omega
                                                              exact old)
    exact ⟨fun k hk => ((w _ _).1 (l.les _ _ hk)).elim (fun t => t.2) (fun t => absurd t.1 hne), fun k hk => l.oth _ _ hk hne2, fun hn k hk => ((l.new _ _ hk).2).elim (fun t => t) (fun ⟨_, t, _⟩ => ((w _ _).1 t).elim (fun t => absurd t.2 (hn k)) (fun t => absurd t.1 hne)), by rw [a, upd_ne _ _ hxy], by rw [o]⟩
theorem Eff.wt {s' : ES} (f : Eff false n W st s y s') (hxy : x ≠ y) {k : ByteArray} (hw : WaitsOn s.M x k) : WaitsOn s'.M x k ∨ ((⟨k, (y : Int)⟩ : Lk) ∈ s.K ∧ (⟨k, (x : Int)⟩ : Lk) ∈ s'.K) := by
  have hne : (x : Int) ≠ (y : Int) := by omega
  cases f with
  | left l o a e => exact l.wt _ _ hne hw
  | got k lt hM hK o a => exact .inl (by rw [hM]; exact hw)
  | waits k lt hK hM o a => exact .inl ((hM _ _).2 (.inl ⟨hne, hw⟩))
  | died hwd l j hj hjo old o a => exact l.wt _ _ hne hw
  | wounded hwd => cases hwd
theorem Eff.new {s' : ES} (hs : SortK s.K) (f : Eff false n W st s y s') {k : ByteArray} {z : Int} (hk : (⟨k, (y : Int)⟩ : Lk) ∈ s.K) (hz : (⟨k, z⟩ : Lk) ∈ s'.K) : z = (y : Int) ∨ WaitsOn s.M z k := by
  cases f with
  | left l o a e => exact ((l.new _ _ hz).2).elim (fun t => .inl (holder_uniq hs t hk)) (fun ⟨_, t, _⟩ => .inr t)
  | got k lt hM hK o a => exact ((hK _).1 hz).elim (fun t => .inl (holder_uniq hs t hk)) (fun t => .inl (congrArg Lk.holder t))
  | waits k lt hK hM o a => rw [hK] at hz; exact .inl (holder_uniq hs hz hk)
  | died hwd l j hj hjo old o a => exact ((l.new _ _ hz).2).elim (fun t => .inl (holder_uniq hs t hk)) (fun ⟨_, t, _⟩ => .inr t)
  | wounded hwd => cases hwd
theorem eat_holds {s' : ES} {k : ByteArray} (hk : (⟨k, (x : Int)⟩ : Lk) ∈ s'.K) : eatE s' x = s'.a x := by
  unfold eatE
  rw [if_neg]
  rintro ⟨-, e⟩
  exact holdsK_nil.1 e k hk
theorem Ch.of_act (hc : Ch W r s x m d) (hn : ∀ k, ¬ WaitsOn s.M x k) : m = x ∧ d = remE W s x * 6 ^ r x := by
  cases hc with
  | act h => exact ⟨rfl, rfl⟩
  | wait hw => exact absurd hw (hn _)
/-- (a) another one's turn leaves a chain. -/
theorem Ch.keep {s' : ES} (h : EI false n W st KS s) (h' : EI false n W st KS s') (hr : Rk n st r) (f : Eff false n W st s y s') (hnw : ∀ k, ¬ WaitsOn s.M y k) (hc : Ch W r s x m d) : y ≠ m → x < n → s.o x = false → Ch W r s' x m d := by
  induction hc with
  | @act x hn =>
    intro hy hx ho
    have fr := f.frame (x := x) (fun e => hy e.symm) (fun e => by cases e)
    have e : remE W s' x = remE W s x := by unfold remE; rw [fr.eat_act h.c.sok.ok.sm h'.c.sok.ok.sm hn]
    rw [← e]
    exact .act fun k hk => hn k (fr.les k hk)
  | @wait x hd m d k hw hk hc ih =>
    intro hy hx ho
    obtain ⟨a1, a2, -, -, a3⟩ := h.chain hr hw hk
    have hxy : x ≠ y := fun e => hnw k (by subst e; exact hw)
    have hdy : hd ≠ y := fun e => by
      subst e
      exact hy (hc.of_act hnw).1.symm
    have fr := f.frame (x := x) hxy (fun e => by cases e)
    have fh := f.frame (x := hd) hdy (fun e => by cases e)
    have hw' : WaitsOn s'.M x k := (f.wt hxy hw).elim (fun t => t) (fun ⟨t, _⟩ => absurd (holder_uniq h.c.sok.ok.sk hk t) (by omega))
    rw [← fr.rem_wait h.c.sok.ok.sm h'.c.sok.ok.sm hw hw']
    exact .wait hw' (fh.kept k hk) (ih hy a1 a2)
theorem lt_rem {a A : Nat} (ha : 1 ≤ a) (hA : 1 ≤ A) : (a - 1) * A + A = a * A := by
  obtain ⟨b, rfl⟩ : ∃ b, a = b + 1 := ⟨a - 1, by omega⟩
  rw [Nat.add_sub_cancel, Nat.succ_mul]
/-- (c) one's own turn. -/
theorem Ch.self {s' : ES} (h : EI false n W st KS s) (h' : EI false n W st KS s') (h4 : ∀ i < n, (W i).length ≤ 4) (hr : Rk n st r) (f : Eff false n W st s y s') (hy : y < n) (ho : s.o y = false) (hnw : ∀ k, ¬ WaitsOn s.M y k) :
    (s'.o y = true ∧ ∀ k, (⟨k, (y : Int)⟩ : Lk) ∉ s'.K) ∨ ((∃ j < n, s.o j = false ∧ j ≠ y ∧ ¬ olderS st y j) ∧ ∀ k, (⟨k, (y : Int)⟩ : Lk) ∉ s'.K) ∨ (s'.o y = false ∧ ∃ m' d', Ch W r s' y m' d' ∧ d' < remE W s y * 6 ^ r y) := by
  have hle := h.eat_le hy
  have hA : 1 ≤ 6 ^ r y := Nat.one_le_pow _ _ (by omega)
  have hrm := lt_rem (rem_pos h hy) hA
  cases f with
  | left l o a e => exact .inl ⟨by rw [o, upd_eq], l.non⟩
  | died hwd l j hj hjo old o a => exact .inr (.inl ⟨⟨j, hj, hjo, old.1, old.2⟩, l.non⟩)
  | wounded hwd => cases hwd
  | got k lt hM hK o a =>
    refine .inr (.inr ⟨by rw [o]; exact ho, y, _, .act (by rw [hM]; exact hnw), ?_⟩)
    have e : remE W s' y = remE W s y - 1 := by
      unfold remE
      rw [eat_holds ((hK ⟨k, (y : Int)⟩).2 (.inr rfl)), a, upd_eq]; omega
    rw [e]; omega
  | waits k lt hK hM o a =>
    have hw : WaitsOn s'.M y k := (hM _ _).2 (.inr ⟨rfl, rfl⟩)
    have e : remE W s' y = remE W s y - 1 := by
      unfold remE
      rw [eat_waits h'.c.sok.ok.sm hw, a, upd_eq]; omega
    obtain ⟨hd, a1, a2, a3, a4, a5, a6⟩ := h'.waits hw
    obtain ⟨m', d', hc⟩ := Ch.ex h' hr _ hd (Nat.le_refl _) a1 a3
    obtain ⟨b1, b2, -⟩ := hc.ok h' hr h4 a1 a3
    obtain ⟨-, -, -, -, c5⟩ := h'.chain hr hw a2
    have h3 := pow_step c5
    refine .inr (.inr ⟨by rw [o]; exact ho, m', _, .wait hw a2 hc, ?_⟩)
    rw [e, Nat.pow_succ, Nat.mul_comm (6 ^ r hd) 6]
    omega
/-- (b) the turn of the chain's end. -/
theorem Ch.fall {s' : ES} (h : EI false n W st KS s) (h' : EI false n W st KS s') (h4 : ∀ i < n, (W i).length ≤ 4) (hr : Rk n st r) (f : Eff false n W st s y s') (hy : y < n) (ho : s.o y = false) (hnw : ∀ k, ¬ WaitsOn s.M y k) (hc : Ch W r s x m d) :
    m = y → x ≠ y → x < n → s.o x = false → ∃ m' d', Ch W r s' x m' d' ∧ d' < d := by
  induction hc with
  | @act x hn => intro hm hx; exact absurd hm hx
  | @wait x hd m d k hw hk hc ih =>
    intro hm hxy hx hxo
    subst hm
    obtain ⟨a1, a2, -, -, a3⟩ := h.chain hr hw hk
    have fr := f.frame (x := x) hxy (fun e => by cases e)
    obtain ⟨c1, -⟩ := hc.ok h hr h4 a1 a2
    have hp := pow_step a3
    by_cases hdy : hd = m
    · subst hdy
      obtain ⟨-, rfl⟩ := hc.of_act hnw
      by_cases hw' : ∃ k', WaitsOn s'.M x k'
      · obtain ⟨k', hw'⟩ := hw'
        obtain rfl : k = k' := WaitsOn.uniq h.c.sok.ok.sm hw (fr.les _ hw')
        have hrem := fr.rem_wait (W := W) h.c.sok.ok.sm h'.c.sok.ok.sm hw hw'
        obtain ⟨h2, b1, b2, b3, -⟩ := h'.waits hw'
        obtain ⟨-, -, -, -, b5⟩ := h'.chain hr hw' b2
        rcases f.new h.c.sok.ok.sk hk b2 with e | hw2
        · obtain rfl : h2 = hd := by omega
          rcases Ch.self h h' h4 hr f hy ho hnw with ⟨_, t⟩ | ⟨_, t⟩ | ⟨_, m', d', t1, t2⟩
          · exact absurd b2 (t k)
          · exact absurd b2 (t k)
          · refine ⟨m', _, .wait hw' b2 t1, ?_⟩
            rw [hrem, Nat.pow_succ, Nat.mul_comm (6 ^ r h2) 6]
            omega
        · obtain ⟨-, -, -, -, b6⟩ := h.chain hr hw2 hk
          obtain ⟨m', d', t1⟩ := Ch.ex h' hr _ h2 (Nat.le_refl _) b1 b3
          obtain ⟨t2, t3, -⟩ := t1.ok h' hr h4 b1 b3
          have p1 := pow_step b5
          have p2 := pow_step b6
          refine ⟨m', _, .wait hw' b2 t1, ?_⟩
          rw [hrem, Nat.pow_succ, Nat.pow_succ, Nat.mul_comm (6 ^ r h2) 6, Nat.mul_comm (6 ^ r hd) 6]
          omega
      · have hn' : ∀ k, ¬ WaitsOn s'.M x k := fun k hk => hw' ⟨k, hk⟩
        have hkx : (⟨k, (x : Int)⟩ : Lk) ∈ s'.K := (f.wt hxy hw).elim (fun t => absurd t (hn' k)) (fun t => t.2)
        refine ⟨x, _, .act hn', ?_⟩
        have e : remE W s' x = remE W s x := by
          unfold remE
          rw [eat_holds hkx, eat_waits h.c.sok.ok.sm hw, fr.a]
        rw [e, Nat.pow_succ, Nat.mul_comm (6 ^ r hd) 6]
        omega
    · obtain ⟨m', d', t1, t2⟩ := ih rfl hdy a1 a2
      have fh := f.frame (x := hd) hdy (fun e => by cases e)
      have hw' : WaitsOn s'.M x k := (f.wt hxy hw).elim (fun t => t) (fun ⟨t, _⟩ => absurd (holder_uniq h.c.sok.ok.sk hk t) (by omega))
      refine ⟨m', _, .wait hw' (fh.kept k hk) t1, ?_⟩
      rw [fr.rem_wait h.c.sok.ok.sm h'.c.sok.ok.sm hw hw', Nat.pow_succ, Nat.mul_comm (6 ^ r hd) 6]
      omega
end
end Go.Proofs.Ytlmfpkfgjfdhgaa
