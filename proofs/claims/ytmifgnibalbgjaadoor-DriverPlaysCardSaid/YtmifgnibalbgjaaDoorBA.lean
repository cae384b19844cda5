/- The document's driver as a plain thing; that it goes as the program's: the plain law of DriverPlays. -/
import Derived.Test.YtmifgnibalbgjaaDoorAD
namespace Go.Proofs.YtmifgnibalbgjaaDoor
open Go.RowKit
/-- What the document's driver is. -/
structure Rd where
  tx : Int
  stamp : Int
  tries : Int
  attempt : Int
  asks : Int
  i : Int
  write : Rs
  res : List Rs
  fin : Int
  told : Int
  quit : Bool
def inB (ss : List ByteArray) (l : List Opp) (i : Int) (s : Nat) : Bool := (l.take (i + 1).toNat).any fun o => decide (o.kind ≠ 6) && decide (ofL ss o.key = s)
def touchR (ss : List ByteArray) (l : List Opp) (i : Int) : List Int := ((List.range (ss.length + 1)).filter (inB ss l i)).map fun (s : Nat) => (s : Int)
def opR (l : List Opp) (r : Rd) (i : Nat) : Rd := match l[i]? with
  | none => { r with asks := 5 }
  | some o => if o.kind = 6 then { r with asks := 6, quit := true } else { r with i := i, asks := 2 }
def restR (ss : List ByteArray) (l : List Opp) (r : Rd) : Rd :=
  if r.told < (touchR ss l r.i).length then r
  else if r.fin = 2 then { r with asks := 0 }
  else if r.quit = true ∨ r.tries ≤ r.attempt + 1 then { r with res := [], asks := 0 }
  else { r with res := [], attempt := r.attempt + 1, asks := 1, i := -1, fin := 0 }
def endR (ss : List ByteArray) (l : List Opp) (r : Rd) (s : Int) : Rd := restR ss l { r with fin := s, told := 0, asks := 7 }
def lastR (r : Rd) : Rs := (r.res.getLast?).getD rs0
def getR (l : List Opp) (r : Rd) (p : Rep) : Rd := match l[r.i.toNat]? with
  | none => r
  | some o =>
    let r1 : Rd := { r with write := stepW o ⟨p.v, p.h⟩ (lastR r), res := r.res ++ [stepR o ⟨p.v, p.h⟩] }
    if o.kind = 1 then opR l r1 (r.i.toNat + 1) else { r1 with asks := 4 }
def tellR (ss : List ByteArray) (l : List Opp) (r : Rd) (p : Rep) : Rd :=
  if (2 ≤ r.asks ∧ r.asks ≤ 4) ∧ (p.code = 9 ∨ p.code = 8) then { r with asks := 6 }
  else if r.asks = 1 ∧ p.code = 9 ∨ r.asks = 8 ∧ p.code = 0 ∧ p.state = 3 then endR ss l r 3
  else if r.asks = 8 ∨ r.asks = 2 ∧ p.code = 10 then { r with asks := 10 - r.asks }
  else if p.code ≠ 0 then r
  else if r.asks = 1 ∧ p.state = 1 then opR l { r with i := -1 } 0
  else if r.asks = 2 then { r with asks := 3 }
  else if r.asks = 3 then getR l r p
  else if r.asks = 4 then opR l r (r.i.toNat + 1)
  else if (r.asks = 5 ∨ r.asks = 6) ∧ (p.state = 2 ∨ p.state = 3) then endR ss l r p.state
  else if r.asks = 7 then restR ss l { r with told := r.told + 1 }
  else r
/-! ### Rows that rise -/
theorem lt_ext : ∀ (a b : List Int), a.Pairwise (· < ·) → b.Pairwise (· < ·) → (∀ x, x ∈ a ↔ x ∈ b) → a = b
  | [], [], _, _, _ => rfl
  | [], y :: b, _, _, h => by have := (h y).2 (by simp); cases this
  | x :: a, [], _, _, h => by have := (h x).1 (by simp); cases this
  | x :: a, y :: b, ha, hb, h => by
    obtain ⟨hx, ha'⟩ := List.pairwise_cons.1 ha
    obtain ⟨hy, hb'⟩ := List.pairwise_cons.1 hb
    have hxy : x = y := by
      rcases List.mem_cons.1 ((h x).1 (by simp)) with e | e
      · exact e
      · rcases List.mem_cons.1 ((h y).2 (by simp)) with e' | e'
        · exact e'.symm
        · have := hx y e'; have := hy x e; omega
    subst hxy
    rw [lt_ext a b ha' hb' fun z => by
      constructor
      · intro hz
        rcases List.mem_cons.1 ((h z).1 (by simp [hz])) with e | e
        · have := hx z hz; omega
        · exact e
      · intro hz
        rcases List.mem_cons.1 ((h z).2 (by simp [hz])) with e | e
        · have := hy z hz; omega
        · exact e]
theorem touchR_rise (ss : List ByteArray) (l : List Opp) (i : Int) : (touchR ss l i).Pairwise (· < ·) := by
  unfold touchR
  refine List.pairwise_map.2 ((List.pairwise_lt_range.sublist List.filter_sublist).imp fun h => ?_)
  omega
theorem mem_touchR {ss : List ByteArray} {l : List Opp} {i x : Int} : x ∈ touchR ss l i ↔ ∃ s : Nat, s ≤ ss.length ∧ inB ss l i s = true ∧ x = s := by
  unfold touchR
  rw [List.mem_map]
  constructor
  · rintro ⟨s, hs, rfl⟩
    obtain ⟨h1, h2⟩ := List.mem_filter.1 hs
    exact ⟨s, by have := List.mem_range.1 h1; omega, h2, rfl⟩
  · rintro ⟨s, h1, h2, rfl⟩
    exact ⟨s, List.mem_filter.2 ⟨List.mem_range.2 (by omega), h2⟩, rfl⟩
theorem touchR_len (ss : List ByteArray) (l : List Opp) (i : Int) : (touchR ss l i).length ≤ ss.length + 1 := by
  unfold touchR
  rw [List.length_map]
  have := List.length_filter_le (inB ss l i) (List.range (ss.length + 1))
  rw [List.length_range] at this
  exact this
theorem touchR_none (ss : List ByteArray) (l : List Opp) : touchR ss l (-1) = [] := by
  unfold touchR inB
  simp
theorem mem_insS {x y : Int} {tl : List Int} : x ∈ insS y tl ↔ x = y ∨ x ∈ tl := by
  unfold insS
  split
  · rename_i h
    have hy : y ∈ tl := by simpa using h
    constructor
    · exact fun h => .inr h
    · rintro (rfl | h)
      · exact hy
      · exact h
  · rw [List.mem_append, List.mem_cons]
    have e : x ∈ tl ↔ x ∈ tl.take (tl.countP (· < y)) ∨ x ∈ tl.drop (tl.countP (· < y)) := by
      rw [← List.mem_append, List.take_append_drop]
    rw [e]
    constructor
    · rintro (h | h | h)
      · exact .inr (.inl h)
      · exact .inl h
      · exact .inr (.inr h)
    · rintro (h | h | h)
      · exact .inr (.inl h)
      · exact .inl h
      · exact .inr (.inr h)
theorem ofL_le (ss : List ByteArray) (k : ByteArray) : ofL ss k ≤ ss.length := List.countP_le_length
/-- the next operation's shard comes in. -/
theorem touchR_next {ss : List ByteArray} {l : List Opp} {i : Nat} {o : Opp} (h : l[i]? = some o) (h6 : o.kind ≠ 6) : touchR ss l (i : Nat) = insS (ofL ss o.key) (touchR ss l ((i : Int) - 1)) := by
  refine lt_ext _ _ (touchR_rise _ _ _) (insS_rise _ _ (touchR_rise _ _ _)) fun x => ?_
  rw [mem_insS, mem_touchR, mem_touchR]
  have ht : l.take (((i : Nat) : Int) + 1).toNat = l.take ((((i : Nat) : Int) - 1) + 1).toNat ++ [o] := by
    rw [show (((i : Nat) : Int) + 1).toNat = i + 1 by omega, show ((((i : Nat) : Int) - 1) + 1).toNat = i by omega, List.take_add_one, h]
    rfl
  have hin : ∀ s, inB ss l (i : Nat) s = (inB ss l ((i : Int) - 1) s || decide (ofL ss o.key = s)) := fun s => by
    unfold inB
    rw [ht, List.any_append]
    simp [h6]
  constructor
  · rintro ⟨s, h1, h2, rfl⟩
    rw [hin, Bool.or_eq_true] at h2
    rcases h2 with h2 | h2
    · exact .inr ⟨s, h1, h2, rfl⟩
    · exact .inl (by simp at h2; omega)
  · rintro (rfl | ⟨s, h1, h2, rfl⟩)
    · exact ⟨_, ofL_le _ _, by rw [hin]; simp, rfl⟩
    · exact ⟨s, h1, by rw [hin, h2]; rfl, rfl⟩
/-! ### The two drivers -/
def askN (ph : Int) : Int := if ph = 8 then 0 else kindN ph
structure Rel (ss : List ByteArray) (l : List Opp) (d : Dr) (r : Rd) : Prop where
  tx : r.tx = d.tx
  stamp : r.stamp = d.stamp
  tries : r.tries = d.tries
  att : r.attempt = d.attempt
  asks : r.asks = askN d.phase
  quit : r.quit = d.quits
  res : r.res = d.res
  ib : -1 ≤ r.i ∧ r.i < l.length
  last : d.phase < 7 → d.last = lastR r
  write : d.phase = 4 → r.write = d.write
  nth : 1 ≤ d.phase ∧ d.phase ≤ 4 → r.i = d.nth ∧ ∃ o, l[d.nth]? = some o ∧ o.kind ≠ 6
  tl : d.phase < 7 → d.tl = touchR ss l r.i
  z0 : d.phase = 0 → r.i = -1
  left : d.phase = 7 → 0 ≤ r.told ∧ d.tl = (touchR ss l r.i).drop r.told.toNat
  fin : 7 ≤ d.phase → r.fin = d.outcome
  nr : d.phase = 8 → d.outcome ≠ 2 → d.res = []
variable {ss : List ByteArray} {l : List Opp} {d : Dr} {r : Rd}
theorem askN_ph {a b : Int} (h : a = askN b) (h0 : 0 ≤ b) (h8 : b ≤ 8) : (a = 0 ∧ b = 8) ∨ (a = 1 ∧ b = 0) ∨ (a = 2 ∧ b = 1) ∨ (a = 8 ∧ b = 2) ∨ (a = 3 ∧ b = 3) ∨ (a = 4 ∧ b = 4) ∨ (a = 5 ∧ b = 5) ∨ (a = 6 ∧ b = 6) ∨ (a = 7 ∧ b = 7) := by
  unfold askN kindN at h
  split at h
  · omega
  · split at h
    · omega
    · split at h
      · omega
      · split at h <;> omega
/-- an operation begins. -/
theorem rel_begins (h1 : r.tx = d.tx) (h2 : r.stamp = d.stamp) (h3 : r.tries = d.tries) (h4 : r.attempt = d.attempt) (h5 : r.quit = d.quits) (h6 : r.res = d.res) (h7 : d.last = lastR r) (h8 : d.tl = touchR ss l r.i) (i : Nat) (hi : r.i + 1 = i) (hil : i ≤ l.length) : Rel ss l (beginsM ss l d i) (opR l r i) := by
  unfold beginsM opR
  cases h : l[i]? with
  | none =>
    simp only
    exact ⟨h1, h2, h3, h4, rfl, h5, h6, by simp only; omega, fun _ => h7, fun h => by simp only at h; omega, fun h => by simp only at h; omega, fun _ => h8, fun h => by simp only at h; omega, fun h => by simp only at h; omega, fun h => by simp only at h; omega, fun h _ => by simp only at h; omega⟩
  | some o =>
    have hlt := (List.getElem?_eq_some_iff.1 h).1
    simp only
    by_cases hk : o.kind = 6
    · rw [if_pos hk, if_pos hk]
      exact ⟨h1, h2, h3, h4, rfl, rfl, h6, by simp only; omega, fun _ => h7, fun h => by simp only at h; omega, fun h => by simp only at h; omega, fun _ => h8, fun h => by simp only at h; omega, fun h => by simp only at h; omega, fun h => by simp only at h; omega, fun h _ => by simp only at h; omega⟩
    · rw [if_neg hk, if_neg hk]
      refine ⟨h1, h2, h3, h4, rfl, h5, h6, by simp only; omega, fun _ => h7, fun h => by simp only at h; omega, fun _ => ⟨rfl, o, h, hk⟩, fun _ => ?_, fun h => by simp only at h; omega, fun h => by simp only at h; omega, fun h => by simp only at h; omega, fun h _ => by simp only at h; omega⟩
      simp only
      rw [touchR_next h hk, h8, show (i : Int) - 1 = r.i by omega]
/-- nobody is left to be told. -/
theorem rel_behind (h1 : r.tx = d.tx) (h2 : r.stamp = d.stamp) (h3 : r.tries = d.tries) (h4 : r.attempt = d.attempt) (h5 : r.quit = d.quits) (h6 : r.res = d.res) (h7 : r.fin = d.outcome) (hb : -1 ≤ r.i ∧ r.i < l.length) (hn : ¬ r.told < (touchR ss l r.i).length) : Rel ss l (behindM d) (restR ss l r) := by
  unfold behindM restR
  have e : (r.quit = true ∨ r.tries ≤ r.attempt + 1) ↔ (d.quits = true ∨ d.tries ≤ d.attempt + 1) := by rw [h5, h3, h4]
  rw [if_neg hn]
  by_cases hc : d.outcome = 2
  · rw [if_pos hc, if_pos (h7.trans hc)]
    exact ⟨h1, h2, h3, h4, rfl, h5, h6, hb, fun h => by simp only at h; omega, fun h => by simp only at h; omega, fun h => by simp only at h; omega, fun h => by simp only at h; omega, fun h => by simp only at h; omega, fun h => by simp only at h; omega, fun _ => h7, fun _ h => absurd hc h⟩
  · rw [if_neg hc, if_neg (fun h => hc (h7.symm.trans h))]
    by_cases hq : d.quits = true ∨ d.tries ≤ d.attempt + 1
    · rw [if_pos hq, if_pos (e.2 hq)]
      exact ⟨h1, h2, h3, h4, rfl, h5, rfl, hb, fun h => by simp only at h; omega, fun h => by simp only at h; omega, fun h => by simp only at h; omega, fun h => by simp only at h; omega, fun h => by simp only at h; omega, fun h => by simp only at h; omega, fun _ => h7, fun _ _ => rfl⟩
    · rw [if_neg hq, if_neg (fun h => hq (e.1 h))]
      exact ⟨h1, h2, h3, by simp only; rw [h4], rfl, h5, rfl, by simp only; omega, fun _ => rfl, fun h => by simp only at h; omega, fun h => by simp only at h; omega, fun _ => (touchR_none ss l).symm, fun _ => rfl, fun h => by simp only at h; omega, fun h => by simp only at h; omega, fun h _ => by simp only at h; omega⟩
theorem rel_ends (h : Rel ss l d r) (hp : d.phase < 7) (s : Int) : Rel ss l (endsM d s) (endR ss l r s) := by
  have ht := h.tl hp
  unfold endsM endR
  by_cases hc : d.tl = []
  · rw [if_pos hc]
    exact rel_behind (d := { d with outcome := s, phase := 7 }) (r := { r with fin := s, told := 0, asks := 7 }) h.tx h.stamp h.tries h.att h.quit h.res rfl h.ib (by simp only; rw [← ht, hc]; simp)
  · rw [if_neg hc]
    have hl : (0 : Int) < (touchR ss l r.i).length := by
      rw [← ht]
      have := List.length_pos_iff.2 hc
      omega
    unfold restR
    rw [if_pos (by simpa using hl)]
    exact ⟨h.tx, h.stamp, h.tries, h.att, rfl, h.quit, h.res, h.ib, fun h => by simp only at h; omega, fun h => by simp only at h; omega, fun h => by simp only at h; omega, fun h => by simp only at h; omega, fun h => by simp only at h; omega, fun _ => ⟨Int.le_refl _, by simp only; exact ht⟩, fun _ => rfl, fun h _ => by simp only at h; omega⟩
/-- only the phase is another one. -/
theorem rel_ph (h : Rel ss l d r) (ph : Int) (hp : d.phase < 7) (hq : ph < 7) (h4 : ph ≠ 4) (h0 : ph ≠ 0) (hn : 1 ≤ ph ∧ ph ≤ 4 → 1 ≤ d.phase ∧ d.phase ≤ 4) : Rel ss l { d with phase := ph } { r with asks := askN ph } :=
  ⟨h.tx, h.stamp, h.tries, h.att, rfl, h.quit, h.res, h.ib, fun _ => h.last hp, fun h => by simp only at h; omega, fun h1 => h.nth (hn h1), fun _ => h.tl hp, fun h => by simp only at h; omega, fun h => by simp only at h; omega, fun h => by simp only at h; omega, fun h _ => by simp only at h; omega⟩
theorem plan_kind (hr : planErr l = 0) {i : Nat} {o : Opp} (h : l[i]? = some o) : 1 ≤ o.kind ∧ o.kind ≤ 6 := by
  obtain ⟨hlt, rfl⟩ := List.getElem?_eq_some_iff.1 h
  unfold planErr at hr
  split at hr
  · omega
  · split at hr
    · rename_i ha
      have := List.all_eq_true.1 ha _ (List.getElem_mem hlt)
      generalize l[i] = x at *
      unfold opB at this
      split at this
      · omega
      · simp at this
        split at this
        · omega
        · split at this
          · omega
          · omega
    · omega
theorem rel_told (h : Rel ss l d r) (hb : Base ss l d) (hr : planErr l = 0) (hp : d.phase ≠ 8) (p : Rep) : Rel ss l (toldM ss l d p) (tellR ss l r p) := by
  have hph0 := hb.ok.ph0
  have hph8 := hb.ok.ph8
  have hnl := hb.ok.nlen
  have hnt := hb.ok.nth
  rcases askN_ph h.asks hph0 hph8 with ⟨ha, hd⟩ | ⟨ha, hd⟩ | ⟨ha, hd⟩ | ⟨ha, hd⟩ | ⟨ha, hd⟩ | ⟨ha, hd⟩ | ⟨ha, hd⟩ | ⟨ha, hd⟩ | ⟨ha, hd⟩
  · exact absurd hd hp
  · -- opens
    have hi := h.z0 hd
    by_cases k9 : p.code = 9
    · have e1 : toldM ss l d p = endsM d 3 := by simp [toldM, homedM, hd, k9]
      have e2 : tellR ss l r p = endR ss l r 3 := by simp [tellR, ha, k9]
      rw [e1, e2]
      exact rel_ends h (by omega) 3
    by_cases k0 : p.code = 0 ∧ p.state = 1
    · have e1 : toldM ss l d p = beginsM ss l d 0 := by simp [toldM, homedM, hd, k0.1, k0.2]
      have e2 : tellR ss l r p = opR l { r with i := -1 } 0 := by simp [tellR, ha, k0.1, k0.2]
      have e : ({ r with i := -1 } : Rd) = r := by rw [← hi]
      rw [e1, e2, e]
      exact rel_begins h.tx h.stamp h.tries h.att h.quit h.res (h.last (by omega)) (h.tl (by omega)) 0 (by omega) (by omega)
    · have e1 : toldM ss l d p = d := by
        unfold toldM homedM
        rw [if_neg (by omega), if_neg (by omega), if_neg (by omega), if_neg (by omega), if_neg (by omega), if_neg (by omega), if_neg (by omega)]
      have e2 : tellR ss l r p = r := by
        unfold tellR
        rw [if_neg (by omega), if_neg (by omega), if_neg (by omega)]
        by_cases c0 : p.code = 0
        · rw [if_neg (by omega), if_neg (by omega), if_neg (by omega), if_neg (by omega), if_neg (by omega), if_neg (by omega), if_neg (by omega)]
        · rw [if_pos c0]
      rw [e1, e2]
      exact h
  · -- locks
    by_cases k9 : p.code = 9
    · have e1 : toldM ss l d p = { d with phase := 6 } := by simp [toldM, accessedM, hd, k9]
      have e2 : tellR ss l r p = { r with asks := 6 } := by simp [tellR, ha, k9]
      rw [e1, e2]
      exact rel_ph h 6 (by omega) (by decide) (by decide) (by decide) (by omega)
    by_cases k8 : p.code = 8
    · have e1 : toldM ss l d p = { d with phase := 6 } := by simp [toldM, accessedM, hd, k8]
      have e2 : tellR ss l r p = { r with asks := 6 } := by simp [tellR, ha, k8]
      rw [e1, e2]
      exact rel_ph h 6 (by omega) (by decide) (by decide) (by decide) (by omega)
    by_cases k10 : p.code = 10
    · have e1 : toldM ss l d p = { d with phase := 2 } := by simp [toldM, accessedM, hd, k10]
      have e2 : tellR ss l r p = { r with asks := 8 } := by simp [tellR, ha, k10]
      rw [e1, e2]
      exact rel_ph h 2 (by omega) (by decide) (by decide) (by decide) (by omega)
    by_cases k0 : p.code = 0
    · have e1 : toldM ss l d p = { d with phase := 3 } := by simp [toldM, accessedM, hd, k0]
      have e2 : tellR ss l r p = { r with asks := 3 } := by simp [tellR, ha, k0]
      rw [e1, e2]
      exact rel_ph h 3 (by omega) (by decide) (by decide) (by decide) (by omega)
    · have e1 : toldM ss l d p = d := by simp [toldM, accessedM, hd, k0, k8, k9, k10]
      have e2 : tellR ss l r p = r := by simp [tellR, ha, k0, k8, k9, k10]
      rw [e1, e2]
      exact h
  · -- beats
    by_cases c : p.code = 0 ∧ p.state = 3
    · have e1 : toldM ss l d p = endsM d 3 := by simp [toldM, homedM, hd, c.1, c.2]
      have e2 : tellR ss l r p = endR ss l r 3 := by simp [tellR, ha, c.1, c.2]
      rw [e1, e2]
      exact rel_ends h (by omega) 3
    · have e1 : toldM ss l d p = { d with phase := 1 } := by
        unfold toldM homedM
        rw [if_neg (by omega), if_neg (by omega), if_neg (by omega), if_neg (by omega), if_neg (by omega), if_pos hd]
      have e2 : tellR ss l r p = { r with asks := 2 } := by
        unfold tellR
        rw [if_neg (by omega), if_neg (by omega), if_pos (.inl ha), ha]
        rfl
      rw [e1, e2]
      exact rel_ph h 1 (by omega) (by decide) (by decide) (by decide) (by omega)
  · -- gets
    by_cases k9 : p.code = 9
    · have e1 : toldM ss l d p = { d with phase := 6 } := by simp [toldM, accessedM, hd, k9]
      have e2 : tellR ss l r p = { r with asks := 6 } := by simp [tellR, ha, k9]
      rw [e1, e2]
      exact rel_ph h 6 (by omega) (by decide) (by decide) (by decide) (by omega)
    by_cases k8 : p.code = 8
    · have e1 : toldM ss l d p = { d with phase := 6 } := by simp [toldM, accessedM, hd, k8]
      have e2 : tellR ss l r p = { r with asks := 6 } := by simp [tellR, ha, k8]
      rw [e1, e2]
      exact rel_ph h 6 (by omega) (by decide) (by decide) (by decide) (by omega)
    by_cases k0 : p.code = 0
    · have e1 : toldM ss l d p = gotM ss l d p := by simp [toldM, accessedM, hd, k0]
      have e2 : tellR ss l r p = getR l r p := by simp [tellR, ha, k0]
      rw [e1, e2]
      obtain ⟨e, o, ho, h6⟩ := h.nth (by omega)
      have hlt := hnt (by omega)
      obtain ⟨p1, p6⟩ := plan_kind hr ho
      have en : r.i.toNat = d.nth := by omega
      have hls := h.last (by omega)
      by_cases hw : o.kind = 1
      · have hw2 : wrB o.kind = false := by rw [hw]; decide
        have g1 : gotM ss l d p = beginsM ss l { d with write := stepW o ⟨p.v, p.h⟩ d.last, last := stepR o ⟨p.v, p.h⟩, res := d.res ++ [stepR o ⟨p.v, p.h⟩] } (d.nth + 1) := by simp [gotM, ho, hw2]
        have g2 : getR l r p = opR l { r with write := stepW o ⟨p.v, p.h⟩ (lastR r), res := r.res ++ [stepR o ⟨p.v, p.h⟩] } (d.nth + 1) := by simp [getR, en, ho, hw]
        rw [g1, g2]
        refine rel_begins (d := { d with write := stepW o ⟨p.v, p.h⟩ d.last, last := stepR o ⟨p.v, p.h⟩, res := d.res ++ [stepR o ⟨p.v, p.h⟩] }) (r := { r with write := stepW o ⟨p.v, p.h⟩ (lastR r), res := r.res ++ [stepR o ⟨p.v, p.h⟩] }) h.tx h.stamp h.tries h.att h.quit (by simp only; rw [h.res]) (by simp [lastR]) (h.tl (by omega)) (d.nth + 1) (by simp only; omega) (by omega)
      · have hw2 : wrB o.kind = true := by unfold wrB; simp; omega
        have g1 : gotM ss l d p = { d with write := stepW o ⟨p.v, p.h⟩ d.last, last := stepR o ⟨p.v, p.h⟩, res := d.res ++ [stepR o ⟨p.v, p.h⟩], phase := 4 } := by simp [gotM, ho, hw2]
        have g2 : getR l r p = { r with write := stepW o ⟨p.v, p.h⟩ (lastR r), res := r.res ++ [stepR o ⟨p.v, p.h⟩], asks := 4 } := by simp [getR, en, ho, hw]
        rw [g1, g2]
        exact ⟨h.tx, h.stamp, h.tries, h.att, rfl, h.quit, by simp only; rw [h.res], h.ib, fun _ => by simp [lastR], fun _ => by simp only; rw [hls], fun _ => ⟨e, o, ho, h6⟩, fun _ => h.tl (by omega), fun h => by simp only at h; omega, fun h => by simp only at h; omega, fun h => by simp only at h; omega, fun h _ => by simp only at h; omega⟩
    · have e1 : toldM ss l d p = d := by simp [toldM, accessedM, hd, k0, k8, k9]
      have e2 : tellR ss l r p = r := by simp [tellR, ha, k0, k8, k9]
      rw [e1, e2]
      exact h
  · -- puts
    by_cases k9 : p.code = 9
    · have e1 : toldM ss l d p = { d with phase := 6 } := by simp [toldM, accessedM, hd, k9]
      have e2 : tellR ss l r p = { r with asks := 6 } := by simp [tellR, ha, k9]
      rw [e1, e2]
      exact rel_ph h 6 (by omega) (by decide) (by decide) (by decide) (by omega)
    by_cases k8 : p.code = 8
    · have e1 : toldM ss l d p = { d with phase := 6 } := by simp [toldM, accessedM, hd, k8]
      have e2 : tellR ss l r p = { r with asks := 6 } := by simp [tellR, ha, k8]
      rw [e1, e2]
      exact rel_ph h 6 (by omega) (by decide) (by decide) (by decide) (by omega)
    by_cases k0 : p.code = 0
    · obtain ⟨e, o, ho, h6⟩ := h.nth (by omega)
      have hlt := hnt (by omega)
      have en : r.i.toNat = d.nth := by omega
      have e1 : toldM ss l d p = beginsM ss l d (d.nth + 1) := by simp [toldM, accessedM, hd, k0]
      have e2 : tellR ss l r p = opR l r (d.nth + 1) := by simp [tellR, ha, k0, en]
      rw [e1, e2]
      exact rel_begins h.tx h.stamp h.tries h.att h.quit h.res (h.last (by omega)) (h.tl (by omega)) (d.nth + 1) (by omega) (by omega)
    · have e1 : toldM ss l d p = d := by simp [toldM, accessedM, hd, k0, k8, k9]
      have e2 : tellR ss l r p = r := by simp [tellR, ha, k0, k8, k9]
      rw [e1, e2]
      exact h
  · -- decides
    by_cases c : p.code = 0 ∧ (p.state = 2 ∨ p.state = 3)
    · have e1 : toldM ss l d p = endsM d p.state := by
        unfold toldM homedM
        rw [if_neg (by omega), if_neg (by omega), if_neg (by omega), if_neg (by omega), if_neg (by omega), if_neg (by omega), if_pos (by omega)]
      have e2 : tellR ss l r p = endR ss l r p.state := by
        unfold tellR
        rw [if_neg (by omega), if_neg (by omega), if_neg (by omega), if_neg (by omega), if_neg (by omega), if_neg (by omega), if_neg (by omega), if_neg (by omega), if_pos (by omega)]
      rw [e1, e2]
      exact rel_ends h (by omega) _
    · have e1 : toldM ss l d p = d := by
        unfold toldM homedM
        rw [if_neg (by omega), if_neg (by omega), if_neg (by omega), if_neg (by omega), if_neg (by omega), if_neg (by omega), if_neg (by omega)]
      have e2 : tellR ss l r p = r := by
        unfold tellR
        rw [if_neg (by omega), if_neg (by omega), if_neg (by omega)]
        by_cases c0 : p.code = 0
        · rw [if_neg (by omega), if_neg (by omega), if_neg (by omega), if_neg (by omega), if_neg (by omega), if_neg (by omega), if_neg (by omega)]
        · rw [if_pos c0]
      rw [e1, e2]
      exact h
  · -- kills
    by_cases c : p.code = 0 ∧ (p.state = 2 ∨ p.state = 3)
    · have e1 : toldM ss l d p = endsM d p.state := by
        unfold toldM homedM
        rw [if_neg (by omega), if_neg (by omega), if_neg (by omega), if_neg (by omega), if_neg (by omega), if_neg (by omega), if_pos (by omega)]
      have e2 : tellR ss l r p = endR ss l r p.state := by
        unfold tellR
        rw [if_neg (by omega), if_neg (by omega), if_neg (by omega), if_neg (by omega), if_neg (by omega), if_neg (by omega), if_neg (by omega), if_neg (by omega), if_pos (by omega)]
      rw [e1, e2]
      exact rel_ends h (by omega) _
    · have e1 : toldM ss l d p = d := by
        unfold toldM homedM
        rw [if_neg (by omega), if_neg (by omega), if_neg (by omega), if_neg (by omega), if_neg (by omega), if_neg (by omega), if_neg (by omega)]
      have e2 : tellR ss l r p = r := by
        unfold tellR
        rw [if_neg (by omega), if_neg (by omega), if_neg (by omega)]
        by_cases c0 : p.code = 0
        · rw [if_neg (by omega), if_neg (by omega), if_neg (by omega), if_neg (by omega), if_neg (by omega), if_neg (by omega), if_neg (by omega)]
        · rw [if_pos c0]
      rw [e1, e2]
      exact h
  · -- finishes
    obtain ⟨t0, ht⟩ := h.left hd
    have hne := hb.ok.left hd
    have hlt : r.told.toNat < (touchR ss l r.i).length := by
      rcases Nat.lt_or_ge r.told.toNat (touchR ss l r.i).length with h | h
      · exact h
      · rw [List.drop_eq_nil_of_le h] at ht; exact absurd ht hne
    by_cases c0 : p.code = 0
    · have htl : d.tl.tail = (touchR ss l r.i).drop (r.told.toNat + 1) := by rw [ht, List.tail_drop]
      have e2 : tellR ss l r p = restR ss l { r with told := r.told + 1 } := by simp [tellR, ha, c0]
      by_cases hc : d.tl.tail = []
      · have e1 : toldM ss l d p = behindM { d with tl := [] } := by simp only [toldM, hd, c0, hc]; simp
        rw [e1, e2]
        refine rel_behind (d := { d with tl := [] }) (r := { r with told := r.told + 1 }) h.tx h.stamp h.tries h.att h.quit h.res (h.fin (by omega)) h.ib ?_
        simp only
        rw [htl, List.drop_eq_nil_iff] at hc
        omega
      · have e1 : toldM ss l d p = { d with tl := d.tl.tail } := by simp only [toldM, hd, c0, if_neg hc]; simp
        rw [e1, e2]
        have hlt2 : r.told.toNat + 1 < (touchR ss l r.i).length := by
          rcases Nat.lt_or_ge (r.told.toNat + 1) (touchR ss l r.i).length with h | h
          · exact h
          · rw [List.drop_eq_nil_of_le h] at htl; exact absurd htl hc
        unfold restR
        rw [if_pos (by simp only; omega)]
        exact ⟨h.tx, h.stamp, h.tries, h.att, h.asks, h.quit, h.res, h.ib, fun h => by simp only at h; omega, fun h => by simp only at h; omega, fun h => by simp only at h; omega, fun h => by simp only at h; omega, fun h => by simp only at h; omega, fun _ => ⟨by simp only; omega, by simp only; rw [htl, show (r.told + 1).toNat = r.told.toNat + 1 by omega]⟩, fun _ => h.fin (by omega), fun h _ => by simp only at h; omega⟩
    · have e1 : toldM ss l d p = d := by simp [toldM, hd, c0]
      have e2 : tellR ss l r p = r := by simp [tellR, ha, c0]
      rw [e1, e2]
      exact h
/-! ### What they ask for -/
def rnS (ss : List ByteArray) (l : List Opp) (r : Rd) : Int :=
  if r.asks = 0 then 0 else if r.asks = 7 then (touchR ss l r.i).getD r.told.toNat 0 else if r.asks < 2 ∨ 4 < r.asks then r.tx % (ss.length + 1 : Nat) else match l[r.i.toNat]? with | none => 0 | some o => ofL ss o.key
def rnC (ss : List ByteArray) (l : List Opp) (r : Rd) : Cmd :=
  if r.asks = 0 then czero
  else if r.asks = 7 then ⟨7, r.tx, r.attempt, 0, (touchR ss l r.i).getD r.told.toNat 0, ⟨#[]⟩, ⟨#[]⟩, 0, r.fin == 2⟩
  else if r.asks < 2 ∨ 4 < r.asks then ⟨r.asks, r.tx, r.attempt, if r.asks = 1 then r.stamp else 0, 0, ⟨#[]⟩, ⟨#[]⟩, 0, false⟩
  else match l[r.i.toNat]? with
  | none => czero
  | some o => ⟨r.asks, r.tx, r.attempt, 0, 3 * r.i + r.asks - 2, o.key, if r.asks = 4 then r.write.v else ⟨#[]⟩, if r.asks = 2 then (if o.kind = 1 then 1 else 2) else 0, if r.asks = 4 then r.write.h else false⟩
theorem rel_next (h : Rel ss l d r) (hb : Base ss l d) (hr : planErr l = 0) : rnS ss l r = nextS ss l d ∧ rnC ss l r = nextC l d ∧ (r.asks = 0 ↔ d.phase = 8) := by
  have hph0 := hb.ok.ph0
  have hph8 := hb.ok.ph8
  unfold rnS rnC nextS nextC
  rcases askN_ph h.asks hph0 hph8 with ⟨ha, hd⟩ | ⟨ha, hd⟩ | ⟨ha, hd⟩ | ⟨ha, hd⟩ | ⟨ha, hd⟩ | ⟨ha, hd⟩ | ⟨ha, hd⟩ | ⟨ha, hd⟩ | ⟨ha, hd⟩
  · simp [ha, hd]
  · simp [ha, hd, h.tx, h.att, h.stamp, homeM]
  · obtain ⟨e, o, ho, h6⟩ := h.nth (by omega)
    obtain ⟨k1, k6⟩ := plan_kind hr ho
    have em : modeN o.kind = if o.kind = 1 then 1 else 2 := by
      unfold modeN wrB
      by_cases h1 : o.kind = 1
      · rw [h1]; decide
      · rw [if_pos (by simp; omega), if_neg h1]
    simp [ha, hd, h.tx, h.att, accS, accC, ho, em, e]
  · simp [ha, hd, h.tx, h.att, homeM, cmd0]
  · obtain ⟨e, o, ho, h6⟩ := h.nth (by omega)
    simp [ha, hd, h.tx, h.att, accS, accC, ho, e]
    omega
  · obtain ⟨e, o, ho, h6⟩ := h.nth (by omega)
    simp [ha, hd, h.tx, h.att, accS, accC, ho, e, h.write hd]
    omega
  · simp [ha, hd, h.tx, h.att, homeM, cmd0]
  · simp [ha, hd, h.tx, h.att, homeM, cmd0]
  · obtain ⟨t0, ht⟩ := h.left hd
    have e : (touchR ss l r.i)[r.told.toNat]?.getD 0 = d.tl.head?.getD 0 := by rw [ht, List.head?_drop]
    simp [ha, hd, h.tx, h.att, e, h.fin (by omega)]
end Go.Proofs.YtmifgnibalbgjaaDoor
