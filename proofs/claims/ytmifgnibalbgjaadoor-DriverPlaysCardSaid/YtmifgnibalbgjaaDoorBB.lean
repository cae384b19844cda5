/- A numeral's digits: what the document's Number is. -/
import Derived.Test.YtmifgnibalbgjaaDoorBA
import Derived.Lib.Atoi
namespace Go.Proofs.YtmifgnibalbgjaaDoor
open Go.RowKit
open Go.Lib (decDigits itoa decFrom digitVal parseUint10 parseMag atoiAll nDigits)
theorem decFrom_append : ∀ (a b : List UInt8) (acc : Nat), decFrom acc (a ++ b) = (decFrom acc a).bind fun n => decFrom n b
  | [], b, acc => rfl
  | c :: a, b, acc => by
    simp only [List.cons_append, decFrom]
    cases digitVal c with
    | none => rfl
    | some d => exact decFrom_append a b _
theorem digitVal_of {d : Nat} (h : d < 10) : digitVal (UInt8.ofNat (48 + d)) = some d := by
  have : ∀ i : Fin 10, digitVal (UInt8.ofNat (48 + i.val)) = some i.val := by decide +kernel
  exact this ⟨d, h⟩
theorem dec_digits (u : Nat) : decFrom 0 (decDigits u) = some u := by
  induction u using Nat.strongRecOn with
  | _ u ih =>
    by_cases h : u < 10
    · rw [Lib.decDigits_one h]
      simp only [decFrom, digitVal_of h]
      simp
    · rw [decDigits, dif_neg h, decFrom_append, ih (u / 10) (by omega)]
      simp only [Option.bind_some, decFrom, digitVal_of (show u % 10 < 10 by omega)]
      congr 1
      omega
theorem dec_le : ∀ (l : List UInt8) (acc u : Nat), decFrom acc l = some u → acc ≤ u
  | [], acc, u, h => by simp only [decFrom, Option.some.injEq] at h; omega
  | c :: l, acc, u, h => by
    simp only [decFrom] at h
    cases hc : digitVal c with
    | none => rw [hc] at h; cases h
    | some d =>
      rw [hc] at h
      have := dec_le l _ u h
      omega
theorem parse_dec : ∀ (l : List UInt8) (acc u : Nat), decFrom acc l = some u → u < 9223372036854775808 → parseUint10 acc l = .ok u
  | [], acc, u, h, _ => by simp only [decFrom, Option.some.injEq] at h; subst h; rfl
  | c :: l, acc, u, h, hu => by
    simp only [decFrom] at h
    cases hc : digitVal c with
    | none => rw [hc] at h; cases h
    | some d =>
      rw [hc] at h
      have h1 := dec_le l _ u h
      have h2 := Lib.digitVal_eq hc
      obtain ⟨h3, h4, h5⟩ := h2
      simp only [parseUint10]
      rw [if_pos ⟨h3, h4⟩, if_neg (by omega), if_neg (by omega), ← h5]
      exact parse_dec l _ u h hu
theorem dec_head (u : Nat) : ∃ c r, decDigits u = c :: r ∧ 48 ≤ c.toNat ∧ c.toNat ≤ 57 := by
  have h := dec_digits u
  cases e : decDigits u with
  | nil =>
    have := Lib.decDigits_length u
    have h1 := Lib.nDigits_pos u
    rw [e] at this
    simp only [List.length_nil] at this
    omega
  | cons c r =>
    rw [e] at h
    simp only [decFrom] at h
    cases hc : digitVal c with
    | none => rw [hc] at h; cases h
    | some d =>
      obtain ⟨h3, h4, h5⟩ := Lib.digitVal_eq hc
      exact ⟨c, r, rfl, h3, h4⟩
theorem atoi_itoa (v : Int) (h0 : -9223372036854775808 < v) (h1 : v < 9223372036854775808) : atoiAll (itoa v) = .ok v := by
  by_cases hv : v < 0
  · obtain ⟨u, rfl⟩ : ∃ u : Nat, v = -(u : Int) := ⟨v.natAbs, by omega⟩
    rw [Lib.itoa_neg u (by omega)]
    obtain ⟨c, r, e, _⟩ := dec_head u
    have h2 : parseMag (decDigits u) = .ok u := by
      unfold parseMag
      rw [if_neg (by rw [e]; simp)]
      exact parse_dec _ _ _ (dec_digits u) (by omega)
    unfold atoiAll
    simp only
    rw [if_pos (.inr (by decide)), h2]
    simp only
    rw [if_neg (by omega), if_neg (by omega)]
    rfl
  · obtain ⟨u, rfl⟩ : ∃ u : Nat, v = (u : Int) := ⟨v.toNat, by omega⟩
    rw [Lib.itoa_nonneg]
    obtain ⟨c, r, e, c1, c2⟩ := dec_head u
    have h2 : parseMag (decDigits u) = .ok u := by
      unfold parseMag
      rw [if_neg (by rw [e]; simp)]
      exact parse_dec _ _ _ (dec_digits u) (by omega)
    rw [e] at h2 ⊢
    unfold atoiAll
    simp only
    rw [if_neg (by omega), h2]
    simp only
    rw [if_neg (by omega), if_neg (by omega), if_neg (by omega)]
/-- What stands behind a sign. -/
def magL (s : ByteArray) : List UInt8 := match s.data.toList with | [] => [] | c :: r => if c = 45 then r else c :: r
def negL (s : ByteArray) : Bool := match s.data.toList with | [] => false | c :: _ => c == 45
def sgnN (b : Bool) (n : Nat) : Int := if b then -(n : Int) else n
/-- The document's number. -/
def refNum (s : ByteArray) : Int :=
  if (magL s).length = 0 ∨ 16 < (magL s).length then 0
  else match decFrom 0 (magL s) with
  | none => 0
  | some n => if clampN (sgnN (negL s) n) = sgnN (negL s) n ∧ itoaS (sgnN (negL s) n) = s then sgnN (negL s) n else 0
theorem itoa_parts (v : Int) (h : clampN v = v) : (magL (itoaS v)).length ≠ 0 ∧ (magL (itoaS v)).length ≤ 16 ∧ decFrom 0 (magL (itoaS v)) = some v.natAbs ∧ sgnN (negL (itoaS v)) v.natAbs = v := by
  have hb := clampN_bd v
  rw [h] at hb
  have hlen : ∀ u : Nat, u ≤ 1125899906842624 → (decDigits u).length ≠ 0 ∧ (decDigits u).length ≤ 16 := fun u hu => by
    rw [Lib.decDigits_length]
    refine ⟨by have := Lib.nDigits_pos u; omega, ?_⟩
    rcases Nat.lt_or_ge 16 (nDigits u) with hc | hc
    · exfalso
      have hp : 10 ^ 16 ≤ u := by
        have hz : ∀ (k u : Nat), k < nDigits u → 10 ^ k ≤ u ∨ k = 0 := by
          intro k
          induction k with
          | zero => intro u _; exact .inr rfl
          | succ k ih =>
            intro u hk
            have hu10 : ¬ u < 10 := fun hs => by rw [Lib.nDigits_small hs] at hk; omega
            rw [Lib.nDigits_big hu10] at hk
            rcases ih (u / 10) (by omega) with h | h
            · left
              rw [Nat.pow_succ]
              omega
            · subst h
              left
              simp
              omega
        rcases hz 16 u hc with h | h
        · exact h
        · omega
      omega
    · exact hc
  unfold magL negL itoaS
  simp only
  by_cases hv : v < 0
  · obtain ⟨u, rfl⟩ : ∃ u : Nat, v = -(u : Int) := ⟨v.natAbs, by omega⟩
    rw [Lib.itoa_neg u (by omega)]
    simp only [if_true]
    have e : (-(u : Int)).natAbs = u := by omega
    rw [e]
    obtain ⟨l1, l2⟩ := hlen u (by omega)
    exact ⟨l1, l2, dec_digits u, rfl⟩
  · obtain ⟨u, rfl⟩ : ∃ u : Nat, v = (u : Int) := ⟨v.toNat, by omega⟩
    rw [Lib.itoa_nonneg]
    obtain ⟨c, r, e, c1, c2⟩ := dec_head u
    have hc : c ≠ 45 := fun h => by subst h; simp at c1
    obtain ⟨l1, l2⟩ := hlen u (by omega)
    have hd := dec_digits u
    rw [e] at l1 l2 hd ⊢
    simp only [if_neg hc]
    have hb2 : (c == 45) = false := by simpa using hc
    rw [hb2]
    have e2 : (u : Int).natAbs = u := by omega
    rw [e2]
    exact ⟨l1, l2, hd, rfl⟩
theorem refNum_eq (s : ByteArray) : refNum s = numB s := by
  by_cases hx : ∃ v, clampN v = v ∧ itoaS v = s
  · obtain ⟨v, hc, rfl⟩ := hx
    obtain ⟨p1, p2, p3, p4⟩ := itoa_parts v hc
    have hb := clampN_bd v
    rw [hc] at hb
    unfold refNum numB
    rw [if_neg (by omega), p3]
    simp only
    rw [p4, if_pos ⟨hc, rfl⟩]
    have ha : atoiAll (itoaS v).data.toList = .ok v := by
      unfold itoaS
      simp only
      exact atoi_itoa v (by omega) (by omega)
    rw [ha]
    simp only [if_true]
    rw [if_pos hc]
  · have h1 : refNum s = 0 := by
      unfold refNum
      split
      · rfl
      · split
        · rfl
        · split
          · rename_i h
            exact absurd ⟨_, h.1, h.2⟩ hx
          · rfl
    have h2 : numB s = 0 := by
      unfold numB
      split
      · split
        · split
          · rename_i h1 h2
            exact absurd ⟨_, h2, h1⟩ hx
          · rfl
        · rfl
      · rfl
    rw [h1, h2]
end Go.Proofs.YtmifgnibalbgjaaDoor
