/- What holds of a driver stays, whatever it is told. -/
import Derived.Test.YtmifgnibalbgjaaDoorAB
namespace Go.Proofs.YtmifgnibalbgjaaDoor
open Go.RowKit
variable {ss : List ByteArray} {l : List Opp} {d : Dr} {stamp got st : Int}
def c1 (k : Int) (p : Rep) : Prop := (k = 1 ∨ k = 8 ∨ k = 5 ∨ k = 6) ∧ p.code = 0 ∧ (p.state = 3 ∨ p.state = 2 ∧ k ≠ 8 ∧ k ≠ 1)
instance {k : Int} {p : Rep} : Decidable (c1 k p) := by unfold c1; infer_instance
def stN (k : Int) (p : Rep) (st : Int) : Int := if c1 k p then (if k ≠ 1 then p.state else st) else if k = 1 ∧ p.code = 9 then 3 else st
def gotN (k : Int) (p : Rep) (got : Int) : Int := if c1 k p then got else if k = 1 ∧ p.code = 9 then got else if k = 3 ∧ p.code = 0 then got + 1 else got
theorem base_ph (h : Base ss l d) (hp7 : d.phase < 7) (ph : Int) (h1 : 1 ≤ ph) (h6 : ph ≤ 6) (hk : ph = 4 → d.nth < l.length) (hr : ph = 1 ∨ ph = 2 ∨ ph = 3 → d.res.length ≤ d.nth ∧ d.nth < l.length) : Base ss l { d with phase := ph } := by
  obtain ⟨⟨b1, b2, b3, b4, b5, b6, b7, b8, b9, b10, b11, b12⟩, c1, c2⟩ := h
  exact ⟨⟨b1, b2, b3, by simp only; omega, by simp only; omega, fun h => by simp only at h ⊢; rcases h with h | h | h <;> omega, fun h => by simp only at h; omega, b8, b9, b10, fun _ => b11 hp7, b12⟩, fun h => by simp only at h; omega, hr⟩
/-- an end is told. -/
theorem inv_ends (h : Base ss l d) (hs : d.stamp = stamp) (hp : d.phase < 7) (s : Int) (h23 : s = 2 ∨ s = 3) (got : Int) : Inv ss l stamp (endsM d s) d.attempt got s := by
  obtain ⟨⟨s1, s2, s3⟩, e1, e2, e3⟩ := ends_spec (d := d) s
  have hsm : Same d (endsM d s) := ⟨s1, s2, s3⟩
  rcases e3 with ⟨p, a, o, t, tn⟩ | ⟨p, a, o, t⟩ | ⟨p, n2, at1, a, o, t, rs⟩
  · exact ⟨base_end h.ok hsm e1 e2 (by rw [t]; exact Nat.le_refl _) (.inl ⟨p, by rw [t]; exact tn⟩) (.inl a), by omega, .inr (.inr ⟨by omega, a, o.symm, h23⟩)⟩
  · exact ⟨base_end h.ok hsm e1 e2 (by rw [t]; exact Nat.zero_le _) (.inr (.inl p)) (.inl a), by omega, .inr (.inr ⟨by omega, a, o.symm, h23⟩)⟩
  · exact ⟨base_end h.ok hsm e1 e2 (by rw [t]; exact Nat.zero_le _) (.inr (.inr ⟨p, t, rs⟩)) (.inr ⟨a, at1⟩), by omega, .inr (.inl ⟨p, a, by omega⟩)⟩
theorem inv_acc (h : Base ss l d) (hs : d.stamp = stamp) (hp : d.phase = 1 ∨ d.phase = 3 ∨ d.phase = 4) (hst : st = 0) (hg : GotOk l d got) (p : Rep) : Inv ss l stamp (accessedM ss l d p) d.attempt (if d.phase = 3 ∧ p.code = 0 then got + 1 else got) st := by
  obtain ⟨g0, g1, g4, g5⟩ := hg
  have hnth := h.ok.nth hp
  have hrl := h.ok.reslen
  have htl := h.ok.tllen
  have hri := h.ok.rise (by omega)
  unfold accessedM
  split
  · rw [if_neg (by rename_i h9; omega)]
    exact ⟨base_ph h (by omega) 6 (by decide) (by decide) (fun h => by omega) (fun h => by omega), hs, .inl ⟨by simp only; omega, rfl, hst, fun h => by simp only at h; omega, fun h => by simp only at h; omega, fun h => by simp only at h; omega, fun h => by simp only at h; omega⟩⟩
  · rename_i h98
    split
    · rename_i h10
      rw [if_neg (by omega)]
      have h1 := h.r1 (by omega)
      exact ⟨base_ph h (by omega) 2 (by decide) (by decide) (fun h => by omega) (fun _ => h1), hs, .inl ⟨by simp only; omega, rfl, hst, fun h => by simp only at h; omega, fun _ => by have := g1 (by omega); simp only; exact this, fun h => by simp only at h; omega, fun h => by simp only at h; omega⟩⟩
    · split
      · rename_i h0
        rw [if_neg (by omega)]
        exact ⟨h, hs, .inl ⟨by omega, rfl, hst, g0, g1, g4, g5⟩⟩
      · rename_i h0
        have hc0 : p.code = 0 := by omega
        split
        · rename_i h1
          rw [if_neg (by omega)]
          have h2 := h.r1 (by omega)
          exact ⟨base_ph h (by omega) 3 (by decide) (by decide) (fun h => by omega) (fun _ => h2), hs, .inl ⟨by simp only; omega, rfl, hst, fun h => by simp only at h; omega, fun _ => by have := g1 (by omega); simp only; exact this, fun h => by simp only at h; omega, fun h => by simp only at h; omega⟩⟩
        · rename_i hn1
          split
          · rename_i h3
            rw [if_pos ⟨h3, hc0⟩]
            have hgn := g1 (by omega)
            obtain ⟨hr1, -⟩ := h.r1 (by omega)
            unfold gotM
            rw [List.getElem?_eq_getElem hnth]
            simp only
            split
            · refine ⟨⟨⟨h.ok.right, h.ok.len, h.ok.tx, by simp only; omega, by simp only; omega, fun _ => hnth, fun h => by simp only at h; omega, by simp only [List.length_append, List.length_singleton]; omega, htl, h.ok.nlen, fun _ => hri, h.ok.att⟩, fun h => by simp only at h; omega, fun h => by simp only at h; omega⟩, hs, .inl ⟨by simp only; omega, rfl, hst, fun h => by simp only at h; omega, fun h => by simp only at h; omega, fun _ => by simp only; omega, fun h => by simp only at h; omega⟩⟩
            · have hd1 : DOk ss l { d with write := stepW l[d.nth] ⟨p.v, p.h⟩ d.last, last := stepR l[d.nth] ⟨p.v, p.h⟩, res := d.res ++ [stepR l[d.nth] ⟨p.v, p.h⟩] } :=
                ⟨h.ok.right, h.ok.len, h.ok.tx, h.ok.ph0, h.ok.ph8, h.ok.nth, h.ok.left, by simp only [List.length_append, List.length_singleton]; omega, htl, h.ok.nlen, h.ok.rise, h.ok.att⟩
              obtain ⟨k1, k2, k3, k4, k5⟩ := base_begins hd1 (d.nth + 1) (by omega) (by simp only [List.length_append, List.length_singleton]; omega) htl hri
              refine ⟨k1, by rw [k5]; exact hs, .inl ⟨k2, k4, hst, ?_⟩⟩
              have e : got + 1 = ((d.nth + 1 : Nat) : Int) := by omega
              rw [e]
              exact k3
          · rename_i hn3
            rw [if_neg (by omega)]
            have h4 : d.phase = 4 := by omega
            have hg4 := g4 h4
            obtain ⟨k1, k2, k3, k4, k5⟩ := base_begins h.ok (d.nth + 1) (by omega) hrl htl hri
            refine ⟨k1, by rw [k5]; exact hs, .inl ⟨k2, k4, hst, ?_⟩⟩
            have e : got = ((d.nth + 1 : Nat) : Int) := by omega
            rw [e]
            exact k3
end Go.Proofs.YtmifgnibalbgjaaDoor
