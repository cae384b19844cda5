/- What holds of a driver stays, whatever it is told: all states. -/
import Derived.Test.YtmifgnibalbgjaaDoorAC
namespace Go.Proofs.YtmifgnibalbgjaaDoor
open Go.RowKit
variable {ss : List ByteArray} {l : List Opp} {d : Dr} {stamp got st : Int}
/-- the command's kind. -/
def kindN (ph : Int) : Int := if ph = 0 then 1 else if ph = 1 then 2 else if ph = 2 then 8 else ph
theorem stN_c1 {k : Int} {p : Rep} {st : Int} (h : c1 k p) (hk : k ≠ 1) : stN k p st = p.state := by unfold stN; rw [if_pos h, if_pos hk]
theorem stN_c1' {k : Int} {p : Rep} {st : Int} (hk : k = 1) (h9 : p.code ≠ 9) : stN k p st = st := by
  unfold stN
  by_cases h : c1 k p
  · rw [if_pos h, if_neg (by omega)]
  · rw [if_neg h, if_neg (by omega)]
theorem stN_9 {k : Int} {p : Rep} {st : Int} (hk : k = 1) (h9 : p.code = 9) : stN k p st = 3 := by
  unfold stN
  have h : ¬ c1 k p := by unfold c1; omega
  rw [if_neg h, if_pos ⟨hk, h9⟩]
theorem stN_no {k : Int} {p : Rep} {st : Int} (h : ¬ c1 k p) (hk : k ≠ 1) : stN k p st = st := by unfold stN; rw [if_neg h, if_neg (by omega)]
theorem gotN_no {k : Int} {p : Rep} {got : Int} (h : k ≠ 3) : gotN k p got = got := by
  unfold gotN
  by_cases h1 : c1 k p
  · rw [if_pos h1]
  · rw [if_neg h1]
    by_cases h2 : k = 1 ∧ p.code = 9
    · rw [if_pos h2]
    · rw [if_neg h2, if_neg (by omega)]
theorem gotN_at {k : Int} {p : Rep} {got : Int} (h1 : ¬ c1 k p) (hk : k ≠ 1) : gotN k p got = if k = 3 ∧ p.code = 0 then got + 1 else got := by
  unfold gotN
  rw [if_neg h1, if_neg (by omega)]
theorem inv_hom (h : Base ss l d) (hs : d.stamp = stamp) (hp : d.phase = 0 ∨ d.phase = 2 ∨ d.phase = 5 ∨ d.phase = 6) (hst : st = 0) (hg : GotOk l d got) (p : Rep) : Inv ss l stamp (homedM ss l d p) d.attempt (gotN (kindN d.phase) p got) (stN (kindN d.phase) p st) := by
  obtain ⟨g0, g1, g4, g5⟩ := hg
  unfold homedM
  rcases hp with hp | hp | hp | hp
  · have hk : kindN d.phase = 1 := by unfold kindN; rw [if_pos hp]
    rw [hk]
    by_cases h9 : p.code = 9
    · rw [if_pos ⟨hp, h9⟩]
      have e : stN 1 p st = 3 := stN_9 rfl h9
      rw [e]
      exact inv_ends h hs (by omega) 3 (.inr rfl) _
    · rw [if_neg (by omega)]
      have e : stN 1 p st = st := stN_c1' rfl h9
      have e2 : gotN 1 p got = got := gotN_no (by decide)
      rw [e, e2]
      by_cases h1 : p.code = 0 ∧ p.state = 1
      · rw [if_pos ⟨hp, h1.1, h1.2⟩]
        obtain ⟨z1, z2⟩ := h.z0 hp
        obtain ⟨k1, k2, k3, k4, k5⟩ := base_begins h.ok 0 (Nat.zero_le _) (by rw [z2]; exact Nat.le_refl _) (by rw [z1]; exact Nat.le_refl _) (by rw [z1]; exact List.Pairwise.nil)
        refine ⟨k1, by rw [k5]; exact hs, .inl ⟨k2, k4, hst, ?_⟩⟩
        have e : got = ((0 : Nat) : Int) := by have := g0 hp; omega
        rw [e]
        exact k3
      · rw [if_neg (by omega), if_neg (by omega), if_neg (by omega), if_neg (by omega)]
        exact ⟨h, hs, .inl ⟨by omega, rfl, hst, g0, g1, g4, g5⟩⟩
  · have hk : kindN d.phase = 8 := by unfold kindN; rw [if_neg (by omega), if_neg (by omega), if_pos hp]
    rw [hk, if_neg (by omega), if_neg (by omega)]
    by_cases h3 : p.code = 0 ∧ p.state = 3
    · rw [if_pos ⟨hp, h3.1, h3.2⟩]
      have e : stN 8 p st = 3 := (stN_c1 (by unfold c1; omega) (by decide)).trans h3.2
      rw [e]
      exact inv_ends h hs (by omega) 3 (.inr rfl) _
    · rw [if_neg (by omega), if_pos hp]
      have e : stN 8 p st = st := stN_no (by unfold c1; omega) (by decide)
      have e2 : gotN 8 p got = got := gotN_no (by decide)
      rw [e, e2]
      have h1 := h.r1 (by omega)
      exact ⟨base_ph h (by omega) 1 (by decide) (by decide) (fun h => by omega) (fun _ => h1), hs, .inl ⟨by simp only; omega, rfl, hst, fun h => by simp only at h; omega, fun _ => by have := g1 (by omega); simp only; exact this, fun h => by simp only at h; omega, fun h => by simp only at h; omega⟩⟩
  all_goals
    have hk : kindN d.phase = d.phase := by unfold kindN; rw [if_neg (by omega), if_neg (by omega), if_neg (by omega)]
    rw [hk, if_neg (by omega), if_neg (by omega), if_neg (by omega), if_neg (by omega)]
    by_cases h3 : p.code = 0 ∧ (p.state = 2 ∨ p.state = 3)
    · rw [if_pos (by omega)]
      have e : stN d.phase p st = p.state := stN_c1 (by unfold c1; omega) (by omega)
      rw [e]
      exact inv_ends h hs (by omega) p.state h3.2 _
    · rw [if_neg (by omega)]
      have e : stN d.phase p st = st := stN_no (by unfold c1; omega) (by omega)
      have e2 : gotN d.phase p got = got := gotN_no (by omega)
      rw [e, e2]
      exact ⟨h, hs, .inl ⟨by omega, rfl, hst, g0, g1, g4, g5⟩⟩
theorem inv_told (h : Base ss l d) (hs : d.stamp = stamp) (h1 : Inv1 l d got st) (hp : d.phase ≠ 8) (p : Rep) : Inv ss l stamp (toldM ss l d p) d.attempt (gotN (kindN d.phase) p got) (stN (kindN d.phase) p st) := by
  have hph0 := h.ok.ph0
  have hph8 := h.ok.ph8
  unfold toldM
  by_cases ha : d.phase = 1 ∨ d.phase = 3 ∨ d.phase = 4
  · rw [if_pos ha]
    rcases h1 with ⟨_, hst, hg⟩ | ⟨h7, _⟩
    · have hk : kindN d.phase = 2 ∨ kindN d.phase = 3 ∧ d.phase = 3 ∨ kindN d.phase = 4 := by
        unfold kindN
        rcases ha with h | h | h
        · left; rw [if_neg (by omega), if_pos h]
        · right; left; rw [if_neg (by omega), if_neg (by omega), if_neg (by omega)]; exact ⟨h, h⟩
        · right; right; rw [if_neg (by omega), if_neg (by omega), if_neg (by omega)]; exact h
      have hk3 : kindN d.phase = 3 ↔ d.phase = 3 := by
        unfold kindN
        rcases ha with h | h | h
        · rw [if_neg (by omega), if_pos h]; omega
        · rw [if_neg (by omega), if_neg (by omega), if_neg (by omega)]
        · rw [if_neg (by omega), if_neg (by omega), if_neg (by omega)]
      generalize kindN d.phase = k at *
      have hc : ¬ c1 k p := by unfold c1; omega
      have e : stN k p st = st := stN_no hc (by omega)
      have e2 : gotN k p got = if d.phase = 3 ∧ p.code = 0 then got + 1 else got := by
        rw [gotN_at hc (by omega)]
        by_cases h3 : d.phase = 3 ∧ p.code = 0
        · rw [if_pos h3, if_pos (by omega)]
        · rw [if_neg h3, if_neg (by omega)]
      rw [e, e2]
      exact inv_acc h hs ha hst hg p
    · omega
  · rw [if_neg ha]
    by_cases h7 : d.phase = 7
    · rw [if_pos h7]
      have hk : kindN d.phase = 7 := by unfold kindN; rw [if_neg (by omega), if_neg (by omega), if_neg (by omega)]; exact h7
      rw [hk]
      have e : stN 7 p st = st := stN_no (by unfold c1; omega) (by decide)
      have e2 : gotN 7 p got = got := gotN_no (by decide)
      rw [e, e2]
      rcases h1 with ⟨h6, _⟩ | ⟨_, hst, h23⟩
      · omega
      · have hne := h.ok.left h7
        have hlt : d.tl.tail.length ≤ d.tl.length := by rw [List.length_tail]; omega
        split
        · split
          · obtain ⟨⟨s1, s2, s3⟩, e1, e2', e3, e4⟩ := behind_spec (d := { d with tl := [] }) rfl
            have hsm : Same d (behindM { d with tl := [] }) := ⟨s1, s2, s3⟩
            rcases e4 with ⟨p1, a, o⟩ | ⟨p1, n2, at1, a, o, rs⟩
            · exact ⟨base_end h.ok hsm e1 e3 (by rw [e2']; exact Nat.zero_le _) (.inr (.inl p1)) (.inl a), by rw [s2]; exact hs, .inr (.inr ⟨by omega, a, by rw [o]; exact hst, h23⟩)⟩
            · simp only at n2
              exact ⟨base_end h.ok hsm e1 e3 (by rw [e2']; exact Nat.zero_le _) (.inr (.inr ⟨p1, e2', rs⟩)) (.inr ⟨a, at1⟩), by rw [s2]; exact hs, .inr (.inl ⟨p1, a, by omega⟩)⟩
          · rename_i hn
            exact ⟨base_end (e := { d with tl := d.tl.tail }) h.ok ⟨rfl, rfl, rfl⟩ rfl (Nat.le_refl _) hlt (.inl ⟨h7, hn⟩) (.inl rfl), hs, .inr (.inr ⟨by simp only; omega, rfl, hst, h23⟩)⟩
        · exact ⟨h, hs, .inr (.inr ⟨by omega, rfl, hst, h23⟩)⟩
    · rw [if_neg h7]
      rcases h1 with ⟨_, hst, hg⟩ | ⟨h7', _⟩
      · exact inv_hom h hs (by omega) hst hg p
      · omega
/-- the look at the attempt. -/
theorem inv_next {att : Int} (h : Inv ss l stamp d att got st) (hp : d.phase ≠ 8) :
    (d.attempt = att → Inv1 l d got st) ∧ (d.attempt ≠ att → d.attempt = att + 1 ∧ st = 3 ∧ d.phase = 0 ∧ Inv1 l d 0 0) := by
  obtain ⟨hb, hs, h1⟩ := h
  refine ⟨fun e => ?_, fun e => ?_⟩
  · rcases h1 with ⟨p6, _, hst, hg⟩ | ⟨_, h, _⟩ | ⟨p7, _, hst, h23⟩
    · exact .inl ⟨p6, hst, hg⟩
    · omega
    · have := hb.ok.ph8
      exact .inr ⟨by omega, hst, h23⟩
  · rcases h1 with ⟨p6, h, _⟩ | ⟨p0, h, h3⟩ | ⟨p7, h, _⟩
    · omega
    · exact ⟨h, h3, p0, .inl ⟨by omega, rfl, fun _ => rfl, fun h => by omega, fun h => by omega, fun h => by omega⟩⟩
    · omega
end Go.Proofs.YtmifgnibalbgjaaDoor
