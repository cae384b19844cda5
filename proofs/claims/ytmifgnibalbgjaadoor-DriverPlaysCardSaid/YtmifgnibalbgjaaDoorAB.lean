/- What holds of a driver that is told whatever: the plain law of DriverTold. -/
import Derived.Test.YtmifgnibalbgjaaDoorAA
namespace Go.Proofs.YtmifgnibalbgjaaDoor
open Go.RowKit
variable {ss : List ByteArray} {l : List Opp} {d : Dr}
/-- How many readings were answered. -/
def GotOk (l : List Opp) (d : Dr) (got : Int) : Prop :=
  (d.phase = 0 → got = 0) ∧ (d.phase = 1 ∨ d.phase = 2 ∨ d.phase = 3 → got = d.nth) ∧ (d.phase = 4 → got = d.nth + 1) ∧ (d.phase = 5 → got = l.length)
structure Base (ss : List ByteArray) (l : List Opp) (d : Dr) : Prop where
  ok : DOk ss l d
  z0 : d.phase = 0 → d.tl = [] ∧ d.res = []
  r1 : d.phase = 1 ∨ d.phase = 2 ∨ d.phase = 3 → d.res.length ≤ d.nth ∧ d.nth < l.length
/-- what the law holds at a round's head. -/
def Inv (ss : List ByteArray) (l : List Opp) (stamp : Int) (d : Dr) (att got st : Int) : Prop :=
  Base ss l d ∧ d.stamp = stamp ∧ ((d.phase ≤ 6 ∧ d.attempt = att ∧ st = 0 ∧ GotOk l d got) ∨ (d.phase = 0 ∧ d.attempt = att + 1 ∧ st = 3) ∨ (7 ≤ d.phase ∧ d.attempt = att ∧ st = d.outcome ∧ (st = 2 ∨ st = 3)))
/-- .. and behind the look at the attempt. -/
def Inv1 (l : List Opp) (d : Dr) (got st : Int) : Prop := (d.phase ≤ 6 ∧ st = 0 ∧ GotOk l d got) ∨ (d.phase = 7 ∧ st = d.outcome ∧ (st = 2 ∨ st = 3))
theorem base_begins (h : DOk ss l d) (i : Nat) (hi : i ≤ l.length) (hr : d.res.length ≤ i) (ht : d.tl.length ≤ i) (hs : d.tl.Pairwise (· < ·)) : Base ss l (beginsM ss l d i) ∧ (beginsM ss l d i).phase ≤ 6 ∧ GotOk l (beginsM ss l d i) i ∧ (beginsM ss l d i).attempt = d.attempt ∧ (beginsM ss l d i).stamp = d.stamp := by
  obtain ⟨⟨s1, s2, s3⟩, s4, s5, s6, s7, s8⟩ := begins_spec (ss := ss) (l := l) (d := d) i
  have htx := h.tx
  obtain ⟨a1, a2, a3, a4, a5⟩ := h.att
  generalize beginsM ss l d i = e at *
  rcases s8 with ⟨p, q, t⟩ | ⟨p, q, t⟩ | ⟨p, q, x, t⟩
  · refine ⟨⟨⟨h.right, h.len, by omega, by omega, by omega, fun _ => by omega, fun _ => by omega, by rw [s7]; omega, by rw [t]; omega, by omega, fun _ => by rw [t]; exact hs, ?_⟩, fun _ => by omega, fun _ => by omega⟩, by omega, ⟨fun _ => by omega, fun _ => by omega, fun _ => by omega, fun _ => by omega⟩, s4, s2⟩
    exact ⟨by omega, by omega, by omega, by omega, by omega⟩
  · refine ⟨⟨⟨h.right, h.len, by omega, by omega, by omega, fun _ => by omega, fun _ => by omega, by rw [s7]; omega, by rw [t]; omega, by omega, fun _ => by rw [t]; exact hs, ?_⟩, fun _ => by omega, fun _ => by omega⟩, by omega, ⟨fun _ => by omega, fun _ => by omega, fun _ => by omega, fun _ => by omega⟩, s4, s2⟩
    exact ⟨by omega, by omega, by omega, by omega, by omega⟩
  · have hl := insS_len x d.tl
    refine ⟨⟨⟨h.right, h.len, by omega, by omega, by omega, fun _ => by omega, fun _ => by omega, by rw [s7]; omega, by rw [t]; omega, by omega, fun _ => by rw [t]; exact insS_rise x _ hs, ?_⟩, fun _ => by omega, fun _ => ⟨by rw [s7]; omega, by omega⟩⟩, by omega, ⟨fun _ => by omega, fun _ => by omega, fun _ => by omega, fun _ => by omega⟩, s4, s2⟩
    exact ⟨by omega, by omega, by omega, by omega, by omega⟩
/-- a driver that ended is as it may be. -/
theorem base_end {e : Dr} (h : DOk ss l d) (hs : Same d e) (hn : e.nth = d.nth) (hr : e.res.length ≤ d.res.length) (ht : e.tl.length ≤ d.tl.length) (hp : e.phase = 7 ∧ e.tl ≠ [] ∨ e.phase = 8 ∨ e.phase = 0 ∧ e.tl = [] ∧ e.res = []) (ha : e.attempt = d.attempt ∨ e.attempt = d.attempt + 1 ∧ d.attempt + 1 < d.tries) : Base ss l e := by
  obtain ⟨s1, s2, s3⟩ := hs
  have htx := h.tx
  obtain ⟨a1, a2, a3, a4, a5⟩ := h.att
  have h1 := h.reslen
  have h2 := h.tllen
  have h3 := h.nlen
  refine ⟨⟨h.right, h.len, by omega, by omega, by omega, fun _ => by omega, fun h7 => ?_, by omega, by omega, by omega, fun _ => ?_, by omega, by omega, by omega, by omega, by omega⟩, fun h0 => ?_, fun _ => by omega⟩
  · rcases hp with ⟨_, h⟩ | h | ⟨h, _⟩
    · exact h
    · omega
    · omega
  · rcases hp with ⟨h, _⟩ | h | ⟨_, h, _⟩
    · omega
    · omega
    · rw [h]; exact List.Pairwise.nil
  · rcases hp with ⟨h, _⟩ | h | ⟨_, h⟩
    · omega
    · omega
    · exact h
end Go.Proofs.YtmifgnibalbgjaaDoor
