/- An argument that holds lists of bytes. -/
import Derived.Test.YtlmfpkfgjfdhgaaAD
namespace Go.Proofs.Ytlmfpkfgjfdhgaa
open Go.RowKit

/-- The slice at a holds these lists. -/
def WantsAt (W : World) (a : Option Addr) (n : Nat) (l : List (List Int)) : Prop := n = l.length ∧ ∀ j (h : j < l.length), ∃ b off, a = some ⟨b, off, none⟩ ∧ ∃ aj nj cj, W.cell? ⟨b, off + j, none⟩ = some (.slice aj nj cj) ∧ nj ≤ maxLen ∧ BytesAt W aj nj l[j]
theorem WantsAt.below {w w' : World} {a : Option Addr} {n : Nat} {l : List (List Int)} (h : WantsAt w a n l) (b : Below w.heap.size w w') : WantsAt w' a n l :=
  have hk := fun {p : Addr} {v : Value} (hp : w.cell? p = some v) => (b.cell (World.block_lt_of_cell? w p hp)).trans hp
  ⟨h.1, fun j hj => let ⟨g, off, e, aj, nj, cj, h0, h1, h2⟩ := h.2 j hj; ⟨g, off, e, aj, nj, cj, hk h0, h1, h2.below b⟩⟩
section
variable {H : Type} {enc : TypeId × Value → H} {W : World} {base : Nat} {spare : Nat → Bool} {held : Bool}
theorem open_wants {t e f : TypeId} {a : Option Addr} {n c : Nat} {d : DataW H} {p : List MemPlace} (ht : Try.prog.underlying t = some (.slice e)) (he : Try.prog.underlying e = some (.slice f)) (hf : Try.prog.underlying f = some (.int .u8)) (hK : Try.prog.cellsOf e = 1) (hKf : Try.prog.cellsOf f = 1)
    (h : DataW.Trod enc Try.prog W base spare held t (.slice a n c) d p) : n ≤ maxLen ∧ ∃ l, WantsAt W a n l := by
  obtain ⟨hn, hj⟩ := open_elems ht hK (by decide) h
  obtain ⟨l, hl, hp⟩ := list_of n (fun j (x : List Int) => ∃ b off, a = some ⟨b, off, none⟩ ∧ ∃ aj nj cj, W.cell? ⟨b, off + j, none⟩ = some (.slice aj nj cj) ∧ nj ≤ maxLen ∧ BytesAt W aj nj x) fun j hjn => by
    obtain ⟨b, off, ha, cs, m, y, hlen, hc, hy⟩ := hj j hjn
    have hsl : ∃ aj nj cj, cs = [.slice aj nj cj] := by
      rcases Go.Deep.open_slice he hy with ⟨e1, _⟩ | ⟨x, len, cap, m', n', D, Pl, e1, _⟩
      · exact ⟨_, _, _, e1⟩
      · exact ⟨_, _, _, e1⟩
    obtain ⟨aj, nj, cj, rfl⟩ := hsl
    obtain ⟨hb, lj, hlj⟩ := open_bytes (a := aj) (n := nj) (c := cj) (d := y.1) (p := y.2) he hf hKf ⟨m, by simpa [Value.cells] using hy⟩
    exact ⟨lj, b, off, ha, aj, nj, cj, by simpa using hc 0 _ rfl, hb, hlj⟩
  exact ⟨hn, l, hl.symm, hp⟩
end
end Go.Proofs.Ytlmfpkfgjfdhgaa
