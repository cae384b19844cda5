/- The laws' arguments: a plan, and replies, at slices. -/
import Derived.Test.YtmifgnibalbgjaaDoorA
import Derived.Deep.Slices
import Derived.OpenShut
import Derived.Carry
namespace Go.Proofs.YtmifgnibalbgjaaDoor
open Go.RowKit
theorem u8_bd2 {n : Int} (h : (Lit.int .u8 n).wf = true) : 0 ≤ n ∧ n ≤ 255 := by
  simp [Lit.wf, IntKind.min, IntKind.max, IntKind.signed, IntKind.bits] at h
  omega
theorem i64_bd2 {n : Int} (h : (Lit.int .i64 n).wf = true) : -9223372036854775808 ≤ n ∧ n ≤ 9223372036854775807 := by
  simp [Lit.wf, IntKind.min, IntKind.max, IntKind.signed, IntKind.bits] at h
  omega
theorem addr_spot {w : World} {a : Addr} {v : Value} (h : w.cell? a = some v) : a.spot = none := by
  unfold World.cell? at h
  split at h
  · split at h
    · exact absurd h (by simp)
    · rename_i hs; simpa using hs
  · exact absurd h (by simp)
theorem list_of {α : Type} [Inhabited α] (n : Nat) (p : Nat → α → Prop) (h : ∀ i, i < n → ∃ x, p i x) : ∃ l : List α, l.length = n ∧ ∀ i (hi : i < l.length), p i l[i] := by
  obtain ⟨f, hf⟩ := Go.Deep.choose_lt h
  exact ⟨(List.range n).map f, by simp, fun i hi => by simp at hi ⊢; exact hf i hi⟩
/-- The slice at a holds these bytes. -/
def BytesAt (w : World) (a : Option Addr) (n : Nat) (l : List Int) : Prop := n = l.length ∧ ∀ j (h : j < l.length), ∃ b off, a = some ⟨b, off, none⟩ ∧ w.cell? ⟨b, off + j, none⟩ = some (.int .u8 l[j]) ∧ 0 ≤ l[j] ∧ l[j] ≤ 255
theorem BytesAt.below {w w' : World} {a : Option Addr} {n : Nat} {l : List Int} (h : BytesAt w a n l) (b : Below w.heap.size w w') : BytesAt w' a n l :=
  ⟨h.1, fun j hj => let ⟨g, off, e, h1, h6⟩ := h.2 j hj; ⟨g, off, e, (b.cell (World.block_lt_of_cell? w _ h1)).trans h1, h6⟩⟩
section
variable {H : Type} {enc : TypeId × Value → H} {W : World} {base : Nat} {spare : Nat → Bool} {held : Bool}
/-- A slice that came in: each element's cells, and what they read as. -/
theorem open_elems {t e : TypeId} {a : Option Addr} {n c K : Nat} {d : DataW H} {p : List MemPlace} (ht : Tryd.prog.underlying t = some (.slice e)) (hK : Tryd.prog.cellsOf e = K) (hK0 : 0 < K)
    (h : DataW.Trod enc Tryd.prog W base spare held t (.slice a n c) d p) :
    n ≤ maxLen ∧ ∀ j, j < n → ∃ b off, a = some ⟨b, off, none⟩ ∧ ∃ cs m y, cs.length = K ∧ (∀ r v, cs[r]? = some v → W.cell? ⟨b, off + j * K + r, none⟩ = some v) ∧ DataW.trod enc Tryd.prog W base spare held m e cs = some y := by
  obtain ⟨fuel, hf⟩ := h
  rcases Go.Deep.open_slice ht hf with ⟨hcs, _⟩ | ⟨x, len, cap, m, n', D, Pl, hcs, _, hl, hm, hmm, _, hx⟩
  · simp [Value.cells] at hcs
    obtain ⟨rfl, rfl, rfl⟩ := hcs
    exact ⟨Nat.zero_le _, fun j hj => by omega⟩
  · simp [Value.cells] at hcs
    obtain ⟨rfl, rfl, rfl⟩ := hcs
    refine ⟨by omega, fun j hj => ?_⟩
    obtain ⟨cs', h1, h2⟩ := hx j (by rw [hmm]; split <;> omega)
    rw [hK] at h1
    obtain ⟨_, hlen, hcell⟩ := World.cells?_some h1
    obtain ⟨cs0, k1, _⟩ := hx 0 (by rw [hmm]; split <;> omega)
    rw [hK] at k1
    obtain ⟨_, hlen0, hcell0⟩ := World.cells?_some k1
    have h0 := hcell0 0 (by omega)
    rw [List.getElem?_eq_getElem (by omega)] at h0
    have hs := addr_spot h0
    obtain ⟨b, off, sp⟩ := x
    have hs' : sp = none := by simpa [Addr.add] using hs
    subst hs'
    refine ⟨b, off, rfl, cs', n', (D j, Pl j), hlen, fun r v hr => ?_, h2⟩
    have hr' : r < cs'.length := (List.getElem?_eq_some_iff.1 hr).1
    have := hcell r (by omega)
    rw [Addr.add_lit, Addr.add_lit] at this
    rw [this, hr]
theorem open_bytes {t e : TypeId} {a : Option Addr} {n c : Nat} {d : DataW H} {p : List MemPlace} (ht : Tryd.prog.underlying t = some (.slice e)) (he : Tryd.prog.underlying e = some (.int .u8)) (hK : Tryd.prog.cellsOf e = 1)
    (h : DataW.Trod enc Tryd.prog W base spare held t (.slice a n c) d p) : n ≤ maxLen ∧ ∃ l, BytesAt W a n l := by
  obtain ⟨hn, hj⟩ := open_elems ht hK (by decide) h
  obtain ⟨l, hl, hp⟩ := list_of n (fun j (x : Int) => ∃ b off, a = some ⟨b, off, none⟩ ∧ W.cell? ⟨b, off + j, none⟩ = some (.int .u8 x) ∧ 0 ≤ x ∧ x ≤ 255) fun j hjn => by
    obtain ⟨b, off, ha, cs, m, y, hlen, hc, hy⟩ := hj j hjn
    obtain ⟨x, rfl, _, hw⟩ := DataW.trod_int he hy
    exact ⟨x, b, off, ha, by simpa using hc 0 _ rfl, u8_bd2 hw⟩
  exact ⟨hn, l, hl.symm, hp⟩
end

/-- The slice at a holds these. -/
def OpsAt (W : World) (a : Option Addr) (n : Nat) (l : List Opp) : Prop := n = l.length ∧ ∀ j (h : j < l.length), ∃ b off, a = some ⟨b, off, none⟩ ∧ (W.cell? ⟨b, off + j * 4, none⟩ = some (.int .i64 l[j].kind) ∧ W.cell? ⟨b, off + j * 4 + 1, none⟩ = some (.string l[j].key) ∧ W.cell? ⟨b, off + j * 4 + 2, none⟩ = some (.string l[j].value) ∧ W.cell? ⟨b, off + j * 4 + 3, none⟩ = some (.int .i64 l[j].n)) ∧ -9223372036854775808 ≤ l[j].kind ∧ l[j].kind ≤ 9223372036854775807 ∧ l[j].key.size ≤ maxLen ∧ l[j].value.size ≤ maxLen ∧ -9223372036854775808 ≤ l[j].n ∧ l[j].n ≤ 9223372036854775807
theorem OpsAt.below {w w' : World} {a : Option Addr} {n : Nat} {l : List Opp} (h : OpsAt w a n l) (b : Below w.heap.size w w') : OpsAt w' a n l :=
  have hk := fun {p : Addr} {v : Value} (hp : w.cell? p = some v) => (b.cell (World.block_lt_of_cell? w p hp)).trans hp
  ⟨h.1, fun j hj => let ⟨g, off, e, ⟨h0, h1, h2, h3⟩, hr⟩ := h.2 j hj; ⟨g, off, e, ⟨hk h0, hk h1, hk h2, hk h3⟩, hr⟩⟩
section
variable {H : Type} {enc : TypeId × Value → H} {W : World} {base : Nat} {spare : Nat → Bool} {held : Bool}
set_option maxRecDepth 100000 in
theorem open_ops {t e : TypeId} {a : Option Addr} {n c : Nat} {d : DataW H} {p : List MemPlace} {f0 f1 f2 f3 : Field} (ht : Tryd.prog.underlying t = some (.slice e)) (he : Tryd.prog.underlying e = some (.struct #[f0, f1, f2, f3])) (hK : Tryd.prog.cellsOf e = 4)
    (o0 : f0.offset = 0) (o1 : f1.offset = 1) (o2 : f2.offset = 2) (o3 : f3.offset = 3)
    (c0 : Tryd.prog.cellsOf f0.type = 1) (c1 : Tryd.prog.cellsOf f1.type = 1) (c2 : Tryd.prog.cellsOf f2.type = 1) (c3 : Tryd.prog.cellsOf f3.type = 1)
    (u0 : Tryd.prog.underlying f0.type = some (.int .i64)) (u1 : Tryd.prog.underlying f1.type = some (.string)) (u2 : Tryd.prog.underlying f2.type = some (.string)) (u3 : Tryd.prog.underlying f3.type = some (.int .i64))
    (h : DataW.Trod enc Tryd.prog W base spare held t (.slice a n c) d p) : n ≤ maxLen ∧ ∃ l, OpsAt W a n l := by
  obtain ⟨hn, hj⟩ := open_elems ht hK (by decide) h
  haveI : Inhabited Opp := ⟨⟨0, ByteArray.empty, ByteArray.empty, 0⟩⟩
  obtain ⟨l, hl, hp⟩ := list_of n (fun j (x : Opp) => ∃ b off, a = some ⟨b, off, none⟩ ∧ (W.cell? ⟨b, off + j * 4, none⟩ = some (.int .i64 x.kind) ∧ W.cell? ⟨b, off + j * 4 + 1, none⟩ = some (.string x.key) ∧ W.cell? ⟨b, off + j * 4 + 2, none⟩ = some (.string x.value) ∧ W.cell? ⟨b, off + j * 4 + 3, none⟩ = some (.int .i64 x.n)) ∧ -9223372036854775808 ≤ x.kind ∧ x.kind ≤ 9223372036854775807 ∧ x.key.size ≤ maxLen ∧ x.value.size ≤ maxLen ∧ -9223372036854775808 ≤ x.n ∧ x.n ≤ 9223372036854775807) fun j hjn => by
    obtain ⟨b, off, ha, cs, m, y, hlen, hc, hy⟩ := hj j hjn
    obtain ⟨xs, k, _, _, _, hxl, hf⟩ := DataW.trod_struct he hy
    match cs, hlen with
    | [v0, v1, v2, v3], _ =>
      match xs, hxl with
      | [y0, y1, y2, y3], _ =>
        have g0 := hf 0 f0 rfl
        have g1 := hf 1 f1 rfl
        have g2 := hf 2 f2 rfl
        have g3 := hf 3 f3 rfl
        simp [o0, o1, o2, o3, c0, c1, c2, c3] at g0 g1 g2 g3
        obtain ⟨x0, e0, _, w0⟩ := DataW.trod_int u0 g0
        obtain ⟨x1, e1, _, w1⟩ := DataW.trod_string u1 g1
        obtain ⟨x2, e2, _, w2⟩ := DataW.trod_string u2 g2
        obtain ⟨x3, e3, _, w3⟩ := DataW.trod_int u3 g3
        simp only [List.cons.injEq, and_true] at e0 e1 e2 e3
        subst e0 e1 e2 e3
        exact ⟨⟨x0, x1, x2, x3⟩, b, off, ha, ⟨by simpa using hc 0 _ rfl, hc 1 _ rfl, hc 2 _ rfl, hc 3 _ rfl⟩, (i64_bd2 w0).1, (i64_bd2 w0).2, w1, w2, (i64_bd2 w3).1, (i64_bd2 w3).2⟩
  exact ⟨hn, l, hl.symm, hp⟩
end
/-- The slice at a holds these. -/
def RepsAt (W : World) (a : Option Addr) (n : Nat) (l : List Rep) : Prop := n = l.length ∧ ∀ j (h : j < l.length), ∃ b off, a = some ⟨b, off, none⟩ ∧ (W.cell? ⟨b, off + j * 4, none⟩ = some (.int .i64 l[j].code) ∧ W.cell? ⟨b, off + j * 4 + 1, none⟩ = some (.int .i64 l[j].state) ∧ W.cell? ⟨b, off + j * 4 + 2, none⟩ = some (.string l[j].v) ∧ W.cell? ⟨b, off + j * 4 + 3, none⟩ = some (.bool l[j].h)) ∧ -9223372036854775808 ≤ l[j].code ∧ l[j].code ≤ 9223372036854775807 ∧ -9223372036854775808 ≤ l[j].state ∧ l[j].state ≤ 9223372036854775807 ∧ l[j].v.size ≤ maxLen
theorem RepsAt.below {w w' : World} {a : Option Addr} {n : Nat} {l : List Rep} (h : RepsAt w a n l) (b : Below w.heap.size w w') : RepsAt w' a n l :=
  have hk := fun {p : Addr} {v : Value} (hp : w.cell? p = some v) => (b.cell (World.block_lt_of_cell? w p hp)).trans hp
  ⟨h.1, fun j hj => let ⟨g, off, e, ⟨h0, h1, h2, h3⟩, hr⟩ := h.2 j hj; ⟨g, off, e, ⟨hk h0, hk h1, hk h2, hk h3⟩, hr⟩⟩
section
variable {H : Type} {enc : TypeId × Value → H} {W : World} {base : Nat} {spare : Nat → Bool} {held : Bool}
set_option maxRecDepth 100000 in
theorem open_reps {t e : TypeId} {a : Option Addr} {n c : Nat} {d : DataW H} {p : List MemPlace} {f0 f1 f2 f3 : Field} (ht : Tryd.prog.underlying t = some (.slice e)) (he : Tryd.prog.underlying e = some (.struct #[f0, f1, f2, f3])) (hK : Tryd.prog.cellsOf e = 4)
    (o0 : f0.offset = 0) (o1 : f1.offset = 1) (o2 : f2.offset = 2) (o3 : f3.offset = 3)
    (c0 : Tryd.prog.cellsOf f0.type = 1) (c1 : Tryd.prog.cellsOf f1.type = 1) (c2 : Tryd.prog.cellsOf f2.type = 1) (c3 : Tryd.prog.cellsOf f3.type = 1)
    (u0 : Tryd.prog.underlying f0.type = some (.int .i64)) (u1 : Tryd.prog.underlying f1.type = some (.int .i64)) (u2 : Tryd.prog.underlying f2.type = some (.string)) (u3 : Tryd.prog.underlying f3.type = some (.bool))
    (h : DataW.Trod enc Tryd.prog W base spare held t (.slice a n c) d p) : n ≤ maxLen ∧ ∃ l, RepsAt W a n l := by
  obtain ⟨hn, hj⟩ := open_elems ht hK (by decide) h
  haveI : Inhabited Rep := ⟨⟨0, 0, ByteArray.empty, false⟩⟩
  obtain ⟨l, hl, hp⟩ := list_of n (fun j (x : Rep) => ∃ b off, a = some ⟨b, off, none⟩ ∧ (W.cell? ⟨b, off + j * 4, none⟩ = some (.int .i64 x.code) ∧ W.cell? ⟨b, off + j * 4 + 1, none⟩ = some (.int .i64 x.state) ∧ W.cell? ⟨b, off + j * 4 + 2, none⟩ = some (.string x.v) ∧ W.cell? ⟨b, off + j * 4 + 3, none⟩ = some (.bool x.h)) ∧ -9223372036854775808 ≤ x.code ∧ x.code ≤ 9223372036854775807 ∧ -9223372036854775808 ≤ x.state ∧ x.state ≤ 9223372036854775807 ∧ x.v.size ≤ maxLen) fun j hjn => by
    obtain ⟨b, off, ha, cs, m, y, hlen, hc, hy⟩ := hj j hjn
    obtain ⟨xs, k, _, _, _, hxl, hf⟩ := DataW.trod_struct he hy
    match cs, hlen with
    | [v0, v1, v2, v3], _ =>
      match xs, hxl with
      | [y0, y1, y2, y3], _ =>
        have g0 := hf 0 f0 rfl
        have g1 := hf 1 f1 rfl
        have g2 := hf 2 f2 rfl
        have g3 := hf 3 f3 rfl
        simp [o0, o1, o2, o3, c0, c1, c2, c3] at g0 g1 g2 g3
        obtain ⟨x0, e0, _, w0⟩ := DataW.trod_int u0 g0
        obtain ⟨x1, e1, _, w1⟩ := DataW.trod_int u1 g1
        obtain ⟨x2, e2, _, w2⟩ := DataW.trod_string u2 g2
        obtain ⟨x3, e3, _⟩ := DataW.trod_bool u3 g3
        simp only [List.cons.injEq, and_true] at e0 e1 e2 e3
        subst e0 e1 e2 e3
        exact ⟨⟨x0, x1, x2, x3⟩, b, off, ha, ⟨by simpa using hc 0 _ rfl, hc 1 _ rfl, hc 2 _ rfl, hc 3 _ rfl⟩, (i64_bd2 w0).1, (i64_bd2 w0).2, (i64_bd2 w1).1, (i64_bd2 w1).2, w2⟩
  exact ⟨hn, l, hl.symm, hp⟩
end
end Go.Proofs.YtmifgnibalbgjaaDoor
