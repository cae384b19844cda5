/- One slice of ints behind another; the arguments of the laws: acts, cuts. -/
import Derived.Test.YtcolaafgjlaikaaX
import Derived.Deep.Slices
import Derived.OpenShut
import Derived.Carry
namespace Go.Proofs.Ytcolaafgjlaikaa
open Go.RowKit

theorem run_append_none (w : World) (t ty e : TypeId) (i : TypeInfo) (ht : Try.prog.underlying t = some (.slice e)) (hi : Try.prog.info? e = some i) (a : Option Addr) (n c d : Nat) (hnc : n ≤ c) :
    (Builtin.append_ #[t, t] ty #[.slice a n c, .slice none 0 d]).run Try.prog w = .ok (.slice a n c) w := by
  cases a with
  | none => simp [Builtin.append_, run_underlying ht, sizeOf, typeInfo, hi, Builtin.lenOf, Builtin.firstCells, loadCells, loadCellsFrom, hnc]
  | some x => simp [Builtin.append_, run_underlying ht, sizeOf, typeInfo, hi, Builtin.lenOf, Builtin.firstCells, loadCells, loadCellsFrom, hnc, storeCells]

theorem app_ints (w : World) (a b : Option Addr) (n c m d : Nat) (xs ys : List Value) (hr : Row w 3 1 a n c xs) (hy : Row w 3 1 b m d ys) (h1 : ∀ u ∈ ys, u.oneCell' = true) (hbig : n + m ≤ 1000000) :
    ∃ b' cap' w', (Builtin.append_ #[27, 27] 27 #[.slice a n c, .slice b m d]).run Try.prog w = .ok (.slice b' (n + m) cap') w' ∧
      Row w' 3 1 b' (n + m) cap' (xs ++ ys) ∧ Touch (blkOf a) w w' ∧ Fresh w a b' := by
  obtain ⟨i0, hi, hz0, hz1, hz2⟩ := info_parts info3
  rcases hy.out with ⟨rfl, rfl, rfl, rfl⟩ | ⟨g, cur, rfl, hg, hnc, hcm, hcs, htk, hyl⟩
  · have hnc : n ≤ c := by
      rcases hr.out with ⟨_, rfl, rfl, _⟩ | ⟨_, _, _, _, h, _⟩
      · exact Nat.le_refl _
      · exact h
    exact ⟨a, c, w, run_append_none w 27 27 3 i0 Try.underlying27 hi a n c 0 hnc, by simpa using hr, Touch.refl _ _, Fresh.refl _ _⟩
  · exact run_append_row (P := Try.prog) w 27 27 3 i0 (.int .i64 0) 1 8 Try.underlying27 hi hz0 hz1 hz2 rfl (by decide) a n c xs hr ⟨g, 0, none⟩ m d ys hyl
      (fun j u hj => by
        obtain ⟨hj', e⟩ := List.getElem?_eq_some_iff.1 hj
        obtain ⟨g', e', hc⟩ := hy.cellAt j hj'
        simp only [Option.some.injEq, Addr.mk.injEq, and_true] at e'
        subst e' e
        rw [Addr.add_lit, Nat.zero_add]
        exact hc) h1 (by unfold maxLen; omega) (by omega)

theorem Mem.app {w0 w : World} (l : List Asn) {a : Option Addr} {c : Nat} {o : List Int} {r : List Asn} [Stables l] [Stables r] (h : Mem w0 w (l ++ IntsA a c o :: r)) {b : Option Addr} {d : Nat} {o2 : List Int} {E : List Nat} (hb : IntsA b d o2 w E)
    (hbig : o.length + o2.length ≤ 1000000) : ∃ b' cap' w', (Builtin.append_ #[27, 27] 27 #[.slice a o.length c, .slice b o2.length d]).run Try.prog w = .ok (.slice b' (o.length + o2.length) cap') w' ∧ Mem w0 w' (l ++ IntsA b' cap' (o ++ o2) :: r) := by
  obtain ⟨D, ⟨rfl, hr⟩, k⟩ := h.focus l
  obtain ⟨b', cap', w', h1, h2, h3, h4⟩ := app_ints w a b o.length c o2.length d _ _ hr hb.2 (ints_one o2) hbig
  refine ⟨b', cap', w', h1, k [IntsA b' cap' (o ++ o2)] w' (blkOf b') (all_one ⟨rfl, by simpa [ints] using h2⟩) ⟨h3, fun x hx => ?_⟩⟩
  obtain ⟨y, hy, rfl⟩ := mem_blkOf.1 hx
  exact h4 y hy

/-- An act. -/
structure Ac where
  kind : Int
  node : Int
  id : Int
  after : Int
  every : Int
/-- The slice at a holds these acts. -/
def ActsAt (w : World) (a : Option Addr) (n : Nat) (l : List Ac) : Prop := n = l.length ∧ ∀ j (h : j < l.length), ∃ b off, a = some ⟨b, off, none⟩ ∧ (w.cell? ⟨b, off + j * 5, none⟩ = some (.int .u8 l[j].kind) ∧ w.cell? ⟨b, off + j * 5 + 1, none⟩ = some (.int .i64 l[j].node) ∧ w.cell? ⟨b, off + j * 5 + 2, none⟩ = some (.int .i64 l[j].id) ∧ w.cell? ⟨b, off + j * 5 + 3, none⟩ = some (.int .i64 l[j].after) ∧ w.cell? ⟨b, off + j * 5 + 4, none⟩ = some (.int .i64 l[j].every)) ∧ 0 ≤ l[j].kind ∧ l[j].kind ≤ 255
theorem ActsAt.below {w w' : World} {a : Option Addr} {n : Nat} {l : List Ac} (h : ActsAt w a n l) (b : Below w.heap.size w w') : ActsAt w' a n l :=
  have hk := fun {p : Addr} {v : Value} (hp : w.cell? p = some v) => (b.cell (World.block_lt_of_cell? w p hp)).trans hp
  ⟨h.1, fun j hj => let ⟨g, off, e, ⟨h1, h2, h3, h4, h5⟩, h6⟩ := h.2 j hj; ⟨g, off, e, ⟨hk h1, hk h2, hk h3, hk h4, hk h5⟩, h6⟩⟩
/-- The slice at a holds these bytes. -/
def BytesAt (w : World) (a : Option Addr) (n : Nat) (l : List Int) : Prop := n = l.length ∧ ∀ j (h : j < l.length), ∃ b off, a = some ⟨b, off, none⟩ ∧ w.cell? ⟨b, off + j, none⟩ = some (.int .u8 l[j]) ∧ 0 ≤ l[j] ∧ l[j] ≤ 255
theorem BytesAt.below {w w' : World} {a : Option Addr} {n : Nat} {l : List Int} (h : BytesAt w a n l) (b : Below w.heap.size w w') : BytesAt w' a n l :=
  ⟨h.1, fun j hj => let ⟨g, off, e, h1, h6⟩ := h.2 j hj; ⟨g, off, e, (b.cell (World.block_lt_of_cell? w _ h1)).trans h1, h6⟩⟩

theorem u8_bd2 {n : Int} (h : (Lit.int .u8 n).wf = true) : 0 ≤ n ∧ n ≤ 255 := by
  simp [Lit.wf, IntKind.min, IntKind.max, IntKind.signed, IntKind.bits] at h
  omega
theorem addr_spot {w : World} {a : Addr} {v : Value} (h : w.cell? a = some v) : a.spot = none := by
  unfold World.cell? at h
  split at h
  · split at h
    · exact absurd h (by simp)
    · rename_i hs; simpa using hs
  · exact absurd h (by simp)
theorem list_of {α : Type} [Inhabited α] (n : Nat) (p : Nat → α → Prop) (h : ∀ i, i < n → ∃ x, p i x) : ∃ l : List α, l.length = n ∧ ∀ i (hi : i < l.length), p i l[i] := by
  obtain ⟨f, hf⟩ := Go.Deep.choose_lt h
  exact ⟨(List.range n).map f, by simp, fun i hi => by simp at hi ⊢; exact hf i hi⟩

section
variable {H : Type} {enc : TypeId × Value → H} {W : World} {base : Nat} {spare : Nat → Bool} {held : Bool}
/-- A slice that came in: each element's cells, and what they read as. -/
theorem open_elems {t e : TypeId} {a : Option Addr} {n c K : Nat} {d : DataW H} {p : List MemPlace} (ht : Try.prog.underlying t = some (.slice e)) (hK : Try.prog.cellsOf e = K) (hK0 : 0 < K)
    (h : DataW.Trod enc Try.prog W base spare held t (.slice a n c) d p) :
    n ≤ maxLen ∧ ∀ j, j < n → ∃ b off, a = some ⟨b, off, none⟩ ∧ ∃ cs m y, cs.length = K ∧ (∀ r v, cs[r]? = some v → W.cell? ⟨b, off + j * K + r, none⟩ = some v) ∧ DataW.trod enc Try.prog W base spare held m e cs = some y := by
  obtain ⟨fuel, hf⟩ := h
  rcases Go.Deep.open_slice ht hf with ⟨hcs, _⟩ | ⟨x, len, cap, m, n', D, Pl, hcs, _, hl, hm, hmm, _, hx⟩
  · simp [Value.cells] at hcs
    obtain ⟨rfl, rfl, rfl⟩ := hcs
    exact ⟨Nat.zero_le _, fun j hj => by omega⟩
  · simp [Value.cells] at hcs
    obtain ⟨rfl, rfl, rfl⟩ := hcs
    refine ⟨by omega, fun j hj => ?_⟩
    obtain ⟨cs', h1, h2⟩ := hx j (by rw [hmm]; split <;> omega)
    rw [hK] at h1
    obtain ⟨_, hlen, hcell⟩ := World.cells?_some h1
    obtain ⟨cs0, k1, _⟩ := hx 0 (by rw [hmm]; split <;> omega)
    rw [hK] at k1
    obtain ⟨_, hlen0, hcell0⟩ := World.cells?_some k1
    have h0 := hcell0 0 (by omega)
    rw [List.getElem?_eq_getElem (by omega)] at h0
    have hs := addr_spot h0
    obtain ⟨b, off, sp⟩ := x
    have hs' : sp = none := by simpa [Addr.add] using hs
    subst hs'
    refine ⟨b, off, rfl, cs', n', (D j, Pl j), hlen, fun r v hr => ?_, h2⟩
    have hr' : r < cs'.length := (List.getElem?_eq_some_iff.1 hr).1
    have := hcell r (by omega)
    rw [Addr.add_lit, Addr.add_lit] at this
    rw [this, hr]
theorem open_bytes {t e : TypeId} {a : Option Addr} {n c : Nat} {d : DataW H} {p : List MemPlace} (ht : Try.prog.underlying t = some (.slice e)) (he : Try.prog.underlying e = some (.int .u8)) (hK : Try.prog.cellsOf e = 1)
    (h : DataW.Trod enc Try.prog W base spare held t (.slice a n c) d p) : n ≤ maxLen ∧ ∃ l, BytesAt W a n l := by
  obtain ⟨hn, hj⟩ := open_elems ht hK (by decide) h
  obtain ⟨l, hl, hp⟩ := list_of n (fun j (x : Int) => ∃ b off, a = some ⟨b, off, none⟩ ∧ W.cell? ⟨b, off + j, none⟩ = some (.int .u8 x) ∧ 0 ≤ x ∧ x ≤ 255) fun j hjn => by
    obtain ⟨b, off, ha, cs, m, y, hlen, hc, hy⟩ := hj j hjn
    obtain ⟨x, rfl, _, hw⟩ := DataW.trod_int he hy
    exact ⟨x, b, off, ha, by simpa using hc 0 _ rfl, u8_bd2 hw⟩
  exact ⟨hn, l, hl.symm, hp⟩
set_option maxRecDepth 100000 in
theorem open_acts {t e : TypeId} {a : Option Addr} {n c : Nat} {d : DataW H} {p : List MemPlace} {f0 f1 f2 f3 f4 : Field} (ht : Try.prog.underlying t = some (.slice e)) (he : Try.prog.underlying e = some (.struct #[f0, f1, f2, f3, f4])) (hK : Try.prog.cellsOf e = 5)
    (o0 : f0.offset = 0) (o1 : f1.offset = 1) (o2 : f2.offset = 2) (o3 : f3.offset = 3) (o4 : f4.offset = 4)
    (c0 : Try.prog.cellsOf f0.type = 1) (c1 : Try.prog.cellsOf f1.type = 1) (c2 : Try.prog.cellsOf f2.type = 1) (c3 : Try.prog.cellsOf f3.type = 1) (c4 : Try.prog.cellsOf f4.type = 1)
    (u0 : Try.prog.underlying f0.type = some (.int .u8)) (u1 : Try.prog.underlying f1.type = some (.int .i64)) (u2 : Try.prog.underlying f2.type = some (.int .i64)) (u3 : Try.prog.underlying f3.type = some (.int .i64)) (u4 : Try.prog.underlying f4.type = some (.int .i64))
    (h : DataW.Trod enc Try.prog W base spare held t (.slice a n c) d p) : n ≤ maxLen ∧ ∃ l, ActsAt W a n l := by
  obtain ⟨hn, hj⟩ := open_elems ht hK (by decide) h
  haveI : Inhabited Ac := ⟨⟨0, 0, 0, 0, 0⟩⟩
  obtain ⟨l, hl, hp⟩ := list_of n (fun j (x : Ac) => ∃ b off, a = some ⟨b, off, none⟩ ∧ (W.cell? ⟨b, off + j * 5, none⟩ = some (.int .u8 x.kind) ∧ W.cell? ⟨b, off + j * 5 + 1, none⟩ = some (.int .i64 x.node) ∧ W.cell? ⟨b, off + j * 5 + 2, none⟩ = some (.int .i64 x.id) ∧ W.cell? ⟨b, off + j * 5 + 3, none⟩ = some (.int .i64 x.after) ∧ W.cell? ⟨b, off + j * 5 + 4, none⟩ = some (.int .i64 x.every)) ∧ 0 ≤ x.kind ∧ x.kind ≤ 255) fun j hjn => by
    obtain ⟨b, off, ha, cs, m, y, hlen, hc, hy⟩ := hj j hjn
    obtain ⟨xs, k, _, _, _, hxl, hf⟩ := DataW.trod_struct he hy
    match cs, hlen with
    | [v0, v1, v2, v3, v4], _ =>
      match xs, hxl with
      | [y0, y1, y2, y3, y4], _ =>
        have g0 := hf 0 f0 rfl
        have g1 := hf 1 f1 rfl
        have g2 := hf 2 f2 rfl
        have g3 := hf 3 f3 rfl
        have g4 := hf 4 f4 rfl
        simp [o0, o1, o2, o3, o4, c0, c1, c2, c3, c4] at g0 g1 g2 g3 g4
        obtain ⟨x0, e0, _, w0⟩ := DataW.trod_int u0 g0
        obtain ⟨x1, e1, _, _⟩ := DataW.trod_int u1 g1
        obtain ⟨x2, e2, _, _⟩ := DataW.trod_int u2 g2
        obtain ⟨x3, e3, _, _⟩ := DataW.trod_int u3 g3
        obtain ⟨x4, e4, _, _⟩ := DataW.trod_int u4 g4
        simp only [List.cons.injEq, and_true] at e0 e1 e2 e3 e4
        subst e0 e1 e2 e3 e4
        exact ⟨⟨x0, x1, x2, x3, x4⟩, b, off, ha, ⟨by simpa using hc 0 _ rfl, hc 1 _ rfl, hc 2 _ rfl, hc 3 _ rfl, hc 4 _ rfl⟩, u8_bd2 w0⟩
  exact ⟨hn, l, hl.symm, hp⟩
end
end Go.Proofs.Ytcolaafgjlaikaa
