/- Appends of whole slices, in whatever order a statement is walked (of no program). -/
import Derived.Test.YtmifgnibalbgjaaDoorMem2
namespace Go.Proofs.YtmifgnibalbgjaaDoor
open Go.RowKit

/-- A slice that is read: m elements, the cells ys. -/
def SubV (w : World) (k : Nat) (sv : Value) (m : Nat) (ys : List Value) : Prop :=
  ys.length = m * k ∧ (∀ u ∈ ys, u.oneCell' = true) ∧ ((∃ d, sv = .slice none 0 d ∧ m = 0) ∨ ∃ g o d, sv = .slice (some ⟨g, o, none⟩) m d ∧ ∀ j u, ys[j]? = some u → w.cell? ⟨g, o + j, none⟩ = some u)
theorem SubV.below {w w' : World} {k m : Nat} {sv : Value} {ys : List Value} (h : SubV w k sv m ys) (b : Below w.heap.size w w') : SubV w' k sv m ys := by
  obtain ⟨h1, h0, h2 | ⟨g, o, d, h2, h3⟩⟩ := h
  · exact ⟨h1, h0, .inl h2⟩
  · exact ⟨h1, h0, .inr ⟨g, o, d, h2, fun j u hj => (b.cell (World.block_lt_of_cell? w _ (h3 j u hj))).trans (h3 j u hj)⟩⟩
theorem SubV.upto {w : World} {E k n c : Nat} {a : Option Addr} {xs : List Value} (h : Row w E k a n c xs) (h1 : ∀ u ∈ xs, u.oneCell' = true) {q : Nat} (hq : q ≤ n) : SubV w k (.slice a q c) q (xs.take (q * k)) := by
  have hl := h.len
  have hle := Nat.mul_le_mul_right k hq
  refine ⟨by rw [List.length_take]; omega, fun u hu => h1 u (List.mem_of_mem_take hu), ?_⟩
  rcases h.out with ⟨rfl, rfl, rfl, rfl⟩ | ⟨g, cur, rfl, _⟩
  · exact .inl ⟨0, by rw [show q = 0 by omega], by omega⟩
  · refine .inr ⟨g, 0, c, rfl, fun j u hj => ?_⟩
    rw [List.getElem?_take] at hj
    split at hj
    · obtain ⟨hj', rfl⟩ := List.getElem?_eq_some_iff.1 hj
      obtain ⟨g', e, hc⟩ := h.cellAt j hj'
      simp only [Option.some.injEq, Addr.mk.injEq, and_true] at e
      subst e
      rw [Nat.zero_add]; exact hc
    · cases hj
/-- what is behind q: as the walk spells it where q is the capacity, and where it isn't. -/
theorem SubV.fromCap {w : World} {k g o : Nat} : SubV w k (.slice (some ⟨g, o, none⟩) 0 0) 0 [] := ⟨by simp, by simp, .inr ⟨g, o, 0, rfl, by simp⟩⟩
theorem SubV.zero {w : World} {k g o d : Nat} : SubV w k (.slice (some ⟨g, o, none⟩) 0 d) 0 [] := ⟨by simp, by simp, .inr ⟨g, o, d, rfl, by simp⟩⟩
theorem SubV.nil {w : World} {k d : Nat} : SubV w k (.slice none 0 d) 0 [] := ⟨by simp, by simp, .inl ⟨d, rfl, rfl⟩⟩
theorem SubV.behind {w : World} {E k n c g : Nat} {xs : List Value} (h : Row w E k (some ⟨g, 0, none⟩) n c xs) (h1 : ∀ u ∈ xs, u.oneCell' = true) {q : Nat} (_hq : q ≤ n) (d : Nat) : SubV w k (.slice (some ⟨g, q * k, none⟩) (n - q) d) (n - q) (xs.drop (q * k)) := by
  have hl := h.len
  refine ⟨by rw [List.length_drop, hl, Nat.sub_mul], fun u hu => h1 u (List.mem_of_mem_drop hu), .inr ⟨g, q * k, d, rfl, fun j u hj => ?_⟩⟩
  rw [List.getElem?_drop] at hj
  obtain ⟨hj', rfl⟩ := List.getElem?_eq_some_iff.1 hj
  obtain ⟨g', e, hc⟩ := h.cellAt _ hj'
  simp only [Option.some.injEq, Addr.mk.injEq, and_true] at e
  subst e
  exact hc
theorem SubV.one {w : World} {k vb : Nat} {T : TypeId} {vs : List Value} (h : w.heap[vb]? = some (.cells vs.toArray T (0, 0))) (hk : vs.length = k) (h1 : ∀ u ∈ vs, u.oneCell' = true) : SubV w k (.slice (some ⟨vb, 0, none⟩) 1 1) 1 vs :=
  ⟨by omega, h1, .inr ⟨vb, 0, 1, rfl, fun j u hj => by rw [Nat.zero_add]; exact (cell_of_heap h (by simpa using hj)).1⟩⟩
theorem app_row_src {P : Program} (w : World) (t ty e : TypeId) {z0 : Value} {k by' : Nat} (ht : P.underlying t = some (.slice e)) (hinfo : (P.info? e).map (fun i => (i.zero, i.size, i.bytes)) = some (some z0, k, by')) (hz : z0.cells.size = k) (hk : 0 < k)
    (a : Option Addr) (n c : Nat) (xs : List Value) (hr : Row w e k a n c xs) (sv : Value) (m : Nat) (ys : List Value) (hs : SubV w k sv m ys) (hbig : n + m ≤ 1000000) (hby : by' ≤ 1000000) :
    ∃ b' cap' w', (Builtin.append_ #[t, t] ty #[.slice a n c, sv]).run P w = .ok (.slice b' (n + m) cap') w' ∧ Row w' e k b' (n + m) cap' (xs ++ ys) ∧ Touch (blkOf a) w w' ∧ Fresh w a b' := by
  obtain ⟨i0, hi, hz0, hz1, hz2⟩ := info_parts hinfo
  have hb : (n + m) * by' ≤ 140737488355328 := by
    have : (n + m) * by' ≤ 1000000 * 1000000 := Nat.mul_le_mul hbig hby
    omega
  obtain ⟨h1, h0, ⟨d, rfl, rfl⟩ | ⟨g, o, d, rfl, h3⟩⟩ := hs
  · obtain rfl : ys = [] := List.eq_nil_of_length_eq_zero (by simpa using h1)
    refine ⟨a, c, w, ?_, by simpa using hr, Touch.refl _ _, Fresh.refl _ _⟩
    have hnc : n ≤ c := by
      rcases hr.out with ⟨_, rfl, rfl, _⟩ | ⟨_, _, _, _, h, _⟩
      · exact Nat.le_refl _
      · exact h
    cases a with
    | none => simp [Builtin.append_, run_underlying ht, sizeOf, typeInfo, hi, Builtin.lenOf, Builtin.firstCells, hnc]
    | some x => simp [Builtin.append_, run_underlying ht, sizeOf, typeInfo, hi, Builtin.lenOf, Builtin.firstCells, loadCells, hnc, storeCells]
  · exact run_append_row w t ty e i0 z0 k by' ht hi hz0 hz1 hz2 hz hk a n c xs hr ⟨g, o, none⟩ m d ys h1 (fun j u hj => by rw [Addr.add_lit]; exact h3 j u hj) h0 (by unfold maxLen; omega) hb
theorem row_empty {w : World} {E k g : Nat} (h : w.heap[g]? = some (.cells #[] E (0, 0))) : Row w E k (some ⟨g, 0, none⟩) 0 0 [] := Row.mk h (Nat.le_refl _) (Nat.zero_le _) (by simp) (by simp)
/-- an append of a slice, in a region: some slice, some world. -/
theorem step_chain {P : Program} {ops : Array Oper} {o : Oper} {a : Act} {w : World} {K : Act → World → Prop} {Q : Exit → Act → World → Prop} {E0 : Prop} {t e : TypeId} {z0 : Value} {k by' : Nat}
    (ht : P.underlying t = some (.slice e)) (hinfo : (P.info? e).map (fun i => (i.zero, i.size, i.bytes)) = some (some z0, k, by')) (hz : z0.cells.size = k) (hk : 0 < k) (hby : by' ≤ 1000000)
    (hg : o.guard = none) (d s : Operand) (ho : o.op = .call { callee := .builtin .append, args := #[d, s], argTypes := #[t, t] }) {b : Option Addr} {n c m : Nat} {sv : Value} {xs ys : List Value} (hd : a.eval d = .slice b n c) (hs : a.eval s = sv)
    (hr : Row w e k b n c xs) (hv : SubV w k sv m ys) (hbig : n + m ≤ 1000000)
    (hK : ∀ b' c' w', Row w' e k b' (n + m) c' (xs ++ ys) → Touch (blkOf b) w w' → Fresh w b b' → K (a.put o.dst (.slice b' (n + m) c')) w') : if Region.wanted o (yielded ops a.tmps) = true then Oper.wp P o a w K Q else E0 := by
  obtain ⟨b', c', w', h1, h2, h3, h4⟩ := app_row_src (P := P) w t o.type e ht hinfo hz hk b n c xs hr sv m ys hv hbig hby
  exact step_appendR hg d s t t ho _ _ hd hs h1 (hK b' c' w' h2 h3 h4)
theorem hp_old (w : World) (o o' : Obj) (k : Nat) (h : k < w.heap.size) (e : w.heap[k]? = some o') : (w.alloc o).heap[k]? = some o' := ((bel_new w o).block k h).trans e
/-- what is new since wr. -/
def NewB (wr : World) (b : Option Addr) : Prop := ∀ x ∈ blkOf b, wr.heap.size ≤ x
theorem NewB.lit {wr : World} {g : Nat} (h : wr.heap.size ≤ g) : NewB wr (some ⟨g, 0, none⟩) := fun x hx => by simp [blkOf] at hx; omega
theorem NewB.next {wr w _w' : World} {b b' : Option Addr} (h : NewB wr b) (hb : Below wr.heap.size wr w) (hf : Fresh w b b') : NewB wr b' := fun x hx => by
  obtain ⟨y, hy, rfl⟩ := mem_blkOf.1 hx
  rcases hf y hy with h1 | h1
  · exact h _ h1
  · exact Nat.le_trans hb.size h1
theorem NewB.bel {wr w w' : World} {b : Option Addr} (h : NewB wr b) (hb : Below wr.heap.size wr w) (ht : Touch (blkOf b) w w') : Below wr.heap.size wr w' :=
  ((Touch.of_below hb []).trans ht fun x hx => .inr (h x hx)).keep
theorem bel_one {wr w : World} (h : Below wr.heap.size wr w) (o : Obj) : Below wr.heap.size wr (w.alloc o) := h.trans ((bel_new w o).mono h.size)
theorem bel_two {wr w : World} (h : Below wr.heap.size wr w) : Below wr.heap.size wr w.drew := h.drew
end Go.Proofs.YtmifgnibalbgjaaDoor
