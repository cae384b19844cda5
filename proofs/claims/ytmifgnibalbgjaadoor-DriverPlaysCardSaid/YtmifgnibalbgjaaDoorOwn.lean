/- Laws of no program: copy, clear and append of zero values over rows of elements of k cells each; what a call touches. -/
import Derived.WalkKit
import Derived.WalkSpells
import Derived.WalkLawsBesides
import Derived.Lib.Hide
import Derived.Lib.AppendZeros
import Derived.Lib.Overlaps
import Derived.Deep.AppendSrc
import Derived.Laws.CopyRow
import Derived.Laws.IdiomCopy
namespace Go.Proofs.YtmifgnibalbgjaaDoor
open Go.RowKit

/-- The blocks of a list, and new ones, alone may have turned. -/
structure Touch (bs : List Nat) (w w' : World) : Prop where
  os : w'.os = w.os
  tape : w'.tape = w.tape
  output : w'.output = w.output
  size : w.heap.size ≤ w'.heap.size
  block : ∀ k, k < w.heap.size → k ∉ bs → w'.heap[k]? = w.heap[k]?
theorem Touch.refl (bs : List Nat) (w : World) : Touch bs w w := ⟨rfl, rfl, rfl, Nat.le_refl _, fun _ _ _ => rfl⟩
theorem Touch.trans {bs cs : List Nat} {a b c : World} (h : Touch bs a b) (k : Touch cs b c) (hs : ∀ x ∈ cs, x ∈ bs ∨ a.heap.size ≤ x) : Touch bs a c :=
  ⟨k.os.trans h.os, k.tape.trans h.tape, k.output.trans h.output, Nat.le_trans h.size k.size, fun i hi hn =>
    (k.block i (Nat.lt_of_lt_of_le hi h.size) (fun hc => (hs i hc).elim hn (fun hl => absurd hi (by omega)))).trans (h.block i hi hn)⟩
theorem Touch.andThen {bs : List Nat} {a b c : World} (h : Touch bs a b) (k : Touch bs b c) : Touch bs a c := h.trans k fun _ hx => .inl hx
theorem Touch.mono {bs cs : List Nat} {a b : World} (h : Touch bs a b) (hs : ∀ x ∈ bs, x ∈ cs ∨ a.heap.size ≤ x) : Touch cs a b :=
  ⟨h.os, h.tape, h.output, h.size, fun i hi hn => h.block i hi (fun hb => (hs i hb).elim hn (fun hl => absurd hi (by omega)))⟩
theorem Touch.alloc (bs : List Nat) (w : World) (o : Obj) : Touch bs w (w.alloc o) := ⟨rfl, rfl, rfl, by simp, fun k hk _ => Below.heap_alloc _ _ _ hk⟩
theorem Touch.drewN (bs : List Nat) (w : World) (n : Nat) : Touch bs w (w.drewN n) := ⟨rfl, rfl, rfl, Nat.le_refl _, fun _ _ _ => rfl⟩
theorem Touch.drew (bs : List Nat) (w : World) : Touch bs w w.drew := ⟨rfl, rfl, rfl, Nat.le_refl _, fun _ _ _ => rfl⟩
theorem Touch.setCell {bs : List Nat} (w : World) (a : Addr) (v : Value) (ha : a.block ∈ bs) : Touch bs w (w.setCell a v) :=
  ⟨rfl, rfl, rfl, by simp [World.setCell], fun k _ hn => Below.heap_setCell _ _ _ _ (fun e => hn (e ▸ ha))⟩
theorem Touch.setRow {bs : List Nat} (w : World) (g : Nat) (c : Array Value) (ha : g ∈ bs) : Touch bs w (w.setRow g c) :=
  ⟨rfl, rfl, rfl, by simp, fun k _ hn => setRow_other w g k _ (fun e => hn (e ▸ ha))⟩
theorem Touch.grown {bs : List Nat} {w w' : World} {row : Option Nat} (h : w.grownBy w' row) (hr : ∀ g, row = some g → g ∈ bs) : Touch bs w w' :=
  ⟨h.os, h.tape, h.output, h.size, fun k hk hn => h.block k hk (fun e => hn (hr k e.symm))⟩
theorem Touch.keep {w w' : World} (h : Touch [] w w') : Below w.heap.size w w' := ⟨h.os, h.tape, h.output, h.size, fun k hk => h.block k hk (by simp)⟩
theorem Touch.of_below {w w' : World} (h : Below w.heap.size w w') (bs : List Nat) : Touch bs w w' := ⟨h.os, h.tape, h.output, h.size, fun k hk _ => h.block k hk⟩
theorem Touch.heap {bs : List Nat} {w w' : World} (h : Touch bs w w') {g : Nat} {o : Obj} (hg : w.heap[g]? = some o) (hn : g ∉ bs) : w'.heap[g]? = some o :=
  (h.block g (Array.getElem?_eq_some_iff.1 hg).1 hn).trans hg
theorem Touch.cell {bs : List Nat} {w w' : World} (h : Touch bs w w') {p : Addr} {v : Value} (hp : w.cell? p = some v) (hn : p.block ∉ bs) : w'.cell? p = some v := by
  rw [World.cell?_of_block (w := w) (h.block p.block (World.block_lt_of_cell? w p hp) hn)]; exact hp

section
variable {P : Program}

theorem run_copy_k (w : World) (dT sT ty elem : TypeId) (k g o dLen dCap : Nat) (a : Addr) (sLen sCap : Nat) (cur : Array Value) (t : TypeId) (cs : List Value) (m : Nat)
    (hu : P.underlying dT = some (.slice elem)) (hs : (P.info? elem).map (·.size) = some k)
    (hg : w.heap[g]? = some (.cells cur t (0, 0))) (hm : m = Nat.min sLen dLen) (hn : cs.length = m * k)
    (hsrc : ∀ j v, cs[j]? = some v → w.cell? (a.add j) = some v) (hfit : o + cs.length ≤ cur.size) (h1 : ∀ v ∈ cs, v.oneCell' = true) :
    (Builtin.copy_ #[dT, sT] ty #[.slice (some ⟨g, o, none⟩) dLen dCap, .slice (some a) sLen sCap]).run P w =
      .ok (goInt m) (w.setRow g (cur.toList.take o ++ cs ++ cur.toList.drop (o + cs.length)).toArray) := by
  have hl := run_loadCells_list (P := P) w a cs hsrc
  have hst := run_storeCells_at P g o t cs 0 cur w hg (by simpa using hfit) h1
  cases hq : P.info? elem with
  | none => simp [hq] at hs
  | some i =>
    have hi : i.size = k := by simpa [hq] using hs
    simp [Builtin.copy_, run_underlying hu, Builtin.lenOf, Builtin.firstCells, sizeOf, typeInfo, hq, hi, ← hm, ← hn, hl, hst]

/-- A step whose run is known. -/
theorem wpList_run (w : World) {ops : Array Oper} {rest : List Oper} {o : Oper} {a : Act} {Q : Exit → Act → World → Prop} (hgd : o.guard = none) {v' : Value} {w' : World}
    (hr : (execOp a.eval o).run P w = .ok (.value v') w') (h : wpList P ops Q rest (a.put o.dst v') w') : wpList P ops Q (o :: rest) a w :=
  wpList_plain hgd fun K hK => by
    unfold Oper.wp
    rw [hr]
    exact hK _ _ h
theorem exec_copy (w : World) {o : Oper} {a : Act} (d s : Operand) (t t' : TypeId) (ho : o.op = .call { callee := .builtin .copy, args := #[d, s], argTypes := #[t, t'] })
    {v u : Value} (hd : a.eval d = v) (hs : a.eval s = u) {v' : Value} {w' : World} (hr : (Builtin.copy_ #[t, t'] o.type #[v, u]).run P w = .ok v' w') :
    (execOp a.eval o).run P w = .ok (.value v') w' := by
  unfold execOp
  simp only [ho, resolve, invoke, builtin, Sem.run_bind, Sem.run_pure, Result.andThen_ok, List.map_toArray, List.map_cons, List.map_nil, hd, hs, hr]
theorem exec_append (w : World) {o : Oper} {a : Act} (d s : Operand) (t t' : TypeId) (ho : o.op = .call { callee := .builtin .append, args := #[d, s], argTypes := #[t, t'] })
    {v u : Value} (hd : a.eval d = v) (hs : a.eval s = u) {v' : Value} {w' : World} (hr : (Builtin.append_ #[t, t'] o.type #[v, u]).run P w = .ok v' w') :
    (execOp a.eval o).run P w = .ok (.value v') w' := by
  unfold execOp
  simp only [ho, resolve, invoke, builtin, Sem.run_bind, Sem.run_pure, Result.andThen_ok, List.map_toArray, List.map_cons, List.map_nil, hd, hs, hr]
theorem exec_clear (w : World) {o : Oper} {a : Act} (s : Operand) (t : TypeId) (ho : o.op = .call { callee := .builtin .clear, args := #[s], argTypes := #[t] })
    {u : Value} (hs : a.eval s = u) {v' : Value} {w' : World} (hr : (Builtin.clear_ #[t] o.type #[u]).run P w = .ok v' w') :
    (execOp a.eval o).run P w = .ok (.value v') w' := by
  unfold execOp
  simp only [ho, resolve, invoke, builtin, Sem.run_bind, Sem.run_pure, Result.andThen_ok, List.map_toArray, List.map_cons, List.map_nil, hs, hr]

theorem run_clear_k (w : World) (t e ty : TypeId) (z : Value) (ht : P.underlying t = some (.slice e)) (hv : (zeroValue e).run P w = .ok z w) (h1 : ∀ u ∈ z.cells, u.oneCell' = true)
    (g o n c : Nat) (cur : Array Value) (T : TypeId) (hn : 0 < n) (hg : w.heap[g]? = some (.cells cur T (0, 0))) (hfit : o + n * z.cells.size ≤ cur.size) :
    (Builtin.clear_ #[t] ty #[.slice (some ⟨g, o, none⟩) n c]).run P w =
      .ok (.tuple #[]) (w.setRow g (cur.toList.take o ++ (Builtin.zeroCells z.cells n).toList ++ cur.toList.drop (o + n * z.cells.size)).toArray) := by
  have hl : (Builtin.zeroCells z.cells n).toList.length = n * z.cells.size := by rw [Array.length_toList, size_zeroCells]
  have hone : ∀ u ∈ (Builtin.zeroCells z.cells n).toList, u.oneCell' = true := by
    intro u hu
    rcases Nat.eq_zero_or_pos z.cells.size with h0 | h0
    · have hnil : (Builtin.zeroCells z.cells n).toList = [] := List.eq_nil_of_length_eq_zero (by rw [hl, h0, Nat.mul_zero])
      rw [hnil] at hu; simp at hu
    · obtain ⟨j, hj, rfl⟩ := List.getElem_of_mem hu
      refine h1 _ ?_
      simp only [Builtin.zeroCells, Array.getElem_toList, Array.getElem_map, Array.getElem_range]
      have := Nat.mod_lt j h0
      rw [getElem!_pos z.cells (j % z.cells.size) this]
      exact Array.getElem_mem _
  have hst := run_storeCells_at P g o T _ 0 cur w hg (by rw [hl]; simpa using hfit) hone
  obtain ⟨m, rfl⟩ : ∃ m, n = m + 1 := ⟨n - 1, by omega⟩
  simp only [Nat.add_zero, hl] at hst
  simp [Builtin.clear_, run_underlying ht, hv, hst]

/-- append of n zero values where there is no room: a new row. -/
theorem run_append_zeros_grow (w : World) (t tn ty e : TypeId) (i : TypeInfo) (z : Value) (k : IntKind) (kn : IntKind) (ht : P.underlying t = some (.slice e)) (htn : P.underlying tn = some (.int kn)) (hi : P.info? e = some i) (hz : i.zero = some z)
    (base : Option Addr) (sLen sCap : Nat) (olds : List Value) (hold : (Builtin.firstCells i.size sLen (.slice base sLen sCap)).run P w.drew = .ok olds.toArray w.drew)
    (n : Nat) (h0 : 0 < n) (hs : 0 < i.size) (hg : sCap < sLen + n) (h63 : ((sLen + n : Nat) : Int) ≤ 9223372036854775807) (hfit : (sLen + n) * i.bytes ≤ 140737488355328) :
    (Builtin.append_ #[t, tn] ty #[.slice base sLen sCap, .int k n]).run P w =
      .ok (.slice (some ⟨w.heap.size, 0, none⟩) (sLen + n) (grownCap w (sLen + n) sCap e))
        (w.drew.alloc (.cells (olds.toArray ++ Builtin.zeroCells z.cells n ++ Builtin.zeroCells z.cells (grownCap w (sLen + n) sCap e - (sLen + n))) e)) := by
  have hn : n ≠ 0 := by omega
  have hnr : ¬ (sLen + n ≤ sCap) := by omega
  have hw : IntKind.i64.wrap (n : Int) = n := by rw [IntKind.wrap_i64]; omega
  have h63' : ¬ (9223372036854775807 < ((sLen : Int) + (n : Int))) := by omega
  have hnb : n * i.bytes ≤ (sLen + n) * i.bytes := Nat.mul_le_mul_right _ (by omega)
  have h48' : ¬ (281474976710656 < Builtin.nextslicecap (sLen + n) sCap * i.bytes) := by
    have := growslice_fits hg hfit
    omega
  have h48i : ¬ (281474976710656 < (n : Int) * (i.bytes : Int)) := by
    rw [← Int.natCast_mul]
    omega
  have hneg : ¬ ((n : Int) < 0) := by omega
  have hns : ¬ (n * i.size = 0) := Nat.mul_ne_zero hn (by omega)
  simp [Builtin.append_, run_underlying ht, run_underlying htn, sizeOf, typeInfo, zeroValue, hi, hz, asInt, asIntOf, hw, hnr, hneg, hns, h63', h48', h48i, Question.forced, newRow, grownCap, hold]
theorem step_run {ops : Array Oper} {o : Oper} {a : Act} {w : World} {K : Act → World → Prop} {Q : Exit → Act → World → Prop} {E : Prop} (hg : o.guard = none) {v' : Value} {w' : World}
    (hr : (execOp a.eval o).run P w = .ok (.value v') w') (hK : K (a.put o.dst v') w') : if Region.wanted o (yielded ops a.tmps) = true then Oper.wp P o a w K Q else E := by
  have hw : Region.wanted o (yielded ops a.tmps) = true := by simp [Region.wanted, hg]
  rw [if_pos hw]
  unfold Oper.wp
  rw [hr]
  exact hK

theorem wpList_copyR (w : World) {ops : Array Oper} {rest : List Oper} {o : Oper} {a : Act} {Q : Exit → Act → World → Prop} (hgd : o.guard = none) (d s : Operand) (t t' : TypeId)
    (ho : o.op = .call { callee := .builtin .copy, args := #[d, s], argTypes := #[t, t'] }) (v u : Value) (hd : a.eval d = v) (hs : a.eval s = u) {v' : Value} {w' : World}
    (hr : (Builtin.copy_ #[t, t'] o.type #[v, u]).run P w = .ok v' w') (h : wpList P ops Q rest (a.put o.dst v') w') : wpList P ops Q (o :: rest) a w := wpList_run w hgd (exec_copy w d s t t' ho hd hs hr) h
theorem wpList_appendR (w : World) {ops : Array Oper} {rest : List Oper} {o : Oper} {a : Act} {Q : Exit → Act → World → Prop} (hgd : o.guard = none) (d s : Operand) (t t' : TypeId)
    (ho : o.op = .call { callee := .builtin .append, args := #[d, s], argTypes := #[t, t'] }) (v u : Value) (hd : a.eval d = v) (hs : a.eval s = u) {v' : Value} {w' : World}
    (hr : (Builtin.append_ #[t, t'] o.type #[v, u]).run P w = .ok v' w') (h : wpList P ops Q rest (a.put o.dst v') w') : wpList P ops Q (o :: rest) a w := wpList_run w hgd (exec_append w d s t t' ho hd hs hr) h
theorem wpList_clearR (w : World) {ops : Array Oper} {rest : List Oper} {o : Oper} {a : Act} {Q : Exit → Act → World → Prop} (hgd : o.guard = none) (s : Operand) (t : TypeId)
    (ho : o.op = .call { callee := .builtin .clear, args := #[s], argTypes := #[t] }) (u : Value) (hs : a.eval s = u) {v' : Value} {w' : World}
    (hr : (Builtin.clear_ #[t] o.type #[u]).run P w = .ok v' w') (h : wpList P ops Q rest (a.put o.dst v') w') : wpList P ops Q (o :: rest) a w := wpList_run w hgd (exec_clear w s t ho hs hr) h
theorem step_copyR {ops : Array Oper} {o : Oper} {a : Act} {w : World} {K : Act → World → Prop} {Q : Exit → Act → World → Prop} {E : Prop} (hg : o.guard = none) (d s : Operand) (t t' : TypeId)
    (ho : o.op = .call { callee := .builtin .copy, args := #[d, s], argTypes := #[t, t'] }) (v u : Value) (hd : a.eval d = v) (hs : a.eval s = u) {v' : Value} {w' : World}
    (hr : (Builtin.copy_ #[t, t'] o.type #[v, u]).run P w = .ok v' w') (hK : K (a.put o.dst v') w') : if Region.wanted o (yielded ops a.tmps) = true then Oper.wp P o a w K Q else E := step_run hg (exec_copy w d s t t' ho hd hs hr) hK
theorem step_appendR {ops : Array Oper} {o : Oper} {a : Act} {w : World} {K : Act → World → Prop} {Q : Exit → Act → World → Prop} {E : Prop} (hg : o.guard = none) (d s : Operand) (t t' : TypeId)
    (ho : o.op = .call { callee := .builtin .append, args := #[d, s], argTypes := #[t, t'] }) (v u : Value) (hd : a.eval d = v) (hs : a.eval s = u) {v' : Value} {w' : World}
    (hr : (Builtin.append_ #[t, t'] o.type #[v, u]).run P w = .ok v' w') (hK : K (a.put o.dst v') w') : if Region.wanted o (yielded ops a.tmps) = true then Oper.wp P o a w K Q else E := step_run hg (exec_append w d s t t' ho hd hs hr) hK

theorem run_storeAt_k (w : World) (t T : TypeId) (g o k : Nat) (cur : Array Value) (v : Value) (hi : (P.info? t).map (·.size) = some k) (hv : v.cells.size = k) (hg : w.heap[g]? = some (.cells cur T (0, 0))) (hfit : o + k ≤ cur.size) (h1 : ∀ u ∈ v.cells, u.oneCell' = true) :
    (Instr.storeAt t (.pointer (some ⟨g, o, none⟩)) v).run P w = .ok () (w.setRow g (cur.toList.take o ++ v.cells.toList ++ cur.toList.drop (o + k)).toArray) := by
  have hst := run_storeCells_at P g o T v.cells.toList 0 cur w hg (by rw [Array.length_toList, hv]; simpa using hfit) (fun u hu => h1 u (by simpa using hu))
  obtain ⟨i, hi', hs⟩ := Option.map_eq_some_iff.1 hi
  simp only [Nat.add_zero, Array.length_toList, hv] at hst
  simp [Instr.storeAt, storeVar, sizeOf, typeInfo, hi', hs, hv, hst, Instr.sureAddr]
theorem wpList_storeR (w : World) {ops : Array Oper} {rest : List Oper} {o : Oper} {a : Act} {Q : Exit → Act → World → Prop} (hgd : o.guard = none) (t : TypeId) (d s : Operand) (ho : o.op = .store t d s)
    (p v : Value) (hd : a.eval d = p) (hs : a.eval s = v) {w' : World} (hr : (Instr.storeAt t p v).run P w = .ok () w') (h : wpList P ops Q rest (a.put o.dst undef) w') : wpList P ops Q (o :: rest) a w :=
  wpList_plain hgd fun K hK => by
    unfold Oper.wp
    have : (execOp a.eval o).run P w = .ok .skip w' := by
      unfold execOp
      simp only [ho, hd, hs, Sem.run_bind, hr, Result.andThen_ok, Sem.run_pure]
    rw [this]
    exact hK _ _ h

/-- A slice that owns its row. -/
def Row (w : World) (E k : Nat) (a : Option Addr) (n c : Nat) (xs : List Value) : Prop := w.ownsRow 0 E k (.slice a n c) n xs
theorem Row.out {w : World} {E k : Nat} {a : Option Addr} {n c : Nat} {xs : List Value} (h : Row w E k a n c xs) :
    (a = none ∧ n = 0 ∧ c = 0 ∧ xs = []) ∨ ∃ g cur, a = some ⟨g, 0, none⟩ ∧ w.heap[g]? = some (.cells cur E (0, 0)) ∧ n ≤ c ∧ c ≤ maxLen ∧ cur.size = c * k ∧ cur.toList.take (n * k) = xs ∧ xs.length = n * k := by
  obtain ⟨hl, ⟨hv, rfl⟩ | ⟨g, cap, cur, hv, _, hg, hnc, hcm, hcs, htk⟩⟩ := h
  · simp only [Value.slice.injEq] at hv
    exact .inl ⟨hv.1, rfl, hv.2.2, List.eq_nil_of_length_eq_zero (by simpa using hl)⟩
  · simp only [Value.slice.injEq] at hv
    obtain ⟨rfl, _, rfl⟩ := hv
    exact .inr ⟨g, cur, rfl, hg, hnc, hcm, hcs, htk, hl⟩
theorem Row.mk {w : World} {E k : Nat} {n c : Nat} {xs : List Value} {g : Nat} {cur : Array Value} (hg : w.heap[g]? = some (.cells cur E (0, 0))) (hnc : n ≤ c) (hcm : c ≤ maxLen) (hcs : cur.size = c * k) (htk : cur.toList.take (n * k) = xs) :
    Row w E k (some ⟨g, 0, none⟩) n c xs :=
  ⟨by rw [← htk, List.length_take, Array.length_toList, hcs]; exact Nat.min_eq_left (Nat.mul_le_mul_right _ hnc), .inr ⟨g, c, cur, rfl, Nat.zero_le _, hg, hnc, hcm, hcs, htk⟩⟩
theorem Row.nil (w : World) (E k : Nat) : Row w E k none 0 0 [] := World.ownsRow_nil _ _ _ _
theorem Row.touch {w w' : World} {E k : Nat} {a : Option Addr} {n c : Nat} {xs : List Value} {bs : List Nat} (h : Row w E k a n c xs) (t : Touch bs w w') (hn : ∀ x, a = some x → x.block ∉ bs) : Row w' E k a n c xs := by
  rcases h.out with ⟨rfl, rfl, rfl, rfl⟩ | ⟨g, cur, rfl, hg, h1, h2, h3, h4, _⟩
  · exact Row.nil _ _ _
  · exact Row.mk (t.heap hg (hn _ rfl)) h1 h2 h3 h4
theorem Row.lt {w : World} {E k : Nat} {a : Option Addr} {n c : Nat} {xs : List Value} (h : Row w E k a n c xs) : ∀ x, a = some x → x.block < w.heap.size := by
  rcases h.out with ⟨rfl, _⟩ | ⟨g, cur, rfl, hg, _⟩
  · intro x hx; simp at hx
  · intro x hx; simp only [Option.some.injEq] at hx; subst hx; exact (Array.getElem?_eq_some_iff.1 hg).1
theorem Row.len {w : World} {E k : Nat} {a : Option Addr} {n c : Nat} {xs : List Value} (h : Row w E k a n c xs) : xs.length = n * k := h.1
theorem Row.cellAt {w : World} {E k : Nat} {a : Option Addr} {n c : Nat} {xs : List Value} (h : Row w E k a n c xs) (j : Nat) (hj : j < xs.length) : ∃ g, a = some ⟨g, 0, none⟩ ∧ w.cell? ⟨g, j, none⟩ = some xs[j] := by
  rcases h.out with ⟨rfl, rfl, rfl, rfl⟩ | ⟨g, cur, rfl, hg, h1, h2, h3, h4, h5⟩
  · simp at hj
  · refine ⟨g, rfl, ?_⟩
    have e : xs[j]? = some xs[j] := List.getElem?_eq_getElem hj
    rw [← e]
    conv => rhs; rw [← h4]
    rw [List.getElem?_take, if_pos (by omega)]
    unfold World.cell?
    rw [show (⟨g, j, none⟩ : Addr).block = g from rfl, hg]
    simp

/-- The block that a slice's row lies in. -/
def blkOf (a : Option Addr) : List Nat := (a.map (·.block)).toList
theorem mem_blkOf {a : Option Addr} {g : Nat} : g ∈ blkOf a ↔ ∃ x, a = some x ∧ x.block = g := by
  cases a <;> simp [blkOf, eq_comm]
/-- A row that comes of another one lies in its block, or in a new one. -/
def Fresh (w : World) (a a' : Option Addr) : Prop := ∀ x, a' = some x → x.block ∈ blkOf a ∨ w.heap.size ≤ x.block
theorem Fresh.refl (w : World) (a : Option Addr) : Fresh w a a := fun x hx => .inl (mem_blkOf.2 ⟨x, hx, rfl⟩)
theorem Fresh.trans {w w' : World} {a b c : Option Addr} (h : Fresh w a b) (k : Fresh w' b c) (hs : w.heap.size ≤ w'.heap.size) : Fresh w a c := fun x hx => by
  rcases k x hx with h1 | h1
  · obtain ⟨y, hy, e⟩ := mem_blkOf.1 h1
    rw [← e]; exact h y hy
  · exact .inr (Nat.le_trans hs h1)
theorem Fresh.nil {w : World} {a a' : Option Addr} (h : Fresh w none a') : Fresh w a a' := fun x hx => by
  rcases h x hx with h1 | h1
  · simp [blkOf] at h1
  · exact .inr h1
theorem blkOf_nil : blkOf none = [] := rfl
theorem blkOf_some (g : Nat) : blkOf (some ⟨g, 0, none⟩) = [g] := rfl

theorem run_append_row (w : World) (t ty e : TypeId) (i : TypeInfo) (z : Value) (size bytes : Nat) (ht : P.underlying t = some (.slice e)) (hi : P.info? e = some i) (hz : i.zero = some z)
    (hsize : i.size = size) (hby : i.bytes = bytes) (hzs : z.cells.size = size) (hsz : 0 < size)
    (b : Option Addr) (n cap : Nat) (xs : List Value) (hown : Row w e size b n cap xs)
    (a : Addr) (m c : Nat) (news : List Value) (hl : news.length = m * size) (hnews : ∀ j u, news[j]? = some u → w.cell? (a.add j) = some u) (h1 : ∀ u ∈ news, u.oneCell' = true)
    (h63 : n + m ≤ maxLen) (hbytes : (n + m) * bytes ≤ 140737488355328) :
    ∃ b' cap' w', (Builtin.append_ #[t, t] ty #[.slice b n cap, .slice (some a) m c]).run P w = .ok (.slice b' (n + m) cap') w' ∧ Row w' e size b' (n + m) cap' (xs ++ news) ∧ Touch (blkOf b) w w' ∧ Fresh w b b' := by
  subst hsize
  subst hby
  have hsmall : n + m ≤ 9223372036854775807 := by simp only [maxLen] at h63; omega
  have grown : ∀ (old : Nat), old < n + m → ∀ bs : List Nat, xs.length = n * i.size →
      Row (w.drew.alloc (.cells (xs.toArray ++ news.toArray ++ Builtin.zeroCells z.cells (grownCap w (n + m) old e - (n + m))) e)) e i.size (some ⟨w.heap.size, 0, none⟩) (n + m) (grownCap w (n + m) old e) (xs ++ news) ∧
      Touch bs w (w.drew.alloc (.cells (xs.toArray ++ news.toArray ++ Builtin.zeroCells z.cells (grownCap w (n + m) old e - (n + m))) e)) := by
    intro old ho bs hxl
    have hge := grownCap_ge w (n + m) old e
    refine ⟨Row.mk (heap_alloc_new w.drew _) hge (grownCap_le_maxLen w (n + m) old e h63) ?_ ?_, (Touch.drew _ _).andThen (Touch.alloc _ _ _)⟩
    · simp only [Array.size_append, List.size_toArray, size_zeroCells, hzs, hxl, hl, ← Nat.add_mul]
      congr 1
      omega
    · simp only [Array.toList_append, List.append_assoc]
      rw [← List.append_assoc, Nat.add_mul, ← hxl, ← hl, ← List.length_append]
      exact List.take_left
  rcases hown.out with ⟨rfl, rfl, rfl, rfl⟩ | ⟨g, cur, rfl, hg, hnc, hcm, hcs, htake, hxl⟩
  · by_cases hm : m = 0
    · subst hm
      have hn : news = [] := List.eq_nil_of_length_eq_zero (by simpa using hl)
      subst hn
      refine ⟨none, 0, w, ?_, Row.nil _ _ _, Touch.refl _ _, Fresh.refl _ _⟩
      simp [Builtin.append_, run_underlying ht, sizeOf, typeInfo, hi, Builtin.lenOf, Builtin.firstCells, loadCells, loadCellsFrom]
    · have hr := run_append_nil (P := P) w t ty e i z ht hi hz a m c news hl hnews (by omega) (by omega) (by have hb := hbytes; simp only [Nat.zero_add] at hb; omega)
      have hgr := grown 0 (by omega) (blkOf none) (by simp)
      simp only [Nat.zero_add, List.nil_append, Array.empty_append] at hgr ⊢
      exact ⟨_, _, _, hr, hgr.1, hgr.2, fun x hx => by simp only [Option.some.injEq] at hx; subst hx; exact .inr (Nat.le_refl _)⟩
  · by_cases hroom : n + m ≤ cap
    · have hfit : n * i.size + news.length ≤ cur.size := by rw [hl, hcs, ← Nat.add_mul]; exact Nat.mul_le_mul_right _ hroom
      have hr := run_append_room (P := P) w t ty e i ht hi g n cap cur hg a m c news hl hnews h1 hroom hfit
      refine ⟨_, _, _, hr, Row.mk (setRow_heap w g cur _ e _ hg) hroom hcm ?_ ?_, Touch.setRow _ _ _ (by simp [blkOf]), Fresh.refl _ _⟩
      · simp only [List.size_toArray, List.length_append, List.length_take, List.length_drop, Array.length_toList]
        omega
      · rw [htake, Nat.add_mul, ← hxl, ← hl, ← List.length_append]
        exact List.take_left
    · have holds : ∀ j u, xs[j]? = some u → w.cell? ((⟨g, 0, none⟩ : Addr).add j) = some u := fun j u hj => by
        have hj' : j < xs.length := (List.getElem?_eq_some_iff.1 hj).1
        obtain ⟨g', e', hc⟩ := hown.cellAt j hj'
        simp only [Option.some.injEq, Addr.mk.injEq, and_true] at e'
        subst e'
        rw [Addr.add_lit, Nat.zero_add, hc, ← List.getElem?_eq_getElem hj', hj]
      have hr := run_append_grow (P := P) w t ty e i z ht hi hz ⟨g, 0, none⟩ n cap xs hxl holds a m c news hl hnews (by omega) (by omega) (growslice_fits (by omega) hbytes)
      have hgr := grown cap (by omega) (blkOf (some ⟨g, 0, none⟩)) hxl
      exact ⟨_, _, _, hr, hgr.1, hgr.2, fun x hx => by simp only [Option.some.injEq] at hx; subst hx; exact .inr (Nat.le_refl _)⟩

theorem ins_list (cur xs vs : List Value) (n i c k : Nat) (hi : i < n) (hc : n + 1 ≤ c) (hl : cur.length = c * k) (hx : cur.take (n * k) = xs) (hv : vs.length = k) :
    let c1 := cur.take ((i + 1) * k) ++ xs.drop (i * k) ++ cur.drop ((n + 1) * k)
    (c1.take (i * k) ++ vs ++ c1.drop (i * k + k)).take ((n + 1) * k) = xs.take (i * k) ++ vs ++ xs.drop (i * k) ∧ (c1.take (i * k) ++ vs ++ c1.drop (i * k + k)).length = c * k ∧ c1.length = c * k := by
  intro c1
  have e1 : (i + 1) * k = i * k + k := Nat.succ_mul _ _
  have e2 : (n + 1) * k = n * k + k := Nat.succ_mul _ _
  have h1 : (i + 1) * k ≤ n * k := Nat.mul_le_mul_right _ hi
  have h2 : (n + 1) * k ≤ c * k := Nat.mul_le_mul_right _ hc
  have hxl : xs.length = n * k := by rw [← hx, List.length_take]; omega
  have hc1 : c1.length = c * k := by simp only [c1, List.length_append, List.length_take, List.length_drop]; omega
  have t1 : c1.take (i * k) = xs.take (i * k) := by
    simp only [c1]
    rw [List.append_assoc, List.take_append_of_le_length (by rw [List.length_take]; omega), List.take_take, Nat.min_eq_left (by omega), ← hx, List.take_take, Nat.min_eq_left (by omega)]
  have d1 : c1.drop (i * k + k) = xs.drop (i * k) ++ cur.drop ((n + 1) * k) := by
    simp only [c1]
    rw [← e1, List.append_assoc, List.drop_append_of_le_length (by rw [List.length_take]; omega), List.drop_eq_nil_of_le (by rw [List.length_take]; omega), List.nil_append]
  refine ⟨?_, ?_, hc1⟩
  · rw [t1, d1, ← List.append_assoc, List.take_append_of_le_length (by simp only [List.length_append, List.length_take, List.length_drop]; omega), List.take_of_length_le (by simp only [List.length_append, List.length_take, List.length_drop]; omega)]
  · simp only [List.length_append, List.length_take, List.length_drop, hc1]; omega
theorem ins_new (xs vs zs rs : List Value) (n i k : Nat) (hi : i < n) (hx : xs.length = n * k) (hv : vs.length = k) (hz : zs.length = (n + 1 - i) * k) :
    let c0 := xs.take (i * k) ++ zs ++ rs
    let c1 := c0.take (i * k) ++ vs ++ c0.drop (i * k + k)
    c1.take ((i + 1) * k) ++ xs.drop (i * k) ++ c1.drop ((n + 1) * k) = xs.take (i * k) ++ vs ++ xs.drop (i * k) ++ rs ∧ c1.length = c0.length ∧ c0.length = (n + 1) * k + rs.length := by
  intro c0 c1
  have e1 : (i + 1) * k = i * k + k := Nat.succ_mul _ _
  have e2 : (n + 1) * k = n * k + k := Nat.succ_mul _ _
  have e3 : (n + 1 - i) * k + i * k = (n + 1) * k := by rw [← Nat.add_mul]; congr 1; omega
  have h1 : (i + 1) * k ≤ n * k := Nat.mul_le_mul_right _ hi
  have hc0 : c0.length = (n + 1) * k + rs.length := by simp only [c0, List.length_append, List.length_take]; omega
  have t0 : c0.take (i * k) = xs.take (i * k) := by
    simp only [c0]
    rw [List.append_assoc, List.take_append_of_le_length (by rw [List.length_take]; omega), List.take_take, Nat.min_self]
  have hc1 : c1.length = c0.length := by simp only [c1, List.length_append, List.length_take, List.length_drop, hv]; omega
  have t1 : c1.take ((i + 1) * k) = xs.take (i * k) ++ vs := by
    simp only [c1]
    rw [t0, e1, List.take_append_of_le_length (by simp only [List.length_append, List.length_take]; omega), List.take_of_length_le (by simp only [List.length_append, List.length_take]; omega)]
  have d1 : c1.drop ((n + 1) * k) = rs := by
    have hlen : (c0.take (i * k) ++ vs).length = i * k + k := by rw [List.length_append, List.length_take, hv]; omega
    simp only [c1]
    rw [show (n + 1) * k = (c0.take (i * k) ++ vs).length + ((n + 1) * k - (i * k + k)) by omega, List.drop_length_add_append, List.drop_drop, show i * k + k + ((n + 1) * k - (i * k + k)) = (xs.take (i * k) ++ zs).length by rw [List.length_append, List.length_take]; omega]
    simp only [c0]
    rw [List.drop_left]
  exact ⟨by rw [t1, d1], hc1, hc0⟩
/-- A struct is stored at place i of a row whose places from j on are still to be read. -/
theorem set_take (cur : List Value) (v : List Value) (i k : Nat) (hv : v.length = k) (hi : i * k + k ≤ cur.length) :
    (cur.take (i * k) ++ v ++ cur.drop (i * k + k)).take ((i + 1) * k) = cur.take (i * k) ++ v := by
  have e : (i + 1) * k = i * k + k := Nat.succ_mul _ _
  rw [e, List.take_append_of_le_length (by simp only [List.length_append, List.length_take]; omega), List.take_of_length_le (by simp only [List.length_append, List.length_take]; omega)]
theorem set_len (cur : List Value) (v : List Value) (i k : Nat) (hv : v.length = k) (hi : i * k + k ≤ cur.length) :
    (cur.take (i * k) ++ v ++ cur.drop (i * k + k)).length = cur.length := by
  simp only [List.length_append, List.length_take, List.length_drop]; omega
theorem set_drop (cur : List Value) (v : List Value) (i j n k : Nat) (hv : v.length = k) (hi : i * k + k ≤ cur.length) (hij : i < j) :
    ((cur.take (i * k) ++ v ++ cur.drop (i * k + k)).take (n * k)).drop (j * k) = (cur.take (n * k)).drop (j * k) := by
  have e : (i + 1) * k = i * k + k := Nat.succ_mul _ _
  have h1 : (i + 1) * k ≤ j * k := Nat.mul_le_mul_right _ hij
  have hlen : (cur.take (i * k) ++ v).length = i * k + k := by rw [List.length_append, List.length_take, hv]; omega
  rw [List.drop_take, List.drop_take]
  congr 1
  rw [List.drop_append, hlen, List.drop_eq_nil_of_le (by omega), List.nil_append, List.drop_drop]
  congr 1
  omega
end
end Go.Proofs.YtmifgnibalbgjaaDoor
