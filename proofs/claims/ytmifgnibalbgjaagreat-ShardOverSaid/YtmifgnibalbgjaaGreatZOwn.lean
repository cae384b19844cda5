/- Laws of no program: copy, clear and append of zero values over rows of elements of k cells each; what a call touches. -/
import Derived.WalkKit
import Derived.WalkSpells
import Derived.WalkLawsBesides
import Derived.Lib.Hide
import Derived.Lib.AppendZeros
import Derived.Lib.Overlaps
import Derived.Deep.AppendSrc
import Derived.Laws.CopyRow
import Derived.Laws.IdiomCopy
namespace Go.Proofs.YtmifgnibalbgjaaGreat
open Go.RowKit

/-- The blocks of a list, and new ones, alone may have turned. -/
structure Touch (bs : List Nat) (w w' : World) : Prop where
  os : w'.os = w.os
  tape : w'.tape = w.tape
  output : w'.output = w.output
  size : w.heap.size ≤ w'.heap.size
  block : ∀ k, k < w.heap.size → k ∉ bs → w'.heap[k]? = w.heap[k]?
theorem Touch.refl (bs : List Nat) (w : World) : Touch bs w w := ⟨rfl, rfl, rfl, Nat.le_refl _, fun _ _ _ => rfl⟩
theorem Touch.trans {bs cs : List Nat} {a b c : World} (h : Touch bs a b) (k : Touch cs b c) (hs : ∀ x ∈ cs, x ∈ bs ∨ a.heap.size ≤ x) : Touch bs a c :=
  ⟨k.os.trans h.os, k.tape.trans h.tape, k.output.trans h.output, Nat.le_trans h.size k.size, fun i hi hn =>
    (k.block i (Nat.lt_of_lt_of_le hi h.size) (fun hc => (hs i hc).elim hn (fun hl => absurd hi (by omega)))).trans (h.block i hi hn)⟩
theorem Touch.andThen {bs : List Nat} {a b c : World} (h : Touch bs a b) (k : Touch bs b c) : Touch bs a c := h.trans k fun _ hx => .inl hx
theorem Touch.mono {bs cs : List Nat} {a b : World} (h : Touch bs a b) (hs : ∀ x ∈ bs, x ∈ cs ∨ a.heap.size ≤ x) : Touch cs a b :=
  ⟨h.os, h.tape, h.output, h.size, fun i hi hn => h.block i hi (fun hb => (hs i hb).elim hn (fun hl => absurd hi (by omega)))⟩
theorem Touch.alloc (bs : List Nat) (w : World) (o : Obj) : Touch bs w (w.alloc o) := ⟨rfl, rfl, rfl, by simp, fun k hk _ => Below.heap_alloc _ _ _ hk⟩
theorem Touch.drewN (bs : List Nat) (w : World) (n : Nat) : Touch bs w (w.drewN n) := ⟨rfl, rfl, rfl, Nat.le_refl _, fun _ _ _ => rfl⟩
theorem Touch.drew (bs : List Nat) (w : World) : Touch bs w w.drew := ⟨rfl, rfl, rfl, Nat.le_refl _, fun _ _ _ => rfl⟩
theorem Touch.setCell {bs : List Nat} (w : World) (a : Addr) (v : Value) (ha : a.block ∈ bs) : Touch bs w (w.setCell a v) :=
  ⟨rfl, rfl, rfl, by simp [World.setCell], fun k _ hn => Below.heap_setCell _ _ _ _ (fun e => hn (e ▸ ha))⟩
theorem Touch.setRow {bs : List Nat} (w : World) (g : Nat) (c : Array Value) (ha : g ∈ bs) : Touch bs w (w.setRow g c) :=
  ⟨rfl, rfl, rfl, by simp, fun k _ hn => setRow_other w g k _ (fun e => hn (e ▸ ha))⟩
theorem Touch.grown {bs : List Nat} {w w' : World} {row : Option Nat} (h : w.grownBy w' row) (hr : ∀ g, row = some g → g ∈ bs) : Touch bs w w' :=
  ⟨h.os, h.tape, h.output, h.size, fun k hk hn => h.block k hk (fun e => hn (hr k e.symm))⟩
theorem Touch.keep {w w' : World} (h : Touch [] w w') : Below w.heap.size w w' := ⟨h.os, h.tape, h.output, h.size, fun k hk => h.block k hk (by simp)⟩
theorem Touch.of_below {w w' : World} (h : Below w.heap.size w w') (bs : List Nat) : Touch bs w w' := ⟨h.os, h.tape, h.output, h.size, fun k hk _ => h.block k hk⟩
theorem Touch.heap {bs : List Nat} {w w' : World} (h : Touch bs w w') {g : Nat} {o : Obj} (hg : w.heap[g]? = some o) (hn : g ∉ bs) : w'.heap[g]? = some o :=
  (h.block g (Array.getElem?_eq_some_iff.1 hg).1 hn).trans hg
theorem Touch.cell {bs : List Nat} {w w' : World} (h : Touch bs w w') {p : Addr} {v : Value} (hp : w.cell? p = some v) (hn : p.block ∉ bs) : w'.cell? p = some v := by
  rw [World.cell?_of_block (w := w) (h.block p.block (World.block_lt_of_cell? w p hp) hn)]; exact hp

section
variable {P : Program}

theorem run_copy_k (w : World) (dT sT ty elem : TypeId) (k g o dLen dCap : Nat) (a : Addr) (sLen sCap : Nat) (cur : Array Value) (t : TypeId) (cs : List Value) (m : Nat)
    (hu : P.underlying dT = some (.slice elem)) (hs : (P.info? elem).map (·.size) = some k)
    (hg : w.heap[g]? = some (.cells cur t (0, 0))) (hm : m = Nat.min sLen dLen) (hn : cs.length = m * k)
    (hsrc : ∀ j v, cs[j]? = some v → w.cell? (a.add j) = some v) (hfit : o + cs.length ≤ cur.size) (h1 : ∀ v ∈ cs, v.oneCell' = true) :
    (Builtin.copy_ #[dT, sT] ty #[.slice (some ⟨g, o, none⟩) dLen dCap, .slice (some a) sLen sCap]).run P w =
      .ok (goInt m) (w.setRow g (cur.toList.take o ++ cs ++ cur.toList.drop (o + cs.length)).toArray) := by
  have hl := run_loadCells_list (P := P) w a cs hsrc
  have hst := run_storeCells_at P g o t cs 0 cur w hg (by simpa using hfit) h1
  cases hq : P.info? elem with
  | none => simp [hq] at hs
  | some i =>
    have hi : i.size = k := by simpa [hq] using hs
    simp [Builtin.copy_, run_underlying hu, Builtin.lenOf, Builtin.firstCells, sizeOf, typeInfo, hq, hi, ← hm, ← hn, hl, hst]

/-- A step whose run is known. -/
theorem wpList_run (w : World) {ops : Array Oper} {rest : List Oper} {o : Oper} {a : Act} {Q : Exit → Act → World → Prop} (hgd : o.guard = none) {v' : Value} {w' : World}
    (hr : (execOp a.eval o).run P w = .ok (.value v') w') (h : wpList P ops Q rest (a.put o.dst v') w') : wpList P ops Q (o :: rest) a w :=
  wpList_plain hgd fun K hK => by
    unfold Oper.wp
    rw [hr]
    exact hK _ _ h
theorem exec_copy (w : World) {o : Oper} {a : Act} (d s : Operand) (t t' : TypeId) (ho : o.op = .call { callee := .builtin .copy, args := #[d, s], argTypes := #[t, t'] })
    {v u : Value} (hd : a.eval d = v) (hs : a.eval s = u) {v' : Value} {w' : World} (hr : (Builtin.copy_ #[t, t'] o.type #[v, u]).run P w = .ok v' w') :
    (execOp a.eval o).run P w = .ok (.value v') w' := by
  unfold execOp
  simp only [ho, resolve, invoke, builtin, Sem.run_bind, Sem.run_pure, Result.andThen_ok, List.map_toArray, List.map_cons, List.map_nil, hd, hs, hr]
theorem exec_append (w : World) {o : Oper} {a : Act} (d s : Operand) (t t' : TypeId) (ho : o.op = .call { callee := .builtin .append, args := #[d, s], argTypes := #[t, t'] })
    {v u : Value} (hd : a.eval d = v) (hs : a.eval s = u) {v' : Value} {w' : World} (hr : (Builtin.append_ #[t, t'] o.type #[v, u]).run P w = .ok v' w') :
    (execOp a.eval o).run P w = .ok (.value v') w' := by
  unfold execOp
  simp only [ho, resolve, invoke, builtin, Sem.run_bind, Sem.run_pure, Result.andThen_ok, List.map_toArray, List.map_cons, List.map_nil, hd, hs, hr]
theorem exec_clear (w : World) {o : Oper} {a : Act} (s : Operand) (t : TypeId) (ho : o.op = .call { callee := .builtin .clear, args := #[s], argTypes := #[t] })
    {u : Value} (hs : a.eval s = u) {v' : Value} {w' : World} (hr : (Builtin.clear_ #[t] o.type #[u]).run P w = .ok v' w') :
    (execOp a.eval o).run P w = .ok (.value v') w' := by
  unfold execOp
  simp only [ho, resolve, invoke, builtin, Sem.run_bind, Sem.run_pure, Result.andThen_ok, List.map_toArray, List.map_cons, List.map_nil, hs, hr]

theorem run_clear_k (w : World) (t e ty : TypeId) (z : Value) (ht : P.underlying t = some (.slice e)) (hv : (zeroValue e).run P w = .ok z w) (h1 : ∀ u ∈ z.cells, u.oneCell' = true)
    (g o n c : Nat) (cur : Array Value) (T : TypeId) (hn : 0 < n) (hg : w.heap[g]? = some (.cells cur T (0, 0))) (hfit : o + n * z.cells.size ≤ cur.size) :
    (Builtin.clear_ #[t] ty #[.slice (some ⟨g, o, none⟩) n c]).run P w =
      .ok (.tuple #[]) (w.setRow g (cur.toList.take o ++ (Builtin.zeroCells z.cells n).toList ++ cur.toList.drop (o + n * z.cells.size)).toArray) := by
  have hl : (Builtin.zeroCells z.cells n).toList.length = n * z.cells.size := by rw [Array.length_toList, size_zeroCells]
  have hone : ∀ u ∈ (Builtin.zeroCells z.cells n).toList, u.oneCell' = true := by
    intro u hu
    rcases Nat.eq_zero_or_pos z.cells.size with h0 | h0
    · have hnil : (Builtin.zeroCells z.cells n).toList = [] := List.eq_nil_of_length_eq_zero (by rw [hl, h0, Nat.mul_zero])
      rw [hnil] at hu; simp at hu
    · obtain ⟨j, hj, rfl⟩ := List.getElem_of_mem hu
      refine h1 _ ?_
      simp only [Builtin.zeroCells, Array.getElem_toList, Array.getElem_map, Array.getElem_range]
      have := Nat.mod_lt j h0
      rw [getElem!_pos z.cells (j % z.cells.size) this]
      exact Array.getElem_mem _
  have hst := run_storeCells_at P g o T _ 0 cur w hg (by rw [hl]; simpa using hfit) hone
  obtain ⟨m, rfl⟩ : ∃ m, n = m + 1 := ⟨n - 1, by omega⟩
  simp only [Nat.add_zero, hl] at hst
  simp [Builtin.clear_, run_underlying ht, hv, hst]

/-- append of n zero values where there is no room: a new row. -/
theorem run_append_zeros_grow (w : World) (t tn ty e : TypeId) (i : TypeInfo) (z : Value) (k : IntKind) (kn : IntKind) (ht : P.underlying t = some (.slice e)) (htn : P.underlying tn = some (.int kn)) (hi : P.info? e = some i) (hz : i.zero = some z)
    (base : Option Addr) (sLen sCap : Nat) (olds : List Value) (hold : (Builtin.firstCells i.size sLen (.slice base sLen sCap)).run P w.drew = .ok olds.toArray w.drew)
    (n : Nat) (h0 : 0 < n) (hs : 0 < i.size) (hg : sCap < sLen + n) (h63 : ((sLen + n : Nat) : Int) ≤ 9223372036854775807) (hfit : (sLen + n) * i.bytes ≤ 140737488355328) :
    (Builtin.append_ #[t, tn] ty #[.slice base sLen sCap, .int k n]).run P w =
      .ok (.slice (some ⟨w.heap.size, 0, none⟩) (sLen + n) (grownCap w (sLen + n) sCap e))
        (w.drew.alloc (.cells (olds.toArray ++ Builtin.zeroCells z.cells n ++ Builtin.zeroCells z.cells (grownCap w (sLen + n) sCap e - (sLen + n))) e)) := by
  have hn : n ≠ 0 := by omega
  have hnr : ¬ (sLen + n ≤ sCap) := by omega
  have hw : IntKind.i64.wrap (n : Int) = n := by rw [IntKind.wrap_i64]; omega
  have h63' : ¬ (9223372036854775807 < ((sLen : Int) + (n : Int))) := by omega
  have hnb : n * i.bytes ≤ (sLen + n) * i.bytes := Nat.mul_le_mul_right _ (by omega)
  have h48' : ¬ (281474976710656 < Builtin.nextslicecap (sLen + n) sCap * i.bytes) := by
    have := growslice_fits hg hfit
    omega
  have h48i : ¬ (281474976710656 < (n : Int) * (i.bytes : Int)) := by
    rw [← Int.natCast_mul]
    omega
  have hneg : ¬ ((n : Int) < 0) := by omega
  have hns : ¬ (n * i.size = 0) := Nat.mul_ne_zero hn (by omega)
  simp [Builtin.append_, run_underlying ht, run_underlying htn, sizeOf, typeInfo, zeroValue, hi, hz, asInt, asIntOf, hw, hnr, hneg, hns, h63', h48', h48i, Question.forced, newRow, grownCap, hold]
theorem step_run {ops : Array Oper} {o : Oper} {a : Act} {w : World} {K : Act → World → Prop} {Q : Exit → Act → World → Prop} {E : Prop} (hg : o.guard = none) {v' : Value} {w' : World}
    (hr : (execOp a.eval o).run P w = .ok (.value v') w') (hK : K (a.put o.dst v') w') : if Region.wanted o (yielded ops a.tmps) = true then Oper.wp P o a w K Q else E := by
  have hw : Region.wanted o (yielded ops a.tmps) = true := by simp [Region.wanted, hg]
  rw [if_pos hw]
  unfold Oper.wp
  rw [hr]
  exact hK

theorem wpList_copyR (w : World) {ops : Array Oper} {rest : List Oper} {o : Oper} {a : Act} {Q : Exit → Act → World → Prop} (hgd : o.guard = none) (d s : Operand) (t t' : TypeId)
    (ho : o.op = .call { callee := .builtin .copy, args := #[d, s], argTypes := #[t, t'] }) (v u : Value) (hd : a.eval d = v) (hs : a.eval s = u) {v' : Value} {w' : World}
    (hr : (Builtin.copy_ #[t, t'] o.type #[v, u]).run P w = .ok v' w') (h : wpList P ops Q rest (a.put o.dst v') w') : wpList P ops Q (o :: rest) a w := wpList_run w hgd (exec_copy w d s t t' ho hd hs hr) h
theorem wpList_appendR (w : World) {ops : Array Oper} {rest : List Oper} {o : Oper} {a : Act} {Q : Exit → Act → World → Prop} (hgd : o.guard = none) (d s : Operand) (t t' : TypeId)
    (ho : o.op = .call { callee := .builtin .append, args := #[d, s], argTypes := #[t, t'] }) (v u : Value) (hd : a.eval d = v) (hs : a.eval s = u) {v' : Value} {w' : World}
    (hr : (Builtin.append_ #[t, t'] o.type #[v, u]).run P w = .ok v' w') (h : wpList P ops Q rest (a.put o.dst v') w') : wpList P ops Q (o :: rest) a w := wpList_run w hgd (exec_append w d s t t' ho hd hs hr) h
theorem wpList_clearR (w : World) {ops : Array Oper} {rest : List Oper} {o : Oper} {a : Act} {Q : Exit → Act → World → Prop} (hgd : o.guard = none) (s : Operand) (t : TypeId)
    (ho : o.op = .call { callee := .builtin .clear, args := #[s], argTypes := #[t] }) (u : Value) (hs : a.eval s = u) {v' : Value} {w' : World}
    (hr : (Builtin.clear_ #[t] o.type #[u]).run P w = .ok v' w') (h : wpList P ops Q rest (a.put o.dst v') w') : wpList P ops Q (o :: rest) a w := wpList_run w hgd (exec_clear w s t ho hs hr) h
theorem step_copyR {ops : Array Oper} {o : Oper} {a : Act} {w : World} {K : Act → World → Prop} {Q : Exit → Act → World → Prop} {E : Prop} (hg : o.guard = none) (d s : Operand) (t t' : TypeId)
    (ho : o.op = .call { callee := .builtin .copy, args := #[d, s], argTypes := #[t, t'] }) (v u : Value) (hd : a.eval d = v) (hs : a.eval s = u) {v' : Value} {w' : World}
    (hr : (Builtin.copy_ #[t, t'] o.type #[v, u]).run P w = .ok v' w') (hK : K (a.put o.dst v') w') : if Region.wanted o (yielded ops a.tmps) = true then Oper.wp P o a w K Q else E := step_run hg (exec_copy w d s t t' ho hd hs hr) hK
theorem step_appendR {ops : Array Oper} {o : Oper} {a : Act} {w : World} {K : Act → World → Prop} {Q : Exit → Act → World → Prop} {E : Prop} (hg : o.guard = none) (d s : Operand) (t t' : TypeId)
    (ho : o.op = .call { callee := .builtin .append, args := #[d, s], argTypes := #[t, t'] }) (v u : Value) (hd : a.eval d = v) (hs : a.eval s = u) {v' : Value} {w' : World}
    (hr : (Builtin.append_ #[t, t'] o.type #[v, u]).run P w = .ok v' w') (hK : K (a.put o.dst v') w') : if Region.wanted o (yielded ops a.tmps) = true then Oper.wp P o a w K Q else E := step_run hg (exec_append w d s t t' ho hd hs hr) hK

theorem run_storeAt_k (w : World) (t T : TypeId) (g o k : Nat) (cur : Array Value) (v : Value) (hi : (P.info? t).map (·.size) = some k) (hv : v.cells.size = k) (hg : w.heap[g]? = some (.cells cur T (0, 0))) (hfit : o + k ≤ cur.size) (h1 : ∀ u ∈ v.cells, u.oneCell' = true) :
    (Instr.storeAt t (.pointer (some ⟨g, o, none⟩)) v).run P w = .ok () (w.setRow g (cur.toList.take o ++ v.cells.toList ++ cur.toList.drop (o + k)).toArray) := by
  have hst := run_storeCells_at P g o T v.cells.toList 0 cur w hg (by rw [Array.length_toList, hv]; simpa using hfit) (fun u hu => h1 u (by simpa using hu))
  obtain ⟨i, hi', hs⟩ := Option.map_eq_some_iff.1 hi
  simp only [Nat.add_zero, Array.length_toList, hv] at hst
  simp [Instr.storeAt, storeVar, sizeOf, typeInfo, hi', hs, hv, hst, Instr.sureAddr]
theorem wpList_storeR (w : World) {ops : Array Oper} {rest : List Oper} {o : Oper} {a : Act} {Q : Exit → Act → World → Prop} (hgd : o.guard = none) (t : TypeId) (d s : Operand) (ho : o.op = .store t d s)
    (p v : Value) (hd : a.eval d = p) (hs : a.eval s = v) {w' : World} (hr : (Instr.storeAt t p v).run P w = .ok () w') (h : wpList P ops Q rest (a.put o.dst undef) w') : wpList P ops Q (o :: rest) a w :=
  wpList_plain hgd fun K hK => by
    unfold Oper.wp
    have : (execOp a.eval o).run P w = .ok .skip w' := by
      unfold execOp
      simp only [ho, hd, hs, Sem.run_bind, hr, Result.andThen_ok, Sem.run_pure]
    rw [this]
    exact hK _ _ h

/-- A slice that owns its row. -/
def Row (w : World) (E k : Nat) (a : Option Addr) (n c : Nat) (xs : List Value) : Prop := w.ownsRow 0 E k (.slice a n c) n xs
theorem Row.out {w : World} {E k : Nat} {a : Option Addr} {n c : Nat} {xs : List Value} (h : Row w E k a n c xs) :
    (a = none ∧ n = 0 ∧ c = 0 ∧ xs = []) ∨ ∃ g cur, a = some ⟨g, 0, none⟩ ∧ w.heap[g]? = some (.cells cur E (0, 0)) ∧ n ≤ c ∧ c ≤ maxLen ∧ cur.size = c * k ∧ cur.toList.take (n * k) = xs ∧ xs.length = n * k := by
  obtain ⟨hl, ⟨hv, rfl⟩ | ⟨g, cap, cur, hv, _, hg, hnc, hcm, hcs, htk⟩⟩ := h
  · simp only [Value.slice.injEq] at hv
    exact .inl ⟨hv.1, rfl, hv.2.2, List.eq_nil_of_length_eq_zero (by simpa using hl)⟩
  · simp only [Value.slice.injEq] at hv
    obtain ⟨rfl, _, rfl⟩ := hv
    exact .inr ⟨g, cur, rfl, hg, hnc, hcm, hcs, htk, hl⟩
theorem Row.mk {w : World} {E k : Nat} {n c : Nat} {xs : List Value} {g : Nat} {cur : Array Value} (hg : w.heap[g]? = some (.cells cur E (0, 0))) (hnc : n ≤ c) (hcm : c ≤ maxLen) (hcs : cur.size = c * k) (htk : cur.toList.take (n * k) = xs) :
    Row w E k (some ⟨g, 0, none⟩) n c xs :=
  ⟨by rw [← htk, List.length_take, Array.length_toList, hcs]; exact Nat.min_eq_left (Nat.mul_le_mul_right _ hnc), .inr ⟨g, c, cur, rfl, Nat.zero_le _, hg, hnc, hcm, hcs, htk⟩⟩
theorem Row.nil (w : World) (E k : Nat) : Row w E k none 0 0 [] := World.ownsRow_nil _ _ _ _
theorem Row.touch {w w' : World} {E k : Nat} {a : Option Addr} {n c : Nat} {xs : List Value} {bs : List Nat} (h : Row w E k a n c xs) (t : Touch bs w w') (hn : ∀ x, a = some x → x.block ∉ bs) : Row w' E k a n c xs := by
  rcases h.out with ⟨rfl, rfl, rfl, rfl⟩ | ⟨g, cur, rfl, hg, h1, h2, h3, h4, _⟩
  · exact Row.nil _ _ _
  · exact Row.mk (t.heap hg (hn _ rfl)) h1 h2 h3 h4
theorem Row.lt {w : World} {E k : Nat} {a : Option Addr} {n c : Nat} {xs : List Value} (h : Row w E k a n c xs) : ∀ x, a = some x → x.block < w.heap.size := by
  rcases h.out with ⟨rfl, _⟩ | ⟨g, cur, rfl, hg, _⟩
  · intro x hx; simp at hx
  · intro x hx; simp only [Option.some.injEq] at hx; subst hx; exact (Array.getElem?_eq_some_iff.1 hg).1
theorem Row.len {w : World} {E k : Nat} {a : Option Addr} {n c : Nat} {xs : List Value} (h : Row w E k a n c xs) : xs.length = n * k := h.1
theorem Row.cellAt {w : World} {E k : Nat} {a : Option Addr} {n c : Nat} {xs : List Value} (h : Row w E k a n c xs) (j : Nat) (hj : j < xs.length) : ∃ g, a = some ⟨g, 0, none⟩ ∧ w.cell? ⟨g, j, none⟩ = some xs[j] := by
  rcases h.out with ⟨rfl, rfl, rfl, rfl⟩ | ⟨g, cur, rfl, hg, h1, h2, h3, h4, h5⟩
  · simp at hj
  · refine ⟨g, rfl, ?_⟩
    have e : xs[j]? = some xs[j] := List.getElem?_eq_getElem hj
    rw [← e]
    conv => rhs; rw [← h4]
    rw [List.getElem?_take, if_pos (by omega)]
    unfold World.cell?
    rw [show (⟨g, j, none⟩ : Addr).block = g from rfl, hg]
    simp

/-- The block that a slice's row lies in. -/
def blkOf (a : Option Addr) : List Nat := (a.map (·.block)).toList
theorem mem_blkOf {a : Option Addr} {g : Nat} : g ∈ blkOf a ↔ ∃ x, a = some x ∧ x.block = g := by
  cases a <;> simp [blkOf, eq_comm]
/-- A row that comes of another one lies in its block, or in a new one. -/
def Fresh (w : World) (a a' : Option Addr) : Prop := ∀ x, a' = some x → x.block ∈ blkOf a ∨ w.heap.size ≤ x.block
theorem Fresh.refl (w : World) (a : Option Addr) : Fresh w a a := fun x hx => .inl (mem_blkOf.2 ⟨x, hx, rfl⟩)
theorem Fresh.trans {w w' : World} {a b c : Option Addr} (h : Fresh w a b) (k : Fresh w' b c) (hs : w.heap.size ≤ w'.heap.size) : Fresh w a c := fun x hx => by
  rcases k x hx with h1 | h1
  · obtain ⟨y, hy, e⟩ := mem_blkOf.1 h1
    rw [← e]; exact h y hy
  · exact .inr (Nat.le_trans hs h1)
theorem Fresh.nil {w : World} {a a' : Option Addr} (h : Fresh w none a') : Fresh w a a' := fun x hx => by
  rcases h x hx with h1 | h1
  · simp [blkOf] at h1
  · exact .inr h1
theorem blkOf_nil : blkOf none = [] := rfl
theorem blkOf_some (g : Nat) : blkOf (some ⟨g, 0, none⟩) = [g] := rfl

theorem run_append_row (w : World) (t ty e : TypeId) (i : TypeInfo) (z : Value) (size bytes : Nat) (ht : P.underlying t = some (.slice e)) (hi : P.info? e = some i) (hz : i.zero = some z)
    (hsize : i.size = size) (hby : i.bytes = bytes) (hzs : z.cells.size = size) (hsz : 0 < size)
    (b : Option Addr) (n cap : Nat) (xs : List Value) (hown : Row w e size b n cap xs)
    (a : Addr) (m c : Nat) (news : List Value) (hl : news.length = m * size) (hnews : ∀ j u, news[j]? = some u → w.cell? (a.add j) = some u) (h1 : ∀ u ∈ news, u.oneCell' = true)
    (h63 : n + m ≤ maxLen) (hbytes : (n + m) * bytes ≤ 140737488355328) :
    ∃ b' cap' w', (Builtin.append_ #[t, t] ty #[.slice b n cap, .slice (some a) m c]).run P w = .ok (.slice b' (n + m) cap') w' ∧ Row w' e size b' (n + m) cap' (xs ++ news) ∧ Touch (blkOf b) w w' ∧ Fresh w b b' := by
  subst hsize
  subst hby
  have hsmall : n + m ≤ 9223372036854775807 := by simp only [maxLen] at h63; omega
  have grown : ∀ (old : Nat), old < n + m → ∀ bs : List Nat, xs.length = n * i.size →
      Row (w.drew.alloc (.cells (xs.toArray ++ news.toArray ++ Builtin.zeroCells z.cells (grownCap w (n + m) old e - (n + m))) e)) e i.size (some ⟨w.heap.size, 0, none⟩) (n + m) (grownCap w (n + m) old e) (xs ++ news) ∧
      Touch bs w (w.drew.alloc (.cells (xs.toArray ++ news.toArray ++ Builtin.zeroCells z.cells (grownCap w (n + m) old e - (n + m))) e)) := by
    intro old ho bs hxl
    have hge := grownCap_ge w (n + m) old e
    refine ⟨Row.mk (heap_alloc_new w.drew _) hge (grownCap_le_maxLen w (n + m) old e h63) ?_ ?_, (Touch.drew _ _).andThen (Touch.alloc _ _ _)⟩
    · simp only [Array.size_append, List.size_toArray, size_zeroCells, hzs, hxl, hl, ← Nat.add_mul]
      congr 1
      omega
    · simp only [Array.toList_append, List.append_assoc]
      rw [← List.append_assoc, Nat.add_mul, ← hxl, ← hl, ← List.length_append]
      exact List.take_left
  rcases hown.out with ⟨rfl, rfl, rfl, rfl⟩ | ⟨g, cur, rfl, hg, hnc, hcm, hcs, htake, hxl⟩
  · by_cases hm : m = 0
    · subst hm
      have hn : news = [] := List.eq_nil_of_length_eq_zero (by simpa using hl)
      subst hn
      refine ⟨none, 0, w, ?_, Row.nil _ _ _, Touch.refl _ _, Fresh.refl _ _⟩
      simp [Builtin.append_, run_underlying ht, sizeOf, typeInfo, hi, Builtin.lenOf, Builtin.firstCells, loadCells, loadCellsFrom]
    · have hr := run_append_nil (P := P) w t ty e i z ht hi hz a m c news hl hnews (by omega) (by omega) (by have hb := hbytes; simp only [Nat.zero_add] at hb; omega)
      have hgr := grown 0 (by omega) (blkOf none) (by simp)
      simp only [Nat.zero_add, List.nil_append, Array.empty_append] at hgr ⊢
      exact ⟨_, _, _, hr, hgr.1, hgr.2, fun x hx => by simp only [Option.some.injEq] at hx; subst hx; exact .inr (Nat.le_refl _)⟩
  · by_cases hroom : n + m ≤ cap
    · have hfit : n * i.size + news.length ≤ cur.size := by rw [hl, hcs, ← Nat.add_mul]; exact Nat.mul_le_mul_right _ hroom
      have hr := run_append_room (P := P) w t ty e i ht hi g n cap cur hg a m c news hl hnews h1 hroom hfit
      refine ⟨_, _, _, hr, Row.mk (setRow_heap w g cur _ e _ hg) hroom hcm ?_ ?_, Touch.setRow _ _ _ (by simp [blkOf]), Fresh.refl _ _⟩
      · simp only [List.size_toArray, List.length_append, List.length_take, List.length_drop, Array.length_toList]
        omega
      · rw [htake, Nat.add_mul, ← hxl, ← hl, ← List.length_append]
        exact List.take_left
    · have holds : ∀ j u, xs[j]? = some u → w.cell? ((⟨g, 0, none⟩ : Addr).add j) = some u := fun j u hj => by
        have hj' : j < xs.length := (List.getElem?_eq_some_iff.1 hj).1
        obtain ⟨g', e', hc⟩ := hown.cellAt j hj'
        simp only [Option.some.injEq, Addr.mk.injEq, and_true] at e'
        subst e'
        rw [Addr.add_lit, Nat.zero_add, hc, ← List.getElem?_eq_getElem hj', hj]
      have hr := run_append_grow (P := P) w t ty e i z ht hi hz ⟨g, 0, none⟩ n cap xs hxl holds a m c news hl hnews (by omega) (by omega) (growslice_fits (by omega) hbytes)
      have hgr := grown cap (by omega) (blkOf (some ⟨g, 0, none⟩)) hxl
      exact ⟨_, _, _, hr, hgr.1, hgr.2, fun x hx => by simp only [Option.some.injEq] at hx; subst hx; exact .inr (Nat.le_refl _)⟩

theorem ins_list (cur xs vs : List Value) (n i c k : Nat) (hi : i < n) (hc : n + 1 ≤ c) (hl : cur.length = c * k) (hx : cur.take (n * k) = xs) (hv : vs.length = k) :
    let c1 := cur.take ((i + 1) * k) ++ xs.drop (i * k) ++ cur.drop ((n + 1) * k)
    (c1.take (i * k) ++ vs ++ c1.drop (i * k + k)).take ((n + 1) * k) = xs.take (i * k) ++ vs ++ xs.drop (i * k) ∧ (c1.take (i * k) ++ vs ++ c1.drop (i * k + k)).length = c * k ∧ c1.length = c * k := by
  intro c1
  have e1 : (i + 1) * k = i * k + k := Nat.succ_mul _ _
  have e2 : (n + 1) * k = n * k + k := Nat.succ_mul _ _
  have h1 : (i + 1) * k ≤ n * k := Nat.mul_le_mul_right _ hi
  have h2 : (n + 1) * k ≤ c * k := Nat.mul_le_mul_right _ hc
  have hxl : xs.length = n * k := by rw [← hx, List.length_take]; omega
  have hc1 : c1.length = c * k := by simp only [c1, List.length_append, List.length_take, List.length_drop]; omega
  have t1 : c1.take (i * k) = xs.take (i * k) := by
    simp only [c1]
    rw [List.append_assoc, List.take_append_of_le_length (by rw [List.length_take]; omega), List.take_take, Nat.min_eq_left (by omega), ← hx, List.take_take, Nat.min_eq_left (by omega)]
  have d1 : c1.drop (i * k + k) = xs.drop (i * k) ++ cur.drop ((n + 1) * k) := by
    simp only [c1]
    rw [← e1, List.append_assoc, List.drop_append_of_le_length (by rw [List.length_take]; omega), List.drop_eq_nil_of_le (by rw [List.length_take]; omega), List.nil_append]
  refine ⟨?_, ?_, hc1⟩
  · rw [t1, d1, ← List.append_assoc, List.take_append_of_le_length (by simp only [List.length_append, List.length_take, List.length_drop]; omega), List.take_of_length_le (by simp only [List.length_append, List.length_take, List.length_drop]; omega)]
  · simp only [List.length_append, List.length_take, List.length_drop, hc1]; omega
theorem ins_new (xs vs zs rs : List Value) (n i k : Nat) (hi : i < n) (hx : xs.length = n * k) (hv : vs.length = k) (hz : zs.length = (n + 1 - i) * k) :
    let c0 := xs.take (i * k) ++ zs ++ rs
    let c1 := c0.take (i * k) ++ vs ++ c0.drop (i * k + k)
    c1.take ((i + 1) * k) ++ xs.drop (i * k) ++ c1.drop ((n + 1) * k) = xs.take (i * k) ++ vs ++ xs.drop (i * k) ++ rs ∧ c1.length = c0.length ∧ c0.length = (n + 1) * k + rs.length := by
  intro c0 c1
  have e1 : (i + 1) * k = i * k + k := Nat.succ_mul _ _
  have e2 : (n + 1) * k = n * k + k := Nat.succ_mul _ _
  have e3 : (n + 1 - i) * k + i * k = (n + 1) * k := by rw [← Nat.add_mul]; congr 1; omega
  have h1 : (i + 1) * k ≤ n * k := Nat.mul_le_mul_right _ hi
  have hc0 : c0.length = (n + 1) * k + rs.length := by simp only [c0, List.length_append, List.length_take]; omega
  have t0 : c0.take (i * k) = xs.take (i * k) := by
    simp only [c0]
    rw [List.append_assoc, List.take_append_of_le_length (by rw [List.length_take]; omega), List.take_take, Nat.min_self]
  have hc1 : c1.length = c0.length := by simp only [c1, List.length_append, List.length_take, List.length_drop, hv]; omega
  have t1 : c1.take ((i + 1) * k) = xs.take (i * k) ++ vs := by
    simp only [c1]
    rw [t0, e1, List.take_append_of_le_length (by simp only [List.length_append, List.length_take]; omega), List.take_of_length_le (by simp only [List.length_append, List.length_take]; omega)]
  have d1 : c1.drop ((n + 1) * k) = rs := by
    have hlen : (c0.take (i * k) ++ vs).length = i * k + k := by rw [List.length_append, List.length_take, hv]; omega
    simp only [c1]
    rw [show (n + 1) * k = (c0.take (i * k) ++ vs).length + ((n + 1) * k - (i * k + k)) by omega, List.drop_length_add_append, List.drop_drop, show i * k + k + ((n + 1) * k - (i * k + k)) = (xs.take (i * k) ++ zs).length by rw [List.length_append, List.length_take]; omega]
    simp only [c0]
    rw [List.drop_left]
  exact ⟨by rw [t1, d1], hc1, hc0⟩
/-- A struct is stored at place i of a row whose places from j on are still to be read. -/
theorem set_take (cur : List Value) (v : List Value) (i k : Nat) (hv : v.length = k) (hi : i * k + k ≤ cur.length) :
    (cur.take (i * k) ++ v ++ cur.drop (i * k + k)).take ((i + 1) * k) = cur.take (i * k) ++ v := by
  have e : (i + 1) * k = i * k + k := Nat.succ_mul _ _
  rw [e, List.take_append_of_le_length (by simp only [List.length_append, List.length_take]; omega), List.take_of_length_le (by simp only [List.length_append, List.length_take]; omega)]
theorem set_len (cur : List Value) (v : List Value) (i k : Nat) (hv : v.length = k) (hi : i * k + k ≤ cur.length) :
    (cur.take (i * k) ++ v ++ cur.drop (i * k + k)).length = cur.length := by
  simp only [List.length_append, List.length_take, List.length_drop]; omega
theorem set_drop (cur : List Value) (v : List Value) (i j n k : Nat) (hv : v.length = k) (hi : i * k + k ≤ cur.length) (hij : i < j) :
    ((cur.take (i * k) ++ v ++ cur.drop (i * k + k)).take (n * k)).drop (j * k) = (cur.take (n * k)).drop (j * k) := by
  have e : (i + 1) * k = i * k + k := Nat.succ_mul _ _
  have h1 : (i + 1) * k ≤ j * k := Nat.mul_le_mul_right _ hij
  have hlen : (cur.take (i * k) ++ v).length = i * k + k := by rw [List.length_append, List.length_take, hv]; omega
  rw [List.drop_take, List.drop_take]
  congr 1
  rw [List.drop_append, hlen, List.drop_eq_nil_of_le (by omega), List.nil_append, List.drop_drop]
  congr 1
  omega
end
end Go.Proofs.YtmifgnibalbgjaaGreat
/- Things in memory, side by side (of no program): each has blocks of its own; what turns one leaves the others. -/
namespace Go.Proofs.YtmifgnibalbgjaaGreat
open Go.RowKit

/-- A thing: what the world says of it, and its blocks. -/
abbrev Asn := World → List Nat → Prop
/-- It is there, and stays where its blocks do. -/
class Stable (A : Asn) : Prop where
  lt : ∀ {w D}, A w D → ∀ x ∈ D, x < w.heap.size
  keep : ∀ {w w' D}, A w D → (∀ x ∈ D, w'.heap[x]? = w.heap[x]?) → A w' D
/-- From w to w' the blocks D alone turned; what was D is D' now. -/
structure Step (w : World) (D : List Nat) (w' : World) (D' : List Nat) : Prop where
  touch : Touch D w w'
  fresh : ∀ x ∈ D', x ∈ D ∨ w.heap.size ≤ x
theorem Step.trans {w1 w2 w3 : World} {D1 D2 D3 : List Nat} (h : Step w1 D1 w2 D2) (k : Step w2 D2 w3 D3) : Step w1 D1 w3 D3 :=
  ⟨h.touch.trans k.touch h.fresh, fun x hx => by
    rcases k.fresh x hx with h' | h'
    · exact h.fresh x h'
    · exact .inr (Nat.le_trans h.touch.size h')⟩
theorem Step.of_below {w w' : World} (h : Below w.heap.size w w') (D : List Nat) : Step w D w' D := ⟨Touch.of_below h D, fun _ hx => .inl hx⟩
theorem Step.keep {w w' : World} {D D' : List Nat} (h : Step w D w' D') {A : Asn} [sA : Stable A] {E : List Nat} (hA : A w E) (hd : ∀ x ∈ E, x ∉ D) : A w' E ∧ ∀ x ∈ E, x ∉ D' :=
  ⟨sA.keep hA fun x hx => h.touch.block x (sA.lt hA x hx) (hd x hx), fun x hx hm => by
    rcases h.fresh x hm with h' | h'
    · exact hd x hx h'
    · have := sA.lt hA x hx; omega⟩

/-- Things side by side. -/
def All : List Asn → Asn
  | [] => fun _ D => D = []
  | A :: r => fun w D => ∃ D1 D2, D = D1 ++ D2 ∧ (∀ x ∈ D1, x ∉ D2) ∧ A w D1 ∧ All r w D2
class Stables (l : List Asn) : Prop where
  all : ∀ A ∈ l, Stable A
instance : Stables [] := ⟨fun _ h => by cases h⟩
instance {A : Asn} {r : List Asn} [sA : Stable A] [sr : Stables r] : Stables (A :: r) := ⟨fun B hB => by
  rcases List.mem_cons.1 hB with rfl | h
  · exact sA
  · exact sr.all B h⟩
theorem all_stable : ∀ (l : List Asn) (_ : ∀ A ∈ l, Stable A), Stable (All l)
  | [], _ => ⟨fun h x hx => (by rw [show _ = [] from h] at hx; cases hx), fun h _ => h⟩
  | A :: r, h => by
    have sA := h A (List.mem_cons_self ..)
    have sr := all_stable r fun B hB => h B (List.mem_cons_of_mem _ hB)
    refine ⟨fun {w D} ⟨D1, D2, e, hd, h1, h2⟩ x hx => ?_, fun {w w' D} ⟨D1, D2, e, hd, h1, h2⟩ hk => ?_⟩
    · subst e
      rcases List.mem_append.1 hx with h' | h'
      · exact sA.lt h1 x h'
      · exact sr.lt h2 x h'
    · subst e
      exact ⟨D1, D2, rfl, hd, sA.keep h1 fun x hx => hk x (List.mem_append_left _ hx), sr.keep h2 fun x hx => hk x (List.mem_append_right _ hx)⟩
instance allStable {l : List Asn} [h : Stables l] : Stable (All l) := all_stable l h.all
theorem all_append : ∀ (l r : List Asn) {w : World} {D : List Nat}, All (l ++ r) w D → ∃ D1 D2, D = D1 ++ D2 ∧ (∀ x ∈ D1, x ∉ D2) ∧ All l w D1 ∧ All r w D2
  | [], r, w, D, h => ⟨[], D, rfl, fun _ hx => (by cases hx), rfl, h⟩
  | A :: l, r, w, D, ⟨E1, E2, e, hd, h1, h2⟩ => by
    obtain ⟨F1, F2, rfl, hd2, k1, k2⟩ := all_append l r h2
    subst e
    refine ⟨E1 ++ F1, F2, by simp, fun x hx => ?_, ⟨E1, F1, rfl, fun x hx hm => hd x hx (List.mem_append_left _ hm), h1, k1⟩, k2⟩
    rcases List.mem_append.1 hx with h' | h'
    · exact fun hm => hd x h' (List.mem_append_right _ hm)
    · exact hd2 x h'
theorem all_mk : ∀ {l r : List Asn} {w : World} {D1 D2 : List Nat}, All l w D1 → All r w D2 → (∀ x ∈ D1, x ∉ D2) → All (l ++ r) w (D1 ++ D2)
  | [], r, w, D1, D2, h1, h2, _ => by rw [show D1 = [] from h1]; exact h2
  | A :: l, r, w, D1, D2, ⟨E1, E2, e, hd, k1, k2⟩, h2, h3 => by
    subst e
    rw [List.append_assoc]
    refine ⟨E1, E2 ++ D2, rfl, fun x hx hm => ?_, k1, all_mk k2 h2 fun x hx => h3 x (List.mem_append_right _ hx)⟩
    rcases List.mem_append.1 hm with h' | h'
    · exact hd x hx h'
    · exact h3 x (List.mem_append_left _ hx) h'
theorem all_one {A : Asn} {w : World} {D : List Nat} (h : A w D) : All [A] w D := ⟨D, [], by simp, fun _ _ hm => (by cases hm), h, rfl⟩
theorem all_two {A B : Asn} {w : World} {D E : List Nat} (h : A w D) (k : B w E) (hd : ∀ x ∈ D, x ∉ E) : All [A, B] w (D ++ E) := ⟨D, E, rfl, hd, h, all_one k⟩

theorem cell_of_heap {w : World} {g i : Nat} {cur : Array Value} {T : TypeId} {v : Value} (hg : w.heap[g]? = some (.cells cur T (0, 0))) (h : cur[i]? = some v) :
    w.cell? ⟨g, i, none⟩ = some v ∧ w.frozen? ⟨g, i, none⟩ = false := by
  constructor
  · simp only [World.cell?, hg]; simpa using h
  · simp only [World.frozen?, hg]; simp
theorem heap_set {w : World} {g i : Nat} {cur : Array Value} {T : TypeId} (hg : w.heap[g]? = some (.cells cur T (0, 0))) (v : Value) : (w.setCell ⟨g, i, none⟩ v).heap[g]? = some (.cells (cur.set! i v) T (0, 0)) := by
  simp [World.setCell, Array.getElem?_modify, hg]
theorem lt_of_heap {w : World} {g : Nat} {o : Obj} (h : w.heap[g]? = some o) : g < w.heap.size := (Array.getElem?_eq_some_iff.1 h).1
theorem heap_new (w : World) (o : Obj) : (w.alloc o).heap[w.heap.size]? = some o := by show (w.heap.push _)[w.heap.size]? = _; rw [Array.getElem?_push, if_pos rfl]
theorem heap_alloc_at (w : World) (o : Obj) (n : Nat) (h : n = w.heap.size) : (w.alloc o).heap[n]? = some o := by rw [h]; exact heap_new w o
theorem bel_drew (w : World) : Below w.heap.size w w.drew := ⟨rfl, rfl, rfl, Nat.le_refl _, fun _ _ => rfl⟩
theorem bel_drewN (w : World) (n : Nat) : Below w.heap.size w (w.drewN n) := ⟨rfl, rfl, rfl, Nat.le_refl _, fun _ _ => rfl⟩
theorem bel_new (wr : World) (o : Obj) : Below wr.heap.size wr (wr.alloc o) := Below.alloc (Below.refl _ _) (Nat.le_refl _) o
theorem Row.keep {w w' : World} {E k : Nat} {a : Option Addr} {n c : Nat} {xs : List Value} (h : Row w E k a n c xs) (hk : ∀ x ∈ blkOf a, w'.heap[x]? = w.heap[x]?) : Row w' E k a n c xs := by
  rcases h.out with ⟨rfl, rfl, rfl, rfl⟩ | ⟨g, cur, rfl, hg, h1, h2, h3, h4, _⟩
  · exact Row.nil _ _ _
  · exact Row.mk ((hk g (by simp [blkOf])).trans hg) h1 h2 h3 h4
theorem Row.below {w w' : World} {E k : Nat} {a : Option Addr} {n c : Nat} {xs : List Value} (h : Row w E k a n c xs) (b : Below w.heap.size w w') : Row w' E k a n c xs := h.touch (Touch.of_below b []) (by simp)
/-- A row. -/
def RowA (E k : Nat) (a : Option Addr) (n c : Nat) (xs : List Value) : Asn := fun w D => D = blkOf a ∧ Row w E k a n c xs
instance {E k : Nat} {a : Option Addr} {n c : Nat} {xs : List Value} : Stable (RowA E k a n c xs) where
  lt := fun ⟨e, h⟩ x hx => by subst e; obtain ⟨y, hy, rfl⟩ := mem_blkOf.1 hx; exact h.lt y hy
  keep := fun ⟨e, h⟩ hk => ⟨e, h.keep (by subst e; exact hk)⟩
/-- A block known whole. -/
def BlockA (g : Nat) (cur : Array Value) (T : TypeId) : Asn := fun w D => D = [g] ∧ w.heap[g]? = some (.cells cur T (0, 0))
instance {g : Nat} {cur : Array Value} {T : TypeId} : Stable (BlockA g cur T) where
  lt := fun ⟨e, h⟩ x hx => by subst e; simp at hx; subst hx; exact (Array.getElem?_eq_some_iff.1 h).1
  keep := fun ⟨e, h⟩ hk => ⟨e, by subst e; rw [hk _ (by simp)]; exact h⟩
instance {l r : List Asn} [hl : Stables l] [hr : Stables r] : Stables (l ++ r) := ⟨fun A hA => by
  rcases List.mem_append.1 hA with h | h
  · exact hl.all A h
  · exact hr.all A h⟩

/-- Since w0 the blocks D0 alone turned, and these are there now. -/
structure Mem (w0 : World) (D0 : List Nat) (w : World) (l : List Asn) : Prop where
  out : ∃ D, All l w D ∧ Step w0 D0 w D
theorem Mem.start {w : World} {D : List Nat} {A : Asn} (h : A w D) : Mem w D w [A] := ⟨D, all_one h, Touch.refl _ _, fun _ hx => .inl hx⟩
theorem Mem.focus {w0 w : World} {D0 : List Nat} (l : List Asn) {A : Asn} {r : List Asn} [Stable A] [Stables l] [Stables r] (h : Mem w0 D0 w (l ++ A :: r)) :
    ∃ D, A w D ∧ ∀ (As : List Asn) w' D', All As w' D' → Step w D w' D' → Mem w0 D0 w' (l ++ (As ++ r)) := by
  obtain ⟨D, hA, hD⟩ := h.out
  obtain ⟨D1, D2, rfl, hd, h1, E1, E2, rfl, he, h2, h3⟩ := all_append l (A :: r) hA
  refine ⟨E1, h2, fun As w' D' hAs hst => ?_⟩
  have hd1 : ∀ x ∈ D1, x ∉ E1 := fun x hx hm => hd x hx (List.mem_append_left _ hm)
  have hd2 : ∀ x ∈ D1, x ∉ E2 := fun x hx hm => hd x hx (List.mem_append_right _ hm)
  have he' : ∀ x ∈ E2, x ∉ E1 := fun x hx hm => he x hm hx
  obtain ⟨k1, k1'⟩ := hst.keep h1 hd1
  obtain ⟨k3, k3'⟩ := hst.keep h3 he'
  refine ⟨D1 ++ (D' ++ E2), all_mk k1 (all_mk hAs k3 fun x hx hm => k3' x hm hx) fun x hx hm => ?_, ?_, fun x hx => ?_⟩
  · rcases List.mem_append.1 hm with h' | h'
    · exact k1' x hx h'
    · exact hd2 x hx h'
  · exact hD.touch.trans hst.touch fun x hx => hD.fresh x (List.mem_append_right _ (List.mem_append_left _ hx))
  · rcases List.mem_append.1 hx with h' | h'
    · exact hD.fresh x (List.mem_append_left _ h')
    · rcases List.mem_append.1 h' with h' | h'
      · rcases hst.fresh x h' with h'' | h''
        · exact hD.fresh x (List.mem_append_right _ (List.mem_append_left _ h''))
        · exact .inr (Nat.le_trans hD.touch.size h'')
      · exact hD.fresh x (List.mem_append_right _ (List.mem_append_right _ h'))
theorem Mem.below {w0 w w' : World} {D0 : List Nat} {l : List Asn} [Stables l] (h : Mem w0 D0 w l) (b : Below w.heap.size w w') : Mem w0 D0 w' l := by
  obtain ⟨D, hA, hD⟩ := h.out
  exact ⟨D, ((Step.of_below b []).keep hA (by simp)).1, hD.touch.trans (Touch.of_below b []) (by simp), hD.fresh⟩
theorem Mem.new {w0 w w' : World} {D0 : List Nat} {l : List Asn} [Stables l] (h : Mem w0 D0 w l) (b : Below w.heap.size w w') {As : List Asn} {D' : List Nat} (hAs : All As w' D') (hD' : ∀ x ∈ D', w.heap.size ≤ x) : Mem w0 D0 w' (As ++ l) := by
  obtain ⟨D, hA, hD⟩ := h.out
  refine ⟨D' ++ D, all_mk hAs ((Step.of_below b []).keep hA (by simp)).1 fun x hx hm => ?_, hD.touch.trans (Touch.of_below b []) (by simp), fun x hx => ?_⟩
  · have := hD' x hx
    have := (allStable (l := l)).lt hA x hm
    omega
  · rcases List.mem_append.1 hx with h' | h'
    · exact .inr (Nat.le_trans hD.touch.size (hD' x h'))
    · exact hD.fresh x h'
theorem Mem.drop {w0 w : World} {D0 : List Nat} (l : List Asn) {A : Asn} {r : List Asn} [Stable A] [Stables l] [Stables r] (h : Mem w0 D0 w (l ++ A :: r)) : Mem w0 D0 w (l ++ r) := by
  obtain ⟨D, _, k⟩ := h.focus l
  exact k [] w [] rfl ⟨Touch.refl _ _, fun _ h => by cases h⟩
theorem Mem.get {w0 w : World} {D0 : List Nat} (l : List Asn) {A : Asn} {r : List Asn} [Stable A] [Stables l] [Stables r] (h : Mem w0 D0 w (l ++ A :: r)) : ∃ D, A w D := by
  obtain ⟨D, hA, _⟩ := h.focus l
  exact ⟨D, hA⟩
theorem Mem.block {w0 w : World} {D0 : List Nat} {l : List Asn} [Stables l] (h : Mem w0 D0 w l) (cur : Array Value) (T : TypeId) : Mem w0 D0 (w.alloc (.cells cur T)) (BlockA w.heap.size cur T :: l) :=
  h.new (Below.alloc (Below.refl _ _) (Nat.le_refl _) _) (As := [BlockA w.heap.size cur T]) (all_one ⟨rfl, by show (w.heap.push _)[w.heap.size]? = _; rw [Array.getElem?_push, if_pos rfl]⟩) (by simp)

theorem Mem.nil (w : World) : Mem w [] w [] := ⟨[], rfl, Touch.refl _ _, fun _ h => (by cases h)⟩
theorem Mem.bel {w0 w : World} {l : List Asn} (h : Mem w0 [] w l) : Below w0.heap.size w0 w := by obtain ⟨D, _, h2⟩ := h.out; exact h2.touch.keep
theorem Mem.swap {w0 w : World} {D0 : List Nat} (l : List Asn) {A B : Asn} {r : List Asn} (h : Mem w0 D0 w (l ++ A :: B :: r)) : Mem w0 D0 w (l ++ B :: A :: r) := by
  obtain ⟨D, hA, hD⟩ := h.out
  obtain ⟨D1, D2, rfl, hd, h1, E1, F, rfl, he, h2, E2, E3, rfl, hf, h3, h4⟩ := all_append l (A :: B :: r) hA
  refine ⟨D1 ++ (E2 ++ (E1 ++ E3)), all_mk h1 ⟨E2, E1 ++ E3, rfl, fun x hx hm => ?_, h3, E1, E3, rfl, fun x hx hm => he x hx (List.mem_append_right _ hm), h2, h4⟩ fun x hx hm => hd x hx ?_, hD.touch, fun x hx => hD.fresh x ?_⟩
  · rcases List.mem_append.1 hm with h' | h'
    · exact he x h' (List.mem_append_left _ hx)
    · exact hf x hx h'
  · simp only [List.mem_append] at hm ⊢
    rcases hm with h' | h' | h' <;> simp [h']
  · simp only [List.mem_append] at hx ⊢
    rcases hx with h' | h' | h' | h' <;> simp [h']
theorem Mem.call {P : Program} {w0 w : World} {D0 : List Nat} (l : List Asn) {A : Asn} {r : List Asn} [Stable A] [Stables l] [Stables r] (h : Mem w0 D0 w (l ++ A :: r)) {f : Nat} {args : Array Value} {Q : Ending → List Asn → Prop}
    (hc : ∀ D, A w D → Calls P f args w fun e w' => ∃ As D', Q e As ∧ All As w' D' ∧ Step w D w' D') : Calls P f args w fun e w' => ∃ As, Q e As ∧ Mem w0 D0 w' (l ++ (As ++ r)) := by
  obtain ⟨D, hA, k⟩ := h.focus l
  exact (hc D hA).mono fun e w' ⟨As, D', hQ, hAs, hst⟩ => ⟨As, hQ, k As w' D' hAs hst⟩
theorem Mem.setBlock {w0 w : World} {D0 : List Nat} {g i : Nat} {cur : Array Value} {T : TypeId} {l : List Asn} [Stables l] (h : Mem w0 D0 w (BlockA g cur T :: l)) (v : Value) : Mem w0 D0 (w.setCell ⟨g, i, none⟩ v) (BlockA g (cur.set! i v) T :: l) := by
  obtain ⟨D, ⟨rfl, hg⟩, k⟩ := Mem.focus [] h
  exact k [BlockA g (cur.set! i v) T] _ [g] (all_one ⟨rfl, heap_set hg v⟩) ⟨Touch.setCell _ _ _ (by simp), fun x hx => .inl hx⟩
theorem Mem.block_cell {w0 w : World} {D0 : List Nat} {g i : Nat} {cur : Array Value} {T : TypeId} {v : Value} {l : List Asn} [Stables l] (M : Mem w0 D0 w (BlockA g cur T :: l)) (h : cur[i]? = some v) : w.cell? ⟨g, i, none⟩ = some v ∧ w.frozen? ⟨g, i, none⟩ = false := by
  obtain ⟨D, _, hD⟩ := M.get []
  exact cell_of_heap hD h
/-- one element is put behind a row (w: ahead of the element's own block). -/
theorem app_row1 {P : Program} (w : World) (t ty e : TypeId) {z0 : Value} {k by' : Nat} (ht : P.underlying t = some (.slice e)) (hinfo : (P.info? e).map (fun i => (i.zero, i.size, i.bytes)) = some (some z0, k, by')) (hz : z0.cells.size = k) (hk : 0 < k)
    (a : Option Addr) (n c : Nat) (xs : List Value) (hr : Row w e k a n c xs) (vs : List Value) (hvl : vs.length = k) (hone : ∀ u ∈ vs, u.oneCell' = true) (hbig : n ≤ 1000000) (hby : by' ≤ 1000000) :
    ∃ b' cap' w', (Builtin.append_ #[t, t] ty #[.slice a n c, .slice (some ⟨w.heap.size, 0, none⟩) 1 1]).run P (w.alloc (.cells vs.toArray e)) = .ok (.slice b' (n + 1) cap') w' ∧
      Row w' e k b' (n + 1) cap' (xs ++ vs) ∧ Touch (blkOf a) w w' ∧ Fresh w a b' := by
  obtain ⟨i0, hi, hz0, hz1, hz2⟩ := info_parts hinfo
  have hb := bel_new w (.cells vs.toArray e)
  obtain ⟨b', cap', w', h1, h2, h3, h4⟩ := run_append_row (P := P) (w.alloc (.cells vs.toArray e)) t ty e i0 z0 k by' ht hi hz0 hz1 hz2 hz hk a n c xs (hr.below hb) ⟨w.heap.size, 0, none⟩ 1 1 vs (by omega)
    (fun j u hj => by rw [Addr.add_lit, Nat.zero_add]; exact (cell_of_heap (heap_new w (.cells vs.toArray e)) (by simpa using hj)).1) hone (by unfold maxLen; omega) (by
      have : (n + 1) * by' ≤ 1000001 * 1000000 := Nat.mul_le_mul (by omega) hby
      omega)
  refine ⟨b', cap', w', h1, h2, (Touch.of_below hb (blkOf a)).andThen h3, fun x hx => ?_⟩
  rcases h4 x hx with h | h
  · exact .inl h
  · exact .inr (by have := hb.size; omega)
/-- A new row, made since w. -/
def NewRow (E k : Nat) (w : World) (xs : List Value) (n : Nat) (v : Value) (wr : World) : Prop := ∃ a c, v = .slice a n c ∧ Row wr E k a n c xs ∧ Below w.heap.size w wr ∧ ∀ x ∈ blkOf a, w.heap.size ≤ x
theorem NewRow.nil (E k : Nat) (w : World) : NewRow E k w [] 0 (.slice none 0 0) w := ⟨none, 0, rfl, Row.nil _ _ _, Below.refl _ _, fun x hx => by cases hx⟩
theorem NewRow.below {E k n : Nat} {w wr wr' : World} {xs : List Value} {v : Value} (h : NewRow E k w xs n v wr) (b : Below wr.heap.size wr wr') : NewRow E k w xs n v wr' := by
  obtain ⟨a, c, hv, hr, hb, hf⟩ := h
  exact ⟨a, c, hv, hr.below b, hb.trans (b.mono hb.size), hf⟩
theorem NewRow.app {P : Program} {w wr : World} {t e : TypeId} {z0 : Value} {k by' : Nat} (ht : P.underlying t = some (.slice e)) (hinfo : (P.info? e).map (fun i => (i.zero, i.size, i.bytes)) = some (some z0, k, by')) (hz : z0.cells.size = k) (hk : 0 < k)
    {xs : List Value} {a : Option Addr} {n c : Nat} (h : NewRow e k w xs n (.slice a n c) wr) (vs : List Value) (hvl : vs.length = k) (hone : ∀ u ∈ vs, u.oneCell' = true) (hbig : n ≤ 1000000) (hby : by' ≤ 1000000) (ty : TypeId) :
    ∃ b' cap' w', (Builtin.append_ #[t, t] ty #[.slice a n c, .slice (some ⟨wr.heap.size, 0, none⟩) 1 1]).run P (wr.alloc (.cells vs.toArray e)) = .ok (.slice b' (n + 1) cap') w' ∧ NewRow e k w (xs ++ vs) (n + 1) (.slice b' (n + 1) cap') w' := by
  obtain ⟨a', c', hv, hr, hb, hf⟩ := h
  simp only [Value.slice.injEq, true_and] at hv
  obtain ⟨rfl, rfl⟩ := hv
  obtain ⟨b', cap', w', h1, h2, h3, h4⟩ := app_row1 wr t ty e ht hinfo hz hk a n c _ hr vs hvl hone hbig hby
  refine ⟨b', cap', w', h1, b', cap', rfl, h2, ((Touch.of_below hb []).trans (h3.mono (cs := blkOf a) fun x hx => .inl hx) (fun x hx => .inr (hf x hx))).keep, fun x hx => ?_⟩
  obtain ⟨y, hy, rfl⟩ := mem_blkOf.1 hx
  rcases h4 y hy with h' | h'
  · exact hf _ h'
  · have := hb.size; omega

end Go.Proofs.YtmifgnibalbgjaaGreat
/- More on things side by side (of no program): blocks and rows at any place; a row that is read from its head on. -/
namespace Go.Proofs.YtmifgnibalbgjaaGreat
open Go.RowKit

theorem Mem.ofAll {w : World} {D : List Nat} {l : List Asn} (h : All l w D) : Mem w D w l := ⟨D, h, Touch.refl _ _, fun _ h => .inl h⟩
section
variable {w0 w w' : World} {D0 : List Nat} (l : List Asn) {r : List Asn} [Stables l] [Stables r]
theorem Mem.setAt {g i : Nat} {cur : Array Value} {T : TypeId} (h : Mem w0 D0 w (l ++ BlockA g cur T :: r)) (v : Value) : Mem w0 D0 (w.setCell ⟨g, i, none⟩ v) (l ++ BlockA g (cur.set! i v) T :: r) := by
  obtain ⟨D, ⟨rfl, hg⟩, k⟩ := Mem.focus l h
  exact k [BlockA g (cur.set! i v) T] _ [g] (all_one ⟨rfl, heap_set hg v⟩) ⟨Touch.setCell _ _ _ (by simp), fun x hx => .inl hx⟩
theorem Mem.cellAt {g i : Nat} {cur : Array Value} {T : TypeId} {v : Value} (h : Mem w0 D0 w (l ++ BlockA g cur T :: r)) (hv : cur[i]? = some v) : w.cell? ⟨g, i, none⟩ = some v ∧ w.frozen? ⟨g, i, none⟩ = false := by
  obtain ⟨D, _, hD⟩ := Mem.get l h
  exact cell_of_heap hD hv
theorem Mem.rowAt {E k : Nat} {a : Option Addr} {n c : Nat} {xs : List Value} (h : Mem w0 D0 w (l ++ RowA E k a n c xs :: r)) : Row w E k a n c xs := by
  obtain ⟨D, _, hD⟩ := Mem.get l h
  exact hD
theorem Mem.app1 {P : Program} {t e ty : TypeId} {z0 : Value} {k by' : Nat} (ht : P.underlying t = some (.slice e)) (hinfo : (P.info? e).map (fun i => (i.zero, i.size, i.bytes)) = some (some z0, k, by')) (hz : z0.cells.size = k) (hk : 0 < k)
    {a : Option Addr} {n c : Nat} {xs : List Value} (h : Mem w0 D0 w (l ++ RowA e k a n c xs :: r)) (vs : List Value) (hvl : vs.length = k) (hone : ∀ u ∈ vs, u.oneCell' = true) (hbig : n ≤ 1000000) (hby : by' ≤ 1000000) :
    ∃ b' cap' w', (Builtin.append_ #[t, t] ty #[.slice a n c, .slice (some ⟨w.heap.size, 0, none⟩) 1 1]).run P (w.alloc (.cells vs.toArray e)) = .ok (.slice b' (n + 1) cap') w' ∧ Mem w0 D0 w' (l ++ RowA e k b' (n + 1) cap' (xs ++ vs) :: r) := by
  obtain ⟨D, ⟨rfl, hr⟩, kk⟩ := Mem.focus l h
  obtain ⟨b', cap', w', h1, h2, h3, h4⟩ := app_row1 w t ty e ht hinfo hz hk a n c xs hr vs hvl hone hbig hby
  refine ⟨b', cap', w', h1, kk [RowA e k b' (n + 1) cap' (xs ++ vs)] w' (blkOf b') (all_one ⟨rfl, h2⟩) ⟨h3, fun x hx => ?_⟩⟩
  obtain ⟨y, hy, rfl⟩ := mem_blkOf.1 hx
  exact h4 y hy
theorem Mem.blockAt {l : List Asn} [Stables l] (h : Mem w0 D0 w l) (cur : Array Value) (T : TypeId) : Mem w0 D0 (w.alloc (.cells cur T)) (BlockA w.heap.size cur T :: l) := h.block cur T
end

/-- A slice of one-cell elements anywhere in a block of its own. -/
def QRow (w : World) (E : Nat) (a : Option Addr) (n c : Nat) (xs : List Value) : Prop :=
  ∃ g off cur, a = some ⟨g, off, none⟩ ∧ w.heap[g]? = some (.cells cur E (0, 0)) ∧ n ≤ c ∧ c ≤ maxLen ∧ off + c ≤ cur.size ∧ (cur.toList.drop off).take n = xs ∧ xs.length = n
def QRowA (E : Nat) (a : Option Addr) (n c : Nat) (xs : List Value) : Asn := fun w D => D = blkOf a ∧ QRow w E a n c xs
instance {E : Nat} {a : Option Addr} {n c : Nat} {xs : List Value} : Stable (QRowA E a n c xs) where
  lt := fun ⟨e, g, off, cur, ha, hg, _⟩ x hx => by subst e ha; simp [blkOf] at hx; subst hx; exact lt_of_heap hg
  keep := fun ⟨e, g, off, cur, ha, hg, h⟩ hk => ⟨e, g, off, cur, ha, by rw [hk g (by subst e ha; simp [blkOf])]; exact hg, h⟩
theorem QRow.cell {w : World} {E : Nat} {a : Option Addr} {n c : Nat} {xs : List Value} (h : QRow w E a n c xs) (j : Nat) (hj : j < xs.length) : ∃ g off, a = some ⟨g, off, none⟩ ∧ w.cell? ⟨g, off + j, none⟩ = some xs[j] := by
  obtain ⟨g, off, cur, ha, hg, hnc, _, hoc, hx, hl⟩ := h
  refine ⟨g, off, ha, ?_⟩
  have h1 := congrArg (fun l : List Value => l[j]?) hx
  rw [List.getElem?_take, if_pos (by omega), List.getElem?_drop, List.getElem?_eq_getElem hj] at h1
  have : cur[off + j]? = some xs[j] := by rw [← h1]; simp
  exact (cell_of_heap hg this).1
/-- the first one is read away. -/
theorem QRow.tail {w : World} {E : Nat} {a : Option Addr} {n c : Nat} {x : Value} {xs : List Value} (h : QRow w E a (n + 1) c (x :: xs)) :
    ∃ g off, a = some ⟨g, off, none⟩ ∧ 1 ≤ c ∧ QRow w E (some ⟨g, off + 1, none⟩) n (c - 1) xs ∧ QRow w E (if c = 1 then some ⟨g, off, none⟩ else some ⟨g, off + 1, none⟩) n (c - 1) xs := by
  obtain ⟨g, off, cur, ha, hg, hnc, hcm, hoc, hx, hl⟩ := h
  have h1 : (cur.toList.drop (off + 1)).take n = xs := by
    have := congrArg (List.drop 1) hx
    rw [List.drop_take, List.drop_drop, List.drop_one, List.tail_cons] at this
    exact this
  refine ⟨g, off, ha, by omega, ⟨g, off + 1, cur, rfl, hg, by omega, by omega, by omega, h1, by simpa using hl⟩, ?_⟩
  split
  · have hn : n = 0 := by omega
    subst hn
    have : xs = [] := List.eq_nil_of_length_eq_zero (by simpa using hl)
    subst this
    exact ⟨g, off, cur, rfl, hg, by omega, by omega, by omega, by simp, rfl⟩
  · exact ⟨g, off + 1, cur, rfl, hg, by omega, by omega, by omega, h1, by simpa using hl⟩
theorem setCells_one (w : World) (b o : Nat) (v : Value) : w.setCells b o [v] = w.setCell ⟨b, o, none⟩ v := rfl
/-- one is put behind. -/
theorem app_qrow {P : Program} (w : World) (t ty e : TypeId) {z0 : Value} {by' : Nat} (ht : P.underlying t = some (.slice e)) (hinfo : (P.info? e).map (fun i => (i.zero, i.size, i.bytes)) = some (some z0, 1, by')) (hz : z0.cells.size = 1)
    (a : Option Addr) (n c : Nat) (xs : List Value) (hr : QRow w e a n c xs) (v : Value) (hone : v.oneCell' = true) (hbig : n ≤ 1000000) (hby : by' ≤ 1000000) :
    ∃ b' cap' w', (Builtin.append_ #[t, t] ty #[.slice a n c, .slice (some ⟨w.heap.size, 0, none⟩) 1 1]).run P (w.alloc (.cells #[v] e)) = .ok (.slice b' (n + 1) cap') w' ∧
      QRow w' e b' (n + 1) cap' (xs ++ [v]) ∧ Touch (blkOf a) w w' ∧ Fresh w a b' := by
  obtain ⟨i0, hi, hz0, hz1, hz2⟩ := info_parts hinfo
  obtain ⟨g, off, cur, rfl, hg, hnc, hcm, hoc, hx, hl⟩ := hr
  have hlt := lt_of_heap hg
  have hb := bel_new w (.cells #[v] e)
  have hg1 : (w.alloc (.cells #[v] e)).heap[g]? = some (.cells cur e (0, 0)) := (hb.block g hlt).trans hg
  have hnew : (w.alloc (.cells #[v] e)).cell? ⟨w.heap.size, 0, none⟩ = some v := (cell_of_heap (heap_new w (.cells #[v] e)) rfl).1
  have S : Src P i0.size t (.slice (some ⟨w.heap.size, 0, none⟩) 1 1) 1 [v] (w.alloc (.cells #[v] e)) :=
    Src.ofSlice _ ht _ 1 1 [v] (by rw [hz1]; rfl) (fun j u hj => by
      cases j with
      | zero => simp at hj; subst hj; exact hnew
      | succ j => simp at hj) (fun u hu => by simp at hu; subst hu; exact hone)
  by_cases hroom : n + 1 ≤ c
  · have hlt2 : off + n < cur.size := by omega
    obtain ⟨c1, c2⟩ := cell_of_heap (i := off + n) (v := cur[off + n]) hg1 (by simp [hlt2])
    have hrun := run_append_room_src (P := P) (w.alloc (.cells #[v] e)) t t ty e i0 ht hi g off n c _ 1 [v] S hroom (fun j hj => by
      have : j = 0 := by simpa using hj
      subst this; rw [hz1, Nat.mul_one, Nat.add_zero, c1]; rfl) (fun j hj => by
      have : j = 0 := by simpa using hj
      subst this; rw [hz1, Nat.mul_one, Nat.add_zero]; exact c2)
    refine ⟨_, _, _, hrun, ⟨g, off, cur.set! (off + n) v, rfl, ?_, hroom, hcm, by simpa using hoc, ?_, by simp [hl]⟩, ?_, Fresh.refl _ _⟩
    · rw [hz1, Nat.mul_one, setCells_one]; exact heap_set hg1 v
    · have e1 : (cur.set! (off + n) v).toList = cur.toList.set (off + n) v := by simp [Array.set!_eq_setIfInBounds]
      rw [e1, List.drop_set, if_neg (by omega), show off + n - off = n by omega]
      rw [List.take_add_one, List.take_set_of_le (by omega), hx]
      congr 1
      rw [List.getElem?_set_self (by simp; omega)]; rfl
    · refine (Touch.of_below hb _).andThen ?_
      rw [hz1, Nat.mul_one, setCells_one]
      exact Touch.setCell _ _ _ (by simp [blkOf])
  · have hold : (Builtin.firstCells i0.size n (.slice (some ⟨g, off, none⟩) n c)).run P (w.alloc (.cells #[v] e)).drew = .ok xs.toArray (w.alloc (.cells #[v] e)).drew :=
      run_firstCells_some _ i0.size n ⟨g, off, none⟩ n c xs (by rw [hz1, Nat.mul_one]; exact hl) (fun j u hj => by
        obtain ⟨hj', e'⟩ := List.getElem?_eq_some_iff.1 hj
        subst e'
        obtain ⟨g', off', he, hc⟩ := QRow.cell (w := (w.alloc (.cells #[v] e)).drew) ⟨g, off, cur, rfl, hg1, hnc, hcm, hoc, hx, hl⟩ j hj'
        simp only [Option.some.injEq, Addr.mk.injEq, and_true] at he
        obtain ⟨rfl, rfl⟩ := he
        rw [Addr.add_lit]; exact hc)
    have hfit : Builtin.nextslicecap (n + 1) c * i0.bytes ≤ 281474976710656 := growslice_fits (by omega) (by
      have : (n + 1) * by' ≤ 1000001 * 1000000 := Nat.mul_le_mul (by omega) hby
      rw [hz2]; omega)
    have hrun := run_append_grow_src (P := P) (w.alloc (.cells #[v] e)) t t ty e i0 z0 ht hi hz0 (some ⟨g, off, none⟩) n c xs hold _ 1 [v] S (by omega) (by omega) hfit
    have hge := grownCap_ge (w.alloc (.cells #[v] e)) (n + 1) c e
    have hlm := grownCap_le_maxLen (w.alloc (.cells #[v] e)) (n + 1) c e (by unfold maxLen; omega)
    refine ⟨_, _, _, hrun, ⟨_, 0, _, rfl, heap_alloc_new (w.alloc (.cells #[v] e)).drew _, hge, hlm, ?_, ?_, by simp [hl]⟩, (Touch.of_below hb _).andThen ((Touch.drew _ _).andThen (Touch.alloc _ _ _)), fun x hx => ?_⟩
    · simp only [Array.size_append, List.size_toArray, List.length_append, List.length_singleton, size_zeroCells, hz, hl]
      omega
    · simp only [Array.toList_append, List.drop_zero]
      rw [List.take_append_of_le_length (by simp [hl]), List.take_of_length_le (by simp [hl])]
    · simp only [Option.some.injEq] at hx
      subst hx
      right
      show w.heap.size ≤ (w.alloc (.cells #[v] e)).heap.size
      exact hb.size
theorem QRow.of_row {w : World} {E : Nat} {g n c : Nat} {xs : List Value} (h : Row w E 1 (some ⟨g, 0, none⟩) n c xs) : QRow w E (some ⟨g, 0, none⟩) n c xs := by
  rcases h.out with ⟨e, _⟩ | ⟨g', cur, e, hg, hnc, hcm, hcs, htk, hl⟩
  · cases e
  · exact ⟨g', 0, cur, e, hg, hnc, hcm, by omega, by rw [List.drop_zero]; simpa using htk, by simpa using hl⟩
section
variable {w0 w w' : World} {D0 : List Nat} (l : List Asn) {r : List Asn} [Stables l] [Stables r]
theorem Mem.qrowAt {E : Nat} {a : Option Addr} {n c : Nat} {xs : List Value} (h : Mem w0 D0 w (l ++ QRowA E a n c xs :: r)) : QRow w E a n c xs := by
  obtain ⟨D, _, hD⟩ := Mem.get l h
  exact hD
theorem Mem.qset {E : Nat} {g off n c n' c' off' : Nat} {xs xs' : List Value} (h : Mem w0 D0 w (l ++ QRowA E (some ⟨g, off, none⟩) n c xs :: r)) (hq : QRow w E (some ⟨g, off', none⟩) n' c' xs') : Mem w0 D0 w (l ++ QRowA E (some ⟨g, off', none⟩) n' c' xs' :: r) := by
  obtain ⟨D, ⟨rfl, _⟩, kk⟩ := Mem.focus l h
  exact kk [QRowA E (some ⟨g, off', none⟩) n' c' xs'] w _ (all_one ⟨rfl, hq⟩) ⟨Touch.refl _ _, fun x hx => .inl hx⟩
theorem Mem.qapp {P : Program} {t e ty : TypeId} {z0 : Value} {by' : Nat} (ht : P.underlying t = some (.slice e)) (hinfo : (P.info? e).map (fun i => (i.zero, i.size, i.bytes)) = some (some z0, 1, by')) (hz : z0.cells.size = 1)
    {a : Option Addr} {n c : Nat} {xs : List Value} (h : Mem w0 D0 w (l ++ QRowA e a n c xs :: r)) (v : Value) (hone : v.oneCell' = true) (hbig : n ≤ 1000000) (hby : by' ≤ 1000000) :
    ∃ b' cap' w', (Builtin.append_ #[t, t] ty #[.slice a n c, .slice (some ⟨w.heap.size, 0, none⟩) 1 1]).run P (w.alloc (.cells #[v] e)) = .ok (.slice b' (n + 1) cap') w' ∧ Mem w0 D0 w' (l ++ QRowA e b' (n + 1) cap' (xs ++ [v]) :: r) := by
  obtain ⟨D, ⟨rfl, hr⟩, kk⟩ := Mem.focus l h
  obtain ⟨b', cap', w', h1, h2, h3, h4⟩ := app_qrow w t ty e ht hinfo hz a n c xs hr v hone hbig hby
  refine ⟨b', cap', w', h1, kk [QRowA e b' (n + 1) cap' (xs ++ [v])] w' (blkOf b') (all_one ⟨rfl, h2⟩) ⟨h3, fun x hx => ?_⟩⟩
  obtain ⟨y, hy, rfl⟩ := mem_blkOf.1 hx
  exact h4 y hy
end
end Go.Proofs.YtmifgnibalbgjaaGreat
/- Appends of whole slices, in whatever order a statement is walked (of no program). -/
namespace Go.Proofs.YtmifgnibalbgjaaGreat
open Go.RowKit

/-- A slice that is read: m elements, the cells ys. -/
def SubV (w : World) (k : Nat) (sv : Value) (m : Nat) (ys : List Value) : Prop :=
  ys.length = m * k ∧ (∀ u ∈ ys, u.oneCell' = true) ∧ ((∃ d, sv = .slice none 0 d ∧ m = 0) ∨ ∃ g o d, sv = .slice (some ⟨g, o, none⟩) m d ∧ ∀ j u, ys[j]? = some u → w.cell? ⟨g, o + j, none⟩ = some u)
theorem SubV.below {w w' : World} {k m : Nat} {sv : Value} {ys : List Value} (h : SubV w k sv m ys) (b : Below w.heap.size w w') : SubV w' k sv m ys := by
  obtain ⟨h1, h0, h2 | ⟨g, o, d, h2, h3⟩⟩ := h
  · exact ⟨h1, h0, .inl h2⟩
  · exact ⟨h1, h0, .inr ⟨g, o, d, h2, fun j u hj => (b.cell (World.block_lt_of_cell? w _ (h3 j u hj))).trans (h3 j u hj)⟩⟩
theorem SubV.upto {w : World} {E k n c : Nat} {a : Option Addr} {xs : List Value} (h : Row w E k a n c xs) (h1 : ∀ u ∈ xs, u.oneCell' = true) {q : Nat} (hq : q ≤ n) : SubV w k (.slice a q c) q (xs.take (q * k)) := by
  have hl := h.len
  have hle := Nat.mul_le_mul_right k hq
  refine ⟨by rw [List.length_take]; omega, fun u hu => h1 u (List.mem_of_mem_take hu), ?_⟩
  rcases h.out with ⟨rfl, rfl, rfl, rfl⟩ | ⟨g, cur, rfl, _⟩
  · exact .inl ⟨0, by rw [show q = 0 by omega], by omega⟩
  · refine .inr ⟨g, 0, c, rfl, fun j u hj => ?_⟩
    rw [List.getElem?_take] at hj
    split at hj
    · obtain ⟨hj', rfl⟩ := List.getElem?_eq_some_iff.1 hj
      obtain ⟨g', e, hc⟩ := h.cellAt j hj'
      simp only [Option.some.injEq, Addr.mk.injEq, and_true] at e
      subst e
      rw [Nat.zero_add]; exact hc
    · cases hj
/-- what is behind q: as the walk spells it where q is the capacity, and where it isn't. -/
theorem SubV.fromCap {w : World} {k g o : Nat} : SubV w k (.slice (some ⟨g, o, none⟩) 0 0) 0 [] := ⟨by simp, by simp, .inr ⟨g, o, 0, rfl, by simp⟩⟩
theorem SubV.zero {w : World} {k g o d : Nat} : SubV w k (.slice (some ⟨g, o, none⟩) 0 d) 0 [] := ⟨by simp, by simp, .inr ⟨g, o, d, rfl, by simp⟩⟩
theorem SubV.nil {w : World} {k d : Nat} : SubV w k (.slice none 0 d) 0 [] := ⟨by simp, by simp, .inl ⟨d, rfl, rfl⟩⟩
theorem SubV.behind {w : World} {E k n c g : Nat} {xs : List Value} (h : Row w E k (some ⟨g, 0, none⟩) n c xs) (h1 : ∀ u ∈ xs, u.oneCell' = true) {q : Nat} (_hq : q ≤ n) (d : Nat) : SubV w k (.slice (some ⟨g, q * k, none⟩) (n - q) d) (n - q) (xs.drop (q * k)) := by
  have hl := h.len
  refine ⟨by rw [List.length_drop, hl, Nat.sub_mul], fun u hu => h1 u (List.mem_of_mem_drop hu), .inr ⟨g, q * k, d, rfl, fun j u hj => ?_⟩⟩
  rw [List.getElem?_drop] at hj
  obtain ⟨hj', rfl⟩ := List.getElem?_eq_some_iff.1 hj
  obtain ⟨g', e, hc⟩ := h.cellAt _ hj'
  simp only [Option.some.injEq, Addr.mk.injEq, and_true] at e
  subst e
  exact hc
theorem SubV.one {w : World} {k vb : Nat} {T : TypeId} {vs : List Value} (h : w.heap[vb]? = some (.cells vs.toArray T (0, 0))) (hk : vs.length = k) (h1 : ∀ u ∈ vs, u.oneCell' = true) : SubV w k (.slice (some ⟨vb, 0, none⟩) 1 1) 1 vs :=
  ⟨by omega, h1, .inr ⟨vb, 0, 1, rfl, fun j u hj => by rw [Nat.zero_add]; exact (cell_of_heap h (by simpa using hj)).1⟩⟩
theorem app_row_src {P : Program} (w : World) (t ty e : TypeId) {z0 : Value} {k by' : Nat} (ht : P.underlying t = some (.slice e)) (hinfo : (P.info? e).map (fun i => (i.zero, i.size, i.bytes)) = some (some z0, k, by')) (hz : z0.cells.size = k) (hk : 0 < k)
    (a : Option Addr) (n c : Nat) (xs : List Value) (hr : Row w e k a n c xs) (sv : Value) (m : Nat) (ys : List Value) (hs : SubV w k sv m ys) (hbig : n + m ≤ 1000000) (hby : by' ≤ 1000000) :
    ∃ b' cap' w', (Builtin.append_ #[t, t] ty #[.slice a n c, sv]).run P w = .ok (.slice b' (n + m) cap') w' ∧ Row w' e k b' (n + m) cap' (xs ++ ys) ∧ Touch (blkOf a) w w' ∧ Fresh w a b' := by
  obtain ⟨i0, hi, hz0, hz1, hz2⟩ := info_parts hinfo
  have hb : (n + m) * by' ≤ 140737488355328 := by
    have : (n + m) * by' ≤ 1000000 * 1000000 := Nat.mul_le_mul hbig hby
    omega
  obtain ⟨h1, h0, ⟨d, rfl, rfl⟩ | ⟨g, o, d, rfl, h3⟩⟩ := hs
  · obtain rfl : ys = [] := List.eq_nil_of_length_eq_zero (by simpa using h1)
    refine ⟨a, c, w, ?_, by simpa using hr, Touch.refl _ _, Fresh.refl _ _⟩
    have hnc : n ≤ c := by
      rcases hr.out with ⟨_, rfl, rfl, _⟩ | ⟨_, _, _, _, h, _⟩
      · exact Nat.le_refl _
      · exact h
    cases a with
    | none => simp [Builtin.append_, run_underlying ht, sizeOf, typeInfo, hi, Builtin.lenOf, Builtin.firstCells, hnc]
    | some x => simp [Builtin.append_, run_underlying ht, sizeOf, typeInfo, hi, Builtin.lenOf, Builtin.firstCells, loadCells, hnc, storeCells]
  · exact run_append_row w t ty e i0 z0 k by' ht hi hz0 hz1 hz2 hz hk a n c xs hr ⟨g, o, none⟩ m d ys h1 (fun j u hj => by rw [Addr.add_lit]; exact h3 j u hj) h0 (by unfold maxLen; omega) hb
theorem row_empty {w : World} {E k g : Nat} (h : w.heap[g]? = some (.cells #[] E (0, 0))) : Row w E k (some ⟨g, 0, none⟩) 0 0 [] := Row.mk h (Nat.le_refl _) (Nat.zero_le _) (by simp) (by simp)
/-- an append of a slice, in a region: some slice, some world. -/
theorem step_chain {P : Program} {ops : Array Oper} {o : Oper} {a : Act} {w : World} {K : Act → World → Prop} {Q : Exit → Act → World → Prop} {E0 : Prop} {t e : TypeId} {z0 : Value} {k by' : Nat}
    (ht : P.underlying t = some (.slice e)) (hinfo : (P.info? e).map (fun i => (i.zero, i.size, i.bytes)) = some (some z0, k, by')) (hz : z0.cells.size = k) (hk : 0 < k) (hby : by' ≤ 1000000)
    (hg : o.guard = none) (d s : Operand) (ho : o.op = .call { callee := .builtin .append, args := #[d, s], argTypes := #[t, t] }) {b : Option Addr} {n c m : Nat} {sv : Value} {xs ys : List Value} (hd : a.eval d = .slice b n c) (hs : a.eval s = sv)
    (hr : Row w e k b n c xs) (hv : SubV w k sv m ys) (hbig : n + m ≤ 1000000)
    (hK : ∀ b' c' w', Row w' e k b' (n + m) c' (xs ++ ys) → Touch (blkOf b) w w' → Fresh w b b' → K (a.put o.dst (.slice b' (n + m) c')) w') : if Region.wanted o (yielded ops a.tmps) = true then Oper.wp P o a w K Q else E0 := by
  obtain ⟨b', c', w', h1, h2, h3, h4⟩ := app_row_src (P := P) w t o.type e ht hinfo hz hk b n c xs hr sv m ys hv hbig hby
  exact step_appendR hg d s t t ho _ _ hd hs h1 (hK b' c' w' h2 h3 h4)
theorem hp_old (w : World) (o o' : Obj) (k : Nat) (h : k < w.heap.size) (e : w.heap[k]? = some o') : (w.alloc o).heap[k]? = some o' := ((bel_new w o).block k h).trans e
/-- what is new since wr. -/
def NewB (wr : World) (b : Option Addr) : Prop := ∀ x ∈ blkOf b, wr.heap.size ≤ x
theorem NewB.lit {wr : World} {g : Nat} (h : wr.heap.size ≤ g) : NewB wr (some ⟨g, 0, none⟩) := fun x hx => by simp [blkOf] at hx; omega
theorem NewB.next {wr w _w' : World} {b b' : Option Addr} (h : NewB wr b) (hb : Below wr.heap.size wr w) (hf : Fresh w b b') : NewB wr b' := fun x hx => by
  obtain ⟨y, hy, rfl⟩ := mem_blkOf.1 hx
  rcases hf y hy with h1 | h1
  · exact h _ h1
  · exact Nat.le_trans hb.size h1
theorem NewB.bel {wr w w' : World} {b : Option Addr} (h : NewB wr b) (hb : Below wr.heap.size wr w) (ht : Touch (blkOf b) w w') : Below wr.heap.size wr w' :=
  ((Touch.of_below hb []).trans ht fun x hx => .inr (h x hx)).keep
theorem bel_one {wr w : World} (h : Below wr.heap.size wr w) (o : Obj) : Below wr.heap.size wr (w.alloc o) := h.trans ((bel_new w o).mono h.size)
theorem bel_two {wr w : World} (h : Below wr.heap.size wr w) : Below wr.heap.size wr w.drew := h.drew
end Go.Proofs.YtmifgnibalbgjaaGreat
