/- A map of ints beside other things. -/
import Derived.Test.YtbgabdofnmijnaaE
import Derived.Maps.Own
import Derived.Maps.Views
namespace Go.Proofs.Ytbgabdofnmijnaa
open Go.RowKit
theorem key3 : Maps.Keyed Try.prog 3 := Maps.int_keyed Try.underlying3
theorem zero3 (w : World) : (zeroValue 3).run Try.prog w = .ok (.int .i64 0) w := by kernel_rfl
theorem isKey (x : Int) : WideAt.IsKeyLit (Lit.int .i64 x) := True.intro
abbrev Wf (x : Int) : Prop := (Lit.int .i64 x).wf = true
theorem wf_of {x : Int} (h0 : -9223372036854775808 ≤ x) (h1 : x ≤ 9223372036854775807) : Wf x := by
  show (Lit.int .i64 x).wf = true
  simp [Lit.wf, IntKind.min, IntKind.max, IntKind.signed, IntKind.bits]; omega
/-- A map from ints to ints, with n stores. -/
def MapA (b n : Nat) (F : Int → Int) : Asn := fun w D => D = [b] ∧ ∃ Dt : DataW Unit, w.ownsMap Try.prog 3 (plainElem Try.prog 3) b n Dt ∧ Maps.IsMap Dt ∧ ∀ x, Dt.atKey (.int .i64 x) (.lit (.int .i64 0)) = .lit (.int .i64 (F x))
instance {b n : Nat} {F : Int → Int} : Stable (MapA b n F) where
  lt := fun ⟨e, Dt, h, _⟩ x hx => by subst e; simp at hx; subst hx; exact h.lt
  keep := fun ⟨e, Dt, h, hr⟩ hk => ⟨e, Dt, by
    obtain ⟨es, clock, h1, h2⟩ := h
    exact ⟨es, clock, (hk b (by subst e; simp)).trans h1, h2⟩, hr⟩
theorem MapA.made (w : World) : MapA w.heap.size 0 (fun _ => 0) (w.alloc (.map #[] 0)) [w.heap.size] :=
  ⟨rfl, .map [], World.ownsMap_made _ _ _ _, Maps.isMap_empty, fun _ => rfl⟩
section
variable {w0 w : World} {D0 : List Nat} (l : List Asn) {r : List Asn} [Stables l] [Stables r] {b n : Nat} {F : Int → Int}
theorem Mem.mapGet (h : Mem w0 D0 w (l ++ MapA b n F :: r)) {x : Int} (hx : Wf x) : (Instr.lookup 46 (.map (some b)) (.int .i64 x) false).run Try.prog w = .ok (.int .i64 (F x)) w := by
  obtain ⟨D, rfl, Dt, h1, h2, h3⟩ := Mem.get l h
  obtain ⟨c, hrun, hat, _⟩ := h1.lookup_int key3 (t := 46) Try.underlying46 Try.underlying3 (zero3 w) (Maps.keyOf_int_mk Try.underlying3 hx)
  rw [h3] at hat
  simp only [DataW.lit.injEq, Lit.int.injEq, true_and] at hat
  rw [hrun, hat]
theorem Mem.mapPut (h : Mem w0 D0 w (l ++ MapA b n F :: r)) {x v : Int} (hx : Wf x) (hv : Wf v) (hn : n < maxLen) :
    ∃ w', (Instr.mapUpdate 46 (.map (some b)) (.int .i64 x) (.int .i64 v)).run Try.prog w = .ok () w' ∧ Mem w0 D0 w' (l ++ MapA b (n + 1) (fun y => if y = x then v else F y) :: r) := by
  obtain ⟨D, ⟨rfl, Dt, h1, h2, h3⟩, k⟩ := Mem.focus l h
  obtain ⟨w', hrun, q1, q2⟩ := h1.update key3 (t := 46) Try.underlying46 hn (Maps.keyOf_int_mk Try.underlying3 hx) (plainElem_int Try.underlying3 hv)
  refine ⟨w', hrun, k [MapA b (n + 1) (fun y => if y = x then v else F y)] w' [b] (all_one ⟨rfl, _, q1, h2.put _ _, fun y => ?_⟩) ⟨Touch.grown q2 (by intro g hg; simp at hg; simp [hg]), fun x hx => .inl hx⟩⟩
  by_cases e : y = x
  · subst e
    simp only [if_true]
    exact Maps.atKey_put_same h2 (isKey _) _ _
  · simp only [if_neg e]
    rw [Maps.atKey_put_other (by simpa using e)]
    exact h3 y
end
theorem wpList_mapUpdateR {P : Program} (w : World) {ops : Array Oper} {rest : List Oper} {o : Oper} {a : Act} {Q : Exit → Act → World → Prop}
    (hg : o.guard = none) (m x v : Operand) (t : TypeId) (hop : o.op = Op.mapUpdate t m x v) (vm vx vv : Value) (hm : a.eval m = vm) (hx : a.eval x = vx) (hv : a.eval v = vv) {w' : World}
    (hrun : (Instr.mapUpdate t vm vx vv).run P w = .ok () w') (hK : wpList P ops Q rest (a.put o.dst undef) w') : wpList P ops Q (o :: rest) a w := by
  refine wpList_plain hg fun K' hK' => ?_
  unfold Oper.wp
  simp [execOp, hop, hm, hx, hv, hrun, Result.andThen]
  exact hK' _ _ hK

/-- A thing made since w. -/
def Made (w : World) (A : Asn) (w' : World) : Prop := ∃ D, A w' D ∧ (∀ x ∈ D, w.heap.size ≤ x) ∧ Below w.heap.size w w'
theorem Made.mem {w : World} {A : Asn} {w' : World} (h : Made w A w') : Mem w [] w' [A] := by
  obtain ⟨D, h1, h2, h3⟩ := h
  exact (Mem.nil w).new h3 (all_one h1) h2
theorem Mem.made {w0 w w' : World} {D0 : List Nat} {l : List Asn} [Stables l] {A : Asn} (h : Mem w0 D0 w l) (k : Made w A w') : Mem w0 D0 w' (A :: l) := by
  obtain ⟨D, h1, h2, h3⟩ := k
  exact h.new h3 (As := [A]) (all_one h1) h2
theorem Mem.toMade {w w' : World} {A : Asn} {l : List Asn} [sA : Stable A] [Stables l] (h : Mem w [] w' (A :: l)) : Made w A w' := by
  obtain ⟨D, hA, hD⟩ := h.out
  obtain ⟨D1, D2, rfl, hd, h1, h2⟩ := hA
  exact ⟨D1, h1, fun x hx => by
    rcases hD.fresh x (List.mem_append_left _ hx) with h' | h'
    · cases h'
    · exact h', h.bel⟩
end Go.Proofs.Ytbgabdofnmijnaa
