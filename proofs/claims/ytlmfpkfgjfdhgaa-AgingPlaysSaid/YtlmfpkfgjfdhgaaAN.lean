/- A map of ints beside other things; the graph of a table. -/
import Derived.Test.YtlmfpkfgjfdhgaaAM
import Derived.Test.YtlmfpkfgjfdhgaaAL
import Derived.Maps.Own
import Derived.Maps.Views
namespace Go.Proofs.Ytlmfpkfgjfdhgaa
open Go.RowKit

theorem key3 : Maps.Keyed Try.prog 3 := Maps.int_keyed Try.underlying3
theorem zero3 (w : World) : (zeroValue 3).run Try.prog w = .ok (.int .i64 0) w := by kernel_rfl
theorem isKey (x : Int) : WideAt.IsKeyLit (Lit.int .i64 x) := True.intro
abbrev Wf (x : Int) : Prop := (Lit.int .i64 x).wf = true
theorem wf_of {x : Int} (h0 : -9223372036854775808 ≤ x) (h1 : x ≤ 9223372036854775807) : Wf x := by
  show (Lit.int .i64 x).wf = true
  simp [Lit.wf, IntKind.min, IntKind.max, IntKind.signed, IntKind.bits]; omega
/-- A map from ints to ints, with n stores. -/
def MapA (b n : Nat) (F : Int → Int) : Asn := fun w D => D = [b] ∧ ∃ Dt : DataW Unit, w.ownsMap Try.prog 3 (plainElem Try.prog 3) b n Dt ∧ Maps.IsMap Dt ∧ ∀ x, Dt.atKey (.int .i64 x) (.lit (.int .i64 0)) = .lit (.int .i64 (F x))
instance {b n : Nat} {F : Int → Int} : Stable (MapA b n F) where
  lt := fun ⟨e, Dt, h, _⟩ x hx => by subst e; simp at hx; subst hx; exact h.lt
  keep := fun ⟨e, Dt, h, hr⟩ hk => ⟨e, Dt, by
    obtain ⟨es, clock, h1, h2⟩ := h
    exact ⟨es, clock, (hk b (by subst e; simp)).trans h1, h2⟩, hr⟩
theorem MapA.made (w : World) : MapA w.heap.size 0 (fun _ => 0) (w.alloc (.map #[] 0)) [w.heap.size] :=
  ⟨rfl, .map [], World.ownsMap_made _ _ _ _, Maps.isMap_empty, fun _ => rfl⟩
section
variable {w0 w : World} {D0 : List Nat} (l : List Asn) {r : List Asn} [Stables l] [Stables r] {b n : Nat} {F : Int → Int}
theorem Mem.mapGet (h : Mem w0 D0 w (l ++ MapA b n F :: r)) {x : Int} (hx : Wf x) : (Instr.lookup 27 (.map (some b)) (.int .i64 x) false).run Try.prog w = .ok (.int .i64 (F x)) w := by
  obtain ⟨D, rfl, Dt, h1, h2, h3⟩ := Mem.get l h
  obtain ⟨c, hrun, hat, _⟩ := h1.lookup_int key3 (t := 27) Try.underlying27 Try.underlying3 (zero3 w) (Maps.keyOf_int_mk Try.underlying3 hx)
  rw [h3] at hat
  simp only [DataW.lit.injEq, Lit.int.injEq, true_and] at hat
  rw [hrun, hat]
theorem Mem.mapPut (h : Mem w0 D0 w (l ++ MapA b n F :: r)) {x v : Int} (hx : Wf x) (hv : Wf v) (hn : n < maxLen) :
    ∃ w', (Instr.mapUpdate 27 (.map (some b)) (.int .i64 x) (.int .i64 v)).run Try.prog w = .ok () w' ∧ Mem w0 D0 w' (l ++ MapA b (n + 1) (fun y => if y = x then v else F y) :: r) := by
  obtain ⟨D, ⟨rfl, Dt, h1, h2, h3⟩, k⟩ := Mem.focus l h
  obtain ⟨w', hrun, q1, q2⟩ := h1.update key3 (t := 27) Try.underlying27 hn (Maps.keyOf_int_mk Try.underlying3 hx) (plainElem_int Try.underlying3 hv)
  refine ⟨w', hrun, k [MapA b (n + 1) (fun y => if y = x then v else F y)] w' [b] (all_one ⟨rfl, _, q1, h2.put _ _, fun y => ?_⟩) ⟨Touch.grown q2 (by intro g hg; simp at hg; simp [hg]), fun x hx => .inl hx⟩⟩
  by_cases e : y = x
  · subst e
    simp only [if_true]
    exact Maps.atKey_put_same h2 (isKey _) _ _
  · simp only [if_neg e]
    rw [Maps.atKey_put_other (by simpa using e)]
    exact h3 y
end
theorem wpList_mapUpdateR {P : Program} (w : World) {ops : Array Oper} {rest : List Oper} {o : Oper} {a : Act} {Q : Exit → Act → World → Prop}
    (hg : o.guard = none) (m x v : Operand) (t : TypeId) (hop : o.op = Op.mapUpdate t m x v) (vm vx vv : Value) (hm : a.eval m = vm) (hx : a.eval x = vx) (hv : a.eval v = vv) {w' : World}
    (hrun : (Instr.mapUpdate t vm vx vv).run P w = .ok () w') (hK : wpList P ops Q rest (a.put o.dst undef) w') : wpList P ops Q (o :: rest) a w := by
  refine wpList_plain hg fun K' hK' => ?_
  unfold Oper.wp
  simp [execOp, hop, hm, hx, hv, hrun, Result.andThen]
  exact hK' _ _ hK

-- the graph of a table
theorem stampG_mem {M : List Mb} (hs : SortM M) {m : Mb} (hm : m ∈ M) : stampG (M.map sgM) m.id = some m.stamp := by
  obtain ⟨k, hk, rfl⟩ := List.getElem_of_mem hm
  have h := stampG_at (N := M.map sgM) (id := M[k].id) (k := k) (by rw [List.length_map]; exact hk) (by simp [sgM]) (fun i hi hik => by
    rw [List.length_map] at hi
    have := List.pairwise_iff_getElem.1 hs i k hi hk hik
    simp only [List.getElem_map, sgM]; omega)
  rw [h]; simp [sgM]
theorem stampG_take {M : List Mb} (hs : SortM M) {k : Nat} (hk : k < M.length) : stampG ((M.take k).map sgM) M[k].id = none := by
  refine stampG_none fun i hi => ?_
  simp only [List.length_map, List.length_take] at hi
  have := List.pairwise_iff_getElem.1 hs i k (by omega) hk (by omega)
  simp only [List.getElem_map, List.getElem_take, sgM]; omega
theorem map_take_succ {α β : Type} (g : α → β) (L : List α) (k : Nat) (hk : k < L.length) : (L.take (k + 1)).map g = (L.take k).map g ++ [g L[k]] := by
  rw [List.take_succ_eq_append_getElem hk, List.map_append]; rfl
/-- who waits for whom. -/
def CR (wd : Bool) (M : List Mb) (a b : Int) : Prop := ∃ m ∈ M, ∃ x ∈ M, m.id = a ∧ x.id = b ∧ aged wd m x
theorem aged_trans {wd : Bool} {a b c : Mb} (h1 : aged wd a b) (h2 : aged wd b c) : aged wd a c := by
  unfold aged at *
  split at h1
  · rw [if_pos (by assumption)] at h2 ⊢; exact older_trans h2 h1
  · rw [if_neg (by assumption)] at h2 ⊢; exact older_trans h1 h2
theorem aged_irr {wd : Bool} {a : Mb} : ¬ aged wd a a := by
  unfold aged; split <;> exact older_irr a
theorem CR.trans {wd : Bool} {M : List Mb} (hs : SortM M) (a b c : Int) (h1 : CR wd M a b) (h2 : CR wd M b c) : CR wd M a c := by
  obtain ⟨m, hm, x, hx, e1, e2, g1⟩ := h1
  obtain ⟨y, hy, z, hz, e3, e4, g2⟩ := h2
  have := sortM_id hs hx hy (e2.trans e3.symm)
  subst this
  exact ⟨m, hm, z, hz, e1, e4, aged_trans g1 g2⟩
theorem CR.irr {wd : Bool} {M : List Mb} (hs : SortM M) (a : Int) : ¬ CR wd M a a := by
  rintro ⟨m, hm, x, hx, e1, e2, g1⟩
  have := sortM_id hs hm hx (e1.trans e2.symm)
  subst this
  exact aged_irr g1
theorem edge_fact {wd : Bool} {M : List Mb} {K : List Lk} (h : CInv wd M K) {e : Int × Int} (he : e ∈ edgesOf M K) : ∃ m ∈ M, ∃ x ∈ M, e = (m.id, x.id) ∧ aged wd m x := by
  obtain ⟨m, hm, rfl⟩ := List.mem_map.1 he
  obtain ⟨hm1, hm2⟩ := List.mem_filter.1 hm
  rcases h.wt m hm1 hm2 with h1 | ⟨l, h1, h2, x, h3, h4, h5⟩
  · cases h1
  · refine ⟨m, hm1, x, h3, ?_, h5⟩
    have hk : hasK K m.key = true := List.any_eq_true.2 ⟨l, h1, by simpa using h2⟩
    obtain ⟨l2, g1, g2, g3⟩ := holdK_mem h.sok.ok.sk hk
    obtain ⟨i, hi, rfl⟩ := List.getElem_of_mem h1
    obtain ⟨j, hj, rfl⟩ := List.getElem_of_mem g1
    have := sortK_inj h.sok.ok.sk hi hj (h2.trans g2.symm)
    subst this
    rw [← g3, h4]
theorem edges_cr {wd : Bool} {M : List Mb} {K : List Lk} (h : CInv wd M K) : ∀ e ∈ edgesOf M K, CR wd M e.1 e.2 := fun e he => by
  obtain ⟨m, hm, x, hx, rfl, hg⟩ := edge_fact h he
  exact ⟨m, hm, x, hx, rfl, rfl, hg⟩
theorem edges_sort {M : List Mb} {K : List Lk} (hs : SortM M) : (edgesOf M K).Pairwise fun a b => a.1 < b.1 := by
  unfold edgesOf
  exact List.pairwise_map.2 (hs.sublist List.filter_sublist)
theorem edges_no {M : List Mb} {K : List Lk} (hs : SortM M) {k : Nat} (hk : k < (edgesOf M K).length) : ∀ i (hi : i < ((edgesOf M K).take k).length), ((edgesOf M K).take k)[i].1 ≠ (edgesOf M K)[k].1 := fun i hi => by
  simp only [List.length_take] at hi
  have := List.pairwise_iff_getElem.1 (edges_sort (K := K) hs) i k (by omega) hk (by omega)
  rw [List.getElem_take]; omega
theorem aged_elder {wd : Bool} {m x : Mb} (h : aged wd m x) : (wd == elderB m.stamp x.stamp m.id x.id) = false := by
  unfold aged at h
  unfold elderB
  cases wd with
  | true =>
    simp only [if_true] at h
    unfold older at h
    rw [decide_eq_false (by omega)]; rfl
  | false =>
    simp only [Bool.false_eq_true, if_false] at h
    unfold older at h
    rw [decide_eq_true (by omega)]; rfl
theorem edges_len {M : List Mb} {K : List Lk} : (edgesOf M K).length ≤ M.length := by
  unfold edgesOf; rw [List.length_map]; exact List.length_filter_le _ _
/-- the map tells each member's stamp. -/
def MapOk (F : Int → Int) (M : List Mb) : Prop := ∀ m ∈ M, F m.id = m.stamp ∧ m.id ≤ 9223372036854775807
theorem MapOk.sg {F : Int → Int} {M M' : List Mb} (h : MapOk F M) (e : ∀ m ∈ M', ∃ m0 ∈ M, m0.id = m.id ∧ m0.stamp = m.stamp) : MapOk F M' := fun m hm => by
  obtain ⟨m0, h1, h2, h3⟩ := e m hm
  rw [← h2, ← h3]; exact h m0 h1
end Go.Proofs.Ytlmfpkfgjfdhgaa
