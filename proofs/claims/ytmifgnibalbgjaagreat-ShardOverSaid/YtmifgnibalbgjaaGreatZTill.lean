/- A region that ends in a store of what it loads: the loads first (of no program). -/
import Derived.Test.YtmifgnibalbgjaaGreatZOwn
import Derived.OrdersHeld
import Derived.StillTail
import Derived.Deep.RegionHeld3
import Derived.Deep.RegionLaw
namespace Go.Proofs.YtmifgnibalbgjaaGreat
variable {P : Program} {ops : Array Oper} {Q : Exit → Act → World → Prop} {md : Region.Mode} {S : World → Prop} {st : Nat}
/-- whatever order comes, and till number st has come up S holds behind each step. -/
def wpTill (P : Program) (md : Region.Mode) (ops : Array Oper) (Q : Exit → Act → World → Prop) (S : World → Prop) (st : Nat) : Nat → Array Bool → Act → World → Prop
  | 0, m, a, w => Region.ready md ops m = [] ∧ Q .normal a w
  | f + 1, m, a, w => (Region.ready md ops m = [] → Q .normal a w) ∧
    ∀ i ∈ Region.ready md ops m, wpOp P ops Q i (fun a' w' => (i ≠ st → S w') ∧ wpTill P md ops Q S st f (m.setIfInBounds i true) a' w') a w
theorem till_any : ∀ (f : Nat) (m : Array Bool) (a : Act) (w : World), wpTill P md ops Q S st f m a w → wpAny P md ops Q f m a w
  | 0, _, _, _, h => h
  | f + 1, _, _, _, h => ⟨h.1, fun i hi => wpOp_mono (fun a' w' h' => till_any f _ a' w' h'.2) (h.2 i hi)⟩
/-- what came up had all that it waits for. -/
def ClosedM (md : Region.Mode) (ops : Array Oper) (m : Array Bool) : Prop :=
  ∀ j o, ops[j]? = some o → m.getD j false = true → ∀ e ∈ o.after, Region.binds md e = true → m.getD e.on false = true
theorem getD_put_true {m : Array Bool} {i j : Nat} (h : m.getD j false = true) : (m.setIfInBounds i true).getD j false = true := by
  rcases Nat.lt_or_ge j m.size with hj | hj
  · simp [hj] at h ⊢
    rw [Array.getElem_setIfInBounds]
    split
    · rfl
    · exact h
  · simp [Array.getElem?_eq_none hj] at h
theorem getD_put_back {m : Array Bool} {i j : Nat} (hne : j ≠ i) (h : (m.setIfInBounds i true).getD j false = true) : m.getD j false = true := by
  rcases Nat.lt_or_ge j m.size with hj | hj
  · simp [hj] at h ⊢
    rw [Array.getElem_setIfInBounds, if_neg (Ne.symm hne)] at h
    exact h
  · simp [hj] at h
theorem ClosedM.put {m : Array Bool} {i : Nat} (h : ClosedM md ops m) (hr : i ∈ Region.ready md ops m) : ClosedM md ops (m.setIfInBounds i true) := by
  intro j o ho hj e he hb
  by_cases hji : j = i
  · subst hji
    obtain ⟨-, o', ho', hall⟩ := mem_ready.1 hr
    rw [ho] at ho'
    cases ho'
    exact getD_put_true (hall e he hb)
  · exact getD_put_true (h j o ho (getD_put_back hji hj) e he hb)
theorem shut_none (n : Nat) : ClosedM md ops (Array.replicate n false) := by
  intro j o _ hj
  exfalso
  rcases Nat.lt_or_ge j n with h | h
  · simp [h] at hj
  · simp [h] at hj
/-- each waits for the one ahead of it. -/
def chainB (md : Region.Mode) (ops : Array Oper) : List Nat → Bool
  | x :: y :: r => Region.waitsFor md ops y x && chainB md ops (y :: r)
  | _ => true
theorem chain_ready {m : Array Bool} (hs : ClosedM md ops m) (hr : st ∈ Region.ready md ops m) : ∀ (l : List Nat) (x : Nat), chainB md ops (x :: (l ++ [st])) = true → m.getD x false = true
  | [], x, h => by
    simp only [List.nil_append, chainB, Bool.and_eq_true] at h
    obtain ⟨o, ho, e, he, hb, rfl⟩ := Region.waitsFor_spec h.1
    obtain ⟨-, o', ho', hall⟩ := mem_ready.1 hr
    rw [ho] at ho'
    cases ho'
    exact hall e he hb
  | y :: l, x, h => by
    simp only [List.cons_append, chainB, Bool.and_eq_true] at h
    have hy := chain_ready hs hr l y h.2
    obtain ⟨o, ho, e, he, hb, rfl⟩ := Region.waitsFor_spec h.1
    exact hs y o ho hy e he hb
theorem till_first {i : Nat} {oi : Oper} {v : Value} (hi : ops[i]? = some oi) (hsel : ∀ (j : Nat) (o : Oper) cs b, ops[j]? = some o → o.op ≠ .select cs b)
    (hQ : ∀ c a w, Q (.panic c) (a.put oi.dst v) w → Q (.panic c) a w) (l : List Nat) (hc : chainB md ops (i :: (l ++ [st])) = true) (hist : i ≠ st) :
    ∀ (f : Nat) (m : Array Bool) (a : Act) (w : World), ClosedM md ops m →
      (∀ j oj, ops[j]? = some oj → j ≠ i → m.getD j true = false → (∀ e ∈ oj.after, Region.binds md e = true → e.on ≠ i) → oi.apart ops oj = true) →
      i ∈ Region.ready md ops m → YieldsIf P ops S oi v a → S w →
      wpTill P md ops Q S st f (m.setIfInBounds i true) (a.put oi.dst v) w → wpTill P md ops Q S st (f + 1) m a w := by
  intro f
  induction f with
  | zero =>
    intro m a w _ _ hr hy hS H
    refine ⟨fun h => (by rw [h] at hr; cases hr), fun j hj => ?_⟩
    by_cases hji : j = i
    · subst hji
      exact hy.wpOp hi hS ⟨fun _ => hS, H⟩
    · have := ready_mono hj hji
      rw [H.1] at this
      cases this
  | succ f ih =>
    intro m a w hsh hfree hr hy hS H
    refine ⟨fun h => (by rw [h] at hr; cases hr), fun j hj => ?_⟩
    by_cases hji : j = i
    · subst hji
      exact hy.wpOp hi hS ⟨fun _ => hS, H⟩
    have hjst : j ≠ st := by
      rintro rfl
      have h1 := chain_ready hsh hj l i hc
      have h2 := (mem_ready.1 hr).1
      rcases Nat.lt_or_ge i m.size with h' | h'
      · simp [h'] at h1 h2
        rw [h1] at h2
        cases h2
      · simp [Array.getElem?_eq_none h'] at h1
    have h1 := H.2 j (ready_mono hj hji)
    obtain ⟨hjun, oj, hoj, hall⟩ := mem_ready.1 hj
    have hnot : ∀ e ∈ oj.after, Region.binds md e = true → e.on ≠ i := fun e he hb heq => by
      have h1 := hall e he hb
      have h0 := (mem_ready.1 hr).1
      rw [heq] at h1
      rcases Nat.lt_or_ge i m.size with h' | h'
      · simp [h'] at h0 h1
        rw [h0] at h1
        cases h1
      · simp [Array.getElem?_eq_none h'] at h1
    have h2 := wpOp_putIf hoj (hfree j oj hoj hji hjun hnot) (fun cs b => hsel i oi cs b hi) (fun cs b => hsel j oj cs b hoj) hQ hy h1
    have hfree' : ∀ k ok, ops[k]? = some ok → k ≠ i → (m.setIfInBounds j true).getD k true = false →
        (∀ e ∈ ok.after, Region.binds md e = true → e.on ≠ i) → oi.apart ops ok = true := fun k ok hk hki hun hno => by
      refine hfree k ok hk hki ?_ hno
      by_cases hjk : j = k
      · subst hjk; exact hjun
      · rw [getD_set_ne true hjk] at hun; exact hun
    refine wpOp_mono (fun a' w' h3 => ⟨h3.2.1, ih (m.setIfInBounds j true) a' w' (hsh.put hj) hfree' (ready_mono hr (Ne.symm hji)) h3.1 (h3.2.1 hjst) ?_⟩) h2
    rw [Array.setIfInBounds_comm _ _ hji]
    exact h3.2.2
/-- a load may be taken first: the store waits for it. -/
theorem till_take (i : Nat) (l : List Nat) {oi : Oper} {v : Value} {f : Nat} {m : Array Bool} {a : Act} {w : World} (hm : ClosedM md ops m) (hi : ops[i]? = some oi)
    (hs : Region.noSelect ops = true) (hf : Region.free md ops m i = true) (hr : (Region.ready md ops m).contains i = true) (hc : chainB md ops (i :: (l ++ [st])) = true) (hist : (i == st) = false)
    (hQ : ∀ c a w, Q (.panic c) (a.put oi.dst v) w → Q (.panic c) a w) (hy : YieldsIf P ops S oi v a) (hS : S w)
    (h : ClosedM md ops (m.setIfInBounds i true) → wpTill P md ops Q S st f (m.setIfInBounds i true) (a.put oi.dst v) w) : wpTill P md ops Q S st (f + 1) m a w :=
  till_first hi (Region.noSelect_spec hs) hQ l hc (by simpa using hist) f m a w hm (Region.free_spec hi hf) (by simpa using hr) hy hS (h (hm.put (by simpa using hr)))
/-- whichever comes up. -/
theorem till_all {rs : List Nat} {f : Nat} {m : Array Bool} {a : Act} {w : World} (hr : Region.ready md ops m = rs) (hne : rs ≠ [])
    (h : ∀ i ∈ rs, wpOp P ops Q i (fun a' w' => (i ≠ st → S w') ∧ wpTill P md ops Q S st f (m.setIfInBounds i true) a' w') a w) : wpTill P md ops Q S st (f + 1) m a w :=
  ⟨fun h0 => absurd (hr ▸ h0) hne, hr ▸ h⟩
theorem till_done {m : Array Bool} {a : Act} {w : World} (hr : Region.ready md ops m = []) (h : Q .normal a w) : ∀ f, wpTill P md ops Q S st f m a w
  | 0 => ⟨hr, h⟩
  | _ + 1 => ⟨fun _ => h, by rw [hr]; simp⟩
/-- the beginning. -/
theorem wp_region_till (S : World → Prop) (st : Nat) {id : Nat} {a : Act} {w : World} (hm : P.follows .mixedOrders = true) (hS : S w.drew)
    (h : ClosedM .any ops (Array.replicate ops.size false) → S w.drew → wpTill P .any ops Q S st ops.size (Array.replicate ops.size false) a w.drew) : (Code.region id ops true).wp P Q a w :=
  wp_region_any hm (till_any _ _ _ _ (h (shut_none _) hS))
/-- what may come up, one by one. -/
def EachTill (P : Program) (md : Region.Mode) (ops : Array Oper) (Q : Exit → Act → World → Prop) (S : World → Prop) (st f : Nat) (m : Array Bool) (a : Act) (w : World) (rs : List Nat) : Prop :=
  ∀ i ∈ rs, wpOp P ops Q i (fun a' w' => (i ≠ st → S w') ∧ wpTill P md ops Q S st f (m.setIfInBounds i true) a' w') a w
theorem EachTill.nil {f : Nat} {m : Array Bool} {a : Act} {w : World} : EachTill P md ops Q S st f m a w [] := fun _ h => nomatch h
theorem EachTill.cons {i : Nat} {o : Oper} {rs : List Nat} {f : Nat} {m : Array Bool} {a : Act} {w : World} (ho : ops[i]? = some o)
    (h : ∀ K : Act → World → Prop, (∀ a' w', (i ≠ st → S w') → wpTill P md ops Q S st f (m.setIfInBounds i true) a' w' → K a' w') →
      if Region.wanted o (yielded ops a.tmps) = true then Oper.wp P o a w K Q else K (a.put o.dst undef) w)
    (hs : EachTill P md ops Q S st f m a w rs) : EachTill P md ops Q S st f m a w (i :: rs) := fun j hj => by
  rcases List.mem_cons.1 hj with rfl | hj
  · exact wpOp_step ho (fun K' hK => h K' (fun a w hS hW => hK a w ⟨hS, hW⟩))
  · exact hs j hj
theorem till_ready {rs : List Nat} {f : Nat} {m : Array Bool} {a : Act} {w : World} (hr : Region.ready md ops m = rs) (hne : rs ≠ [])
    (h : EachTill P md ops Q S st f m a w rs) : wpTill P md ops Q S st (f + 1) m a w := till_all hr hne h
theorem op_at {i : Nat} {o : Oper} {r : List Oper} (h : ops.toList.drop i = o :: r) : ops[i]? = some o := by
  have h1 : (ops.toList.drop i)[0]? = some o := by rw [h]; rfl
  rw [List.getElem?_drop] at h1
  simpa using h1
theorem till_op (i : Nat) (l : List Nat) {oi : Oper} {r : List Oper} {v : Value} {f : Nat} {m : Array Bool} {a : Act} {w : World} (hm : ClosedM md ops m) (hi : ops.toList.drop i = oi :: r)
    (hs : Region.noSelect ops = true) (hf : Region.free md ops m i = true) (hr : (Region.ready md ops m).contains i = true) (hc : chainB md ops (i :: (l ++ [st])) = true) (hist : (i == st) = false)
    (hQ : ∀ c a w, Q (.panic c) (a.put oi.dst v) w → Q (.panic c) a w) (hy : YieldsIf P ops S oi v a) (hS : S w)
    (h : ClosedM md ops (m.setIfInBounds i true) → wpTill P md ops Q S st f (m.setIfInBounds i true) (a.put oi.dst v) w) : wpTill P md ops Q S st (f + 1) m a w :=
  till_take i l hm (op_at hi) hs hf hr hc hist hQ hy hS h
theorem EachTill.op {i : Nat} {o : Oper} {r : List Oper} {rs : List Nat} {f : Nat} {m : Array Bool} {a : Act} {w : World} (ho : ops.toList.drop i = o :: r)
    (h : ∀ K : Act → World → Prop, (∀ a' w', (i ≠ st → S w') → wpTill P md ops Q S st f (m.setIfInBounds i true) a' w' → K a' w') →
      if Region.wanted o (yielded ops a.tmps) = true then Oper.wp P o a w K Q else K (a.put o.dst undef) w)
    (hs : EachTill P md ops Q S st f m a w rs) : EachTill P md ops Q S st f m a w (i :: rs) := EachTill.cons (op_at ho) h hs
/-- one alone comes up. -/
theorem till_one (i : Nat) {o : Oper} {r : List Oper} {f : Nat} {m : Array Bool} {a : Act} {w : World} (hM : ClosedM md ops m) (ho : ops.toList.drop i = o :: r) (hr : Region.ready md ops m = [i])
    (h : ∀ K : Act → World → Prop, (∀ a' w', (i ≠ st → S w') → (ClosedM md ops (m.setIfInBounds i true) → wpTill P md ops Q S st f (m.setIfInBounds i true) a' w') → K a' w') →
      if Region.wanted o (yielded ops a.tmps) = true then Oper.wp P o a w K Q else K (a.put o.dst undef) w) : wpTill P md ops Q S st (f + 1) m a w :=
  till_ready hr (by simp) (EachTill.op ho (fun K hK => h K (fun a' w' hS hW => hK a' w' hS (hW (hM.put (by rw [hr]; simp))))) EachTill.nil)
theorem step_mapUpdateR {o : Oper} {a : Act} {w : World} {K : Act → World → Prop} {E : Prop} (hg : o.guard = none) (m x v : Operand) (t : TypeId) (hop : o.op = Op.mapUpdate t m x v) (vm vx vv : Value) (hm : a.eval m = vm) (hx : a.eval x = vx) (hv : a.eval v = vv) {w' : World}
    (hrun : (Instr.mapUpdate t vm vx vv).run P w = .ok () w') (hK : K (a.put o.dst undef) w') : if Region.wanted o (yielded ops a.tmps) = true then Oper.wp P o a w K Q else E := by
  have hw : Region.wanted o (yielded ops a.tmps) = true := by simp [Region.wanted, hg]
  rw [if_pos hw]
  unfold Oper.wp
  simp [execOp, hop, hm, hx, hv, hrun, Result.andThen]
  exact hK
theorem wpList_mapUpdateR (w : World) {rest : List Oper} {o : Oper} {a : Act}
    (hg : o.guard = none) (m x v : Operand) (t : TypeId) (hop : o.op = Op.mapUpdate t m x v) (vm vx vv : Value) (hm : a.eval m = vm) (hx : a.eval x = vx) (hv : a.eval v = vv) {w' : World}
    (hrun : (Instr.mapUpdate t vm vx vv).run P w = .ok () w') (hK : wpList P ops Q rest (a.put o.dst undef) w') : wpList P ops Q (o :: rest) a w := by
  refine wpList_plain hg fun K' hK' => ?_
  unfold Oper.wp
  simp [execOp, hop, hm, hx, hv, hrun, Result.andThen]
  exact hK' _ _ hK
theorem exec_delete (w : World) {o : Oper} {a : Act} (d s : Operand) (t t' : TypeId) (ho : o.op = .call { callee := .builtin .delete, args := #[d, s], argTypes := #[t, t'] })
    {v u : Value} (hd : a.eval d = v) (hs : a.eval s = u) {v' : Value} {w' : World} (hr : (Builtin.delete_ #[t, t'] o.type #[v, u]).run P w = .ok v' w') :
    (execOp a.eval o).run P w = .ok (.value v') w' := by
  unfold execOp
  simp only [ho, resolve, invoke, builtin, Sem.run_bind, Sem.run_pure, Result.andThen_ok, List.map_toArray, List.map_cons, List.map_nil, hd, hs, hr]
theorem step_deleteR {o : Oper} {a : Act} {w : World} {K : Act → World → Prop} {E : Prop} (hg : o.guard = none) (d s : Operand) (t t' : TypeId)
    (ho : o.op = .call { callee := .builtin .delete, args := #[d, s], argTypes := #[t, t'] }) (v u : Value) (hd : a.eval d = v) (hs : a.eval s = u) {v' : Value} {w' : World}
    (hr : (Builtin.delete_ #[t, t'] o.type #[v, u]).run P w = .ok v' w') (hK : K (a.put o.dst v') w') : if Region.wanted o (yielded ops a.tmps) = true then Oper.wp P o a w K Q else E := step_run hg (exec_delete w d s t t' ho hd hs hr) hK
end Go.Proofs.YtmifgnibalbgjaaGreat
