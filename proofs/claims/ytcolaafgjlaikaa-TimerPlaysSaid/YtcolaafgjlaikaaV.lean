/- The board as a thing in memory; what each call leaves, as a plain model tells. -/
import Derived.Test.YtcolaafgjlaikaaT
import Derived.Test.YtcolaafgjlaikaaMem
namespace Go.Proofs.Ytcolaafgjlaikaa
open Go.RowKit

theorem Row.keep {w w' : World} {E k : Nat} {a : Option Addr} {n c : Nat} {xs : List Value} (h : Row w E k a n c xs) (hk : ∀ x ∈ blkOf a, w'.heap[x]? = w.heap[x]?) : Row w' E k a n c xs := by
  rcases h.out with ⟨rfl, rfl, rfl, rfl⟩ | ⟨g, cur, rfl, hg, h1, h2, h3, h4, _⟩
  · exact Row.nil _ _ _
  · exact Row.mk ((hk g (by simp [blkOf])).trans hg) h1 h2 h3 h4
def RowA (E k : Nat) (a : Option Addr) (n c : Nat) (xs : List Value) : Asn := fun w D => D = blkOf a ∧ Row w E k a n c xs
instance {E k : Nat} {a : Option Addr} {n c : Nat} {xs : List Value} : Stable (RowA E k a n c xs) where
  lt := fun ⟨e, h⟩ x hx => by subst e; obtain ⟨y, hy, rfl⟩ := mem_blkOf.1 hx; exact h.lt y hy
  keep := fun ⟨e, h⟩ hk => ⟨e, h.keep (by subst e; exact hk)⟩
def IntsA (a : Option Addr) (c : Nat) (o : List Int) : Asn := RowA 3 1 a o.length c (ints o)
instance {a : Option Addr} {c : Nat} {o : List Int} : Stable (IntsA a c o) := inferInstanceAs (Stable (RowA _ _ _ _ _ _))

theorem Bd.keep {w w' : World} {p N : Nat} {ns : List Nd} (h : Bd w p N ns) (hk : ∀ x ∈ domB p N ns, w'.heap[x]? = w.heap[x]?) : Bd w' p N ns where
  hp := (hk _ (mem_domB.2 (.inl rfl))).trans h.hp
  hN := (hk _ (mem_domB.2 (.inr (.inl rfl)))).trans h.hN
  ne := h.ne
  row := fun i hi => (h.row i hi).keep fun x hx => hk x (mem_domB.2 (.inr (.inr ⟨i, hi, hx⟩)))
  own := h.own
  apart := h.apart
abbrev MB := List (Int × List Tm)
def BoardA (p : Nat) (m : MB) : Asn := fun w D => ∃ N ns, D = domB p N ns ∧ Bd w p N ns ∧ viewB ns = m
instance {p : Nat} {m : MB} : Stable (BoardA p m) where
  lt := fun ⟨N, ns, e, h, _⟩ x hx => by subst e; exact h.lt x hx
  keep := fun ⟨N, ns, e, h, hv⟩ hk => ⟨N, ns, e, h.keep (by subst e; exact hk), hv⟩

def nodeAt (m : MB) (i : Int) : Option (Int × List Tm) := if i < 0 then none else m[i.toNat]?
theorem nodeAt_none {m : MB} {i : Int} (h : nodeAt m i = none) : i < 0 ∨ (m.length : Int) ≤ i := by
  unfold nodeAt at h
  split at h
  · exact .inl (by assumption)
  · rw [List.getElem?_eq_none_iff] at h; exact .inr (by omega)
theorem nodeAt_some {m : MB} {i : Int} {x : Int × List Tm} (h : nodeAt m i = some x) : ∃ j : Nat, i = j ∧ ∃ hj : j < m.length, m[j] = x := by
  unfold nodeAt at h
  split at h
  · cases h
  · obtain ⟨hj, e⟩ := List.getElem?_eq_some_iff.1 h
    exact ⟨i.toNat, by omega, hj, e⟩

structure NOk (x : Int × List Tm) : Prop where
  c0 : 0 ≤ x.1
  c1 : x.1 ≤ 1099511627776
  ok : LOk x.1 (x.1 + 1099511627776) x.2
def BOk (m : MB) : Prop := ∀ x ∈ m, NOk x
theorem BOk.set {m : MB} (h : BOk m) (i : Nat) {x : Int × List Tm} (hx : NOk x) : BOk (m.set i x) := fun y hy => by
  rcases List.mem_or_eq_of_mem_set hy with h' | h'
  · exact h y h'
  · subst h'; exact hx

def mSet (m : MB) (i id after every : Int) : Int × MB :=
  if okSet id after every then (match nodeAt m i with | none => (6, m) | some x => (setE id x.2, m.set i.toNat (x.1, setL x.1 id after every x.2))) else (1, m)
def mCancel (m : MB) (i id : Int) : Int × MB := match nodeAt m i with | none => (6, m) | some x => (cancelE id x.2, m.set i.toNat (x.1, keepT id x.2))
def mCrash (m : MB) (i : Int) : Int × MB := match nodeAt m i with | none => (6, m) | some x => (0, m.set i.toNat (x.1, []))
def mNext (m : MB) (i : Int) : Int × Bool := match nodeAt m i with | none => (0, false) | some x => (match x.2 with | [] => (0, false) | t :: _ => (t.due, true))
def mClock (m : MB) (i : Int) : Int := match nodeAt m i with | none => 0 | some x => x.1
def mIds (m : MB) (i : Int) : List Int := match nodeAt m i with | none => [] | some x => x.2.map (·.id)

def drainN : Nat → Int → List Tm → List Int × List Tm
  | 0, _, l => ([], l)
  | _ + 1, _, [] => ([], [])
  | n + 1, clk, t :: r => if t.due ≤ clk then (t.id :: (drainN n clk (nextT t r)).1, (drainN n clk (nextT t r)).2) else ([], t :: r)
def drainF (clk : Int) (l : List Tm) : List Int × List Tm := drainN (leftT clk l + 1) clk l
theorem drainN_spec : ∀ (n : Nat) (clk : Int) (l : List Tm), leftT clk l < n → Drain clk l (drainN n clk l).1 (drainN n clk l).2
  | 0, _, _, h => by omega
  | _ + 1, _, [], _ => .done (by simp)
  | n + 1, clk, t :: r, h => by
    unfold drainN
    split
    · rename_i hd
      exact .step hd (drainN_spec n clk _ (by have := leftT_next clk t r hd; omega))
    · exact .done (by simp; omega)
theorem drainF_spec (clk : Int) (l : List Tm) : Drain clk l (drainF clk l).1 (drainF clk l).2 := drainN_spec _ _ _ (Nat.lt_succ_self _)
theorem drainF_eq {clk : Int} {l l' : List Tm} {o : List Int} (h : Drain clk l o l') : drainF clk l = (o, l') := by
  obtain ⟨h1, h2⟩ := h.det (drainF_spec clk l)
  rw [h1, h2]
def mSkip (m : MB) (i k : Int) : Int × List Int × MB :=
  if k < 0 ∨ 256 < k then (1, [], m) else (match nodeAt m i with
    | none => (6, [], m)
    | some x => if 1099511627776 < x.1 + k then (7, [], m) else (0, (drainF (x.1 + k) x.2).1, m.set i.toNat (x.1 + k, (drainF (x.1 + k) x.2).2)))

theorem setL_ok {clk id after every : Int} {l : List Tm} (h : LOk clk (clk + 1099511627776) l) (hb : okSet id after every = true) : LOk clk (clk + 1099511627776) (setL clk id after every l) := by
  obtain ⟨h1, h2, h3, h4, h5⟩ := of_decide_eq_true hb
  have hk : LOk clk (clk + 1099511627776) (keepT id l) := h.filter _
  unfold setL
  cases hf : fullT id l with
  | true => exact hk
  | false =>
    have hl : (keepT id l).length < 64 := by
      have := h.len
      have := keepT_len id l
      unfold fullT at hf
      simp only [Bool.and_eq_false_iff, decide_eq_false_iff_not] at hf
      omega
    refine hk.ins (fun x hx => ?_) hl (by simp only; omega)
    simpa using (List.mem_filter.1 hx).2
theorem NOk.set {x : Int × List Tm} (h : NOk x) {id after every : Int} (hb : okSet id after every = true) : NOk (x.1, setL x.1 id after every x.2) := ⟨h.c0, h.c1, setL_ok h.ok hb⟩
theorem NOk.skip {x : Int × List Tm} (h : NOk x) {k : Int} (h0 : 0 ≤ k) (h1 : x.1 + k ≤ 1099511627776) : NOk (x.1 + k, (drainF (x.1 + k) x.2).2) :=
  ⟨by have := h.c0; simp only; omega, h1, (drainF_spec _ _).after (lo := x.1) (h.ok.mono (by omega) (by omega)) (by omega)⟩
theorem nodeAt_mem {m : MB} {i : Int} {x : Int × List Tm} (h : nodeAt m i = some x) : x ∈ m := by
  obtain ⟨j, _, hj, e⟩ := nodeAt_some h
  subst e; exact List.getElem_mem _
theorem mSet_ok {m : MB} (h : BOk m) (i id after every : Int) : BOk (mSet m i id after every).2 := by
  unfold mSet
  split
  · cases hn : nodeAt m i with
    | none => exact h
    | some x => exact h.set _ ((h x (nodeAt_mem hn)).set (by assumption))
  · exact h
theorem mCancel_ok {m : MB} (h : BOk m) (i id : Int) : BOk (mCancel m i id).2 := by
  unfold mCancel
  cases hn : nodeAt m i with
  | none => exact h
  | some x => have := h x (nodeAt_mem hn); exact h.set _ ⟨this.c0, this.c1, this.ok.filter _⟩
theorem mCrash_ok {m : MB} (h : BOk m) (i : Int) : BOk (mCrash m i).2 := by
  unfold mCrash
  cases hn : nodeAt m i with
  | none => exact h
  | some x => have := h x (nodeAt_mem hn); exact h.set _ ⟨this.c0, this.c1, LOk.nil _ _⟩
theorem mSkip_ok {m : MB} (h : BOk m) (i k : Int) : BOk (mSkip m i k).2.2 := by
  unfold mSkip
  split
  · exact h
  · rename_i hk
    cases hn : nodeAt m i with
    | none => exact h
    | some x =>
      simp only
      split
      · exact h
      · rename_i hc
        exact h.set _ ((h x (nodeAt_mem hn)).skip (by omega) (by omega))

/-- an ending, and the board behind it. -/
def ToB (p : Nat) (e0 : Ending) (m' : MB) (e : Ending) (As : List Asn) : Prop := e = e0 ∧ As = [BoardA p m']
theorem toB_same {w : World} {D : List Nat} {p : Nat} {m : MB} (h : BoardA p m w D) {e0 e : Ending} {w' : World} (k : e = e0 ∧ w = w') : ∃ As D', ToB p e0 m e As ∧ All As w' D' ∧ Step w D w' D' := by
  obtain ⟨rfl, rfl⟩ := k
  exact ⟨_, D, ⟨rfl, rfl⟩, all_one h, Touch.refl _ _, fun x hx => .inl hx⟩
theorem toB_post {w w' : World} {p N : Nat} {ns : List Nd} {e0 e : Ending} {m' : MB} (k : BPost w p N ns e0 m' e w') : ∃ As D', ToB p e0 m' e As ∧ All As w' D' ∧ Step w (domB p N ns) w' D' := by
  obtain ⟨rfl, ns', hto, hv⟩ := k
  exact ⟨_, _, ⟨rfl, rfl⟩, all_one ⟨N, ns', rfl, hto.bd, hv⟩, hto.touch, hto.fresh⟩
theorem view_len (ns : List Nd) : (viewB ns).length = ns.length := by simp [viewB]
theorem view_get {ns : List Nd} {j : Nat} (hj : j < (viewB ns).length) : ∃ h : j < ns.length, (viewB ns)[j].1 = ns[j].clk ∧ (viewB ns)[j].2 = ns[j].l := by
  have : j < ns.length := by simpa [viewB] using hj
  exact ⟨this, by simp [viewB], by simp [viewB]⟩

theorem bd_set (p : Nat) (m : MB) (hok : BOk m) (i id after every : Int) (w : World) (D : List Nat) (h : BoardA p m w D) :
    Calls Try.prog 8 #[.pointer (some ⟨p, 0, none⟩), .int .i64 i, .int .i64 id, .int .i64 after, .int .i64 every] w fun e w' => ∃ As D', ToB p (.returned (.int .i64 (mSet m i id after every).1)) (mSet m i id after every).2 e As ∧ All As w' D' ∧ Step w D w' D' := by
  have h' := h
  obtain ⟨N, ns, rfl, hb, rfl⟩ := h
  unfold mSet
  cases hs : okSet id after every with
  | false => exact (pt_set_bad p i id after every hs w).mono fun e w' k => toB_same h' k
  | true =>
    cases hn : nodeAt (viewB ns) i with
    | none => exact (pt_set_out p N ns i id after every hs (by have := nodeAt_none hn; rwa [view_len] at this) w hb).mono fun e w' k => toB_same h' k
    | some x =>
      obtain ⟨j, rfl, hj, e⟩ := nodeAt_some hn
      have hx := hok x (nodeAt_mem hn)
      obtain ⟨hj', e1, e2⟩ := view_get hj
      rw [e] at e1 e2
      simp only [if_true]
      obtain ⟨x1, x2⟩ := x
      simp only at e1 e2 hx ⊢
      have hc0 := hx.c0
      have hc1 := hx.c1
      have hll := hx.ok
      simp only at hc0 hc1 hll
      subst e1 e2
      exact (pt_set p N ns j hj' id after every hs w hb hll.srt (by have := hll.len; omega) hc0 hc1).mono fun e w' k => toB_post k
theorem bd_cancel (p : Nat) (m : MB) (hok : BOk m) (i id : Int) (w : World) (D : List Nat) (h : BoardA p m w D) :
    Calls Try.prog 10 #[.pointer (some ⟨p, 0, none⟩), .int .i64 i, .int .i64 id] w fun e w' => ∃ As D', ToB p (.returned (.int .i64 (mCancel m i id).1)) (mCancel m i id).2 e As ∧ All As w' D' ∧ Step w D w' D' := by
  have h' := h
  obtain ⟨N, ns, rfl, hb, rfl⟩ := h
  unfold mCancel
  cases hn : nodeAt (viewB ns) i with
  | none => exact (pt_cancel_out p N ns i id (by have := nodeAt_none hn; rwa [view_len] at this) w hb).mono fun e w' k => toB_same h' k
  | some x =>
    obtain ⟨j, rfl, hj, e⟩ := nodeAt_some hn
    have hx := hok x (nodeAt_mem hn)
    obtain ⟨hj', e1, e2⟩ := view_get hj
    rw [e] at e1 e2
    simp only
    rw [e1, e2]
    exact (pt_cancel p N ns j hj' id w hb (by have := hx.ok.len; rw [e2] at this; omega)).mono fun e w' k => toB_post k
theorem bd_crash (p : Nat) (m : MB) (i : Int) (w : World) (D : List Nat) (h : BoardA p m w D) :
    Calls Try.prog 16 #[.pointer (some ⟨p, 0, none⟩), .int .i64 i] w fun e w' => ∃ As D', ToB p (.returned (.int .i64 (mCrash m i).1)) (mCrash m i).2 e As ∧ All As w' D' ∧ Step w D w' D' := by
  have h' := h
  obtain ⟨N, ns, rfl, hb, rfl⟩ := h
  unfold mCrash
  cases hn : nodeAt (viewB ns) i with
  | none => exact (pt_crash_out p N ns i (by have := nodeAt_none hn; rwa [view_len] at this) w hb).mono fun e w' k => toB_same h' k
  | some x =>
    obtain ⟨j, rfl, hj, e⟩ := nodeAt_some hn
    obtain ⟨hj', e1, e2⟩ := view_get hj
    rw [e] at e1 e2
    simp only
    rw [e1]
    exact (pt_crash p N ns j hj' w hb).mono fun e w' k => toB_post k
theorem bd_next (p : Nat) (m : MB) (i : Int) (w : World) (D : List Nat) (h : BoardA p m w D) :
    Calls Try.prog 18 #[.pointer (some ⟨p, 0, none⟩), .int .i64 i] w fun e w' => e = .returned (.tuple #[.int .i64 (mNext m i).1, .bool (mNext m i).2]) ∧ w = w' := by
  obtain ⟨N, ns, rfl, hb, rfl⟩ := h
  unfold mNext
  cases hn : nodeAt (viewB ns) i with
  | none => exact pt_next_out p N ns i (by have := nodeAt_none hn; rwa [view_len] at this) w hb
  | some x =>
    obtain ⟨j, rfl, hj, e⟩ := nodeAt_some hn
    obtain ⟨hj', e1, e2⟩ := view_get hj
    rw [e] at e1 e2
    simp only
    cases hx : x.2 with
    | nil => exact pt_next_nil p N ns j hj' (by rw [← e2, hx]) w hb
    | cons t r => exact pt_next p N ns j hj' t r (by rw [← e2, hx]) w hb
theorem bd_clock (p : Nat) (m : MB) (i : Int) (w : World) (D : List Nat) (h : BoardA p m w D) :
    Calls Try.prog 22 #[.pointer (some ⟨p, 0, none⟩), .int .i64 i] w fun e w' => e = .returned (.int .i64 (mClock m i)) ∧ w = w' := by
  obtain ⟨N, ns, rfl, hb, rfl⟩ := h
  unfold mClock
  cases hn : nodeAt (viewB ns) i with
  | none => exact pt_clock_out p N ns i (by have := nodeAt_none hn; rwa [view_len] at this) w hb
  | some x =>
    obtain ⟨j, rfl, hj, e⟩ := nodeAt_some hn
    obtain ⟨hj', e1, e2⟩ := view_get hj
    rw [e] at e1 e2
    simp only
    rw [e1]
    exact pt_clock p N ns j hj' w hb

/-- a slice of ints, an errno, and the board behind it. -/
def ToBI (p : Nat) (er : Int) (o : List Int) (m' : MB) (e : Ending) (As : List Asn) : Prop := ∃ a c, e = .returned (.tuple #[.slice a o.length c, .int .i64 er]) ∧ As = [BoardA p m', IntsA a c o]
theorem toBI_same {w : World} {D : List Nat} {p : Nat} {m : MB} (h : BoardA p m w D) {er : Int} {e : Ending} {w' : World} (k : e = .returned (.tuple #[.slice none 0 0, .int .i64 er]) ∧ w = w') : ∃ As D', ToBI p er [] m e As ∧ All As w' D' ∧ Step w D w' D' := by
  obtain ⟨rfl, rfl⟩ := k
  refine ⟨_, D ++ [], ⟨none, 0, rfl, rfl⟩, all_two h ⟨rfl, Row.nil _ _ _⟩ (fun _ _ h => by cases h), Touch.refl _ _, fun x hx => .inl (by simpa using hx)⟩
theorem toBI_post {w w' : World} {p N : Nat} {ns : List Nd} {o : List Int} {e : Ending} {m' : MB} (k : SkipPost w p N ns o m' e w') : ∃ As D', ToBI p 0 o m' e As ∧ All As w' D' ∧ Step w (domB p N ns) w' D' := by
  obtain ⟨a, c, ns', rfl, hrow, hto, hv, hap⟩ := k
  refine ⟨_, _, ⟨a, c, rfl, rfl⟩, all_two ⟨N, ns', rfl, hto.bd, hv⟩ ⟨rfl, hrow⟩ (fun x hx hm => (hap x hm).2 hx), hto.touch, fun x hx => ?_⟩
  rcases List.mem_append.1 hx with h | h
  · exact hto.fresh x h
  · exact .inr (hap x h).1
theorem bd_skip (p : Nat) (m : MB) (hok : BOk m) (i k : Int) (w : World) (D : List Nat) (h : BoardA p m w D) :
    Calls Try.prog 15 #[.pointer (some ⟨p, 0, none⟩), .int .i64 i, .int .i64 k] w fun e w' => ∃ As D', ToBI p (mSkip m i k).1 (mSkip m i k).2.1 (mSkip m i k).2.2 e As ∧ All As w' D' ∧ Step w D w' D' := by
  have h' := h
  obtain ⟨N, ns, rfl, hb, rfl⟩ := h
  unfold mSkip
  by_cases hk : k < 0 ∨ 256 < k
  · simp only [if_pos hk]
    exact (pt_skip_bad p i k hk w).mono fun e w' k => toBI_same h' k
  · simp only [if_neg hk]
    cases hn : nodeAt (viewB ns) i with
    | none => exact (pt_skip_out p N ns i k (by omega) (by omega) (by have := nodeAt_none hn; rwa [view_len] at this) w hb).mono fun e w' k => toBI_same h' k
    | some x =>
      obtain ⟨j, rfl, hj, e⟩ := nodeAt_some hn
      have hx := hok x (nodeAt_mem hn)
      obtain ⟨hj', e1, e2⟩ := view_get hj
      rw [e] at e1 e2
      simp only
      obtain ⟨x1, x2⟩ := x
      simp only at e1 e2 hx ⊢
      have hc0 := hx.c0
      have hc1 := hx.c1
      have hll := hx.ok
      simp only at hc0 hc1 hll
      subst e1 e2
      by_cases hc : 1099511627776 < ns[j].clk + k
      · simp only [if_pos hc]
        exact (pt_skip_full p N ns j hj' k (by omega) (by omega) w hb hc0 hc1 hc).mono fun e w' k => toBI_same h' k
      · simp only [if_neg hc]
        exact (pt_skip p N ns j hj' k w hb (by omega) (by omega) (ns[j].clk + k + 1099511627776) (hll.mono (by omega) (by omega)) hc0 (by omega) (by omega) (by omega) _ _ (drainF_spec _ _)).mono fun e w' k => toBI_post k

end Go.Proofs.Ytcolaafgjlaikaa
