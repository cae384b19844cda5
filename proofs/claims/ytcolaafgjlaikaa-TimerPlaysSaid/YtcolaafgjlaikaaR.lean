/- The plain law of the drain (no program in sight). -/
import Derived.Test.YtcolaafgjlaikaaQ
namespace Go.Proofs.Ytcolaafgjlaikaa
open Go.RowKit

/-- what stays when the first timer t has come. -/
def nextT (t : Tm) (r : List Tm) : List Tm := if 0 < t.every then insT r ⟨t.id, t.due + t.every, t.every⟩ else r

/-- at clk, l brings out and leaves l'. -/
inductive Drain (clk : Int) : List Tm → List Int → List Tm → Prop
  | done {l : List Tm} (h : ∀ t ∈ l.head?, clk < t.due) : Drain clk l [] l
  | step {t : Tm} {r l' : List Tm} {out : List Int} (h : t.due ≤ clk) (k : Drain clk (nextT t r) out l') : Drain clk (t :: r) (t.id :: out) l'

/-- how much is left to come. -/
def leftT (clk : Int) (l : List Tm) : Nat := (l.map fun t => (clk + 1 - t.due).toNat).sum
theorem leftT_ins (clk : Int) (l : List Tm) (t : Tm) : leftT clk (insT l t) = leftT clk l + (clk + 1 - t.due).toNat := by
  induction l with
  | nil => simp [insT, leftT]
  | cons x r ih =>
    unfold insT
    split
    · simp only [leftT, List.map_cons, List.sum_cons] at ih ⊢; omega
    · simp only [leftT, List.map_cons, List.sum_cons]; omega
theorem leftT_next (clk : Int) (t : Tm) (r : List Tm) (h : t.due ≤ clk) : leftT clk (nextT t r) < leftT clk (t :: r) := by
  have hc : leftT clk (t :: r) = (clk + 1 - t.due).toNat + leftT clk r := by simp [leftT]
  unfold nextT
  split
  · rw [leftT_ins, hc]; simp only; omega
  · omega
theorem Drain.det {clk : Int} {l l1 l2 : List Tm} {o1 o2 : List Int} (h : Drain clk l o1 l1) (k : Drain clk l o2 l2) : o1 = o2 ∧ l1 = l2 := by
  induction h generalizing o2 l2 with
  | done h =>
    cases k with
    | done => exact ⟨rfl, rfl⟩
    | step h' => exact absurd (h _ rfl) (by omega)
  | step h _ ih =>
    cases k with
    | done h' => exact absurd (h' _ rfl) (by omega)
    | step _ k => obtain ⟨rfl, rfl⟩ := ih k; exact ⟨rfl, rfl⟩
theorem Drain.total (clk : Int) : ∀ (n : Nat) (l : List Tm), leftT clk l ≤ n → ∃ o l', Drain clk l o l' ∧ o.length ≤ leftT clk l
  | n, [], _ => ⟨[], [], .done (by simp), Nat.zero_le _⟩
  | n, t :: r, h => by
    by_cases hd : t.due ≤ clk
    · have hl := leftT_next clk t r hd
      match n, h with
      | 0, h => omega
      | n + 1, h =>
        obtain ⟨o, l', k, hk⟩ := Drain.total clk n (nextT t r) (by omega)
        exact ⟨_, _, .step hd k, by simp only [List.length_cons]; omega⟩
    · exact ⟨[], _, .done (by simp; omega), Nat.zero_le _⟩
theorem Drain.trans {c1 c2 : Int} (hc : c1 ≤ c2) {l l1 l2 : List Tm} {o1 o2 : List Int} (h : Drain c1 l o1 l1) (k : Drain c2 l1 o2 l2) : Drain c2 l (o1 ++ o2) l2 := by
  induction h with
  | done _ => exact k
  | step h _ ih => exact .step (by omega) (ih k)

/-- a node's list: by when they are due, then by number; between lo and hi. -/
structure LOk (lo hi : Int) (l : List Tm) : Prop where
  srt : SortedT l
  nd : (l.map (·.id)).Nodup
  len : l.length ≤ 64
  rng : ∀ t ∈ l, lo < t.due ∧ t.due ≤ hi ∧ 0 ≤ t.every ∧ t.every ≤ 1099511627776 ∧ 0 ≤ t.id
theorem LOk.mono {lo hi lo' hi' : Int} {l : List Tm} (h : LOk lo hi l) (h1 : lo' ≤ lo) (h2 : hi ≤ hi') : LOk lo' hi' l :=
  ⟨h.srt, h.nd, h.len, fun t ht => by have := h.rng t ht; omega⟩
theorem LOk.nil (lo hi : Int) : LOk lo hi [] := ⟨List.Pairwise.nil, List.nodup_nil, Nat.zero_le _, fun _ h => by cases h⟩
theorem insT_ids (l : List Tm) (t : Tm) : ((insT l t).map (·.id)).Perm (t.id :: l.map (·.id)) := by
  induction l with
  | nil => exact List.Perm.refl _
  | cons x r ih =>
    unfold insT
    split
    · exact (List.Perm.cons _ ih).trans (List.Perm.swap _ _ _)
    · exact List.Perm.refl _
theorem insT_perm (l : List Tm) (t : Tm) : (insT l t).Perm (t :: l) := by
  induction l with
  | nil => exact List.Perm.refl _
  | cons x r ih =>
    unfold insT
    split
    · exact (List.Perm.cons _ ih).trans (List.Perm.swap _ _ _)
    · exact List.Perm.refl _
theorem LOk.ins {lo hi : Int} {l : List Tm} {t : Tm} (h : LOk lo hi l) (hid : ∀ x ∈ l, x.id ≠ t.id) (hl : l.length < 64) (ht : lo < t.due ∧ t.due ≤ hi ∧ 0 ≤ t.every ∧ t.every ≤ 1099511627776 ∧ 0 ≤ t.id) : LOk lo hi (insT l t) :=
  ⟨insT_sorted h.srt hid, (insT_ids l t).nodup_iff.2 (List.nodup_cons.2 ⟨fun hm => by obtain ⟨x, hx, e⟩ := List.mem_map.1 hm; exact hid x hx e, h.nd⟩), by rw [insT_len]; omega,
    fun x hx => by rcases mem_insT.1 hx with rfl | hx; exact ht; exact h.rng x hx⟩
theorem LOk.tail {lo hi : Int} {t : Tm} {r : List Tm} (h : LOk lo hi (t :: r)) : LOk lo hi r ∧ ∀ x ∈ r, x.id ≠ t.id :=
  ⟨⟨(List.pairwise_cons.1 h.srt).2, by have := h.nd; simp only [List.map_cons, List.nodup_cons] at this; exact this.2, by have := h.len; simp at this; omega, fun x hx => h.rng x (List.mem_cons_of_mem _ hx)⟩,
    fun x hx e => by have := h.nd; simp only [List.map_cons, List.nodup_cons] at this; exact this.1 (e ▸ List.mem_map_of_mem hx)⟩
theorem LOk.next {lo hi clk : Int} {t : Tm} {r : List Tm} (h : LOk lo hi (t :: r)) (hd : t.due ≤ clk) (hh : clk + 1099511627776 ≤ hi) : LOk lo hi (nextT t r) := by
  obtain ⟨h1, h2⟩ := h.tail
  have h3 := h.rng t (List.mem_cons_self ..)
  unfold nextT
  split
  · rename_i he
    exact h1.ins h2 (by have := h.len; simp at this; omega) (by simp only; omega)
  · exact h1
theorem LOk.filter {lo hi : Int} {l : List Tm} (h : LOk lo hi l) (p : Tm → Bool) : LOk lo hi (l.filter p) :=
  ⟨List.Pairwise.sublist List.filter_sublist h.srt, h.nd.sublist (List.filter_sublist.map _), Nat.le_trans (List.length_filter_le _ _) h.len, fun t ht => h.rng t (List.mem_filter.1 ht).1⟩
theorem Drain.ok {lo hi clk : Int} {l l' : List Tm} {o : List Int} (k : Drain clk l o l') (h : LOk lo hi l) (hh : clk + 1099511627776 ≤ hi) : LOk lo hi l' := by
  induction k with
  | done _ => exact h
  | step hd _ ih => exact ih (h.next hd hh)
theorem Drain.late {clk : Int} {l l' : List Tm} {o : List Int} (k : Drain clk l o l') : ∀ t ∈ l'.head?, clk < t.due := by
  induction k with
  | done h => exact h
  | step _ _ ih => exact ih
theorem sorted_late {clk : Int} {l : List Tm} (hs : SortedT l) (h : ∀ t ∈ l.head?, clk < t.due) : ∀ t ∈ l, clk < t.due := by
  cases l with
  | nil => intro t ht; cases ht
  | cons x r =>
    intro t ht
    have h0 := h x rfl
    rcases List.mem_cons.1 ht with rfl | ht
    · exact h0
    · have := (List.pairwise_cons.1 hs).1 t ht
      unfold ltT at this; omega
/-- behind a drain. -/
theorem Drain.after {lo hi clk : Int} {l l' : List Tm} {o : List Int} (k : Drain clk l o l') (h : LOk lo hi l) (hh : clk + 1099511627776 ≤ hi) : LOk clk hi l' := by
  have := k.ok h hh
  exact ⟨this.srt, this.nd, this.len, fun t ht => by have h1 := this.rng t ht; have h2 := sorted_late this.srt k.late t ht; omega⟩
theorem leftT_le {lo clk : Int} {l : List Tm} (n : Nat) (hn : clk - lo ≤ n) (h : ∀ t ∈ l, lo < t.due) : leftT clk l ≤ l.length * n := by
  induction l with
  | nil => simp [leftT]
  | cons x r ih =>
    have h1 := ih fun t ht => h t (List.mem_cons_of_mem _ ht)
    have h2 := h x (List.mem_cons_self ..)
    simp only [leftT, List.map_cons, List.sum_cons, List.length_cons, Nat.add_mul] at h1 ⊢
    omega

end Go.Proofs.Ytcolaafgjlaikaa
