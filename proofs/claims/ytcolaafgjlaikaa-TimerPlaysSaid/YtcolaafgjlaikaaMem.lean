/- Things in memory, side by side (of no program): each has blocks of its own; what turns one leaves the others. -/
import Derived.Test.YtcolaafgjlaikaaOwn
namespace Go.Proofs.Ytcolaafgjlaikaa
open Go.RowKit

/-- A thing: what the world says of it, and its blocks. -/
abbrev Asn := World → List Nat → Prop
/-- It is there, and stays where its blocks do. -/
class Stable (A : Asn) : Prop where
  lt : ∀ {w D}, A w D → ∀ x ∈ D, x < w.heap.size
  keep : ∀ {w w' D}, A w D → (∀ x ∈ D, w'.heap[x]? = w.heap[x]?) → A w' D
/-- From w to w' the blocks D alone turned; what was D is D' now. -/
structure Step (w : World) (D : List Nat) (w' : World) (D' : List Nat) : Prop where
  touch : Touch D w w'
  fresh : ∀ x ∈ D', x ∈ D ∨ w.heap.size ≤ x
theorem Step.trans {w1 w2 w3 : World} {D1 D2 D3 : List Nat} (h : Step w1 D1 w2 D2) (k : Step w2 D2 w3 D3) : Step w1 D1 w3 D3 :=
  ⟨h.touch.trans k.touch h.fresh, fun x hx => by
    rcases k.fresh x hx with h' | h'
    · exact h.fresh x h'
    · exact .inr (Nat.le_trans h.touch.size h')⟩
theorem Step.of_below {w w' : World} (h : Below w.heap.size w w') (D : List Nat) : Step w D w' D := ⟨Touch.of_below h D, fun _ hx => .inl hx⟩
theorem Step.keep {w w' : World} {D D' : List Nat} (h : Step w D w' D') {A : Asn} [sA : Stable A] {E : List Nat} (hA : A w E) (hd : ∀ x ∈ E, x ∉ D) : A w' E ∧ ∀ x ∈ E, x ∉ D' :=
  ⟨sA.keep hA fun x hx => h.touch.block x (sA.lt hA x hx) (hd x hx), fun x hx hm => by
    rcases h.fresh x hm with h' | h'
    · exact hd x hx h'
    · have := sA.lt hA x hx; omega⟩

/-- Things side by side. -/
def All : List Asn → Asn
  | [] => fun _ D => D = []
  | A :: r => fun w D => ∃ D1 D2, D = D1 ++ D2 ∧ (∀ x ∈ D1, x ∉ D2) ∧ A w D1 ∧ All r w D2
class Stables (l : List Asn) : Prop where
  all : ∀ A ∈ l, Stable A
instance : Stables [] := ⟨fun _ h => by cases h⟩
instance {A : Asn} {r : List Asn} [sA : Stable A] [sr : Stables r] : Stables (A :: r) := ⟨fun B hB => by
  rcases List.mem_cons.1 hB with rfl | h
  · exact sA
  · exact sr.all B h⟩
theorem all_stable : ∀ (l : List Asn) (_ : ∀ A ∈ l, Stable A), Stable (All l)
  | [], _ => ⟨fun h x hx => (by rw [show _ = [] from h] at hx; cases hx), fun h _ => h⟩
  | A :: r, h => by
    have sA := h A (List.mem_cons_self ..)
    have sr := all_stable r fun B hB => h B (List.mem_cons_of_mem _ hB)
    refine ⟨fun {w D} ⟨D1, D2, e, hd, h1, h2⟩ x hx => ?_, fun {w w' D} ⟨D1, D2, e, hd, h1, h2⟩ hk => ?_⟩
    · subst e
      rcases List.mem_append.1 hx with h' | h'
      · exact sA.lt h1 x h'
      · exact sr.lt h2 x h'
    · subst e
      exact ⟨D1, D2, rfl, hd, sA.keep h1 fun x hx => hk x (List.mem_append_left _ hx), sr.keep h2 fun x hx => hk x (List.mem_append_right _ hx)⟩
instance allStable {l : List Asn} [h : Stables l] : Stable (All l) := all_stable l h.all
theorem all_append : ∀ (l r : List Asn) {w : World} {D : List Nat}, All (l ++ r) w D → ∃ D1 D2, D = D1 ++ D2 ∧ (∀ x ∈ D1, x ∉ D2) ∧ All l w D1 ∧ All r w D2
  | [], r, w, D, h => ⟨[], D, rfl, fun _ hx => (by cases hx), rfl, h⟩
  | A :: l, r, w, D, ⟨E1, E2, e, hd, h1, h2⟩ => by
    obtain ⟨F1, F2, rfl, hd2, k1, k2⟩ := all_append l r h2
    subst e
    refine ⟨E1 ++ F1, F2, by simp, fun x hx => ?_, ⟨E1, F1, rfl, fun x hx hm => hd x hx (List.mem_append_left _ hm), h1, k1⟩, k2⟩
    rcases List.mem_append.1 hx with h' | h'
    · exact fun hm => hd x h' (List.mem_append_right _ hm)
    · exact hd2 x h'
theorem all_mk : ∀ {l r : List Asn} {w : World} {D1 D2 : List Nat}, All l w D1 → All r w D2 → (∀ x ∈ D1, x ∉ D2) → All (l ++ r) w (D1 ++ D2)
  | [], r, w, D1, D2, h1, h2, _ => by rw [show D1 = [] from h1]; exact h2
  | A :: l, r, w, D1, D2, ⟨E1, E2, e, hd, k1, k2⟩, h2, h3 => by
    subst e
    rw [List.append_assoc]
    refine ⟨E1, E2 ++ D2, rfl, fun x hx hm => ?_, k1, all_mk k2 h2 fun x hx => h3 x (List.mem_append_right _ hx)⟩
    rcases List.mem_append.1 hm with h' | h'
    · exact hd x hx h'
    · exact h3 x (List.mem_append_left _ hx) h'
theorem all_one {A : Asn} {w : World} {D : List Nat} (h : A w D) : All [A] w D := ⟨D, [], by simp, fun _ _ hm => (by cases hm), h, rfl⟩
theorem all_two {A B : Asn} {w : World} {D E : List Nat} (h : A w D) (k : B w E) (hd : ∀ x ∈ D, x ∉ E) : All [A, B] w (D ++ E) := ⟨D, E, rfl, hd, h, all_one k⟩

/-- Since w0 just new things were made: these. -/
structure Mem (w0 w : World) (l : List Asn) : Prop where
  out : ∃ D, All l w D ∧ (∀ x ∈ D, w0.heap.size ≤ x) ∧ Below w0.heap.size w0 w

theorem Mem.nil (w : World) : Mem w w [] := ⟨[], rfl, fun _ h => (by cases h), Below.refl _ _⟩
theorem Mem.bel {w0 w : World} {l : List Asn} (h : Mem w0 w l) : Below w0.heap.size w0 w := by obtain ⟨D, _, _, h⟩ := h.out; exact h
theorem Mem.focus {w0 w : World} (l : List Asn) {A : Asn} {r : List Asn} [Stable A] [Stables l] [Stables r] (h : Mem w0 w (l ++ A :: r)) :
    ∃ D, A w D ∧ ∀ (As : List Asn) w' D', All As w' D' → Step w D w' D' → Mem w0 w' (l ++ (As ++ r)) := by
  obtain ⟨D, hA, hD, hb⟩ := h.out
  obtain ⟨D1, D2, rfl, hd, h1, E1, E2, rfl, he, h2, h3⟩ := all_append l (A :: r) hA
  refine ⟨E1, h2, fun As w' D' hAs hst => ?_⟩
  have hd1 : ∀ x ∈ D1, x ∉ E1 := fun x hx hm => hd x hx (List.mem_append_left _ hm)
  have hd2 : ∀ x ∈ D1, x ∉ E2 := fun x hx hm => hd x hx (List.mem_append_right _ hm)
  have he' : ∀ x ∈ E2, x ∉ E1 := fun x hx hm => he x hm hx
  obtain ⟨k1, k1'⟩ := hst.keep h1 hd1
  obtain ⟨k3, k3'⟩ := hst.keep h3 he'
  refine ⟨D1 ++ (D' ++ E2), all_mk k1 (all_mk hAs k3 fun x hx hm => k3' x hm hx) fun x hx hm => ?_, fun x hx => ?_, ?_⟩
  · rcases List.mem_append.1 hm with h' | h'
    · exact k1' x hx h'
    · exact hd2 x hx h'
  · rcases List.mem_append.1 hx with h' | h'
    · exact hD x (List.mem_append_left _ h')
    · rcases List.mem_append.1 h' with h' | h'
      · rcases hst.fresh x h' with h'' | h''
        · exact hD x (List.mem_append_right _ (List.mem_append_left _ h''))
        · have := hb.size; omega
      · exact hD x (List.mem_append_right _ (List.mem_append_right _ h'))
  · have ht : Touch (E1) w w' := hst.touch
    have := (Touch.of_below hb []).trans (ht.mono (cs := E1) fun x hx => .inl hx) (fun x hx => .inr (hD x (List.mem_append_right _ (List.mem_append_left _ hx))))
    exact this.keep
theorem Mem.below {w0 w w' : World} {l : List Asn} [Stables l] (h : Mem w0 w l) (b : Below w.heap.size w w') : Mem w0 w' l := by
  obtain ⟨D, hA, hD, hb⟩ := h.out
  exact ⟨D, ((Step.of_below b []).keep hA (by simp)).1, hD, hb.trans (b.mono hb.size)⟩
theorem Mem.new {w0 w w' : World} {l : List Asn} [Stables l] (h : Mem w0 w l) (b : Below w.heap.size w w') {As : List Asn} {D' : List Nat} (hAs : All As w' D') (hD' : ∀ x ∈ D', w.heap.size ≤ x) : Mem w0 w' (As ++ l) := by
  obtain ⟨D, hA, hD, hb⟩ := h.out
  refine ⟨D' ++ D, all_mk hAs ((Step.of_below b []).keep hA (by simp)).1 fun x hx hm => ?_, fun x hx => ?_, hb.trans (b.mono hb.size)⟩
  · have := hD' x hx
    have := (allStable (l := l)).lt hA x hm
    omega
  · rcases List.mem_append.1 hx with h' | h'
    · have := hD' x h'; have := hb.size; omega
    · exact hD x h'
theorem Mem.drop {w0 w : World} (l : List Asn) {A : Asn} {r : List Asn} [Stable A] [Stables l] [Stables r] (h : Mem w0 w (l ++ A :: r)) : Mem w0 w (l ++ r) := by
  obtain ⟨D, _, k⟩ := h.focus l
  exact k [] w [] rfl ⟨Touch.refl _ _, fun _ h => by cases h⟩
theorem Mem.swap {w0 w : World} (l : List Asn) {A B : Asn} {r : List Asn} (h : Mem w0 w (l ++ A :: B :: r)) : Mem w0 w (l ++ B :: A :: r) := by
  obtain ⟨D, hA, hD, hb⟩ := h.out
  obtain ⟨D1, D2, rfl, hd, h1, E1, F, rfl, he, h2, E2, E3, rfl, hf, h3, h4⟩ := all_append l (A :: B :: r) hA
  refine ⟨D1 ++ (E2 ++ (E1 ++ E3)), all_mk h1 ⟨E2, E1 ++ E3, rfl, fun x hx hm => ?_, h3, E1, E3, rfl, fun x hx hm => he x hx (List.mem_append_right _ hm), h2, h4⟩ fun x hx hm => hd x hx ?_, fun x hx => hD x ?_, hb⟩
  · rcases List.mem_append.1 hm with h' | h'
    · exact he x h' (List.mem_append_left _ hx)
    · exact hf x hx h'
  · simp only [List.mem_append] at hm ⊢
    rcases hm with h' | h' | h' <;> simp [h']
  · simp only [List.mem_append] at hx ⊢
    rcases hx with h' | h' | h' | h' <;> simp [h']
/-- what a call leaves of a thing: an ending, and things. -/
def Leaves (w : World) (D : List Nat) (e0 : Ending) (As : List Asn) (e : Ending) (w' : World) : Prop := e = e0 ∧ ∃ D', All As w' D' ∧ Step w D w' D'
theorem Mem.call {P : Program} {w0 w : World} (l : List Asn) {A : Asn} {r : List Asn} [Stable A] [Stables l] [Stables r] (h : Mem w0 w (l ++ A :: r)) {f : Nat} {args : Array Value} {Q : Ending → List Asn → Prop}
    (hc : ∀ D, A w D → Calls P f args w fun e w' => ∃ As D', Q e As ∧ All As w' D' ∧ Step w D w' D') : Calls P f args w fun e w' => ∃ As, Q e As ∧ Mem w0 w' (l ++ (As ++ r)) := by
  obtain ⟨D, hA, k⟩ := h.focus l
  exact (hc D hA).mono fun e w' ⟨As, D', hQ, hAs, hst⟩ => ⟨As, hQ, k As w' D' hAs hst⟩

end Go.Proofs.Ytcolaafgjlaikaa
