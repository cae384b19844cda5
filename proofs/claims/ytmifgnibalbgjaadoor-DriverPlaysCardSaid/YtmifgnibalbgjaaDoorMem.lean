/- Things in memory, side by side (of no program): each has blocks of its own; what turns one leaves the others. -/
import Derived.Test.YtmifgnibalbgjaaDoorOwn
namespace Go.Proofs.YtmifgnibalbgjaaDoor
open Go.RowKit

/-- A thing: what the world says of it, and its blocks. -/
abbrev Asn := World → List Nat → Prop
/-- It is there, and stays where its blocks do. -/
class Stable (A : Asn) : Prop where
  lt : ∀ {w D}, A w D → ∀ x ∈ D, x < w.heap.size
  keep : ∀ {w w' D}, A w D → (∀ x ∈ D, w'.heap[x]? = w.heap[x]?) → A w' D
/-- From w to w' the blocks D alone turned; what was D is D' now. -/
structure Step (w : World) (D : List Nat) (w' : World) (D' : List Nat) : Prop where
  touch : Touch D w w'
  fresh : ∀ x ∈ D', x ∈ D ∨ w.heap.size ≤ x
theorem Step.trans {w1 w2 w3 : World} {D1 D2 D3 : List Nat} (h : Step w1 D1 w2 D2) (k : Step w2 D2 w3 D3) : Step w1 D1 w3 D3 :=
  ⟨h.touch.trans k.touch h.fresh, fun x hx => by
    rcases k.fresh x hx with h' | h'
    · exact h.fresh x h'
    · exact .inr (Nat.le_trans h.touch.size h')⟩
theorem Step.of_below {w w' : World} (h : Below w.heap.size w w') (D : List Nat) : Step w D w' D := ⟨Touch.of_below h D, fun _ hx => .inl hx⟩
theorem Step.keep {w w' : World} {D D' : List Nat} (h : Step w D w' D') {A : Asn} [sA : Stable A] {E : List Nat} (hA : A w E) (hd : ∀ x ∈ E, x ∉ D) : A w' E ∧ ∀ x ∈ E, x ∉ D' :=
  ⟨sA.keep hA fun x hx => h.touch.block x (sA.lt hA x hx) (hd x hx), fun x hx hm => by
    rcases h.fresh x hm with h' | h'
    · exact hd x hx h'
    · have := sA.lt hA x hx; omega⟩

/-- Things side by side. -/
def All : List Asn → Asn
  | [] => fun _ D => D = []
  | A :: r => fun w D => ∃ D1 D2, D = D1 ++ D2 ∧ (∀ x ∈ D1, x ∉ D2) ∧ A w D1 ∧ All r w D2
class Stables (l : List Asn) : Prop where
  all : ∀ A ∈ l, Stable A
instance : Stables [] := ⟨fun _ h => by cases h⟩
instance {A : Asn} {r : List Asn} [sA : Stable A] [sr : Stables r] : Stables (A :: r) := ⟨fun B hB => by
  rcases List.mem_cons.1 hB with rfl | h
  · exact sA
  · exact sr.all B h⟩
theorem all_stable : ∀ (l : List Asn) (_ : ∀ A ∈ l, Stable A), Stable (All l)
  | [], _ => ⟨fun h x hx => (by rw [show _ = [] from h] at hx; cases hx), fun h _ => h⟩
  | A :: r, h => by
    have sA := h A (List.mem_cons_self ..)
    have sr := all_stable r fun B hB => h B (List.mem_cons_of_mem _ hB)
    refine ⟨fun {w D} ⟨D1, D2, e, hd, h1, h2⟩ x hx => ?_, fun {w w' D} ⟨D1, D2, e, hd, h1, h2⟩ hk => ?_⟩
    · subst e
      rcases List.mem_append.1 hx with h' | h'
      · exact sA.lt h1 x h'
      · exact sr.lt h2 x h'
    · subst e
      exact ⟨D1, D2, rfl, hd, sA.keep h1 fun x hx => hk x (List.mem_append_left _ hx), sr.keep h2 fun x hx => hk x (List.mem_append_right _ hx)⟩
instance allStable {l : List Asn} [h : Stables l] : Stable (All l) := all_stable l h.all
theorem all_append : ∀ (l r : List Asn) {w : World} {D : List Nat}, All (l ++ r) w D → ∃ D1 D2, D = D1 ++ D2 ∧ (∀ x ∈ D1, x ∉ D2) ∧ All l w D1 ∧ All r w D2
  | [], r, w, D, h => ⟨[], D, rfl, fun _ hx => (by cases hx), rfl, h⟩
  | A :: l, r, w, D, ⟨E1, E2, e, hd, h1, h2⟩ => by
    obtain ⟨F1, F2, rfl, hd2, k1, k2⟩ := all_append l r h2
    subst e
    refine ⟨E1 ++ F1, F2, by simp, fun x hx => ?_, ⟨E1, F1, rfl, fun x hx hm => hd x hx (List.mem_append_left _ hm), h1, k1⟩, k2⟩
    rcases List.mem_append.1 hx with h' | h'
    · exact fun hm => hd x h' (List.mem_append_right _ hm)
    · exact hd2 x h'
theorem all_mk : ∀ {l r : List Asn} {w : World} {D1 D2 : List Nat}, All l w D1 → All r w D2 → (∀ x ∈ D1, x ∉ D2) → All (l ++ r) w (D1 ++ D2)
  | [], r, w, D1, D2, h1, h2, _ => by rw [show D1 = [] from h1]; exact h2
  | A :: l, r, w, D1, D2, ⟨E1, E2, e, hd, k1, k2⟩, h2, h3 => by
    subst e
    rw [List.append_assoc]
    refine ⟨E1, E2 ++ D2, rfl, fun x hx hm => ?_, k1, all_mk k2 h2 fun x hx => h3 x (List.mem_append_right _ hx)⟩
    rcases List.mem_append.1 hm with h' | h'
    · exact hd x hx h'
    · exact h3 x (List.mem_append_left _ hx) h'
theorem all_one {A : Asn} {w : World} {D : List Nat} (h : A w D) : All [A] w D := ⟨D, [], by simp, fun _ _ hm => (by cases hm), h, rfl⟩
theorem all_two {A B : Asn} {w : World} {D E : List Nat} (h : A w D) (k : B w E) (hd : ∀ x ∈ D, x ∉ E) : All [A, B] w (D ++ E) := ⟨D, E, rfl, hd, h, all_one k⟩

theorem cell_of_heap {w : World} {g i : Nat} {cur : Array Value} {T : TypeId} {v : Value} (hg : w.heap[g]? = some (.cells cur T (0, 0))) (h : cur[i]? = some v) :
    w.cell? ⟨g, i, none⟩ = some v ∧ w.frozen? ⟨g, i, none⟩ = false := by
  constructor
  · simp only [World.cell?, hg]; simpa using h
  · simp only [World.frozen?, hg]; simp
theorem heap_set {w : World} {g i : Nat} {cur : Array Value} {T : TypeId} (hg : w.heap[g]? = some (.cells cur T (0, 0))) (v : Value) : (w.setCell ⟨g, i, none⟩ v).heap[g]? = some (.cells (cur.set! i v) T (0, 0)) := by
  simp [World.setCell, Array.getElem?_modify, hg]
theorem lt_of_heap {w : World} {g : Nat} {o : Obj} (h : w.heap[g]? = some o) : g < w.heap.size := (Array.getElem?_eq_some_iff.1 h).1
theorem heap_new (w : World) (o : Obj) : (w.alloc o).heap[w.heap.size]? = some o := by show (w.heap.push _)[w.heap.size]? = _; rw [Array.getElem?_push, if_pos rfl]
theorem heap_alloc_at (w : World) (o : Obj) (n : Nat) (h : n = w.heap.size) : (w.alloc o).heap[n]? = some o := by rw [h]; exact heap_new w o
theorem bel_drew (w : World) : Below w.heap.size w w.drew := ⟨rfl, rfl, rfl, Nat.le_refl _, fun _ _ => rfl⟩
theorem bel_drewN (w : World) (n : Nat) : Below w.heap.size w (w.drewN n) := ⟨rfl, rfl, rfl, Nat.le_refl _, fun _ _ => rfl⟩
theorem bel_new (wr : World) (o : Obj) : Below wr.heap.size wr (wr.alloc o) := Below.alloc (Below.refl _ _) (Nat.le_refl _) o
theorem Row.keep {w w' : World} {E k : Nat} {a : Option Addr} {n c : Nat} {xs : List Value} (h : Row w E k a n c xs) (hk : ∀ x ∈ blkOf a, w'.heap[x]? = w.heap[x]?) : Row w' E k a n c xs := by
  rcases h.out with ⟨rfl, rfl, rfl, rfl⟩ | ⟨g, cur, rfl, hg, h1, h2, h3, h4, _⟩
  · exact Row.nil _ _ _
  · exact Row.mk ((hk g (by simp [blkOf])).trans hg) h1 h2 h3 h4
theorem Row.below {w w' : World} {E k : Nat} {a : Option Addr} {n c : Nat} {xs : List Value} (h : Row w E k a n c xs) (b : Below w.heap.size w w') : Row w' E k a n c xs := h.touch (Touch.of_below b []) (by simp)
/-- A row. -/
def RowA (E k : Nat) (a : Option Addr) (n c : Nat) (xs : List Value) : Asn := fun w D => D = blkOf a ∧ Row w E k a n c xs
instance {E k : Nat} {a : Option Addr} {n c : Nat} {xs : List Value} : Stable (RowA E k a n c xs) where
  lt := fun ⟨e, h⟩ x hx => by subst e; obtain ⟨y, hy, rfl⟩ := mem_blkOf.1 hx; exact h.lt y hy
  keep := fun ⟨e, h⟩ hk => ⟨e, h.keep (by subst e; exact hk)⟩
/-- A block known whole. -/
def BlockA (g : Nat) (cur : Array Value) (T : TypeId) : Asn := fun w D => D = [g] ∧ w.heap[g]? = some (.cells cur T (0, 0))
instance {g : Nat} {cur : Array Value} {T : TypeId} : Stable (BlockA g cur T) where
  lt := fun ⟨e, h⟩ x hx => by subst e; simp at hx; subst hx; exact (Array.getElem?_eq_some_iff.1 h).1
  keep := fun ⟨e, h⟩ hk => ⟨e, by subst e; rw [hk _ (by simp)]; exact h⟩
instance {l r : List Asn} [hl : Stables l] [hr : Stables r] : Stables (l ++ r) := ⟨fun A hA => by
  rcases List.mem_append.1 hA with h | h
  · exact hl.all A h
  · exact hr.all A h⟩

/-- Since w0 the blocks D0 alone turned, and these are there now. -/
structure Mem (w0 : World) (D0 : List Nat) (w : World) (l : List Asn) : Prop where
  out : ∃ D, All l w D ∧ Step w0 D0 w D
theorem Mem.start {w : World} {D : List Nat} {A : Asn} (h : A w D) : Mem w D w [A] := ⟨D, all_one h, Touch.refl _ _, fun _ hx => .inl hx⟩
theorem Mem.focus {w0 w : World} {D0 : List Nat} (l : List Asn) {A : Asn} {r : List Asn} [Stable A] [Stables l] [Stables r] (h : Mem w0 D0 w (l ++ A :: r)) :
    ∃ D, A w D ∧ ∀ (As : List Asn) w' D', All As w' D' → Step w D w' D' → Mem w0 D0 w' (l ++ (As ++ r)) := by
  obtain ⟨D, hA, hD⟩ := h.out
  obtain ⟨D1, D2, rfl, hd, h1, E1, E2, rfl, he, h2, h3⟩ := all_append l (A :: r) hA
  refine ⟨E1, h2, fun As w' D' hAs hst => ?_⟩
  have hd1 : ∀ x ∈ D1, x ∉ E1 := fun x hx hm => hd x hx (List.mem_append_left _ hm)
  have hd2 : ∀ x ∈ D1, x ∉ E2 := fun x hx hm => hd x hx (List.mem_append_right _ hm)
  have he' : ∀ x ∈ E2, x ∉ E1 := fun x hx hm => he x hm hx
  obtain ⟨k1, k1'⟩ := hst.keep h1 hd1
  obtain ⟨k3, k3'⟩ := hst.keep h3 he'
  refine ⟨D1 ++ (D' ++ E2), all_mk k1 (all_mk hAs k3 fun x hx hm => k3' x hm hx) fun x hx hm => ?_, ?_, fun x hx => ?_⟩
  · rcases List.mem_append.1 hm with h' | h'
    · exact k1' x hx h'
    · exact hd2 x hx h'
  · exact hD.touch.trans hst.touch fun x hx => hD.fresh x (List.mem_append_right _ (List.mem_append_left _ hx))
  · rcases List.mem_append.1 hx with h' | h'
    · exact hD.fresh x (List.mem_append_left _ h')
    · rcases List.mem_append.1 h' with h' | h'
      · rcases hst.fresh x h' with h'' | h''
        · exact hD.fresh x (List.mem_append_right _ (List.mem_append_left _ h''))
        · exact .inr (Nat.le_trans hD.touch.size h'')
      · exact hD.fresh x (List.mem_append_right _ (List.mem_append_right _ h'))
theorem Mem.below {w0 w w' : World} {D0 : List Nat} {l : List Asn} [Stables l] (h : Mem w0 D0 w l) (b : Below w.heap.size w w') : Mem w0 D0 w' l := by
  obtain ⟨D, hA, hD⟩ := h.out
  exact ⟨D, ((Step.of_below b []).keep hA (by simp)).1, hD.touch.trans (Touch.of_below b []) (by simp), hD.fresh⟩
theorem Mem.new {w0 w w' : World} {D0 : List Nat} {l : List Asn} [Stables l] (h : Mem w0 D0 w l) (b : Below w.heap.size w w') {As : List Asn} {D' : List Nat} (hAs : All As w' D') (hD' : ∀ x ∈ D', w.heap.size ≤ x) : Mem w0 D0 w' (As ++ l) := by
  obtain ⟨D, hA, hD⟩ := h.out
  refine ⟨D' ++ D, all_mk hAs ((Step.of_below b []).keep hA (by simp)).1 fun x hx hm => ?_, hD.touch.trans (Touch.of_below b []) (by simp), fun x hx => ?_⟩
  · have := hD' x hx
    have := (allStable (l := l)).lt hA x hm
    omega
  · rcases List.mem_append.1 hx with h' | h'
    · exact .inr (Nat.le_trans hD.touch.size (hD' x h'))
    · exact hD.fresh x h'
theorem Mem.drop {w0 w : World} {D0 : List Nat} (l : List Asn) {A : Asn} {r : List Asn} [Stable A] [Stables l] [Stables r] (h : Mem w0 D0 w (l ++ A :: r)) : Mem w0 D0 w (l ++ r) := by
  obtain ⟨D, _, k⟩ := h.focus l
  exact k [] w [] rfl ⟨Touch.refl _ _, fun _ h => by cases h⟩
theorem Mem.get {w0 w : World} {D0 : List Nat} (l : List Asn) {A : Asn} {r : List Asn} [Stable A] [Stables l] [Stables r] (h : Mem w0 D0 w (l ++ A :: r)) : ∃ D, A w D := by
  obtain ⟨D, hA, _⟩ := h.focus l
  exact ⟨D, hA⟩
theorem Mem.block {w0 w : World} {D0 : List Nat} {l : List Asn} [Stables l] (h : Mem w0 D0 w l) (cur : Array Value) (T : TypeId) : Mem w0 D0 (w.alloc (.cells cur T)) (BlockA w.heap.size cur T :: l) :=
  h.new (Below.alloc (Below.refl _ _) (Nat.le_refl _) _) (As := [BlockA w.heap.size cur T]) (all_one ⟨rfl, by show (w.heap.push _)[w.heap.size]? = _; rw [Array.getElem?_push, if_pos rfl]⟩) (by simp)

theorem Mem.nil (w : World) : Mem w [] w [] := ⟨[], rfl, Touch.refl _ _, fun _ h => (by cases h)⟩
theorem Mem.bel {w0 w : World} {l : List Asn} (h : Mem w0 [] w l) : Below w0.heap.size w0 w := by obtain ⟨D, _, h2⟩ := h.out; exact h2.touch.keep
theorem Mem.swap {w0 w : World} {D0 : List Nat} (l : List Asn) {A B : Asn} {r : List Asn} (h : Mem w0 D0 w (l ++ A :: B :: r)) : Mem w0 D0 w (l ++ B :: A :: r) := by
  obtain ⟨D, hA, hD⟩ := h.out
  obtain ⟨D1, D2, rfl, hd, h1, E1, F, rfl, he, h2, E2, E3, rfl, hf, h3, h4⟩ := all_append l (A :: B :: r) hA
  refine ⟨D1 ++ (E2 ++ (E1 ++ E3)), all_mk h1 ⟨E2, E1 ++ E3, rfl, fun x hx hm => ?_, h3, E1, E3, rfl, fun x hx hm => he x hx (List.mem_append_right _ hm), h2, h4⟩ fun x hx hm => hd x hx ?_, hD.touch, fun x hx => hD.fresh x ?_⟩
  · rcases List.mem_append.1 hm with h' | h'
    · exact he x h' (List.mem_append_left _ hx)
    · exact hf x hx h'
  · simp only [List.mem_append] at hm ⊢
    rcases hm with h' | h' | h' <;> simp [h']
  · simp only [List.mem_append] at hx ⊢
    rcases hx with h' | h' | h' | h' <;> simp [h']
theorem Mem.call {P : Program} {w0 w : World} {D0 : List Nat} (l : List Asn) {A : Asn} {r : List Asn} [Stable A] [Stables l] [Stables r] (h : Mem w0 D0 w (l ++ A :: r)) {f : Nat} {args : Array Value} {Q : Ending → List Asn → Prop}
    (hc : ∀ D, A w D → Calls P f args w fun e w' => ∃ As D', Q e As ∧ All As w' D' ∧ Step w D w' D') : Calls P f args w fun e w' => ∃ As, Q e As ∧ Mem w0 D0 w' (l ++ (As ++ r)) := by
  obtain ⟨D, hA, k⟩ := h.focus l
  exact (hc D hA).mono fun e w' ⟨As, D', hQ, hAs, hst⟩ => ⟨As, hQ, k As w' D' hAs hst⟩
theorem Mem.setBlock {w0 w : World} {D0 : List Nat} {g i : Nat} {cur : Array Value} {T : TypeId} {l : List Asn} [Stables l] (h : Mem w0 D0 w (BlockA g cur T :: l)) (v : Value) : Mem w0 D0 (w.setCell ⟨g, i, none⟩ v) (BlockA g (cur.set! i v) T :: l) := by
  obtain ⟨D, ⟨rfl, hg⟩, k⟩ := Mem.focus [] h
  exact k [BlockA g (cur.set! i v) T] _ [g] (all_one ⟨rfl, heap_set hg v⟩) ⟨Touch.setCell _ _ _ (by simp), fun x hx => .inl hx⟩
theorem Mem.block_cell {w0 w : World} {D0 : List Nat} {g i : Nat} {cur : Array Value} {T : TypeId} {v : Value} {l : List Asn} [Stables l] (M : Mem w0 D0 w (BlockA g cur T :: l)) (h : cur[i]? = some v) : w.cell? ⟨g, i, none⟩ = some v ∧ w.frozen? ⟨g, i, none⟩ = false := by
  obtain ⟨D, _, hD⟩ := M.get []
  exact cell_of_heap hD h
/-- one element is put behind a row (w: ahead of the element's own block). -/
theorem app_row1 {P : Program} (w : World) (t ty e : TypeId) {z0 : Value} {k by' : Nat} (ht : P.underlying t = some (.slice e)) (hinfo : (P.info? e).map (fun i => (i.zero, i.size, i.bytes)) = some (some z0, k, by')) (hz : z0.cells.size = k) (hk : 0 < k)
    (a : Option Addr) (n c : Nat) (xs : List Value) (hr : Row w e k a n c xs) (vs : List Value) (hvl : vs.length = k) (hone : ∀ u ∈ vs, u.oneCell' = true) (hbig : n ≤ 1000000) (hby : by' ≤ 1000000) :
    ∃ b' cap' w', (Builtin.append_ #[t, t] ty #[.slice a n c, .slice (some ⟨w.heap.size, 0, none⟩) 1 1]).run P (w.alloc (.cells vs.toArray e)) = .ok (.slice b' (n + 1) cap') w' ∧
      Row w' e k b' (n + 1) cap' (xs ++ vs) ∧ Touch (blkOf a) w w' ∧ Fresh w a b' := by
  obtain ⟨i0, hi, hz0, hz1, hz2⟩ := info_parts hinfo
  have hb := bel_new w (.cells vs.toArray e)
  obtain ⟨b', cap', w', h1, h2, h3, h4⟩ := run_append_row (P := P) (w.alloc (.cells vs.toArray e)) t ty e i0 z0 k by' ht hi hz0 hz1 hz2 hz hk a n c xs (hr.below hb) ⟨w.heap.size, 0, none⟩ 1 1 vs (by omega)
    (fun j u hj => by rw [Addr.add_lit, Nat.zero_add]; exact (cell_of_heap (heap_new w (.cells vs.toArray e)) (by simpa using hj)).1) hone (by unfold maxLen; omega) (by
      have : (n + 1) * by' ≤ 1000001 * 1000000 := Nat.mul_le_mul (by omega) hby
      omega)
  refine ⟨b', cap', w', h1, h2, (Touch.of_below hb (blkOf a)).andThen h3, fun x hx => ?_⟩
  rcases h4 x hx with h | h
  · exact .inl h
  · exact .inr (by have := hb.size; omega)
/-- A new row, made since w. -/
def NewRow (E k : Nat) (w : World) (xs : List Value) (n : Nat) (v : Value) (wr : World) : Prop := ∃ a c, v = .slice a n c ∧ Row wr E k a n c xs ∧ Below w.heap.size w wr ∧ ∀ x ∈ blkOf a, w.heap.size ≤ x
theorem NewRow.nil (E k : Nat) (w : World) : NewRow E k w [] 0 (.slice none 0 0) w := ⟨none, 0, rfl, Row.nil _ _ _, Below.refl _ _, fun x hx => by cases hx⟩
theorem NewRow.below {E k n : Nat} {w wr wr' : World} {xs : List Value} {v : Value} (h : NewRow E k w xs n v wr) (b : Below wr.heap.size wr wr') : NewRow E k w xs n v wr' := by
  obtain ⟨a, c, hv, hr, hb, hf⟩ := h
  exact ⟨a, c, hv, hr.below b, hb.trans (b.mono hb.size), hf⟩
theorem NewRow.app {P : Program} {w wr : World} {t e : TypeId} {z0 : Value} {k by' : Nat} (ht : P.underlying t = some (.slice e)) (hinfo : (P.info? e).map (fun i => (i.zero, i.size, i.bytes)) = some (some z0, k, by')) (hz : z0.cells.size = k) (hk : 0 < k)
    {xs : List Value} {a : Option Addr} {n c : Nat} (h : NewRow e k w xs n (.slice a n c) wr) (vs : List Value) (hvl : vs.length = k) (hone : ∀ u ∈ vs, u.oneCell' = true) (hbig : n ≤ 1000000) (hby : by' ≤ 1000000) (ty : TypeId) :
    ∃ b' cap' w', (Builtin.append_ #[t, t] ty #[.slice a n c, .slice (some ⟨wr.heap.size, 0, none⟩) 1 1]).run P (wr.alloc (.cells vs.toArray e)) = .ok (.slice b' (n + 1) cap') w' ∧ NewRow e k w (xs ++ vs) (n + 1) (.slice b' (n + 1) cap') w' := by
  obtain ⟨a', c', hv, hr, hb, hf⟩ := h
  simp only [Value.slice.injEq, true_and] at hv
  obtain ⟨rfl, rfl⟩ := hv
  obtain ⟨b', cap', w', h1, h2, h3, h4⟩ := app_row1 wr t ty e ht hinfo hz hk a n c _ hr vs hvl hone hbig hby
  refine ⟨b', cap', w', h1, b', cap', rfl, h2, ((Touch.of_below hb []).trans (h3.mono (cs := blkOf a) fun x hx => .inl hx) (fun x hx => .inr (hf x hx))).keep, fun x hx => ?_⟩
  obtain ⟨y, hy, rfl⟩ := mem_blkOf.1 hx
  rcases h4 y hy with h' | h'
  · exact hf _ h'
  · have := hb.size; omega

end Go.Proofs.YtmifgnibalbgjaaDoor
