/- The board in memory. -/
import Derived.Test.YtcolaafgjlaikaaF
namespace Go.Proofs.Ytcolaafgjlaikaa
open Go.RowKit

structure Nd where
  clk : Int
  a : Option Addr
  c : Nat
  l : List Tm
def ncells : List Nd → List Value
  | [] => []
  | d :: r => .int .i64 d.clk :: .slice d.a d.l.length d.c :: ncells r
def domB (p N : Nat) (ns : List Nd) : List Nat := p :: N :: ns.flatMap fun d => blkOf d.a

theorem ncells_get : ∀ (ns : List Nd) (i : Nat) (h : i < ns.length), (ncells ns)[i * 2]? = some (.int .i64 ns[i].clk) ∧ (ncells ns)[i * 2 + 1]? = some (.slice ns[i].a ns[i].l.length ns[i].c)
  | [], _, h => by cases h
  | d :: r, 0, _ => ⟨rfl, rfl⟩
  | d :: r, i + 1, h => by
    have := ncells_get r i (by simpa using h)
    rw [show (i + 1) * 2 = i * 2 + 1 + 1 by omega]
    exact this
theorem ncells_len : ∀ ns : List Nd, (ncells ns).length = ns.length * 2
  | [] => rfl
  | d :: r => by simp [ncells, ncells_len r]; omega
theorem ncells_set : ∀ (ns : List Nd) (i : Nat) (h : i < ns.length) (a : Option Addr) (c : Nat) (l : List Tm), (ncells ns).set (i * 2 + 1) (.slice a l.length c) = ncells (ns.set i ⟨ns[i].clk, a, c, l⟩)
  | [], _, h, _, _, _ => by cases h
  | d :: r, 0, _, _, _, _ => rfl
  | d :: r, i + 1, h, a, c, l => by
    have := ncells_set r i (by simpa using h) a c l
    rw [show (i + 1) * 2 = i * 2 + 1 + 1 by omega]
    simp only [ncells, List.set_cons_succ, List.getElem_cons_succ]
    rw [this]
theorem ncells_setClk : ∀ (ns : List Nd) (i : Nat) (h : i < ns.length) (k : Int), (ncells ns).set (i * 2) (.int .i64 k) = ncells (ns.set i ⟨k, ns[i].a, ns[i].c, ns[i].l⟩)
  | [], _, h, _ => by cases h
  | d :: r, 0, _, _ => rfl
  | d :: r, i + 1, h, k => by
    have := ncells_setClk r i (by simpa using h) k
    rw [show (i + 1) * 2 = i * 2 + 1 + 1 by omega]
    simp only [ncells, List.set_cons_succ, List.getElem_cons_succ]
    rw [this]

structure Bd (w : World) (p N : Nat) (ns : List Nd) : Prop where
  hp : w.heap[p]? = some (.cells #[.slice (some ⟨N, 0, none⟩) ns.length ns.length] 51 (0, 0))
  hN : w.heap[N]? = some (.cells (ncells ns).toArray 58 (0, 0))
  ne : p ≠ N
  row : ∀ i (h : i < ns.length), Row w 61 3 ns[i].a ns[i].l.length ns[i].c (flat ns[i].l)
  own : ∀ i (h : i < ns.length), N ∉ blkOf ns[i].a ∧ p ∉ blkOf ns[i].a
  apart : ∀ i j (hi : i < ns.length) (hj : j < ns.length), i ≠ j → ∀ g ∈ blkOf ns[i].a, g ∉ blkOf ns[j].a

theorem mem_domB {p N : Nat} {ns : List Nd} {x : Nat} : x ∈ domB p N ns ↔ x = p ∨ x = N ∨ ∃ i, ∃ h : i < ns.length, x ∈ blkOf ns[i].a := by
  unfold domB
  simp only [List.mem_cons, List.mem_flatMap]
  constructor
  · rintro (h | h | ⟨d, hd, hx⟩)
    · exact .inl h
    · exact .inr (.inl h)
    · obtain ⟨i, hi, rfl⟩ := List.getElem_of_mem hd
      exact .inr (.inr ⟨i, hi, hx⟩)
  · rintro (h | h | ⟨i, hi, hx⟩)
    · exact .inl h
    · exact .inr (.inl h)
    · exact .inr (.inr ⟨_, List.getElem_mem hi, hx⟩)

theorem Bd.lt {w : World} {p N : Nat} {ns : List Nd} (h : Bd w p N ns) : ∀ x ∈ domB p N ns, x < w.heap.size := by
  have hb : ∀ {g : Nat} {o : Obj}, w.heap[g]? = some o → g < w.heap.size := fun {g o} hg => by
    rcases Nat.lt_or_ge g w.heap.size with h | h
    · exact h
    · rw [Array.getElem?_eq_none h] at hg; cases hg
  intro x hx
  rcases mem_domB.1 hx with rfl | rfl | ⟨i, hi, hx⟩
  · exact hb h.hp
  · exact hb h.hN
  · obtain ⟨y, hy, rfl⟩ := mem_blkOf.1 hx
    exact (h.row i hi).lt y hy

theorem Bd.touch {w w' : World} {p N : Nat} {ns : List Nd} {bs : List Nat} (h : Bd w p N ns) (t : Touch bs w w') (hn : ∀ x ∈ domB p N ns, x ∉ bs) : Bd w' p N ns where
  hp := t.heap h.hp (hn _ (mem_domB.2 (.inl rfl)))
  hN := t.heap h.hN (hn _ (mem_domB.2 (.inr (.inl rfl))))
  ne := h.ne
  row := fun i hi => (h.row i hi).touch t fun x hx => hn _ (mem_domB.2 (.inr (.inr ⟨i, hi, mem_blkOf.2 ⟨x, hx, rfl⟩⟩)))
  own := h.own
  apart := h.apart

/-- what an operation on a board leaves. -/
structure BdTo (w w' : World) (p N : Nat) (ns ns' : List Nd) : Prop where
  bd : Bd w' p N ns'
  touch : Touch (domB p N ns) w w'
  fresh : ∀ x ∈ domB p N ns', x ∈ domB p N ns ∨ w.heap.size ≤ x

theorem BdTo.of_below {w w' : World} {p N : Nat} {ns : List Nd} (h : Bd w p N ns) (b : Below w.heap.size w w') : BdTo w w' p N ns ns :=
  ⟨h.touch (Touch.of_below b []) (by simp), Touch.of_below b _, fun _ hx => .inl hx⟩
theorem BdTo.trans {w1 w2 w3 : World} {p N : Nat} {n1 n2 n3 : List Nd} (h : BdTo w1 w2 p N n1 n2) (k : BdTo w2 w3 p N n2 n3) : BdTo w1 w3 p N n1 n3 :=
  ⟨k.bd, h.touch.trans k.touch h.fresh, fun x hx => by
    rcases k.fresh x hx with h' | h'
    · exact h.fresh x h'
    · exact .inr (Nat.le_trans h.touch.size h')⟩

theorem Bd.step {w w' : World} {p N : Nat} {ns : List Nd} (h : Bd w p N ns) (i : Nat) (hi : i < ns.length) (d : Nd) (hg : w'.heap[N]? = some (.cells (ncells (ns.set i d)).toArray 58 (0, 0)))
    (hr : Row w' 61 3 d.a d.l.length d.c (flat d.l)) (ht : Touch (N :: blkOf ns[i].a) w w') (hf : Fresh w ns[i].a d.a) : BdTo w w' p N ns (ns.set i d) := by
  have hps : p < w.heap.size := h.lt p (mem_domB.2 (.inl rfl))
  have hNs : N < w.heap.size := h.lt N (mem_domB.2 (.inr (.inl rfl)))
  have hown := h.own i hi
  have hda : ∀ g ∈ blkOf d.a, g ∈ blkOf ns[i].a ∨ w.heap.size ≤ g := fun g hg => by
    obtain ⟨x, hx, rfl⟩ := mem_blkOf.1 hg
    exact hf x hx
  have hdo : ∀ j (hj : j < ns.length), j ≠ i → ∀ g ∈ blkOf ns[j].a, g ∉ blkOf d.a ∧ g ∉ N :: blkOf ns[i].a := fun j hj hne g hg => by
    have h1 := h.apart j i hj hi hne g hg
    have h2 := h.lt g (mem_domB.2 (.inr (.inr ⟨j, hj, hg⟩)))
    refine ⟨fun h' => ?_, fun h' => ?_⟩
    · rcases hda g h' with h3 | h3
      · exact h1 h3
      · omega
    · rcases List.mem_cons.1 h' with h3 | h3
      · exact (h.own j hj).1 (h3 ▸ hg)
      · exact h1 h3
  refine ⟨⟨?_, hg, h.ne, ?_, ?_, ?_⟩, ?_, ?_⟩
  · rw [List.length_set]
    exact ht.heap h.hp (by simp only [List.mem_cons, not_or]; exact ⟨h.ne, hown.2⟩)
  · intro j hj
    rw [List.length_set] at hj
    rw [List.getElem_set]
    by_cases e : i = j
    · rw [if_pos e]; exact hr
    · rw [if_neg e]
      exact (h.row j hj).touch ht fun x hx => (hdo j hj (Ne.symm e) _ (mem_blkOf.2 ⟨x, hx, rfl⟩)).2
  · intro j hj
    rw [List.length_set] at hj
    rw [List.getElem_set]
    by_cases e : i = j
    · rw [if_pos e]
      exact ⟨fun h' => by rcases hda _ h' with h3 | h3; exact hown.1 h3; omega, fun h' => by rcases hda _ h' with h3 | h3; exact hown.2 h3; omega⟩
    · rw [if_neg e]; exact h.own j hj
  · intro j k hj hk hne g hgj
    rw [List.length_set] at hj hk
    rw [List.getElem_set] at hgj ⊢
    by_cases e : i = j
    · rw [if_pos e] at hgj
      rw [if_neg (fun e' => hne (e ▸ e'))]
      exact fun h' => (hdo k hk (fun e' => hne (by omega)) g h').1 hgj
    · rw [if_neg e] at hgj
      by_cases e2 : i = k
      · rw [if_pos e2]; exact (hdo j hj (Ne.symm e) g hgj).1
      · rw [if_neg e2]; exact h.apart j k hj hk hne g hgj
  · refine ht.mono fun x hx => .inl ?_
    rcases List.mem_cons.1 hx with rfl | hx
    · exact mem_domB.2 (.inr (.inl rfl))
    · exact mem_domB.2 (.inr (.inr ⟨i, hi, hx⟩))
  · intro x hx
    rcases mem_domB.1 hx with rfl | rfl | ⟨j, hj, hx⟩
    · exact .inl (mem_domB.2 (.inl rfl))
    · exact .inl (mem_domB.2 (.inr (.inl rfl)))
    · rw [List.length_set] at hj
      rw [List.getElem_set] at hx
      by_cases e : i = j
      · rw [if_pos e] at hx
        rcases hda x hx with h3 | h3
        · exact .inl (mem_domB.2 (.inr (.inr ⟨i, hi, h3⟩)))
        · exact .inr h3
      · rw [if_neg e] at hx
        exact .inl (mem_domB.2 (.inr (.inr ⟨j, hj, hx⟩)))

end Go.Proofs.Ytcolaafgjlaikaa
