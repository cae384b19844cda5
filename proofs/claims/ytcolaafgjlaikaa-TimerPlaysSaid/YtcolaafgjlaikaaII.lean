/- The reference's Skip: the facts of its loops. -/
import Derived.Test.YtcolaafgjlaikaaHH
namespace Go.Proofs.Ytcolaafgjlaikaa
open Go.RowKit

def LeftA (a : Option Addr) (c : Nat) (l : List Rt) : Asn := RowA 64 4 a l.length c (flat4 l)
instance {a : Option Addr} {c : Nat} {l : List Rt} : Stable (LeftA a c l) := inferInstanceAs (Stable (RowA _ _ _ _ _ _))
section
variable {w0 w : World} {D0 : List Nat}
theorem MemS.app_rt (l : List Asn) {a : Option Addr} {c : Nat} {x : List Rt} {r : List Asn} [Stables l] [Stables r] (h : MemS w0 D0 w (l ++ LeftA a c x :: r)) (t : Rt) (hbig : x.length ≤ 1000000) (ty : TypeId) :
    ∃ b' cap' w', (Builtin.append_ #[28, 28] ty #[.slice a x.length c, .slice (some ⟨w.heap.size, 0, none⟩) 1 1]).run Try.prog (w.alloc (.cells #[.int .i64 t.node, .int .i64 t.id, .int .i64 t.due, .int .i64 t.every] 64)) = .ok (.slice b' (x.length + 1) cap') w' ∧
      MemS w0 D0 w' (l ++ LeftA b' cap' (x ++ [t]) :: r) := by
  obtain ⟨D, ⟨rfl, hr⟩, k⟩ := h.focus l
  obtain ⟨b', cap', w', h1, h2, h3, h4, _⟩ := Ytcolaafgjlaikaa.app_rt w ty a x.length c _ hr t hbig
  refine ⟨b', cap', w', h1, k [LeftA b' cap' (x ++ [t])] w' (blkOf b') (all_one ⟨rfl, by rw [flat4_append]; simpa [cells4, flat4] using h2⟩) ⟨h3, fun y hy => ?_⟩⟩
  obtain ⟨z, hz, rfl⟩ := mem_blkOf.1 hy
  exact h4 z hz
theorem MemS.app_int (l : List Asn) {a : Option Addr} {c : Nat} {x : List Int} {r : List Asn} [Stables l] [Stables r] (h : MemS w0 D0 w (l ++ IntsA a c x :: r)) (t : Int) (hbig : x.length ≤ 1000000) (ty : TypeId) :
    ∃ b' cap' w', (Builtin.append_ #[27, 27] ty #[.slice a x.length c, .slice (some ⟨w.heap.size, 0, none⟩) 1 1]).run Try.prog (w.alloc (.cells #[.int .i64 t] 3)) = .ok (.slice b' (x.length + 1) cap') w' ∧
      MemS w0 D0 w' (l ++ IntsA b' cap' (x ++ [t]) :: r) := by
  obtain ⟨D, ⟨rfl, hr⟩, k⟩ := h.focus l
  obtain ⟨b', cap', w', h1, h2, h3, h4, _, _⟩ := Ytcolaafgjlaikaa.app_int w ty a x.length c _ hr t hbig
  refine ⟨b', cap', w', h1, k [IntsA b' cap' (x ++ [t])] w' (blkOf b') (all_one ⟨rfl, by simpa [ints] using h2⟩) ⟨h3, fun y hy => ?_⟩⟩
  obtain ⟨z, hz, rfl⟩ := mem_blkOf.1 hy
  exact h4 z hz
theorem MemS.setBlock {g i : Nat} {cur : Array Value} {T : TypeId} {l : List Asn} [Stables l] (h : MemS w0 D0 w (BlockA g cur T :: l)) (v : Value) : MemS w0 D0 (w.setCell ⟨g, i, none⟩ v) (BlockA g (cur.set! i v) T :: l) := by
  obtain ⟨D, ⟨rfl, hg⟩, k⟩ := MemS.focus [] h
  exact k [BlockA g (cur.set! i v) T] _ [g] (all_one ⟨rfl, heap_set hg v⟩) ⟨Touch.setCell _ _ _ (by simp), fun x hx => .inl hx⟩
theorem MemS.block_cell {g i : Nat} {cur : Array Value} {T : TypeId} {v : Value} {l : List Asn} [Stables l] (M : MemS w0 D0 w (BlockA g cur T :: l)) (h : cur[i]? = some v) : w.cell? ⟨g, i, none⟩ = some v ∧ w.frozen? ⟨g, i, none⟩ = false := by
  obtain ⟨D, _, hD⟩ := M.get []
  exact cell_of_heap hD h
/-- the clock of a node goes on. -/
theorem MemS.clk {p : Nat} {ck : List Int} {L : List Rt} {l : List Asn} [Stables l] (h : MemS w0 D0 w (RefA p ck L :: l)) (j : Nat) (hj : j < ck.length) :
    ∃ gc, w.cell? ⟨p, 0, none⟩ = some (.slice (some ⟨gc, 0, none⟩) ck.length ck.length) ∧ w.cell? ⟨gc, j, none⟩ = some (.int .i64 ck[j]) ∧ w.frozen? ⟨gc, j, none⟩ = false ∧ ¬ p = gc ∧
      ∀ v, MemS w0 D0 (w.setCell ⟨gc, j, none⟩ (.int .i64 v)) (RefA p (ck.set j v) L :: l) := by
  obtain ⟨D, ⟨gc, a, c, rfl, hf⟩, k⟩ := MemS.focus [] h
  refine ⟨gc, hf.cell0, (hf.clk j hj).1, (hf.clk j hj).2, hf.ne, fun v => k [RefA p (ck.set j v) L] _ (p :: gc :: blkOf a) (all_one ⟨gc, a, c, rfl, ?_, ?_, ?_, hf.ne, hf.np, hf.nc⟩) ⟨Touch.setCell _ _ _ (by simp), fun x hx => .inl hx⟩⟩
  · rw [List.length_set]
    exact (Touch.setCell (bs := [gc]) w ⟨gc, j, none⟩ _ (by simp)).heap hf.hp (by simpa using hf.ne)
  · rw [heap_set hf.hc]
    congr 2
    simp [ints, List.map_set]
  · exact hf.row.touch (Touch.setCell (bs := [gc]) w ⟨gc, j, none⟩ _ (by simp)) fun x hx hm => hf.nc (mem_blkOf.2 ⟨x, hx, by simpa using hm⟩)
/-- the timers that are left are the board's. -/
theorem MemS.storeL {p : Nat} {ck : List Int} {L L' : List Rt} {a : Option Addr} {c : Nat} {l : List Asn} [Stables l] (h : MemS w0 D0 w (RefA p ck L :: LeftA a c L' :: l)) :
    (∃ v, w.cell? ⟨p, 1, none⟩ = some v) ∧ w.frozen? ⟨p, 1, none⟩ = false ∧ MemS w0 D0 (w.setCell ⟨p, 1, none⟩ (.slice a L'.length c)) (RefA p ck L' :: l) := by
  obtain ⟨D, ⟨D1, D2, rfl, hd, ⟨gc, a1, c1, rfl, hf⟩, E1, E2, rfl, he, ⟨rfl, hr⟩, h3⟩, hst⟩ := h.out
  have hpa : p ∉ blkOf a := fun hm => hd p (by simp) (by simp [hm])
  have hca : gc ∉ blkOf a := fun hm => hd gc (by simp) (by simp [hm])
  have hp2 : p ∉ E2 := fun hm => hd p (by simp) (by simp [hm])
  have hT := Touch.setCell (bs := [p]) w ⟨p, 1, none⟩ (.slice a L'.length c) (by simp)
  refine ⟨⟨_, hf.cell1.1⟩, hf.cell1.2, (p :: gc :: blkOf a) ++ E2, ⟨p :: gc :: blkOf a, E2, rfl, fun x hx hm => ?_, ⟨gc, a, c, rfl, ?_, ?_, ?_, hf.ne, hpa, hca⟩, ?_⟩, ?_, fun x hx => hst.fresh x ?_⟩
  · rcases List.mem_cons.1 hx with rfl | hx
    · exact hp2 hm
    · rcases List.mem_cons.1 hx with rfl | hx
      · exact hd x (by simp) (by simp [hm])
      · exact he x hx hm
  · rw [heap_set hf.hp]; rfl
  · exact hT.heap hf.hc (by simpa using hf.ne.symm)
  · exact hr.touch hT fun x hx hm => hpa (mem_blkOf.2 ⟨x, hx, by simpa using hm⟩)
  · exact ((Step.keep (D' := [p]) ⟨hT, fun x hx => .inl hx⟩) h3 fun x hx hm => hp2 (by simp at hm; subst hm; exact hx)).1
  · exact hst.touch.trans hT fun x hx => hst.fresh x (by simp at hx; subst hx; simp)
  · simp only [List.mem_append, List.mem_cons] at hx ⊢
    rcases hx with (h' | h' | h') | h' <;> simp [h']
/-- an element of the board's timers. -/
theorem MemS.elem (l : List Asn) {p : Nat} {ck : List Int} {L : List Rt} {r : List Asn} [Stables l] [Stables r] (h : MemS w0 D0 w (l ++ RefA p ck L :: r)) {a : Option Addr} {c : Nat} (hc : w.cell? ⟨p, 1, none⟩ = some (.slice a L.length c)) (k : Nat) (hk : k < L.length) :
    ∃ g, a = some ⟨g, 0, none⟩ ∧ CellsOf4 w g (k * 4) L[k] := by
  obtain ⟨D, gc, a1, c1, rfl, hf⟩ := h.get l
  have := hf.cell1.1
  rw [hc] at this
  simp only [Option.some.injEq, Value.slice.injEq, true_and] at this
  obtain ⟨rfl, rfl⟩ := this
  exact flat4_cells hf.row k hk
theorem MemS.cell1 (l : List Asn) {p : Nat} {ck : List Int} {L : List Rt} {r : List Asn} [Stables l] [Stables r] (h : MemS w0 D0 w (l ++ RefA p ck L :: r)) : ∃ a c, w.cell? ⟨p, 1, none⟩ = some (.slice a L.length c) ∧ Row w 64 4 a L.length c (flat4 L) := by
  obtain ⟨D, gc, a1, c1, rfl, hf⟩ := h.get l
  exact ⟨a1, c1, hf.cell1.1, hf.row⟩
theorem MemS.clks (l : List Asn) {p : Nat} {ck : List Int} {L : List Rt} {r : List Asn} [Stables l] [Stables r] (h : MemS w0 D0 w (l ++ RefA p ck L :: r)) (j : Nat) (hj : j < ck.length) : ∃ gc, w.cell? ⟨p, 0, none⟩ = some (.slice (some ⟨gc, 0, none⟩) ck.length ck.length) ∧ w.cell? ⟨gc, j, none⟩ = some (.int .i64 ck[j]) := by
  obtain ⟨D, gc, a1, c1, rfl, hf⟩ := h.get l
  exact ⟨gc, hf.cell0, (hf.clk j hj).1⟩
end
def RIPost (w : World) (D : List Nat) (p : Nat) (er : Int) (o : List Int) (ck : List Int) (L : List Rt) (e : Ending) (w' : World) : Prop :=
  ∃ As D', (∃ a c, e = .returned (.tuple #[.slice a o.length c, .int .i64 er]) ∧ As = [RefA p ck L, IntsA a c o]) ∧ All As w' D' ∧ Step w D w' D'
theorem MemS.post {w w' : World} {D : List Nat} {p : Nat} {o ck : List Int} {L : List Rt} {a : Option Addr} {c : Nat} (h : MemS w D w' [RefA p ck L, IntsA a c o]) (er : Int) : RIPost w D p er o ck L (.returned (.tuple #[.slice a o.length c, .int .i64 er])) w' := by
  obtain ⟨D', h1, h2⟩ := h.out
  exact ⟨_, D', ⟨a, c, rfl, rfl⟩, h1, h2⟩
theorem ints_none (w : World) : IntsA none 0 [] w [] := ⟨rfl, Row.nil _ _ _⟩
theorem MemS.ints0 {w0 w : World} {D0 : List Nat} {A : Asn} [Stable A] (h : MemS w0 D0 w [A]) : MemS w0 D0 w [A, IntsA none 0 []] := by
  obtain ⟨D, ⟨D1, D2, rfl, hd, h1, h2⟩, hst⟩ := h.out
  obtain rfl : D2 = [] := h2
  exact ⟨D1 ++ [], ⟨D1, [], rfl, fun _ _ h => (by cases h), h1, [], [], rfl, fun _ h => (by cases h), ints_none w, rfl⟩, hst⟩
theorem MemS.left0 {w0 w : World} {D0 : List Nat} {A B : Asn} [Stable A] [Stable B] (h : MemS w0 D0 w [A, B]) : MemS w0 D0 w [A, LeftA none 0 [], B] := by
  obtain ⟨D, ⟨D1, D2, rfl, hd, h1, h2⟩, hst⟩ := h.out
  exact ⟨D1 ++ D2, ⟨D1, D2, rfl, hd, h1, [], D2, rfl, fun _ h => (by cases h), ⟨rfl, Row.nil _ _ _⟩, h2⟩, hst⟩

theorem rTicks_len (node c : Int) (L : List Rt) : ∀ j : Nat, (rTicks node c L j).2.length ≤ L.length ∧ (rTicks node c L j).1.length ≤ j * L.length
  | 0 => ⟨Nat.le_refl _, Nat.zero_le _⟩
  | j + 1 => by
    obtain ⟨h1, h2⟩ := rTicks_len node c L j
    have h3 : (rTick node (c + ((j + 1 : Nat) : Int)) (rTicks node c L j).2).length ≤ (rTicks node c L j).2.length := List.length_filterMap_le _ _
    have h4 : (rOut node (c + ((j + 1 : Nat) : Int)) (rTicks node c L j).2).length ≤ (rTicks node c L j).2.length := by unfold rOut; rw [List.length_map]; exact List.length_filter_le _ _
    refine ⟨Nat.le_trans h3 h1, ?_⟩
    show ((rTicks node c L j).1 ++ rOut node _ (rTicks node c L j).2).length ≤ _
    rw [List.length_append, Nat.succ_mul]; omega
theorem rTick_take (node c : Int) (L : List Rt) (k : Nat) (hk : k < L.length) : rTick node c (L.take (k + 1)) = rTick node c (L.take k) ++ (match rUpd node c L[k] with | none => [] | some x => [x]) := by
  unfold rTick
  rw [List.take_succ_eq_append_getElem hk, List.filterMap_append]
  congr 1
  rw [List.filterMap_cons]
  cases rUpd node c L[k] <;> rfl
theorem rOut_take (node c : Int) (L : List Rt) (k : Nat) (hk : k < L.length) : rOut node c (L.take (k + 1)) = rOut node c (L.take k) ++ (if (L[k].node == node && L[k].due == c) then [L[k].id] else []) := by
  unfold rOut
  rw [filter_take_succ _ L k hk, List.map_append]
  split <;> rfl

/-- The reference's board, its places known. -/
def RefX (p gc : Nat) (a : Option Addr) (c : Nat) (ck : List Int) (L : List Rt) : Asn := fun w D => D = p :: gc :: blkOf a ∧ Rf w p gc a c ck L
instance {p gc : Nat} {a : Option Addr} {c : Nat} {ck : List Int} {L : List Rt} : Stable (RefX p gc a c ck L) where
  lt := fun ⟨e, h⟩ x hx => by subst e; exact h.lt x hx
  keep := fun ⟨e, h⟩ hk => ⟨e, h.keep (by subst e; exact hk)⟩
theorem MemS.toX {w0 w : World} {D0 : List Nat} {p : Nat} {ck : List Int} {L : List Rt} {l : List Asn} (h : MemS w0 D0 w (RefA p ck L :: l)) : ∃ gc a c, MemS w0 D0 w (RefX p gc a c ck L :: l) := by
  obtain ⟨D, ⟨D1, D2, rfl, hd, ⟨gc, a, c, rfl, hf⟩, h2⟩, hst⟩ := h.out
  exact ⟨gc, a, c, _, ⟨_, D2, rfl, hd, ⟨rfl, hf⟩, h2⟩, hst⟩
theorem MemS.ofX {w0 w : World} {D0 : List Nat} {p gc : Nat} {a : Option Addr} {c : Nat} {ck : List Int} {L : List Rt} {l : List Asn} (h : MemS w0 D0 w (RefX p gc a c ck L :: l)) : MemS w0 D0 w (RefA p ck L :: l) := by
  obtain ⟨D, ⟨D1, D2, rfl, hd, ⟨rfl, hf⟩, h2⟩, hst⟩ := h.out
  exact ⟨_, ⟨_, D2, rfl, hd, ⟨gc, a, c, rfl, hf⟩, h2⟩, hst⟩
theorem MemS.rf {w0 w : World} {D0 : List Nat} (l : List Asn) {p gc : Nat} {a : Option Addr} {c : Nat} {ck : List Int} {L : List Rt} {r : List Asn} [Stables l] [Stables r] (h : MemS w0 D0 w (l ++ RefX p gc a c ck L :: r)) : Rf w p gc a c ck L := by
  obtain ⟨D, _, hf⟩ := h.get l
  exact hf
theorem rTicks_every {node c : Int} {L : List Rt} (h : ∀ t ∈ L, 0 ≤ t.every ∧ t.every ≤ 1099511627776) : ∀ j : Nat, ∀ t ∈ (rTicks node c L j).2, 0 ≤ t.every ∧ t.every ≤ 1099511627776
  | 0 => h
  | j + 1 => fun t ht => by
    obtain ⟨x, hx, hu⟩ := List.mem_filterMap.1 (show t ∈ List.filterMap (rUpd node (c + ((j + 1 : Nat) : Int))) (rTicks node c L j).2 from ht)
    have := rTicks_every h j x hx
    unfold rUpd at hu
    split at hu
    · split at hu
      · cases hu
      · simp only [Option.some.injEq] at hu; subst hu; exact this
    · simp only [Option.some.injEq] at hu; subst hu; exact this
end Go.Proofs.Ytcolaafgjlaikaa
