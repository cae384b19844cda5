/- Skip: the facts of its loop. -/
import Derived.Test.YtcolaafgjlaikaaR
namespace Go.Proofs.Ytcolaafgjlaikaa
open Go.RowKit

def ints (o : List Int) : List Value := o.map (Value.int .i64)
theorem ints_len (o : List Int) : (ints o).length = o.length := by simp [ints]
theorem ints_one (o : List Int) : ∀ u ∈ ints o, u.oneCell' = true := by
  intro u hu; obtain ⟨x, _, rfl⟩ := List.mem_map.1 hu; rfl

/-- a row of ints, and a board beside it. -/
structure SkSt (w wr : World) (p N : Nat) (ns nsr : List Nd) (i : Nat) (clk : Int) (l : List Tm) (a : Option Addr) (c : Nat) (o : List Int) : Prop where
  row : Row wr 3 1 a o.length c (ints o)
  to : BdTo w wr p N ns nsr
  view : viewB nsr = (viewB ns).set i (clk, l)
  apart : ∀ g ∈ blkOf a, w.heap.size ≤ g ∧ g ∉ domB p N nsr

theorem BdTo.view_set {w w' : World} {p N i : Nat} {ns ns' : List Nd} {x y : Int × List Tm} (h : viewB ns' = (viewB ns).set i y) (ns2 : List Nd) (h2 : viewB ns2 = (viewB ns').set i x) : viewB ns2 = (viewB ns).set i x := by
  rw [h2, h, List.set_set]

theorem info3 : (Try.prog.info? 3).map (fun i => (i.zero, i.size, i.bytes)) = some (some (.int .i64 0), 1, 8) := by kernel_rfl

/-- one int is put behind a row. -/
theorem app_int (w : World) (ty : TypeId) (a : Option Addr) (n c : Nat) (xs : List Value) (hr : Row w 3 1 a n c xs) (v : Int) (hbig : n ≤ 1000000) :
    ∃ b' cap' w', (Builtin.append_ #[27, 27] ty #[.slice a n c, .slice (some ⟨w.heap.size, 0, none⟩) 1 1]).run Try.prog (w.alloc (.cells #[.int .i64 v] 3)) = .ok (.slice b' (n + 1) cap') w' ∧
      Row w' 3 1 b' (n + 1) cap' (xs ++ [.int .i64 v]) ∧ Touch (blkOf a) w w' ∧ Fresh w a b' ∧ w.heap.size + 1 ≤ w'.heap.size ∧ ∀ x, b' = some x → x.block ≠ w.heap.size := by
  obtain ⟨i0, hi, hz0, hz1, hz2⟩ := info_parts info3
  have hb : Below w.heap.size w (w.alloc (.cells #[.int .i64 v] 3)) := Below.alloc (Below.refl _ _) (Nat.le_refl _) _
  have hr1 := hr.touch (Touch.of_below hb []) (by simp)
  obtain ⟨b', cap', w', h1, h2, h3, h4⟩ := run_append_row (P := Try.prog) (w.alloc (.cells #[.int .i64 v] 3)) 27 ty 3 i0 (.int .i64 0) 1 8 Try.underlying27 hi hz0 hz1 hz2 rfl (by decide) a n c xs hr1 ⟨w.heap.size, 0, none⟩ 1 1 [.int .i64 v] rfl
    (fun j u hj => by
      match j, hj with
      | 0, hj => simp only [List.getElem?_cons_zero, Option.some.injEq] at hj; subst hj; simp [go_sem]
      | j + 1, hj => simp at hj) (by simp [Value.oneCell']) (by unfold maxLen; omega) (by omega)
  refine ⟨b', cap', w', h1, h2, (Touch.of_below hb (blkOf a)).andThen h3, fun x hx => ?_, by have := h3.size; simpa using this, fun x hx => ?_⟩
  · rcases h4 x hx with h | h
    · exact .inl h
    · exact .inr (by have := hb.size; omega)
  · rcases h4 x hx with h | h
    · obtain ⟨y, hy, e⟩ := mem_blkOf.1 h
      have := hr.lt y hy
      omega
    · simp at h; omega

theorem SkSt.app {w wr : World} {p N i : Nat} {ns nsr : List Nd} {clk : Int} {l : List Tm} {a : Option Addr} {c : Nat} {o : List Int} (h : SkSt w wr p N ns nsr i clk l a c o) {w' : World} {b' : Option Addr} {cap' : Nat} {v : Int}
    (h2 : Row w' 3 1 b' (o.length + 1) cap' (ints o ++ [.int .i64 v])) (h3 : Touch (blkOf a) wr w') (h4 : Fresh wr a b') : SkSt w w' p N ns nsr i clk l b' cap' (o ++ [v]) := by
  have hd : ∀ x ∈ domB p N nsr, x ∉ blkOf a := fun x hx hm => (h.apart x hm).2 hx
  refine ⟨by simpa [ints] using h2, ⟨h.to.bd.touch h3 hd, h.to.touch.trans (h3.mono (cs := blkOf a) fun x hx => .inl hx) (fun x hx => .inr (h.apart x hx).1), h.to.fresh⟩, h.view, fun g hg => ?_⟩
  obtain ⟨x, hx, rfl⟩ := mem_blkOf.1 hg
  rcases h4 x hx with h' | h'
  · exact h.apart _ h'
  · have := h.to.touch.size
    exact ⟨by omega, fun hm => by have := h.to.bd.lt _ hm; omega⟩

theorem SkSt.bd {w wr : World} {p N i : Nat} {ns nsr : List Nd} {clk : Int} {l : List Tm} {a : Option Addr} {c : Nat} {o : List Int} (h : SkSt w wr p N ns nsr i clk l a c o) {w' : World} {ns2 : List Nd} {l2 : List Tm} {clk2 : Int}
    (k : BdTo wr w' p N nsr ns2) (hv : viewB ns2 = (viewB nsr).set i (clk2, l2)) : SkSt w w' p N ns ns2 i clk2 l2 a c o :=
  ⟨h.row.touch k.touch fun x hx hm => (h.apart x.block (mem_blkOf.2 ⟨x, hx, rfl⟩)).2 hm, h.to.trans k, by rw [hv, h.view, List.set_set],
    fun g hg => ⟨(h.apart g hg).1, fun hm => by
      rcases k.fresh g hm with h' | h'
      · exact (h.apart g hg).2 h'
      · obtain ⟨x, hx, rfl⟩ := mem_blkOf.1 hg
        have := h.row.lt x hx; omega⟩⟩

/-- slices.Delete(x.l, 0, 1) on a board. -/
theorem pt_del0 (p N : Nat) (ns : List Nd) (i : Nat) (hi : i < ns.length) (t : Tm) (r : List Tm) (g n c : Nat) (w W : World) (h : Bd w p N ns) (hl : ns[i].l = t :: r) (ha : ns[i].a = some ⟨g, 0, none⟩) (hn : n = r.length + 1) (hc : c = ns[i].c) (hW : Below w.heap.size w W) :
    Calls Try.prog 28 #[.slice (some ⟨g, 0, none⟩) n c, .int .i64 0, .int .i64 1] W fun e W' => e = .returned (.slice (some ⟨g, 0, none⟩) r.length c) ∧ W'.cell? ⟨N, i * 2 + 1, none⟩ = some (.slice (some ⟨g, 0, none⟩) n c) ∧ W'.frozen? ⟨N, i * 2 + 1, none⟩ = false
      ∧ Touch [g] W W' ∧ ∃ ns2, BdTo w (W'.setCell ⟨N, i * 2 + 1, none⟩ (.slice (some ⟨g, 0, none⟩) r.length c)) p N ns ns2 ∧ viewB ns2 = (viewB ns).set i (ns[i].clk, r) := by
  subst hn hc
  have hr := h.row i hi
  rw [ha, hl] at hr
  have hr1 := hr.touch (Touch.of_below hW []) (by simp)
  have hgN : g ≠ N := fun e => (h.own i hi).1 (by rw [ha, e]; simp [blkOf])
  have hNl : N < w.heap.size := h.lt N (mem_domB.2 (.inr (.inl rfl)))
  rcases hr1.out with ⟨h0, _⟩ | ⟨g', cur, e, hg, h1, h2, h3, h4, h5⟩
  · cases h0
  · obtain rfl : g = g' := by simpa using e
    have hd := delT_any g (r.length + 1) ns[i].c 0 cur (flat (t :: r)) W hg h3 (by simpa using h1) h2 (by simpa using h4) (flat_one _) (by omega)
    simp only [Nat.zero_mul, List.take_zero, List.nil_append, Nat.zero_add, Nat.one_mul, Nat.add_sub_cancel, Int.natCast_zero, Int.zero_add] at hd
    refine hd.mono ?_
    rintro e W' ⟨rfl, hrow, ht⟩
    have hN' : W'.heap[N]? = some (.cells (ncells ns).toArray 58 (0, 0)) := ht.heap ((hW.block N hNl).trans h.hN) (by simpa using hgN.symm)
    obtain ⟨hc1, hf1⟩ := cell_of_heap (i := i * 2 + 1) hN' (by rw [List.getElem?_toArray]; exact (ncells_get ns i hi).2)
    rw [ha, hl] at hc1
    have hflat : (flat (t :: r)).drop 3 = flat r := rfl
    rw [hflat] at hrow
    refine ⟨rfl, by simpa using hc1, hf1, ht, _, h.step i hi ⟨ns[i].clk, some ⟨g, 0, none⟩, ns[i].c, r⟩ ?_ ?_ ?_ ?_, viewB_set ..⟩
    · rw [heap_set hN', ← ncells_set ns i hi]
      simp
    · exact hrow.touch (Touch.setCell (bs := [N]) _ _ _ (by simp)) (fun x hx => by simp only [Option.some.injEq] at hx; subst hx; simpa using hgN)
    · refine ((Touch.of_below hW (N :: blkOf ns[i].a)).andThen (ht.mono (cs := N :: blkOf ns[i].a) fun x hx => .inl ?_)).andThen (Touch.setCell _ _ _ (by simp))
      rw [ha, blkOf_some]; exact List.mem_cons_of_mem _ hx
    · rw [ha]; exact Fresh.refl _ _

/-- what Skip leaves. -/
def SkipPost (w : World) (p N : Nat) (ns : List Nd) (o : List Int) (m' : List (Int × List Tm)) (e : Ending) (w' : World) : Prop :=
  ∃ a c ns', e = .returned (.tuple #[.slice a o.length c, .int .i64 0]) ∧ Row w' 3 1 a o.length c (ints o) ∧ BdTo w w' p N ns ns' ∧ viewB ns' = m' ∧ ∀ g ∈ blkOf a, w.heap.size ≤ g ∧ g ∉ domB p N ns'

end Go.Proofs.Ytcolaafgjlaikaa
