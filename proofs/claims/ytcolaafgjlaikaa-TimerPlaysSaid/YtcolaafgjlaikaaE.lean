/- drop. -/
import Derived.Test.YtcolaafgjlaikaaD
namespace Go.Proofs.Ytcolaafgjlaikaa
open Go.RowKit

set_option maxHeartbeats 400000 in
theorem pt_drop1 (x : Tm) (id : Int) (bi : Nat) (w : World) (hb : w.cell? ⟨bi, 0, none⟩ = some (.int .i64 id)) (hlt : bi < w.heap.size) :
    Calls Try.prog 31 #[.agg #[.int .i64 x.id, .int .i64 x.due, .int .i64 x.every], .pointer (some ⟨bi, 0, none⟩)] w fun e w' => e = .returned (.bool (x.id == id)) ∧ Below w.heap.size w w' := by
  have hne : ¬ bi = w.heap.size := by omega
  obtain ⟨xi, xd, xe⟩ := x
  generalize hq : (xi == id) = q
  have HQ := Lib.hid hq
  clear hq
  go_enter Try.func31, Try.ntmps31
  go_wp2_with fail
  go_ret
  exact ⟨by rw [← HQ.out]; rfl, Below.alloc (Below.refl _ _) (Nat.le_refl _) _⟩

def keepT (id : Int) (l : List Tm) : List Tm := l.filter fun x => !(x.id == id)

def DropPost (g o : Nat) (cur : Array Value) (a : Option Addr) (c : Nat) (l : List Tm) (l' : List Tm) (w : World) (e : Ending) (w' : World) : Prop :=
  e = .returned (.bool (decide (l'.length < l.length))) ∧ w'.heap[g]? = some (.cells (cur.set! (o + 1) (.slice a l'.length c)) 58 (0, 0)) ∧ Row w' 61 3 a l'.length c (flat l') ∧ Touch (g :: blkOf a) w w'

theorem pt_drop_del (g o : Nat) (cur : Array Value) (a : Option Addr) (c : Nat) (l : List Tm) (id : Int) (w W : World) (bi : Nat) (hg : w.heap[g]? = some (.cells cur 58 (0, 0))) (h1 : cur[o + 1]? = some (.slice a l.length c))
    (hr : Row w 61 3 a l.length c (flat l)) (hga : g ∉ blkOf a) (hbig : l.length ≤ 1000) (hW : Below w.heap.size w W) (hbi : w.heap.size ≤ bi) (hbl : bi < W.heap.size) (hb : W.cell? ⟨bi, 0, none⟩ = some (.int .i64 id)) :
    Calls Try.prog 30 #[.slice a l.length c, .func (.func 31) #[] #[.pointer (some ⟨bi, 0, none⟩)]] W fun e W' => e = .returned (.slice a (keepT id l).length c) ∧ W'.cell? ⟨g, o + 1, none⟩ = some (.slice a l.length c) ∧ W'.frozen? ⟨g, o + 1, none⟩ = false
      ∧ (W'.setCell ⟨g, o + 1, none⟩ (.slice a (keepT id l).length c)).cell? ⟨g, o + 1, none⟩ = some (.slice a (keepT id l).length c)
      ∧ DropPost g o cur a c l (keepT id l) w (.returned (.bool (decide ((keepT id l).length < l.length)))) (W'.setCell ⟨g, o + 1, none⟩ (.slice a (keepT id l).length c)) := by
  have hglt : g < w.heap.size := by
    rcases Nat.lt_or_ge g w.heap.size with h | h
    · exact h
    · rw [Array.getElem?_eq_none h] at hg; cases hg
  have hlt : ∀ x ∈ blkOf a, x < w.heap.size := fun x hx => by obtain ⟨y, hy, rfl⟩ := mem_blkOf.1 hx; exact hr.lt y hy
  refine (dr_del bi (fun x => x.id == id) (fun W => bi < W.heap.size ∧ W.cell? ⟨bi, 0, none⟩ = some (.int .i64 id)) (fun W W' h hB => ⟨Nat.lt_of_lt_of_le h.1 hB.size, (hB.cell h.1).trans h.2⟩)
    (fun x W h => pt_drop1 x id bi W h.2 h.1) a (fun W W' h hT => ⟨Nat.lt_of_lt_of_le h.1 hT.size, hT.cell h.2 (fun hm => by have := hlt _ hm; simp at this; omega)⟩) l.length c l W ⟨hbl, hb⟩ (hr.touch (Touch.of_below hW []) (by simp)) (by omega)).mono ?_
  rintro e W' ⟨rfl, hrow, ht⟩
  have hg' : W'.heap[g]? = some (.cells cur 58 (0, 0)) := ht.heap ((hW.block g hglt).trans hg) hga
  obtain ⟨hc, hfz⟩ := cell_of_heap hg' h1
  have hs := heap_set (i := o + 1) hg' (.slice a (keepT id l).length c)
  have hlt1 : o + 1 < cur.size := by
    rcases Nat.lt_or_ge (o + 1) cur.size with h | h
    · exact h
    · rw [Array.getElem?_eq_none h] at h1; cases h1
  refine ⟨rfl, hc, hfz, (cell_of_heap hs (by simp [hlt1])).1, rfl, hs, ?_, ?_⟩
  · exact hrow.touch (Touch.setCell (bs := [g]) _ _ _ (by simp)) (fun x hx h => hga (mem_blkOf.2 ⟨x, hx, by simpa using h⟩))
  · exact ((Touch.of_below hW (g :: blkOf a)).trans (ht.mono (cs := g :: blkOf a) (fun x hx => .inl (by simp [hx]))) (fun x hx => .inl hx)).trans (Touch.setCell (bs := g :: blkOf a) _ _ _ (by simp)) (fun x hx => .inl hx)

set_option maxRecDepth 100000 in
set_option maxHeartbeats 2000000 in
theorem pt_drop (g o : Nat) (cur : Array Value) (a : Option Addr) (c : Nat) (l : List Tm) (id : Int) (w : World) (hg : w.heap[g]? = some (.cells cur 58 (0, 0))) (h1 : cur[o + 1]? = some (.slice a l.length c))
    (hr : Row w 61 3 a l.length c (flat l)) (hga : g ∉ blkOf a) (hbig : l.length ≤ 1000) :
    Calls Try.prog 24 #[.pointer (some ⟨g, o, none⟩), .int .i64 id] w (DropPost g o cur a c l (keepT id l) w) := by
  have hglt : g < w.heap.size := by
    rcases Nat.lt_or_ge g w.heap.size with h | h
    · exact h
    · rw [Array.getElem?_eq_none h] at hg; cases hg
  obtain ⟨hc, hf⟩ := cell_of_heap hg h1
  have HI := Lib.hid (pt_drop_del g o cur a c l id w (w.alloc (.cells #[.int .i64 id] 3)) w.heap.size hg h1 hr hga hbig (Below.alloc (Below.refl _ _) (Nat.le_refl _) _) (Nat.le_refl _) (by simp) (by simp [go_sem]))
  have hgne : ¬ g = w.heap.size := by omega
  clear hg h1 hr hga
  generalize hR : DropPost g o cur a c l (keepT id l) w = R at *
  clear hR
  generalize (keepT id l).length = m at *
  go_enter Try.func24, Try.ntmps24
  go_wp2_with fail

  refine HI.out.mono ?_
  rintro e w3 ⟨rfl, hc3, hf3, hc4, hfin⟩
  go_wp2_with fail
  exact hfin
end Go.Proofs.Ytcolaafgjlaikaa
