/- put and drop. -/
import Derived.Test.YtcolaafgjlaikaaC
import Derived.Deep.RegionLaw
namespace Go.Proofs.Ytcolaafgjlaikaa
open Go.RowKit

theorem cell_of_heap {w : World} {g i : Nat} {cur : Array Value} {T : TypeId} {v : Value} (hg : w.heap[g]? = some (.cells cur T (0, 0))) (h : cur[i]? = some v) :
    w.cell? ⟨g, i, none⟩ = some v ∧ w.frozen? ⟨g, i, none⟩ = false := by
  constructor
  · simp only [World.cell?, hg]; simpa using h
  · simp only [World.frozen?, hg]; simp
theorem heap_set {w : World} {g i : Nat} {cur : Array Value} {T : TypeId} (hg : w.heap[g]? = some (.cells cur T (0, 0))) (v : Value) : (w.setCell ⟨g, i, none⟩ v).heap[g]? = some (.cells (cur.set! i v) T (0, 0)) := by
  simp [World.setCell, Array.getElem?_modify, hg]
theorem flat_one : ∀ (l : List Tm), ∀ u ∈ flat l, u.oneCell' = true
  | [], _, h => by cases h
  | t :: r, u, h => by
    simp only [flat, List.mem_cons, List.mem_append] at h
    rcases h with rfl | rfl | rfl | h
    · rfl
    · rfl
    · rfl
    · exact flat_one r u h

/-- where a timer is put. -/
def putAt (l : List Tm) (t : Tm) (k : Nat) : Prop := k ≤ l.length ∧ (∀ j (h : j < l.length), j < k → cmpT l[j] t < 0) ∧ ∀ j (h : j < l.length), k ≤ j → 0 ≤ cmpT l[j] t

def PutPost (g o : Nat) (cur : Array Value) (a : Option Addr) (l' : List Tm) (w : World) (e : Ending) (w' : World) : Prop :=
  ∃ a' c', e = .returned (.tuple #[]) ∧ w'.heap[g]? = some (.cells (cur.set! (o + 1) (.slice a' l'.length c')) 58 (0, 0)) ∧ Row w' 61 3 a' l'.length c' (flat l') ∧ Touch (g :: blkOf a) w w' ∧ Fresh w a a'

theorem flat_ins (l : List Tm) (t : Tm) (k : Nat) : (flat l).take (k * 3) ++ [Value.int .i64 t.id, .int .i64 t.due, .int .i64 t.every] ++ (flat l).drop (k * 3) = flat (l.take k ++ t :: l.drop k) := by
  rw [flat_take, flat_drop, flat_append]; simp [flat]

theorem pt_put_ins (g o : Nat) (cur : Array Value) (a : Option Addr) (c : Nat) (l : List Tm) (t : Tm) (k : Nat) (w W : World) (vb : Nat) (hg : w.heap[g]? = some (.cells cur 58 (0, 0))) (h1 : cur[o + 1]? = some (.slice a l.length c))
    (hr : Row w 61 3 a l.length c (flat l)) (hga : g ∉ blkOf a) (hk : k ≤ l.length) (hbig : l.length ≤ 1000) (hW : Below w.heap.size w W)
    (hv : W.heap[vb]? = some (.cells [Value.int .i64 t.id, .int .i64 t.due, .int .i64 t.every].toArray 61 (0, 0))) (hvb : w.heap.size ≤ vb) :
    Calls Try.prog 36 #[.slice a l.length c, .int .i64 k, .slice (some ⟨vb, 0, none⟩) 1 1] W fun e W' => ∃ a' c', e = .returned (.slice a' (l.length + 1) c') ∧ W'.cell? ⟨g, o + 1, none⟩ = some (.slice a l.length c) ∧ W'.frozen? ⟨g, o + 1, none⟩ = false
      ∧ PutPost g o cur a (l.take k ++ t :: l.drop k) w (.returned (.tuple #[])) (W'.setCell ⟨g, o + 1, none⟩ (.slice a' (l.length + 1) c')) := by
  have hglt : g < w.heap.size := by
    rcases Nat.lt_or_ge g w.heap.size with h | h
    · exact h
    · rw [Array.getElem?_eq_none h] at hg; cases hg
  have hlt : ∀ x ∈ blkOf a, x < w.heap.size := fun x hx => by obtain ⟨y, hy, rfl⟩ := mem_blkOf.1 hx; exact hr.lt y hy
  refine (insT_any a l.length c k vb (flat l) _ W (hr.touch (Touch.of_below hW []) (by simp)) hv rfl (fun h => by have := hlt _ h; omega) (flat_one l) (by simp [Value.oneCell']) hk (by omega)).mono ?_
  rintro e W' ⟨a', c', rfl, hrow, ht, hf⟩
  have hg' : W'.heap[g]? = some (.cells cur 58 (0, 0)) := ht.heap ((hW.block g hglt).trans hg) hga
  obtain ⟨hc, hfz⟩ := cell_of_heap hg' h1
  have hll : (l.take k ++ t :: l.drop k).length = l.length + 1 := by simp; omega
  have hga' : g ∉ blkOf a' := fun h => by
    obtain ⟨x, hx, hxg⟩ := mem_blkOf.1 h
    rcases hf x hx with h | h
    · exact hga (hxg ▸ h)
    · have := hW.size; omega
  refine ⟨a', c', rfl, hc, hfz, a', c', rfl, ?_, ?_, ?_, ?_⟩
  · rw [hll]; exact heap_set hg' _
  · rw [hll, ← flat_ins]
    exact hrow.touch (Touch.setCell (bs := [g]) _ _ _ (by simp)) (fun x hx h => hga' (mem_blkOf.2 ⟨x, hx, by simpa using h⟩))
  · refine ((Touch.of_below hW (g :: blkOf a)).trans (ht.mono (cs := g :: blkOf a) (fun x hx => .inl (by simp [hx]))) (fun x hx => .inl hx)).trans (Touch.setCell (bs := g :: blkOf a) _ _ _ (by simp)) (fun x hx => .inl hx)
  · intro x hx
    rcases hf x hx with h | h
    · exact .inl h
    · exact .inr (by have := hW.size; omega)

set_option maxRecDepth 100000 in
set_option maxHeartbeats 4000000 in
theorem pt_put (g o : Nat) (cur : Array Value) (a : Option Addr) (c : Nat) (l : List Tm) (t : Tm) (k : Nat) (w : World) (hg : w.heap[g]? = some (.cells cur 58 (0, 0))) (h1 : cur[o + 1]? = some (.slice a l.length c))
    (hr : Row w 61 3 a l.length c (flat l)) (hga : g ∉ blkOf a) (hk : putAt l t k) (hbig : l.length ≤ 1000) :
    Calls Try.prog 25 #[.pointer (some ⟨g, o, none⟩), .agg #[.int .i64 t.id, .int .i64 t.due, .int .i64 t.every]] w (PutPost g o cur a (l.take k ++ t :: l.drop k) w) := by
  have hglt : g < w.heap.size := by
    rcases Nat.lt_or_ge g w.heap.size with h | h
    · exact h
    · rw [Array.getElem?_eq_none h] at hg; cases hg
  obtain ⟨hc, hf⟩ := cell_of_heap hg h1
  have HG := Lib.hid hg
  have H1 := Lib.hid h1
  have HR := Lib.hid hr
  have HK := Lib.hid hk
  have HGA := Lib.hid hga
  generalize hR : PutPost g o cur a (l.take k ++ t :: l.drop k) w = R
  have HRR := Lib.hid hR
  clear hR hg h1 hr hga hk
  obtain ⟨w0, hw0⟩ : ∃ w0, w0 = w.alloc (.cells #[.int .i64 t.id, .int .i64 t.due, .int .i64 t.every] 61) := ⟨_, rfl⟩
  have hsz : w0.heap.size = w.heap.size + 1 := by rw [hw0]; simp
  have hb0 : Below w.heap.size w w0 := by rw [hw0]; exact Below.alloc (Below.refl w.heap.size w) (Nat.le_refl _) _
  have ht0 : CellsOf w0 w.heap.size 0 t := by rw [hw0]; exact flat_new w t 61
  have HBs := Lib.hid fun W (hW : Below w0.heap.size w0 W) => ((pt_bsf cmpT pt_put1 a l.length c l t k W (Row.touch HR.out (Touch.of_below (hb0.trans (hW.mono (by omega))) []) (by simp)) (by omega) HK.out.1 HK.out.2.1 HK.out.2.2).mono fun e W' h =>
    (⟨h.1, hW.trans (h.2.mono hW.size)⟩ : e = .returned (.tuple #[.int .i64 k, .bool (foundAt cmpT l t k)]) ∧ Below w0.heap.size w0 W'))
  have K8 := Lib.hid fun W (hW : Below w0.heap.size w0 W) => (⟨hW, ((hb0.trans (hW.mono (by omega))).cell (p := ⟨g, o + 1, none⟩) hglt).trans hc, flat_keep hW ht0⟩ : Below w0.heap.size w0 W ∧ W.cell? ⟨g, o + 1, none⟩ = some (.slice a l.length c) ∧ CellsOf W w.heap.size 0 t)
  have F8 := Lib.hid fun W (hW : Below w0.heap.size w0 W) => ((hb0.trans (hW.mono (by omega))).frozen (p := ⟨g, o + 1, none⟩) hglt).trans hf
  have HB0 := Lib.hid hb0
  have HSZ := Lib.hid hsz
  clear hb0 ht0 hsz hc hf
  obtain ⟨tid, tdue, tevery⟩ := t
  simp only [CellsOf] at K8
  simp only at hw0 HBs
  generalize foundAt cmpT l ⟨tid, tdue, tevery⟩ k = fd at *
  go_enter Try.func25, Try.ntmps25
  go_wp2_with fail
  rw [← hw0]
  have HW0 := Lib.hid hw0
  clear hw0
  have hb1 := (Below.refl w0.heap.size w0).drew
  go_region_held3 (fun w' => Below w0.heap.size w0 w' ∧ w'.cell? ⟨g, o + 1, none⟩ = some (.slice a l.length c) ∧ w'.cell? ⟨w.heap.size, 0, none⟩ = some (.int .i64 tid) ∧ w'.cell? ⟨w.heap.size, 1, none⟩ = some (.int .i64 tdue) ∧ w'.cell? ⟨w.heap.size, 2, none⟩ = some (.int .i64 tevery)) (exact K8.out _ (by first | assumption | (go_split_ands; assumption)))
    ((go_at_call 32; refine (HBs.out _ (by first | assumption | (go_split_ands; assumption))).mono ?_; rintro e w2 ⟨rfl, hb2⟩))
  go_wp2_with fail
  have ⟨hB2, hc2, hx0, hx1, hx2⟩ := K8.out _ hb2
  have HI := Lib.hid fun W (hW : Below w2.heap.size w2 W) vb (hv : W.heap[vb]? = some (.cells [Value.int .i64 tid, .int .i64 tdue, .int .i64 tevery].toArray 61 (0, 0))) (hvb : w2.heap.size ≤ vb) =>
    pt_put_ins g o cur a c l ⟨tid, tdue, tevery⟩ k w W vb HG.out H1.out HR.out HGA.out HK.out.1 hbig ((HB0.out.trans (hb2.mono (by have := HSZ.out; omega))).trans (hW.mono (by have := hb2.size; have := HSZ.out; omega))) hv (by have := hb2.size; have := HSZ.out; omega)
  rw [HRR.out] at HI
  have HI2 := Lib.hid (HI.out (w2.alloc (.cells #[Value.int .i64 tid, .int .i64 tdue, .int .i64 tevery] 61)).drew (Below.drew (Below.alloc (Below.refl _ _) (Nat.le_refl _) _)) w2.heap.size (by show (w2.heap.push _)[w2.heap.size]? = _; rw [Array.getElem?_push, if_pos rfl]) (Nat.le_refl _))
  clear HI
  have hF2 := F8.out _ hb2
  have hgl2 : g < w2.heap.size := by have := hb2.size; have := HSZ.out; omega
  have hgne : ¬ g = w2.heap.size := by omega
  go_region_with (go_at_call 36; refine HI2.out.mono ?_; rintro e w3 ⟨a', c', rfl, hc3, hf3, hfin⟩)
  all_goals
    go_wp2_with fail
    go_end0
    exact hfin
end Go.Proofs.Ytcolaafgjlaikaa
