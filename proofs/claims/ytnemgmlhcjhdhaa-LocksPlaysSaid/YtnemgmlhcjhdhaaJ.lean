/- put. -/
import Derived.Test.YtnemgmlhcjhdhaaI
import Derived.Test.YtnemgmlhcjhdhaaB
import Derived.Test.YtnemgmlhcjhdhaaD
import Derived.Test.YtnemgmlhcjhdhaaG
namespace Go.Proofs.Ytnemgmlhcjhdhaa
open Go.RowKit
theorem Row.setCell {w : World} {E k g n c : Nat} {xs : List Value} (h : Row w E k (some ⟨g, 0, none⟩) n c xs) (j : Nat) (v : Value) : Row (w.setCell ⟨g, j, none⟩ v) E k (some ⟨g, 0, none⟩) n c (xs.set j v) := by
  rcases h.out with ⟨e, _⟩ | ⟨g', cur, e, hg, h1, h2, h3, h4, h5⟩
  · cases e
  · obtain rfl : g = g' := by simpa using e
    refine Row.mk (heap_set hg v) h1 h2 (by simpa using h3) ?_
    rw [← h4]
    simp [List.take_set]
theorem row_cell {w : World} {E k g n c : Nat} {xs : List Value} (h : Row w E k (some ⟨g, 0, none⟩) n c xs) {j : Nat} {v : Value} (hj : xs[j]? = some v) : w.cell? ⟨g, j, none⟩ = some v ∧ w.frozen? ⟨g, j, none⟩ = false := by
  rcases h.out with ⟨e, _⟩ | ⟨g', cur, e, hg, h1, h2, h3, h4, _⟩
  · cases e
  · obtain rfl : g = g' := by simpa using e
    have hc : cur[j]? = some v := by
      rw [← h4, List.getElem?_take] at hj
      split at hj
      · simpa using hj
      · cases hj
    exact cell_of_heap hg hc
theorem hdFlat_set : ∀ (M : List Hd) (q : Nat) (h : q < M.length) (t : Hd), ((hdFlat M).set (q * 2) (.int .i64 t.owner)).set (q * 2 + 1) (.int .i64 t.mode) = hdFlat (M.set q t)
  | [], _, h, _ => by cases h
  | x :: r, 0, _, t => by simp [hdFlat]
  | x :: r, q + 1, h, t => by
    have := hdFlat_set r q (by simpa using h) t
    rw [show (q + 1) * 2 = (q * 2) + 1 + 1 by omega, show (q * 2 + 1 + 1) + 1 = (q * 2 + 1) + 1 + 1 by omega]
    simp only [hdFlat, List.set_cons_succ]
    rw [this]
theorem hdFlat_ins (l : List Hd) (t : Hd) (k : Nat) : (hdFlat l).take (k * 2) ++ hdCells t ++ (hdFlat l).drop (k * 2) = hdFlat (l.take k ++ t :: l.drop k) := by
  rw [hdFlat_take, hdFlat_drop, hdFlat_append, hdFlat_cons, List.append_assoc]
theorem row_len {w : World} {a : Option Addr} {n c : Nat} {l : List Hd} (h : Row w 36 2 a n c (hdFlat l)) : n = l.length := by
  have := h.len; rw [hdFlat_len] at this; omega
set_option maxRecDepth 100000 in
set_option maxHeartbeats 2000000 in
theorem put_any (a : Option Addr) (n c : Nat) (l : List Hd) (h : Hd) (w : World) (hr : Row w 36 2 a n c (hdFlat l)) (hs : SortH l) (hn : n ≤ 1000000) :
    Calls Try.prog 61 #[.slice a n c, .agg #[.int .i64 h.owner, .int .i64 h.mode]] w fun e w' => ∃ a' n' c', e = .returned (.slice a' n' c') ∧ n' = (putH l h).length ∧ Row w' 36 2 a' n' c' (hdFlat (putH l h)) ∧ Touch (blkOf a) w w' ∧ Fresh w a a' := by
  obtain rfl := row_len hr
  have HP := Lib.hid fun W (hb : Below w.heap.size w W) => put_bsf (fun (x : Hd) (t : Int) => cmpI x.owner t) put1_any a l.length c l h.owner (posH l h.owner) W (hr.below hb) (by omega) (posBy_le _ _) (fun j hj hl => (cmpI_neg _ _).2 (posH_lt h.owner j hj hl)) (fun j hj hl => by
    have := posH_ge hs h.owner j hj hl
    rcases Int.lt_or_le (cmpI l[j].owner h.owner) 0 with h2 | h2
    · have := (cmpI_neg _ _).1 h2; omega
    · exact h2)
  rw [foundH hs] at HP
  have hp2 : putH l h = if hasH l h.owner then l.set (posH l h.owner) h else l.take (posH l h.owner) ++ h :: l.drop (posH l h.owner) := rfl
  have HK := Lib.hid (posBy_le (fun m : Hd => decide (m.owner < h.owner)) l)
  change Hid (posH l h.owner ≤ l.length) at HK
  cases hh : hasH l h.owner with
  | true =>
    rw [hh] at HP
    obtain ⟨hk, _⟩ := (hasH_iff hs h.owner).1 hh
    rw [hp2, hh]
    simp only [if_true]
    obtain ⟨g, rfl, hcs0⟩ := hdAt_row hr (posH l h.owner) hk
    have HR := Lib.hid hr
    have HFS := Lib.hid (hdFlat_set l (posH l h.owner) hk h)
    clear hr hs hh hp2
    generalize posH l h.owner = k at *
    obtain ⟨ho, hm⟩ := h
    simp only at HP HFS ⊢
    go_enter Try.func61, Try.ntmps61
    go_wp2_with fail
    refine (HP.out _ (bel_new _ _)).mono ?_
    rintro e w1 ⟨rfl, hb⟩
    obtain ⟨hx0, hx1⟩ := (hdAt_new w ⟨ho, hm⟩ 36).below hb
    simp only [Nat.zero_add] at hx0 hx1
    have HB := Lib.hid ((bel_new w _).trans (hb.mono (by simp only [World.size_alloc]; omega)))
    obtain ⟨hc0, hf0⟩ := row_cell (HR.out.below HB.out) (hdFlat_get l k hk).1
    obtain ⟨hc1, hf1⟩ := row_cell (HR.out.below HB.out) (hdFlat_get l k hk).2
    clear hb hcs0
    go_wp2_with fail
    go_ret
    refine ⟨_, _, _, rfl, (List.length_set ..).symm, ?_, ?_, Fresh.refl _ _⟩
    · rw [← HFS.out]
      exact Row.setCell (Row.setCell (HR.out.below HB.out) _ _) _ _
    · exact (Touch.of_below HB.out _).trans ((Touch.setCell _ _ _ (by simp [blkOf])).trans (Touch.setCell _ _ _ (by simp [blkOf])) fun _ h => .inl h) fun _ h => .inl h
  | false =>
    rw [hh] at HP
    rw [hp2, hh]
    simp only [Bool.false_eq_true, if_false]
    have hlen : (l.take (posH l h.owner) ++ h :: l.drop (posH l h.owner)).length = l.length + 1 := by have := HK.out; simp; omega
    rw [hlen, ← hdFlat_ins]
    have HI := Lib.hid fun W (hb : Below w.heap.size w W) vb (hv : W.heap[vb]? = some (.cells (hdCells h).toArray 36 (0, 0))) (hvb : w.heap.size ≤ vb) =>
      insH_any a l.length c (posH l h.owner) vb (hdFlat l) (hdCells h) W (hr.below hb) hv rfl (fun h => by obtain ⟨y, hy, rfl⟩ := mem_blkOf.1 h; have := hr.lt y hy; omega) (hdFlat_one l) (hdCells_one h) HK.out (by omega)
    clear hr hs hh hp2 hlen
    have hkn : (posH l h.owner : Int) ≤ 1000000 := by have := HK.out; omega
    generalize posH l h.owner = k at *
    obtain ⟨ho, hm⟩ := h
    simp only [hdCells] at HP HI ⊢
    go_enter Try.func61, Try.ntmps61
    go_wp2_with fail
    refine (HP.out _ (bel_new _ _)).mono ?_
    rintro e w1 ⟨rfl, hb⟩
    obtain ⟨hx0, hx1⟩ := (hdAt_new w ⟨ho, hm⟩ 36).below hb
    simp only [Nat.zero_add] at hx0 hx1
    have HB := Lib.hid ((bel_new w _).trans (hb.mono (by simp only [World.size_alloc]; omega)))
    clear hb
    go_wp2_with fail
    refine (HI.out (w1.alloc (.cells #[.int .i64 ho, .int .i64 hm] 36)) (HB.out.trans ((bel_new _ _).mono HB.out.size)) w1.heap.size (heap_new _ _) HB.out.size).mono ?_
    rintro e w2 ⟨a', c', rfl, hrow, ht, hf⟩
    have HF : Hid (Row w2 36 2 a' (l.length + 1) c' (List.take (k * 2) (hdFlat l) ++ [Value.int IntKind.i64 ho, Value.int IntKind.i64 hm] ++ List.drop (k * 2) (hdFlat l)) ∧ Touch (blkOf a) w w2 ∧ Fresh w a a') := Lib.hid ⟨hrow, (Touch.of_below (HB.out.trans ((bel_new _ _).mono HB.out.size)) _).trans ht fun _ h => .inl h, fun x hx => (hf x hx).imp id fun h => by
      have := HB.out.size
      simp only [World.size_alloc] at h
      omega⟩
    clear hrow ht hf HI
    go_wp2_with fail
    go_ret
    exact ⟨_, _, _, rfl, rfl, HF.out.1, HF.out.2.1, HF.out.2.2⟩
end Go.Proofs.Ytnemgmlhcjhdhaa
