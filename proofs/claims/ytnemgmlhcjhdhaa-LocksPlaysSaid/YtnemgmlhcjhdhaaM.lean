/- line, Holds, Waits. -/
import Derived.Test.YtnemgmlhcjhdhaaL
import Derived.Handy
namespace Go.Proofs.Ytnemgmlhcjhdhaa
open Go.RowKit
theorem row_max {w : World} {E k n c : Nat} {a : Option Addr} {xs : List Value} (h : Row w E k a n c xs) : n ≤ maxLen := by
  rcases h.out with ⟨_, h0, _, _⟩ | ⟨g, cur, e, hg, h1, h2, h3, h4, _⟩
  · rw [h0]; exact Nat.zero_le _
  · omega
/-- a line's rows, read. -/
theorem rowsOf_read {w0 w : World} {D0 : List Nat} (l : List Asn) {X : List Ln} {L : List Li} {r : List Asn} [Stables l] [Stables r] (h : Mem w0 D0 w (l ++ (rowsOf X L ++ r))) {i : Nat} (hx : i < X.length) (hl : i < L.length) :
    Row w 36 2 X[i].hs.a X[i].hs.n X[i].hs.c (hdFlat L[i].hs) ∧ Row w 36 2 X[i].qs.a X[i].qs.n X[i].qs.c (hdFlat L[i].qs) := by
  rw [rowsOf_at hx hl] at h
  constructor
  · exact Mem.rowAt (l ++ rowsOf (X.take i) (L.take i)) (r := RowH X[i].qs L[i].qs :: (rowsOf (X.drop (i + 1)) (L.drop (i + 1)) ++ r)) (by simpa [List.append_assoc] using h)
  · exact Mem.rowAt (l ++ rowsOf (X.take i) (L.take i) ++ [RowH X[i].hs L[i].hs]) (r := rowsOf (X.drop (i + 1)) (L.drop (i + 1)) ++ r) (by simpa [List.append_assoc] using h)
/-- a line that was read. -/
def LineAt (w : World) (v : Value) (l : Li) : Prop := ∃ k hs qs, v = .agg #[.string k, slv hs, slv qs] ∧ HdsAt w hs.a hs.n l.hs ∧ HdsAt w qs.a qs.n l.qs ∧ hs.n ≤ maxLen ∧ qs.n ≤ maxLen
theorem lineL_has {L : List Li} {k : ByteArray} (h : hasL L k = true) (hl : posL L k < L.length) : lineL L k = L[posL L k] := by
  unfold lineL; rw [if_pos h, List.getElem?_eq_getElem hl]; rfl
set_option maxHeartbeats 800000 in
theorem tab_line (p : Nat) (L : List Li) (k : ByteArray) (w : World) (D : List Nat) (h : TabA p L w D) (hs : SortL L) (hb : L.length ≤ 1000000) :
    Calls Try.prog 34 #[.pointer (some ⟨p, 0, none⟩), .string k] w fun e w' => (∃ v, e = .returned v ∧ LineAt w' v (lineL L k)) ∧ Below w.heap.size w w' := by
  obtain ⟨la, n, c, X, hk, hm⟩ := Mem.table (Mem.start h)
  obtain ⟨k1, k2⟩ := keys_at hk
  have hl := lnrow_len (Mem.rowAt [BlockA p #[.slice la n c] 59] (r := rowsOf X L ++ []) hm)
  obtain ⟨hc, -⟩ := Mem.cellAt (i := 0) (v := .slice la n c) [] (r := RowA 34 3 la n c (lnFlat X) :: (rowsOf X L ++ [])) hm rfl
  have HF := Lib.hid fun W (hb' : Below w.heap.size w W) => tab_find p la n c X L k W ((hb'.cell (World.block_lt_of_cell? w _ hc)).trans hc) ((Mem.rowAt [BlockA p #[.slice la n c] 59] (r := rowsOf X L ++ []) hm).below hb') hk hs hb
  cases hh : hasL L k with
  | false =>
    have hv : lineL L k = ⟨ByteArray.empty, [], []⟩ := by unfold lineL; rw [hh]; rfl
    rw [hh] at HF
    rw [hv]
    clear hm hk k1 k2 hs hh hv hc h
    go_enter Try.func34, Try.ntmps34
    go_wp2_with fail
    refine (HF.out _ (bel_new _ _)).mono ?_
    rintro e w1 ⟨rfl, hb⟩
    have hblk : w1.heap[w.heap.size]? = some (.cells #[.string ⟨#[]⟩, .slice none 0 0, .slice none 0 0] 34 (0, 0)) := (hb.block _ (by simp only [World.size_alloc]; omega)).trans (heap_new w _)
    obtain ⟨z0, y0⟩ := cell_of_heap (i := 0) (v := .string ⟨#[]⟩) hblk rfl
    obtain ⟨z1, y1⟩ := cell_of_heap (i := 1) (v := .slice none 0 0) hblk rfl
    obtain ⟨z2, y2⟩ := cell_of_heap (i := 2) (v := .slice none 0 0) hblk rfl
    have HB := Lib.hid ((bel_new w _).trans (hb.mono (by simp only [World.size_alloc]; omega)))
    have HBL := Lib.hid hblk
    clear hb hblk
    go_wp2_with fail
    have hB3 : Below w.heap.size w (((w1.setCell ⟨w.heap.size, 0, none⟩ (.string ⟨#[]⟩)).setCell ⟨w.heap.size, 1, none⟩ (.slice none 0 0)).setCell ⟨w.heap.size, 2, none⟩ (.slice none 0 0)) := ((HB.out.setCell (Nat.le_refl _) _).setCell (Nat.le_refl _) _).setCell (Nat.le_refl _) _
    have hh3 := heap_set (i := 2) (heap_set (i := 1) (heap_set (i := 0) HBL.out (.string ⟨#[]⟩)) (.slice none 0 0)) (.slice none 0 0)
    obtain ⟨W3, hW3⟩ : ∃ W3, W3 = (((w1.setCell ⟨w.heap.size, 0, none⟩ (.string ⟨#[]⟩)).setCell ⟨w.heap.size, 1, none⟩ (.slice none 0 0)).setCell ⟨w.heap.size, 2, none⟩ (.slice none 0 0)) := ⟨_, rfl⟩
    rw [← hW3] at hB3 hh3 ⊢
    obtain ⟨v0, -⟩ := cell_of_heap (i := 0) (v := .string ⟨#[]⟩) hh3 rfl
    obtain ⟨v1, -⟩ := cell_of_heap (i := 1) (v := .slice none 0 0) hh3 rfl
    obtain ⟨v2, -⟩ := cell_of_heap (i := 2) (v := .slice none 0 0) hh3 rfl
    refine bodyPost_ret (by simp [results, Try.results34, go_sem, v0, v1, v2]; try rfl) rfl ?_
    exact ⟨⟨_, rfl, _, ⟨none, 0, 0⟩, ⟨none, 0, 0⟩, rfl, ⟨rfl, fun j h => by cases h⟩, ⟨rfl, fun j h => by cases h⟩, Nat.zero_le _, Nat.zero_le _⟩, hB3⟩
  | true =>
    obtain ⟨hpl, _⟩ := (hasL_iff hs k).1 hh
    have hv := lineL_has hh hpl
    rw [hh] at HF
    rw [hv]
    obtain ⟨r1, r2⟩ := rowsOf_read [BlockA p #[.slice la n c] 59, RowA 34 3 la n c (lnFlat X)] hm (i := posL L k) (by omega) hpl
    obtain ⟨g, rfl, hcs⟩ := lnAt_row (Mem.rowAt [BlockA p #[.slice la n c] 59] (r := rowsOf X L ++ []) hm) (posL L k) (by omega)
    have HR := Lib.hid (And.intro r1 r2)
    have hqn : posL L k < n := by omega
    clear hm hk k2 hs hh hv h r1 r2
    generalize X[posL L k] = z at hcs HR
    generalize L[posL L k] = l at HR ⊢
    rename_i hkey
    clear hl k1 hkey hpl
    generalize posL L k = q at *
    obtain ⟨zk, ⟨ha, hn, hcap⟩, ⟨qa, qn, qc⟩⟩ := z
    go_enter Try.func34, Try.ntmps34
    go_wp2_with fail
    refine (HF.out _ (bel_new _ _)).mono ?_
    rintro e w1 ⟨rfl, hb⟩
    have hblk : w1.heap[w.heap.size]? = some (.cells #[.string ⟨#[]⟩, .slice none 0 0, .slice none 0 0] 34 (0, 0)) := (hb.block _ (by simp only [World.size_alloc]; omega)).trans (heap_new w _)
    obtain ⟨z0, y0⟩ := cell_of_heap (i := 0) (v := .string ⟨#[]⟩) hblk rfl
    obtain ⟨z1, y1⟩ := cell_of_heap (i := 1) (v := .slice none 0 0) hblk rfl
    obtain ⟨z2, y2⟩ := cell_of_heap (i := 2) (v := .slice none 0 0) hblk rfl
    have HB := Lib.hid ((bel_new w _).trans (hb.mono (by simp only [World.size_alloc]; omega)))
    have hc1 := (HB.out.cell (World.block_lt_of_cell? w _ hc)).trans hc
    obtain ⟨x0, x1, x2⟩ := hcs.below HB.out
    simp only at x0 x1 x2
    have HBL := Lib.hid hblk
    clear hb hblk hc hcs
    go_wp2_with fail
    have hB3 : Below w.heap.size w (((w1.setCell ⟨w.heap.size, 0, none⟩ (.string zk)).setCell ⟨w.heap.size, 1, none⟩ (.slice ha hn hcap)).setCell ⟨w.heap.size, 2, none⟩ (.slice qa qn qc)) := ((HB.out.setCell (Nat.le_refl _) _).setCell (Nat.le_refl _) _).setCell (Nat.le_refl _) _
    have hh3 := heap_set (i := 2) (heap_set (i := 1) (heap_set (i := 0) HBL.out (.string zk)) (.slice ha hn hcap)) (.slice qa qn qc)
    obtain ⟨W3, hW3⟩ : ∃ W3, W3 = (((w1.setCell ⟨w.heap.size, 0, none⟩ (.string zk)).setCell ⟨w.heap.size, 1, none⟩ (.slice ha hn hcap)).setCell ⟨w.heap.size, 2, none⟩ (.slice qa qn qc)) := ⟨_, rfl⟩
    rw [← hW3] at hB3 hh3 ⊢
    obtain ⟨v0, -⟩ := cell_of_heap (i := 0) (v := .string zk) hh3 rfl
    obtain ⟨v1, -⟩ := cell_of_heap (i := 1) (v := .slice ha hn hcap) hh3 rfl
    obtain ⟨v2, -⟩ := cell_of_heap (i := 2) (v := .slice qa qn qc) hh3 rfl
    refine bodyPost_ret (by simp [results, Try.results34, go_sem, v0, v1, v2]; try rfl) rfl ?_
    exact ⟨⟨_, rfl, zk, ⟨ha, hn, hcap⟩, ⟨qa, qn, qc⟩, rfl, (HdsAt.row HR.out.1).below hB3, (HdsAt.row HR.out.2).below hB3, row_max HR.out.1, row_max HR.out.2⟩, hB3⟩
end Go.Proofs.Ytnemgmlhcjhdhaa
