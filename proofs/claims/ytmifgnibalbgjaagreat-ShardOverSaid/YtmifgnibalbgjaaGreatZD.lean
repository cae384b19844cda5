/- The table of transactions in memory; find. -/
import Derived.Test.YtmifgnibalbgjaaGreatZA
import Derived.Test.YtmifgnibalbgjaaGreatZKM
import Derived.Deep.QuietTactic
import Derived.Deep.RegionWith
import Derived.WalkMore
import Derived.Deep.LoopGhost
import Derived.Handy
namespace Go.Proofs.YtmifgnibalbgjaaGreat
open Go.RowKit

abbrev stL (g : Nat) (a : Option Addr) (c : Nat) (l : List Rw) : List Asn := [BlockA g #[.slice a l.length c] 146, RowA 85 5 a l.length c (rwFlat l)]
/-- The table at block g. -/
def StA (g : Nat) (l : List Rw) : Asn := fun w D => ∃ a c, All (stL g a c l) w D
instance {g : Nat} {l : List Rw} : Stable (StA g l) where
  lt := fun ⟨_, _, h⟩ => (allStable).lt h
  keep := fun ⟨a, c, h⟩ hk => ⟨a, c, (allStable).keep h hk⟩
def Rises (l : List Rw) : Prop := l.Pairwise fun x y => x.tx < y.tx
def posR (l : List Rw) (t : Int) : Nat := (l.takeWhile fun r => decide (r.tx < t)).length
def hasR (l : List Rw) (t : Int) : Bool := l.any fun r => r.tx == t
theorem posR_le (l : List Rw) (t : Int) : posR l t ≤ l.length := by
  unfold posR
  exact (List.takeWhile_sublist _).length_le
theorem posR_cons (r : Rw) (l : List Rw) (t : Int) : posR (r :: l) t = if r.tx < t then posR l t + 1 else 0 := by
  unfold posR
  rw [List.takeWhile_cons]
  by_cases h : r.tx < t <;> simp [h]
theorem posR_lo (t : Int) : ∀ (l : List Rw) (j : Nat) (h : j < l.length), j < posR l t → l[j].tx < t
  | [], j, h, _ => by simp at h
  | r :: l, j, h, hj => by
    rw [posR_cons] at hj
    split at hj
    · rename_i hr
      cases j with
      | zero => exact hr
      | succ j => exact posR_lo t l j (by simpa using h) (by omega)
    · omega
theorem posR_hi (t : Int) : ∀ (l : List Rw) (_ : Rises l) (j : Nat) (h : j < l.length), posR l t ≤ j → t ≤ l[j].tx
  | [], _, j, h, _ => by simp at h
  | r :: l, hl, j, h, hj => by
    obtain ⟨h1, h2⟩ := List.pairwise_cons.1 hl
    rw [posR_cons] at hj
    split at hj
    · rename_i hr
      cases j with
      | zero => omega
      | succ j => exact posR_hi t l h2 j (by simpa using h) (by omega)
    · rename_i hr
      cases j with
      | zero => simp; omega
      | succ j =>
        have hj' : j < l.length := by simpa using h
        have := h1 (l[j]'hj') (List.getElem_mem _)
        simp only [List.getElem_cons_succ]
        omega
theorem found_hasR (l : List Rw) (t : Int) (hl : Rises l) : foundAt (fun r t => cmpI r.tx t) l t (posR l t) = hasR l t := by
  have hz : ∀ a b : Int, cmpI a b = 0 ↔ a = b := fun a b => by
    rcases cmpI_cases a b with ⟨h, e⟩ | ⟨h, e⟩ | ⟨h, e⟩ <;> rw [e] <;> omega
  unfold foundAt hasR
  rw [Bool.eq_iff_iff]
  simp only [decide_eq_true_eq, List.any_eq_true, beq_iff_eq, hz]
  constructor
  · rintro ⟨h, _, e⟩
    exact ⟨l[posR l t], List.getElem_mem _, e⟩
  · rintro ⟨r, hr, e⟩
    obtain ⟨j, hj, rfl⟩ := List.getElem_of_mem hr
    have h1 : posR l t ≤ j := by
      rcases Nat.lt_or_ge j (posR l t) with h | h
      · have := posR_lo t l j hj h; omega
      · exact h
    have h2 : posR l t < l.length := by omega
    refine ⟨h2, h2, ?_⟩
    have h3 := posR_hi t l hl (posR l t) h2 (Nat.le_refl _)
    rcases Nat.lt_or_ge (posR l t) j with h | h
    · have := List.pairwise_iff_getElem.1 hl (posR l t) j h2 hj h
      omega
    · have e2 : posR l t = j := by omega
      simp only [e2]; exact e
set_option maxHeartbeats 400000 in
theorem st_find (g : Nat) (l : List Rw) (t : Int) (w : World) {D : List Nat} (h : StA g l w D) (hl : Rises l) (hn : l.length ≤ 1000000) :
    Calls Tryz.prog 157 #[.pointer (some ⟨g, 0, none⟩), .int .i64 t] w fun e w' => e = .returned (.tuple #[.int .i64 (posR l t), .bool (hasR l t)]) ∧ Below w.heap.size w w' := by
  obtain ⟨a, c, h⟩ := h
  have M := Mem.ofAll h
  have hc := (Mem.cellAt [] (i := 0) M rfl).1
  have hr := Mem.rowAt [BlockA g #[.slice a l.length c] 146] M
  have hcmp := cmpI_cases
  have hb := rowf_bsf (fun r t => cmpI r.tx t) (fun x t W => rowf1_any x t W) a l.length c l t (posR l t) w hr (by omega) (posR_le l t)
    (fun j hj hlt => by have := posR_lo t l j hj hlt; rcases cmpI_cases l[j].tx t with ⟨h, e⟩ | ⟨h, e⟩ | ⟨h, e⟩ <;> simp only [e] <;> omega)
    (fun j hj hlt => by have := posR_hi t l hl j hj hlt; rcases cmpI_cases l[j].tx t with ⟨h, e⟩ | ⟨h, e⟩ | ⟨h, e⟩ <;> simp only [e] <;> omega)
  rw [found_hasR l t hl] at hb
  have HB := Lib.hid hb
  clear hb hcmp hr M h hl hn
  generalize posR l t = p at *
  generalize hasR l t = q at *
  generalize l.length = n at *
  go_enter Tryz.func157, Tryz.ntmps157
  go_wp2_with fail
  refine HB.out.mono ?_
  rintro e w1 ⟨rfl, hb⟩
  go_wp2_with fail
  go_ret2
  exact ⟨rfl, hb⟩
end Go.Proofs.YtmifgnibalbgjaaGreat
/- How an attempt stands to its row. -/
namespace Go.Proofs.YtmifgnibalbgjaaGreat
open Go.RowKit
theorem hasR_get (l : List Rw) (t : Int) (hl : Rises l) (h : hasR l t = true) : ∃ hp : posR l t < l.length, l[posR l t].tx = t := by
  rw [← found_hasR l t hl] at h
  unfold foundAt at h
  simp only [decide_eq_true_eq] at h
  obtain ⟨hp, _, e⟩ := h
  refine ⟨hp, ?_⟩
  rcases cmpI_cases l[posR l t].tx t with ⟨h, e'⟩ | ⟨h, e'⟩ | ⟨h, e'⟩
  · rw [e'] at e; omega
  · rw [e'] at e; omega
  · exact h
def rowR (l : List Rw) (t : Int) : Rw := (l[posR l t]?).getD ⟨0, 0, 0, 0, 0⟩
theorem rowR_get {l : List Rw} {t : Int} (hp : posR l t < l.length) : rowR l t = l[posR l t] := by
  unfold rowR; rw [List.getElem?_eq_getElem hp]; rfl
/-- how an attempt stands to its row. -/
def howM (l : List Rw) (tx att : Int) : Int := if hasR l tx then cmpI att (rowR l tx).att else 1
/-- the row's place. -/
def ptrR (a : Option Addr) (l : List Rw) (t : Int) : Option Addr := if hasR l t then a.map fun x => ⟨x.block, posR l t * 5, none⟩ else none
set_option maxRecDepth 100000 in
set_option maxHeartbeats 800000 in
theorem st_how (g : Nat) (a : Option Addr) (c : Nat) (l : List Rw) (t att : Int) (w : World) {D : List Nat} (h : All (stL g a c l) w D) (hl : Rises l) (hn : l.length ≤ 1000000) :
    Calls Tryz.prog 125 #[.pointer (some ⟨g, 0, none⟩), .int .i64 t, .int .i64 att] w fun e w' => e = .returned (.tuple #[.int .i64 (howM l t att), .pointer (ptrR a l t)]) ∧ Below w.heap.size w w' := by
  have M := Mem.ofAll h
  have hc := (Mem.cellAt [] (i := 0) M rfl).1
  have hr := Mem.rowAt [BlockA g #[.slice a l.length c] 146] M
  have HF := Lib.hid (st_find g l t w ⟨a, c, h⟩ hl hn)
  unfold howM ptrR
  cases hh : hasR l t with
  | false =>
    rw [hh] at HF
    clear h hl hn M hr hc hh
    generalize posR l t = p at *
    go_enter Tryz.func125, Tryz.ntmps125
    go_wp2_with fail
    refine HF.out.mono ?_
    rintro e w1 ⟨rfl, hb⟩
    go_wp2_with fail
    go_ret2
    exact ⟨rfl, hb⟩
  | true =>
    rw [hh] at HF
    obtain ⟨hp, -⟩ := hasR_get l t hl hh
    obtain ⟨gr, rfl, hat⟩ := rwAt_row hr (posR l t) hp
    have e1 := rowR_get hp
    have ha1 : (rowR l t).att = l[posR l t].att := by rw [e1]
    simp only [if_true, ha1]
    have hbound : posR l t < l.length := hp
    have hn2 : l.length ≤ 1000000 := hn
    clear h hl hn M hr hh e1 ha1
    generalize l[posR l t] = z at *
    generalize posR l t = p at *
    generalize l.length = n at *
    obtain ⟨z1, z2, z3, z4, z5⟩ := z
    go_enter Tryz.func125, Tryz.ntmps125
    go_wp2_with fail
    refine HF.out.mono ?_
    rintro e w1 ⟨rfl, hb⟩
    obtain ⟨h0, h1, h2, h3, h4⟩ := hat.below hb
    have hc1 := (hb.cell (World.block_lt_of_cell? w _ hc)).trans hc
    simp only at h0 h1 h2 h3 h4 ⊢
    have HB := Lib.hid hb
    clear hb
    go_wp2_with fail
    have HCM := Lib.hid fun W => (compare_int att z2 W).mono fun e W' (h : e = .returned (.int .i64 (cmpI att z2)) ∧ W = W') => (⟨h.1, h.2.symm⟩ : e = .returned (.int .i64 (cmpI att z2)) ∧ W' = W)
    go_quiet ((go_at_call 158; exact Calls.quiet_of_same (HCM.out _)))
    go_wp2_with fail
    go_ret2
    exact ⟨rfl, HB.out.trans ((bel_drewN _ _).mono HB.out.size)⟩
end Go.Proofs.YtmifgnibalbgjaaGreat
/- A row of the table is put. -/
namespace Go.Proofs.YtmifgnibalbgjaaGreat
open Go.RowKit
theorem Row.setCell {w : World} {E k g n c : Nat} {xs : List Value} (h : Row w E k (some ⟨g, 0, none⟩) n c xs) (j : Nat) (v : Value) : Row (w.setCell ⟨g, j, none⟩ v) E k (some ⟨g, 0, none⟩) n c (xs.set j v) := by
  rcases h.out with ⟨e, _⟩ | ⟨g', cur, e, hg, h1, h2, h3, h4, h5⟩
  · cases e
  · obtain rfl : g = g' := by simpa using e
    refine Row.mk (heap_set hg v) h1 h2 (by simpa using h3) ?_
    rw [← h4]
    simp [List.take_set]
section
variable {w0 w : World} {D0 : List Nat} (l : List Asn) {r : List Asn} [Stables l] [Stables r]
theorem Mem.rowSet {E k g n c : Nat} {xs : List Value} (h : Mem w0 D0 w (l ++ RowA E k (some ⟨g, 0, none⟩) n c xs :: r)) (j : Nat) (v : Value) : Mem w0 D0 (w.setCell ⟨g, j, none⟩ v) (l ++ RowA E k (some ⟨g, 0, none⟩) n c (xs.set j v) :: r) := by
  obtain ⟨D, ⟨rfl, hr⟩, k⟩ := Mem.focus l h
  exact k [RowA E _ (some ⟨g, 0, none⟩) n c (xs.set j v)] _ (blkOf (some ⟨g, 0, none⟩)) (all_one ⟨rfl, Row.setCell hr j _⟩) ⟨Touch.setCell _ _ _ (by simp [blkOf]), fun x hx => .inl hx⟩
/-- a row is another one now. -/
theorem Mem.rowTurn {w' : World} {E k n c n' c' : Nat} {a a' : Option Addr} {xs xs' : List Value} (h : Mem w0 D0 w (l ++ RowA E k a n c xs :: r)) (hr : Row w' E k a' n' c' xs') (ht : Touch (blkOf a) w w') (hf : Fresh w a a') : Mem w0 D0 w' (l ++ RowA E k a' n' c' xs' :: r) := by
  obtain ⟨D, ⟨rfl, _⟩, k⟩ := Mem.focus l h
  exact k [RowA E _ a' n' c' xs'] _ (blkOf a') (all_one ⟨rfl, hr⟩) ⟨ht, fun x hx => by obtain ⟨y, hy, rfl⟩ := mem_blkOf.1 hx; exact hf y hy⟩
end
theorem Mem.stShut {w0 w : World} {D0 : List Nat} {g : Nat} {a : Option Addr} {c : Nat} {l : List Rw} {r : List Asn} (h : Mem w0 D0 w (BlockA g #[.slice a l.length c] 146 :: RowA 85 5 a l.length c (rwFlat l) :: r)) : Mem w0 D0 w (StA g l :: r) := by
  obtain ⟨D, hA, hD⟩ := h.out
  obtain ⟨D1, D2, rfl, hd, h1, h2⟩ := all_append (stL g a c l) r hA
  exact ⟨D1 ++ D2, ⟨D1, D2, rfl, hd, ⟨a, c, h1⟩, h2⟩, hD⟩
theorem Mem.stOpen {w0 w : World} {D0 : List Nat} {g : Nat} {l : List Rw} {r : List Asn} (h : Mem w0 D0 w (StA g l :: r)) : ∃ a c, Mem w0 D0 w (BlockA g #[.slice a l.length c] 146 :: RowA 85 5 a l.length c (rwFlat l) :: r) := by
  obtain ⟨D, ⟨D1, D2, rfl, hd, ⟨a, c, h1⟩, h2⟩, hD⟩ := h.out
  exact ⟨a, c, _, all_mk (l := stL g a c l) h1 h2 hd, hD⟩
/-- what a call at the table leaves. -/
def StPost (w : World) (D : List Nat) (g : Nat) (x : (Int × Int) × List Rw) (e : Ending) (w' : World) : Prop := e = .returned (.tuple #[.int .i64 x.1.1, .int .i64 x.1.2]) ∧ Mem w D w' [StA g x.2]
def putRw (l : List Rw) (r : Rw) : (Int × Int) × List Rw :=
  if hasR l r.tx then
    if (rowR l r.tx).state = 3 then ((r.state, 0), l.set (posR l r.tx) (if 0 < (rowR l r.tx).stamp then { r with stamp := (rowR l r.tx).stamp } else r))
    else ((0, 8), l)
  else ((r.state, 0), l.take (posR l r.tx) ++ r :: l.drop (posR l r.tx))
theorem rwFlat_ins (l : List Rw) (t : Rw) (k : Nat) : (rwFlat l).take (k * 5) ++ rwCells t ++ (rwFlat l).drop (k * 5) = rwFlat (l.take k ++ t :: l.drop k) := by
  rw [rwFlat_take, rwFlat_drop, rwFlat_append, rwFlat_cons]; simp
theorem rwFlat_set : ∀ (l : List Rw) (q : Nat) (t : Rw), q < l.length → (((((rwFlat l).set (q * 5) (.int .i64 t.tx)).set (q * 5 + 1) (.int .i64 t.att)).set (q * 5 + 2) (.int .i64 t.stamp)).set (q * 5 + 3) (.int .i64 t.state)).set (q * 5 + 4) (.int .i64 t.heard) = rwFlat (l.set q t)
  | [], q, _, h => by simp at h
  | x :: r, 0, t, _ => by simp [rwFlat]
  | x :: r, q + 1, t, h => by
    have := rwFlat_set r q t (by simpa using h)
    rw [show (q + 1) * 5 = q * 5 + 1 + 1 + 1 + 1 + 1 by omega]
    simp only [rwFlat, List.set_cons_succ]
    rw [this]
set_option maxRecDepth 100000 in
set_option maxHeartbeats 2000000 in
theorem st_put_new (g : Nat) (l : List Rw) (r : Rw) (w : World) {D : List Nat} (h : StA g l w D) (hl : Rises l) (hn : l.length ≤ 1000) (hh : hasR l r.tx = false) :
    Calls Tryz.prog 126 #[.pointer (some ⟨g, 0, none⟩), .agg #[.int .i64 r.tx, .int .i64 r.att, .int .i64 r.stamp, .int .i64 r.state, .int .i64 r.heard]] w (StPost w D g ((r.state, 0), l.take (posR l r.tx) ++ r :: l.drop (posR l r.tx))) := by
  obtain ⟨a, c, h⟩ := h
  have M := Mem.ofAll h
  have hlt : ∀ x ∈ blkOf a, x < w.heap.size := fun x hx => by
    obtain ⟨y, hy, rfl⟩ := mem_blkOf.1 hx
    exact (Mem.rowAt [BlockA g #[.slice a l.length c] 146] M).lt y hy
  have M1 := M.block #[.int .i64 r.tx, .int .i64 r.att, .int .i64 r.stamp, .int .i64 r.state, .int .i64 r.heard] 85
  obtain ⟨w1, hw1⟩ : ∃ w1, w1 = w.alloc (.cells #[.int .i64 r.tx, .int .i64 r.att, .int .i64 r.stamp, .int .i64 r.state, .int .i64 r.heard] 85) := ⟨_, rfl⟩
  rw [← hw1] at M1
  have hsz : w1.heap.size = w.heap.size + 1 := by rw [hw1]; simp
  have hat : rwAt w1 w.heap.size 0 r := by rw [hw1]; exact rwAt_new w r 85
  have hbl := bel_new w (.cells #[.int .i64 r.tx, .int .i64 r.att, .int .i64 r.stamp, .int .i64 r.state, .int .i64 r.heard] 85)
  rw [← hw1] at hbl
  have HF := Lib.hid (st_find g l r.tx w1 (((allStable (l := stL g a c l)).keep h fun x hx => hbl.block x ((allStable (l := stL g a c l)).lt h x hx)) |> fun h' => (⟨a, c, h'⟩ : StA g l w1 D)) hl (by omega))
  rw [hh] at HF
  have hpl : posR l r.tx ≤ l.length := posR_le l r.tx
  have hll : (l.take (posR l r.tx) ++ r :: l.drop (posR l r.tx)).length = l.length + 1 := by simp; omega
  have hga : g ∉ blkOf a := by
    obtain ⟨D1, D2, rfl, hd, ⟨rfl, _⟩, E1, E2, rfl, he, ⟨rfl, _⟩, h3⟩ := h
    intro hm
    exact hd g (by simp) (List.mem_append_left _ hm)
  have HI := Lib.hid fun W (hW : Below w1.heap.size w1 W) vb (hv : W.heap[vb]? = some (.cells (rwCells r).toArray 85 (0, 0))) (hvb : w1.heap.size ≤ vb) =>
    (insR_any a l.length c (posR l r.tx) vb (rwFlat l) (rwCells r) W (Mem.rowAt [BlockA w.heap.size #[.int .i64 r.tx, .int .i64 r.att, .int .i64 r.stamp, .int .i64 r.state, .int .i64 r.heard] 85, BlockA g #[.slice a l.length c] 146] (r := []) (M1.below hW)) hv rfl
      (fun h => by have := hlt _ h; omega) (rwFlat_one l) (rwCells_one r) hpl (by omega)).mono (R' := fun e W' => ∃ a' c', e = .returned (.slice a' (l.length + 1) c') ∧ W'.cell? ⟨g, 0, none⟩ = some (.slice a l.length c) ∧ W'.frozen? ⟨g, 0, none⟩ = false ∧
        (W'.setCell ⟨g, 0, none⟩ (.slice a' (l.length + 1) c')).cell? ⟨w.heap.size, 3, none⟩ = some (.int .i64 r.state) ∧
        StPost w D g ((r.state, 0), l.take (posR l r.tx) ++ r :: l.drop (posR l r.tx)) (.returned (.tuple #[.int .i64 r.state, .int .i64 0])) (W'.setCell ⟨g, 0, none⟩ (.slice a' (l.length + 1) c'))) fun e W' ⟨a', c', he, hrow, ht, hf⟩ => by
      rw [rwFlat_ins, ← hll] at hrow
      have M4 := Mem.rowTurn [BlockA w.heap.size #[.int .i64 r.tx, .int .i64 r.att, .int .i64 r.stamp, .int .i64 r.state, .int .i64 r.heard] 85, BlockA g #[.slice a l.length c] 146] (r := []) (M1.below hW) hrow ht hf
      obtain ⟨y0, y1⟩ := Mem.cellAt (i := 0) (v := .slice a l.length c) [BlockA w.heap.size #[.int .i64 r.tx, .int .i64 r.att, .int .i64 r.stamp, .int .i64 r.state, .int .i64 r.heard] 85] (r := [RowA 85 5 a' (l.take (posR l r.tx) ++ r :: l.drop (posR l r.tx)).length c' (rwFlat (l.take (posR l r.tx) ++ r :: l.drop (posR l r.tx)))]) M4 rfl
      have M5 : Mem w D (W'.setCell ⟨g, 0, none⟩ (.slice a' (l.length + 1) c')) [BlockA w.heap.size #[.int .i64 r.tx, .int .i64 r.att, .int .i64 r.stamp, .int .i64 r.state, .int .i64 r.heard] 85, BlockA g #[.slice a' (l.length + 1) c'] 146, RowA 85 5 a' (l.take (posR l r.tx) ++ r :: l.drop (posR l r.tx)).length c' (rwFlat (l.take (posR l r.tx) ++ r :: l.drop (posR l r.tx)))] := Mem.setAt [BlockA w.heap.size #[.int .i64 r.tx, .int .i64 r.att, .int .i64 r.stamp, .int .i64 r.state, .int .i64 r.heard] 85] (r := [RowA 85 5 a' (l.take (posR l r.tx) ++ r :: l.drop (posR l r.tx)).length c' (rwFlat (l.take (posR l r.tx) ++ r :: l.drop (posR l r.tx)))]) (i := 0) M4 (.slice a' (l.length + 1) c')
      obtain ⟨z0, -⟩ := Mem.cellAt (i := 3) (v := .int .i64 r.state) [] (r := [BlockA g #[.slice a' (l.length + 1) c'] 146, RowA 85 5 a' (l.take (posR l r.tx) ++ r :: l.drop (posR l r.tx)).length c' (rwFlat (l.take (posR l r.tx) ++ r :: l.drop (posR l r.tx)))]) M5 rfl
      refine ⟨a', c', he, y0, y1, z0, rfl, ?_⟩
      have M6 := Mem.drop [] (A := BlockA w.heap.size #[.int .i64 r.tx, .int .i64 r.att, .int .i64 r.stamp, .int .i64 r.state, .int .i64 r.heard] 85) (r := [BlockA g #[.slice a' (l.length + 1) c'] 146, RowA 85 5 a' (l.take (posR l r.tx) ++ r :: l.drop (posR l r.tx)).length c' (rwFlat (l.take (posR l r.tx) ++ r :: l.drop (posR l r.tx)))]) M5
      rw [← hll] at M6
      have M7 := M6.stShut
      rw [hll] at M7
      exact M7
  have hc := (Mem.cellAt (i := 0) (v := .slice a l.length c) [BlockA w.heap.size #[.int .i64 r.tx, .int .i64 r.att, .int .i64 r.stamp, .int .i64 r.state, .int .i64 r.heard] 85] M1 rfl)
  have HG := Lib.hid (lt_of_heap (M1.get [BlockA w.heap.size #[.int .i64 r.tx, .int .i64 r.att, .int .i64 r.stamp, .int .i64 r.state, .int .i64 r.heard] 85]).choose_spec.2)
  clear h hl hn hh M M1 hlt hbl hga hll
  generalize StPost w D g ((r.state, 0), l.take (posR l r.tx) ++ r :: l.drop (posR l r.tx)) = R at *
  generalize posR l r.tx = p at *
  generalize hnn : l.length = n at *
  clear hnn
  obtain ⟨r1, r2, r3, r4, r5⟩ := r
  obtain ⟨h0, h1, h2, h3, h4⟩ := hat
  have hrl : rwCells ⟨r1, r2, r3, r4, r5⟩ = [.int .i64 r1, .int .i64 r2, .int .i64 r3, .int .i64 r4, .int .i64 r5] := rfl
  rw [hrl] at HI
  simp only at h0 h1 h2 h3 h4 HI HF hw1 hpl ⊢
  go_enter Tryz.func126, Tryz.ntmps126
  go_wp2_with fail
  rw [← hw1]
  have HW1 := Lib.hid hw1
  clear hw1
  go_wp2_with fail
  refine HF.out.mono ?_
  rintro e w2 ⟨rfl, hb⟩
  have hc2 := (hb.cell (World.block_lt_of_cell? w1 _ hc.1)).trans hc.1
  have hf2 := (hb.frozen (p := ⟨g, 0, none⟩) HG.out).trans hc.2
  have h0 := (hb.cell (World.block_lt_of_cell? w1 _ h0)).trans h0
  have h1 := (hb.cell (World.block_lt_of_cell? w1 _ h1)).trans h1
  have h2 := (hb.cell (World.block_lt_of_cell? w1 _ h2)).trans h2
  have h3 := (hb.cell (World.block_lt_of_cell? w1 _ h3)).trans h3
  have h4 := (hb.cell (World.block_lt_of_cell? w1 _ h4)).trans h4
  have HI2 := Lib.hid (HI.out (w2.alloc (.cells #[.int .i64 r1, .int .i64 r2, .int .i64 r3, .int .i64 r4, .int .i64 r5] 85)).drew (hb.trans ((Below.drew (bel_new w2 _)).mono hb.size)) w2.heap.size (heap_new w2 _) hb.size)
  have hgl2 : g < w2.heap.size := by have := hb.size; have := HG.out; omega
  have hgne : ¬ g = w2.heap.size := by omega
  have hca : ∀ o, (w2.alloc o).cell? ⟨g, 0, none⟩ = some (.slice a n c) := fun o => ((bel_new w2 o).cell (p := ⟨g, 0, none⟩) hgl2).trans hc2
  clear HI hb hc HF
  go_wp2_with fail
  go_region_with (go_at_call 159; refine HI2.out.mono ?_; rintro e w3 ⟨a', c', rfl, hc3, hf3, hx3, hfin⟩)
  all_goals
    go_wp2_with fail
    exact hfin
end Go.Proofs.YtmifgnibalbgjaaGreat
/- A row of the table is put in the place of an elder one. -/
namespace Go.Proofs.YtmifgnibalbgjaaGreat
open Go.RowKit
theorem Row.fz {w : World} {E k g n c : Nat} {xs : List Value} (h : Row w E k (some ⟨g, 0, none⟩) n c xs) (j : Nat) (hj : j < xs.length) : w.frozen? ⟨g, j, none⟩ = false := by
  rcases h.out with ⟨e, _⟩ | ⟨g', cur, e, hg, h1, h2, h3, h4, h5⟩
  · cases e
  · obtain rfl : g = g' := by simpa using e
    have hj' : j < cur.size := by
      rw [← h4, List.length_take] at hj
      simp at hj; omega
    exact (cell_of_heap (v := cur[j]) hg (by simp [hj'])).2
set_option maxRecDepth 100000 in
set_option maxHeartbeats 2000000 in
theorem st_put_has (g : Nat) (l : List Rw) (r : Rw) (w : World) {D : List Nat} (h : StA g l w D) (hl : Rises l) (hn : l.length ≤ 1000) (hh : hasR l r.tx = true) :
    Calls Tryz.prog 126 #[.pointer (some ⟨g, 0, none⟩), .agg #[.int .i64 r.tx, .int .i64 r.att, .int .i64 r.stamp, .int .i64 r.state, .int .i64 r.heard]] w (StPost w D g (putRw l r)) := by
  obtain ⟨a, c, h⟩ := h
  have M := Mem.ofAll h
  obtain ⟨hp, hpt⟩ := hasR_get l r.tx hl hh
  have e1 := rowR_get hp
  have hr := Mem.rowAt [BlockA g #[.slice a l.length c] 146] M
  obtain ⟨gr, rfl, hat⟩ := rwAt_row hr (posR l r.tx) hp
  have hat0 : rwAt w gr (posR l r.tx * 5) (rowR l r.tx) := by rw [e1]; exact hat
  have M1 := M.block #[.int .i64 r.tx, .int .i64 r.att, .int .i64 r.stamp, .int .i64 r.state, .int .i64 r.heard] 85
  obtain ⟨w1, hw1⟩ : ∃ w1, w1 = w.alloc (.cells #[.int .i64 r.tx, .int .i64 r.att, .int .i64 r.stamp, .int .i64 r.state, .int .i64 r.heard] 85) := ⟨_, rfl⟩
  have hbl := bel_new w (.cells #[.int .i64 r.tx, .int .i64 r.att, .int .i64 r.stamp, .int .i64 r.state, .int .i64 r.heard] 85)
  rw [← hw1] at M1 hbl
  have hsz : w1.heap.size = w.heap.size + 1 := by rw [hw1]; simp
  have HF := Lib.hid (st_find g l r.tx w1 (((allStable (l := stL g (some ⟨gr, 0, none⟩) c l)).keep h fun x hx => hbl.block x ((allStable (l := stL g (some ⟨gr, 0, none⟩) c l)).lt h x hx)) |> fun h' => (⟨some ⟨gr, 0, none⟩, c, h'⟩ : StA g l w1 D)) hl (by omega))
  rw [hh] at HF
  have hatw1 : rwAt w1 w.heap.size 0 r := by rw [hw1]; exact rwAt_new w r 85
  have hc := (Mem.cellAt (i := 0) (v := .slice (some ⟨gr, 0, none⟩) l.length c) [BlockA w.heap.size #[.int .i64 r.tx, .int .i64 r.att, .int .i64 r.stamp, .int .i64 r.state, .int .i64 r.heard] 85] M1 rfl)
  have hatl := hat0.below hbl
  have HM1 : Hid (Mem w D w1 [BlockA w.heap.size #[.int .i64 r.tx, .int .i64 r.att, .int .i64 r.stamp, .int .i64 r.state, .int .i64 r.heard] 85, BlockA g #[.slice (some ⟨gr, 0, none⟩) l.length c] 146, RowA 85 5 (some ⟨gr, 0, none⟩) l.length c (rwFlat l)]) := Lib.hid M1
  have hput : putRw l r = if (rowR l r.tx).state = 3 then ((r.state, 0), l.set (posR l r.tx) (if 0 < (rowR l r.tx).stamp then { r with stamp := (rowR l r.tx).stamp } else r)) else ((0, 8), l) := by unfold putRw; rw [if_pos hh]
  rw [hput]
  by_cases h3 : (rowR l r.tx).state = 3
  · rw [if_pos h3]
    have hset : ∀ t : Rw, t.tx = r.tx → t.att = r.att → t.state = r.state → t.heard = r.heard → ∀ W0 : World, Mem w D W0 [BlockA w.heap.size #[.int .i64 r.tx, .int .i64 r.att, .int .i64 t.stamp, .int .i64 r.state, .int .i64 r.heard] 85, BlockA g #[.slice (some ⟨gr, 0, none⟩) l.length c] 146, RowA 85 5 (some ⟨gr, 0, none⟩) l.length c (rwFlat l)] → (((((W0.setCell ⟨gr, posR l r.tx * 5, none⟩ (.int .i64 r.tx)).setCell ⟨gr, posR l r.tx * 5 + 1, none⟩ (.int .i64 r.att)).setCell ⟨gr, posR l r.tx * 5 + 2, none⟩ (.int .i64 t.stamp)).setCell ⟨gr, posR l r.tx * 5 + 3, none⟩ (.int .i64 r.state)).setCell ⟨gr, posR l r.tx * 5 + 4, none⟩ (.int .i64 r.heard)).cell? ⟨w.heap.size, 3, none⟩ = some (.int .i64 r.state) ∧
        StPost w D g ((r.state, 0), l.set (posR l r.tx) t) (.returned (.tuple #[.int .i64 r.state, .int .i64 0])) ((((((W0.setCell ⟨gr, posR l r.tx * 5, none⟩ (.int .i64 r.tx)).setCell ⟨gr, posR l r.tx * 5 + 1, none⟩ (.int .i64 r.att)).setCell ⟨gr, posR l r.tx * 5 + 2, none⟩ (.int .i64 t.stamp)).setCell ⟨gr, posR l r.tx * 5 + 3, none⟩ (.int .i64 r.state)).setCell ⟨gr, posR l r.tx * 5 + 4, none⟩ (.int .i64 r.heard)).drew) := by
      intro t ht1 ht2 ht4 ht5 W0 hM
      have k1 := Mem.rowSet [BlockA w.heap.size #[.int .i64 r.tx, .int .i64 r.att, .int .i64 t.stamp, .int .i64 r.state, .int .i64 r.heard] 85, BlockA g #[.slice (some ⟨gr, 0, none⟩) l.length c] 146] (r := []) hM (posR l r.tx * 5) (.int .i64 r.tx)
      have k2 := Mem.rowSet [BlockA w.heap.size #[.int .i64 r.tx, .int .i64 r.att, .int .i64 t.stamp, .int .i64 r.state, .int .i64 r.heard] 85, BlockA g #[.slice (some ⟨gr, 0, none⟩) l.length c] 146] (r := []) k1 (posR l r.tx * 5 + 1) (.int .i64 r.att)
      have k3 := Mem.rowSet [BlockA w.heap.size #[.int .i64 r.tx, .int .i64 r.att, .int .i64 t.stamp, .int .i64 r.state, .int .i64 r.heard] 85, BlockA g #[.slice (some ⟨gr, 0, none⟩) l.length c] 146] (r := []) k2 (posR l r.tx * 5 + 2) (.int .i64 t.stamp)
      have k4 := Mem.rowSet [BlockA w.heap.size #[.int .i64 r.tx, .int .i64 r.att, .int .i64 t.stamp, .int .i64 r.state, .int .i64 r.heard] 85, BlockA g #[.slice (some ⟨gr, 0, none⟩) l.length c] 146] (r := []) k3 (posR l r.tx * 5 + 3) (.int .i64 r.state)
      have k5 := Mem.rowSet [BlockA w.heap.size #[.int .i64 r.tx, .int .i64 r.att, .int .i64 t.stamp, .int .i64 r.state, .int .i64 r.heard] 85, BlockA g #[.slice (some ⟨gr, 0, none⟩) l.length c] 146] (r := []) k4 (posR l r.tx * 5 + 4) (.int .i64 r.heard)
      have k6 := rwFlat_set l (posR l r.tx) t hp
      rw [ht1, ht2, ht4, ht5] at k6
      rw [k6] at k5
      refine ⟨(Mem.cellAt (i := 3) (v := .int .i64 r.state) [] (r := [BlockA g #[.slice (some ⟨gr, 0, none⟩) l.length c] 146, RowA 85 5 (some ⟨gr, 0, none⟩) l.length c (rwFlat (l.set (posR l r.tx) t))]) k5 rfl).1, rfl, ?_⟩
      have k7 := Mem.drop [] (A := BlockA w.heap.size #[.int .i64 r.tx, .int .i64 r.att, .int .i64 t.stamp, .int .i64 r.state, .int .i64 r.heard] 85) (r := [BlockA g #[.slice (some ⟨gr, 0, none⟩) l.length c] 146, RowA 85 5 (some ⟨gr, 0, none⟩) l.length c (rwFlat (l.set (posR l r.tx) t))]) k5
      rw [show l.length = (l.set (posR l r.tx) t).length by simp] at k7
      exact k7.stShut.below (bel_drew _)
    have hplt : posR l r.tx < l.length := hp
    by_cases hs : 0 < (rowR l r.tx).stamp
    · rw [if_pos hs]
      have HS := Lib.hid fun W0 (hW : Mem w D W0 [BlockA w.heap.size #[.int .i64 r.tx, .int .i64 r.att, .int .i64 (rowR l r.tx).stamp, .int .i64 r.state, .int .i64 r.heard] 85, BlockA g #[.slice (some ⟨gr, 0, none⟩) l.length c] 146, RowA 85 5 (some ⟨gr, 0, none⟩) l.length c (rwFlat l)]) => hset { r with stamp := (rowR l r.tx).stamp } rfl rfl rfl rfl W0 hW
      simp only at HS
      clear h hl hh M hp hpt e1 hr hat hat0 hput hset M1 hbl
      generalize StPost w D g ((r.state, 0), l.set (posR l r.tx) { r with stamp := (rowR l r.tx).stamp }) = R at *
      generalize posR l r.tx = p at *
      generalize rowR l r.tx = z at *
      have hFl : (rwFlat l).length = l.length * 5 := rwFlat_len l
      generalize rwFlat l = F at *
      generalize hnn : l.length = n at *
      clear hnn
      obtain ⟨r1, r2, r3, r4, r5⟩ := r
      obtain ⟨z1, z2, z3, z4, z5⟩ := z
      obtain ⟨h0, h1, h2, h3', h4⟩ := hatw1
      obtain ⟨x0, x1, x2, x3, x4⟩ := hatl
      simp only at h0 h1 h2 h3' h4 x0 x1 x2 x3 x4 h3 hs HS HF HM1 hw1 hc ⊢
      subst h3
      go_enter Tryz.func126, Tryz.ntmps126
      go_wp2_with fail
      rw [← hw1]
      clear hw1
      go_wp2_with fail
      refine HF.out.mono ?_
      rintro e w2 ⟨rfl, hb⟩
      have M2 := HM1.out.below hb
      have M3 := M2.block #[.int .i64 z1, .int .i64 z2, .int .i64 z3, .int .i64 3, .int .i64 z5] 85
      obtain ⟨y0, y1⟩ := Mem.cellAt (i := 2) (v := .int .i64 r3) [BlockA w2.heap.size #[.int .i64 z1, .int .i64 z2, .int .i64 z3, .int .i64 3, .int .i64 z5] 85] (r := [BlockA g #[.slice (some ⟨gr, 0, none⟩) n c] 146, RowA 85 5 (some ⟨gr, 0, none⟩) n c F]) M3 rfl
      have M4 := Mem.setAt [BlockA w2.heap.size #[.int .i64 z1, .int .i64 z2, .int .i64 z3, .int .i64 3, .int .i64 z5] 85] (r := [BlockA g #[.slice (some ⟨gr, 0, none⟩) n c] 146, RowA 85 5 (some ⟨gr, 0, none⟩) n c F]) (i := 2) M3 (.int .i64 z3)
      have M5 : Mem w D _ [BlockA w.heap.size #[.int .i64 r1, .int .i64 r2, .int .i64 z3, .int .i64 r4, .int .i64 r5] 85, BlockA g #[.slice (some ⟨gr, 0, none⟩) n c] 146, RowA 85 5 (some ⟨gr, 0, none⟩) n c F] := Mem.drop [] M4
      have hc2 := (hb.cell (World.block_lt_of_cell? w1 _ hc.1)).trans hc.1
      have hat2 : rwAt w2 gr (p * 5) ⟨z1, z2, z3, 3, z5⟩ := rwAt.below (⟨x0, x1, x2, x3, x4⟩ : rwAt w1 gr (p * 5) ⟨z1, z2, z3, 3, z5⟩) hb
      obtain ⟨x0, x1, x2, x3, x4⟩ := hat2
      simp only at x0 x1 x2 x3 x4
      have HM5 := Lib.hid M5
      have HS2 := Lib.hid (HS.out _ M5)
      clear M2 M3 M4 M5 HF HM1 hb hc HS h0 h1 h2 h3' h4
      go_wp2_with fail
      obtain ⟨W4, hW4⟩ : ∃ W4, W4 = (w2.alloc (.cells #[.int .i64 z1, .int .i64 z2, .int .i64 z3, .int .i64 3, .int .i64 z5] 85)).setCell ⟨w.heap.size, 2, none⟩ (.int .i64 z3) := ⟨_, rfl⟩
      rw [← hW4] at HM5 HS2 ⊢
      clear hW4 x0 x1 x2 x3 x4 y0 y1 hc2
      have hcg := (Mem.cellAt (i := 0) (v := .slice (some ⟨gr, 0, none⟩) n c) [BlockA w.heap.size #[.int .i64 r1, .int .i64 r2, .int .i64 z3, .int .i64 r4, .int .i64 r5] 85] (r := [RowA 85 5 (some ⟨gr, 0, none⟩) n c F]) HM5.out rfl).1
      have b0 := (Mem.cellAt (i := 0) (v := .int .i64 r1) [] (r := [BlockA g #[.slice (some ⟨gr, 0, none⟩) n c] 146, RowA 85 5 (some ⟨gr, 0, none⟩) n c F]) HM5.out rfl).1
      have b1 := (Mem.cellAt (i := 1) (v := .int .i64 r2) [] (r := [BlockA g #[.slice (some ⟨gr, 0, none⟩) n c] 146, RowA 85 5 (some ⟨gr, 0, none⟩) n c F]) HM5.out rfl).1
      have b2 := (Mem.cellAt (i := 2) (v := .int .i64 z3) [] (r := [BlockA g #[.slice (some ⟨gr, 0, none⟩) n c] 146, RowA 85 5 (some ⟨gr, 0, none⟩) n c F]) HM5.out rfl).1
      have b3 := (Mem.cellAt (i := 3) (v := .int .i64 r4) [] (r := [BlockA g #[.slice (some ⟨gr, 0, none⟩) n c] 146, RowA 85 5 (some ⟨gr, 0, none⟩) n c F]) HM5.out rfl).1
      have b4 := (Mem.cellAt (i := 4) (v := .int .i64 r5) [] (r := [BlockA g #[.slice (some ⟨gr, 0, none⟩) n c] 146, RowA 85 5 (some ⟨gr, 0, none⟩) n c F]) HM5.out rfl).1
      have hrow := Mem.rowAt [BlockA w.heap.size #[.int .i64 r1, .int .i64 r2, .int .i64 z3, .int .i64 r4, .int .i64 r5] 85, BlockA g #[.slice (some ⟨gr, 0, none⟩) n c] 146] (r := []) HM5.out
      have f0 := Row.fz hrow (p * 5) (by omega)
      obtain ⟨_, q0, d0⟩ := hrow.cellAt (p * 5) (by omega)
      simp only [Option.some.injEq, Addr.mk.injEq, and_true] at q0
      subst q0
      have f1 := Row.fz hrow (p * 5 + 1) (by omega)
      obtain ⟨_, q1, d1⟩ := hrow.cellAt (p * 5 + 1) (by omega)
      simp only [Option.some.injEq, Addr.mk.injEq, and_true] at q1
      subst q1
      have f2 := Row.fz hrow (p * 5 + 2) (by omega)
      obtain ⟨_, q2, d2⟩ := hrow.cellAt (p * 5 + 2) (by omega)
      simp only [Option.some.injEq, Addr.mk.injEq, and_true] at q2
      subst q2
      have f3 := Row.fz hrow (p * 5 + 3) (by omega)
      obtain ⟨_, q3, d3⟩ := hrow.cellAt (p * 5 + 3) (by omega)
      simp only [Option.some.injEq, Addr.mk.injEq, and_true] at q3
      subst q3
      have f4 := Row.fz hrow (p * 5 + 4) (by omega)
      obtain ⟨_, q4, d4⟩ := hrow.cellAt (p * 5 + 4) (by omega)
      simp only [Option.some.injEq, Addr.mk.injEq, and_true] at q4
      subst q4
      clear HM5 hrow
      obtain ⟨hx3, hfin⟩ := HS2.out
      go_region
      all_goals
        go_wp2_with fail
        exact hfin
    · rw [if_neg hs]
      have HS := Lib.hid fun W0 (hW : Mem w D W0 [BlockA w.heap.size #[.int .i64 r.tx, .int .i64 r.att, .int .i64 r.stamp, .int .i64 r.state, .int .i64 r.heard] 85, BlockA g #[.slice (some ⟨gr, 0, none⟩) l.length c] 146, RowA 85 5 (some ⟨gr, 0, none⟩) l.length c (rwFlat l)]) => hset r rfl rfl rfl rfl W0 hW
      clear h hl hh M hp hpt e1 hr hat hat0 hput hset M1 hbl
      generalize StPost w D g ((r.state, 0), l.set (posR l r.tx) r) = R at *
      generalize posR l r.tx = p at *
      generalize rowR l r.tx = z at *
      have hFl : (rwFlat l).length = l.length * 5 := rwFlat_len l
      generalize rwFlat l = F at *
      generalize hnn : l.length = n at *
      clear hnn
      obtain ⟨r1, r2, r3, r4, r5⟩ := r
      obtain ⟨z1, z2, z3, z4, z5⟩ := z
      obtain ⟨h0, h1, h2, h3', h4⟩ := hatw1
      obtain ⟨x0, x1, x2, x3, x4⟩ := hatl
      simp only at h0 h1 h2 h3' h4 x0 x1 x2 x3 x4 h3 hs HS HF HM1 hw1 hc ⊢
      subst h3
      go_enter Tryz.func126, Tryz.ntmps126
      go_wp2_with fail
      rw [← hw1]
      clear hw1
      go_wp2_with fail
      refine HF.out.mono ?_
      rintro e w2 ⟨rfl, hb⟩
      have M2 := HM1.out.below hb
      have M3 := M2.block #[.int .i64 z1, .int .i64 z2, .int .i64 z3, .int .i64 3, .int .i64 z5] 85
      have M5 : Mem w D _ [BlockA w.heap.size #[.int .i64 r1, .int .i64 r2, .int .i64 r3, .int .i64 r4, .int .i64 r5] 85, BlockA g #[.slice (some ⟨gr, 0, none⟩) n c] 146, RowA 85 5 (some ⟨gr, 0, none⟩) n c F] := Mem.drop [] M3
      have hc2 := (hb.cell (World.block_lt_of_cell? w1 _ hc.1)).trans hc.1
      have hat2 : rwAt w2 gr (p * 5) ⟨z1, z2, z3, 3, z5⟩ := rwAt.below (⟨x0, x1, x2, x3, x4⟩ : rwAt w1 gr (p * 5) ⟨z1, z2, z3, 3, z5⟩) hb
      obtain ⟨x0, x1, x2, x3, x4⟩ := hat2
      simp only at x0 x1 x2 x3 x4
      have HM5 := Lib.hid M5
      have HS2 := Lib.hid (HS.out _ M5)
      clear M2 M3 M5 HF HM1 hb hc HS h0 h1 h2 h3' h4
      go_wp2_with fail
      obtain ⟨W4, hW4⟩ : ∃ W4, W4 = w2.alloc (.cells #[.int .i64 z1, .int .i64 z2, .int .i64 z3, .int .i64 3, .int .i64 z5] 85) := ⟨_, rfl⟩
      rw [← hW4] at HM5 HS2 ⊢
      clear hW4 x0 x1 x2 x3 x4 hc2
      have hcg := (Mem.cellAt (i := 0) (v := .slice (some ⟨gr, 0, none⟩) n c) [BlockA w.heap.size #[.int .i64 r1, .int .i64 r2, .int .i64 r3, .int .i64 r4, .int .i64 r5] 85] (r := [RowA 85 5 (some ⟨gr, 0, none⟩) n c F]) HM5.out rfl).1
      have b0 := (Mem.cellAt (i := 0) (v := .int .i64 r1) [] (r := [BlockA g #[.slice (some ⟨gr, 0, none⟩) n c] 146, RowA 85 5 (some ⟨gr, 0, none⟩) n c F]) HM5.out rfl).1
      have b1 := (Mem.cellAt (i := 1) (v := .int .i64 r2) [] (r := [BlockA g #[.slice (some ⟨gr, 0, none⟩) n c] 146, RowA 85 5 (some ⟨gr, 0, none⟩) n c F]) HM5.out rfl).1
      have b2 := (Mem.cellAt (i := 2) (v := .int .i64 r3) [] (r := [BlockA g #[.slice (some ⟨gr, 0, none⟩) n c] 146, RowA 85 5 (some ⟨gr, 0, none⟩) n c F]) HM5.out rfl).1
      have b3 := (Mem.cellAt (i := 3) (v := .int .i64 r4) [] (r := [BlockA g #[.slice (some ⟨gr, 0, none⟩) n c] 146, RowA 85 5 (some ⟨gr, 0, none⟩) n c F]) HM5.out rfl).1
      have b4 := (Mem.cellAt (i := 4) (v := .int .i64 r5) [] (r := [BlockA g #[.slice (some ⟨gr, 0, none⟩) n c] 146, RowA 85 5 (some ⟨gr, 0, none⟩) n c F]) HM5.out rfl).1
      have hrow := Mem.rowAt [BlockA w.heap.size #[.int .i64 r1, .int .i64 r2, .int .i64 r3, .int .i64 r4, .int .i64 r5] 85, BlockA g #[.slice (some ⟨gr, 0, none⟩) n c] 146] (r := []) HM5.out
      have f0 := Row.fz hrow (p * 5) (by omega)
      obtain ⟨_, q0, d0⟩ := hrow.cellAt (p * 5) (by omega)
      simp only [Option.some.injEq, Addr.mk.injEq, and_true] at q0
      subst q0
      have f1 := Row.fz hrow (p * 5 + 1) (by omega)
      obtain ⟨_, q1, d1⟩ := hrow.cellAt (p * 5 + 1) (by omega)
      simp only [Option.some.injEq, Addr.mk.injEq, and_true] at q1
      subst q1
      have f2 := Row.fz hrow (p * 5 + 2) (by omega)
      obtain ⟨_, q2, d2⟩ := hrow.cellAt (p * 5 + 2) (by omega)
      simp only [Option.some.injEq, Addr.mk.injEq, and_true] at q2
      subst q2
      have f3 := Row.fz hrow (p * 5 + 3) (by omega)
      obtain ⟨_, q3, d3⟩ := hrow.cellAt (p * 5 + 3) (by omega)
      simp only [Option.some.injEq, Addr.mk.injEq, and_true] at q3
      subst q3
      have f4 := Row.fz hrow (p * 5 + 4) (by omega)
      obtain ⟨_, q4, d4⟩ := hrow.cellAt (p * 5 + 4) (by omega)
      simp only [Option.some.injEq, Addr.mk.injEq, and_true] at q4
      subst q4
      clear HM5 hrow
      obtain ⟨hx3, hfin⟩ := HS2.out
      go_region
      all_goals
        go_wp2_with fail
        exact hfin
  · rw [if_neg h3]
    have HS : Hid (∀ W0, Mem w D W0 [BlockA w.heap.size #[.int .i64 r.tx, .int .i64 r.att, .int .i64 r.stamp, .int .i64 r.state, .int .i64 r.heard] 85, BlockA g #[.slice (some ⟨gr, 0, none⟩) l.length c] 146, RowA 85 5 (some ⟨gr, 0, none⟩) l.length c (rwFlat l)] → StPost w D g ((0, 8), l) (.returned (.tuple #[.int .i64 0, .int .i64 8])) W0) := Lib.hid fun W0 hW =>
      (⟨rfl, (Mem.drop [] (A := BlockA w.heap.size #[.int .i64 r.tx, .int .i64 r.att, .int .i64 r.stamp, .int .i64 r.state, .int .i64 r.heard] 85) (r := [BlockA g #[.slice (some ⟨gr, 0, none⟩) l.length c] 146, RowA 85 5 (some ⟨gr, 0, none⟩) l.length c (rwFlat l)]) hW).stShut⟩ : StPost w D g ((0, 8), l) (.returned (.tuple #[.int .i64 0, .int .i64 8])) W0)
    have hplt : posR l r.tx < l.length := hp
    clear h hl hh M hpt e1 hr hat hat0 hput M1 hbl
    generalize StPost w D g ((0, 8), l) = R at *
    generalize posR l r.tx = p at *
    generalize rowR l r.tx = z at *
    generalize rwFlat l = F at *
    generalize hnn : l.length = n at *
    clear hnn
    obtain ⟨r1, r2, r3, r4, r5⟩ := r
    obtain ⟨z1, z2, z3, z4, z5⟩ := z
    obtain ⟨h0, h1, h2, h3', h4⟩ := hatw1
    simp only at h0 h1 h2 h3' h4 h3 HS HF HM1 hw1 hc hatl ⊢
    have h3b : (z4 != 3) = true := by simpa using h3
    go_enter Tryz.func126, Tryz.ntmps126
    go_wp2_with fail
    rw [← hw1]
    clear hw1
    go_wp2_with fail
    refine HF.out.mono ?_
    rintro e w2 ⟨rfl, hb⟩
    have M2 := HM1.out.below hb
    have M3 := M2.below (bel_new w2 (.cells #[.int .i64 z1, .int .i64 z2, .int .i64 z3, .int .i64 z4, .int .i64 z5] 85))
    have hc2 := (hb.cell (World.block_lt_of_cell? w1 _ hc.1)).trans hc.1
    obtain ⟨x0, x1, x2, x3, x4⟩ := hatl.below hb
    simp only at x0 x1 x2 x3 x4
    have hfin := HS.out _ M3
    clear M2 M3 HF HM1 hb hc HS h0 h1 h2 h3' h4
    go_wp2_with fail
    exact hfin
end Go.Proofs.YtmifgnibalbgjaaGreat
