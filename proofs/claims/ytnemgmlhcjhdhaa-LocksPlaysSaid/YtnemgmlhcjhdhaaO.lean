/- Ask: the short ways, a new line. -/
import Derived.Test.YtnemgmlhcjhdhaaN
import Derived.Test.YtnemgmlhcjhdhaaC
namespace Go.Proofs.Ytnemgmlhcjhdhaa
open Go.RowKit
theorem perm_line (B R H Q : Asn) (A1 A2 r : List Asn) : (B :: R :: ((A1 ++ (H :: Q :: A2)) ++ r)).Perm ([R, H, Q] ++ (B :: (A1 ++ (A2 ++ r)))) := by
  have h1 : ((A1 ++ (H :: Q :: A2)) ++ r).Perm (H :: Q :: (A1 ++ (A2 ++ r))) := by
    rw [List.append_assoc]
    exact List.perm_middle.trans (List.perm_middle.cons H)
  refine ((h1.cons R).cons B).trans ?_
  refine (List.Perm.swap R B _).trans ?_
  refine ((List.Perm.swap H B _).trans ((List.Perm.swap Q B _).cons H)).cons R
theorem perm_new (N B R S : Asn) (A1 A2 : List Asn) : (N :: B :: R :: S :: (A1 ++ A2)).Perm (B :: R :: (A1 ++ (S :: N :: A2))) := by
  refine (List.Perm.swap B N _).trans (((List.Perm.swap R N _).trans (((List.Perm.swap S N _).trans ?_).cons R)).cons B)
  exact ((List.perm_middle (l₁ := A1) (a := S) (l₂ := N :: A2)).trans (List.perm_middle.cons S)).symm
section
variable {w0 w : World} {D0 : List Nat} {p g n lc : Nat} {X : List Ln} {L : List Li} {r : List Asn}
/-- a line is taken out. -/
theorem Mem.lineOut {i : Nat} (hx : i < X.length) (hl : i < L.length) (h : Mem w0 D0 w (BlockA p #[.slice (some ⟨g, 0, none⟩) n lc] 59 :: RowL g n lc X :: (rowsOf X L ++ r))) :
    Mem w0 D0 w ([RowL g n lc X, RowH X[i].hs L[i].hs, RowH X[i].qs L[i].qs] ++ (BlockA p #[.slice (some ⟨g, 0, none⟩) n lc] 59 :: (rowsOf (X.take i) (L.take i) ++ (rowsOf (X.drop (i + 1)) (L.drop (i + 1)) ++ r)))) := by
  rw [rowsOf_at hx hl] at h
  exact h.perm (perm_line _ _ _ _ _ _ _)
/-- and put in again. -/
theorem Mem.lineIn {i : Nat} (hk : X.map (·.key) = L.map (·.key)) (hx : i < X.length) (hl : i < L.length) {x : Ln} {l : Li} (hxk : x.key = X[i].key) (hlk : l.key = L[i].key)
    (h : Mem w0 D0 w ([RowL g n lc (X.set i x), RowH x.hs l.hs, RowH x.qs l.qs] ++ (BlockA p #[.slice (some ⟨g, 0, none⟩) n lc] 59 :: (rowsOf (X.take i) (L.take i) ++ (rowsOf (X.drop (i + 1)) (L.drop (i + 1)) ++ r))))) : Mem w0 D0 w (TabA p (L.set i l) :: r) := by
  refine Mem.shut (X := X.set i x) (la := some ⟨g, 0, none⟩) (n := n) (c := lc) ?_ ?_
  · obtain ⟨k1, k2⟩ := keys_at hk
    rw [List.map_set, List.map_set, hk, hxk, hlk, k2 i hx hl]
  · rw [rowsOf_set hx hl]
    exact h.perm (perm_line _ _ _ _ _ _ _).symm
end
/-- what Ask leaves. -/
def AskPost (w : World) (D : List Nat) (p : Nat) (r : Int × List Li) (e : Ending) (w' : World) : Prop := e = .returned (.int .i64 r.1) ∧ Mem w D w' [TabA p r.2]
set_option maxRecDepth 100000 in
set_option maxHeartbeats 2000000 in
theorem tab_ask_bad (p : Nat) (L : List Li) (o : Int) (k : ByteArray) (m : Int) (w : World) (D : List Nat) (h : TabA p L w D) (hbad : o < 0 ∨ 16 < k.size ∨ modeM m = false) :
    Calls Try.prog 20 #[.pointer (some ⟨p, 0, none⟩), .int .i64 o, .string k, .int .i64 m] w (AskPost w D p (1, L)) := by
  have HF := Lib.hid (show AskPost w D p (1, L) (.returned (.int .i64 1)) w from ⟨rfl, Mem.start h⟩)
  clear h
  generalize AskPost w D p (1, L) = R at *
  by_cases h1 : o < 0
  · go_enter Try.func20, Try.ntmps20
    go_wp2_with fail
    exact HF.out
  · by_cases h2 : 16 < k.size
    · have h2' : (16 : Int) < (k.size : Int) := by omega
      go_enter Try.func20, Try.ntmps20
      go_wp2_with fail
      exact HF.out
    · have h2' : ¬ (16 : Int) < (k.size : Int) := by omega
      have h3 : modeM m = false := by
        rcases hbad with h | h | h
        · exact absurd h h1
        · exact absurd h h2
        · exact h
      have HM := Lib.hid (mode_any m w)
      rw [h3] at HM
      clear hbad h3
      go_enter Try.func20, Try.ntmps20
      go_wp2_with fail
      refine HM.out.mono ?_
      rintro e w1 ⟨rfl, rfl⟩
      go_wp2_with fail
      exact HF.out
theorem lnFlat_ins (l : List Ln) (t : Ln) (k : Nat) : (lnFlat l).take (k * 3) ++ lnCells t ++ (lnFlat l).drop (k * 3) = lnFlat (l.take k ++ t :: l.drop k) := by
  rw [lnFlat_take, lnFlat_drop, lnFlat_append, lnFlat_cons, List.append_assoc]
set_option maxRecDepth 100000 in
set_option maxHeartbeats 4000000 in
theorem tab_ask_new (p : Nat) (L : List Li) (o : Int) (k : ByteArray) (m : Int) (w : World) (D : List Nat) (h : TabA p L w D) (hs : SortL L) (hb : Sm 1000 L) (h1 : ¬ o < 0) (h2 : ¬ 16 < k.size) (h3 : modeM m = true) (hh : hasL L k = false) :
    Calls Try.prog 20 #[.pointer (some ⟨p, 0, none⟩), .int .i64 o, .string k, .int .i64 m] w (AskPost w D p (0, L.take (posL L k) ++ ⟨k, [⟨o, m⟩], []⟩ :: L.drop (posL L k))) := by
  obtain ⟨la, n, c, X, hk, hm⟩ := Mem.table (Mem.start h)
  obtain ⟨k1, k2⟩ := keys_at hk
  have hl := lnrow_len (Mem.rowAt [BlockA p #[.slice la n c] 59] (r := rowsOf X L ++ []) hm)
  obtain ⟨hc, -⟩ := Mem.cellAt (i := 0) (v := .slice la n c) [] (r := RowA 34 3 la n c (lnFlat X) :: (rowsOf X L ++ [])) hm rfl
  have hq : posL L k ≤ L.length := posBy_le _ _
  have HF := Lib.hid (tab_find p la n c X L k w hc (Mem.rowAt [BlockA p #[.slice la n c] 59] (r := rowsOf X L ++ []) hm) hk hs (by have := hb.1; omega))
  rw [hh] at HF
  have h2' : ¬ (16 : Int) < (k.size : Int) := by omega
  have HM := Lib.hid (mode_any m w)
  rw [h3] at HM
  have M0 := Lib.hid hm
  have HFIN : Hid (∀ W la' n' c' (s : Sl), Mem w D W (BlockA p #[.slice la' n' c'] 59 :: RowA 34 3 la' n' c' (lnFlat (X.take (posL L k) ++ ⟨k, s, ⟨none, 0, 0⟩⟩ :: X.drop (posL L k))) :: RowH s [⟨o, m⟩] :: (rowsOf X L ++ [])) → AskPost w D p (0, L.take (posL L k) ++ ⟨k, [⟨o, m⟩], []⟩ :: L.drop (posL L k)) (.returned (.int .i64 0)) W) := Lib.hid fun W la' n' c' s hW => ⟨rfl, by
    have h1 := hW.new (Below.refl _ _) (As := [RowH ⟨none, 0, 0⟩ []]) (all_one ⟨rfl, Row.nil _ _ _⟩) (by simp [blkOf])
    have e1 : rowsOf X L = rowsOf (X.take (posL L k)) (L.take (posL L k)) ++ rowsOf (X.drop (posL L k)) (L.drop (posL L k)) := by
      rw [← rowsOf_append _ _ _ _ (by rw [List.length_take, List.length_take, k1]), List.take_append_drop, List.take_append_drop]
    have e2 : rowsOf (X.take (posL L k) ++ ⟨k, s, ⟨none, 0, 0⟩⟩ :: X.drop (posL L k)) (L.take (posL L k) ++ ⟨k, [⟨o, m⟩], []⟩ :: L.drop (posL L k)) = rowsOf (X.take (posL L k)) (L.take (posL L k)) ++ (RowH s [⟨o, m⟩] :: RowH ⟨none, 0, 0⟩ [] :: rowsOf (X.drop (posL L k)) (L.drop (posL L k))) := by
      rw [rowsOf_append _ _ _ _ (by rw [List.length_take, List.length_take, k1])]; rfl
    refine Mem.shut (la := la') (n := n') (c := c') (X := X.take (posL L k) ++ ⟨k, s, ⟨none, 0, 0⟩⟩ :: X.drop (posL L k)) ?_ (h1.perm ?_)
    · rw [List.map_append, List.map_append, List.map_cons, List.map_cons, List.map_take, List.map_drop, List.map_take, List.map_drop, hk]
    · rw [e1, e2, List.append_nil, List.append_nil]
      exact perm_new _ _ _ _ _ _⟩
  have hqn : (posL L k : Int) ≤ 1000 := by have := hb.1; omega
  have hnn : n ≤ 1000 := by have := hb.1; omega
  have HQ := Lib.hid (show posL L k ≤ n by omega)
  clear hm hk k1 k2 hl hs h hh h3 hb hq
  generalize AskPost w D p (0, L.take (posL L k) ++ ⟨k, [⟨o, m⟩], []⟩ :: L.drop (posL L k)) = R at *
  generalize posL L k = q at *
  go_enter Try.func20, Try.ntmps20
  go_wp2_with fail
  refine HM.out.mono ?_
  rintro e w1 ⟨rfl, rfl⟩
  go_wp2_with fail
  refine HF.out.mono ?_
  rintro e w1 ⟨rfl, hb⟩
  have M1 := M0.out.below hb
  have hc1 := (hb.cell (World.block_lt_of_cell? w _ hc)).trans hc
  have hc2 := fun o => ((bel_new w1 o).cell (World.block_lt_of_cell? w1 _ hc1)).trans hc1
  have hla : ∀ x ∈ blkOf la, x < w1.heap.size := fun x hx => by
    obtain ⟨y, hy, rfl⟩ := mem_blkOf.1 hx
    exact (Mem.rowAt [BlockA p #[.slice la n c] 59] (r := rowsOf X L ++ []) M1).lt y hy
  have M2 := (M1.new (bel_new w1 (.cells #[.int .i64 o, .int .i64 m] 36)) (As := [RowH ⟨some ⟨w1.heap.size, 0, none⟩, 1, 1⟩ [⟨o, m⟩]]) (all_one ⟨rfl, Row.mk (heap_new w1 _) (Nat.le_refl _) (by show 1 ≤ maxLen; unfold maxLen; omega) (by rfl) (by rfl)⟩) (by simp [blkOf])).block #[.string k, .slice (some ⟨w1.heap.size, 0, none⟩) 1 1, .slice none 0 0] 34
  rw [show (w1.alloc (.cells #[.int .i64 o, .int .i64 m] 36)).heap.size = w1.heap.size + 1 by simp only [World.size_alloc]] at M2
  have hv : ((w1.alloc (.cells #[.int .i64 o, .int .i64 m] 36)).alloc (.cells #[.string k, .slice (some ⟨w1.heap.size, 0, none⟩) 1 1, .slice none 0 0] 34)).heap[w1.heap.size + 1]? = some (.cells (lnCells ⟨k, ⟨some ⟨w1.heap.size, 0, none⟩, 1, 1⟩, ⟨none, 0, 0⟩⟩).toArray 34 (0, 0)) := heap_alloc_at _ _ _ (by simp only [World.size_alloc])
  have HI := Lib.hid (insL_any la n c q (w1.heap.size + 1) (lnFlat X) (lnCells ⟨k, ⟨some ⟨w1.heap.size, 0, none⟩, 1, 1⟩, ⟨none, 0, 0⟩⟩) ((w1.alloc (.cells #[.int .i64 o, .int .i64 m] 36)).alloc (.cells #[.string k, .slice (some ⟨w1.heap.size, 0, none⟩) 1 1, .slice none 0 0] 34)) (Mem.rowAt [BlockA (w1.heap.size + 1) #[.string k, .slice (some ⟨w1.heap.size, 0, none⟩) 1 1, .slice none 0 0] 34, RowH ⟨some ⟨w1.heap.size, 0, none⟩, 1, 1⟩ [⟨o, m⟩], BlockA p #[.slice la n c] 59] (r := rowsOf X L ++ []) M2) hv rfl (fun h => by have := hla _ h; omega) (lnFlat_one X) (lnCells_one _) HQ.out (by omega))
  have M3 := Lib.hid M2
  clear hb hc M0 M1 M2 hla hv
  go_wp2_with fail
  refine HI.out.mono ?_
  rintro e w3 ⟨a', c', rfl, hrow, ht, hf⟩
  rw [lnFlat_ins] at hrow
  have M4 := Mem.rowTurn [BlockA (w1.heap.size + 1) #[.string k, .slice (some ⟨w1.heap.size, 0, none⟩) 1 1, .slice none 0 0] 34, RowH ⟨some ⟨w1.heap.size, 0, none⟩, 1, 1⟩ [⟨o, m⟩], BlockA p #[.slice la n c] 59] (r := rowsOf X L ++ []) M3.out hrow ht hf
  obtain ⟨y0, y1⟩ := Mem.cellAt (i := 0) (v := .slice la n c) [BlockA (w1.heap.size + 1) #[.string k, .slice (some ⟨w1.heap.size, 0, none⟩) 1 1, .slice none 0 0] 34, RowH ⟨some ⟨w1.heap.size, 0, none⟩, 1, 1⟩ [⟨o, m⟩]] (r := RowA 34 3 a' (n + 1) c' (lnFlat (X.take q ++ ⟨k, ⟨some ⟨w1.heap.size, 0, none⟩, 1, 1⟩, ⟨none, 0, 0⟩⟩ :: X.drop q)) :: (rowsOf X L ++ [])) M4 rfl
  have M5 := Mem.setAt [BlockA (w1.heap.size + 1) #[.string k, .slice (some ⟨w1.heap.size, 0, none⟩) 1 1, .slice none 0 0] 34, RowH ⟨some ⟨w1.heap.size, 0, none⟩, 1, 1⟩ [⟨o, m⟩]] (r := RowA 34 3 a' (n + 1) c' (lnFlat (X.take q ++ ⟨k, ⟨some ⟨w1.heap.size, 0, none⟩, 1, 1⟩, ⟨none, 0, 0⟩⟩ :: X.drop q)) :: (rowsOf X L ++ [])) (i := 0) M4 (.slice a' (n + 1) c')
  have M6 := Mem.drop [] (A := BlockA (w1.heap.size + 1) #[.string k, .slice (some ⟨w1.heap.size, 0, none⟩) 1 1, .slice none 0 0] 34) (r := RowH ⟨some ⟨w1.heap.size, 0, none⟩, 1, 1⟩ [⟨o, m⟩] :: BlockA p #[.slice a' (n + 1) c'] 59 :: RowA 34 3 a' (n + 1) c' (lnFlat (X.take q ++ ⟨k, ⟨some ⟨w1.heap.size, 0, none⟩, 1, 1⟩, ⟨none, 0, 0⟩⟩ :: X.drop q)) :: (rowsOf X L ++ [])) M5
  have HF2 := Lib.hid (HFIN.out _ a' (n + 1) c' ⟨some ⟨w1.heap.size, 0, none⟩, 1, 1⟩ (M6.perm ((List.Perm.swap _ _ _).trans ((List.Perm.swap _ _ _).cons _))))
  clear hrow ht hf M4 M5 M6 M3 HFIN HI
  go_wp2_with fail
  exact HF2.out
end Go.Proofs.Ytnemgmlhcjhdhaa
