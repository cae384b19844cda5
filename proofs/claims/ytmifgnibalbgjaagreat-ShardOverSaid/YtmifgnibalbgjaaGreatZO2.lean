/- Who lives here, told. -/
import Derived.Test.YtmifgnibalbgjaaGreatZO1
import Derived.Test.YtmifgnibalbgjaaGreatZM5
import Derived.Test.YtmifgnibalbgjaaGreatZShelf
import Derived.Test.YtmifgnibalbgjaaGreatZIy
namespace Go.Proofs.YtmifgnibalbgjaaGreat
open Go.RowKit set_option linter.unusedVariables false set_option linter.unusedSimpArgs false
/-- one that lives, told: its cells. -/
abbrev lqCells (p : Int × Le) : List Value := [.int .i64 p.1, .int .i64 p.2.att, .int .i64 p.2.last.kind, .int .i64 p.2.last.tx, .int .i64 p.2.last.att, .int .i64 p.2.last.stamp, .int .i64 p.2.last.op, .string p.2.last.key, .string p.2.last.value, .int .i64 p.2.last.mode, .bool p.2.last.yes, .slice p.2.a p.2.n p.2.c]
def lqFlat : List (Int × Le) → List Value
 | [] => []
 | p :: r => lqCells p ++ lqFlat r
theorem lqFlat_append : ∀ (X Y : List (Int × Le)), lqFlat (X ++ Y) = lqFlat X ++ lqFlat Y
 | [], _ => rfl
 | p :: r, Y => by simp only [List.cons_append, lqFlat, lqFlat_append r Y, List.append_assoc]
theorem lqFlat_len : ∀ (X : List (Int × Le)), (lqFlat X).length = X.length * 12
 | [] => rfl
 | p :: r => by simp only [lqFlat, List.length_append, lqFlat_len r, List.length_cons, List.length_nil]; omega
theorem infoLq : (Tryz.prog.info? 41).map (fun i => (i.zero, i.size, i.bytes)) = some (some (.agg #[.int .i64 0, .int .i64 0, .int .i64 0, .int .i64 0, .int .i64 0, .int .i64 0, .int .i64 0, .string ⟨#[]⟩, .string ⟨#[]⟩, .int .i64 0, .bool false, .slice none 0 0]), 12, 128) := by kernel_rfl
/-- an answer that is those who live. -/
def LivesP (w : World) (L : List (Int × Lv)) (e : Ending) (w' : World) : Prop := ∃ b d X, e = .returned (.slice b L.length d) ∧ lvE X = L ∧ Mem w [] w' (RowA 41 12 b L.length d (lqFlat X) :: X.map fun p => Le.row p.2)
instance stLes {X : List (Int × Le)} : Stables (X.map fun p => Le.row p.2) := stables_map (fun _ => inferInstance) X
theorem kGet_of_memZ {E : List (Int × Le)} (hL : E.Pairwise fun p q => (intK (P := Tryz.prog) Tryz.underlying3).lt p.1 q.1 = true) {p : Int × Le} (hp : p ∈ E) : kGet p.1 E = some p.2 := by
 induction E with
 | nil => cases hp
 | cons y r ih =>
  rw [List.pairwise_cons] at hL
  rcases List.mem_cons.1 hp with rfl | h
  ·unfold kGet
   rw [List.find?_cons_of_pos (by simp)]
   rfl
  ·have h2 : y.1 ≠ p.1 := (ordI Tryz.underlying3).ne (hL.1 _ h)
   have h3 := ih hL.2 h
   unfold kGet at h3 ⊢
   rw [List.find?_cons_of_neg (by simpa using h2)]
   exact h3
theorem Mem.cutEnd {w0 w : World} {D0 : List Nat} (l : List Asn) {r : List Asn} (h : Mem w0 D0 w (l ++ r)) : Mem w0 D0 w l := by
 obtain ⟨D, hA, hD⟩ := h.out
 obtain ⟨D1, D2, rfl, -, h1, -⟩ := all_append l r hA
 exact ⟨D1, h1, hD.touch, fun x hx => hD.fresh x (List.mem_append_left _ hx)⟩
set_option maxRecDepth 100000 in
set_option maxHeartbeats 8000000 in
theorem sh_lives_any {g : Nat} {S : Sh} {w : World} {D : List Nat} (h : ShA g S w D) (hn : S.lives.length ≤ 1000) (hI : ∀ p ∈ S.lives, i64 p.1) (hw : ∀ p ∈ S.lives, p.2.ws.length ≤ 1000) : Calls Tryz.prog 14 #[.pointer (some ⟨g, 0, none⟩)] w (LivesP w S.lives) := by
 obtain ⟨pc, pl, ps, bl, bd, E, e, hA, M⟩ := h.at
 have hEl : E.length = S.lives.length := by have := congrArg List.length e; simpa [lvE] using this
 have hc5 := hA.c5
 obtain ⟨DK, hDK⟩ := Mem.krMap [shB g S pc pl ps bl bd, CellsA pc S.cells S.clast, TabA pl S.locks, StA ps S.rows] (r := [KMapA (intK Tryz.underlying3) bd (dnV S.dones)]) M
 have hRS := Mem.krRise [shB g S pc pl ps bl bd, CellsA pc S.cells S.clast, TabA pl S.locks, StA ps S.rows] (r := [KMapA (intK Tryz.underlying3) bd (dnV S.dones)]) M
 have HRS := Lib.hid hRS
 have HS := Lib.hid (sorted43 hDK (by simp; omega))
 have HM := Lib.hid M
 have HEN := Lib.hid (show ∀ j (hj : j < E.length), i64 E[j].1 ∧ E[j].2.ws.length ≤ 1000 from fun j hj => by
  have hm : (E[j].1, E[j].2.lv) ∈ S.lives := by rw [← e]; exact List.mem_map.2 ⟨E[j], List.getElem_mem hj, rfl⟩
  exact ⟨hI _ hm, hw _ hm⟩)
 have HEL := Lib.hid hEl
 have HE := Lib.hid e
 have hn4 : E.length ≤ 1000 := by omega
 have hc5a := ((bel_new w (.cells #[.map (some bl)] 96)).cell (World.block_lt_of_cell? w _ hc5)).trans hc5
 clear h hA M hDK hRS e hI hw hn hEl
 go_enter Tryz.func14, Tryz.ntmps14
 go_wp2_with fail
 refine (keys43 bl w).mono ?_
 rintro e w1 ⟨rfl, rfl⟩
 go_wp2_with fail
 refine HS.out.mono ?_
 rintro e w2 ⟨ka, kc, rfl, hr, hf, hb⟩
 simp only [List.length_map, List.map_map, Function.comp_def] at hr
 have M0 := Lib.hid (((Mem.nil w).new hb (As := [RowA 3 1 ka E.length kc (E.map fun p => Value.int .i64 p.1)]) (D' := blkOf ka) (all_one ⟨rfl, hr⟩) (fun x hx => Nat.le_of_lt (hf x hx))).new (Below.refl _ _) (As := [RowA 41 12 none 0 0 (lqFlat [])]) (D' := []) (all_one ⟨rfl, Row.nil _ _ _⟩) (by simp))
 clear hr hf hb HS hc5 hc5a
 simp only [List.length_map]
 go_wp2_with fail
 go_loopw [3, 5, 6, 16] (fun v3 v5 v6 jv wr => ∃ i : Nat, i ≤ E.length ∧ jv = .int .i64 (i : Nat) ∧ Hid (∃ b d X, v3 = .slice b i d ∧ lvE X = lvE (E.take i) ∧ Mem w [] wr (RowA 41 12 b i d (lqFlat X) :: ((X.map fun p => Le.row p.2) ++ [RowA 3 1 ka E.length kc (E.map fun p => Value.int .i64 p.1)])))) (fun _ _ _ jv _ => E.length - (intOf jv).toNat)
 case atStart => exact ⟨0, Nat.zero_le _, rfl, Lib.hid ⟨none, 0, [], rfl, rfl, M0.out⟩⟩
 case round =>
  obtain ⟨w3, rfl⟩ : ∃ w3, w3 = wr := ⟨_, rfl⟩
  obtain ⟨i, hi, rfl, hS⟩ := hrel
  clear M0
  obtain ⟨b, d, X, rfl, hX, hm⟩ := hS.out
  clear hS
  by_cases hlt : i < E.length
  ·obtain ⟨gk, hgk, hck⟩ := (Mem.rowAt (RowA 41 12 b i d (lqFlat X) :: (X.map fun p => Le.row p.2)) (r := []) hm).cellAt i (by simpa using hlt)
   subst hgk
   rw [List.getElem_map] at hck
   obtain ⟨hi64, hws⟩ := HEN.out i hlt
   have hgE : kGet E[i].1 E = some E[i].2 := kGet_of_memZ HRS.out (List.getElem_mem hlt)
   have M3 := HM.out.below hm.bel
   have hA := Mem.shAt M3 hi64
   have hl1 := hA.lives1
   rw [hgE] at hl1
   simp only [Option.getD_some] at hl1
   have hg5 := hA.c5
   have hrow := sh_row [shB g S pc pl ps bl bd, CellsA pc S.cells S.clast, TabA pl S.locks, StA ps S.rows] (r := [KMapA (intK Tryz.underlying3) bd (dnV S.dones)]) M3 hgE
   have HFIN : Hid (∀ W b' d' a' c' q, Mem w [] W (RowA 43 3 a' E[i].2.n c' (wrFlat E[i].2.ws) :: q :: RowA 41 12 b' (i + 1) d' (lqFlat X ++ lqCells (E[i].1, ⟨E[i].2.att, E[i].2.last, a', E[i].2.n, c', E[i].2.ws⟩)) :: ((X.map fun p => Le.row p.2) ++ [RowA 3 1 (some ⟨gk, 0, none⟩) E.length kc (E.map fun p => Value.int .i64 p.1)])) → Stable q → ∃ b d X, Value.slice b' (i + 1) d' = .slice b (i + 1) d ∧ lvE X = lvE (E.take (i + 1)) ∧ Mem w [] W (RowA 41 12 b (i + 1) d (lqFlat X) :: ((X.map fun p => Le.row p.2) ++ [RowA 3 1 (some ⟨gk, 0, none⟩) E.length kc (E.map fun p => Value.int .i64 p.1)]))) := Lib.hid fun W b' d' a' c' q hW hq => by
    refine ⟨b', d', X ++ [(E[i].1, ⟨E[i].2.att, E[i].2.last, a', E[i].2.n, c', E[i].2.ws⟩)], rfl, ?_, ?_⟩
    ·rw [List.take_succ_eq_append_getElem hlt]
     unfold lvE at hX ⊢
     rw [List.map_append, List.map_append, hX]
     rfl
    ·have h1 := Mem.drop [RowA 43 3 a' E[i].2.n c' (wrFlat E[i].2.ws)] (A := q) hW
     rw [lqFlat_append]
     refine Mem.perm h1 (perm_ct fun x => ?_)
     rw [show lqFlat [(E[i].1, (⟨E[i].2.att, E[i].2.last, a', E[i].2.n, c', E[i].2.ws⟩ : Le))] = lqCells (E[i].1, ⟨E[i].2.att, E[i].2.last, a', E[i].2.n, c', E[i].2.ws⟩) from by simp only [lqFlat, List.append_nil]]
     simp only [List.map_append, List.map_cons, List.map_nil, cnt_cons, cnt_append, cnt_nil, List.cons_append, List.nil_append, Le.row]
     omega
   have HX := Lib.hid hX
   generalize E[i] = z at *
   obtain ⟨tx, ⟨xatt, ⟨xk, xtx, xat, xst, xop, xkey, xval, xmode, xyes⟩, xa, xn, xc, xws⟩⟩ := z
   simp only at hck hi64 hws hl1 hrow HFIN
   have HCL := Lib.hid fun W (hW : Mem w [] W (BlockA w3.heap.size #[.int .i64 xatt, .int .i64 xk, .int .i64 xtx, .int .i64 xat, .int .i64 xst, .int .i64 xop, .string xkey, .string xval, .int .i64 xmode, .bool xyes, .slice xa xn xc] 108 :: RowA 41 12 b i d (lqFlat X) :: ((X.map fun p => Le.row p.2) ++ [RowA 3 1 (some ⟨gk, 0, none⟩) E.length kc (E.map fun p => Value.int .i64 p.1)]))) (hb : Below w3.heap.size w3 W) => (cloW_any xa xn xc (wrFlat xws) W ((SrcV.row hrow).below hb) (wrFlat_one xws) (by have := hrow.len; rw [wrFlat_len] at this; omega)).mono fun e W' (h : ∃ a' c', e = .returned (.slice a' xn c') ∧ Row W' 43 3 a' xn c' (wrFlat xws) ∧ Below W.heap.size W W' ∧ ∀ x ∈ blkOf a', W.heap.size ≤ x) => (by
    obtain ⟨a', c', he, hr, hb, hf⟩ := h
    exact ⟨a', c', he, hW.new hb (As := [RowA 43 3 a' xn c' (wrFlat xws)]) (all_one ⟨rfl, hr⟩) hf⟩ : ∃ a' c', e = .returned (.slice a' xn c') ∧ Mem w [] W' (RowA 43 3 a' xn c' (wrFlat xws) :: BlockA w3.heap.size #[.int .i64 xatt, .int .i64 xk, .int .i64 xtx, .int .i64 xat, .int .i64 xst, .int .i64 xop, .string xkey, .string xval, .int .i64 xmode, .bool xyes, .slice xa xn xc] 108 :: RowA 41 12 b i d (lqFlat X) :: ((X.map fun p => Le.row p.2) ++ [RowA 3 1 (some ⟨gk, 0, none⟩) E.length kc (E.map fun p => Value.int .i64 p.1)])))
   have M7 := Lib.hid (hm.block #[.int .i64 xatt, .int .i64 xk, .int .i64 xtx, .int .i64 xat, .int .i64 xst, .int .i64 xop, .string xkey, .string xval, .int .i64 xmode, .bool xyes, .slice xa xn xc] 108)
   have hb7 := bel_new w3 (.cells #[.int .i64 xatt, .int .i64 xk, .int .i64 xtx, .int .i64 xat, .int .i64 xst, .int .i64 xop, .string xkey, .string xval, .int .i64 xmode, .bool xyes, .slice xa xn xc] 108)
   clear hm hX hgE M3 hA hrow
   go_wp2_with fail
   obtain ⟨W7, hW7⟩ : ∃ W7, W7 = w3.alloc (.cells #[.int .i64 xatt, .int .i64 xk, .int .i64 xtx, .int .i64 xat, .int .i64 xst, .int .i64 xop, .string xkey, .string xval, .int .i64 xmode, .bool xyes, .slice xa xn xc] 108) := ⟨_, rfl⟩
   rw [← hW7] at M7 hb7 ⊢
   clear hW7 hg5 hl1 hck
   have m7 := M7.out.below (bel_drew W7)
   have hb7d : Below w3.heap.size w3 W7.drew := hb7.drew
   generalize w3.heap.size = b6 at *
   have HS8 : Hid (∀ W l, Mem w [] W l → BlockA b6 #[.int .i64 xatt, .int .i64 xk, .int .i64 xtx, .int .i64 xat, .int .i64 xst, .int .i64 xop, .string xkey, .string xval, .int .i64 xmode, .bool xyes, .slice xa xn xc] 108 ∈ l → W.cell? ⟨b6, 0, none⟩ = some (.int .i64 xatt) ∧ W.cell? ⟨b6, 1, none⟩ = some (.int .i64 xk) ∧ W.cell? ⟨b6, 2, none⟩ = some (.int .i64 xtx) ∧ W.cell? ⟨b6, 3, none⟩ = some (.int .i64 xat) ∧ W.cell? ⟨b6, 4, none⟩ = some (.int .i64 xst) ∧ W.cell? ⟨b6, 5, none⟩ = some (.int .i64 xop) ∧ W.cell? ⟨b6, 6, none⟩ = some (.string xkey) ∧ W.cell? ⟨b6, 7, none⟩ = some (.string xval) ∧ W.cell? ⟨b6, 8, none⟩ = some (.int .i64 xmode) ∧ W.cell? ⟨b6, 9, none⟩ = some (.bool xyes) ∧ W.cell? ⟨b6, 10, none⟩ = some (.slice xa xn xc)) := Lib.hid fun W l hW hl => by
    have hB := Mem.blk hW hl
    exact ⟨(cell_of_heap (i := 0) (v := .int .i64 xatt) hB rfl).1, (cell_of_heap (i := 1) (v := .int .i64 xk) hB rfl).1, (cell_of_heap (i := 2) (v := .int .i64 xtx) hB rfl).1, (cell_of_heap (i := 3) (v := .int .i64 xat) hB rfl).1, (cell_of_heap (i := 4) (v := .int .i64 xst) hB rfl).1, (cell_of_heap (i := 5) (v := .int .i64 xop) hB rfl).1, (cell_of_heap (i := 6) (v := .string xkey) hB rfl).1, (cell_of_heap (i := 7) (v := .string xval) hB rfl).1, (cell_of_heap (i := 8) (v := .int .i64 xmode) hB rfl).1, (cell_of_heap (i := 9) (v := .bool xyes) hB rfl).1, (cell_of_heap (i := 10) (v := .slice xa xn xc) hB rfl).1⟩
   have hS0 := HS8.out _ _ m7 (by simp)
   refine wp_region_till (fun W => W.cell? ⟨b6, 0, none⟩ = some (.int .i64 xatt) ∧ W.cell? ⟨b6, 1, none⟩ = some (.int .i64 xk) ∧ W.cell? ⟨b6, 2, none⟩ = some (.int .i64 xtx) ∧ W.cell? ⟨b6, 3, none⟩ = some (.int .i64 xat) ∧ W.cell? ⟨b6, 4, none⟩ = some (.int .i64 xst) ∧ W.cell? ⟨b6, 5, none⟩ = some (.int .i64 xop) ∧ W.cell? ⟨b6, 6, none⟩ = some (.string xkey) ∧ W.cell? ⟨b6, 7, none⟩ = some (.string xval) ∧ W.cell? ⟨b6, 8, none⟩ = some (.int .i64 xmode) ∧ W.cell? ⟨b6, 9, none⟩ = some (.bool xyes) ∧ W.cell? ⟨b6, 10, none⟩ = some (.slice xa xn xc)) 12 (by kernel_rfl) (hS0) (fun hM hS => ?_)
   refine till_op (v := ?_) 0 [11] hM rfl (by kernel_rfl) (by kernel_rfl) (by kernel_rfl) (by kernel_rfl) rfl (fun _ _ _ h => h) (Or.inl ⟨by rfl, ?_⟩) hS (fun hM => ?_)
   rotate_left
   ·intro W hSw
    (try dsimp only at hSw)
    go_simp
    try with_reducible rfl
   try simp only [Act.put, List.setIfInBounds_toArray, List.set_cons_zero, List.set_cons_succ]
   refine till_op (v := ?_) 1 [9, 10, 11] hM rfl (by kernel_rfl) (by kernel_rfl) (by kernel_rfl) (by kernel_rfl) rfl (fun _ _ _ h => h) (Or.inl ⟨by rfl, ?_⟩) hS (fun hM => ?_)
   rotate_left
   ·intro W hSw
    (try dsimp only at hSw)
    go_simp
    try with_reducible rfl
   try simp only [Act.put, List.setIfInBounds_toArray, List.set_cons_zero, List.set_cons_succ]
   refine till_op (v := ?_) 2 [3, 9, 10, 11] hM rfl (by kernel_rfl) (by kernel_rfl) (by kernel_rfl) (by kernel_rfl) rfl (fun _ _ _ h => h) (Or.inl ⟨by rfl, ?_⟩) hS (fun hM => ?_)
   rotate_left
   ·intro W hSw
    (try dsimp only at hSw)
    go_simp
    try with_reducible rfl
   try simp only [Act.put, List.setIfInBounds_toArray, List.set_cons_zero, List.set_cons_succ]
   refine till_op (v := ?_) 3 [9, 10, 11] hM rfl (by kernel_rfl) (by kernel_rfl) (by kernel_rfl) (by kernel_rfl) rfl (fun _ _ _ h => h) (Or.inl ⟨by rfl, ?_⟩) hS (fun hM => ?_)
   rotate_left
   ·intro W hSw
    (try dsimp only at hSw)
    go_simp
    try with_reducible rfl
   try simp only [Act.put, List.setIfInBounds_toArray, List.set_cons_zero, List.set_cons_succ]
   refine till_op (v := ?_) 4 [5, 9, 10, 11] hM rfl (by kernel_rfl) (by kernel_rfl) (by kernel_rfl) (by kernel_rfl) rfl (fun _ _ _ h => h) (Or.inl ⟨by rfl, ?_⟩) hS (fun hM => ?_)
   rotate_left
   ·intro W hSw
    (try dsimp only at hSw)
    go_simp
    try with_reducible rfl
   try simp only [Act.put, List.setIfInBounds_toArray, List.set_cons_zero, List.set_cons_succ]
   refine till_op (v := ?_) 5 [9, 10, 11] hM rfl (by kernel_rfl) (by kernel_rfl) (by kernel_rfl) (by kernel_rfl) rfl (fun _ _ _ h => h) (Or.inl ⟨by rfl, ?_⟩) hS (fun hM => ?_)
   rotate_left
   ·intro W hSw
    (try dsimp only at hSw)
    go_simp
    try with_reducible rfl
   try simp only [Act.put, List.setIfInBounds_toArray, List.set_cons_zero, List.set_cons_succ]
   refine till_op (v := ?_) 6 [7, 8, 9, 10, 11] hM rfl (by kernel_rfl) (by kernel_rfl) (by kernel_rfl) (by kernel_rfl) rfl (fun _ _ _ h => h) (Or.inl ⟨by rfl, ?_⟩) hS (fun hM => ?_)
   rotate_left
   ·intro W hSw
    (try dsimp only at hSw)
    go_simp
    try with_reducible rfl
   try simp only [Act.put, List.setIfInBounds_toArray, List.set_cons_zero, List.set_cons_succ]
   refine till_op (v := ?_) 7 [8, 9, 10, 11] hM rfl (by kernel_rfl) (by kernel_rfl) (by kernel_rfl) (by kernel_rfl) rfl (fun _ _ _ h => h) (Or.inl ⟨by rfl, ?_⟩) hS (fun hM => ?_)
   rotate_left
   ·intro W hSw
    (try dsimp only at hSw)
    go_simp
    try with_reducible rfl
   try simp only [Act.put, List.setIfInBounds_toArray, List.set_cons_zero, List.set_cons_succ]
   refine till_one 8 hM rfl (by kernel_rfl) (fun K hK => ?_)
   go_simp
   go_at_call 44
   refine (HCL.out _ m7 hb7d).mono ?_
   rintro e w8 ⟨a', c', rfl, m8⟩
   have hS8 := HS8.out _ _ m8 (by simp)
   refine hK _ _ (fun _ => hS8) (fun hM => ?_)
   have hS := hS8
   clear hK K
   try simp only [Act.put, List.setIfInBounds_toArray, List.set_cons_zero, List.set_cons_succ]
   refine till_op (v := ?_) 9 [10, 11] hM rfl (by kernel_rfl) (by kernel_rfl) (by kernel_rfl) (by kernel_rfl) rfl (fun _ _ _ h => h) (Or.inl ⟨by rfl, ?_⟩) hS (fun hM => ?_)
   rotate_left
   ·intro W hSw
    (try dsimp only at hSw)
    go_simp
    try with_reducible rfl
   try simp only [Act.put, List.setIfInBounds_toArray, List.set_cons_zero, List.set_cons_succ]
   refine till_one 10 hM rfl (by kernel_rfl) (fun K hK => ?_)
   go_simp
   have hS9 := HS8.out _ _ (m8.block #[.int .i64 tx, .int .i64 xatt, .int .i64 xk, .int .i64 xtx, .int .i64 xat, .int .i64 xst, .int .i64 xop, .string xkey, .string xval, .int .i64 xmode, .bool xyes, .slice a' xn c'] 41) (by simp)
   obtain ⟨b4, d4, w4, hrun4, mB⟩ := Mem.app1 (P := Tryz.prog) (t := 37) (ty := 37) [RowA 43 3 a' xn c' (wrFlat xws), BlockA b6 #[.int .i64 xatt, .int .i64 xk, .int .i64 xtx, .int .i64 xat, .int .i64 xst, .int .i64 xop, .string xkey, .string xval, .int .i64 xmode, .bool xyes, .slice xa xn xc] 108] (r := (X.map fun p => Le.row p.2) ++ [RowA 3 1 (some ⟨gk, 0, none⟩) E.length kc (E.map fun p => Value.int .i64 p.1)]) Tryz.underlying37 infoLq (by rfl) (by decide) m8 [.int .i64 tx, .int .i64 xatt, .int .i64 xk, .int .i64 xtx, .int .i64 xat, .int .i64 xst, .int .i64 xop, .string xkey, .string xval, .int .i64 xmode, .bool xyes, .slice a' xn c'] (by rfl) (by simp [Value.oneCell']) (by omega) (by decide)
   refine hK _ _ (fun _ => hS9) (fun hM => ?_)
   have hS := hS9
   clear hK K
   try simp only [Act.put, List.setIfInBounds_toArray, List.set_cons_zero, List.set_cons_succ]
   refine till_one 11 hM rfl (by kernel_rfl) (fun K hK => ?_)
   have HR4 := Lib.hid hrun4
   clear hrun4
   have hS10 := HS8.out _ _ mB (by simp)
   refine step_appendR rfl (.tmp 26) (.tmp 36) 37 37 rfl (.slice b i d) (.slice (some ⟨w8.heap.size, 0, none⟩) 1 1) (by simp [Act.eval]) (by simp [Act.eval]) HR4.out ?_
   refine hK _ _ (fun _ => hS10) (fun hM => ?_)
   have hS := hS10
   clear hK K
   try simp only [Act.put, List.setIfInBounds_toArray, List.set_cons_zero, List.set_cons_succ]
   refine till_one 12 hM rfl (by kernel_rfl) (fun K hK => ?_)
   go_simp
   refine hK _ _ (fun h => absurd rfl h) (fun hM => ?_)
   clear hK K
   try simp only [Act.put, List.setIfInBounds_toArray, List.set_cons_zero, List.set_cons_succ]
   refine till_done (by kernel_rfl) ?_ _
   have HF := Lib.hid (HFIN.out w4 b4 d4 a' c' _ mB inferInstance)
   clear m7 hb7d hb7 M7 HS8 HCL m8 mB HFIN HR4
   go_wp2_with fail
   go_roundw
   case rel => exact ⟨i + 1, by omega, by go_num, HF⟩
   case measure => simp [intOf]; omega
  ·obtain rfl : i = E.length := by omega
   rw [List.take_length] at hX
   have HF : Hid (LivesP w S.lives (.returned (.slice b E.length d)) w3) := Lib.hid ⟨b, d, X, by rw [HEL.out], by rw [hX]; exact HE.out, by rw [← HEL.out]; exact Mem.cutEnd (RowA 41 12 b E.length d (lqFlat X) :: (X.map fun p => Le.row p.2)) hm⟩
   clear hX hm
   go_wp2_with fail
   go_ret
   exact HF.out
end Go.Proofs.YtmifgnibalbgjaaGreat
