/- A writing. -/
import Derived.Test.YtmifgnibalbgjaaGreatZM8
namespace Go.Proofs.YtmifgnibalbgjaaGreat
open Go.RowKit set_option linter.unusedVariables false set_option linter.unusedSimpArgs false
def wrOf (c : Cm) : Wr := if c.yes then ⟨c.key, c.value, true⟩ else ⟨c.key, ⟨#[]⟩, false⟩
def putW (l : List Wr) (w : Wr) : List Wr := if hasW l w.key then l.set (posW l w.key) w else l.take (posW l w.key) ++ w :: l.drop (posW l w.key)
def putS (S : Sh) (c : Cm) : Sh := { S with lives := kPut ltZ c.tx ⟨(liveM S c.tx).att, c, putW (liveM S c.tx).ws (wrOf c)⟩ S.lives }
def putM (S : Sh) (c : Cm) : Rp × Sh :=
 if livesM S c.tx = false ∨ ¬ ofH (lineL S.locks c.key).hs c.tx = 2 then (codeR 8, S)
 else (codeR 0, putS S c)
theorem wrFlat_ins (l : List Wr) (t : Wr) (k : Nat) : (wrFlat l).take (k * 3) ++ wrCells t ++ (wrFlat l).drop (k * 3) = wrFlat (l.take k ++ t :: l.drop k) := by
 rw [wrFlat_take, wrFlat_drop, wrFlat_append, wrFlat_cons]; simp
set_option maxRecDepth 100000 in
set_option maxHeartbeats 16000000 in
theorem shput_any (g : Nat) (S : Sh) (c : Cm) (w : World) {D : List Nat} (h : ShA g S w D) (htx : i64 c.tx) (hn : S.lives.length ≤ 1000) (ok : LOk S.locks) (hb : Sm 400 S.locks) (hW : ∀ x, kGet c.tx S.lives = some x → SortW x.ws ∧ x.ws.length ≤ 1000) :
  Calls Tryz.prog 41 #[.pointer (some ⟨g, 0, none⟩), c.val] w (CmPost w D g (putM S c)) := by
 obtain ⟨pc, pl, ps, bl, bd, E, e, M⟩ := Mem.shOpen (Mem.start h)
 have HA := Lib.hid fun W (hb : Below w.heap.size w W) => Mem.shAt (M.below hb) htx
 have HX0 := Lib.hid (XM.begin (c := c) (x := (kGet c.tx E).getD ⟨0, zeroC, none, 0, 0, []⟩) (L := shT g pc pl ps bl bd E S) M)
 obtain ⟨k, tx, att, stamp, op, key, value, mode, yes⟩ := c
 try simp only at HA
 try simp only at htx
 try simp only at HX0
 try simp only
 have hb1 := bel_one (bel_new w (.cells #[.int .i64 k, .int .i64 tx, .int .i64 att, .int .i64 stamp, .int .i64 op, .string key, .string value, .int .i64 mode, .bool yes] 28)) (.cells #[.int .i64 0, .int .i64 0, .string ⟨#[]⟩, .bool false] 35)
 have hcs := hp_old (w.alloc (.cells #[.int .i64 k, .int .i64 tx, .int .i64 att, .int .i64 stamp, .int .i64 op, .string key, .string value, .int .i64 mode, .bool yes] 28)) (.cells #[.int .i64 0, .int .i64 0, .string ⟨#[]⟩, .bool false] 35) _ w.heap.size (by simp) (heap_new w (.cells #[.int .i64 k, .int .i64 tx, .int .i64 att, .int .i64 stamp, .int .i64 op, .string key, .string value, .int .i64 mode, .bool yes] 28))
 obtain ⟨w1, hw1⟩ : ∃ w1, w1 = (w.alloc (.cells #[.int .i64 k, .int .i64 tx, .int .i64 att, .int .i64 stamp, .int .i64 op, .string key, .string value, .int .i64 mode, .bool yes] 28)).alloc (.cells #[.int .i64 0, .int .i64 0, .string ⟨#[]⟩, .bool false] 35) := ⟨_, rfl⟩
 have hsz : w1.heap.size = w.heap.size + 2 := by rw [hw1]; simp
 rw [← hw1] at hb1 hcs
 have hc5 := (HA.out _ hb1).c5
 have hc5a := fun o => (HA.out _ (bel_one hb1 o)).c5
 have htx0 := (cell_of_heap (i := 1) (v := .int .i64 tx) hcs rfl).1
 have htxa := fun o => ((bel_new w1 o).cell (World.block_lt_of_cell? w1 _ htx0)).trans htx0
 have hl0 := (HA.out _ (hb1.drew)).lives
 have hl1 := fun o => (HA.out _ ((bel_one hb1 o).drew)).lives
 have HX1 : Hid (XM w D w.heap.size (w.heap.size + 1) w1.heap.size ⟨k, tx, att, stamp, op, key, value, mode, yes⟩ zeroR ((kGet tx E).getD ⟨0, zeroC, none, 0, 0, []⟩) (shT g pc pl ps bl bd E S) (w1.alloc (.cells (Le.arr ((kGet tx E).getD ⟨0, zeroC, none, 0, 0, []⟩)) 108)).drew) := Lib.hid (by
  have h1 := HX0.out
  rw [show ((w.alloc (.cells (Cm.arr ⟨k, tx, att, stamp, op, key, value, mode, yes⟩) 28)).alloc (.cells zeroR.arr 35)) = w1 from hw1.symm] at h1
  rw [hsz]
  exact XM.below h1 (bel_drew _))
 have HSZ := Lib.hid hsz
 have hne1 : ¬ w.heap.size = w1.heap.size := by omega
 have hne2 : ¬ w1.heap.size = w.heap.size := by omega
 clear HX0 M hb1 hcs hsz
 have HOK := Lib.hid ok
 have HSM := Lib.hid hb
 have HE := Lib.hid e
 have HWS := Lib.hid hW
 have hEl : E.length ≤ 1000 := by have := congrArg List.length e; simp [lvE] at this; omega
 obtain ⟨e1, e2⟩ := livesM_E e tx
 have HE1 := Lib.hid e1
 have HE2 := Lib.hid e2
 clear h e ok hb hn e1 e2 hW
 generalize hXX : (kGet tx E).getD ⟨0, zeroC, none, 0, 0, []⟩ = X at *
 have HXX := Lib.hid hXX
 clear hXX
 obtain ⟨xatt, ⟨xk, xtx, xat, xst, xop, xkey, xval, xmode, xyes⟩, xa, xn, xc, xws⟩ := X
 try simp only at hl0
 try simp only at hl1
 try simp only at HX1
 cases hbb : (kGet tx E).isSome with
 | false =>
  simp only [hbb] at hl0 hl1
  have HGM : Hid (putM S ⟨k, tx, att, stamp, op, key, value, mode, yes⟩ = (codeR 8, S)) := Lib.hid (by unfold putM; rw [if_pos (Or.inl (by simp only [HE1.out, hbb]))])
  rw [HGM.out]
  go_enter Tryz.func41, Tryz.ntmps41
  go_wp2_with fail
  rw [← hw1]
  clear hw1
  go_region
  obtain ⟨W2, hW2⟩ : ∃ W2, W2 = (w1.alloc (.cells #[.int .i64 xatt, .int .i64 xk, .int .i64 xtx, .int .i64 xat, .int .i64 xst, .int .i64 xop, .string xkey, .string xval, .int .i64 xmode, .bool xyes, .slice xa xn xc] 108)).drew := ⟨_, rfl⟩
  rw [← hW2] at HX1 ⊢
  clear hW2 hc5 hc5a htx0 htxa hl0 hl1
  have hA := Mem.shAt (XM.rest HX1.out) htx
  have hc := HX1.out.hc
  have hS0 : W2.drew.cell? ⟨g, 3, none⟩ = some (.pointer (some ⟨pl, 0, none⟩)) ∧ W2.drew.cell? ⟨w.heap.size, 1, none⟩ = some (.int .i64 tx) ∧ W2.drew.cell? ⟨w.heap.size, 5, none⟩ = some (.string key) := ⟨hA.c3, (cell_of_heap hc rfl).1, (cell_of_heap hc rfl).1⟩
  obtain ⟨W3, hW3⟩ : ∃ W3, W3 = W2.drew := ⟨_, rfl⟩
  have HX3 := XM.below HX1.out (bel_drew W2)
  rw [← hW3] at HX3
  have HEND := Lib.hid (XM.fin (q := (⟨8, 0, ⟨#[]⟩, false⟩ : Rp)) (S' := S) HX3 HE.out rfl)
  have HRT := HX3.rat
  obtain ⟨c0, c1, c2, c3, f0, f1, f2, f3⟩ := HRT
  simp only [zeroR] at c0 c1 c2 c3
  have HW3 := Lib.hid hW3
  clear hA hc hW3 HX3
  go_wp2_with fail
  refine wp_region_till (fun W => W.cell? ⟨g, 3, none⟩ = some (.pointer (some ⟨pl, 0, none⟩)) ∧ W.cell? ⟨w.heap.size, 1, none⟩ = some (.int .i64 tx) ∧ W.cell? ⟨w.heap.size, 5, none⟩ = some (.string key)) 13 (by kernel_rfl) (hS0) (fun hM hS => ?_)
  refine till_op (v := ?_) 0 [1, 2] hM rfl (by kernel_rfl) (by kernel_rfl) (by kernel_rfl) (by kernel_rfl) rfl (fun _ _ _ h => h) (Or.inl ⟨by rfl, ?_⟩) hS (fun hM => ?_)
  rotate_left
  ·intro W hSw
   (try dsimp only at hSw)
   go_simp
   try with_reducible rfl
  try simp only [Act.put, List.setIfInBounds_toArray, List.set_cons_zero, List.set_cons_succ]
  refine till_op (v := ?_) 1 [2] hM rfl (by kernel_rfl) (by kernel_rfl) (by kernel_rfl) (by kernel_rfl) rfl (fun _ _ _ h => h) (Or.inl ⟨by rfl, ?_⟩) hS (fun hM => ?_)
  rotate_left
  ·intro W hSw
   (try dsimp only at hSw)
   go_simp
   try with_reducible rfl
  try simp only [Act.put, List.setIfInBounds_toArray, List.set_cons_zero, List.set_cons_succ]
  refine till_op (v := ?_) 2 [] hM rfl (by kernel_rfl) (by kernel_rfl) (by kernel_rfl) (by kernel_rfl) rfl (fun _ _ _ h => h) (Or.inl ⟨by rfl, ?_⟩) hS (fun hM => ?_)
  rotate_left
  ·intro W hSw
   (try dsimp only at hSw)
   go_simp
   try with_reducible rfl
  try simp only [Act.put, List.setIfInBounds_toArray, List.set_cons_zero, List.set_cons_succ]
  refine till_op (v := undef) 3 [4, 5, 6, 11, 12] hM rfl (by kernel_rfl) (by kernel_rfl) (by kernel_rfl) (by kernel_rfl) rfl (fun _ _ _ h => h) (Or.inr ⟨by rfl, rfl⟩) hS (fun hM => ?_)
  try simp only [Act.put, List.setIfInBounds_toArray, List.set_cons_zero, List.set_cons_succ]
  refine till_op (v := undef) 4 [5, 6, 11, 12] hM rfl (by kernel_rfl) (by kernel_rfl) (by kernel_rfl) (by kernel_rfl) rfl (fun _ _ _ h => h) (Or.inr ⟨by rfl, rfl⟩) hS (fun hM => ?_)
  try simp only [Act.put, List.setIfInBounds_toArray, List.set_cons_zero, List.set_cons_succ]
  refine till_op (v := undef) 5 [6, 11, 12] hM rfl (by kernel_rfl) (by kernel_rfl) (by kernel_rfl) (by kernel_rfl) rfl (fun _ _ _ h => h) (Or.inr ⟨by rfl, rfl⟩) hS (fun hM => ?_)
  try simp only [Act.put, List.setIfInBounds_toArray, List.set_cons_zero, List.set_cons_succ]
  refine till_op (v := undef) 6 [11, 12] hM rfl (by kernel_rfl) (by kernel_rfl) (by kernel_rfl) (by kernel_rfl) rfl (fun _ _ _ h => h) (Or.inr ⟨by rfl, rfl⟩) hS (fun hM => ?_)
  try simp only [Act.put, List.setIfInBounds_toArray, List.set_cons_zero, List.set_cons_succ]
  refine till_op (v := undef) 7 [8, 11, 12] hM rfl (by kernel_rfl) (by kernel_rfl) (by kernel_rfl) (by kernel_rfl) rfl (fun _ _ _ h => h) (Or.inr ⟨by rfl, rfl⟩) hS (fun hM => ?_)
  try simp only [Act.put, List.setIfInBounds_toArray, List.set_cons_zero, List.set_cons_succ]
  refine till_op (v := undef) 8 [11, 12] hM rfl (by kernel_rfl) (by kernel_rfl) (by kernel_rfl) (by kernel_rfl) rfl (fun _ _ _ h => h) (Or.inr ⟨by rfl, rfl⟩) hS (fun hM => ?_)
  try simp only [Act.put, List.setIfInBounds_toArray, List.set_cons_zero, List.set_cons_succ]
  refine till_op (v := undef) 9 [10, 11, 12] hM rfl (by kernel_rfl) (by kernel_rfl) (by kernel_rfl) (by kernel_rfl) rfl (fun _ _ _ h => h) (Or.inr ⟨by rfl, rfl⟩) hS (fun hM => ?_)
  try simp only [Act.put, List.setIfInBounds_toArray, List.set_cons_zero, List.set_cons_succ]
  refine till_op (v := undef) 10 [11, 12] hM rfl (by kernel_rfl) (by kernel_rfl) (by kernel_rfl) (by kernel_rfl) rfl (fun _ _ _ h => h) (Or.inr ⟨by rfl, rfl⟩) hS (fun hM => ?_)
  try simp only [Act.put, List.setIfInBounds_toArray, List.set_cons_zero, List.set_cons_succ]
  refine till_op (v := undef) 11 [12] hM rfl (by kernel_rfl) (by kernel_rfl) (by kernel_rfl) (by kernel_rfl) rfl (fun _ _ _ h => h) (Or.inr ⟨by rfl, rfl⟩) hS (fun hM => ?_)
  try simp only [Act.put, List.setIfInBounds_toArray, List.set_cons_zero, List.set_cons_succ]
  refine till_op (v := undef) 12 [] hM rfl (by kernel_rfl) (by kernel_rfl) (by kernel_rfl) (by kernel_rfl) rfl (fun _ _ _ h => h) (Or.inr ⟨by rfl, rfl⟩) hS (fun hM => ?_)
  try simp only [Act.put, List.setIfInBounds_toArray, List.set_cons_zero, List.set_cons_succ]
  refine till_one 13 hM rfl (by kernel_rfl) (fun K hK => ?_)
  go_simp
  refine hK _ _ (fun h => absurd rfl h) (fun hM => ?_)
  clear hK K
  try simp only [Act.put, List.setIfInBounds_toArray, List.set_cons_zero, List.set_cons_succ]
  refine till_done (by kernel_rfl) ?_ _
  rw [← HW3.out]
  go_wp2_with fail
  obtain ⟨W5, hW5⟩ : ∃ W5, W5 = ((((W3.setCell ⟨w.heap.size + 1, 0, none⟩ (.int .i64 8)).setCell ⟨w.heap.size + 1, 1, none⟩ (.int .i64 0)).setCell ⟨w.heap.size + 1, 2, none⟩ (.string ⟨#[]⟩)).setCell ⟨w.heap.size + 1, 3, none⟩ (.bool false)) := ⟨_, rfl⟩
  rw [← hW5]
  obtain ⟨⟨v0, v1, v2, v3, -, -, -, -⟩, hR⟩ := HEND.out W5 hW5
  simp only at v0 v1 v2 v3
  clear hW5
  refine bodyPost_ret (by simp [results, Tryz.results41, go_sem, v0, v1, v2, v3]; try rfl) rfl ?_
  first
   | exact hR
   | (rw [HGM.out]; exact hR)
 | true =>
  simp only [hbb] at hl0 hl1
  obtain ⟨x0, hx0⟩ := Option.isSome_iff_exists.1 hbb
  have hx1 : x0 = ⟨xatt, ⟨xk, xtx, xat, xst, xop, xkey, xval, xmode, xyes⟩, xa, xn, xc, xws⟩ := by have := HXX.out; rw [hx0] at this; exact this
  rw [hx1] at hx0
  have HGE := Lib.hid hx0
  have hws : SortW xws ∧ xws.length ≤ 1000 := HWS.out (Le.lv ⟨xatt, ⟨xk, xtx, xat, xst, xop, xkey, xval, xmode, xyes⟩, xa, xn, xc, xws⟩) (by rw [← HE.out, lvE_get, hx0]; rfl)
  have HWX := Lib.hid hws
  have hLM : liveM S tx = Le.lv ⟨xatt, ⟨xk, xtx, xat, xst, xop, xkey, xval, xmode, xyes⟩, xa, xn, xc, xws⟩ := HE2.out
  have hvv : livesM S tx = true := by rw [HE1.out]; exact hbb
  have HLM := Lib.hid hLM
  have HVV := Lib.hid hvv
  clear hx0 hx1 hws hLM hvv hbb x0
  go_enter Tryz.func41, Tryz.ntmps41
  go_wp2_with fail
  rw [← hw1]
  clear hw1
  go_region
  obtain ⟨W2, hW2⟩ : ∃ W2, W2 = (w1.alloc (.cells #[.int .i64 xatt, .int .i64 xk, .int .i64 xtx, .int .i64 xat, .int .i64 xst, .int .i64 xop, .string xkey, .string xval, .int .i64 xmode, .bool xyes, .slice xa xn xc] 108)).drew := ⟨_, rfl⟩
  rw [← hW2] at HX1 ⊢
  clear hW2 hc5 hc5a htx0 htxa hl0 hl1
  have hS3g : ∀ W, Below W2.drew.heap.size W2.drew W → W.cell? ⟨g, 3, none⟩ = some (.pointer (some ⟨pl, 0, none⟩)) ∧ W.cell? ⟨w.heap.size, 1, none⟩ = some (.int .i64 tx) ∧ W.cell? ⟨w.heap.size, 5, none⟩ = some (.string key) := fun W hb => by
   have h1 := XM.below (XM.below HX1.out (bel_drew W2)) hb
   have hc := h1.hc
   exact ⟨(Mem.shAt (XM.rest h1) htx).c3, (cell_of_heap hc rfl).1, (cell_of_heap hc rfl).1⟩
  have HS3 := Lib.hid hS3g
  have hS0 := hS3g W2.drew (Below.refl _ _)
  have HHO := Lib.hid (tab_at (XM.tab (XM.below HX1.out (bel_drew W2))) HOK.out HSM.out tx key)
  have HX2 := Lib.hid fun W (hb : Below W2.drew.heap.size W2.drew W) => XM.below (XM.below HX1.out (bel_drew W2)) hb
  clear hS3g HX1
  generalize hoh : ofH (lineL S.locks key).hs tx = oh at *
  by_cases hz : ¬ oh = 2
  ·have hzb : (oh != 2) = true := by simpa using hz
   have HGM : Hid (putM S ⟨k, tx, att, stamp, op, key, value, mode, yes⟩ = (codeR 8, S)) := Lib.hid (by unfold putM; rw [if_pos (Or.inr (by rw [hoh]; exact hz))])
   clear hoh hz
   go_wp2_with fail
   refine wp_region_till (fun W => W.cell? ⟨g, 3, none⟩ = some (.pointer (some ⟨pl, 0, none⟩)) ∧ W.cell? ⟨w.heap.size, 1, none⟩ = some (.int .i64 tx) ∧ W.cell? ⟨w.heap.size, 5, none⟩ = some (.string key)) 13 (by kernel_rfl) (hS0) (fun hM hS => ?_)
   refine till_op (v := ?_) 0 [1, 2] hM rfl (by kernel_rfl) (by kernel_rfl) (by kernel_rfl) (by kernel_rfl) rfl (fun _ _ _ h => h) (Or.inl ⟨by rfl, ?_⟩) hS (fun hM => ?_)
   rotate_left
   ·intro W hSw
    (try dsimp only at hSw)
    go_simp
    try with_reducible rfl
   try simp only [Act.put, List.setIfInBounds_toArray, List.set_cons_zero, List.set_cons_succ]
   refine till_op (v := ?_) 1 [2] hM rfl (by kernel_rfl) (by kernel_rfl) (by kernel_rfl) (by kernel_rfl) rfl (fun _ _ _ h => h) (Or.inl ⟨by rfl, ?_⟩) hS (fun hM => ?_)
   rotate_left
   ·intro W hSw
    (try dsimp only at hSw)
    go_simp
    try with_reducible rfl
   try simp only [Act.put, List.setIfInBounds_toArray, List.set_cons_zero, List.set_cons_succ]
   refine till_op (v := ?_) 2 [] hM rfl (by kernel_rfl) (by kernel_rfl) (by kernel_rfl) (by kernel_rfl) rfl (fun _ _ _ h => h) (Or.inl ⟨by rfl, ?_⟩) hS (fun hM => ?_)
   rotate_left
   ·intro W hSw
    (try dsimp only at hSw)
    go_simp
    try with_reducible rfl
   try simp only [Act.put, List.setIfInBounds_toArray, List.set_cons_zero, List.set_cons_succ]
   refine till_op (v := ?_) 3 [4, 5, 6, 11, 12] hM rfl (by kernel_rfl) (by kernel_rfl) (by kernel_rfl) (by kernel_rfl) rfl (fun _ _ _ h => h) (Or.inl ⟨by rfl, ?_⟩) hS (fun hM => ?_)
   rotate_left
   ·intro W hSw
    (try dsimp only at hSw)
    go_simp
    try with_reducible rfl
   try simp only [Act.put, List.setIfInBounds_toArray, List.set_cons_zero, List.set_cons_succ]
   refine till_op (v := ?_) 4 [5, 6, 11, 12] hM rfl (by kernel_rfl) (by kernel_rfl) (by kernel_rfl) (by kernel_rfl) rfl (fun _ _ _ h => h) (Or.inl ⟨by rfl, ?_⟩) hS (fun hM => ?_)
   rotate_left
   ·intro W hSw
    (try dsimp only at hSw)
    go_simp
    try with_reducible rfl
   try simp only [Act.put, List.setIfInBounds_toArray, List.set_cons_zero, List.set_cons_succ]
   refine till_op (v := ?_) 5 [6, 11, 12] hM rfl (by kernel_rfl) (by kernel_rfl) (by kernel_rfl) (by kernel_rfl) rfl (fun _ _ _ h => h) (Or.inl ⟨by rfl, ?_⟩) hS (fun hM => ?_)
   rotate_left
   ·intro W hSw
    (try dsimp only at hSw)
    go_simp
    try with_reducible rfl
   try simp only [Act.put, List.setIfInBounds_toArray, List.set_cons_zero, List.set_cons_succ]
   refine till_op (v := ?_) 6 [11, 12] hM rfl (by kernel_rfl) (by kernel_rfl) (by kernel_rfl) (by kernel_rfl) rfl (fun _ _ _ h => h) (Or.inl ⟨by rfl, ?_⟩) hS (fun hM => ?_)
   rotate_left
   ·intro W hSw
    (try dsimp only at hSw)
    go_simp
    try with_reducible rfl
   try simp only [Act.put, List.setIfInBounds_toArray, List.set_cons_zero, List.set_cons_succ]
   refine till_op (v := ?_) 7 [8, 11, 12] hM rfl (by kernel_rfl) (by kernel_rfl) (by kernel_rfl) (by kernel_rfl) rfl (fun _ _ _ h => h) (Or.inl ⟨by rfl, ?_⟩) hS (fun hM => ?_)
   rotate_left
   ·intro W hSw
    (try dsimp only at hSw)
    go_simp
    try with_reducible rfl
   try simp only [Act.put, List.setIfInBounds_toArray, List.set_cons_zero, List.set_cons_succ]
   refine till_op (v := ?_) 8 [11, 12] hM rfl (by kernel_rfl) (by kernel_rfl) (by kernel_rfl) (by kernel_rfl) rfl (fun _ _ _ h => h) (Or.inl ⟨by rfl, ?_⟩) hS (fun hM => ?_)
   rotate_left
   ·intro W hSw
    (try dsimp only at hSw)
    go_simp
    try with_reducible rfl
   try simp only [Act.put, List.setIfInBounds_toArray, List.set_cons_zero, List.set_cons_succ]
   refine till_op (v := ?_) 9 [10, 11, 12] hM rfl (by kernel_rfl) (by kernel_rfl) (by kernel_rfl) (by kernel_rfl) rfl (fun _ _ _ h => h) (Or.inl ⟨by rfl, ?_⟩) hS (fun hM => ?_)
   rotate_left
   ·intro W hSw
    (try dsimp only at hSw)
    go_simp
    try with_reducible rfl
   try simp only [Act.put, List.setIfInBounds_toArray, List.set_cons_zero, List.set_cons_succ]
   refine till_op (v := ?_) 10 [11, 12] hM rfl (by kernel_rfl) (by kernel_rfl) (by kernel_rfl) (by kernel_rfl) rfl (fun _ _ _ h => h) (Or.inl ⟨by rfl, ?_⟩) hS (fun hM => ?_)
   rotate_left
   ·intro W hSw
    (try dsimp only at hSw)
    go_simp
    try with_reducible rfl
   try simp only [Act.put, List.setIfInBounds_toArray, List.set_cons_zero, List.set_cons_succ]
   refine till_one 11 hM rfl (by kernel_rfl) (fun K hK => ?_)
   go_simp
   go_at_call 89
   refine HHO.out.mono ?_
   rintro e w3 ⟨rfl, hb3⟩
   have hS3 := HS3.out _ hb3
   refine hK _ _ (fun _ => hS3) (fun hM => ?_)
   have hS := hS3
   clear hK K
   try simp only [Act.put, List.setIfInBounds_toArray, List.set_cons_zero, List.set_cons_succ]
   refine till_one 12 hM rfl (by kernel_rfl) (fun K hK => ?_)
   go_simp
   refine hK _ _ (fun _ => hS3) (fun hM => ?_)
   have hS := hS3
   clear hK K
   try simp only [Act.put, List.setIfInBounds_toArray, List.set_cons_zero, List.set_cons_succ]
   refine till_one 13 hM rfl (by kernel_rfl) (fun K hK => ?_)
   go_simp
   refine hK _ _ (fun h => absurd rfl h) (fun hM => ?_)
   clear hK K
   try simp only [Act.put, List.setIfInBounds_toArray, List.set_cons_zero, List.set_cons_succ]
   refine till_done (by kernel_rfl) ?_ _
   have HX3 := HX2.out _ hb3
   have HEND := Lib.hid (XM.fin (q := (⟨8, 0, ⟨#[]⟩, false⟩ : Rp)) (S' := S) HX3 HE.out rfl)
   have HRT := HX3.rat
   obtain ⟨c0, c1, c2, c3, f0, f1, f2, f3⟩ := HRT
   simp only [zeroR] at c0 c1 c2 c3
   clear HX3 hb3 hS3
   go_wp2_with fail
   obtain ⟨W5, hW5⟩ : ∃ W5, W5 = ((((w3.setCell ⟨w.heap.size + 1, 0, none⟩ (.int .i64 8)).setCell ⟨w.heap.size + 1, 1, none⟩ (.int .i64 0)).setCell ⟨w.heap.size + 1, 2, none⟩ (.string ⟨#[]⟩)).setCell ⟨w.heap.size + 1, 3, none⟩ (.bool false)) := ⟨_, rfl⟩
   rw [← hW5]
   obtain ⟨⟨v0, v1, v2, v3, -, -, -, -⟩, hR⟩ := HEND.out W5 hW5
   simp only at v0 v1 v2 v3
   clear hW5
   refine bodyPost_ret (by simp [results, Tryz.results41, go_sem, v0, v1, v2, v3]; try rfl) rfl ?_
   first
    | exact hR
    | (rw [HGM.out]; exact hR)
  ·obtain rfl : oh = 2 := by simpa using hz
   have HGM : Hid (putM S ⟨k, tx, att, stamp, op, key, value, mode, yes⟩ = (codeR 0, putS S ⟨k, tx, att, stamp, op, key, value, mode, yes⟩)) := Lib.hid (by unfold putM; rw [if_neg (by rw [HVV.out, hoh]; simp)])
   clear hoh hz
   obtain ⟨w3', hw3'⟩ : ∃ n : Nat, n = 0 := ⟨0, rfl⟩
   clear hw3' w3'
   go_wp2_with fail
   refine wp_region_till (fun W => W.cell? ⟨g, 3, none⟩ = some (.pointer (some ⟨pl, 0, none⟩)) ∧ W.cell? ⟨w.heap.size, 1, none⟩ = some (.int .i64 tx) ∧ W.cell? ⟨w.heap.size, 5, none⟩ = some (.string key)) 13 (by kernel_rfl) (hS0) (fun hM hS => ?_)
   refine till_op (v := ?_) 0 [1, 2] hM rfl (by kernel_rfl) (by kernel_rfl) (by kernel_rfl) (by kernel_rfl) rfl (fun _ _ _ h => h) (Or.inl ⟨by rfl, ?_⟩) hS (fun hM => ?_)
   rotate_left
   ·intro W hSw
    (try dsimp only at hSw)
    go_simp
    try with_reducible rfl
   try simp only [Act.put, List.setIfInBounds_toArray, List.set_cons_zero, List.set_cons_succ]
   refine till_op (v := ?_) 1 [2] hM rfl (by kernel_rfl) (by kernel_rfl) (by kernel_rfl) (by kernel_rfl) rfl (fun _ _ _ h => h) (Or.inl ⟨by rfl, ?_⟩) hS (fun hM => ?_)
   rotate_left
   ·intro W hSw
    (try dsimp only at hSw)
    go_simp
    try with_reducible rfl
   try simp only [Act.put, List.setIfInBounds_toArray, List.set_cons_zero, List.set_cons_succ]
   refine till_op (v := ?_) 2 [] hM rfl (by kernel_rfl) (by kernel_rfl) (by kernel_rfl) (by kernel_rfl) rfl (fun _ _ _ h => h) (Or.inl ⟨by rfl, ?_⟩) hS (fun hM => ?_)
   rotate_left
   ·intro W hSw
    (try dsimp only at hSw)
    go_simp
    try with_reducible rfl
   try simp only [Act.put, List.setIfInBounds_toArray, List.set_cons_zero, List.set_cons_succ]
   refine till_op (v := ?_) 3 [4, 5, 6, 11, 12] hM rfl (by kernel_rfl) (by kernel_rfl) (by kernel_rfl) (by kernel_rfl) rfl (fun _ _ _ h => h) (Or.inl ⟨by rfl, ?_⟩) hS (fun hM => ?_)
   rotate_left
   ·intro W hSw
    (try dsimp only at hSw)
    go_simp
    try with_reducible rfl
   try simp only [Act.put, List.setIfInBounds_toArray, List.set_cons_zero, List.set_cons_succ]
   refine till_op (v := ?_) 4 [5, 6, 11, 12] hM rfl (by kernel_rfl) (by kernel_rfl) (by kernel_rfl) (by kernel_rfl) rfl (fun _ _ _ h => h) (Or.inl ⟨by rfl, ?_⟩) hS (fun hM => ?_)
   rotate_left
   ·intro W hSw
    (try dsimp only at hSw)
    go_simp
    try with_reducible rfl
   try simp only [Act.put, List.setIfInBounds_toArray, List.set_cons_zero, List.set_cons_succ]
   refine till_op (v := ?_) 5 [6, 11, 12] hM rfl (by kernel_rfl) (by kernel_rfl) (by kernel_rfl) (by kernel_rfl) rfl (fun _ _ _ h => h) (Or.inl ⟨by rfl, ?_⟩) hS (fun hM => ?_)
   rotate_left
   ·intro W hSw
    (try dsimp only at hSw)
    go_simp
    try with_reducible rfl
   try simp only [Act.put, List.setIfInBounds_toArray, List.set_cons_zero, List.set_cons_succ]
   refine till_op (v := ?_) 6 [11, 12] hM rfl (by kernel_rfl) (by kernel_rfl) (by kernel_rfl) (by kernel_rfl) rfl (fun _ _ _ h => h) (Or.inl ⟨by rfl, ?_⟩) hS (fun hM => ?_)
   rotate_left
   ·intro W hSw
    (try dsimp only at hSw)
    go_simp
    try with_reducible rfl
   try simp only [Act.put, List.setIfInBounds_toArray, List.set_cons_zero, List.set_cons_succ]
   refine till_op (v := ?_) 7 [8, 11, 12] hM rfl (by kernel_rfl) (by kernel_rfl) (by kernel_rfl) (by kernel_rfl) rfl (fun _ _ _ h => h) (Or.inl ⟨by rfl, ?_⟩) hS (fun hM => ?_)
   rotate_left
   ·intro W hSw
    (try dsimp only at hSw)
    go_simp
    try with_reducible rfl
   try simp only [Act.put, List.setIfInBounds_toArray, List.set_cons_zero, List.set_cons_succ]
   refine till_op (v := ?_) 8 [11, 12] hM rfl (by kernel_rfl) (by kernel_rfl) (by kernel_rfl) (by kernel_rfl) rfl (fun _ _ _ h => h) (Or.inl ⟨by rfl, ?_⟩) hS (fun hM => ?_)
   rotate_left
   ·intro W hSw
    (try dsimp only at hSw)
    go_simp
    try with_reducible rfl
   try simp only [Act.put, List.setIfInBounds_toArray, List.set_cons_zero, List.set_cons_succ]
   refine till_op (v := ?_) 9 [10, 11, 12] hM rfl (by kernel_rfl) (by kernel_rfl) (by kernel_rfl) (by kernel_rfl) rfl (fun _ _ _ h => h) (Or.inl ⟨by rfl, ?_⟩) hS (fun hM => ?_)
   rotate_left
   ·intro W hSw
    (try dsimp only at hSw)
    go_simp
    try with_reducible rfl
   try simp only [Act.put, List.setIfInBounds_toArray, List.set_cons_zero, List.set_cons_succ]
   refine till_op (v := ?_) 10 [11, 12] hM rfl (by kernel_rfl) (by kernel_rfl) (by kernel_rfl) (by kernel_rfl) rfl (fun _ _ _ h => h) (Or.inl ⟨by rfl, ?_⟩) hS (fun hM => ?_)
   rotate_left
   ·intro W hSw
    (try dsimp only at hSw)
    go_simp
    try with_reducible rfl
   try simp only [Act.put, List.setIfInBounds_toArray, List.set_cons_zero, List.set_cons_succ]
   refine till_one 11 hM rfl (by kernel_rfl) (fun K hK => ?_)
   go_simp
   go_at_call 89
   refine HHO.out.mono ?_
   rintro e w3 ⟨rfl, hb3⟩
   have hS3 := HS3.out _ hb3
   refine hK _ _ (fun _ => hS3) (fun hM => ?_)
   have hS := hS3
   clear hK K
   try simp only [Act.put, List.setIfInBounds_toArray, List.set_cons_zero, List.set_cons_succ]
   refine till_one 12 hM rfl (by kernel_rfl) (fun K hK => ?_)
   go_simp
   refine hK _ _ (fun _ => hS3) (fun hM => ?_)
   have hS := hS3
   clear hK K
   try simp only [Act.put, List.setIfInBounds_toArray, List.set_cons_zero, List.set_cons_succ]
   refine till_one 13 hM rfl (by kernel_rfl) (fun K hK => ?_)
   go_simp
   refine hK _ _ (fun h => absurd rfl h) (fun hM => ?_)
   clear hK K
   try simp only [Act.put, List.setIfInBounds_toArray, List.set_cons_zero, List.set_cons_succ]
   refine till_done (by kernel_rfl) ?_ _
   have HX3 := Lib.hid (HX2.out _ hb3)
   have hc := HX3.out.hc
   have hk0 := (cell_of_heap (i := 0) (v := .int .i64 k) hc rfl).1
   have hk1 := (cell_of_heap (i := 1) (v := .int .i64 tx) hc rfl).1
   have hk2 := (cell_of_heap (i := 2) (v := .int .i64 att) hc rfl).1
   have hk3 := (cell_of_heap (i := 3) (v := .int .i64 stamp) hc rfl).1
   have hk4 := (cell_of_heap (i := 4) (v := .int .i64 op) hc rfl).1
   have hk5 := (cell_of_heap (i := 5) (v := .string key) hc rfl).1
   have hk6 := (cell_of_heap (i := 6) (v := .string value) hc rfl).1
   have hk7 := (cell_of_heap (i := 7) (v := .int .i64 mode) hc rfl).1
   have hk8 := (cell_of_heap (i := 8) (v := .bool yes) hc rfl).1
   have hw3s : w.heap.size < w3.heap.size := lt_of_heap hc
   clear hc hb3 hS3 HX2 HS3 HHO
   cases yes with
   | true =>
    go_upto_region 7 with (fail)
    obtain ⟨A, B, hE, hA, hB, hPM⟩ := XM.write HX3.out HGE.out ⟨key, value, true⟩
    have HAB := Lib.hid (And.intro hA hB)
    have HEA := Lib.hid hE
    have HP := Lib.hid hPM
    clear hE hA hB hPM
    obtain ⟨W4, hW4⟩ : ∃ W4, W4 = w3.alloc (.cells #[.string key, .string value, .bool true] 43) := ⟨_, rfl⟩
    rw [← hW4] at HP ⊢
    clear hW4 hk0 hk1 hk2 hk3 hk4 hk5 hk6 hk7 hk8 HX3
    have HPW : Hid (putW xws (wrOf ⟨k, tx, att, stamp, op, key, value, mode, true⟩) = if hasW xws key then xws.set (posW xws key) ⟨key, value, true⟩ else xws.take (posW xws key) ++ ⟨key, value, true⟩ :: xws.drop (posW xws key)) := Lib.hid rfl
    have HWC := Lib.hid (wrote_any ⟨xatt, ⟨xk, xtx, xat, xst, xop, xkey, xval, xmode, xyes⟩, xa, xn, xc, xws⟩ key W4 (PM.row HP.out) HWX.out.1 (Nat.le_trans HWX.out.2 (by decide)))
    have hx := HP.out.h2
    have hc := HP.out.h0
    have hk5 := (cell_of_heap (i := 5) (v := .string key) hc rfl).1
    have hx0 := (cell_of_heap (i := 0) (v := .int .i64 xatt) hx rfl).1
    have hx1 := (cell_of_heap (i := 1) (v := .int .i64 xk) hx rfl).1
    have hx2 := (cell_of_heap (i := 2) (v := .int .i64 xtx) hx rfl).1
    have hx3 := (cell_of_heap (i := 3) (v := .int .i64 xat) hx rfl).1
    have hx4 := (cell_of_heap (i := 4) (v := .int .i64 xst) hx rfl).1
    have hx5 := (cell_of_heap (i := 5) (v := .int .i64 xop) hx rfl).1
    have hx6 := (cell_of_heap (i := 6) (v := .string xkey) hx rfl).1
    have hx7 := (cell_of_heap (i := 7) (v := .string xval) hx rfl).1
    have hx8 := (cell_of_heap (i := 8) (v := .int .i64 xmode) hx rfl).1
    have hx9 := (cell_of_heap (i := 9) (v := .bool xyes) hx rfl).1
    have hx10 := (cell_of_heap (i := 10) (v := .slice xa xn xc) hx rfl).1
    clear hx hc
    go_wp2_with fail
    refine HWC.out.mono ?_
    rintro e w6 ⟨rfl, hb6⟩
    have HP6 := Lib.hid (PM.below HP.out hb6)
    clear hb6 HP HWC hk5 hx0 hx1 hx2 hx3 hx4 hx5 hx6 hx7 hx8 hx9 hx10
    have hxn : xn = xws.length := by have := (PM.row HP6.out).len; rw [wrFlat_len] at this; exact Nat.eq_of_mul_eq_mul_right (by decide) this.symm
    have hpb : posW xws key ≤ xws.length := posW_le _ _
    have hxl : xws.length ≤ 1000 := HWX.out.2
    cases hhw : hasW xws key with
    | true =>
     rw [hhw] at HPW
     simp only [if_true] at HPW
     obtain ⟨hpl0, -⟩ := (hasW_iff HWX.out.1 key).1 hhw
     have hpl : posW xws key < xws.length := hpl0
     clear hpl0
     obtain ⟨ga, hga, hat⟩ := wrAt_row (show Row w6 43 3 xa xn xc (wrFlat xws) from PM.row HP6.out) (posW xws key) hpl
     try simp only at hga
     subst hga
     have hr : Row w6 43 3 (some ⟨ga, 0, none⟩) xn xc (wrFlat xws) := PM.row HP6.out
     have fz0 := Row.fz hr (posW xws key * 3) (by rw [wrFlat_len]; omega)
     have fz1 := Row.fz hr (posW xws key * 3 + 1) (by rw [wrFlat_len]; omega)
     have fz2 := Row.fz hr (posW xws key * 3 + 2) (by rw [wrFlat_len]; omega)
     have h3 := HP6.out.h3
     have t0 := (cell_of_heap (i := 0) (v := .string key) h3 rfl).1
     have t1 := (cell_of_heap (i := 1) (v := .string value) h3 rfl).1
     have t2 := (cell_of_heap (i := 2) (v := .bool true) h3 rfl).1
     have hx10 := (cell_of_heap (i := 10) (v := .slice (some ⟨ga, 0, none⟩) xn xc) HP6.out.h2 rfl).1
     obtain ⟨y0, y1, y2⟩ := hat
     have HQ := Lib.hid (PM.setRow HP6.out rfl (posW xws key) hpl ⟨key, value, true⟩)
     have hpn : posW xws key < xn := by rw [hxn]; exact hpl
     try simp only at HQ
     clear hr h3 hhw hxn
     generalize xws[posW xws key] = yz at *
     obtain ⟨yk, yv, yh⟩ := yz
     simp only at y0 y1 y2
     generalize hws2 : xws.set (posW xws key) ⟨key, value, true⟩ = ws2 at *
     clear hws2
     generalize posW xws key = pw at *
     go_upto_region 11 with (fail)
     obtain ⟨W7, hW7⟩ : ∃ W7, W7 = ((w6.setCell ⟨ga, pw * 3, none⟩ (.string key)).setCell ⟨ga, pw * 3 + 1, none⟩ (.string value)).setCell ⟨ga, pw * 3 + 2, none⟩ (.bool true) := ⟨_, rfl⟩
     rw [← hW7] at HQ ⊢
     clear hW7 y0 y1 y2 fz0 fz1 fz2 t0 t1 t2 hx10 HP6
     have hx := HQ.out.h2
     have hc := HQ.out.h0
     have hk0 := (cell_of_heap (i := 0) (v := .int .i64 k) hc rfl).1
     have hk1 := (cell_of_heap (i := 1) (v := .int .i64 tx) hc rfl).1
     have hk2 := (cell_of_heap (i := 2) (v := .int .i64 att) hc rfl).1
     have hk3 := (cell_of_heap (i := 3) (v := .int .i64 stamp) hc rfl).1
     have hk4 := (cell_of_heap (i := 4) (v := .int .i64 op) hc rfl).1
     have hk5 := (cell_of_heap (i := 5) (v := .string key) hc rfl).1
     have hk6 := (cell_of_heap (i := 6) (v := .string value) hc rfl).1
     have hk7 := (cell_of_heap (i := 7) (v := .int .i64 mode) hc rfl).1
     have hk8 := (cell_of_heap (i := 8) (v := .bool true) hc rfl).1
     have hx0 := (cell_of_heap (i := 0) (v := .int .i64 xatt) hx rfl).1
     have fx0 := (cell_of_heap (i := 0) (v := .int .i64 xatt) hx rfl).2
     have hx1 := (cell_of_heap (i := 1) (v := .int .i64 xk) hx rfl).1
     have fx1 := (cell_of_heap (i := 1) (v := .int .i64 xk) hx rfl).2
     have hx2 := (cell_of_heap (i := 2) (v := .int .i64 xtx) hx rfl).1
     have fx2 := (cell_of_heap (i := 2) (v := .int .i64 xtx) hx rfl).2
     have hx3 := (cell_of_heap (i := 3) (v := .int .i64 xat) hx rfl).1
     have fx3 := (cell_of_heap (i := 3) (v := .int .i64 xat) hx rfl).2
     have hx4 := (cell_of_heap (i := 4) (v := .int .i64 xst) hx rfl).1
     have fx4 := (cell_of_heap (i := 4) (v := .int .i64 xst) hx rfl).2
     have hx5 := (cell_of_heap (i := 5) (v := .int .i64 xop) hx rfl).1
     have fx5 := (cell_of_heap (i := 5) (v := .int .i64 xop) hx rfl).2
     have hx6 := (cell_of_heap (i := 6) (v := .string xkey) hx rfl).1
     have fx6 := (cell_of_heap (i := 6) (v := .string xkey) hx rfl).2
     have hx7 := (cell_of_heap (i := 7) (v := .string xval) hx rfl).1
     have fx7 := (cell_of_heap (i := 7) (v := .string xval) hx rfl).2
     have hx8 := (cell_of_heap (i := 8) (v := .int .i64 xmode) hx rfl).1
     have fx8 := (cell_of_heap (i := 8) (v := .int .i64 xmode) hx rfl).2
     have hx9 := (cell_of_heap (i := 9) (v := .bool xyes) hx rfl).1
     have fx9 := (cell_of_heap (i := 9) (v := .bool xyes) hx rfl).2
     have hx10 := (cell_of_heap (i := 10) (v := .slice (some ⟨ga, 0, none⟩) xn xc) hx rfl).1
     have fx10 := (cell_of_heap (i := 10) (v := .slice (some ⟨ga, 0, none⟩) xn xc) hx rfl).2
     have HL := Lib.hid (PM.setLast HQ.out)
     clear hx hc
     go_upto_region 12 with (fail)
     obtain ⟨W8, hW8⟩ : ∃ W8, W8 = (((((((((W7.setCell ⟨w1.heap.size, 1, none⟩ (.int .i64 k)).setCell ⟨w1.heap.size, 2, none⟩ (.int .i64 tx)).setCell ⟨w1.heap.size, 3, none⟩ (.int .i64 att)).setCell ⟨w1.heap.size, 4, none⟩ (.int .i64 stamp)).setCell ⟨w1.heap.size, 5, none⟩ (.int .i64 op)).setCell ⟨w1.heap.size, 6, none⟩ (.string key)).setCell ⟨w1.heap.size, 7, none⟩ (.string value)).setCell ⟨w1.heap.size, 8, none⟩ (.int .i64 mode)).setCell ⟨w1.heap.size, 9, none⟩ (.bool true)) := ⟨_, rfl⟩
     rw [← hW8] at HL ⊢
     clear hW8 hk0 hk1 hk2 hk3 hk4 hk5 hk6 hk7 hk8 hx0 fx0 hx1 fx1 hx2 fx2 hx3 fx3 hx4 fx4 hx5 fx5 hx6 fx6 hx7 fx7 hx8 fx8 hx9 fx9 hx10 fx10
     have hx := HL.out.h2
     have hc := HL.out.h0
     have hg5 := HL.out.hg
     have hk1 := (cell_of_heap (i := 1) (v := .int .i64 tx) hc rfl).1
     have hx0 := (cell_of_heap (i := 0) (v := .int .i64 xatt) hx rfl).1
     have hx1 := (cell_of_heap (i := 1) (v := .int .i64 k) hx rfl).1
     have hx2 := (cell_of_heap (i := 2) (v := .int .i64 tx) hx rfl).1
     have hx3 := (cell_of_heap (i := 3) (v := .int .i64 att) hx rfl).1
     have hx4 := (cell_of_heap (i := 4) (v := .int .i64 stamp) hx rfl).1
     have hx5 := (cell_of_heap (i := 5) (v := .int .i64 op) hx rfl).1
     have hx6 := (cell_of_heap (i := 6) (v := .string key) hx rfl).1
     have hx7 := (cell_of_heap (i := 7) (v := .string value) hx rfl).1
     have hx8 := (cell_of_heap (i := 8) (v := .int .i64 mode) hx rfl).1
     have hx9 := (cell_of_heap (i := 9) (v := .bool true) hx rfl).1
     have hx10 := (cell_of_heap (i := 10) (v := .slice (some ⟨ga, 0, none⟩) xn xc) hx rfl).1
     obtain ⟨w9, HR, HN⟩ := PM.store (x := ⟨xatt, ⟨k, tx, att, stamp, op, key, value, mode, true⟩, (some ⟨ga, 0, none⟩), xn, xc, ws2⟩) (PM.below HL.out (bel_drew W8)) htx ⟨rfl, rfl, rfl, rfl⟩ HAB.out.1 HAB.out.2 (by have := HEA.out; rw [← this]; omega)
     have hS0 : W8.drew.cell? ⟨g, 5, none⟩ = some (.map (some bl)) ∧ W8.drew.cell? ⟨w.heap.size, 1, none⟩ = some (.int .i64 tx) ∧ W8.drew.cell? ⟨w1.heap.size, 0, none⟩ = some (.int .i64 xatt) ∧ W8.drew.cell? ⟨w1.heap.size, 1, none⟩ = some (.int .i64 k) ∧ W8.drew.cell? ⟨w1.heap.size, 2, none⟩ = some (.int .i64 tx) ∧ W8.drew.cell? ⟨w1.heap.size, 3, none⟩ = some (.int .i64 att) ∧ W8.drew.cell? ⟨w1.heap.size, 4, none⟩ = some (.int .i64 stamp) ∧ W8.drew.cell? ⟨w1.heap.size, 5, none⟩ = some (.int .i64 op) ∧ W8.drew.cell? ⟨w1.heap.size, 6, none⟩ = some (.string key) ∧ W8.drew.cell? ⟨w1.heap.size, 7, none⟩ = some (.string value) ∧ W8.drew.cell? ⟨w1.heap.size, 8, none⟩ = some (.int .i64 mode) ∧ W8.drew.cell? ⟨w1.heap.size, 9, none⟩ = some (.bool true) ∧ W8.drew.cell? ⟨w1.heap.size, 10, none⟩ = some (.slice (some ⟨ga, 0, none⟩) xn xc) := ⟨hg5, hk1, hx0, hx1, hx2, hx3, hx4, hx5, hx6, hx7, hx8, hx9, hx10⟩
     clear hx hc hg5 hk1 hx0 hx1 hx2 hx3 hx4 hx5 hx6 hx7 hx8 hx9 hx10
     have HEND := Lib.hid (XM.fin (q := (⟨0, 0, ⟨#[]⟩, false⟩ : Rp)) (S' := putS S ⟨k, tx, att, stamp, op, key, value, mode, true⟩) HN (by rw [lvE_put, ← HEA.out, HE.out]; unfold putS; simp only [HLM.out, Le.lv]; rw [HPW.out]) rfl)
     obtain ⟨c0, c1, c2, c3, f0, f1, f2, f3⟩ := HN.rat
     simp only [zeroR] at c0 c1 c2 c3
     clear HN
     refine wp_region_till (fun W => W.cell? ⟨g, 5, none⟩ = some (.map (some bl)) ∧ W.cell? ⟨w.heap.size, 1, none⟩ = some (.int .i64 tx) ∧ W.cell? ⟨w1.heap.size, 0, none⟩ = some (.int .i64 xatt) ∧ W.cell? ⟨w1.heap.size, 1, none⟩ = some (.int .i64 k) ∧ W.cell? ⟨w1.heap.size, 2, none⟩ = some (.int .i64 tx) ∧ W.cell? ⟨w1.heap.size, 3, none⟩ = some (.int .i64 att) ∧ W.cell? ⟨w1.heap.size, 4, none⟩ = some (.int .i64 stamp) ∧ W.cell? ⟨w1.heap.size, 5, none⟩ = some (.int .i64 op) ∧ W.cell? ⟨w1.heap.size, 6, none⟩ = some (.string key) ∧ W.cell? ⟨w1.heap.size, 7, none⟩ = some (.string value) ∧ W.cell? ⟨w1.heap.size, 8, none⟩ = some (.int .i64 mode) ∧ W.cell? ⟨w1.heap.size, 9, none⟩ = some (.bool true) ∧ W.cell? ⟨w1.heap.size, 10, none⟩ = some (.slice (some ⟨ga, 0, none⟩) xn xc)) 7 (by kernel_rfl) (hS0) (fun hM hS => ?_)
     refine till_op (v := ?_) 0 [1, 2, 3] hM rfl (by kernel_rfl) (by kernel_rfl) (by kernel_rfl) (by kernel_rfl) rfl (fun _ _ _ h => h) (Or.inl ⟨by rfl, ?_⟩) hS (fun hM => ?_)
     rotate_left
     ·intro W hSw
      (try dsimp only at hSw)
      go_simp
      try with_reducible rfl
     try simp only [Act.put, List.setIfInBounds_toArray, List.set_cons_zero, List.set_cons_succ]
     refine till_op (v := ?_) 1 [2, 3] hM rfl (by kernel_rfl) (by kernel_rfl) (by kernel_rfl) (by kernel_rfl) rfl (fun _ _ _ h => h) (Or.inl ⟨by rfl, ?_⟩) hS (fun hM => ?_)
     rotate_left
     ·intro W hSw
      (try dsimp only at hSw)
      go_simp
      try with_reducible rfl
     try simp only [Act.put, List.setIfInBounds_toArray, List.set_cons_zero, List.set_cons_succ]
     refine till_op (v := ?_) 2 [3] hM rfl (by kernel_rfl) (by kernel_rfl) (by kernel_rfl) (by kernel_rfl) rfl (fun _ _ _ h => h) (Or.inl ⟨by rfl, ?_⟩) hS (fun hM => ?_)
     rotate_left
     ·intro W hSw
      (try dsimp only at hSw)
      go_simp
      try with_reducible rfl
     try simp only [Act.put, List.setIfInBounds_toArray, List.set_cons_zero, List.set_cons_succ]
     refine till_op (v := ?_) 3 [] hM rfl (by kernel_rfl) (by kernel_rfl) (by kernel_rfl) (by kernel_rfl) rfl (fun _ _ _ h => h) (Or.inl ⟨by rfl, ?_⟩) hS (fun hM => ?_)
     rotate_left
     ·intro W hSw
      (try dsimp only at hSw)
      go_simp
      try with_reducible rfl
     try simp only [Act.put, List.setIfInBounds_toArray, List.set_cons_zero, List.set_cons_succ]
     refine till_op (v := ?_) 4 [5] hM rfl (by kernel_rfl) (by kernel_rfl) (by kernel_rfl) (by kernel_rfl) rfl (fun _ _ _ h => h) (Or.inl ⟨by rfl, ?_⟩) hS (fun hM => ?_)
     rotate_left
     ·intro W hSw
      (try dsimp only at hSw)
      go_simp
      try with_reducible rfl
     try simp only [Act.put, List.setIfInBounds_toArray, List.set_cons_zero, List.set_cons_succ]
     refine till_op (v := ?_) 5 [] hM rfl (by kernel_rfl) (by kernel_rfl) (by kernel_rfl) (by kernel_rfl) rfl (fun _ _ _ h => h) (Or.inl ⟨by rfl, ?_⟩) hS (fun hM => ?_)
     rotate_left
     ·intro W hSw
      (try dsimp only at hSw)
      go_simp
      try with_reducible rfl
     try simp only [Act.put, List.setIfInBounds_toArray, List.set_cons_zero, List.set_cons_succ]
     refine till_op (v := ?_) 6 [] hM rfl (by kernel_rfl) (by kernel_rfl) (by kernel_rfl) (by kernel_rfl) rfl (fun _ _ _ h => h) (Or.inl ⟨by rfl, ?_⟩) hS (fun hM => ?_)
     rotate_left
     ·intro W hSw
      (try dsimp only at hSw)
      go_simp
      try with_reducible rfl
     try simp only [Act.put, List.setIfInBounds_toArray, List.set_cons_zero, List.set_cons_succ]
     refine till_one 7 hM rfl (by kernel_rfl) (fun K hK => ?_)
     refine step_mapUpdateR rfl (.tmp 69) (.tmp 71) (.tmp 72) 96 rfl _ _ _ rfl rfl rfl HR ?_
     refine hK _ _ (fun h => absurd rfl h) (fun hM => ?_)
     clear hK K
     try simp only [Act.put, List.setIfInBounds_toArray, List.set_cons_zero, List.set_cons_succ]
     refine till_done (by kernel_rfl) ?_ _
     go_wp2_with fail
     obtain ⟨W5, hW5⟩ : ∃ W5, W5 = ((((w9.setCell ⟨w.heap.size + 1, 0, none⟩ (.int .i64 0)).setCell ⟨w.heap.size + 1, 1, none⟩ (.int .i64 0)).setCell ⟨w.heap.size + 1, 2, none⟩ (.string ⟨#[]⟩)).setCell ⟨w.heap.size + 1, 3, none⟩ (.bool false)) := ⟨_, rfl⟩
     rw [← hW5]
     obtain ⟨⟨v0, v1, v2, v3, -, -, -, -⟩, hR⟩ := HEND.out W5 hW5
     simp only at v0 v1 v2 v3
     clear hW5
     refine bodyPost_ret (by simp [results, Tryz.results41, go_sem, v0, v1, v2, v3]; try rfl) rfl ?_
     first
      | exact hR
      | (rw [HGM.out]; exact hR)
    | false =>
     rw [hhw] at HPW
     simp only [Bool.false_eq_true, if_false] at HPW
     have hr : Row w6 43 3 xa xn xc (wrFlat xws) := PM.row HP6.out
     have h3 := HP6.out.h3
     have t0 := (cell_of_heap (i := 0) (v := .string key) h3 rfl).1
     have t1 := (cell_of_heap (i := 1) (v := .string value) h3 rfl).1
     have t2 := (cell_of_heap (i := 2) (v := .bool true) h3 rfl).1
     have hx10 := (cell_of_heap (i := 10) (v := .slice xa xn xc) HP6.out.h2 rfl).1
     have hlt : ∀ z ∈ blkOf xa, z < w6.heap.size := fun z hz => by
      obtain ⟨y, hy, rfl⟩ := mem_blkOf.1 hz
      exact hr.lt y hy
     have HI := Lib.hid ((insW_any xa xn xc (posW xws key) w6.heap.size (wrFlat xws) (wrCells ⟨key, value, true⟩) (w6.alloc (.cells #[.string key, .string value, .bool true] 43)) (hr.below (bel_new _ _)) (heap_new w6 _) rfl (fun h => by have := hlt _ h; omega) (wrFlat_one _) (wrCells_one _) (by omega) (by omega)).mono
      (R' := fun e W' => ∃ a' c', e = .returned (.slice a' (xn + 1) c') ∧ W'.cell? ⟨w1.heap.size, 10, none⟩ = some (.slice xa xn xc) ∧ W'.frozen? ⟨w1.heap.size, 10, none⟩ = false ∧
       PM w D w.heap.size (w.heap.size + 1) w1.heap.size w3.heap.size ⟨k, tx, att, stamp, op, key, value, mode, true⟩ ⟨key, value, true⟩ ⟨xatt, ⟨xk, xtx, xat, xst, xop, xkey, xval, xmode, xyes⟩, a', xn + 1, c', (xws.take (posW xws key) ++ ⟨key, value, true⟩ :: xws.drop (posW xws key))⟩ ⟨xatt, ⟨xk, xtx, xat, xst, xop, xkey, xval, xmode, xyes⟩, a', xn + 1, c', (xws.take (posW xws key) ++ ⟨key, value, true⟩ :: xws.drop (posW xws key))⟩ tx ⟨xatt, ⟨xk, xtx, xat, xst, xop, xkey, xval, xmode, xyes⟩, xa, xn, xc, xws⟩ A B g pc pl ps bl bd S (W'.setCell ⟨w1.heap.size, 10, none⟩ (.slice a' (xn + 1) c'))) fun e W' ⟨a', c', he, hrow, ht, hf⟩ => by
       rw [wrFlat_ins] at hrow
       have q1 := PM.turn (PM.below HP6.out (bel_new w6 _)) hrow ht hf
       have q2 := q1.h2
       refine ⟨a', c', he, (cell_of_heap (i := 10) (v := .slice xa xn xc) q2 rfl).1, (cell_of_heap (i := 10) (v := .slice xa xn xc) q2 rfl).2, ?_⟩
       exact PM.setWs q1 a' (xn + 1) c' _)
     have hpn : posW xws key ≤ xn := by omega
     clear hr h3 hhw hxn hlt HP6
     generalize xws.take (posW xws key) ++ ⟨key, value, true⟩ :: xws.drop (posW xws key) = ws2 at *
     generalize posW xws key = pw at *
     go_wp2_with fail
     refine HI.out.mono ?_
     rintro e w61 ⟨a', c', rfl, hcx, hfx, hq⟩
     have HQ := Lib.hid hq
     clear hq t0 t1 t2 hx10 HI
     go_upto_region 11 with (fail)
     obtain ⟨W7, hW7⟩ : ∃ W7, W7 = w61.setCell ⟨w1.heap.size, 10, none⟩ (.slice a' (xn + 1) c') := ⟨_, rfl⟩
     rw [← hW7] at HQ ⊢
     clear hW7 hcx hfx
     have hx := HQ.out.h2
     have hc := HQ.out.h0
     have hk0 := (cell_of_heap (i := 0) (v := .int .i64 k) hc rfl).1
     have hk1 := (cell_of_heap (i := 1) (v := .int .i64 tx) hc rfl).1
     have hk2 := (cell_of_heap (i := 2) (v := .int .i64 att) hc rfl).1
     have hk3 := (cell_of_heap (i := 3) (v := .int .i64 stamp) hc rfl).1
     have hk4 := (cell_of_heap (i := 4) (v := .int .i64 op) hc rfl).1
     have hk5 := (cell_of_heap (i := 5) (v := .string key) hc rfl).1
     have hk6 := (cell_of_heap (i := 6) (v := .string value) hc rfl).1
     have hk7 := (cell_of_heap (i := 7) (v := .int .i64 mode) hc rfl).1
     have hk8 := (cell_of_heap (i := 8) (v := .bool true) hc rfl).1
     have hx0 := (cell_of_heap (i := 0) (v := .int .i64 xatt) hx rfl).1
     have fx0 := (cell_of_heap (i := 0) (v := .int .i64 xatt) hx rfl).2
     have hx1 := (cell_of_heap (i := 1) (v := .int .i64 xk) hx rfl).1
     have fx1 := (cell_of_heap (i := 1) (v := .int .i64 xk) hx rfl).2
     have hx2 := (cell_of_heap (i := 2) (v := .int .i64 xtx) hx rfl).1
     have fx2 := (cell_of_heap (i := 2) (v := .int .i64 xtx) hx rfl).2
     have hx3 := (cell_of_heap (i := 3) (v := .int .i64 xat) hx rfl).1
     have fx3 := (cell_of_heap (i := 3) (v := .int .i64 xat) hx rfl).2
     have hx4 := (cell_of_heap (i := 4) (v := .int .i64 xst) hx rfl).1
     have fx4 := (cell_of_heap (i := 4) (v := .int .i64 xst) hx rfl).2
     have hx5 := (cell_of_heap (i := 5) (v := .int .i64 xop) hx rfl).1
     have fx5 := (cell_of_heap (i := 5) (v := .int .i64 xop) hx rfl).2
     have hx6 := (cell_of_heap (i := 6) (v := .string xkey) hx rfl).1
     have fx6 := (cell_of_heap (i := 6) (v := .string xkey) hx rfl).2
     have hx7 := (cell_of_heap (i := 7) (v := .string xval) hx rfl).1
     have fx7 := (cell_of_heap (i := 7) (v := .string xval) hx rfl).2
     have hx8 := (cell_of_heap (i := 8) (v := .int .i64 xmode) hx rfl).1
     have fx8 := (cell_of_heap (i := 8) (v := .int .i64 xmode) hx rfl).2
     have hx9 := (cell_of_heap (i := 9) (v := .bool xyes) hx rfl).1
     have fx9 := (cell_of_heap (i := 9) (v := .bool xyes) hx rfl).2
     have hx10 := (cell_of_heap (i := 10) (v := .slice a' (xn + 1) c') hx rfl).1
     have fx10 := (cell_of_heap (i := 10) (v := .slice a' (xn + 1) c') hx rfl).2
     have HL := Lib.hid (PM.setLast HQ.out)
     clear hx hc
     go_upto_region 12 with (fail)
     obtain ⟨W8, hW8⟩ : ∃ W8, W8 = (((((((((W7.setCell ⟨w1.heap.size, 1, none⟩ (.int .i64 k)).setCell ⟨w1.heap.size, 2, none⟩ (.int .i64 tx)).setCell ⟨w1.heap.size, 3, none⟩ (.int .i64 att)).setCell ⟨w1.heap.size, 4, none⟩ (.int .i64 stamp)).setCell ⟨w1.heap.size, 5, none⟩ (.int .i64 op)).setCell ⟨w1.heap.size, 6, none⟩ (.string key)).setCell ⟨w1.heap.size, 7, none⟩ (.string value)).setCell ⟨w1.heap.size, 8, none⟩ (.int .i64 mode)).setCell ⟨w1.heap.size, 9, none⟩ (.bool true)) := ⟨_, rfl⟩
     rw [← hW8] at HL ⊢
     clear hW8 hk0 hk1 hk2 hk3 hk4 hk5 hk6 hk7 hk8 hx0 fx0 hx1 fx1 hx2 fx2 hx3 fx3 hx4 fx4 hx5 fx5 hx6 fx6 hx7 fx7 hx8 fx8 hx9 fx9 hx10 fx10
     have hx := HL.out.h2
     have hc := HL.out.h0
     have hg5 := HL.out.hg
     have hk1 := (cell_of_heap (i := 1) (v := .int .i64 tx) hc rfl).1
     have hx0 := (cell_of_heap (i := 0) (v := .int .i64 xatt) hx rfl).1
     have hx1 := (cell_of_heap (i := 1) (v := .int .i64 k) hx rfl).1
     have hx2 := (cell_of_heap (i := 2) (v := .int .i64 tx) hx rfl).1
     have hx3 := (cell_of_heap (i := 3) (v := .int .i64 att) hx rfl).1
     have hx4 := (cell_of_heap (i := 4) (v := .int .i64 stamp) hx rfl).1
     have hx5 := (cell_of_heap (i := 5) (v := .int .i64 op) hx rfl).1
     have hx6 := (cell_of_heap (i := 6) (v := .string key) hx rfl).1
     have hx7 := (cell_of_heap (i := 7) (v := .string value) hx rfl).1
     have hx8 := (cell_of_heap (i := 8) (v := .int .i64 mode) hx rfl).1
     have hx9 := (cell_of_heap (i := 9) (v := .bool true) hx rfl).1
     have hx10 := (cell_of_heap (i := 10) (v := .slice a' (xn + 1) c') hx rfl).1
     obtain ⟨w9, HR, HN⟩ := PM.store (x := ⟨xatt, ⟨k, tx, att, stamp, op, key, value, mode, true⟩, a', (xn + 1), c', ws2⟩) (PM.below HL.out (bel_drew W8)) htx ⟨rfl, rfl, rfl, rfl⟩ HAB.out.1 HAB.out.2 (by have := HEA.out; rw [← this]; omega)
     have hS0 : W8.drew.cell? ⟨g, 5, none⟩ = some (.map (some bl)) ∧ W8.drew.cell? ⟨w.heap.size, 1, none⟩ = some (.int .i64 tx) ∧ W8.drew.cell? ⟨w1.heap.size, 0, none⟩ = some (.int .i64 xatt) ∧ W8.drew.cell? ⟨w1.heap.size, 1, none⟩ = some (.int .i64 k) ∧ W8.drew.cell? ⟨w1.heap.size, 2, none⟩ = some (.int .i64 tx) ∧ W8.drew.cell? ⟨w1.heap.size, 3, none⟩ = some (.int .i64 att) ∧ W8.drew.cell? ⟨w1.heap.size, 4, none⟩ = some (.int .i64 stamp) ∧ W8.drew.cell? ⟨w1.heap.size, 5, none⟩ = some (.int .i64 op) ∧ W8.drew.cell? ⟨w1.heap.size, 6, none⟩ = some (.string key) ∧ W8.drew.cell? ⟨w1.heap.size, 7, none⟩ = some (.string value) ∧ W8.drew.cell? ⟨w1.heap.size, 8, none⟩ = some (.int .i64 mode) ∧ W8.drew.cell? ⟨w1.heap.size, 9, none⟩ = some (.bool true) ∧ W8.drew.cell? ⟨w1.heap.size, 10, none⟩ = some (.slice a' (xn + 1) c') := ⟨hg5, hk1, hx0, hx1, hx2, hx3, hx4, hx5, hx6, hx7, hx8, hx9, hx10⟩
     clear hx hc hg5 hk1 hx0 hx1 hx2 hx3 hx4 hx5 hx6 hx7 hx8 hx9 hx10
     have HEND := Lib.hid (XM.fin (q := (⟨0, 0, ⟨#[]⟩, false⟩ : Rp)) (S' := putS S ⟨k, tx, att, stamp, op, key, value, mode, true⟩) HN (by rw [lvE_put, ← HEA.out, HE.out]; unfold putS; simp only [HLM.out, Le.lv]; rw [HPW.out]) rfl)
     obtain ⟨c0, c1, c2, c3, f0, f1, f2, f3⟩ := HN.rat
     simp only [zeroR] at c0 c1 c2 c3
     clear HN
     refine wp_region_till (fun W => W.cell? ⟨g, 5, none⟩ = some (.map (some bl)) ∧ W.cell? ⟨w.heap.size, 1, none⟩ = some (.int .i64 tx) ∧ W.cell? ⟨w1.heap.size, 0, none⟩ = some (.int .i64 xatt) ∧ W.cell? ⟨w1.heap.size, 1, none⟩ = some (.int .i64 k) ∧ W.cell? ⟨w1.heap.size, 2, none⟩ = some (.int .i64 tx) ∧ W.cell? ⟨w1.heap.size, 3, none⟩ = some (.int .i64 att) ∧ W.cell? ⟨w1.heap.size, 4, none⟩ = some (.int .i64 stamp) ∧ W.cell? ⟨w1.heap.size, 5, none⟩ = some (.int .i64 op) ∧ W.cell? ⟨w1.heap.size, 6, none⟩ = some (.string key) ∧ W.cell? ⟨w1.heap.size, 7, none⟩ = some (.string value) ∧ W.cell? ⟨w1.heap.size, 8, none⟩ = some (.int .i64 mode) ∧ W.cell? ⟨w1.heap.size, 9, none⟩ = some (.bool true) ∧ W.cell? ⟨w1.heap.size, 10, none⟩ = some (.slice a' (xn + 1) c')) 7 (by kernel_rfl) (hS0) (fun hM hS => ?_)
     refine till_op (v := ?_) 0 [1, 2, 3] hM rfl (by kernel_rfl) (by kernel_rfl) (by kernel_rfl) (by kernel_rfl) rfl (fun _ _ _ h => h) (Or.inl ⟨by rfl, ?_⟩) hS (fun hM => ?_)
     rotate_left
     ·intro W hSw
      (try dsimp only at hSw)
      go_simp
      try with_reducible rfl
     try simp only [Act.put, List.setIfInBounds_toArray, List.set_cons_zero, List.set_cons_succ]
     refine till_op (v := ?_) 1 [2, 3] hM rfl (by kernel_rfl) (by kernel_rfl) (by kernel_rfl) (by kernel_rfl) rfl (fun _ _ _ h => h) (Or.inl ⟨by rfl, ?_⟩) hS (fun hM => ?_)
     rotate_left
     ·intro W hSw
      (try dsimp only at hSw)
      go_simp
      try with_reducible rfl
     try simp only [Act.put, List.setIfInBounds_toArray, List.set_cons_zero, List.set_cons_succ]
     refine till_op (v := ?_) 2 [3] hM rfl (by kernel_rfl) (by kernel_rfl) (by kernel_rfl) (by kernel_rfl) rfl (fun _ _ _ h => h) (Or.inl ⟨by rfl, ?_⟩) hS (fun hM => ?_)
     rotate_left
     ·intro W hSw
      (try dsimp only at hSw)
      go_simp
      try with_reducible rfl
     try simp only [Act.put, List.setIfInBounds_toArray, List.set_cons_zero, List.set_cons_succ]
     refine till_op (v := ?_) 3 [] hM rfl (by kernel_rfl) (by kernel_rfl) (by kernel_rfl) (by kernel_rfl) rfl (fun _ _ _ h => h) (Or.inl ⟨by rfl, ?_⟩) hS (fun hM => ?_)
     rotate_left
     ·intro W hSw
      (try dsimp only at hSw)
      go_simp
      try with_reducible rfl
     try simp only [Act.put, List.setIfInBounds_toArray, List.set_cons_zero, List.set_cons_succ]
     refine till_op (v := ?_) 4 [5] hM rfl (by kernel_rfl) (by kernel_rfl) (by kernel_rfl) (by kernel_rfl) rfl (fun _ _ _ h => h) (Or.inl ⟨by rfl, ?_⟩) hS (fun hM => ?_)
     rotate_left
     ·intro W hSw
      (try dsimp only at hSw)
      go_simp
      try with_reducible rfl
     try simp only [Act.put, List.setIfInBounds_toArray, List.set_cons_zero, List.set_cons_succ]
     refine till_op (v := ?_) 5 [] hM rfl (by kernel_rfl) (by kernel_rfl) (by kernel_rfl) (by kernel_rfl) rfl (fun _ _ _ h => h) (Or.inl ⟨by rfl, ?_⟩) hS (fun hM => ?_)
     rotate_left
     ·intro W hSw
      (try dsimp only at hSw)
      go_simp
      try with_reducible rfl
     try simp only [Act.put, List.setIfInBounds_toArray, List.set_cons_zero, List.set_cons_succ]
     refine till_op (v := ?_) 6 [] hM rfl (by kernel_rfl) (by kernel_rfl) (by kernel_rfl) (by kernel_rfl) rfl (fun _ _ _ h => h) (Or.inl ⟨by rfl, ?_⟩) hS (fun hM => ?_)
     rotate_left
     ·intro W hSw
      (try dsimp only at hSw)
      go_simp
      try with_reducible rfl
     try simp only [Act.put, List.setIfInBounds_toArray, List.set_cons_zero, List.set_cons_succ]
     refine till_one 7 hM rfl (by kernel_rfl) (fun K hK => ?_)
     refine step_mapUpdateR rfl (.tmp 69) (.tmp 71) (.tmp 72) 96 rfl _ _ _ rfl rfl rfl HR ?_
     refine hK _ _ (fun h => absurd rfl h) (fun hM => ?_)
     clear hK K
     try simp only [Act.put, List.setIfInBounds_toArray, List.set_cons_zero, List.set_cons_succ]
     refine till_done (by kernel_rfl) ?_ _
     go_wp2_with fail
     obtain ⟨W5, hW5⟩ : ∃ W5, W5 = ((((w9.setCell ⟨w.heap.size + 1, 0, none⟩ (.int .i64 0)).setCell ⟨w.heap.size + 1, 1, none⟩ (.int .i64 0)).setCell ⟨w.heap.size + 1, 2, none⟩ (.string ⟨#[]⟩)).setCell ⟨w.heap.size + 1, 3, none⟩ (.bool false)) := ⟨_, rfl⟩
     rw [← hW5]
     obtain ⟨⟨v0, v1, v2, v3, -, -, -, -⟩, hR⟩ := HEND.out W5 hW5
     simp only at v0 v1 v2 v3
     clear hW5
     refine bodyPost_ret (by simp [results, Tryz.results41, go_sem, v0, v1, v2, v3]; try rfl) rfl ?_
     first
      | exact hR
      | (rw [HGM.out]; exact hR)
   | false =>
    go_upto_region 7 with (fail)
    obtain ⟨A, B, hE, hA, hB, hPM⟩ := XM.write HX3.out HGE.out ⟨key, ⟨#[]⟩, false⟩
    have HAB := Lib.hid (And.intro hA hB)
    have HEA := Lib.hid hE
    have HP := Lib.hid hPM
    clear hE hA hB hPM
    obtain ⟨W4, hW4⟩ : ∃ W4, W4 = w3.alloc (.cells #[.string key, .string ⟨#[]⟩, .bool false] 43) := ⟨_, rfl⟩
    rw [← hW4] at HP ⊢
    clear hW4 hk0 hk1 hk2 hk3 hk4 hk5 hk6 hk7 hk8 HX3
    have HPW : Hid (putW xws (wrOf ⟨k, tx, att, stamp, op, key, value, mode, false⟩) = if hasW xws key then xws.set (posW xws key) ⟨key, ⟨#[]⟩, false⟩ else xws.take (posW xws key) ++ ⟨key, ⟨#[]⟩, false⟩ :: xws.drop (posW xws key)) := Lib.hid rfl
    have HWC := Lib.hid (wrote_any ⟨xatt, ⟨xk, xtx, xat, xst, xop, xkey, xval, xmode, xyes⟩, xa, xn, xc, xws⟩ key W4 (PM.row HP.out) HWX.out.1 (Nat.le_trans HWX.out.2 (by decide)))
    have hx := HP.out.h2
    have hc := HP.out.h0
    have hk5 := (cell_of_heap (i := 5) (v := .string key) hc rfl).1
    have hx0 := (cell_of_heap (i := 0) (v := .int .i64 xatt) hx rfl).1
    have hx1 := (cell_of_heap (i := 1) (v := .int .i64 xk) hx rfl).1
    have hx2 := (cell_of_heap (i := 2) (v := .int .i64 xtx) hx rfl).1
    have hx3 := (cell_of_heap (i := 3) (v := .int .i64 xat) hx rfl).1
    have hx4 := (cell_of_heap (i := 4) (v := .int .i64 xst) hx rfl).1
    have hx5 := (cell_of_heap (i := 5) (v := .int .i64 xop) hx rfl).1
    have hx6 := (cell_of_heap (i := 6) (v := .string xkey) hx rfl).1
    have hx7 := (cell_of_heap (i := 7) (v := .string xval) hx rfl).1
    have hx8 := (cell_of_heap (i := 8) (v := .int .i64 xmode) hx rfl).1
    have hx9 := (cell_of_heap (i := 9) (v := .bool xyes) hx rfl).1
    have hx10 := (cell_of_heap (i := 10) (v := .slice xa xn xc) hx rfl).1
    clear hx hc
    go_wp2_with fail
    refine HWC.out.mono ?_
    rintro e w6 ⟨rfl, hb6⟩
    have HP6 := Lib.hid (PM.below HP.out hb6)
    clear hb6 HP HWC hk5 hx0 hx1 hx2 hx3 hx4 hx5 hx6 hx7 hx8 hx9 hx10
    have hxn : xn = xws.length := by have := (PM.row HP6.out).len; rw [wrFlat_len] at this; exact Nat.eq_of_mul_eq_mul_right (by decide) this.symm
    have hpb : posW xws key ≤ xws.length := posW_le _ _
    have hxl : xws.length ≤ 1000 := HWX.out.2
    cases hhw : hasW xws key with
    | true =>
     rw [hhw] at HPW
     simp only [if_true] at HPW
     obtain ⟨hpl0, -⟩ := (hasW_iff HWX.out.1 key).1 hhw
     have hpl : posW xws key < xws.length := hpl0
     clear hpl0
     obtain ⟨ga, hga, hat⟩ := wrAt_row (show Row w6 43 3 xa xn xc (wrFlat xws) from PM.row HP6.out) (posW xws key) hpl
     try simp only at hga
     subst hga
     have hr : Row w6 43 3 (some ⟨ga, 0, none⟩) xn xc (wrFlat xws) := PM.row HP6.out
     have fz0 := Row.fz hr (posW xws key * 3) (by rw [wrFlat_len]; omega)
     have fz1 := Row.fz hr (posW xws key * 3 + 1) (by rw [wrFlat_len]; omega)
     have fz2 := Row.fz hr (posW xws key * 3 + 2) (by rw [wrFlat_len]; omega)
     have h3 := HP6.out.h3
     have t0 := (cell_of_heap (i := 0) (v := .string key) h3 rfl).1
     have t1 := (cell_of_heap (i := 1) (v := .string ⟨#[]⟩) h3 rfl).1
     have t2 := (cell_of_heap (i := 2) (v := .bool false) h3 rfl).1
     have hx10 := (cell_of_heap (i := 10) (v := .slice (some ⟨ga, 0, none⟩) xn xc) HP6.out.h2 rfl).1
     obtain ⟨y0, y1, y2⟩ := hat
     have HQ := Lib.hid (PM.setRow HP6.out rfl (posW xws key) hpl ⟨key, ⟨#[]⟩, false⟩)
     have hpn : posW xws key < xn := by rw [hxn]; exact hpl
     try simp only at HQ
     clear hr h3 hhw hxn
     generalize xws[posW xws key] = yz at *
     obtain ⟨yk, yv, yh⟩ := yz
     simp only at y0 y1 y2
     generalize hws2 : xws.set (posW xws key) ⟨key, ⟨#[]⟩, false⟩ = ws2 at *
     clear hws2
     generalize posW xws key = pw at *
     go_upto_region 11 with (fail)
     obtain ⟨W7, hW7⟩ : ∃ W7, W7 = ((w6.setCell ⟨ga, pw * 3, none⟩ (.string key)).setCell ⟨ga, pw * 3 + 1, none⟩ (.string ⟨#[]⟩)).setCell ⟨ga, pw * 3 + 2, none⟩ (.bool false) := ⟨_, rfl⟩
     rw [← hW7] at HQ ⊢
     clear hW7 y0 y1 y2 fz0 fz1 fz2 t0 t1 t2 hx10 HP6
     have hx := HQ.out.h2
     have hc := HQ.out.h0
     have hk0 := (cell_of_heap (i := 0) (v := .int .i64 k) hc rfl).1
     have hk1 := (cell_of_heap (i := 1) (v := .int .i64 tx) hc rfl).1
     have hk2 := (cell_of_heap (i := 2) (v := .int .i64 att) hc rfl).1
     have hk3 := (cell_of_heap (i := 3) (v := .int .i64 stamp) hc rfl).1
     have hk4 := (cell_of_heap (i := 4) (v := .int .i64 op) hc rfl).1
     have hk5 := (cell_of_heap (i := 5) (v := .string key) hc rfl).1
     have hk6 := (cell_of_heap (i := 6) (v := .string value) hc rfl).1
     have hk7 := (cell_of_heap (i := 7) (v := .int .i64 mode) hc rfl).1
     have hk8 := (cell_of_heap (i := 8) (v := .bool false) hc rfl).1
     have hx0 := (cell_of_heap (i := 0) (v := .int .i64 xatt) hx rfl).1
     have fx0 := (cell_of_heap (i := 0) (v := .int .i64 xatt) hx rfl).2
     have hx1 := (cell_of_heap (i := 1) (v := .int .i64 xk) hx rfl).1
     have fx1 := (cell_of_heap (i := 1) (v := .int .i64 xk) hx rfl).2
     have hx2 := (cell_of_heap (i := 2) (v := .int .i64 xtx) hx rfl).1
     have fx2 := (cell_of_heap (i := 2) (v := .int .i64 xtx) hx rfl).2
     have hx3 := (cell_of_heap (i := 3) (v := .int .i64 xat) hx rfl).1
     have fx3 := (cell_of_heap (i := 3) (v := .int .i64 xat) hx rfl).2
     have hx4 := (cell_of_heap (i := 4) (v := .int .i64 xst) hx rfl).1
     have fx4 := (cell_of_heap (i := 4) (v := .int .i64 xst) hx rfl).2
     have hx5 := (cell_of_heap (i := 5) (v := .int .i64 xop) hx rfl).1
     have fx5 := (cell_of_heap (i := 5) (v := .int .i64 xop) hx rfl).2
     have hx6 := (cell_of_heap (i := 6) (v := .string xkey) hx rfl).1
     have fx6 := (cell_of_heap (i := 6) (v := .string xkey) hx rfl).2
     have hx7 := (cell_of_heap (i := 7) (v := .string xval) hx rfl).1
     have fx7 := (cell_of_heap (i := 7) (v := .string xval) hx rfl).2
     have hx8 := (cell_of_heap (i := 8) (v := .int .i64 xmode) hx rfl).1
     have fx8 := (cell_of_heap (i := 8) (v := .int .i64 xmode) hx rfl).2
     have hx9 := (cell_of_heap (i := 9) (v := .bool xyes) hx rfl).1
     have fx9 := (cell_of_heap (i := 9) (v := .bool xyes) hx rfl).2
     have hx10 := (cell_of_heap (i := 10) (v := .slice (some ⟨ga, 0, none⟩) xn xc) hx rfl).1
     have fx10 := (cell_of_heap (i := 10) (v := .slice (some ⟨ga, 0, none⟩) xn xc) hx rfl).2
     have HL := Lib.hid (PM.setLast HQ.out)
     clear hx hc
     go_upto_region 12 with (fail)
     obtain ⟨W8, hW8⟩ : ∃ W8, W8 = (((((((((W7.setCell ⟨w1.heap.size, 1, none⟩ (.int .i64 k)).setCell ⟨w1.heap.size, 2, none⟩ (.int .i64 tx)).setCell ⟨w1.heap.size, 3, none⟩ (.int .i64 att)).setCell ⟨w1.heap.size, 4, none⟩ (.int .i64 stamp)).setCell ⟨w1.heap.size, 5, none⟩ (.int .i64 op)).setCell ⟨w1.heap.size, 6, none⟩ (.string key)).setCell ⟨w1.heap.size, 7, none⟩ (.string value)).setCell ⟨w1.heap.size, 8, none⟩ (.int .i64 mode)).setCell ⟨w1.heap.size, 9, none⟩ (.bool false)) := ⟨_, rfl⟩
     rw [← hW8] at HL ⊢
     clear hW8 hk0 hk1 hk2 hk3 hk4 hk5 hk6 hk7 hk8 hx0 fx0 hx1 fx1 hx2 fx2 hx3 fx3 hx4 fx4 hx5 fx5 hx6 fx6 hx7 fx7 hx8 fx8 hx9 fx9 hx10 fx10
     have hx := HL.out.h2
     have hc := HL.out.h0
     have hg5 := HL.out.hg
     have hk1 := (cell_of_heap (i := 1) (v := .int .i64 tx) hc rfl).1
     have hx0 := (cell_of_heap (i := 0) (v := .int .i64 xatt) hx rfl).1
     have hx1 := (cell_of_heap (i := 1) (v := .int .i64 k) hx rfl).1
     have hx2 := (cell_of_heap (i := 2) (v := .int .i64 tx) hx rfl).1
     have hx3 := (cell_of_heap (i := 3) (v := .int .i64 att) hx rfl).1
     have hx4 := (cell_of_heap (i := 4) (v := .int .i64 stamp) hx rfl).1
     have hx5 := (cell_of_heap (i := 5) (v := .int .i64 op) hx rfl).1
     have hx6 := (cell_of_heap (i := 6) (v := .string key) hx rfl).1
     have hx7 := (cell_of_heap (i := 7) (v := .string value) hx rfl).1
     have hx8 := (cell_of_heap (i := 8) (v := .int .i64 mode) hx rfl).1
     have hx9 := (cell_of_heap (i := 9) (v := .bool false) hx rfl).1
     have hx10 := (cell_of_heap (i := 10) (v := .slice (some ⟨ga, 0, none⟩) xn xc) hx rfl).1
     obtain ⟨w9, HR, HN⟩ := PM.store (x := ⟨xatt, ⟨k, tx, att, stamp, op, key, value, mode, false⟩, (some ⟨ga, 0, none⟩), xn, xc, ws2⟩) (PM.below HL.out (bel_drew W8)) htx ⟨rfl, rfl, rfl, rfl⟩ HAB.out.1 HAB.out.2 (by have := HEA.out; rw [← this]; omega)
     have hS0 : W8.drew.cell? ⟨g, 5, none⟩ = some (.map (some bl)) ∧ W8.drew.cell? ⟨w.heap.size, 1, none⟩ = some (.int .i64 tx) ∧ W8.drew.cell? ⟨w1.heap.size, 0, none⟩ = some (.int .i64 xatt) ∧ W8.drew.cell? ⟨w1.heap.size, 1, none⟩ = some (.int .i64 k) ∧ W8.drew.cell? ⟨w1.heap.size, 2, none⟩ = some (.int .i64 tx) ∧ W8.drew.cell? ⟨w1.heap.size, 3, none⟩ = some (.int .i64 att) ∧ W8.drew.cell? ⟨w1.heap.size, 4, none⟩ = some (.int .i64 stamp) ∧ W8.drew.cell? ⟨w1.heap.size, 5, none⟩ = some (.int .i64 op) ∧ W8.drew.cell? ⟨w1.heap.size, 6, none⟩ = some (.string key) ∧ W8.drew.cell? ⟨w1.heap.size, 7, none⟩ = some (.string value) ∧ W8.drew.cell? ⟨w1.heap.size, 8, none⟩ = some (.int .i64 mode) ∧ W8.drew.cell? ⟨w1.heap.size, 9, none⟩ = some (.bool false) ∧ W8.drew.cell? ⟨w1.heap.size, 10, none⟩ = some (.slice (some ⟨ga, 0, none⟩) xn xc) := ⟨hg5, hk1, hx0, hx1, hx2, hx3, hx4, hx5, hx6, hx7, hx8, hx9, hx10⟩
     clear hx hc hg5 hk1 hx0 hx1 hx2 hx3 hx4 hx5 hx6 hx7 hx8 hx9 hx10
     have HEND := Lib.hid (XM.fin (q := (⟨0, 0, ⟨#[]⟩, false⟩ : Rp)) (S' := putS S ⟨k, tx, att, stamp, op, key, value, mode, false⟩) HN (by rw [lvE_put, ← HEA.out, HE.out]; unfold putS; simp only [HLM.out, Le.lv]; rw [HPW.out]) rfl)
     obtain ⟨c0, c1, c2, c3, f0, f1, f2, f3⟩ := HN.rat
     simp only [zeroR] at c0 c1 c2 c3
     clear HN
     refine wp_region_till (fun W => W.cell? ⟨g, 5, none⟩ = some (.map (some bl)) ∧ W.cell? ⟨w.heap.size, 1, none⟩ = some (.int .i64 tx) ∧ W.cell? ⟨w1.heap.size, 0, none⟩ = some (.int .i64 xatt) ∧ W.cell? ⟨w1.heap.size, 1, none⟩ = some (.int .i64 k) ∧ W.cell? ⟨w1.heap.size, 2, none⟩ = some (.int .i64 tx) ∧ W.cell? ⟨w1.heap.size, 3, none⟩ = some (.int .i64 att) ∧ W.cell? ⟨w1.heap.size, 4, none⟩ = some (.int .i64 stamp) ∧ W.cell? ⟨w1.heap.size, 5, none⟩ = some (.int .i64 op) ∧ W.cell? ⟨w1.heap.size, 6, none⟩ = some (.string key) ∧ W.cell? ⟨w1.heap.size, 7, none⟩ = some (.string value) ∧ W.cell? ⟨w1.heap.size, 8, none⟩ = some (.int .i64 mode) ∧ W.cell? ⟨w1.heap.size, 9, none⟩ = some (.bool false) ∧ W.cell? ⟨w1.heap.size, 10, none⟩ = some (.slice (some ⟨ga, 0, none⟩) xn xc)) 7 (by kernel_rfl) (hS0) (fun hM hS => ?_)
     refine till_op (v := ?_) 0 [1, 2, 3] hM rfl (by kernel_rfl) (by kernel_rfl) (by kernel_rfl) (by kernel_rfl) rfl (fun _ _ _ h => h) (Or.inl ⟨by rfl, ?_⟩) hS (fun hM => ?_)
     rotate_left
     ·intro W hSw
      (try dsimp only at hSw)
      go_simp
      try with_reducible rfl
     try simp only [Act.put, List.setIfInBounds_toArray, List.set_cons_zero, List.set_cons_succ]
     refine till_op (v := ?_) 1 [2, 3] hM rfl (by kernel_rfl) (by kernel_rfl) (by kernel_rfl) (by kernel_rfl) rfl (fun _ _ _ h => h) (Or.inl ⟨by rfl, ?_⟩) hS (fun hM => ?_)
     rotate_left
     ·intro W hSw
      (try dsimp only at hSw)
      go_simp
      try with_reducible rfl
     try simp only [Act.put, List.setIfInBounds_toArray, List.set_cons_zero, List.set_cons_succ]
     refine till_op (v := ?_) 2 [3] hM rfl (by kernel_rfl) (by kernel_rfl) (by kernel_rfl) (by kernel_rfl) rfl (fun _ _ _ h => h) (Or.inl ⟨by rfl, ?_⟩) hS (fun hM => ?_)
     rotate_left
     ·intro W hSw
      (try dsimp only at hSw)
      go_simp
      try with_reducible rfl
     try simp only [Act.put, List.setIfInBounds_toArray, List.set_cons_zero, List.set_cons_succ]
     refine till_op (v := ?_) 3 [] hM rfl (by kernel_rfl) (by kernel_rfl) (by kernel_rfl) (by kernel_rfl) rfl (fun _ _ _ h => h) (Or.inl ⟨by rfl, ?_⟩) hS (fun hM => ?_)
     rotate_left
     ·intro W hSw
      (try dsimp only at hSw)
      go_simp
      try with_reducible rfl
     try simp only [Act.put, List.setIfInBounds_toArray, List.set_cons_zero, List.set_cons_succ]
     refine till_op (v := ?_) 4 [5] hM rfl (by kernel_rfl) (by kernel_rfl) (by kernel_rfl) (by kernel_rfl) rfl (fun _ _ _ h => h) (Or.inl ⟨by rfl, ?_⟩) hS (fun hM => ?_)
     rotate_left
     ·intro W hSw
      (try dsimp only at hSw)
      go_simp
      try with_reducible rfl
     try simp only [Act.put, List.setIfInBounds_toArray, List.set_cons_zero, List.set_cons_succ]
     refine till_op (v := ?_) 5 [] hM rfl (by kernel_rfl) (by kernel_rfl) (by kernel_rfl) (by kernel_rfl) rfl (fun _ _ _ h => h) (Or.inl ⟨by rfl, ?_⟩) hS (fun hM => ?_)
     rotate_left
     ·intro W hSw
      (try dsimp only at hSw)
      go_simp
      try with_reducible rfl
     try simp only [Act.put, List.setIfInBounds_toArray, List.set_cons_zero, List.set_cons_succ]
     refine till_op (v := ?_) 6 [] hM rfl (by kernel_rfl) (by kernel_rfl) (by kernel_rfl) (by kernel_rfl) rfl (fun _ _ _ h => h) (Or.inl ⟨by rfl, ?_⟩) hS (fun hM => ?_)
     rotate_left
     ·intro W hSw
      (try dsimp only at hSw)
      go_simp
      try with_reducible rfl
     try simp only [Act.put, List.setIfInBounds_toArray, List.set_cons_zero, List.set_cons_succ]
     refine till_one 7 hM rfl (by kernel_rfl) (fun K hK => ?_)
     refine step_mapUpdateR rfl (.tmp 69) (.tmp 71) (.tmp 72) 96 rfl _ _ _ rfl rfl rfl HR ?_
     refine hK _ _ (fun h => absurd rfl h) (fun hM => ?_)
     clear hK K
     try simp only [Act.put, List.setIfInBounds_toArray, List.set_cons_zero, List.set_cons_succ]
     refine till_done (by kernel_rfl) ?_ _
     go_wp2_with fail
     obtain ⟨W5, hW5⟩ : ∃ W5, W5 = ((((w9.setCell ⟨w.heap.size + 1, 0, none⟩ (.int .i64 0)).setCell ⟨w.heap.size + 1, 1, none⟩ (.int .i64 0)).setCell ⟨w.heap.size + 1, 2, none⟩ (.string ⟨#[]⟩)).setCell ⟨w.heap.size + 1, 3, none⟩ (.bool false)) := ⟨_, rfl⟩
     rw [← hW5]
     obtain ⟨⟨v0, v1, v2, v3, -, -, -, -⟩, hR⟩ := HEND.out W5 hW5
     simp only at v0 v1 v2 v3
     clear hW5
     refine bodyPost_ret (by simp [results, Tryz.results41, go_sem, v0, v1, v2, v3]; try rfl) rfl ?_
     first
      | exact hR
      | (rw [HGM.out]; exact hR)
    | false =>
     rw [hhw] at HPW
     simp only [Bool.false_eq_true, if_false] at HPW
     have hr : Row w6 43 3 xa xn xc (wrFlat xws) := PM.row HP6.out
     have h3 := HP6.out.h3
     have t0 := (cell_of_heap (i := 0) (v := .string key) h3 rfl).1
     have t1 := (cell_of_heap (i := 1) (v := .string ⟨#[]⟩) h3 rfl).1
     have t2 := (cell_of_heap (i := 2) (v := .bool false) h3 rfl).1
     have hx10 := (cell_of_heap (i := 10) (v := .slice xa xn xc) HP6.out.h2 rfl).1
     have hlt : ∀ z ∈ blkOf xa, z < w6.heap.size := fun z hz => by
      obtain ⟨y, hy, rfl⟩ := mem_blkOf.1 hz
      exact hr.lt y hy
     have HI := Lib.hid ((insW_any xa xn xc (posW xws key) w6.heap.size (wrFlat xws) (wrCells ⟨key, ⟨#[]⟩, false⟩) (w6.alloc (.cells #[.string key, .string ⟨#[]⟩, .bool false] 43)) (hr.below (bel_new _ _)) (heap_new w6 _) rfl (fun h => by have := hlt _ h; omega) (wrFlat_one _) (wrCells_one _) (by omega) (by omega)).mono
      (R' := fun e W' => ∃ a' c', e = .returned (.slice a' (xn + 1) c') ∧ W'.cell? ⟨w1.heap.size, 10, none⟩ = some (.slice xa xn xc) ∧ W'.frozen? ⟨w1.heap.size, 10, none⟩ = false ∧
       PM w D w.heap.size (w.heap.size + 1) w1.heap.size w3.heap.size ⟨k, tx, att, stamp, op, key, value, mode, false⟩ ⟨key, ⟨#[]⟩, false⟩ ⟨xatt, ⟨xk, xtx, xat, xst, xop, xkey, xval, xmode, xyes⟩, a', xn + 1, c', (xws.take (posW xws key) ++ ⟨key, ⟨#[]⟩, false⟩ :: xws.drop (posW xws key))⟩ ⟨xatt, ⟨xk, xtx, xat, xst, xop, xkey, xval, xmode, xyes⟩, a', xn + 1, c', (xws.take (posW xws key) ++ ⟨key, ⟨#[]⟩, false⟩ :: xws.drop (posW xws key))⟩ tx ⟨xatt, ⟨xk, xtx, xat, xst, xop, xkey, xval, xmode, xyes⟩, xa, xn, xc, xws⟩ A B g pc pl ps bl bd S (W'.setCell ⟨w1.heap.size, 10, none⟩ (.slice a' (xn + 1) c'))) fun e W' ⟨a', c', he, hrow, ht, hf⟩ => by
       rw [wrFlat_ins] at hrow
       have q1 := PM.turn (PM.below HP6.out (bel_new w6 _)) hrow ht hf
       have q2 := q1.h2
       refine ⟨a', c', he, (cell_of_heap (i := 10) (v := .slice xa xn xc) q2 rfl).1, (cell_of_heap (i := 10) (v := .slice xa xn xc) q2 rfl).2, ?_⟩
       exact PM.setWs q1 a' (xn + 1) c' _)
     have hpn : posW xws key ≤ xn := by omega
     clear hr h3 hhw hxn hlt HP6
     generalize xws.take (posW xws key) ++ ⟨key, ⟨#[]⟩, false⟩ :: xws.drop (posW xws key) = ws2 at *
     generalize posW xws key = pw at *
     go_wp2_with fail
     refine HI.out.mono ?_
     rintro e w61 ⟨a', c', rfl, hcx, hfx, hq⟩
     have HQ := Lib.hid hq
     clear hq t0 t1 t2 hx10 HI
     go_upto_region 11 with (fail)
     obtain ⟨W7, hW7⟩ : ∃ W7, W7 = w61.setCell ⟨w1.heap.size, 10, none⟩ (.slice a' (xn + 1) c') := ⟨_, rfl⟩
     rw [← hW7] at HQ ⊢
     clear hW7 hcx hfx
     have hx := HQ.out.h2
     have hc := HQ.out.h0
     have hk0 := (cell_of_heap (i := 0) (v := .int .i64 k) hc rfl).1
     have hk1 := (cell_of_heap (i := 1) (v := .int .i64 tx) hc rfl).1
     have hk2 := (cell_of_heap (i := 2) (v := .int .i64 att) hc rfl).1
     have hk3 := (cell_of_heap (i := 3) (v := .int .i64 stamp) hc rfl).1
     have hk4 := (cell_of_heap (i := 4) (v := .int .i64 op) hc rfl).1
     have hk5 := (cell_of_heap (i := 5) (v := .string key) hc rfl).1
     have hk6 := (cell_of_heap (i := 6) (v := .string value) hc rfl).1
     have hk7 := (cell_of_heap (i := 7) (v := .int .i64 mode) hc rfl).1
     have hk8 := (cell_of_heap (i := 8) (v := .bool false) hc rfl).1
     have hx0 := (cell_of_heap (i := 0) (v := .int .i64 xatt) hx rfl).1
     have fx0 := (cell_of_heap (i := 0) (v := .int .i64 xatt) hx rfl).2
     have hx1 := (cell_of_heap (i := 1) (v := .int .i64 xk) hx rfl).1
     have fx1 := (cell_of_heap (i := 1) (v := .int .i64 xk) hx rfl).2
     have hx2 := (cell_of_heap (i := 2) (v := .int .i64 xtx) hx rfl).1
     have fx2 := (cell_of_heap (i := 2) (v := .int .i64 xtx) hx rfl).2
     have hx3 := (cell_of_heap (i := 3) (v := .int .i64 xat) hx rfl).1
     have fx3 := (cell_of_heap (i := 3) (v := .int .i64 xat) hx rfl).2
     have hx4 := (cell_of_heap (i := 4) (v := .int .i64 xst) hx rfl).1
     have fx4 := (cell_of_heap (i := 4) (v := .int .i64 xst) hx rfl).2
     have hx5 := (cell_of_heap (i := 5) (v := .int .i64 xop) hx rfl).1
     have fx5 := (cell_of_heap (i := 5) (v := .int .i64 xop) hx rfl).2
     have hx6 := (cell_of_heap (i := 6) (v := .string xkey) hx rfl).1
     have fx6 := (cell_of_heap (i := 6) (v := .string xkey) hx rfl).2
     have hx7 := (cell_of_heap (i := 7) (v := .string xval) hx rfl).1
     have fx7 := (cell_of_heap (i := 7) (v := .string xval) hx rfl).2
     have hx8 := (cell_of_heap (i := 8) (v := .int .i64 xmode) hx rfl).1
     have fx8 := (cell_of_heap (i := 8) (v := .int .i64 xmode) hx rfl).2
     have hx9 := (cell_of_heap (i := 9) (v := .bool xyes) hx rfl).1
     have fx9 := (cell_of_heap (i := 9) (v := .bool xyes) hx rfl).2
     have hx10 := (cell_of_heap (i := 10) (v := .slice a' (xn + 1) c') hx rfl).1
     have fx10 := (cell_of_heap (i := 10) (v := .slice a' (xn + 1) c') hx rfl).2
     have HL := Lib.hid (PM.setLast HQ.out)
     clear hx hc
     go_upto_region 12 with (fail)
     obtain ⟨W8, hW8⟩ : ∃ W8, W8 = (((((((((W7.setCell ⟨w1.heap.size, 1, none⟩ (.int .i64 k)).setCell ⟨w1.heap.size, 2, none⟩ (.int .i64 tx)).setCell ⟨w1.heap.size, 3, none⟩ (.int .i64 att)).setCell ⟨w1.heap.size, 4, none⟩ (.int .i64 stamp)).setCell ⟨w1.heap.size, 5, none⟩ (.int .i64 op)).setCell ⟨w1.heap.size, 6, none⟩ (.string key)).setCell ⟨w1.heap.size, 7, none⟩ (.string value)).setCell ⟨w1.heap.size, 8, none⟩ (.int .i64 mode)).setCell ⟨w1.heap.size, 9, none⟩ (.bool false)) := ⟨_, rfl⟩
     rw [← hW8] at HL ⊢
     clear hW8 hk0 hk1 hk2 hk3 hk4 hk5 hk6 hk7 hk8 hx0 fx0 hx1 fx1 hx2 fx2 hx3 fx3 hx4 fx4 hx5 fx5 hx6 fx6 hx7 fx7 hx8 fx8 hx9 fx9 hx10 fx10
     have hx := HL.out.h2
     have hc := HL.out.h0
     have hg5 := HL.out.hg
     have hk1 := (cell_of_heap (i := 1) (v := .int .i64 tx) hc rfl).1
     have hx0 := (cell_of_heap (i := 0) (v := .int .i64 xatt) hx rfl).1
     have hx1 := (cell_of_heap (i := 1) (v := .int .i64 k) hx rfl).1
     have hx2 := (cell_of_heap (i := 2) (v := .int .i64 tx) hx rfl).1
     have hx3 := (cell_of_heap (i := 3) (v := .int .i64 att) hx rfl).1
     have hx4 := (cell_of_heap (i := 4) (v := .int .i64 stamp) hx rfl).1
     have hx5 := (cell_of_heap (i := 5) (v := .int .i64 op) hx rfl).1
     have hx6 := (cell_of_heap (i := 6) (v := .string key) hx rfl).1
     have hx7 := (cell_of_heap (i := 7) (v := .string value) hx rfl).1
     have hx8 := (cell_of_heap (i := 8) (v := .int .i64 mode) hx rfl).1
     have hx9 := (cell_of_heap (i := 9) (v := .bool false) hx rfl).1
     have hx10 := (cell_of_heap (i := 10) (v := .slice a' (xn + 1) c') hx rfl).1
     obtain ⟨w9, HR, HN⟩ := PM.store (x := ⟨xatt, ⟨k, tx, att, stamp, op, key, value, mode, false⟩, a', (xn + 1), c', ws2⟩) (PM.below HL.out (bel_drew W8)) htx ⟨rfl, rfl, rfl, rfl⟩ HAB.out.1 HAB.out.2 (by have := HEA.out; rw [← this]; omega)
     have hS0 : W8.drew.cell? ⟨g, 5, none⟩ = some (.map (some bl)) ∧ W8.drew.cell? ⟨w.heap.size, 1, none⟩ = some (.int .i64 tx) ∧ W8.drew.cell? ⟨w1.heap.size, 0, none⟩ = some (.int .i64 xatt) ∧ W8.drew.cell? ⟨w1.heap.size, 1, none⟩ = some (.int .i64 k) ∧ W8.drew.cell? ⟨w1.heap.size, 2, none⟩ = some (.int .i64 tx) ∧ W8.drew.cell? ⟨w1.heap.size, 3, none⟩ = some (.int .i64 att) ∧ W8.drew.cell? ⟨w1.heap.size, 4, none⟩ = some (.int .i64 stamp) ∧ W8.drew.cell? ⟨w1.heap.size, 5, none⟩ = some (.int .i64 op) ∧ W8.drew.cell? ⟨w1.heap.size, 6, none⟩ = some (.string key) ∧ W8.drew.cell? ⟨w1.heap.size, 7, none⟩ = some (.string value) ∧ W8.drew.cell? ⟨w1.heap.size, 8, none⟩ = some (.int .i64 mode) ∧ W8.drew.cell? ⟨w1.heap.size, 9, none⟩ = some (.bool false) ∧ W8.drew.cell? ⟨w1.heap.size, 10, none⟩ = some (.slice a' (xn + 1) c') := ⟨hg5, hk1, hx0, hx1, hx2, hx3, hx4, hx5, hx6, hx7, hx8, hx9, hx10⟩
     clear hx hc hg5 hk1 hx0 hx1 hx2 hx3 hx4 hx5 hx6 hx7 hx8 hx9 hx10
     have HEND := Lib.hid (XM.fin (q := (⟨0, 0, ⟨#[]⟩, false⟩ : Rp)) (S' := putS S ⟨k, tx, att, stamp, op, key, value, mode, false⟩) HN (by rw [lvE_put, ← HEA.out, HE.out]; unfold putS; simp only [HLM.out, Le.lv]; rw [HPW.out]) rfl)
     obtain ⟨c0, c1, c2, c3, f0, f1, f2, f3⟩ := HN.rat
     simp only [zeroR] at c0 c1 c2 c3
     clear HN
     refine wp_region_till (fun W => W.cell? ⟨g, 5, none⟩ = some (.map (some bl)) ∧ W.cell? ⟨w.heap.size, 1, none⟩ = some (.int .i64 tx) ∧ W.cell? ⟨w1.heap.size, 0, none⟩ = some (.int .i64 xatt) ∧ W.cell? ⟨w1.heap.size, 1, none⟩ = some (.int .i64 k) ∧ W.cell? ⟨w1.heap.size, 2, none⟩ = some (.int .i64 tx) ∧ W.cell? ⟨w1.heap.size, 3, none⟩ = some (.int .i64 att) ∧ W.cell? ⟨w1.heap.size, 4, none⟩ = some (.int .i64 stamp) ∧ W.cell? ⟨w1.heap.size, 5, none⟩ = some (.int .i64 op) ∧ W.cell? ⟨w1.heap.size, 6, none⟩ = some (.string key) ∧ W.cell? ⟨w1.heap.size, 7, none⟩ = some (.string value) ∧ W.cell? ⟨w1.heap.size, 8, none⟩ = some (.int .i64 mode) ∧ W.cell? ⟨w1.heap.size, 9, none⟩ = some (.bool false) ∧ W.cell? ⟨w1.heap.size, 10, none⟩ = some (.slice a' (xn + 1) c')) 7 (by kernel_rfl) (hS0) (fun hM hS => ?_)
     refine till_op (v := ?_) 0 [1, 2, 3] hM rfl (by kernel_rfl) (by kernel_rfl) (by kernel_rfl) (by kernel_rfl) rfl (fun _ _ _ h => h) (Or.inl ⟨by rfl, ?_⟩) hS (fun hM => ?_)
     rotate_left
     ·intro W hSw
      (try dsimp only at hSw)
      go_simp
      try with_reducible rfl
     try simp only [Act.put, List.setIfInBounds_toArray, List.set_cons_zero, List.set_cons_succ]
     refine till_op (v := ?_) 1 [2, 3] hM rfl (by kernel_rfl) (by kernel_rfl) (by kernel_rfl) (by kernel_rfl) rfl (fun _ _ _ h => h) (Or.inl ⟨by rfl, ?_⟩) hS (fun hM => ?_)
     rotate_left
     ·intro W hSw
      (try dsimp only at hSw)
      go_simp
      try with_reducible rfl
     try simp only [Act.put, List.setIfInBounds_toArray, List.set_cons_zero, List.set_cons_succ]
     refine till_op (v := ?_) 2 [3] hM rfl (by kernel_rfl) (by kernel_rfl) (by kernel_rfl) (by kernel_rfl) rfl (fun _ _ _ h => h) (Or.inl ⟨by rfl, ?_⟩) hS (fun hM => ?_)
     rotate_left
     ·intro W hSw
      (try dsimp only at hSw)
      go_simp
      try with_reducible rfl
     try simp only [Act.put, List.setIfInBounds_toArray, List.set_cons_zero, List.set_cons_succ]
     refine till_op (v := ?_) 3 [] hM rfl (by kernel_rfl) (by kernel_rfl) (by kernel_rfl) (by kernel_rfl) rfl (fun _ _ _ h => h) (Or.inl ⟨by rfl, ?_⟩) hS (fun hM => ?_)
     rotate_left
     ·intro W hSw
      (try dsimp only at hSw)
      go_simp
      try with_reducible rfl
     try simp only [Act.put, List.setIfInBounds_toArray, List.set_cons_zero, List.set_cons_succ]
     refine till_op (v := ?_) 4 [5] hM rfl (by kernel_rfl) (by kernel_rfl) (by kernel_rfl) (by kernel_rfl) rfl (fun _ _ _ h => h) (Or.inl ⟨by rfl, ?_⟩) hS (fun hM => ?_)
     rotate_left
     ·intro W hSw
      (try dsimp only at hSw)
      go_simp
      try with_reducible rfl
     try simp only [Act.put, List.setIfInBounds_toArray, List.set_cons_zero, List.set_cons_succ]
     refine till_op (v := ?_) 5 [] hM rfl (by kernel_rfl) (by kernel_rfl) (by kernel_rfl) (by kernel_rfl) rfl (fun _ _ _ h => h) (Or.inl ⟨by rfl, ?_⟩) hS (fun hM => ?_)
     rotate_left
     ·intro W hSw
      (try dsimp only at hSw)
      go_simp
      try with_reducible rfl
     try simp only [Act.put, List.setIfInBounds_toArray, List.set_cons_zero, List.set_cons_succ]
     refine till_op (v := ?_) 6 [] hM rfl (by kernel_rfl) (by kernel_rfl) (by kernel_rfl) (by kernel_rfl) rfl (fun _ _ _ h => h) (Or.inl ⟨by rfl, ?_⟩) hS (fun hM => ?_)
     rotate_left
     ·intro W hSw
      (try dsimp only at hSw)
      go_simp
      try with_reducible rfl
     try simp only [Act.put, List.setIfInBounds_toArray, List.set_cons_zero, List.set_cons_succ]
     refine till_one 7 hM rfl (by kernel_rfl) (fun K hK => ?_)
     refine step_mapUpdateR rfl (.tmp 69) (.tmp 71) (.tmp 72) 96 rfl _ _ _ rfl rfl rfl HR ?_
     refine hK _ _ (fun h => absurd rfl h) (fun hM => ?_)
     clear hK K
     try simp only [Act.put, List.setIfInBounds_toArray, List.set_cons_zero, List.set_cons_succ]
     refine till_done (by kernel_rfl) ?_ _
     go_wp2_with fail
     obtain ⟨W5, hW5⟩ : ∃ W5, W5 = ((((w9.setCell ⟨w.heap.size + 1, 0, none⟩ (.int .i64 0)).setCell ⟨w.heap.size + 1, 1, none⟩ (.int .i64 0)).setCell ⟨w.heap.size + 1, 2, none⟩ (.string ⟨#[]⟩)).setCell ⟨w.heap.size + 1, 3, none⟩ (.bool false)) := ⟨_, rfl⟩
     rw [← hW5]
     obtain ⟨⟨v0, v1, v2, v3, -, -, -, -⟩, hR⟩ := HEND.out W5 hW5
     simp only at v0 v1 v2 v3
     clear hW5
     refine bodyPost_ret (by simp [results, Tryz.results41, go_sem, v0, v1, v2, v3]; try rfl) rfl ?_
     first
      | exact hR
      | (rw [HGM.out]; exact hR)
end Go.Proofs.YtmifgnibalbgjaaGreat
