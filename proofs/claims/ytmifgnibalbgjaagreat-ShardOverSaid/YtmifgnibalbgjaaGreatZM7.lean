/- A reading. -/
import Derived.Test.YtmifgnibalbgjaaGreatZM5
namespace Go.Proofs.YtmifgnibalbgjaaGreat
open Go.RowKit set_option linter.unusedVariables false set_option linter.unusedSimpArgs false
def getS (S : Sh) (c : Cm) : Sh := { S with lives := kPut ltZ c.tx ⟨(liveM S c.tx).att, c, (liveM S c.tx).ws⟩ S.lives }
def getM (S : Sh) (c : Cm) : Rp × Sh :=
 if livesM S c.tx = false ∨ ofH (lineL S.locks c.key).hs c.tx = 0 then (codeR 8, S)
 else if hasW (liveM S c.tx).ws c.key then (⟨0, 0, (wrW (liveM S c.tx).ws c.key).v, (wrW (liveM S c.tx).ws c.key).h⟩, getS S c)
 else (⟨0, 0, (valM (versM S.cells c.key) 1099511627776).1, (valM (versM S.cells c.key) 1099511627776).2⟩, getS S c)
/-- the end of a command: the reply is stored, and told. -/
theorem XM.fin {w W : World} {D : List Nat} {b0 b1 b2 : Nat} {c : Cm} {r q : Rp} {x : Le} {g pc pl ps bl bd : Nat} {E : List (Int × Le)} {S S' : Sh} (h : XM w D b0 b1 b2 c r x (shT g pc pl ps bl bd E S) W) (e : lvE E = S'.lives) (hS : shT g pc pl ps bl bd E S = shT g pc pl ps bl bd E S') :
  ∀ W5, W5 = ((((W.setCell ⟨b1, 0, none⟩ (.int .i64 q.code)).setCell ⟨b1, 1, none⟩ (.int .i64 q.state)).setCell ⟨b1, 2, none⟩ (.string q.v)).setCell ⟨b1, 3, none⟩ (.bool q.h)) → RAt W5 b1 q ∧ CmPost w D g (q, S') (.returned q.val) W5 := by
 intro W5 hW5
 have h2 := XM.setR h q
 subst hW5
 refine ⟨h2.rat, rfl, ?_⟩
 have h3 := XM.rest h2
 rw [hS] at h3
 exact Mem.shShut S' e h3
theorem XM.finD {w W : World} {D : List Nat} {b0 b1 b2 : Nat} {c : Cm} {r q : Rp} {x : Le} {g pc pl ps bl bd : Nat} {E : List (Int × Le)} {S S' : Sh} (h : XM w D b0 b1 b2 c r x (shT g pc pl ps bl bd E S) W) (e : lvE E = S'.lives) (hS : shT g pc pl ps bl bd E S = shT g pc pl ps bl bd E S') :
  ∀ W5, W5 = ((((W.setCell ⟨b1, 0, none⟩ (.int .i64 q.code)).setCell ⟨b1, 1, none⟩ (.int .i64 q.state)).setCell ⟨b1, 2, none⟩ (.string q.v)).setCell ⟨b1, 3, none⟩ (.bool q.h)).drew → RAt W5 b1 q ∧ CmPost w D g (q, S') (.returned q.val) W5 := by
 intro W5 hW5
 obtain ⟨V, hV⟩ : ∃ V, V = (((W.setCell ⟨b1, 0, none⟩ (.int .i64 q.code)).setCell ⟨b1, 1, none⟩ (.int .i64 q.state)).setCell ⟨b1, 2, none⟩ (.string q.v)).setCell ⟨b1, 3, none⟩ (.bool q.h) := ⟨_, rfl⟩
 obtain ⟨hr, e1, m⟩ := XM.fin (q := q) h e hS V hV
 rw [← hV] at hW5
 subst hW5
 exact ⟨⟨hr.c0, hr.c1, hr.c2, hr.c3, hr.f0, hr.f1, hr.f2, hr.f3⟩, e1, Mem.below m (bel_drew _)⟩
set_option maxRecDepth 100000 in
set_option maxHeartbeats 16000000 in
theorem get_any (g : Nat) (S : Sh) (c : Cm) (w : World) {D : List Nat} (h : ShA g S w D) (htx : i64 c.tx) (hkey : c.key.size ≤ maxLen) (hn : S.lives.length ≤ 1000) (ok : LOk S.locks) (hb : Sm 400 S.locks) (hC : COk 1000 S.cells) (hW : ∀ x, kGet c.tx S.lives = some x → SortW x.ws ∧ x.ws.length ≤ 1000) :
  Calls Tryz.prog 40 #[.pointer (some ⟨g, 0, none⟩), c.val] w (CmPost w D g (getM S c)) := by
 obtain ⟨pc, pl, ps, bl, bd, E, e, M⟩ := Mem.shOpen (Mem.start h)
 have HA := Lib.hid fun W (hb : Below w.heap.size w W) => Mem.shAt (M.below hb) htx
 have HX0 := Lib.hid (XM.begin (c := c) (x := (kGet c.tx E).getD ⟨0, zeroC, none, 0, 0, []⟩) (L := shT g pc pl ps bl bd E S) M)
 obtain ⟨k, tx, att, stamp, op, key, value, mode, yes⟩ := c
 try simp only at HA
 try simp only at htx
 try simp only at HX0
 try simp only
 have hb1 := bel_one (bel_new w (.cells #[.int .i64 k, .int .i64 tx, .int .i64 att, .int .i64 stamp, .int .i64 op, .string key, .string value, .int .i64 mode, .bool yes] 28)) (.cells #[.int .i64 0, .int .i64 0, .string ⟨#[]⟩, .bool false] 35)
 have hcs := hp_old (w.alloc (.cells #[.int .i64 k, .int .i64 tx, .int .i64 att, .int .i64 stamp, .int .i64 op, .string key, .string value, .int .i64 mode, .bool yes] 28)) (.cells #[.int .i64 0, .int .i64 0, .string ⟨#[]⟩, .bool false] 35) _ w.heap.size (by simp) (heap_new w (.cells #[.int .i64 k, .int .i64 tx, .int .i64 att, .int .i64 stamp, .int .i64 op, .string key, .string value, .int .i64 mode, .bool yes] 28))
 obtain ⟨w1, hw1⟩ : ∃ w1, w1 = (w.alloc (.cells #[.int .i64 k, .int .i64 tx, .int .i64 att, .int .i64 stamp, .int .i64 op, .string key, .string value, .int .i64 mode, .bool yes] 28)).alloc (.cells #[.int .i64 0, .int .i64 0, .string ⟨#[]⟩, .bool false] 35) := ⟨_, rfl⟩
 have hsz : w1.heap.size = w.heap.size + 2 := by rw [hw1]; simp
 rw [← hw1] at hb1 hcs
 have hc5 := (HA.out _ hb1).c5
 have hc5a := fun o => (HA.out _ (bel_one hb1 o)).c5
 have htx0 := (cell_of_heap (i := 1) (v := .int .i64 tx) hcs rfl).1
 have htxa := fun o => ((bel_new w1 o).cell (World.block_lt_of_cell? w1 _ htx0)).trans htx0
 have hl0 := (HA.out _ (hb1.drew)).lives
 have hl1 := fun o => (HA.out _ ((bel_one hb1 o).drew)).lives
 have HX1 : Hid (XM w D w.heap.size (w.heap.size + 1) w1.heap.size ⟨k, tx, att, stamp, op, key, value, mode, yes⟩ zeroR ((kGet tx E).getD ⟨0, zeroC, none, 0, 0, []⟩) (shT g pc pl ps bl bd E S) (w1.alloc (.cells (Le.arr ((kGet tx E).getD ⟨0, zeroC, none, 0, 0, []⟩)) 108)).drew) := Lib.hid (by
  have h1 := HX0.out
  rw [show ((w.alloc (.cells (Cm.arr ⟨k, tx, att, stamp, op, key, value, mode, yes⟩) 28)).alloc (.cells zeroR.arr 35)) = w1 from hw1.symm] at h1
  rw [hsz]
  exact XM.below h1 (bel_drew _))
 have HSZ := Lib.hid hsz
 have hne1 : ¬ w.heap.size = w1.heap.size := by omega
 have hne2 : ¬ w1.heap.size = w.heap.size := by omega
 clear HX0 M hb1 hcs hsz
 have HOK := Lib.hid ok
 have HSM := Lib.hid hb
 have HE := Lib.hid e
 have HWS := Lib.hid hW
 have HCO := Lib.hid hC
 have hEl : E.length ≤ 1000 := by have := congrArg List.length e; simp [lvE] at this; omega
 obtain ⟨e1, e2⟩ := livesM_E e tx
 have HE1 := Lib.hid e1
 have HE2 := Lib.hid e2
 clear h e ok hb hn e1 e2 hW hC
 generalize hXX : (kGet tx E).getD ⟨0, zeroC, none, 0, 0, []⟩ = X at *
 have HXX := Lib.hid hXX
 clear hXX
 obtain ⟨xatt, ⟨xk, xtx, xat, xst, xop, xkey, xval, xmode, xyes⟩, xa, xn, xc, xws⟩ := X
 try simp only at hl0
 try simp only at hl1
 try simp only at HX1
 cases hbb : (kGet tx E).isSome with
 | false =>
  simp only [hbb] at hl0 hl1
  have HGM : Hid (getM S ⟨k, tx, att, stamp, op, key, value, mode, yes⟩ = (codeR 8, S)) := Lib.hid (by unfold getM; rw [if_pos (Or.inl (by simp only [HE1.out, hbb]))])
  rw [HGM.out]
  go_enter Tryz.func40, Tryz.ntmps40
  go_wp2_with fail
  rw [← hw1]
  clear hw1
  go_region
  obtain ⟨W2, hW2⟩ : ∃ W2, W2 = (w1.alloc (.cells #[.int .i64 xatt, .int .i64 xk, .int .i64 xtx, .int .i64 xat, .int .i64 xst, .int .i64 xop, .string xkey, .string xval, .int .i64 xmode, .bool xyes, .slice xa xn xc] 108)).drew := ⟨_, rfl⟩
  rw [← hW2] at HX1 ⊢
  clear hW2 hc5 hc5a htx0 htxa hl0 hl1
  have hA := Mem.shAt (XM.rest HX1.out) htx
  have hc := HX1.out.hc
  have hS0 : W2.drew.cell? ⟨g, 3, none⟩ = some (.pointer (some ⟨pl, 0, none⟩)) ∧ W2.drew.cell? ⟨w.heap.size, 1, none⟩ = some (.int .i64 tx) ∧ W2.drew.cell? ⟨w.heap.size, 5, none⟩ = some (.string key) := ⟨hA.c3, (cell_of_heap hc rfl).1, (cell_of_heap hc rfl).1⟩
  obtain ⟨W3, hW3⟩ : ∃ W3, W3 = W2.drew := ⟨_, rfl⟩
  have HX3 := XM.below HX1.out (bel_drew W2)
  rw [← hW3] at HX3
  have HEND := Lib.hid (XM.fin (q := (⟨8, 0, ⟨#[]⟩, false⟩ : Rp)) (S' := S) HX3 HE.out rfl)
  have HRT := HX3.rat
  obtain ⟨c0, c1, c2, c3, f0, f1, f2, f3⟩ := HRT
  simp only [zeroR] at c0 c1 c2 c3
  have HW3 := Lib.hid hW3
  clear hA hc hW3 HX3
  go_wp2_with fail
  refine wp_region_till (fun W => W.cell? ⟨g, 3, none⟩ = some (.pointer (some ⟨pl, 0, none⟩)) ∧ W.cell? ⟨w.heap.size, 1, none⟩ = some (.int .i64 tx) ∧ W.cell? ⟨w.heap.size, 5, none⟩ = some (.string key)) 13 (by kernel_rfl) (hS0) (fun hM hS => ?_)
  refine till_op (v := ?_) 0 [1, 2] hM rfl (by kernel_rfl) (by kernel_rfl) (by kernel_rfl) (by kernel_rfl) rfl (fun _ _ _ h => h) (Or.inl ⟨by rfl, ?_⟩) hS (fun hM => ?_)
  rotate_left
  ·intro W hSw
   (try dsimp only at hSw)
   go_simp
   try with_reducible rfl
  try simp only [Act.put, List.setIfInBounds_toArray, List.set_cons_zero, List.set_cons_succ]
  refine till_op (v := ?_) 1 [2] hM rfl (by kernel_rfl) (by kernel_rfl) (by kernel_rfl) (by kernel_rfl) rfl (fun _ _ _ h => h) (Or.inl ⟨by rfl, ?_⟩) hS (fun hM => ?_)
  rotate_left
  ·intro W hSw
   (try dsimp only at hSw)
   go_simp
   try with_reducible rfl
  try simp only [Act.put, List.setIfInBounds_toArray, List.set_cons_zero, List.set_cons_succ]
  refine till_op (v := ?_) 2 [] hM rfl (by kernel_rfl) (by kernel_rfl) (by kernel_rfl) (by kernel_rfl) rfl (fun _ _ _ h => h) (Or.inl ⟨by rfl, ?_⟩) hS (fun hM => ?_)
  rotate_left
  ·intro W hSw
   (try dsimp only at hSw)
   go_simp
   try with_reducible rfl
  try simp only [Act.put, List.setIfInBounds_toArray, List.set_cons_zero, List.set_cons_succ]
  refine till_op (v := undef) 3 [4, 5, 6, 11, 12] hM rfl (by kernel_rfl) (by kernel_rfl) (by kernel_rfl) (by kernel_rfl) rfl (fun _ _ _ h => h) (Or.inr ⟨by rfl, rfl⟩) hS (fun hM => ?_)
  try simp only [Act.put, List.setIfInBounds_toArray, List.set_cons_zero, List.set_cons_succ]
  refine till_op (v := undef) 4 [5, 6, 11, 12] hM rfl (by kernel_rfl) (by kernel_rfl) (by kernel_rfl) (by kernel_rfl) rfl (fun _ _ _ h => h) (Or.inr ⟨by rfl, rfl⟩) hS (fun hM => ?_)
  try simp only [Act.put, List.setIfInBounds_toArray, List.set_cons_zero, List.set_cons_succ]
  refine till_op (v := undef) 5 [6, 11, 12] hM rfl (by kernel_rfl) (by kernel_rfl) (by kernel_rfl) (by kernel_rfl) rfl (fun _ _ _ h => h) (Or.inr ⟨by rfl, rfl⟩) hS (fun hM => ?_)
  try simp only [Act.put, List.setIfInBounds_toArray, List.set_cons_zero, List.set_cons_succ]
  refine till_op (v := undef) 6 [11, 12] hM rfl (by kernel_rfl) (by kernel_rfl) (by kernel_rfl) (by kernel_rfl) rfl (fun _ _ _ h => h) (Or.inr ⟨by rfl, rfl⟩) hS (fun hM => ?_)
  try simp only [Act.put, List.setIfInBounds_toArray, List.set_cons_zero, List.set_cons_succ]
  refine till_op (v := undef) 7 [8, 11, 12] hM rfl (by kernel_rfl) (by kernel_rfl) (by kernel_rfl) (by kernel_rfl) rfl (fun _ _ _ h => h) (Or.inr ⟨by rfl, rfl⟩) hS (fun hM => ?_)
  try simp only [Act.put, List.setIfInBounds_toArray, List.set_cons_zero, List.set_cons_succ]
  refine till_op (v := undef) 8 [11, 12] hM rfl (by kernel_rfl) (by kernel_rfl) (by kernel_rfl) (by kernel_rfl) rfl (fun _ _ _ h => h) (Or.inr ⟨by rfl, rfl⟩) hS (fun hM => ?_)
  try simp only [Act.put, List.setIfInBounds_toArray, List.set_cons_zero, List.set_cons_succ]
  refine till_op (v := undef) 9 [10, 11, 12] hM rfl (by kernel_rfl) (by kernel_rfl) (by kernel_rfl) (by kernel_rfl) rfl (fun _ _ _ h => h) (Or.inr ⟨by rfl, rfl⟩) hS (fun hM => ?_)
  try simp only [Act.put, List.setIfInBounds_toArray, List.set_cons_zero, List.set_cons_succ]
  refine till_op (v := undef) 10 [11, 12] hM rfl (by kernel_rfl) (by kernel_rfl) (by kernel_rfl) (by kernel_rfl) rfl (fun _ _ _ h => h) (Or.inr ⟨by rfl, rfl⟩) hS (fun hM => ?_)
  try simp only [Act.put, List.setIfInBounds_toArray, List.set_cons_zero, List.set_cons_succ]
  refine till_op (v := undef) 11 [12] hM rfl (by kernel_rfl) (by kernel_rfl) (by kernel_rfl) (by kernel_rfl) rfl (fun _ _ _ h => h) (Or.inr ⟨by rfl, rfl⟩) hS (fun hM => ?_)
  try simp only [Act.put, List.setIfInBounds_toArray, List.set_cons_zero, List.set_cons_succ]
  refine till_op (v := undef) 12 [] hM rfl (by kernel_rfl) (by kernel_rfl) (by kernel_rfl) (by kernel_rfl) rfl (fun _ _ _ h => h) (Or.inr ⟨by rfl, rfl⟩) hS (fun hM => ?_)
  try simp only [Act.put, List.setIfInBounds_toArray, List.set_cons_zero, List.set_cons_succ]
  refine till_one 13 hM rfl (by kernel_rfl) (fun K hK => ?_)
  go_simp
  refine hK _ _ (fun h => absurd rfl h) (fun hM => ?_)
  clear hK K
  try simp only [Act.put, List.setIfInBounds_toArray, List.set_cons_zero, List.set_cons_succ]
  refine till_done (by kernel_rfl) ?_ _
  rw [← HW3.out]
  go_wp2_with fail
  obtain ⟨W5, hW5⟩ : ∃ W5, W5 = ((((W3.setCell ⟨w.heap.size + 1, 0, none⟩ (.int .i64 8)).setCell ⟨w.heap.size + 1, 1, none⟩ (.int .i64 0)).setCell ⟨w.heap.size + 1, 2, none⟩ (.string ⟨#[]⟩)).setCell ⟨w.heap.size + 1, 3, none⟩ (.bool false)) := ⟨_, rfl⟩
  rw [← hW5]
  obtain ⟨⟨v0, v1, v2, v3, -, -, -, -⟩, hR⟩ := HEND.out W5 hW5
  simp only at v0 v1 v2 v3
  clear hW5
  refine bodyPost_ret (by simp [results, Tryz.results40, go_sem, v0, v1, v2, v3]; try rfl) rfl ?_
  first
   | exact hR
   | (rw [HGM.out]; exact hR)
 | true =>
  simp only [hbb] at hl0 hl1
  obtain ⟨x0, hx0⟩ := Option.isSome_iff_exists.1 hbb
  have hx1 : x0 = ⟨xatt, ⟨xk, xtx, xat, xst, xop, xkey, xval, xmode, xyes⟩, xa, xn, xc, xws⟩ := by have := HXX.out; rw [hx0] at this; exact this
  rw [hx1] at hx0
  have HGE := Lib.hid hx0
  have hws : SortW xws ∧ xws.length ≤ 1000 := HWS.out (Le.lv ⟨xatt, ⟨xk, xtx, xat, xst, xop, xkey, xval, xmode, xyes⟩, xa, xn, xc, xws⟩) (by rw [← HE.out, lvE_get, hx0]; rfl)
  have HWX := Lib.hid hws
  have hLM : liveM S tx = Le.lv ⟨xatt, ⟨xk, xtx, xat, xst, xop, xkey, xval, xmode, xyes⟩, xa, xn, xc, xws⟩ := HE2.out
  have hvv : livesM S tx = true := by rw [HE1.out]; exact hbb
  have HLM := Lib.hid hLM
  have HVV := Lib.hid hvv
  clear hx0 hx1 hws hLM hvv hbb x0
  go_enter Tryz.func40, Tryz.ntmps40
  go_wp2_with fail
  rw [← hw1]
  clear hw1
  go_region
  obtain ⟨W2, hW2⟩ : ∃ W2, W2 = (w1.alloc (.cells #[.int .i64 xatt, .int .i64 xk, .int .i64 xtx, .int .i64 xat, .int .i64 xst, .int .i64 xop, .string xkey, .string xval, .int .i64 xmode, .bool xyes, .slice xa xn xc] 108)).drew := ⟨_, rfl⟩
  rw [← hW2] at HX1 ⊢
  clear hW2 hc5 hc5a htx0 htxa hl0 hl1
  have hS3g : ∀ W, Below W2.drew.heap.size W2.drew W → W.cell? ⟨g, 3, none⟩ = some (.pointer (some ⟨pl, 0, none⟩)) ∧ W.cell? ⟨w.heap.size, 1, none⟩ = some (.int .i64 tx) ∧ W.cell? ⟨w.heap.size, 5, none⟩ = some (.string key) := fun W hb => by
   have h1 := XM.below (XM.below HX1.out (bel_drew W2)) hb
   have hc := h1.hc
   exact ⟨(Mem.shAt (XM.rest h1) htx).c3, (cell_of_heap hc rfl).1, (cell_of_heap hc rfl).1⟩
  have HS3 := Lib.hid hS3g
  have hS0 := hS3g W2.drew (Below.refl _ _)
  have HHO := Lib.hid (tab_at (XM.tab (XM.below HX1.out (bel_drew W2))) HOK.out HSM.out tx key)
  have HX2 := Lib.hid fun W (hb : Below W2.drew.heap.size W2.drew W) => XM.below (XM.below HX1.out (bel_drew W2)) hb
  clear hS3g HX1
  generalize hoh : ofH (lineL S.locks key).hs tx = oh at *
  by_cases hz : oh = 0
  ·subst hz
   have HGM : Hid (getM S ⟨k, tx, att, stamp, op, key, value, mode, yes⟩ = (codeR 8, S)) := Lib.hid (by unfold getM; rw [if_pos (Or.inr hoh)])
   clear hoh
   go_wp2_with fail
   refine wp_region_till (fun W => W.cell? ⟨g, 3, none⟩ = some (.pointer (some ⟨pl, 0, none⟩)) ∧ W.cell? ⟨w.heap.size, 1, none⟩ = some (.int .i64 tx) ∧ W.cell? ⟨w.heap.size, 5, none⟩ = some (.string key)) 13 (by kernel_rfl) (hS0) (fun hM hS => ?_)
   refine till_op (v := ?_) 0 [1, 2] hM rfl (by kernel_rfl) (by kernel_rfl) (by kernel_rfl) (by kernel_rfl) rfl (fun _ _ _ h => h) (Or.inl ⟨by rfl, ?_⟩) hS (fun hM => ?_)
   rotate_left
   ·intro W hSw
    (try dsimp only at hSw)
    go_simp
    try with_reducible rfl
   try simp only [Act.put, List.setIfInBounds_toArray, List.set_cons_zero, List.set_cons_succ]
   refine till_op (v := ?_) 1 [2] hM rfl (by kernel_rfl) (by kernel_rfl) (by kernel_rfl) (by kernel_rfl) rfl (fun _ _ _ h => h) (Or.inl ⟨by rfl, ?_⟩) hS (fun hM => ?_)
   rotate_left
   ·intro W hSw
    (try dsimp only at hSw)
    go_simp
    try with_reducible rfl
   try simp only [Act.put, List.setIfInBounds_toArray, List.set_cons_zero, List.set_cons_succ]
   refine till_op (v := ?_) 2 [] hM rfl (by kernel_rfl) (by kernel_rfl) (by kernel_rfl) (by kernel_rfl) rfl (fun _ _ _ h => h) (Or.inl ⟨by rfl, ?_⟩) hS (fun hM => ?_)
   rotate_left
   ·intro W hSw
    (try dsimp only at hSw)
    go_simp
    try with_reducible rfl
   try simp only [Act.put, List.setIfInBounds_toArray, List.set_cons_zero, List.set_cons_succ]
   refine till_op (v := ?_) 3 [4, 5, 6, 11, 12] hM rfl (by kernel_rfl) (by kernel_rfl) (by kernel_rfl) (by kernel_rfl) rfl (fun _ _ _ h => h) (Or.inl ⟨by rfl, ?_⟩) hS (fun hM => ?_)
   rotate_left
   ·intro W hSw
    (try dsimp only at hSw)
    go_simp
    try with_reducible rfl
   try simp only [Act.put, List.setIfInBounds_toArray, List.set_cons_zero, List.set_cons_succ]
   refine till_op (v := ?_) 4 [5, 6, 11, 12] hM rfl (by kernel_rfl) (by kernel_rfl) (by kernel_rfl) (by kernel_rfl) rfl (fun _ _ _ h => h) (Or.inl ⟨by rfl, ?_⟩) hS (fun hM => ?_)
   rotate_left
   ·intro W hSw
    (try dsimp only at hSw)
    go_simp
    try with_reducible rfl
   try simp only [Act.put, List.setIfInBounds_toArray, List.set_cons_zero, List.set_cons_succ]
   refine till_op (v := ?_) 5 [6, 11, 12] hM rfl (by kernel_rfl) (by kernel_rfl) (by kernel_rfl) (by kernel_rfl) rfl (fun _ _ _ h => h) (Or.inl ⟨by rfl, ?_⟩) hS (fun hM => ?_)
   rotate_left
   ·intro W hSw
    (try dsimp only at hSw)
    go_simp
    try with_reducible rfl
   try simp only [Act.put, List.setIfInBounds_toArray, List.set_cons_zero, List.set_cons_succ]
   refine till_op (v := ?_) 6 [11, 12] hM rfl (by kernel_rfl) (by kernel_rfl) (by kernel_rfl) (by kernel_rfl) rfl (fun _ _ _ h => h) (Or.inl ⟨by rfl, ?_⟩) hS (fun hM => ?_)
   rotate_left
   ·intro W hSw
    (try dsimp only at hSw)
    go_simp
    try with_reducible rfl
   try simp only [Act.put, List.setIfInBounds_toArray, List.set_cons_zero, List.set_cons_succ]
   refine till_op (v := ?_) 7 [8, 11, 12] hM rfl (by kernel_rfl) (by kernel_rfl) (by kernel_rfl) (by kernel_rfl) rfl (fun _ _ _ h => h) (Or.inl ⟨by rfl, ?_⟩) hS (fun hM => ?_)
   rotate_left
   ·intro W hSw
    (try dsimp only at hSw)
    go_simp
    try with_reducible rfl
   try simp only [Act.put, List.setIfInBounds_toArray, List.set_cons_zero, List.set_cons_succ]
   refine till_op (v := ?_) 8 [11, 12] hM rfl (by kernel_rfl) (by kernel_rfl) (by kernel_rfl) (by kernel_rfl) rfl (fun _ _ _ h => h) (Or.inl ⟨by rfl, ?_⟩) hS (fun hM => ?_)
   rotate_left
   ·intro W hSw
    (try dsimp only at hSw)
    go_simp
    try with_reducible rfl
   try simp only [Act.put, List.setIfInBounds_toArray, List.set_cons_zero, List.set_cons_succ]
   refine till_op (v := ?_) 9 [10, 11, 12] hM rfl (by kernel_rfl) (by kernel_rfl) (by kernel_rfl) (by kernel_rfl) rfl (fun _ _ _ h => h) (Or.inl ⟨by rfl, ?_⟩) hS (fun hM => ?_)
   rotate_left
   ·intro W hSw
    (try dsimp only at hSw)
    go_simp
    try with_reducible rfl
   try simp only [Act.put, List.setIfInBounds_toArray, List.set_cons_zero, List.set_cons_succ]
   refine till_op (v := ?_) 10 [11, 12] hM rfl (by kernel_rfl) (by kernel_rfl) (by kernel_rfl) (by kernel_rfl) rfl (fun _ _ _ h => h) (Or.inl ⟨by rfl, ?_⟩) hS (fun hM => ?_)
   rotate_left
   ·intro W hSw
    (try dsimp only at hSw)
    go_simp
    try with_reducible rfl
   try simp only [Act.put, List.setIfInBounds_toArray, List.set_cons_zero, List.set_cons_succ]
   refine till_one 11 hM rfl (by kernel_rfl) (fun K hK => ?_)
   go_simp
   go_at_call 89
   refine HHO.out.mono ?_
   rintro e w3 ⟨rfl, hb3⟩
   have hS3 := HS3.out _ hb3
   refine hK _ _ (fun _ => hS3) (fun hM => ?_)
   have hS := hS3
   clear hK K
   try simp only [Act.put, List.setIfInBounds_toArray, List.set_cons_zero, List.set_cons_succ]
   refine till_one 12 hM rfl (by kernel_rfl) (fun K hK => ?_)
   go_simp
   refine hK _ _ (fun _ => hS3) (fun hM => ?_)
   have hS := hS3
   clear hK K
   try simp only [Act.put, List.setIfInBounds_toArray, List.set_cons_zero, List.set_cons_succ]
   refine till_one 13 hM rfl (by kernel_rfl) (fun K hK => ?_)
   go_simp
   refine hK _ _ (fun h => absurd rfl h) (fun hM => ?_)
   clear hK K
   try simp only [Act.put, List.setIfInBounds_toArray, List.set_cons_zero, List.set_cons_succ]
   refine till_done (by kernel_rfl) ?_ _
   have HX3 := HX2.out _ hb3
   have HEND := Lib.hid (XM.fin (q := (⟨8, 0, ⟨#[]⟩, false⟩ : Rp)) (S' := S) HX3 HE.out rfl)
   have HRT := HX3.rat
   obtain ⟨c0, c1, c2, c3, f0, f1, f2, f3⟩ := HRT
   simp only [zeroR] at c0 c1 c2 c3
   clear HX3 hb3 hS3
   go_wp2_with fail
   obtain ⟨W5, hW5⟩ : ∃ W5, W5 = ((((w3.setCell ⟨w.heap.size + 1, 0, none⟩ (.int .i64 8)).setCell ⟨w.heap.size + 1, 1, none⟩ (.int .i64 0)).setCell ⟨w.heap.size + 1, 2, none⟩ (.string ⟨#[]⟩)).setCell ⟨w.heap.size + 1, 3, none⟩ (.bool false)) := ⟨_, rfl⟩
   rw [← hW5]
   obtain ⟨⟨v0, v1, v2, v3, -, -, -, -⟩, hR⟩ := HEND.out W5 hW5
   simp only at v0 v1 v2 v3
   clear hW5
   refine bodyPost_ret (by simp [results, Tryz.results40, go_sem, v0, v1, v2, v3]; try rfl) rfl ?_
   first
    | exact hR
    | (rw [HGM.out]; exact hR)
  ·have hzb : (oh == 0) = false := by simpa using hz
   have HNZ := Lib.hid (show ¬ (livesM S tx = false ∨ ofH (lineL S.locks key).hs tx = 0) by rw [HVV.out, hoh]; simp [hz])
   clear hoh hz
   go_wp2_with fail
   refine wp_region_till (fun W => W.cell? ⟨g, 3, none⟩ = some (.pointer (some ⟨pl, 0, none⟩)) ∧ W.cell? ⟨w.heap.size, 1, none⟩ = some (.int .i64 tx) ∧ W.cell? ⟨w.heap.size, 5, none⟩ = some (.string key)) 13 (by kernel_rfl) (hS0) (fun hM hS => ?_)
   refine till_op (v := ?_) 0 [1, 2] hM rfl (by kernel_rfl) (by kernel_rfl) (by kernel_rfl) (by kernel_rfl) rfl (fun _ _ _ h => h) (Or.inl ⟨by rfl, ?_⟩) hS (fun hM => ?_)
   rotate_left
   ·intro W hSw
    (try dsimp only at hSw)
    go_simp
    try with_reducible rfl
   try simp only [Act.put, List.setIfInBounds_toArray, List.set_cons_zero, List.set_cons_succ]
   refine till_op (v := ?_) 1 [2] hM rfl (by kernel_rfl) (by kernel_rfl) (by kernel_rfl) (by kernel_rfl) rfl (fun _ _ _ h => h) (Or.inl ⟨by rfl, ?_⟩) hS (fun hM => ?_)
   rotate_left
   ·intro W hSw
    (try dsimp only at hSw)
    go_simp
    try with_reducible rfl
   try simp only [Act.put, List.setIfInBounds_toArray, List.set_cons_zero, List.set_cons_succ]
   refine till_op (v := ?_) 2 [] hM rfl (by kernel_rfl) (by kernel_rfl) (by kernel_rfl) (by kernel_rfl) rfl (fun _ _ _ h => h) (Or.inl ⟨by rfl, ?_⟩) hS (fun hM => ?_)
   rotate_left
   ·intro W hSw
    (try dsimp only at hSw)
    go_simp
    try with_reducible rfl
   try simp only [Act.put, List.setIfInBounds_toArray, List.set_cons_zero, List.set_cons_succ]
   refine till_op (v := ?_) 3 [4, 5, 6, 11, 12] hM rfl (by kernel_rfl) (by kernel_rfl) (by kernel_rfl) (by kernel_rfl) rfl (fun _ _ _ h => h) (Or.inl ⟨by rfl, ?_⟩) hS (fun hM => ?_)
   rotate_left
   ·intro W hSw
    (try dsimp only at hSw)
    go_simp
    try with_reducible rfl
   try simp only [Act.put, List.setIfInBounds_toArray, List.set_cons_zero, List.set_cons_succ]
   refine till_op (v := ?_) 4 [5, 6, 11, 12] hM rfl (by kernel_rfl) (by kernel_rfl) (by kernel_rfl) (by kernel_rfl) rfl (fun _ _ _ h => h) (Or.inl ⟨by rfl, ?_⟩) hS (fun hM => ?_)
   rotate_left
   ·intro W hSw
    (try dsimp only at hSw)
    go_simp
    try with_reducible rfl
   try simp only [Act.put, List.setIfInBounds_toArray, List.set_cons_zero, List.set_cons_succ]
   refine till_op (v := ?_) 5 [6, 11, 12] hM rfl (by kernel_rfl) (by kernel_rfl) (by kernel_rfl) (by kernel_rfl) rfl (fun _ _ _ h => h) (Or.inl ⟨by rfl, ?_⟩) hS (fun hM => ?_)
   rotate_left
   ·intro W hSw
    (try dsimp only at hSw)
    go_simp
    try with_reducible rfl
   try simp only [Act.put, List.setIfInBounds_toArray, List.set_cons_zero, List.set_cons_succ]
   refine till_op (v := ?_) 6 [11, 12] hM rfl (by kernel_rfl) (by kernel_rfl) (by kernel_rfl) (by kernel_rfl) rfl (fun _ _ _ h => h) (Or.inl ⟨by rfl, ?_⟩) hS (fun hM => ?_)
   rotate_left
   ·intro W hSw
    (try dsimp only at hSw)
    go_simp
    try with_reducible rfl
   try simp only [Act.put, List.setIfInBounds_toArray, List.set_cons_zero, List.set_cons_succ]
   refine till_op (v := ?_) 7 [8, 11, 12] hM rfl (by kernel_rfl) (by kernel_rfl) (by kernel_rfl) (by kernel_rfl) rfl (fun _ _ _ h => h) (Or.inl ⟨by rfl, ?_⟩) hS (fun hM => ?_)
   rotate_left
   ·intro W hSw
    (try dsimp only at hSw)
    go_simp
    try with_reducible rfl
   try simp only [Act.put, List.setIfInBounds_toArray, List.set_cons_zero, List.set_cons_succ]
   refine till_op (v := ?_) 8 [11, 12] hM rfl (by kernel_rfl) (by kernel_rfl) (by kernel_rfl) (by kernel_rfl) rfl (fun _ _ _ h => h) (Or.inl ⟨by rfl, ?_⟩) hS (fun hM => ?_)
   rotate_left
   ·intro W hSw
    (try dsimp only at hSw)
    go_simp
    try with_reducible rfl
   try simp only [Act.put, List.setIfInBounds_toArray, List.set_cons_zero, List.set_cons_succ]
   refine till_op (v := ?_) 9 [10, 11, 12] hM rfl (by kernel_rfl) (by kernel_rfl) (by kernel_rfl) (by kernel_rfl) rfl (fun _ _ _ h => h) (Or.inl ⟨by rfl, ?_⟩) hS (fun hM => ?_)
   rotate_left
   ·intro W hSw
    (try dsimp only at hSw)
    go_simp
    try with_reducible rfl
   try simp only [Act.put, List.setIfInBounds_toArray, List.set_cons_zero, List.set_cons_succ]
   refine till_op (v := ?_) 10 [11, 12] hM rfl (by kernel_rfl) (by kernel_rfl) (by kernel_rfl) (by kernel_rfl) rfl (fun _ _ _ h => h) (Or.inl ⟨by rfl, ?_⟩) hS (fun hM => ?_)
   rotate_left
   ·intro W hSw
    (try dsimp only at hSw)
    go_simp
    try with_reducible rfl
   try simp only [Act.put, List.setIfInBounds_toArray, List.set_cons_zero, List.set_cons_succ]
   refine till_one 11 hM rfl (by kernel_rfl) (fun K hK => ?_)
   go_simp
   go_at_call 89
   refine HHO.out.mono ?_
   rintro e w3 ⟨rfl, hb3⟩
   have hS3 := HS3.out _ hb3
   refine hK _ _ (fun _ => hS3) (fun hM => ?_)
   have hS := hS3
   clear hK K
   try simp only [Act.put, List.setIfInBounds_toArray, List.set_cons_zero, List.set_cons_succ]
   refine till_one 12 hM rfl (by kernel_rfl) (fun K hK => ?_)
   go_simp
   refine hK _ _ (fun _ => hS3) (fun hM => ?_)
   have hS := hS3
   clear hK K
   try simp only [Act.put, List.setIfInBounds_toArray, List.set_cons_zero, List.set_cons_succ]
   refine till_one 13 hM rfl (by kernel_rfl) (fun K hK => ?_)
   go_simp
   refine hK _ _ (fun h => absurd rfl h) (fun hM => ?_)
   clear hK K
   try simp only [Act.put, List.setIfInBounds_toArray, List.set_cons_zero, List.set_cons_succ]
   refine till_done (by kernel_rfl) ?_ _
   have HX3 := Lib.hid (HX2.out _ hb3)
   have hx := HX3.out.hx
   have hc := HX3.out.hc
   have hk0 := (cell_of_heap (i := 0) (v := .int .i64 k) hc rfl).1
   have hk1 := (cell_of_heap (i := 1) (v := .int .i64 tx) hc rfl).1
   have hk2 := (cell_of_heap (i := 2) (v := .int .i64 att) hc rfl).1
   have hk3 := (cell_of_heap (i := 3) (v := .int .i64 stamp) hc rfl).1
   have hk4 := (cell_of_heap (i := 4) (v := .int .i64 op) hc rfl).1
   have hk5 := (cell_of_heap (i := 5) (v := .string key) hc rfl).1
   have hk6 := (cell_of_heap (i := 6) (v := .string value) hc rfl).1
   have hk7 := (cell_of_heap (i := 7) (v := .int .i64 mode) hc rfl).1
   have hk8 := (cell_of_heap (i := 8) (v := .bool yes) hc rfl).1
   have hx0 := (cell_of_heap (i := 0) (v := .int .i64 xatt) hx rfl).1
   have fx0 := (cell_of_heap (i := 0) (v := .int .i64 xatt) hx rfl).2
   have hx1 := (cell_of_heap (i := 1) (v := .int .i64 xk) hx rfl).1
   have fx1 := (cell_of_heap (i := 1) (v := .int .i64 xk) hx rfl).2
   have hx2 := (cell_of_heap (i := 2) (v := .int .i64 xtx) hx rfl).1
   have fx2 := (cell_of_heap (i := 2) (v := .int .i64 xtx) hx rfl).2
   have hx3 := (cell_of_heap (i := 3) (v := .int .i64 xat) hx rfl).1
   have fx3 := (cell_of_heap (i := 3) (v := .int .i64 xat) hx rfl).2
   have hx4 := (cell_of_heap (i := 4) (v := .int .i64 xst) hx rfl).1
   have fx4 := (cell_of_heap (i := 4) (v := .int .i64 xst) hx rfl).2
   have hx5 := (cell_of_heap (i := 5) (v := .int .i64 xop) hx rfl).1
   have fx5 := (cell_of_heap (i := 5) (v := .int .i64 xop) hx rfl).2
   have hx6 := (cell_of_heap (i := 6) (v := .string xkey) hx rfl).1
   have fx6 := (cell_of_heap (i := 6) (v := .string xkey) hx rfl).2
   have hx7 := (cell_of_heap (i := 7) (v := .string xval) hx rfl).1
   have fx7 := (cell_of_heap (i := 7) (v := .string xval) hx rfl).2
   have hx8 := (cell_of_heap (i := 8) (v := .int .i64 xmode) hx rfl).1
   have fx8 := (cell_of_heap (i := 8) (v := .int .i64 xmode) hx rfl).2
   have hx9 := (cell_of_heap (i := 9) (v := .bool xyes) hx rfl).1
   have fx9 := (cell_of_heap (i := 9) (v := .bool xyes) hx rfl).2
   have HSL := Lib.hid (XM.setLast HX3.out)
   clear hx hc hb3 hS3 HX2 HX3 HS3 HHO
   go_upto_region 5 with (fail)
   obtain ⟨W4, hW4⟩ : ∃ W4, W4 = (((((((((w3.setCell ⟨w1.heap.size, 1, none⟩ (.int .i64 k)).setCell ⟨w1.heap.size, 2, none⟩ (.int .i64 tx)).setCell ⟨w1.heap.size, 3, none⟩ (.int .i64 att)).setCell ⟨w1.heap.size, 4, none⟩ (.int .i64 stamp)).setCell ⟨w1.heap.size, 5, none⟩ (.int .i64 op)).setCell ⟨w1.heap.size, 6, none⟩ (.string key)).setCell ⟨w1.heap.size, 7, none⟩ (.string value)).setCell ⟨w1.heap.size, 8, none⟩ (.int .i64 mode)).setCell ⟨w1.heap.size, 9, none⟩ (.bool yes)) := ⟨_, rfl⟩
   rw [← hW4] at HSL ⊢
   clear hW4 hk0 hk1 hk2 hk3 hk4 hk5 hk6 hk7 hk8 hx0 fx0 hx1 fx1 hx2 fx2 hx3 fx3 hx4 fx4 hx5 fx5 hx6 fx6 hx7 fx7 hx8 fx8 hx9 fx9
   go_cut [] from 11 to 44 (fun wx => Hid (XM w D w.heap.size (w.heap.size + 1) w1.heap.size ⟨k, tx, att, stamp, op, key, value, mode, yes⟩ zeroR ⟨xatt, ⟨k, tx, att, stamp, op, key, value, mode, yes⟩, xa, xn, xc, xws⟩ (shT g pc pl ps bl bd (kPut ltZ tx ⟨xatt, ⟨k, tx, att, stamp, op, key, value, mode, yes⟩, xa, xn, xc, xws⟩ E) S) wx))
   case first =>
    have hA := Mem.shAt (XM.rest HSL.out) htx
    have hc := HSL.out.hc
    have hx := HSL.out.hx
    have hg5 := hA.c5
    have hk1 := (cell_of_heap (i := 1) (v := .int .i64 tx) hc rfl).1
    have hx0 := (cell_of_heap (i := 0) (v := .int .i64 xatt) hx rfl).1
    have hx1 := (cell_of_heap (i := 1) (v := .int .i64 k) hx rfl).1
    have hx2 := (cell_of_heap (i := 2) (v := .int .i64 tx) hx rfl).1
    have hx3 := (cell_of_heap (i := 3) (v := .int .i64 att) hx rfl).1
    have hx4 := (cell_of_heap (i := 4) (v := .int .i64 stamp) hx rfl).1
    have hx5 := (cell_of_heap (i := 5) (v := .int .i64 op) hx rfl).1
    have hx6 := (cell_of_heap (i := 6) (v := .string key) hx rfl).1
    have hx7 := (cell_of_heap (i := 7) (v := .string value) hx rfl).1
    have hx8 := (cell_of_heap (i := 8) (v := .int .i64 mode) hx rfl).1
    have hx9 := (cell_of_heap (i := 9) (v := .bool yes) hx rfl).1
    have hx10 := (cell_of_heap (i := 10) (v := .slice xa xn xc) hx rfl).1
    have HBD := XM.below HSL.out (bel_drew W4)
    have HRUN := sh_store [BlockA w1.heap.size (Le.arr ⟨xatt, ⟨k, tx, att, stamp, op, key, value, mode, yes⟩, xa, xn, xc, xws⟩) 108, BlockA (w.heap.size + 1) (Rp.arr zeroR) 35, BlockA w.heap.size (Cm.arr ⟨k, tx, att, stamp, op, key, value, mode, yes⟩) 28, shB g S pc pl ps bl bd, CellsA pc S.cells S.clast, TabA pl S.locks, StA ps S.rows] (r := [KMapA (intK Tryz.underlying3) bd (dnV S.dones)]) HBD htx (by omega) ⟨xatt, ⟨k, tx, att, stamp, op, key, value, mode, yes⟩, xa, xn, xc, xws⟩ ⟨by rw [HXX.out], by rw [HXX.out], by rw [HXX.out], by rw [HXX.out]⟩
    obtain ⟨w9, HR, HM9⟩ := HRUN
    have HN : Hid (XM w D w.heap.size (w.heap.size + 1) w1.heap.size ⟨k, tx, att, stamp, op, key, value, mode, yes⟩ zeroR ⟨xatt, ⟨k, tx, att, stamp, op, key, value, mode, yes⟩, xa, xn, xc, xws⟩ (shT g pc pl ps bl bd (kPut ltZ tx ⟨xatt, ⟨k, tx, att, stamp, op, key, value, mode, yes⟩, xa, xn, xc, xws⟩ E) S) w9) := Lib.hid HM9
    clear HM9 hA hc hx HBD
    have hS0 : W4.drew.cell? ⟨g, 5, none⟩ = some (.map (some bl)) ∧ W4.drew.cell? ⟨w.heap.size, 1, none⟩ = some (.int .i64 tx) ∧ W4.drew.cell? ⟨w1.heap.size, 0, none⟩ = some (.int .i64 xatt) ∧ W4.drew.cell? ⟨w1.heap.size, 1, none⟩ = some (.int .i64 k) ∧ W4.drew.cell? ⟨w1.heap.size, 2, none⟩ = some (.int .i64 tx) ∧ W4.drew.cell? ⟨w1.heap.size, 3, none⟩ = some (.int .i64 att) ∧ W4.drew.cell? ⟨w1.heap.size, 4, none⟩ = some (.int .i64 stamp) ∧ W4.drew.cell? ⟨w1.heap.size, 5, none⟩ = some (.int .i64 op) ∧ W4.drew.cell? ⟨w1.heap.size, 6, none⟩ = some (.string key) ∧ W4.drew.cell? ⟨w1.heap.size, 7, none⟩ = some (.string value) ∧ W4.drew.cell? ⟨w1.heap.size, 8, none⟩ = some (.int .i64 mode) ∧ W4.drew.cell? ⟨w1.heap.size, 9, none⟩ = some (.bool yes) ∧ W4.drew.cell? ⟨w1.heap.size, 10, none⟩ = some (.slice xa xn xc) := ⟨hg5, hk1, hx0, hx1, hx2, hx3, hx4, hx5, hx6, hx7, hx8, hx9, hx10⟩
    clear hg5 hk1 hx0 hx1 hx2 hx3 hx4 hx5 hx6 hx7 hx8 hx9 hx10
    refine wp_region_till (fun W => W.cell? ⟨g, 5, none⟩ = some (.map (some bl)) ∧ W.cell? ⟨w.heap.size, 1, none⟩ = some (.int .i64 tx) ∧ W.cell? ⟨w1.heap.size, 0, none⟩ = some (.int .i64 xatt) ∧ W.cell? ⟨w1.heap.size, 1, none⟩ = some (.int .i64 k) ∧ W.cell? ⟨w1.heap.size, 2, none⟩ = some (.int .i64 tx) ∧ W.cell? ⟨w1.heap.size, 3, none⟩ = some (.int .i64 att) ∧ W.cell? ⟨w1.heap.size, 4, none⟩ = some (.int .i64 stamp) ∧ W.cell? ⟨w1.heap.size, 5, none⟩ = some (.int .i64 op) ∧ W.cell? ⟨w1.heap.size, 6, none⟩ = some (.string key) ∧ W.cell? ⟨w1.heap.size, 7, none⟩ = some (.string value) ∧ W.cell? ⟨w1.heap.size, 8, none⟩ = some (.int .i64 mode) ∧ W.cell? ⟨w1.heap.size, 9, none⟩ = some (.bool yes) ∧ W.cell? ⟨w1.heap.size, 10, none⟩ = some (.slice xa xn xc)) 7 (by kernel_rfl) (hS0) (fun hM hS => ?_)
    refine till_op (v := ?_) 0 [1, 2, 3] hM rfl (by kernel_rfl) (by kernel_rfl) (by kernel_rfl) (by kernel_rfl) rfl (fun _ _ _ h => h) (Or.inl ⟨by rfl, ?_⟩) hS (fun hM => ?_)
    rotate_left
    ·intro W hSw
     (try dsimp only at hSw)
     go_simp
     try with_reducible rfl
    try simp only [Act.put, List.setIfInBounds_toArray, List.set_cons_zero, List.set_cons_succ]
    refine till_op (v := ?_) 1 [2, 3] hM rfl (by kernel_rfl) (by kernel_rfl) (by kernel_rfl) (by kernel_rfl) rfl (fun _ _ _ h => h) (Or.inl ⟨by rfl, ?_⟩) hS (fun hM => ?_)
    rotate_left
    ·intro W hSw
     (try dsimp only at hSw)
     go_simp
     try with_reducible rfl
    try simp only [Act.put, List.setIfInBounds_toArray, List.set_cons_zero, List.set_cons_succ]
    refine till_op (v := ?_) 2 [3] hM rfl (by kernel_rfl) (by kernel_rfl) (by kernel_rfl) (by kernel_rfl) rfl (fun _ _ _ h => h) (Or.inl ⟨by rfl, ?_⟩) hS (fun hM => ?_)
    rotate_left
    ·intro W hSw
     (try dsimp only at hSw)
     go_simp
     try with_reducible rfl
    try simp only [Act.put, List.setIfInBounds_toArray, List.set_cons_zero, List.set_cons_succ]
    refine till_op (v := ?_) 3 [] hM rfl (by kernel_rfl) (by kernel_rfl) (by kernel_rfl) (by kernel_rfl) rfl (fun _ _ _ h => h) (Or.inl ⟨by rfl, ?_⟩) hS (fun hM => ?_)
    rotate_left
    ·intro W hSw
     (try dsimp only at hSw)
     go_simp
     try with_reducible rfl
    try simp only [Act.put, List.setIfInBounds_toArray, List.set_cons_zero, List.set_cons_succ]
    refine till_op (v := ?_) 4 [5] hM rfl (by kernel_rfl) (by kernel_rfl) (by kernel_rfl) (by kernel_rfl) rfl (fun _ _ _ h => h) (Or.inl ⟨by rfl, ?_⟩) hS (fun hM => ?_)
    rotate_left
    ·intro W hSw
     (try dsimp only at hSw)
     go_simp
     try with_reducible rfl
    try simp only [Act.put, List.setIfInBounds_toArray, List.set_cons_zero, List.set_cons_succ]
    refine till_op (v := ?_) 5 [] hM rfl (by kernel_rfl) (by kernel_rfl) (by kernel_rfl) (by kernel_rfl) rfl (fun _ _ _ h => h) (Or.inl ⟨by rfl, ?_⟩) hS (fun hM => ?_)
    rotate_left
    ·intro W hSw
     (try dsimp only at hSw)
     go_simp
     try with_reducible rfl
    try simp only [Act.put, List.setIfInBounds_toArray, List.set_cons_zero, List.set_cons_succ]
    refine till_op (v := ?_) 6 [] hM rfl (by kernel_rfl) (by kernel_rfl) (by kernel_rfl) (by kernel_rfl) rfl (fun _ _ _ h => h) (Or.inl ⟨by rfl, ?_⟩) hS (fun hM => ?_)
    rotate_left
    ·intro W hSw
     (try dsimp only at hSw)
     go_simp
     try with_reducible rfl
    try simp only [Act.put, List.setIfInBounds_toArray, List.set_cons_zero, List.set_cons_succ]
    refine till_one 7 hM rfl (by kernel_rfl) (fun K hK => ?_)
    refine step_mapUpdateR rfl (.tmp 41) (.tmp 43) (.tmp 44) 96 rfl _ _ _ rfl rfl rfl HR ?_
    refine hK _ _ (fun h => absurd rfl h) (fun hM => ?_)
    clear hK K
    try simp only [Act.put, List.setIfInBounds_toArray, List.set_cons_zero, List.set_cons_succ]
    refine till_done (by kernel_rfl) ?_ _
    go_wp2_with fail
    go_meet
    case rel => exact HN
   case rest =>
    generalize wc = W5 at *
    have H5 := hcut
    clear hcut HSL
    have hgx : kGet tx (kPut ltZ tx ⟨xatt, ⟨k, tx, att, stamp, op, key, value, mode, yes⟩, xa, xn, xc, xws⟩ E) = some ⟨xatt, ⟨k, tx, att, stamp, op, key, value, mode, yes⟩, xa, xn, xc, xws⟩ := by rw [kGet_put, if_pos rfl]
    have HRW : Hid (∀ W, Below W5.heap.size W5 W → Row W 43 3 xa xn xc (wrFlat xws)) := Lib.hid fun W hb => by
     have HB := XM.below H5.out hb
     exact sh_row [BlockA w1.heap.size (Le.arr ⟨xatt, ⟨k, tx, att, stamp, op, key, value, mode, yes⟩, xa, xn, xc, xws⟩) 108, BlockA (w.heap.size + 1) (Rp.arr zeroR) 35, BlockA w.heap.size (Cm.arr ⟨k, tx, att, stamp, op, key, value, mode, yes⟩) 28, shB g S pc pl ps bl bd, CellsA pc S.cells S.clast, TabA pl S.locks, StA ps S.rows] (r := [KMapA (intK Tryz.underlying3) bd (dnV S.dones)]) HB hgx
    have HWC := Lib.hid (wrote_any ⟨xatt, ⟨k, tx, att, stamp, op, key, value, mode, yes⟩, xa, xn, xc, xws⟩ key W5 (HRW.out _ (Below.refl _ _)) HWX.out.1 (by have := HWX.out.2; exact Nat.le_trans this (by decide)))
    have hx := H5.out.hx
    have hc := H5.out.hc
    have hk5 := (cell_of_heap (i := 5) (v := .string key) hc rfl).1
    have hx0 := (cell_of_heap (i := 0) (v := .int .i64 xatt) hx rfl).1
    have hx1 := (cell_of_heap (i := 1) (v := .int .i64 k) hx rfl).1
    have hx2 := (cell_of_heap (i := 2) (v := .int .i64 tx) hx rfl).1
    have hx3 := (cell_of_heap (i := 3) (v := .int .i64 att) hx rfl).1
    have hx4 := (cell_of_heap (i := 4) (v := .int .i64 stamp) hx rfl).1
    have hx5 := (cell_of_heap (i := 5) (v := .int .i64 op) hx rfl).1
    have hx6 := (cell_of_heap (i := 6) (v := .string key) hx rfl).1
    have hx7 := (cell_of_heap (i := 7) (v := .string value) hx rfl).1
    have hx8 := (cell_of_heap (i := 8) (v := .int .i64 mode) hx rfl).1
    have hx9 := (cell_of_heap (i := 9) (v := .bool yes) hx rfl).1
    have hx10 := (cell_of_heap (i := 10) (v := .slice xa xn xc) hx rfl).1
    clear hx hc hgx
    go_wp2_with fail
    refine HWC.out.mono ?_
    rintro e w6 ⟨rfl, hb6⟩
    have HX6 := Lib.hid (XM.below H5.out hb6)
    have HRW6 := Lib.hid (HRW.out _ hb6)
    clear hb6 HRW HWC hk5 hx0 hx1 hx2 hx3 hx4 hx5 hx6 hx7 hx8 hx9 hx10
    cases hhw : hasW xws key with
    | true =>
     obtain ⟨hpl, -⟩ := (hasW_iff HWX.out.1 key).1 hhw
     have HGM : Hid (getM S ⟨k, tx, att, stamp, op, key, value, mode, yes⟩ = (⟨0, 0, (wrW xws key).v, (wrW xws key).h⟩, getS S ⟨k, tx, att, stamp, op, key, value, mode, yes⟩)) := Lib.hid (by unfold getM; rw [if_neg HNZ.out]; simp only [HLM.out, Le.lv, hhw, if_true])
     obtain ⟨ga, hga, hat⟩ := wrAt_row HRW6.out (posW xws key) hpl
     have hwe : wrW xws key = xws[posW xws key] := by unfold wrW; rw [List.getElem?_eq_getElem hpl]; rfl
     have hxn : xn = xws.length := by have := HRW6.out.len; rw [wrFlat_len] at this; omega
     rw [← hwe] at hat
     have hpn : posW xws key < xn := by omega
     have hpb : posW xws key ≤ 1000 := by have : xws.length ≤ 1000 := HWX.out.2; omega
     try simp only at hga
     subst hga
     have hx := HX6.out.hx
     have hx10 := (cell_of_heap (i := 10) (v := .slice (some ⟨ga, 0, none⟩) xn xc) hx rfl).1
     obtain ⟨y0, y1, y2⟩ := hat
     have HEND := Lib.hid (XM.finD (q := (⟨0, 0, (wrW xws key).v, (wrW xws key).h⟩ : Rp)) (S' := getS S ⟨k, tx, att, stamp, op, key, value, mode, yes⟩) HX6.out (by rw [lvE_put, HE.out]; unfold getS; simp only [HLM.out, Le.lv]) rfl)
     obtain ⟨c0, c1, c2, c3, f0, f1, f2, f3⟩ := HX6.out.rat
     simp only [zeroR] at c0 c1 c2 c3
     generalize wrW xws key = wz at *
     generalize posW xws key = pw at *
     obtain ⟨wk, wv, wh⟩ := wz
     simp only at y0 y1 y2 HEND HGM
     clear hx hwe hpl hhw
     go_wp2_with fail
     go_region
     go_wp2_with fail
     obtain ⟨W5, hW5⟩ : ∃ W5, W5 = ((((w6.setCell ⟨w.heap.size + 1, 0, none⟩ (.int .i64 0)).setCell ⟨w.heap.size + 1, 1, none⟩ (.int .i64 0)).setCell ⟨w.heap.size + 1, 2, none⟩ (.string wv)).setCell ⟨w.heap.size + 1, 3, none⟩ (.bool wh)).drew := ⟨_, rfl⟩
     rw [← hW5]
     obtain ⟨⟨v0, v1, v2, v3, -, -, -, -⟩, hR⟩ := HEND.out W5 hW5
     simp only at v0 v1 v2 v3
     clear hW5
     refine bodyPost_ret (by simp [results, Tryz.results40, go_sem, v0, v1, v2, v3]; try rfl) rfl ?_
     first
      | exact hR
      | (rw [HGM.out]; exact hR)
    | false =>
     have HGM : Hid (getM S ⟨k, tx, att, stamp, op, key, value, mode, yes⟩ = (⟨0, 0, (valM (versM S.cells key) 1099511627776).1, (valM (versM S.cells key) 1099511627776).2⟩, getS S ⟨k, tx, att, stamp, op, key, value, mode, yes⟩)) := Lib.hid (by unfold getM; rw [if_neg HNZ.out]; simp only [HLM.out, Le.lv, hhw]; rfl)
     have HBD := XM.below HX6.out (bel_drew w6)
     obtain ⟨DC, hDC⟩ := Mem.get [BlockA w1.heap.size (Le.arr ⟨xatt, ⟨k, tx, att, stamp, op, key, value, mode, yes⟩, xa, xn, xc, xws⟩) 108, BlockA (w.heap.size + 1) (Rp.arr zeroR) 35, BlockA w.heap.size (Cm.arr ⟨k, tx, att, stamp, op, key, value, mode, yes⟩) 28, shB g S pc pl ps bl bd] (A := CellsA pc S.cells S.clast) (r := TabA pl S.locks :: StA ps S.rows :: KRowsA (intK Tryz.underlying3) Le.val Le.row bl (kPut ltZ tx ⟨xatt, ⟨k, tx, att, stamp, op, key, value, mode, yes⟩, xa, xn, xc, xws⟩ E) :: [KMapA (intK Tryz.underlying3) bd (dnV S.dones)]) HBD
     have HCG := Lib.hid (cells_get hDC HCO.out key hkey)
     have hA := Mem.shAt (XM.rest HX6.out) htx
     have hc := HX6.out.hc
     have hg2 := hA.c2
     have hk5 := (cell_of_heap (i := 5) (v := .string key) hc rfl).1
     have HEND1 := Lib.hid fun W (hb : Below w6.drew.heap.size w6.drew W) => XM.fin (q := (⟨0, 0, (valM (versM S.cells key) 1099511627776).1, (valM (versM S.cells key) 1099511627776).2⟩ : Rp)) (S' := getS S ⟨k, tx, att, stamp, op, key, value, mode, yes⟩) (XM.below (XM.below HX6.out (bel_drew w6)) hb) (by rw [lvE_put, HE.out]; unfold getS; simp only [HLM.out, Le.lv]) rfl
     have HRT := Lib.hid fun W (hb : Below w6.drew.heap.size w6.drew W) => (XM.below (XM.below HX6.out (bel_drew w6)) hb).rat
     have hS0 : w6.drew.cell? ⟨g, 2, none⟩ = some (.pointer (some ⟨pc, 0, none⟩)) ∧ w6.drew.cell? ⟨w.heap.size, 5, none⟩ = some (.string key) := ⟨hg2, hk5⟩
     have HS9 := Lib.hid fun W (hb : Below w6.drew.heap.size w6.drew W) => (⟨(hb.cell (World.block_lt_of_cell? w6 _ hg2)).trans hg2, (hb.cell (World.block_lt_of_cell? w6 _ hk5)).trans hk5⟩ : W.cell? ⟨g, 2, none⟩ = some (.pointer (some ⟨pc, 0, none⟩)) ∧ W.cell? ⟨w.heap.size, 5, none⟩ = some (.string key))
     clear hA hc hg2 hk5 hDC hhw
     generalize valM (versM S.cells key) 1099511627776 = vv at *
     obtain ⟨v1, v2⟩ := vv
     try simp only at HCG
     try simp only at HEND1
     try simp only at HGM
     go_wp2_with fail
     refine wp_region_till (fun W => W.cell? ⟨g, 2, none⟩ = some (.pointer (some ⟨pc, 0, none⟩)) ∧ W.cell? ⟨w.heap.size, 5, none⟩ = some (.string key)) 11 (by kernel_rfl) (hS0) (fun hM hS => ?_)
     refine till_op (v := ?_) 0 [1, 2, 3, 6, 7, 9] hM rfl (by kernel_rfl) (by kernel_rfl) (by kernel_rfl) (by kernel_rfl) rfl (fun _ _ _ h => h) (Or.inl ⟨by rfl, ?_⟩) hS (fun hM => ?_)
     rotate_left
     ·intro W hSw
      (try dsimp only at hSw)
      go_simp
      try with_reducible rfl
     try simp only [Act.put, List.setIfInBounds_toArray, List.set_cons_zero, List.set_cons_succ]
     refine till_op (v := ?_) 1 [2, 3, 6, 7, 9] hM rfl (by kernel_rfl) (by kernel_rfl) (by kernel_rfl) (by kernel_rfl) rfl (fun _ _ _ h => h) (Or.inl ⟨by rfl, ?_⟩) hS (fun hM => ?_)
     rotate_left
     ·intro W hSw
      (try dsimp only at hSw)
      go_simp
      try with_reducible rfl
     try simp only [Act.put, List.setIfInBounds_toArray, List.set_cons_zero, List.set_cons_succ]
     refine till_op (v := ?_) 2 [3, 6, 7, 9] hM rfl (by kernel_rfl) (by kernel_rfl) (by kernel_rfl) (by kernel_rfl) rfl (fun _ _ _ h => h) (Or.inl ⟨by rfl, ?_⟩) hS (fun hM => ?_)
     rotate_left
     ·intro W hSw
      (try dsimp only at hSw)
      go_simp
      try with_reducible rfl
     try simp only [Act.put, List.setIfInBounds_toArray, List.set_cons_zero, List.set_cons_succ]
     refine till_op (v := ?_) 3 [6, 7, 9] hM rfl (by kernel_rfl) (by kernel_rfl) (by kernel_rfl) (by kernel_rfl) rfl (fun _ _ _ h => h) (Or.inl ⟨by rfl, ?_⟩) hS (fun hM => ?_)
     rotate_left
     ·intro W hSw
      (try dsimp only at hSw)
      go_simp
      try with_reducible rfl
     try simp only [Act.put, List.setIfInBounds_toArray, List.set_cons_zero, List.set_cons_succ]
     refine till_op (v := ?_) 4 [5, 6, 7, 9] hM rfl (by kernel_rfl) (by kernel_rfl) (by kernel_rfl) (by kernel_rfl) rfl (fun _ _ _ h => h) (Or.inl ⟨by rfl, ?_⟩) hS (fun hM => ?_)
     rotate_left
     ·intro W hSw
      (try dsimp only at hSw)
      go_simp
      try with_reducible rfl
     try simp only [Act.put, List.setIfInBounds_toArray, List.set_cons_zero, List.set_cons_succ]
     refine till_op (v := ?_) 5 [6, 7, 9] hM rfl (by kernel_rfl) (by kernel_rfl) (by kernel_rfl) (by kernel_rfl) rfl (fun _ _ _ h => h) (Or.inl ⟨by rfl, ?_⟩) hS (fun hM => ?_)
     rotate_left
     ·intro W hSw
      (try dsimp only at hSw)
      go_simp
      try with_reducible rfl
     try simp only [Act.put, List.setIfInBounds_toArray, List.set_cons_zero, List.set_cons_succ]
     refine till_one 6 hM rfl (by kernel_rfl) (fun K hK => ?_)
     go_simp
     go_at_call 45
     refine HCG.out.mono ?_
     rintro e w7 ⟨rfl, hb7⟩
     have hS7 := HS9.out _ hb7
     refine hK _ _ (fun _ => hS7) (fun hM => ?_)
     have hS := hS7
     clear hK K
     try simp only [Act.put, List.setIfInBounds_toArray, List.set_cons_zero, List.set_cons_succ]
     refine till_op (v := ?_) 7 [9] hM rfl (by kernel_rfl) (by kernel_rfl) (by kernel_rfl) (by kernel_rfl) rfl (fun _ _ _ h => h) (Or.inl ⟨by rfl, ?_⟩) hS (fun hM => ?_)
     rotate_left
     ·intro W hSw
      (try dsimp only at hSw)
      go_simp
      try with_reducible rfl
     try simp only [Act.put, List.setIfInBounds_toArray, List.set_cons_zero, List.set_cons_succ]
     refine till_op (v := ?_) 8 [10] hM rfl (by kernel_rfl) (by kernel_rfl) (by kernel_rfl) (by kernel_rfl) rfl (fun _ _ _ h => h) (Or.inl ⟨by rfl, ?_⟩) hS (fun hM => ?_)
     rotate_left
     ·intro W hSw
      (try dsimp only at hSw)
      go_simp
      try with_reducible rfl
     try simp only [Act.put, List.setIfInBounds_toArray, List.set_cons_zero, List.set_cons_succ]
     refine till_op (v := ?_) 9 [] hM rfl (by kernel_rfl) (by kernel_rfl) (by kernel_rfl) (by kernel_rfl) rfl (fun _ _ _ h => h) (Or.inl ⟨by rfl, ?_⟩) hS (fun hM => ?_)
     rotate_left
     ·intro W hSw
      (try dsimp only at hSw)
      go_simp
      try with_reducible rfl
     try simp only [Act.put, List.setIfInBounds_toArray, List.set_cons_zero, List.set_cons_succ]
     refine till_one 10 hM rfl (by kernel_rfl) (fun K hK => ?_)
     go_simp
     refine hK _ _ (fun _ => hS7) (fun hM => ?_)
     have hS := hS7
     clear hK K
     try simp only [Act.put, List.setIfInBounds_toArray, List.set_cons_zero, List.set_cons_succ]
     refine till_one 11 hM rfl (by kernel_rfl) (fun K hK => ?_)
     go_simp
     refine hK _ _ (fun h => absurd rfl h) (fun hM => ?_)
     clear hK K
     try simp only [Act.put, List.setIfInBounds_toArray, List.set_cons_zero, List.set_cons_succ]
     refine till_done (by kernel_rfl) ?_ _
     obtain ⟨c0, c1, c2, c3, f0, f1, f2, f3⟩ := HRT.out _ hb7
     simp only [zeroR] at c0 c1 c2 c3
     have HEND := Lib.hid (HEND1.out _ hb7)
     clear HEND1 HRT hb7 HS9
     go_wp2_with fail
     obtain ⟨W5, hW5⟩ : ∃ W5, W5 = ((((w7.setCell ⟨w.heap.size + 1, 0, none⟩ (.int .i64 0)).setCell ⟨w.heap.size + 1, 1, none⟩ (.int .i64 0)).setCell ⟨w.heap.size + 1, 2, none⟩ (.string v1)).setCell ⟨w.heap.size + 1, 3, none⟩ (.bool v2)) := ⟨_, rfl⟩
     rw [← hW5]
     obtain ⟨⟨v0, v1, v2, v3, -, -, -, -⟩, hR⟩ := HEND.out W5 hW5
     simp only at v0 v1 v2 v3
     clear hW5
     refine bodyPost_ret (by simp [results, Tryz.results40, go_sem, v0, v1, v2, v3]; try rfl) rfl ?_
     first
      | exact hR
      | (rw [HGM.out]; exact hR)
end Go.Proofs.YtmifgnibalbgjaaGreat
