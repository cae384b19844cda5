/- The whole, told. -/
import Derived.Test.YtmifgnibalbgjaaGreatZQ1
import Derived.Test.YtmifgnibalbgjaaGreatZO3
import Derived.Test.YtmifgnibalbgjaaGreatZN1
import Derived.Test.YtmifgnibalbgjaaGreatZM7
import Derived.Deep.CutRange
import Derived.Deep.CutBlock
namespace Go.Proofs.YtmifgnibalbgjaaGreat
open Go.RowKit set_option linter.unusedVariables false set_option linter.unusedSimpArgs false
theorem ClosedM.step {md : Region.Mode} {ops : Array Oper} {m : Array Bool} (hM : ClosedM md ops m) (i : Nat) (h : (Region.ready md ops m).contains i = true) : ClosedM md ops (m.setIfInBounds i true) := hM.put (by simpa using h)
/-- what a whole's rows are, but for those that are done. -/
abbrev wholeL (S : Sh) (X1 : List (ByteArray × Ve)) (X2 : List Ln) (X4 : List (Int × Le)) (a1 a2 a3 a4 : Option Addr) (k1 k2 k3 k4 : Nat) : List Asn :=
 (RowA 64 2 a1 S.cells.length k1 (ceFlat X1) :: (X1.map fun p => Ve.row p.2)) ++ ((RowA 66 3 a2 S.locks.length k2 (lnFlat X2) :: rowsOf X2 S.locks) ++ ([RowA 85 5 a3 S.rows.length k3 (rwFlat S.rows)] ++ (RowA 41 12 a4 S.lives.length k4 (lqFlat X4) :: (X4.map fun p => Le.row p.2))))
def WholeP (w : World) (S : Sh) (e : Ending) (w' : World) : Prop := ∃ X1 X2 X4 a1 a2 a3 a4 a5 k1 k2 k3 k4 k5, e = .returned (.agg #[.int .i64 S.clock, .int .i64 S.moment, .slice a1 S.cells.length k1, .slice a2 S.locks.length k2, .slice a3 S.rows.length k3, .slice a4 S.lives.length k4, .slice a5 S.dones.length k5]) ∧ vesC X1 = S.cells ∧ X2.map (·.key) = S.locks.map (·.key) ∧ lvE X4 = S.lives ∧
 Mem w [] w' (RowA 116 2 a5 S.dones.length k5 (egFlat S.dones) :: wholeL S X1 X2 X4 a1 a2 a3 a4 k1 k2 k3 k4)
theorem infoDn : (Tryz.prog.info? 116).map (fun i => (i.zero, i.size, i.bytes)) = some (some (.agg #[.int .i64 0, .int .i64 0]), 2, 16) := by kernel_rfl
theorem kGet_of_memD {E : List (Int × Int)} (hL : E.Pairwise fun p q => ltZ p.1 q.1 = true) {p : Int × Int} (hp : p ∈ E) : kGet p.1 E = some p.2 := kGet_of_mem ordZ hL (x := p.1) (v := p.2) hp
theorem set7 {w0 W : World} {D0 : List Nat} {b : Nat} {x0 x1 x2 x3 x4 x5 x6 : Value} {r : List Asn} [Stables r] (h : Mem w0 D0 W (BlockA b #[x0, x1, x2, x3, x4, x5, x6] 55 :: r)) (v0 v1 v2 v3 v4 v5 v6 : Value) :
  Mem w0 D0 (((((((W.setCell ⟨b, 0, none⟩ v0).setCell ⟨b, 1, none⟩ v1).setCell ⟨b, 2, none⟩ v2).setCell ⟨b, 3, none⟩ v3).setCell ⟨b, 4, none⟩ v4).setCell ⟨b, 5, none⟩ v5).setCell ⟨b, 6, none⟩ v6) (BlockA b #[v0, v1, v2, v3, v4, v5, v6] 55 :: r) := by
 have h0 : Mem w0 D0 _ (BlockA b #[v0, x1, x2, x3, x4, x5, x6] 55 :: r) := Mem.setAt [] (i := 0) h v0
 have h1 : Mem w0 D0 _ (BlockA b #[v0, v1, x2, x3, x4, x5, x6] 55 :: r) := Mem.setAt [] (i := 1) h0 v1
 have h2 : Mem w0 D0 _ (BlockA b #[v0, v1, v2, x3, x4, x5, x6] 55 :: r) := Mem.setAt [] (i := 2) h1 v2
 have h3 : Mem w0 D0 _ (BlockA b #[v0, v1, v2, v3, x4, x5, x6] 55 :: r) := Mem.setAt [] (i := 3) h2 v3
 have h4 : Mem w0 D0 _ (BlockA b #[v0, v1, v2, v3, v4, x5, x6] 55 :: r) := Mem.setAt [] (i := 4) h3 v4
 have h5 : Mem w0 D0 _ (BlockA b #[v0, v1, v2, v3, v4, v5, x6] 55 :: r) := Mem.setAt [] (i := 5) h4 v5
 exact Mem.setAt [] (i := 6) h5 v6
set_option maxRecDepth 100000 in
set_option maxHeartbeats 16000000 in
theorem sh_whole {g : Nat} {S : Sh} {w : World} {D : List Nat} (h : ShA g S w D) {K : List ByteArray} {n : Nat} (hS : SInv K n S) (hn : n ≤ 390) (hK : K.length ≤ 900) : Calls Tryz.prog 19 #[.pointer (some ⟨g, 0, none⟩)] w (WholeP w S) := by
 obtain ⟨pc, pl, ps, bl, bd, E, e, hA, M⟩ := h.at
 have HM := Lib.hid M
 have HSW := Lib.hid (fun W (hb : Below w.heap.size w W) => by
  have hA := Mem.shAt (M.below hb) (tx := 0) (by decide)
  exact ⟨hA.c0, hA.c1, hA.c2, hA.c3, hA.c4⟩ : ∀ W, Below w.heap.size w W → W.cell? ⟨g, 0, none⟩ = some (.int .i64 S.clock) ∧ W.cell? ⟨g, 1, none⟩ = some (.int .i64 S.moment) ∧ W.cell? ⟨g, 2, none⟩ = some (.pointer (some ⟨pc, 0, none⟩)) ∧ W.cell? ⟨g, 3, none⟩ = some (.pointer (some ⟨pl, 0, none⟩)) ∧ W.cell? ⟨g, 4, none⟩ = some (.pointer (some ⟨ps, 0, none⟩)))
 have HG6 := Lib.hid (fun W (hb : Below w.heap.size w W) => (Mem.shAt (M.below hb) (tx := 0) (by decide)).c6 : ∀ W, Below w.heap.size w W → W.cell? ⟨g, 6, none⟩ = some (.map (some bd)))
 have HC0 := Lib.hid fun W (hb : Below w.heap.size w W) => by
  obtain ⟨DC, hDC⟩ := Mem.get [shB g S pc pl ps bl bd] (A := CellsA pc S.cells S.clast) (r := TabA pl S.locks :: StA ps S.rows :: KRowsA (intK Tryz.underlying3) Le.val Le.row bl E :: [KMapA (intK Tryz.underlying3) bd (dnV S.dones)]) (M.below hb)
  exact cells_all hDC (Nat.le_trans hS.cells.len (by omega)) (fun q hq => ⟨Nat.le_trans (hS.cells.keys q hq).2.1 (by decide), by have h1 := hS.cells.vers q.1; rw [hS.cells.get hq] at h1; exact Nat.le_trans h1.len (by omega)⟩)
 have HC1 := Lib.hid fun W (hb : Below w.heap.size w W) => by
  obtain ⟨DC, hDC⟩ := Mem.get [shB g S pc pl ps bl bd, CellsA pc S.cells S.clast] (A := TabA pl S.locks) (r := StA ps S.rows :: KRowsA (intK Tryz.underlying3) Le.val Le.row bl E :: [KMapA (intK Tryz.underlying3) bd (dnV S.dones)]) (M.below hb)
  exact tab_lines pl S.locks W DC hDC (hS.lsm.mono (by omega))
 have HC2 := Lib.hid fun W (hb : Below w.heap.size w W) => by
  obtain ⟨DC, hDC⟩ := Mem.get [shB g S pc pl ps bl bd, CellsA pc S.cells S.clast, TabA pl S.locks] (A := StA ps S.rows) (r := KRowsA (intK Tryz.underlying3) Le.val Le.row bl E :: [KMapA (intK Tryz.underlying3) bd (dnV S.dones)]) (M.below hb)
  exact st_rows hDC (Nat.le_trans hS.rows.2 (by omega))
 have HC3 := Lib.hid fun W (hb : Below w.heap.size w W) => by
  obtain ⟨D', hD'⟩ := Mem.get [] (A := ShA g S) (r := []) (Mem.shShut S e (M.below hb))
  exact sh_lives_any hD' (Nat.le_trans hS.llen (by omega)) (fun q hq => by have := hS.ltx q hq; unfold i64; omega) (fun q hq => by
   have h1 := hS.live q.1 q.2 (kGet_of_mem ordZ hS.lrise hq)
   exact Nat.le_trans (wok_len h1.sort fun x hx => (h1.ws x hx).1) (by omega))
 have HDS := Lib.hid (And.intro hS.drise hS.dtx)
 have hdl : S.dones.length ≤ 1000 := Nat.le_trans hS.dlen (by omega)
 have hc6 := hA.c6
 have M1 := Lib.hid ((Mem.nil w).block #[.int .i64 0, .int .i64 0, .slice none 0 0, .slice none 0 0, .slice none 0 0, .slice none 0 0, .slice none 0 0] 55)
 clear h hA M hS
 go_enter Tryz.func19, Tryz.ntmps19
 go_upto_region 3 with (fail)
 obtain ⟨w1, hw1⟩ : ∃ w1, w1 = w.alloc (.cells #[.int .i64 0, .int .i64 0, .slice none 0 0, .slice none 0 0, .slice none 0 0, .slice none 0 0, .slice none 0 0] 55) := ⟨_, rfl⟩
 rw [← hw1] at M1 ⊢
 clear hw1 hc6
 go_cut [3] from 9 to 34 (fun v wx => ∃ b3 X1 X2 X4 a1 a2 a3 a4 k1 k2 k3 k4, v = .pointer (some ⟨b3, 0, none⟩) ∧ Hid (vesC X1 = S.cells ∧ X2.map (·.key) = S.locks.map (·.key) ∧ lvE X4 = S.lives) ∧ Hid (Mem w [] wx (BlockA b3 #[.int .i64 S.clock, .int .i64 S.moment, .slice a1 S.cells.length k1, .slice a2 S.locks.length k2, .slice a3 S.rows.length k3, .slice a4 S.lives.length k4, .slice none 0 0] 55 :: (BlockA w.heap.size #[.int .i64 0, .int .i64 0, .slice none 0 0, .slice none 0 0, .slice none 0 0, .slice none 0 0, .slice none 0 0] 55 :: wholeL S X1 X2 X4 a1 a2 a3 a4 k1 k2 k3 k4))))
 case first =>
  have m0 : Mem w [] w1.drew [BlockA w.heap.size #[.int .i64 0, .int .i64 0, .slice none 0 0, .slice none 0 0, .slice none 0 0, .slice none 0 0, .slice none 0 0] 55] := M1.out.below (bel_drew w1)
  have hS0 := HSW.out _ m0.bel
  refine wp_region_till (fun W => W.cell? ⟨g, 0, none⟩ = some (.int .i64 S.clock) ∧ W.cell? ⟨g, 1, none⟩ = some (.int .i64 S.moment) ∧ W.cell? ⟨g, 2, none⟩ = some (.pointer (some ⟨pc, 0, none⟩)) ∧ W.cell? ⟨g, 3, none⟩ = some (.pointer (some ⟨pl, 0, none⟩)) ∧ W.cell? ⟨g, 4, none⟩ = some (.pointer (some ⟨ps, 0, none⟩))) 27 (by kernel_rfl) (hS0) (fun hM hS => ?_)
  generalize w1.drew = z9 at *
  refine till_op (v := ?_) 0 [] hM rfl (by kernel_rfl) (by kernel_rfl) (by kernel_rfl) (by kernel_rfl) rfl (fun _ _ _ h => h) (Or.inl ⟨by rfl, ?_⟩) hS (fun hM => ?_)
  rotate_left
  ·intro W hSw
   (try dsimp only at hSw)
   go_simp
   try with_reducible rfl
  try simp only [Act.put, List.setIfInBounds_toArray, List.set_cons_zero, List.set_cons_succ]
  refine till_op (v := ?_) 1 [] hM rfl (by kernel_rfl) (by kernel_rfl) (by kernel_rfl) (by kernel_rfl) rfl (fun _ _ _ h => h) (Or.inl ⟨by rfl, ?_⟩) hS (fun hM => ?_)
  rotate_left
  ·intro W hSw
   (try dsimp only at hSw)
   go_simp
   try with_reducible rfl
  try simp only [Act.put, List.setIfInBounds_toArray, List.set_cons_zero, List.set_cons_succ]
  refine till_op (v := ?_) 2 [] hM rfl (by kernel_rfl) (by kernel_rfl) (by kernel_rfl) (by kernel_rfl) rfl (fun _ _ _ h => h) (Or.inl ⟨by rfl, ?_⟩) hS (fun hM => ?_)
  rotate_left
  ·intro W hSw
   (try dsimp only at hSw)
   go_simp
   try with_reducible rfl
  try simp only [Act.put, List.setIfInBounds_toArray, List.set_cons_zero, List.set_cons_succ]
  refine till_op (v := ?_) 3 [] hM rfl (by kernel_rfl) (by kernel_rfl) (by kernel_rfl) (by kernel_rfl) rfl (fun _ _ _ h => h) (Or.inl ⟨by rfl, ?_⟩) hS (fun hM => ?_)
  rotate_left
  ·intro W hSw
   (try dsimp only at hSw)
   go_simp
   try with_reducible rfl
  try simp only [Act.put, List.setIfInBounds_toArray, List.set_cons_zero, List.set_cons_succ]
  refine till_op (v := ?_) 4 [] hM rfl (by kernel_rfl) (by kernel_rfl) (by kernel_rfl) (by kernel_rfl) rfl (fun _ _ _ h => h) (Or.inl ⟨by rfl, ?_⟩) hS (fun hM => ?_)
  rotate_left
  ·intro W hSw
   (try dsimp only at hSw)
   go_simp
   try with_reducible rfl
  try simp only [Act.put, List.setIfInBounds_toArray, List.set_cons_zero, List.set_cons_succ]
  refine till_op (v := ?_) 5 [] hM rfl (by kernel_rfl) (by kernel_rfl) (by kernel_rfl) (by kernel_rfl) rfl (fun _ _ _ h => h) (Or.inl ⟨by rfl, ?_⟩) hS (fun hM => ?_)
  rotate_left
  ·intro W hSw
   (try dsimp only at hSw)
   go_simp
   try with_reducible rfl
  try simp only [Act.put, List.setIfInBounds_toArray, List.set_cons_zero, List.set_cons_succ]
  refine till_op (v := ?_) 6 [] hM rfl (by kernel_rfl) (by kernel_rfl) (by kernel_rfl) (by kernel_rfl) rfl (fun _ _ _ h => h) (Or.inl ⟨by rfl, ?_⟩) hS (fun hM => ?_)
  rotate_left
  ·intro W hSw
   (try dsimp only at hSw)
   go_simp
   try with_reducible rfl
  try simp only [Act.put, List.setIfInBounds_toArray, List.set_cons_zero, List.set_cons_succ]
  refine till_op (v := ?_) 7 [] hM rfl (by kernel_rfl) (by kernel_rfl) (by kernel_rfl) (by kernel_rfl) rfl (fun _ _ _ h => h) (Or.inl ⟨by rfl, ?_⟩) hS (fun hM => ?_)
  rotate_left
  ·intro W hSw
   (try dsimp only at hSw)
   go_simp
   try with_reducible rfl
  try simp only [Act.put, List.setIfInBounds_toArray, List.set_cons_zero, List.set_cons_succ]
  refine till_op (v := ?_) 8 [] hM rfl (by kernel_rfl) (by kernel_rfl) (by kernel_rfl) (by kernel_rfl) rfl (fun _ _ _ h => h) (Or.inl ⟨by rfl, ?_⟩) hS (fun hM => ?_)
  rotate_left
  ·intro W hSw
   (try dsimp only at hSw)
   go_simp
   try with_reducible rfl
  try simp only [Act.put, List.setIfInBounds_toArray, List.set_cons_zero, List.set_cons_succ]
  refine till_op (v := ?_) 9 [] hM rfl (by kernel_rfl) (by kernel_rfl) (by kernel_rfl) (by kernel_rfl) rfl (fun _ _ _ h => h) (Or.inl ⟨by rfl, ?_⟩) hS (fun hM => ?_)
  rotate_left
  ·intro W hSw
   (try dsimp only at hSw)
   go_simp
   try with_reducible rfl
  try simp only [Act.put, List.setIfInBounds_toArray, List.set_cons_zero, List.set_cons_succ]
  refine till_op (v := ?_) 10 [] hM rfl (by kernel_rfl) (by kernel_rfl) (by kernel_rfl) (by kernel_rfl) rfl (fun _ _ _ h => h) (Or.inl ⟨by rfl, ?_⟩) hS (fun hM => ?_)
  rotate_left
  ·intro W hSw
   (try dsimp only at hSw)
   go_simp
   try with_reducible rfl
  try simp only [Act.put, List.setIfInBounds_toArray, List.set_cons_zero, List.set_cons_succ]
  refine till_op (v := ?_) 11 [] hM rfl (by kernel_rfl) (by kernel_rfl) (by kernel_rfl) (by kernel_rfl) rfl (fun _ _ _ h => h) (Or.inl ⟨by rfl, ?_⟩) hS (fun hM => ?_)
  rotate_left
  ·intro W hSw
   (try dsimp only at hSw)
   go_simp
   try with_reducible rfl
  try simp only [Act.put, List.setIfInBounds_toArray, List.set_cons_zero, List.set_cons_succ]
  refine till_op (v := ?_) 13 [] hM rfl (by kernel_rfl) (by kernel_rfl) (by kernel_rfl) (by kernel_rfl) rfl (fun _ _ _ h => h) (Or.inl ⟨by rfl, ?_⟩) hS (fun hM => ?_)
  rotate_left
  ·intro W hSw
   (try dsimp only at hSw)
   go_simp
   try with_reducible rfl
  try simp only [Act.put, List.setIfInBounds_toArray, List.set_cons_zero, List.set_cons_succ]
  refine till_op (v := ?_) 14 [] hM rfl (by kernel_rfl) (by kernel_rfl) (by kernel_rfl) (by kernel_rfl) rfl (fun _ _ _ h => h) (Or.inl ⟨by rfl, ?_⟩) hS (fun hM => ?_)
  rotate_left
  ·intro W hSw
   (try dsimp only at hSw)
   go_simp
   try with_reducible rfl
  try simp only [Act.put, List.setIfInBounds_toArray, List.set_cons_zero, List.set_cons_succ]
  refine till_op (v := ?_) 15 [] hM rfl (by kernel_rfl) (by kernel_rfl) (by kernel_rfl) (by kernel_rfl) rfl (fun _ _ _ h => h) (Or.inl ⟨by rfl, ?_⟩) hS (fun hM => ?_)
  rotate_left
  ·intro W hSw
   (try dsimp only at hSw)
   go_simp
   try with_reducible rfl
  try simp only [Act.put, List.setIfInBounds_toArray, List.set_cons_zero, List.set_cons_succ]
  refine till_op (v := ?_) 16 [] hM rfl (by kernel_rfl) (by kernel_rfl) (by kernel_rfl) (by kernel_rfl) rfl (fun _ _ _ h => h) (Or.inl ⟨by rfl, ?_⟩) hS (fun hM => ?_)
  rotate_left
  ·intro W hSw
   (try dsimp only at hSw)
   go_simp
   try with_reducible rfl
  try simp only [Act.put, List.setIfInBounds_toArray, List.set_cons_zero, List.set_cons_succ]
  refine till_op (v := ?_) 18 [] hM rfl (by kernel_rfl) (by kernel_rfl) (by kernel_rfl) (by kernel_rfl) rfl (fun _ _ _ h => h) (Or.inl ⟨by rfl, ?_⟩) hS (fun hM => ?_)
  rotate_left
  ·intro W hSw
   (try dsimp only at hSw)
   go_simp
   try with_reducible rfl
  try simp only [Act.put, List.setIfInBounds_toArray, List.set_cons_zero, List.set_cons_succ]
  refine till_op (v := ?_) 19 [] hM rfl (by kernel_rfl) (by kernel_rfl) (by kernel_rfl) (by kernel_rfl) rfl (fun _ _ _ h => h) (Or.inl ⟨by rfl, ?_⟩) hS (fun hM => ?_)
  rotate_left
  ·intro W hSw
   (try dsimp only at hSw)
   go_simp
   try with_reducible rfl
  try simp only [Act.put, List.setIfInBounds_toArray, List.set_cons_zero, List.set_cons_succ]
  refine till_op (v := ?_) 20 [] hM rfl (by kernel_rfl) (by kernel_rfl) (by kernel_rfl) (by kernel_rfl) rfl (fun _ _ _ h => h) (Or.inl ⟨by rfl, ?_⟩) hS (fun hM => ?_)
  rotate_left
  ·intro W hSw
   (try dsimp only at hSw)
   go_simp
   try with_reducible rfl
  try simp only [Act.put, List.setIfInBounds_toArray, List.set_cons_zero, List.set_cons_succ]
  refine till_op (v := ?_) 21 [] hM rfl (by kernel_rfl) (by kernel_rfl) (by kernel_rfl) (by kernel_rfl) rfl (fun _ _ _ h => h) (Or.inl ⟨by rfl, ?_⟩) hS (fun hM => ?_)
  rotate_left
  ·intro W hSw
   (try dsimp only at hSw)
   go_simp
   try with_reducible rfl
  try simp only [Act.put, List.setIfInBounds_toArray, List.set_cons_zero, List.set_cons_succ]
  refine till_op (v := ?_) 23 [] hM rfl (by kernel_rfl) (by kernel_rfl) (by kernel_rfl) (by kernel_rfl) rfl (fun _ _ _ h => h) (Or.inl ⟨by rfl, ?_⟩) hS (fun hM => ?_)
  rotate_left
  ·intro W hSw
   (try dsimp only at hSw)
   go_simp
   try with_reducible rfl
  try simp only [Act.put, List.setIfInBounds_toArray, List.set_cons_zero, List.set_cons_succ]
  refine till_ready (rs := [12, 26]) (by kernel_rfl) (by simp) (EachTill.op rfl (fun K hK => ?_) (EachTill.op rfl (fun K hK => ?_) EachTill.nil))
  ·go_simp
   go_at_call 47
   refine (HC0.out _ (m0).bel).mono ?_
   rintro e v0b ⟨a1, k1, X1, rfl, hx1, hm⟩
   have m00 : Mem w [] v0b ((RowA 64 2 a1 S.cells.length k1 (ceFlat X1) :: (X1.map fun p => Ve.row p.2)) ++ ([BlockA w.heap.size #[.int .i64 0, .int .i64 0, .slice none 0 0, .slice none 0 0, .slice none 0 0, .slice none 0 0, .slice none 0 0] 55])) := (m0).join hm
   clear hm
   refine hK _ _ (fun _ => (HSW.out _ m00.bel)) ?_
   have hM := ClosedM.step hM 12 (by kernel_rfl)
   have hS := (HSW.out _ m00.bel)
   clear hK K
   try simp only [Act.put, List.setIfInBounds_toArray, List.set_cons_zero, List.set_cons_succ]
   refine till_ready (rs := [17, 26]) (by kernel_rfl) (by simp) (EachTill.op rfl (fun K hK => ?_) (EachTill.op rfl (fun K hK => ?_) EachTill.nil))
   ·go_simp
    go_at_call 48
    refine (HC1.out _ (m00).bel).mono ?_
    rintro e v1b ⟨a2, k2, X2, rfl, hx2, hm⟩
    have m001 : Mem w [] v1b ((RowA 66 3 a2 S.locks.length k2 (lnFlat X2) :: rowsOf X2 S.locks) ++ ((RowA 64 2 a1 S.cells.length k1 (ceFlat X1) :: (X1.map fun p => Ve.row p.2)) ++ ([BlockA w.heap.size #[.int .i64 0, .int .i64 0, .slice none 0 0, .slice none 0 0, .slice none 0 0, .slice none 0 0, .slice none 0 0] 55]))) := (m00).join hm
    clear hm
    refine hK _ _ (fun _ => (HSW.out _ m001.bel)) ?_
    have hM := ClosedM.step hM 17 (by kernel_rfl)
    have hS := (HSW.out _ m001.bel)
    clear hK K
    try simp only [Act.put, List.setIfInBounds_toArray, List.set_cons_zero, List.set_cons_succ]
    refine till_ready (rs := [22, 26]) (by kernel_rfl) (by simp) (EachTill.op rfl (fun K hK => ?_) (EachTill.op rfl (fun K hK => ?_) EachTill.nil))
    ·go_simp
     go_at_call 49
     refine (HC2.out _ (m001).bel).mono ?_
     rintro e v2b ⟨a3, k3, rfl, hm⟩
     have m0012 : Mem w [] v2b (([RowA 85 5 a3 S.rows.length k3 (rwFlat S.rows)]) ++ ((RowA 66 3 a2 S.locks.length k2 (lnFlat X2) :: rowsOf X2 S.locks) ++ ((RowA 64 2 a1 S.cells.length k1 (ceFlat X1) :: (X1.map fun p => Ve.row p.2)) ++ ([BlockA w.heap.size #[.int .i64 0, .int .i64 0, .slice none 0 0, .slice none 0 0, .slice none 0 0, .slice none 0 0, .slice none 0 0] 55])))) := (m001).join hm
     clear hm
     refine hK _ _ (fun _ => (HSW.out _ m0012.bel)) ?_
     have hM := ClosedM.step hM 22 (by kernel_rfl)
     have hS := (HSW.out _ m0012.bel)
     clear hK K
     try simp only [Act.put, List.setIfInBounds_toArray, List.set_cons_zero, List.set_cons_succ]
     refine till_ready (rs := [24, 26]) (by kernel_rfl) (by simp) (EachTill.op rfl (fun K hK => ?_) (EachTill.op rfl (fun K hK => ?_) EachTill.nil))
     ·go_simp
      go_at_call 14
      refine (HC3.out _ (m0012).bel).mono ?_
      rintro e v3b ⟨a4, k4, X4, rfl, hx4, hm⟩
      have m00123 : Mem w [] v3b ((RowA 41 12 a4 S.lives.length k4 (lqFlat X4) :: (X4.map fun p => Le.row p.2)) ++ (([RowA 85 5 a3 S.rows.length k3 (rwFlat S.rows)]) ++ ((RowA 66 3 a2 S.locks.length k2 (lnFlat X2) :: rowsOf X2 S.locks) ++ ((RowA 64 2 a1 S.cells.length k1 (ceFlat X1) :: (X1.map fun p => Ve.row p.2)) ++ ([BlockA w.heap.size #[.int .i64 0, .int .i64 0, .slice none 0 0, .slice none 0 0, .slice none 0 0, .slice none 0 0, .slice none 0 0] 55]))))) := (m0012).join hm
      clear hm
      refine hK _ _ (fun _ => (HSW.out _ m00123.bel)) ?_
      have hM := ClosedM.step hM 24 (by kernel_rfl)
      have hS := (HSW.out _ m00123.bel)
      clear hK K
      try simp only [Act.put, List.setIfInBounds_toArray, List.set_cons_zero, List.set_cons_succ]
      refine till_op (v := ?_) 25 [] hM rfl (by kernel_rfl) (by kernel_rfl) (by kernel_rfl) (by kernel_rfl) rfl (fun _ _ _ h => h) (Or.inl ⟨by rfl, ?_⟩) hS (fun hM => ?_)
      rotate_left
      ·intro W hSw
       (try dsimp only at hSw)
       go_simp
       try with_reducible rfl
      try simp only [Act.put, List.setIfInBounds_toArray, List.set_cons_zero, List.set_cons_succ]
      refine till_one 26 hM rfl (by kernel_rfl) (fun K hK => ?_)
      go_simp
      have m00123z := (m00123).block #[.int .i64 0, .int .i64 0, .slice none 0 0, .slice none 0 0, .slice none 0 0, .slice none 0 0, .slice none 0 0] 55
      generalize v3b.alloc (.cells #[.int .i64 0, .int .i64 0, .slice none 0 0, .slice none 0 0, .slice none 0 0, .slice none 0 0, .slice none 0 0] 55) = z4 at *
      generalize v3b.heap.size = b3 at *
      refine hK _ _ (fun _ => (HSW.out _ m00123z.bel)) (fun hM => ?_)
      have hS := (HSW.out _ m00123z.bel)
      clear hK K
      try simp only [Act.put, List.setIfInBounds_toArray, List.set_cons_zero, List.set_cons_succ]
      have mE : Mem w [] z4 (BlockA b3 #[.int .i64 0, .int .i64 0, .slice none 0 0, .slice none 0 0, .slice none 0 0, .slice none 0 0, .slice none 0 0] 55 :: (BlockA w.heap.size #[.int .i64 0, .int .i64 0, .slice none 0 0, .slice none 0 0, .slice none 0 0, .slice none 0 0, .slice none 0 0] 55 :: wholeL S X1 X2 X4 a1 a2 a3 a4 k1 k2 k3 k4)) := Mem.perm m00123z (perm_ct fun x => by simp only [cnt_cons, cnt_append, cnt_nil]; omega)
      have hB3 := (Mem.get [] mE).choose_spec.2
      obtain ⟨e0, g0⟩ := cell_of_heap (i := 0) (v := .int .i64 0) hB3 rfl
      obtain ⟨e1, g1⟩ := cell_of_heap (i := 1) (v := .int .i64 0) hB3 rfl
      obtain ⟨e2, g2⟩ := cell_of_heap (i := 2) (v := .slice none 0 0) hB3 rfl
      obtain ⟨e3, g3⟩ := cell_of_heap (i := 3) (v := .slice none 0 0) hB3 rfl
      obtain ⟨e4, g4⟩ := cell_of_heap (i := 4) (v := .slice none 0 0) hB3 rfl
      obtain ⟨e5, g5⟩ := cell_of_heap (i := 5) (v := .slice none 0 0) hB3 rfl
      obtain ⟨e6, g6⟩ := cell_of_heap (i := 6) (v := .slice none 0 0) hB3 rfl
      have mF := Lib.hid (set7 mE (.int .i64 S.clock) (.int .i64 S.moment) (.slice a1 S.cells.length k1) (.slice a2 S.locks.length k2) (.slice a3 S.rows.length k3) (.slice a4 S.lives.length k4) (.slice none 0 0))
      clear mE hB3
      refine till_one 27 hM rfl (by kernel_rfl) (fun K hK => ?_)
      go_simp
      refine hK _ _ (fun h => absurd rfl h) (fun hM => ?_)
      clear hK K
      try simp only [Act.put, List.setIfInBounds_toArray, List.set_cons_zero, List.set_cons_succ]
      refine till_done (by kernel_rfl) ?_ _
      go_wp2_with fail
      go_meet
      case rel => exact ⟨b3, X1, X2, X4, a1, a2, a3, a4, k1, k2, k3, k4, rfl, Lib.hid ⟨hx1, hx2, hx4⟩, mF⟩
     ·go_simp
      have m0012z := (m0012).block #[.int .i64 0, .int .i64 0, .slice none 0 0, .slice none 0 0, .slice none 0 0, .slice none 0 0, .slice none 0 0] 55
      generalize v2b.alloc (.cells #[.int .i64 0, .int .i64 0, .slice none 0 0, .slice none 0 0, .slice none 0 0, .slice none 0 0, .slice none 0 0] 55) = z3 at *
      generalize v2b.heap.size = b3 at *
      refine hK _ _ (fun _ => (HSW.out _ m0012z.bel)) ?_
      have hM := ClosedM.step hM 26 (by kernel_rfl)
      have hS := (HSW.out _ m0012z.bel)
      clear hK K
      try simp only [Act.put, List.setIfInBounds_toArray, List.set_cons_zero, List.set_cons_succ]
      refine till_one 24 hM rfl (by kernel_rfl) (fun K hK => ?_)
      go_simp
      go_at_call 14
      refine (HC3.out _ (m0012z).bel).mono ?_
      rintro e v3a ⟨a4, k4, X4, rfl, hx4, hm⟩
      have m0012z3 : Mem w [] v3a ((RowA 41 12 a4 S.lives.length k4 (lqFlat X4) :: (X4.map fun p => Le.row p.2)) ++ (BlockA b3 #[.int .i64 0, .int .i64 0, .slice none 0 0, .slice none 0 0, .slice none 0 0, .slice none 0 0, .slice none 0 0] 55 :: (([RowA 85 5 a3 S.rows.length k3 (rwFlat S.rows)]) ++ ((RowA 66 3 a2 S.locks.length k2 (lnFlat X2) :: rowsOf X2 S.locks) ++ ((RowA 64 2 a1 S.cells.length k1 (ceFlat X1) :: (X1.map fun p => Ve.row p.2)) ++ ([BlockA w.heap.size #[.int .i64 0, .int .i64 0, .slice none 0 0, .slice none 0 0, .slice none 0 0, .slice none 0 0, .slice none 0 0] 55])))))) := (m0012z).join hm
      clear hm
      refine hK _ _ (fun _ => (HSW.out _ m0012z3.bel)) (fun hM => ?_)
      have hS := (HSW.out _ m0012z3.bel)
      clear hK K
      try simp only [Act.put, List.setIfInBounds_toArray, List.set_cons_zero, List.set_cons_succ]
      refine till_op (v := ?_) 25 [] hM rfl (by kernel_rfl) (by kernel_rfl) (by kernel_rfl) (by kernel_rfl) rfl (fun _ _ _ h => h) (Or.inl ⟨by rfl, ?_⟩) hS (fun hM => ?_)
      rotate_left
      ·intro W hSw
       (try dsimp only at hSw)
       go_simp
       try with_reducible rfl
      try simp only [Act.put, List.setIfInBounds_toArray, List.set_cons_zero, List.set_cons_succ]
      have mE : Mem w [] v3a (BlockA b3 #[.int .i64 0, .int .i64 0, .slice none 0 0, .slice none 0 0, .slice none 0 0, .slice none 0 0, .slice none 0 0] 55 :: (BlockA w.heap.size #[.int .i64 0, .int .i64 0, .slice none 0 0, .slice none 0 0, .slice none 0 0, .slice none 0 0, .slice none 0 0] 55 :: wholeL S X1 X2 X4 a1 a2 a3 a4 k1 k2 k3 k4)) := Mem.perm m0012z3 (perm_ct fun x => by simp only [cnt_cons, cnt_append, cnt_nil]; omega)
      have hB3 := (Mem.get [] mE).choose_spec.2
      obtain ⟨e0, g0⟩ := cell_of_heap (i := 0) (v := .int .i64 0) hB3 rfl
      obtain ⟨e1, g1⟩ := cell_of_heap (i := 1) (v := .int .i64 0) hB3 rfl
      obtain ⟨e2, g2⟩ := cell_of_heap (i := 2) (v := .slice none 0 0) hB3 rfl
      obtain ⟨e3, g3⟩ := cell_of_heap (i := 3) (v := .slice none 0 0) hB3 rfl
      obtain ⟨e4, g4⟩ := cell_of_heap (i := 4) (v := .slice none 0 0) hB3 rfl
      obtain ⟨e5, g5⟩ := cell_of_heap (i := 5) (v := .slice none 0 0) hB3 rfl
      obtain ⟨e6, g6⟩ := cell_of_heap (i := 6) (v := .slice none 0 0) hB3 rfl
      have mF := Lib.hid (set7 mE (.int .i64 S.clock) (.int .i64 S.moment) (.slice a1 S.cells.length k1) (.slice a2 S.locks.length k2) (.slice a3 S.rows.length k3) (.slice a4 S.lives.length k4) (.slice none 0 0))
      clear mE hB3
      refine till_one 27 hM rfl (by kernel_rfl) (fun K hK => ?_)
      go_simp
      refine hK _ _ (fun h => absurd rfl h) (fun hM => ?_)
      clear hK K
      try simp only [Act.put, List.setIfInBounds_toArray, List.set_cons_zero, List.set_cons_succ]
      refine till_done (by kernel_rfl) ?_ _
      go_wp2_with fail
      go_meet
      case rel => exact ⟨b3, X1, X2, X4, a1, a2, a3, a4, k1, k2, k3, k4, rfl, Lib.hid ⟨hx1, hx2, hx4⟩, mF⟩
    ·go_simp
     have m001z := (m001).block #[.int .i64 0, .int .i64 0, .slice none 0 0, .slice none 0 0, .slice none 0 0, .slice none 0 0, .slice none 0 0] 55
     generalize v1b.alloc (.cells #[.int .i64 0, .int .i64 0, .slice none 0 0, .slice none 0 0, .slice none 0 0, .slice none 0 0, .slice none 0 0] 55) = z2 at *
     generalize v1b.heap.size = b3 at *
     refine hK _ _ (fun _ => (HSW.out _ m001z.bel)) ?_
     have hM := ClosedM.step hM 26 (by kernel_rfl)
     have hS := (HSW.out _ m001z.bel)
     clear hK K
     try simp only [Act.put, List.setIfInBounds_toArray, List.set_cons_zero, List.set_cons_succ]
     refine till_one 22 hM rfl (by kernel_rfl) (fun K hK => ?_)
     go_simp
     go_at_call 49
     refine (HC2.out _ (m001z).bel).mono ?_
     rintro e v2a ⟨a3, k3, rfl, hm⟩
     have m001z2 : Mem w [] v2a (([RowA 85 5 a3 S.rows.length k3 (rwFlat S.rows)]) ++ (BlockA b3 #[.int .i64 0, .int .i64 0, .slice none 0 0, .slice none 0 0, .slice none 0 0, .slice none 0 0, .slice none 0 0] 55 :: ((RowA 66 3 a2 S.locks.length k2 (lnFlat X2) :: rowsOf X2 S.locks) ++ ((RowA 64 2 a1 S.cells.length k1 (ceFlat X1) :: (X1.map fun p => Ve.row p.2)) ++ ([BlockA w.heap.size #[.int .i64 0, .int .i64 0, .slice none 0 0, .slice none 0 0, .slice none 0 0, .slice none 0 0, .slice none 0 0] 55]))))) := (m001z).join hm
     clear hm
     refine hK _ _ (fun _ => (HSW.out _ m001z2.bel)) (fun hM => ?_)
     have hS := (HSW.out _ m001z2.bel)
     clear hK K
     try simp only [Act.put, List.setIfInBounds_toArray, List.set_cons_zero, List.set_cons_succ]
     refine till_one 24 hM rfl (by kernel_rfl) (fun K hK => ?_)
     go_simp
     go_at_call 14
     refine (HC3.out _ (m001z2).bel).mono ?_
     rintro e v3a ⟨a4, k4, X4, rfl, hx4, hm⟩
     have m001z23 : Mem w [] v3a ((RowA 41 12 a4 S.lives.length k4 (lqFlat X4) :: (X4.map fun p => Le.row p.2)) ++ (([RowA 85 5 a3 S.rows.length k3 (rwFlat S.rows)]) ++ (BlockA b3 #[.int .i64 0, .int .i64 0, .slice none 0 0, .slice none 0 0, .slice none 0 0, .slice none 0 0, .slice none 0 0] 55 :: ((RowA 66 3 a2 S.locks.length k2 (lnFlat X2) :: rowsOf X2 S.locks) ++ ((RowA 64 2 a1 S.cells.length k1 (ceFlat X1) :: (X1.map fun p => Ve.row p.2)) ++ ([BlockA w.heap.size #[.int .i64 0, .int .i64 0, .slice none 0 0, .slice none 0 0, .slice none 0 0, .slice none 0 0, .slice none 0 0] 55])))))) := (m001z2).join hm
     clear hm
     refine hK _ _ (fun _ => (HSW.out _ m001z23.bel)) (fun hM => ?_)
     have hS := (HSW.out _ m001z23.bel)
     clear hK K
     try simp only [Act.put, List.setIfInBounds_toArray, List.set_cons_zero, List.set_cons_succ]
     refine till_op (v := ?_) 25 [] hM rfl (by kernel_rfl) (by kernel_rfl) (by kernel_rfl) (by kernel_rfl) rfl (fun _ _ _ h => h) (Or.inl ⟨by rfl, ?_⟩) hS (fun hM => ?_)
     rotate_left
     ·intro W hSw
      (try dsimp only at hSw)
      go_simp
      try with_reducible rfl
     try simp only [Act.put, List.setIfInBounds_toArray, List.set_cons_zero, List.set_cons_succ]
     have mE : Mem w [] v3a (BlockA b3 #[.int .i64 0, .int .i64 0, .slice none 0 0, .slice none 0 0, .slice none 0 0, .slice none 0 0, .slice none 0 0] 55 :: (BlockA w.heap.size #[.int .i64 0, .int .i64 0, .slice none 0 0, .slice none 0 0, .slice none 0 0, .slice none 0 0, .slice none 0 0] 55 :: wholeL S X1 X2 X4 a1 a2 a3 a4 k1 k2 k3 k4)) := Mem.perm m001z23 (perm_ct fun x => by simp only [cnt_cons, cnt_append, cnt_nil]; omega)
     have hB3 := (Mem.get [] mE).choose_spec.2
     obtain ⟨e0, g0⟩ := cell_of_heap (i := 0) (v := .int .i64 0) hB3 rfl
     obtain ⟨e1, g1⟩ := cell_of_heap (i := 1) (v := .int .i64 0) hB3 rfl
     obtain ⟨e2, g2⟩ := cell_of_heap (i := 2) (v := .slice none 0 0) hB3 rfl
     obtain ⟨e3, g3⟩ := cell_of_heap (i := 3) (v := .slice none 0 0) hB3 rfl
     obtain ⟨e4, g4⟩ := cell_of_heap (i := 4) (v := .slice none 0 0) hB3 rfl
     obtain ⟨e5, g5⟩ := cell_of_heap (i := 5) (v := .slice none 0 0) hB3 rfl
     obtain ⟨e6, g6⟩ := cell_of_heap (i := 6) (v := .slice none 0 0) hB3 rfl
     have mF := Lib.hid (set7 mE (.int .i64 S.clock) (.int .i64 S.moment) (.slice a1 S.cells.length k1) (.slice a2 S.locks.length k2) (.slice a3 S.rows.length k3) (.slice a4 S.lives.length k4) (.slice none 0 0))
     clear mE hB3
     refine till_one 27 hM rfl (by kernel_rfl) (fun K hK => ?_)
     go_simp
     refine hK _ _ (fun h => absurd rfl h) (fun hM => ?_)
     clear hK K
     try simp only [Act.put, List.setIfInBounds_toArray, List.set_cons_zero, List.set_cons_succ]
     refine till_done (by kernel_rfl) ?_ _
     go_wp2_with fail
     go_meet
     case rel => exact ⟨b3, X1, X2, X4, a1, a2, a3, a4, k1, k2, k3, k4, rfl, Lib.hid ⟨hx1, hx2, hx4⟩, mF⟩
   ·go_simp
    have m00z := (m00).block #[.int .i64 0, .int .i64 0, .slice none 0 0, .slice none 0 0, .slice none 0 0, .slice none 0 0, .slice none 0 0] 55
    generalize v0b.alloc (.cells #[.int .i64 0, .int .i64 0, .slice none 0 0, .slice none 0 0, .slice none 0 0, .slice none 0 0, .slice none 0 0] 55) = z1 at *
    generalize v0b.heap.size = b3 at *
    refine hK _ _ (fun _ => (HSW.out _ m00z.bel)) ?_
    have hM := ClosedM.step hM 26 (by kernel_rfl)
    have hS := (HSW.out _ m00z.bel)
    clear hK K
    try simp only [Act.put, List.setIfInBounds_toArray, List.set_cons_zero, List.set_cons_succ]
    refine till_one 17 hM rfl (by kernel_rfl) (fun K hK => ?_)
    go_simp
    go_at_call 48
    refine (HC1.out _ (m00z).bel).mono ?_
    rintro e v1a ⟨a2, k2, X2, rfl, hx2, hm⟩
    have m00z1 : Mem w [] v1a ((RowA 66 3 a2 S.locks.length k2 (lnFlat X2) :: rowsOf X2 S.locks) ++ (BlockA b3 #[.int .i64 0, .int .i64 0, .slice none 0 0, .slice none 0 0, .slice none 0 0, .slice none 0 0, .slice none 0 0] 55 :: ((RowA 64 2 a1 S.cells.length k1 (ceFlat X1) :: (X1.map fun p => Ve.row p.2)) ++ ([BlockA w.heap.size #[.int .i64 0, .int .i64 0, .slice none 0 0, .slice none 0 0, .slice none 0 0, .slice none 0 0, .slice none 0 0] 55])))) := (m00z).join hm
    clear hm
    refine hK _ _ (fun _ => (HSW.out _ m00z1.bel)) (fun hM => ?_)
    have hS := (HSW.out _ m00z1.bel)
    clear hK K
    try simp only [Act.put, List.setIfInBounds_toArray, List.set_cons_zero, List.set_cons_succ]
    refine till_one 22 hM rfl (by kernel_rfl) (fun K hK => ?_)
    go_simp
    go_at_call 49
    refine (HC2.out _ (m00z1).bel).mono ?_
    rintro e v2a ⟨a3, k3, rfl, hm⟩
    have m00z12 : Mem w [] v2a (([RowA 85 5 a3 S.rows.length k3 (rwFlat S.rows)]) ++ ((RowA 66 3 a2 S.locks.length k2 (lnFlat X2) :: rowsOf X2 S.locks) ++ (BlockA b3 #[.int .i64 0, .int .i64 0, .slice none 0 0, .slice none 0 0, .slice none 0 0, .slice none 0 0, .slice none 0 0] 55 :: ((RowA 64 2 a1 S.cells.length k1 (ceFlat X1) :: (X1.map fun p => Ve.row p.2)) ++ ([BlockA w.heap.size #[.int .i64 0, .int .i64 0, .slice none 0 0, .slice none 0 0, .slice none 0 0, .slice none 0 0, .slice none 0 0] 55]))))) := (m00z1).join hm
    clear hm
    refine hK _ _ (fun _ => (HSW.out _ m00z12.bel)) (fun hM => ?_)
    have hS := (HSW.out _ m00z12.bel)
    clear hK K
    try simp only [Act.put, List.setIfInBounds_toArray, List.set_cons_zero, List.set_cons_succ]
    refine till_one 24 hM rfl (by kernel_rfl) (fun K hK => ?_)
    go_simp
    go_at_call 14
    refine (HC3.out _ (m00z12).bel).mono ?_
    rintro e v3a ⟨a4, k4, X4, rfl, hx4, hm⟩
    have m00z123 : Mem w [] v3a ((RowA 41 12 a4 S.lives.length k4 (lqFlat X4) :: (X4.map fun p => Le.row p.2)) ++ (([RowA 85 5 a3 S.rows.length k3 (rwFlat S.rows)]) ++ ((RowA 66 3 a2 S.locks.length k2 (lnFlat X2) :: rowsOf X2 S.locks) ++ (BlockA b3 #[.int .i64 0, .int .i64 0, .slice none 0 0, .slice none 0 0, .slice none 0 0, .slice none 0 0, .slice none 0 0] 55 :: ((RowA 64 2 a1 S.cells.length k1 (ceFlat X1) :: (X1.map fun p => Ve.row p.2)) ++ ([BlockA w.heap.size #[.int .i64 0, .int .i64 0, .slice none 0 0, .slice none 0 0, .slice none 0 0, .slice none 0 0, .slice none 0 0] 55])))))) := (m00z12).join hm
    clear hm
    refine hK _ _ (fun _ => (HSW.out _ m00z123.bel)) (fun hM => ?_)
    have hS := (HSW.out _ m00z123.bel)
    clear hK K
    try simp only [Act.put, List.setIfInBounds_toArray, List.set_cons_zero, List.set_cons_succ]
    refine till_op (v := ?_) 25 [] hM rfl (by kernel_rfl) (by kernel_rfl) (by kernel_rfl) (by kernel_rfl) rfl (fun _ _ _ h => h) (Or.inl ⟨by rfl, ?_⟩) hS (fun hM => ?_)
    rotate_left
    ·intro W hSw
     (try dsimp only at hSw)
     go_simp
     try with_reducible rfl
    try simp only [Act.put, List.setIfInBounds_toArray, List.set_cons_zero, List.set_cons_succ]
    have mE : Mem w [] v3a (BlockA b3 #[.int .i64 0, .int .i64 0, .slice none 0 0, .slice none 0 0, .slice none 0 0, .slice none 0 0, .slice none 0 0] 55 :: (BlockA w.heap.size #[.int .i64 0, .int .i64 0, .slice none 0 0, .slice none 0 0, .slice none 0 0, .slice none 0 0, .slice none 0 0] 55 :: wholeL S X1 X2 X4 a1 a2 a3 a4 k1 k2 k3 k4)) := Mem.perm m00z123 (perm_ct fun x => by simp only [cnt_cons, cnt_append, cnt_nil]; omega)
    have hB3 := (Mem.get [] mE).choose_spec.2
    obtain ⟨e0, g0⟩ := cell_of_heap (i := 0) (v := .int .i64 0) hB3 rfl
    obtain ⟨e1, g1⟩ := cell_of_heap (i := 1) (v := .int .i64 0) hB3 rfl
    obtain ⟨e2, g2⟩ := cell_of_heap (i := 2) (v := .slice none 0 0) hB3 rfl
    obtain ⟨e3, g3⟩ := cell_of_heap (i := 3) (v := .slice none 0 0) hB3 rfl
    obtain ⟨e4, g4⟩ := cell_of_heap (i := 4) (v := .slice none 0 0) hB3 rfl
    obtain ⟨e5, g5⟩ := cell_of_heap (i := 5) (v := .slice none 0 0) hB3 rfl
    obtain ⟨e6, g6⟩ := cell_of_heap (i := 6) (v := .slice none 0 0) hB3 rfl
    have mF := Lib.hid (set7 mE (.int .i64 S.clock) (.int .i64 S.moment) (.slice a1 S.cells.length k1) (.slice a2 S.locks.length k2) (.slice a3 S.rows.length k3) (.slice a4 S.lives.length k4) (.slice none 0 0))
    clear mE hB3
    refine till_one 27 hM rfl (by kernel_rfl) (fun K hK => ?_)
    go_simp
    refine hK _ _ (fun h => absurd rfl h) (fun hM => ?_)
    clear hK K
    try simp only [Act.put, List.setIfInBounds_toArray, List.set_cons_zero, List.set_cons_succ]
    refine till_done (by kernel_rfl) ?_ _
    go_wp2_with fail
    go_meet
    case rel => exact ⟨b3, X1, X2, X4, a1, a2, a3, a4, k1, k2, k3, k4, rfl, Lib.hid ⟨hx1, hx2, hx4⟩, mF⟩
  ·go_simp
   have m0z := (m0).block #[.int .i64 0, .int .i64 0, .slice none 0 0, .slice none 0 0, .slice none 0 0, .slice none 0 0, .slice none 0 0] 55
   generalize z9.alloc (.cells #[.int .i64 0, .int .i64 0, .slice none 0 0, .slice none 0 0, .slice none 0 0, .slice none 0 0, .slice none 0 0] 55) = z0 at *
   generalize z9.heap.size = b3 at *
   refine hK _ _ (fun _ => (HSW.out _ m0z.bel)) ?_
   have hM := ClosedM.step hM 26 (by kernel_rfl)
   have hS := (HSW.out _ m0z.bel)
   clear hK K
   try simp only [Act.put, List.setIfInBounds_toArray, List.set_cons_zero, List.set_cons_succ]
   refine till_one 12 hM rfl (by kernel_rfl) (fun K hK => ?_)
   go_simp
   go_at_call 47
   refine (HC0.out _ (m0z).bel).mono ?_
   rintro e v0a ⟨a1, k1, X1, rfl, hx1, hm⟩
   have m0z0 : Mem w [] v0a ((RowA 64 2 a1 S.cells.length k1 (ceFlat X1) :: (X1.map fun p => Ve.row p.2)) ++ (BlockA b3 #[.int .i64 0, .int .i64 0, .slice none 0 0, .slice none 0 0, .slice none 0 0, .slice none 0 0, .slice none 0 0] 55 :: ([BlockA w.heap.size #[.int .i64 0, .int .i64 0, .slice none 0 0, .slice none 0 0, .slice none 0 0, .slice none 0 0, .slice none 0 0] 55]))) := (m0z).join hm
   clear hm
   refine hK _ _ (fun _ => (HSW.out _ m0z0.bel)) (fun hM => ?_)
   have hS := (HSW.out _ m0z0.bel)
   clear hK K
   try simp only [Act.put, List.setIfInBounds_toArray, List.set_cons_zero, List.set_cons_succ]
   refine till_one 17 hM rfl (by kernel_rfl) (fun K hK => ?_)
   go_simp
   go_at_call 48
   refine (HC1.out _ (m0z0).bel).mono ?_
   rintro e v1a ⟨a2, k2, X2, rfl, hx2, hm⟩
   have m0z01 : Mem w [] v1a ((RowA 66 3 a2 S.locks.length k2 (lnFlat X2) :: rowsOf X2 S.locks) ++ ((RowA 64 2 a1 S.cells.length k1 (ceFlat X1) :: (X1.map fun p => Ve.row p.2)) ++ (BlockA b3 #[.int .i64 0, .int .i64 0, .slice none 0 0, .slice none 0 0, .slice none 0 0, .slice none 0 0, .slice none 0 0] 55 :: ([BlockA w.heap.size #[.int .i64 0, .int .i64 0, .slice none 0 0, .slice none 0 0, .slice none 0 0, .slice none 0 0, .slice none 0 0] 55])))) := (m0z0).join hm
   clear hm
   refine hK _ _ (fun _ => (HSW.out _ m0z01.bel)) (fun hM => ?_)
   have hS := (HSW.out _ m0z01.bel)
   clear hK K
   try simp only [Act.put, List.setIfInBounds_toArray, List.set_cons_zero, List.set_cons_succ]
   refine till_one 22 hM rfl (by kernel_rfl) (fun K hK => ?_)
   go_simp
   go_at_call 49
   refine (HC2.out _ (m0z01).bel).mono ?_
   rintro e v2a ⟨a3, k3, rfl, hm⟩
   have m0z012 : Mem w [] v2a (([RowA 85 5 a3 S.rows.length k3 (rwFlat S.rows)]) ++ ((RowA 66 3 a2 S.locks.length k2 (lnFlat X2) :: rowsOf X2 S.locks) ++ ((RowA 64 2 a1 S.cells.length k1 (ceFlat X1) :: (X1.map fun p => Ve.row p.2)) ++ (BlockA b3 #[.int .i64 0, .int .i64 0, .slice none 0 0, .slice none 0 0, .slice none 0 0, .slice none 0 0, .slice none 0 0] 55 :: ([BlockA w.heap.size #[.int .i64 0, .int .i64 0, .slice none 0 0, .slice none 0 0, .slice none 0 0, .slice none 0 0, .slice none 0 0] 55]))))) := (m0z01).join hm
   clear hm
   refine hK _ _ (fun _ => (HSW.out _ m0z012.bel)) (fun hM => ?_)
   have hS := (HSW.out _ m0z012.bel)
   clear hK K
   try simp only [Act.put, List.setIfInBounds_toArray, List.set_cons_zero, List.set_cons_succ]
   refine till_one 24 hM rfl (by kernel_rfl) (fun K hK => ?_)
   go_simp
   go_at_call 14
   refine (HC3.out _ (m0z012).bel).mono ?_
   rintro e v3a ⟨a4, k4, X4, rfl, hx4, hm⟩
   have m0z0123 : Mem w [] v3a ((RowA 41 12 a4 S.lives.length k4 (lqFlat X4) :: (X4.map fun p => Le.row p.2)) ++ (([RowA 85 5 a3 S.rows.length k3 (rwFlat S.rows)]) ++ ((RowA 66 3 a2 S.locks.length k2 (lnFlat X2) :: rowsOf X2 S.locks) ++ ((RowA 64 2 a1 S.cells.length k1 (ceFlat X1) :: (X1.map fun p => Ve.row p.2)) ++ (BlockA b3 #[.int .i64 0, .int .i64 0, .slice none 0 0, .slice none 0 0, .slice none 0 0, .slice none 0 0, .slice none 0 0] 55 :: ([BlockA w.heap.size #[.int .i64 0, .int .i64 0, .slice none 0 0, .slice none 0 0, .slice none 0 0, .slice none 0 0, .slice none 0 0] 55])))))) := (m0z012).join hm
   clear hm
   refine hK _ _ (fun _ => (HSW.out _ m0z0123.bel)) (fun hM => ?_)
   have hS := (HSW.out _ m0z0123.bel)
   clear hK K
   try simp only [Act.put, List.setIfInBounds_toArray, List.set_cons_zero, List.set_cons_succ]
   refine till_op (v := ?_) 25 [] hM rfl (by kernel_rfl) (by kernel_rfl) (by kernel_rfl) (by kernel_rfl) rfl (fun _ _ _ h => h) (Or.inl ⟨by rfl, ?_⟩) hS (fun hM => ?_)
   rotate_left
   ·intro W hSw
    (try dsimp only at hSw)
    go_simp
    try with_reducible rfl
   try simp only [Act.put, List.setIfInBounds_toArray, List.set_cons_zero, List.set_cons_succ]
   have mE : Mem w [] v3a (BlockA b3 #[.int .i64 0, .int .i64 0, .slice none 0 0, .slice none 0 0, .slice none 0 0, .slice none 0 0, .slice none 0 0] 55 :: (BlockA w.heap.size #[.int .i64 0, .int .i64 0, .slice none 0 0, .slice none 0 0, .slice none 0 0, .slice none 0 0, .slice none 0 0] 55 :: wholeL S X1 X2 X4 a1 a2 a3 a4 k1 k2 k3 k4)) := Mem.perm m0z0123 (perm_ct fun x => by simp only [cnt_cons, cnt_append, cnt_nil]; omega)
   have hB3 := (Mem.get [] mE).choose_spec.2
   obtain ⟨e0, g0⟩ := cell_of_heap (i := 0) (v := .int .i64 0) hB3 rfl
   obtain ⟨e1, g1⟩ := cell_of_heap (i := 1) (v := .int .i64 0) hB3 rfl
   obtain ⟨e2, g2⟩ := cell_of_heap (i := 2) (v := .slice none 0 0) hB3 rfl
   obtain ⟨e3, g3⟩ := cell_of_heap (i := 3) (v := .slice none 0 0) hB3 rfl
   obtain ⟨e4, g4⟩ := cell_of_heap (i := 4) (v := .slice none 0 0) hB3 rfl
   obtain ⟨e5, g5⟩ := cell_of_heap (i := 5) (v := .slice none 0 0) hB3 rfl
   obtain ⟨e6, g6⟩ := cell_of_heap (i := 6) (v := .slice none 0 0) hB3 rfl
   have mF := Lib.hid (set7 mE (.int .i64 S.clock) (.int .i64 S.moment) (.slice a1 S.cells.length k1) (.slice a2 S.locks.length k2) (.slice a3 S.rows.length k3) (.slice a4 S.lives.length k4) (.slice none 0 0))
   clear mE hB3
   refine till_one 27 hM rfl (by kernel_rfl) (fun K hK => ?_)
   go_simp
   refine hK _ _ (fun h => absurd rfl h) (fun hM => ?_)
   clear hK K
   try simp only [Act.put, List.setIfInBounds_toArray, List.set_cons_zero, List.set_cons_succ]
   refine till_done (by kernel_rfl) ?_ _
   go_wp2_with fail
   go_meet
   case rel => exact ⟨b3, X1, X2, X4, a1, a2, a3, a4, k1, k2, k3, k4, rfl, Lib.hid ⟨hx1, hx2, hx4⟩, mF⟩
 case rest =>
  obtain ⟨b3, X1, X2, X4, a1, a2, a3, a4, k1, k2, k3, k4, rfl, HX, HMM⟩ := hcut
  clear HC0 HC1 HC2 HC3 M1
  have hg6 := HG6.out _ HMM.out.bel
  obtain ⟨DK, hDK⟩ := Mem.get [shB g S pc pl ps bl bd, CellsA pc S.cells S.clast, TabA pl S.locks, StA ps S.rows, KRowsA (intK Tryz.underlying3) Le.val Le.row bl E] (A := KMapA (intK Tryz.underlying3) bd (dnV S.dones)) (r := []) (HM.out.below HMM.out.bel)
  have HSO := Lib.hid (sorted50 hDK (by unfold dnV; rw [List.length_map]; omega))
  have hg6a := ((bel_new wc (.cells #[.map (some bd)] 97)).cell (World.block_lt_of_cell? wc _ hg6)).trans hg6
  clear hDK
  go_wp2_with fail
  refine (keys50 bd wc).mono ?_
  rintro e w2 ⟨rfl, rfl⟩
  go_wp2_with fail
  refine HSO.out.mono ?_
  rintro e w3 ⟨ka, kc, rfl, hr, hf, hb⟩
  unfold dnV at hr
  simp only [List.length_map, List.map_map, Function.comp_def] at hr
  have M2 : Hid (Mem w [] w3 (BlockA b3 #[.int .i64 S.clock, .int .i64 S.moment, .slice a1 S.cells.length k1, .slice a2 S.locks.length k2, .slice a3 S.rows.length k3, .slice a4 S.lives.length k4, .slice none 0 0] 55 :: (RowA 116 2 none 0 0 (egFlat (S.dones.take 0)) :: (RowA 3 1 ka S.dones.length kc (S.dones.map fun p => Value.int .i64 p.1) :: (BlockA w.heap.size #[.int .i64 0, .int .i64 0, .slice none 0 0, .slice none 0 0, .slice none 0 0, .slice none 0 0, .slice none 0 0] 55 :: wholeL S X1 X2 X4 a1 a2 a3 a4 k1 k2 k3 k4))))) := Lib.hid (by
   have h1 := (HMM.out.new hb (As := [RowA 3 1 ka S.dones.length kc (S.dones.map fun p => Value.int .i64 p.1)]) (D' := blkOf ka) (all_one ⟨rfl, hr⟩) (fun x hx => Nat.le_of_lt (hf x hx))).new (Below.refl _ _) (As := [RowA 116 2 none 0 0 (egFlat [])]) (D' := []) (all_one ⟨rfl, Row.nil _ _ _⟩) (by simp)
   exact Mem.perm h1 (perm_ct fun x => by simp only [cnt_cons, cnt_append, cnt_nil, List.take_zero]; omega))
  clear hr hf hb HSO HMM hg6 hg6a
  unfold dnV
  simp only [List.length_map]
  go_wp2_with fail
  go_loopw [5, 42] (fun v5 jv wr => ∃ i : Nat, i ≤ S.dones.length ∧ jv = .int .i64 (i : Nat) ∧ Hid (∃ d kd, Mem w [] wr (BlockA b3 #[.int .i64 S.clock, .int .i64 S.moment, .slice a1 S.cells.length k1, .slice a2 S.locks.length k2, .slice a3 S.rows.length k3, .slice a4 S.lives.length k4, .slice d i kd] 55 :: (RowA 116 2 d i kd (egFlat (S.dones.take i)) :: (RowA 3 1 ka S.dones.length kc (S.dones.map fun p => Value.int .i64 p.1) :: (BlockA w.heap.size #[.int .i64 0, .int .i64 0, .slice none 0 0, .slice none 0 0, .slice none 0 0, .slice none 0 0, .slice none 0 0] 55 :: wholeL S X1 X2 X4 a1 a2 a3 a4 k1 k2 k3 k4)))))) (fun _ jv _ => S.dones.length - (intOf jv).toNat)
  case atStart => exact ⟨0, Nat.zero_le _, rfl, Lib.hid ⟨none, 0, M2.out⟩⟩
  case round =>
   obtain ⟨w4, rfl⟩ : ∃ w4, w4 = wr := ⟨_, rfl⟩
   obtain ⟨i, hi, rfl, hSS⟩ := hrel
   clear M2
   obtain ⟨d, kd, hm⟩ := hSS.out
   clear hSS
   by_cases hlt : i < S.dones.length
   ·obtain ⟨gk, hgk, hck⟩ := (Mem.rowAt [BlockA b3 #[.int .i64 S.clock, .int .i64 S.moment, .slice a1 S.cells.length k1, .slice a2 S.locks.length k2, .slice a3 S.rows.length k3, .slice a4 S.lives.length k4, .slice d i kd] 55, RowA 116 2 d i kd (egFlat (S.dones.take i))] hm).cellAt i (by simpa using hlt)
    subst hgk
    rw [List.getElem_map] at hck
    have hmD := List.getElem_mem hlt
    have hgD := kGet_of_memD HDS.out.1 hmD
    have hin := (HDS.out.2 _ hmD).1
    have HTK : Hid (S.dones.take (i + 1) = S.dones.take i ++ [S.dones[i]]) := Lib.hid (List.take_succ_eq_append_getElem hlt)
    have HLK := Lib.hid fun W (hb : Below w.heap.size w W) => (Mem.kLook [shB g S pc pl ps bl bd, CellsA pc S.cells S.clast, TabA pl S.locks, StA ps S.rows, KRowsA (intK Tryz.underlying3) Le.val Le.row bl E] (r := []) (HM.out.below hb) Tryz.underlying97 (zero3 W) (x := S.dones[i].1) (wf_i64 (by omega))).2
    unfold dnV at HLK
    rw [kGet_map (fun x : Int => Value.int .i64 x), hgD] at HLK
    clear hmD hgD hin
    generalize S.dones[i] = z at *
    obtain ⟨tx, att⟩ := z
    simp only at hck HLK HTK
    have hl2 : (Instr.lookup 97 (.map (some bd)) (.int .i64 tx) false).run Tryz.prog w4.drew = .ok (.int .i64 att) w4.drew := HLK.out _ (hm.bel.drew)
    have m5 := hm.below (bel_drew w4)
    have HS7 : Hid (∀ W, Mem w [] W (BlockA w4.drew.heap.size #[.int .i64 tx, .int .i64 att] 116 :: (BlockA b3 #[.int .i64 S.clock, .int .i64 S.moment, .slice a1 S.cells.length k1, .slice a2 S.locks.length k2, .slice a3 S.rows.length k3, .slice a4 S.lives.length k4, .slice d i kd] 55 :: (RowA 116 2 d i kd (egFlat (S.dones.take i)) :: (RowA 3 1 (some ⟨gk, 0, none⟩) S.dones.length kc (S.dones.map fun p => Value.int .i64 p.1) :: (BlockA w.heap.size #[.int .i64 0, .int .i64 0, .slice none 0 0, .slice none 0 0, .slice none 0 0, .slice none 0 0, .slice none 0 0] 55 :: wholeL S X1 X2 X4 a1 a2 a3 a4 k1 k2 k3 k4))))) → W.cell? ⟨b3, 6, none⟩ = some (.slice d i kd) ∧ W.cell? ⟨g, 6, none⟩ = some (.map (some bd))) := Lib.hid fun W hW => by
     have hB3 := Mem.blk hW (g := b3) (cur := #[.int .i64 S.clock, .int .i64 S.moment, .slice a1 S.cells.length k1, .slice a2 S.locks.length k2, .slice a3 S.rows.length k3, .slice a4 S.lives.length k4, .slice d i kd]) (T := 55) (by simp)
     exact ⟨(cell_of_heap (i := 6) (v := .slice d i kd) hB3 rfl).1, HG6.out _ hW.bel⟩
    have hS0 : w4.drew.cell? ⟨b3, 6, none⟩ = some (.slice d i kd) ∧ w4.drew.cell? ⟨g, 6, none⟩ = some (.map (some bd)) := by
     have hB3 := (Mem.get [] m5).choose_spec.2
     exact ⟨(cell_of_heap (i := 6) (v := .slice d i kd) hB3 rfl).1, HG6.out _ m5.bel⟩
    clear hm HLK
    go_wp2_with fail
    refine wp_region_till (fun W => W.cell? ⟨b3, 6, none⟩ = some (.slice d i kd) ∧ W.cell? ⟨g, 6, none⟩ = some (.map (some bd))) 13 (by kernel_rfl) (hS0) (fun hM hS => ?_)
    generalize w4.drew = w5 at *
    obtain ⟨b4, d4, w6, hrun, hn6⟩ := Mem.app1 (P := Tryz.prog) (t := 53) (ty := 53) [BlockA b3 #[.int .i64 S.clock, .int .i64 S.moment, .slice a1 S.cells.length k1, .slice a2 S.locks.length k2, .slice a3 S.rows.length k3, .slice a4 S.lives.length k4, .slice d i kd] 55] (r := RowA 3 1 (some ⟨gk, 0, none⟩) S.dones.length kc (S.dones.map fun p => Value.int .i64 p.1) :: (BlockA w.heap.size #[.int .i64 0, .int .i64 0, .slice none 0 0, .slice none 0 0, .slice none 0 0, .slice none 0 0, .slice none 0 0] 55 :: wholeL S X1 X2 X4 a1 a2 a3 a4 k1 k2 k3 k4)) Tryz.underlying53 infoDn (by rfl) (by decide) m5 [.int .i64 tx, .int .i64 att] (by rfl) (by simp [Value.oneCell']) (by omega) (by decide)
    have HRUN := Lib.hid hrun
    have hn7 : Mem w [] w6 (BlockA b3 #[.int .i64 S.clock, .int .i64 S.moment, .slice a1 S.cells.length k1, .slice a2 S.locks.length k2, .slice a3 S.rows.length k3, .slice a4 S.lives.length k4, .slice d i kd] 55 :: (RowA 116 2 b4 (i + 1) d4 (egFlat (S.dones.take i) ++ [.int .i64 tx, .int .i64 att]) :: (RowA 3 1 (some ⟨gk, 0, none⟩) S.dones.length kc (S.dones.map fun p => Value.int .i64 p.1) :: (BlockA w.heap.size #[.int .i64 0, .int .i64 0, .slice none 0 0, .slice none 0 0, .slice none 0 0, .slice none 0 0, .slice none 0 0] 55 :: wholeL S X1 X2 X4 a1 a2 a3 a4 k1 k2 k3 k4)))) := hn6
    have hB3 := (Mem.get [] hn7).choose_spec.2
    obtain ⟨e6, g6⟩ := cell_of_heap (i := 6) (v := .slice d i kd) hB3 rfl
    have HS7b := Lib.hid (⟨e6, HG6.out _ hn7.bel⟩ : w6.cell? ⟨b3, 6, none⟩ = some (.slice d i kd) ∧ w6.cell? ⟨g, 6, none⟩ = some (.map (some bd)))
    have HF : Hid (Mem w [] (w6.setCell ⟨b3, 6, none⟩ (.slice b4 (i + 1) d4)) (BlockA b3 #[.int .i64 S.clock, .int .i64 S.moment, .slice a1 S.cells.length k1, .slice a2 S.locks.length k2, .slice a3 S.rows.length k3, .slice a4 S.lives.length k4, .slice b4 (i + 1) d4] 55 :: (RowA 116 2 b4 (i + 1) d4 (egFlat (S.dones.take (i + 1))) :: (RowA 3 1 (some ⟨gk, 0, none⟩) S.dones.length kc (S.dones.map fun p => Value.int .i64 p.1) :: (BlockA w.heap.size #[.int .i64 0, .int .i64 0, .slice none 0 0, .slice none 0 0, .slice none 0 0, .slice none 0 0, .slice none 0 0] 55 :: wholeL S X1 X2 X4 a1 a2 a3 a4 k1 k2 k3 k4))))) := Lib.hid (by
     have h1 := Mem.setAt [] (i := 6) hn7 (.slice b4 (i + 1) d4)
     rw [HTK.out, egFlat_append]
     exact h1)
    clear hrun hn6 hn7 hB3
    refine till_op (v := ?_) 0 [] hM rfl (by kernel_rfl) (by kernel_rfl) (by kernel_rfl) (by kernel_rfl) rfl (fun _ _ _ h => h) (Or.inl ⟨by rfl, ?_⟩) hS (fun hM => ?_)
    rotate_left
    ·intro W hSw
     (try dsimp only at hSw)
     go_simp
     try with_reducible rfl
    try simp only [Act.put, List.setIfInBounds_toArray, List.set_cons_zero, List.set_cons_succ]
    refine till_op (v := ?_) 1 [] hM rfl (by kernel_rfl) (by kernel_rfl) (by kernel_rfl) (by kernel_rfl) rfl (fun _ _ _ h => h) (Or.inl ⟨by rfl, ?_⟩) hS (fun hM => ?_)
    rotate_left
    ·intro W hSw
     (try dsimp only at hSw)
     go_simp
     try with_reducible rfl
    try simp only [Act.put, List.setIfInBounds_toArray, List.set_cons_zero, List.set_cons_succ]
    refine till_op (v := ?_) 2 [] hM rfl (by kernel_rfl) (by kernel_rfl) (by kernel_rfl) (by kernel_rfl) rfl (fun _ _ _ h => h) (Or.inl ⟨by rfl, ?_⟩) hS (fun hM => ?_)
    rotate_left
    ·intro W hSw
     (try dsimp only at hSw)
     go_simp
     try with_reducible rfl
    try simp only [Act.put, List.setIfInBounds_toArray, List.set_cons_zero, List.set_cons_succ]
    refine till_op (v := ?_) 3 [] hM rfl (by kernel_rfl) (by kernel_rfl) (by kernel_rfl) (by kernel_rfl) rfl (fun _ _ _ h => h) (Or.inl ⟨by rfl, ?_⟩) hS (fun hM => ?_)
    rotate_left
    ·intro W hSw
     (try dsimp only at hSw)
     go_simp
     try with_reducible rfl
    try simp only [Act.put, List.setIfInBounds_toArray, List.set_cons_zero, List.set_cons_succ]
    refine till_op (v := ?_) 4 [] hM rfl (by kernel_rfl) (by kernel_rfl) (by kernel_rfl) (by kernel_rfl) rfl (fun _ _ _ h => h) (Or.inl ⟨by rfl, ?_⟩) hS (fun hM => ?_)
    rotate_left
    ·intro W hSw
     (try dsimp only at hSw)
     go_simp
     try with_reducible rfl
    try simp only [Act.put, List.setIfInBounds_toArray, List.set_cons_zero, List.set_cons_succ]
    refine till_op (v := ?_) 5 [] hM rfl (by kernel_rfl) (by kernel_rfl) (by kernel_rfl) (by kernel_rfl) rfl (fun _ _ _ h => h) (Or.inl ⟨by rfl, ?_⟩) hS (fun hM => ?_)
    rotate_left
    ·intro W hSw
     (try dsimp only at hSw)
     go_simp
     try with_reducible rfl
    try simp only [Act.put, List.setIfInBounds_toArray, List.set_cons_zero, List.set_cons_succ]
    refine till_op (v := ?_) 6 [] hM rfl (by kernel_rfl) (by kernel_rfl) (by kernel_rfl) (by kernel_rfl) rfl (fun _ _ _ h => h) (Or.inl ⟨by rfl, ?_⟩) hS (fun hM => ?_)
    rotate_left
    ·intro W hSw
     (try dsimp only at hSw)
     go_simp
     try with_reducible rfl
    try simp only [Act.put, List.setIfInBounds_toArray, List.set_cons_zero, List.set_cons_succ]
    refine till_op (v := ?_) 7 [] hM rfl (by kernel_rfl) (by kernel_rfl) (by kernel_rfl) (by kernel_rfl) rfl (fun _ _ _ h => h) (Or.inl ⟨by rfl, ?_⟩) hS (fun hM => ?_)
    rotate_left
    ·intro W hSw
     (try dsimp only at hSw)
     go_simp
     try with_reducible rfl
    try simp only [Act.put, List.setIfInBounds_toArray, List.set_cons_zero, List.set_cons_succ]
    refine till_one 8 hM rfl (by kernel_rfl) (fun K hK => ?_)
    go_simp
    refine hK _ _ (fun _ => hS0) (fun hM => ?_)
    have hS := hS0
    clear hK K
    try simp only [Act.put, List.setIfInBounds_toArray, List.set_cons_zero, List.set_cons_succ]
    refine till_op (v := ?_) 9 [] hM rfl (by kernel_rfl) (by kernel_rfl) (by kernel_rfl) (by kernel_rfl) rfl (fun _ _ _ h => h) (Or.inl ⟨by rfl, ?_⟩) hS (fun hM => ?_)
    rotate_left
    ·intro W hSw
     (try dsimp only at hSw)
     go_simp
     try with_reducible rfl
    try simp only [Act.put, List.setIfInBounds_toArray, List.set_cons_zero, List.set_cons_succ]
    refine till_one 10 hM rfl (by kernel_rfl) (fun K hK => ?_)
    go_simp
    have hS9 := HS7.out _ (Mem.block m5 #[.int .i64 tx, .int .i64 att] 116)
    refine hK _ _ (fun _ => hS9) (fun hM => ?_)
    have hS := hS9
    clear hK K
    try simp only [Act.put, List.setIfInBounds_toArray, List.set_cons_zero, List.set_cons_succ]
    refine till_one 11 hM rfl (by kernel_rfl) (fun K hK => ?_)
    refine step_appendR rfl (.tmp 47) (.tmp 56) 53 53 rfl (.slice d i kd) (.slice (some ⟨w5.heap.size, 0, none⟩) 1 1) (by simp [Act.eval]) (by simp [Act.eval]) HRUN.out ?_
    have hS10 := HS7b.out
    refine hK _ _ (fun _ => hS10) (fun hM => ?_)
    have hS := hS10
    clear hK K
    try simp only [Act.put, List.setIfInBounds_toArray, List.set_cons_zero, List.set_cons_succ]
    refine till_op (v := ?_) 12 [] hM rfl (by kernel_rfl) (by kernel_rfl) (by kernel_rfl) (by kernel_rfl) rfl (fun _ _ _ h => h) (Or.inl ⟨by rfl, ?_⟩) hS (fun hM => ?_)
    rotate_left
    ·intro W hSw
     (try dsimp only at hSw)
     go_simp
     try with_reducible rfl
    try simp only [Act.put, List.setIfInBounds_toArray, List.set_cons_zero, List.set_cons_succ]
    refine till_one 13 hM rfl (by kernel_rfl) (fun K hK => ?_)
    go_simp
    refine hK _ _ (fun h => absurd rfl h) (fun hM => ?_)
    clear hK K
    try simp only [Act.put, List.setIfInBounds_toArray, List.set_cons_zero, List.set_cons_succ]
    refine till_done (by kernel_rfl) ?_ _
    clear m5 HS7 HS7b HRUN e6 g6
    go_wp2_with fail
    go_roundw
    case rel => exact ⟨i + 1, by omega, by go_num, Lib.hid ⟨b4, d4, HF.out⟩⟩
    case measure => simp [intOf]; omega
   ·obtain rfl : i = S.dones.length := by omega
    rw [List.take_length] at hm
    have hB3 := (Mem.get [] hm).choose_spec.2
    have hB2 := Mem.blk hm (g := w.heap.size) (cur := #[.int .i64 0, .int .i64 0, .slice none 0 0, .slice none 0 0, .slice none 0 0, .slice none 0 0, .slice none 0 0]) (T := 55) (by simp)
    have mE : Mem w [] w4 (BlockA w.heap.size #[.int .i64 0, .int .i64 0, .slice none 0 0, .slice none 0 0, .slice none 0 0, .slice none 0 0, .slice none 0 0] 55 :: ((RowA 116 2 d S.dones.length kd (egFlat S.dones) :: wholeL S X1 X2 X4 a1 a2 a3 a4 k1 k2 k3 k4) ++ (BlockA b3 #[.int .i64 S.clock, .int .i64 S.moment, .slice a1 S.cells.length k1, .slice a2 S.locks.length k2, .slice a3 S.rows.length k3, .slice a4 S.lives.length k4, .slice d S.dones.length kd] 55 :: [RowA 3 1 ka S.dones.length kc (S.dones.map fun p => Value.int .i64 p.1)]))) := Mem.perm hm (perm_ct fun x => by simp only [cnt_cons, cnt_append, cnt_nil]; omega)
    have mF := set7 mE (.int .i64 S.clock) (.int .i64 S.moment) (.slice a1 S.cells.length k1) (.slice a2 S.locks.length k2) (.slice a3 S.rows.length k3) (.slice a4 S.lives.length k4) (.slice d S.dones.length kd)
    have hB2f := (Mem.get [] mF).choose_spec.2
    have HF : Hid (WholeP w S (.returned (.agg #[.int .i64 S.clock, .int .i64 S.moment, .slice a1 S.cells.length k1, .slice a2 S.locks.length k2, .slice a3 S.rows.length k3, .slice a4 S.lives.length k4, .slice d S.dones.length kd])) _) := Lib.hid ⟨X1, X2, X4, a1, a2, a3, a4, d, k1, k2, k3, k4, kd, rfl, HX.out.1, HX.out.2.1, HX.out.2.2, Mem.cutEnd (RowA 116 2 d S.dones.length kd (egFlat S.dones) :: wholeL S X1 X2 X4 a1 a2 a3 a4 k1 k2 k3 k4) (Mem.drop [] (r := (RowA 116 2 d S.dones.length kd (egFlat S.dones) :: wholeL S X1 X2 X4 a1 a2 a3 a4 k1 k2 k3 k4) ++ (BlockA b3 #[.int .i64 S.clock, .int .i64 S.moment, .slice a1 S.cells.length k1, .slice a2 S.locks.length k2, .slice a3 S.rows.length k3, .slice a4 S.lives.length k4, .slice d S.dones.length kd] 55 :: [RowA 3 1 ka S.dones.length kc (S.dones.map fun p => Value.int .i64 p.1)])) mF)⟩
    have e0 := (cell_of_heap (i := 0) (v := .int .i64 S.clock) hB3 rfl).1
    have e1 := (cell_of_heap (i := 1) (v := .int .i64 S.moment) hB3 rfl).1
    have e2 := (cell_of_heap (i := 2) (v := .slice a1 S.cells.length k1) hB3 rfl).1
    have e3 := (cell_of_heap (i := 3) (v := .slice a2 S.locks.length k2) hB3 rfl).1
    have e4 := (cell_of_heap (i := 4) (v := .slice a3 S.rows.length k3) hB3 rfl).1
    have e5 := (cell_of_heap (i := 5) (v := .slice a4 S.lives.length k4) hB3 rfl).1
    have e6 := (cell_of_heap (i := 6) (v := .slice d S.dones.length kd) hB3 rfl).1
    obtain ⟨z0, zf0⟩ := cell_of_heap (i := 0) (v := .int .i64 0) hB2 rfl
    obtain ⟨z1, zf1⟩ := cell_of_heap (i := 1) (v := .int .i64 0) hB2 rfl
    obtain ⟨z2, zf2⟩ := cell_of_heap (i := 2) (v := .slice none 0 0) hB2 rfl
    obtain ⟨z3, zf3⟩ := cell_of_heap (i := 3) (v := .slice none 0 0) hB2 rfl
    obtain ⟨z4, zf4⟩ := cell_of_heap (i := 4) (v := .slice none 0 0) hB2 rfl
    obtain ⟨z5, zf5⟩ := cell_of_heap (i := 5) (v := .slice none 0 0) hB2 rfl
    obtain ⟨z6, zf6⟩ := cell_of_heap (i := 6) (v := .slice none 0 0) hB2 rfl
    obtain ⟨w9, hw9⟩ : ∃ w9, w9 = ((((((w4.setCell ⟨w.heap.size, 0, none⟩ (.int .i64 S.clock)).setCell ⟨w.heap.size, 1, none⟩ (.int .i64 S.moment)).setCell ⟨w.heap.size, 2, none⟩ (.slice a1 S.cells.length k1)).setCell ⟨w.heap.size, 3, none⟩ (.slice a2 S.locks.length k2)).setCell ⟨w.heap.size, 4, none⟩ (.slice a3 S.rows.length k3)).setCell ⟨w.heap.size, 5, none⟩ (.slice a4 S.lives.length k4)).setCell ⟨w.heap.size, 6, none⟩ (.slice d S.dones.length kd) := ⟨_, rfl⟩
    rw [← hw9] at hB2f HF
    have y0 := (cell_of_heap (i := 0) (v := .int .i64 S.clock) hB2f rfl).1
    have y1 := (cell_of_heap (i := 1) (v := .int .i64 S.moment) hB2f rfl).1
    have y2 := (cell_of_heap (i := 2) (v := .slice a1 S.cells.length k1) hB2f rfl).1
    have y3 := (cell_of_heap (i := 3) (v := .slice a2 S.locks.length k2) hB2f rfl).1
    have y4 := (cell_of_heap (i := 4) (v := .slice a3 S.rows.length k3) hB2f rfl).1
    have y5 := (cell_of_heap (i := 5) (v := .slice a4 S.lives.length k4) hB2f rfl).1
    have y6 := (cell_of_heap (i := 6) (v := .slice d S.dones.length kd) hB2f rfl).1
    clear hB3 hB2 hB2f mE mF hm
    go_wp2_with fail
    rw [← hw9]
    clear hw9
    refine bodyPost_ret (by simp [results, Tryz.results19, go_sem, y0, y1, y2, y3, y4, y5, y6]; try rfl) rfl ?_
    exact HF.out
end Go.Proofs.YtmifgnibalbgjaaGreat
