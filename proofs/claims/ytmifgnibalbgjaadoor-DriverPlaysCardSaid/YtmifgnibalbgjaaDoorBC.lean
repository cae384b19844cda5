/- The document's driver in memory; its state; an operation begins. -/
import Derived.Test.YtmifgnibalbgjaaDoorBB
namespace Go.Proofs.YtmifgnibalbgjaaDoor
open Go.RowKit
/-- its cells. -/
abbrev rdC (r : Rd) (S P : Value) (ra : Option Addr) (rc : Nat) : Array Value :=
  #[.int .i64 r.tx, .int .i64 r.stamp, .int .i64 r.tries, S, P, .int .i64 r.attempt, .int .i64 r.asks, .int .i64 r.i, .string r.write.v, .bool r.write.h, .slice ra r.res.length rc, .int .i64 r.fin, .int .i64 r.told, .bool r.quit]
/-- The document's driver at block g. -/
def RefA (g : Nat) (S P : Value) (r : Rd) : Asn := fun w D => ∃ ra rc, All [BlockA g (rdC r S P ra rc) 55, RowA 52 2 ra r.res.length rc (rsFlat r.res)] w D
instance {g : Nat} {S P : Value} {r : Rd} : Stable (RefA g S P r) where
  lt := fun ⟨_, _, h⟩ => (allStable).lt h
  keep := fun ⟨ra, rc, h⟩ hk => ⟨ra, rc, (allStable).keep h hk⟩
section
variable {w0 w : World} {D0 : List Nat} {g : Nat} {S P : Value} {r : Rd} {q : List Asn}
theorem Mem.openR (h : Mem w0 D0 w (RefA g S P r :: q)) : ∃ ra rc, Mem w0 D0 w (BlockA g (rdC r S P ra rc) 55 :: RowA 52 2 ra r.res.length rc (rsFlat r.res) :: q) := by
  obtain ⟨D, ⟨D1, D2, rfl, hd, ⟨ra, rc, h1⟩, h2⟩, hs⟩ := h.out
  exact ⟨ra, rc, by
    have : Mem w0 D0 w ([BlockA g (rdC r S P ra rc) 55, RowA 52 2 ra r.res.length rc (rsFlat r.res)] ++ q) := ⟨D1 ++ D2, all_mk h1 h2 hd, hs⟩
    exact this⟩
theorem Mem.closeR {ra : Option Addr} {rc : Nat} (h : Mem w0 D0 w (BlockA g (rdC r S P ra rc) 55 :: RowA 52 2 ra r.res.length rc (rsFlat r.res) :: q)) : Mem w0 D0 w (RefA g S P r :: q) :=
  Mem.fold (L := [BlockA g (rdC r S P ra rc) 55, RowA 52 2 ra r.res.length rc (rsFlat r.res)]) h fun _ hD => ⟨ra, rc, hD⟩
theorem Mem.refAt (h : Mem w0 D0 w (RefA g S P r :: q)) : ∃ ra rc, w.heap[g]? = some (.cells (rdC r S P ra rc) 55 (0, 0)) := by
  obtain ⟨ra, rc, h1⟩ := Mem.openR h
  exact ⟨ra, rc, Mem.heapAt [] h1⟩
theorem rdC_cell {w : World} {g : Nat} {C : Array Value} (h : w.heap[g]? = some (.cells C 55 (0, 0))) : ∀ i v, C[i]? = some v → w.cell? ⟨g, i, none⟩ = some v ∧ w.frozen? ⟨g, i, none⟩ = false := fun _ _ hv => cell_of_heap h hv
variable [Stables q]
theorem Mem.rAtt (h : Mem w0 D0 w (RefA g S P r :: q)) (v : Int) : Mem w0 D0 (w.setCell ⟨g, 5, none⟩ (.int .i64 v)) (RefA g S P { r with attempt := v } :: q) := by
  obtain ⟨ra, rc, h1⟩ := Mem.openR h
  exact Mem.closeR (r := { r with attempt := v }) (ra := ra) (rc := rc) (Mem.setAt [] (i := 5) h1 (.int .i64 v))
theorem Mem.rAsk (h : Mem w0 D0 w (RefA g S P r :: q)) (v : Int) : Mem w0 D0 (w.setCell ⟨g, 6, none⟩ (.int .i64 v)) (RefA g S P { r with asks := v } :: q) := by
  obtain ⟨ra, rc, h1⟩ := Mem.openR h
  exact Mem.closeR (r := { r with asks := v }) (ra := ra) (rc := rc) (Mem.setAt [] (i := 6) h1 (.int .i64 v))
theorem Mem.rI (h : Mem w0 D0 w (RefA g S P r :: q)) (v : Int) : Mem w0 D0 (w.setCell ⟨g, 7, none⟩ (.int .i64 v)) (RefA g S P { r with i := v } :: q) := by
  obtain ⟨ra, rc, h1⟩ := Mem.openR h
  exact Mem.closeR (r := { r with i := v }) (ra := ra) (rc := rc) (Mem.setAt [] (i := 7) h1 (.int .i64 v))
theorem Mem.rWrite (h : Mem w0 D0 w (RefA g S P r :: q)) (x : Rs) : Mem w0 D0 ((w.setCell ⟨g, 8, none⟩ (.string x.v)).setCell ⟨g, 9, none⟩ (.bool x.h)) (RefA g S P { r with write := x } :: q) := by
  obtain ⟨ra, rc, h1⟩ := Mem.openR h
  have h2 : Mem w0 D0 (w.setCell ⟨g, 8, none⟩ (.string x.v)) (BlockA g (rdC { r with write := ⟨x.v, r.write.h⟩ } S P ra rc) 55 :: RowA 52 2 ra r.res.length rc (rsFlat r.res) :: q) := Mem.setAt [] (i := 8) h1 (.string x.v)
  exact Mem.closeR (r := { r with write := x }) (ra := ra) (rc := rc) (Mem.setAt [] (i := 9) h2 (.bool x.h))
theorem Mem.rFin (h : Mem w0 D0 w (RefA g S P r :: q)) (v : Int) : Mem w0 D0 (w.setCell ⟨g, 11, none⟩ (.int .i64 v)) (RefA g S P { r with fin := v } :: q) := by
  obtain ⟨ra, rc, h1⟩ := Mem.openR h
  exact Mem.closeR (r := { r with fin := v }) (ra := ra) (rc := rc) (Mem.setAt [] (i := 11) h1 (.int .i64 v))
theorem Mem.rTold (h : Mem w0 D0 w (RefA g S P r :: q)) (v : Int) : Mem w0 D0 (w.setCell ⟨g, 12, none⟩ (.int .i64 v)) (RefA g S P { r with told := v } :: q) := by
  obtain ⟨ra, rc, h1⟩ := Mem.openR h
  exact Mem.closeR (r := { r with told := v }) (ra := ra) (rc := rc) (Mem.setAt [] (i := 12) h1 (.int .i64 v))
theorem Mem.rQuit (h : Mem w0 D0 w (RefA g S P r :: q)) (v : Bool) : Mem w0 D0 (w.setCell ⟨g, 13, none⟩ (.bool v)) (RefA g S P { r with quit := v } :: q) := by
  obtain ⟨ra, rc, h1⟩ := Mem.openR h
  exact Mem.closeR (r := { r with quit := v }) (ra := ra) (rc := rc) (Mem.setAt [] (i := 13) h1 (.bool v))
theorem Mem.rNil (h : Mem w0 D0 w (RefA g S P r :: q)) : Mem w0 D0 (w.setCell ⟨g, 10, none⟩ (.slice none 0 0)) (RefA g S P { r with res := [] } :: q) := by
  obtain ⟨ra, rc, h1⟩ := Mem.openR h
  have h2 : Mem w0 D0 (w.setCell ⟨g, 10, none⟩ (.slice none 0 0)) (BlockA g (rdC { r with res := [] } S P none 0) 55 :: RowA 52 2 ra r.res.length rc (rsFlat r.res) :: q) := Mem.setAt [] (i := 10) h1 (.slice none 0 0)
  have h3 := Mem.drop [BlockA g (rdC { r with res := [] } S P none 0) 55] (A := RowA 52 2 ra r.res.length rc (rsFlat r.res)) (r := q) h2
  have h4 := Mem.nilRow (L := [BlockA g (rdC { r with res := [] } S P none 0) 55]) 52 2 h3
  exact Mem.closeR (r := { r with res := [] }) (ra := none) (rc := 0) h4
end
section
variable {w0 w : World} {D0 : List Nat} {g : Nat} {S P : Value} {r : Rd} {q : List Asn}
def stateR (r : Rd) : Int := if 0 < r.asks then 1 else r.fin
theorem rstate_any (M : Mem w0 D0 w (RefA g S P r :: q)) : Calls Tryd.prog 17 #[.pointer (some ⟨g, 0, none⟩)] w fun e w' => e = .returned (.int .i64 (stateR r)) ∧ w = w' := by
  obtain ⟨ra, rc, hg⟩ := Mem.refAt M
  obtain ⟨c6, -⟩ := rdC_cell hg 6 (.int .i64 r.asks) rfl
  obtain ⟨c11, -⟩ := rdC_cell hg 11 (.int .i64 r.fin) rfl
  unfold stateR
  clear hg M
  generalize r.asks = asks at *
  generalize r.fin = fin at *
  by_cases h : 0 < asks
  · rw [if_pos h]
    have h1 : decide (0 < asks) = true := decide_eq_true h
    clear h
    go_enter Tryd.func17, Tryd.ntmps17
    go_wp2_with fail
    go_ret
    exact ⟨rfl, rfl⟩
  · rw [if_neg h]
    have h1 : decide (0 < asks) = false := decide_eq_false h
    clear h
    go_enter Tryd.func17, Tryd.ntmps17
    go_wp2_with fail
    go_ret
    exact ⟨rfl, rfl⟩
variable [Stables q]
variable {sa pa : Option Addr} {sn sc pn pc : Nat} {l : List Opp}
set_option maxRecDepth 100000 in
set_option maxHeartbeats 4000000 in
theorem rop_any (i : Nat) (M : Mem w0 [] w (RefA g S (.slice pa pn pc) r :: q)) (hl : OpsAt w0 pa pn l) (hi : i ≤ 100000) (hn : pn ≤ 100000) :
    Calls Tryd.prog 37 #[.pointer (some ⟨g, 0, none⟩), .int .i64 (i : Nat)] w fun e w' => e = .returned (.tuple #[]) ∧ Mem w0 [] w' (RefA g S (.slice pa pn pc) (opR l r i) :: q) := by
  obtain ⟨ra, rc, hg⟩ := Mem.refAt M
  obtain ⟨c4, -⟩ := rdC_cell hg 4 (.slice pa pn pc) rfl
  obtain ⟨c6, cf6⟩ := rdC_cell hg 6 (.int .i64 r.asks) rfl
  obtain ⟨c7, cf7⟩ := rdC_cell hg 7 (.int .i64 r.i) rfl
  obtain ⟨c13, cf13⟩ := rdC_cell hg 13 (.bool r.quit) rfl
  have HM := Lib.hid M
  have hl1 := hl.below M.bel
  have hln := hl1.1
  by_cases hlt : i < pn
  · have hlt' : i < l.length := by omega
    obtain ⟨b, off, rfl, ⟨o0, -, -, -⟩, -⟩ := hl1.at i hlt'
    have hge : decide ((pn : Int) ≤ (i : Nat)) = false := by simp; omega
    have HE : Hid (opR l r i = if l[i].kind = 6 then { r with asks := 6, quit := true } else { r with i := i, asks := 2 }) := Lib.hid (by unfold opR; rw [List.getElem?_eq_getElem hlt'])
    generalize l[i].kind = k at *
    generalize r.asks = asks at c6 cf6
    generalize r.i = ri at c7 cf7
    generalize r.quit = rq at c13 cf13
    clear hg M hl hl1 hln
    by_cases h6 : k = 6
    · subst h6
      go_enter Tryd.func37, Tryd.ntmps37
      go_wp2_with fail
      refine bodyPost_ret (v := .tuple #[]) (by simp [results, Tryd.results37, go_sem]) rfl ⟨rfl, ?_⟩
      rw [HE.out]; simp only [if_true]
      exact Mem.rQuit (r := { r with asks := 6 }) (Mem.rAsk HM.out 6) true
    · have b6 : (k == 6) = false := by simpa using h6
      go_enter Tryd.func37, Tryd.ntmps37
      go_wp2_with fail
      go_end0
      refine ⟨rfl, ?_⟩
      rw [HE.out, if_neg h6]
      exact Mem.rAsk (r := { r with i := i }) (Mem.rI HM.out i) 2
  · have hge : decide ((pn : Int) ≤ (i : Nat)) = true := by simp; omega
    have HE : Hid (opR l r i = { r with asks := 5 }) := Lib.hid (by unfold opR; rw [List.getElem?_eq_none (by omega)])
    generalize r.asks = asks at c6 cf6
    clear hg M hl hl1 hln c7 cf7 c13 cf13
    go_enter Tryd.func37, Tryd.ntmps37
    go_wp2_with fail
    refine bodyPost_ret (v := .tuple #[]) (by simp [results, Tryd.results37, go_sem]) rfl ⟨rfl, ?_⟩
    rw [HE.out]
    exact Mem.rAsk HM.out 5
end
end Go.Proofs.YtmifgnibalbgjaaDoor
