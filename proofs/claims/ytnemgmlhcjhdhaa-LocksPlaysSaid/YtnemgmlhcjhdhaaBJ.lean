import Derived.Test.YtnemgmlhcjhdhaaBF
import Derived.Deep.RegionLaw
import Derived.Deep.Cut
import Derived.Deep.CutRange
/- The document's row: drop, walked. -/
namespace Go.Proofs.Ytnemgmlhcjhdhaa
open Go.RowKit
/-- other wants, made anew. -/
theorem ref_set {W V : World} {D : List Nat} {p : Nat} {l l2 : List Wn} {b : Option Addr} {c : Nat} (h : RefA p l W D) (hV : Below W.heap.size W V) (hr : Row V 80 5 b l2.length c (wnFlat l2)) (hn : NewB W b) :
    V.frozen? ⟨p, 0, none⟩ = false ∧ ∃ D', RefA p l2 (V.setCell ⟨p, 0, none⟩ (.slice b l2.length c)) D' ∧ Step W D (V.setCell ⟨p, 0, none⟩ (.slice b l2.length c)) D' := by
  obtain ⟨a, n, c0, hA⟩ := h
  have m1 := (Mem.ofAll hA).new hV (As := [RowA 80 5 b l2.length c (wnFlat l2)]) (all_one ⟨rfl, hr⟩) hn
  have m2 := Mem.cellAt (i := 0) [RowA 80 5 b l2.length c (wnFlat l2)] (r := [RowA 80 5 a n c0 (wnFlat l)]) m1 rfl
  have m3 := Mem.setAt (i := 0) [RowA 80 5 b l2.length c (wnFlat l2)] (r := [RowA 80 5 a n c0 (wnFlat l)]) m1 (.slice b l2.length c)
  have m4 := Mem.drop [RowA 80 5 b l2.length c (wnFlat l2), BlockA p #[.slice b l2.length c] 55] (r := []) m3
  have m5 := Mem.swap [] (r := []) m4
  obtain ⟨D', q1, q2⟩ := m5.out
  exact ⟨m2.2, D', ⟨b, l2.length, c, q1⟩, q2⟩
theorem RefA.parts {W : World} {D : List Nat} {p : Nat} {l : List Wn} (h : RefA p l W D) : ∃ a c, W.cell? ⟨p, 0, none⟩ = some (.slice a l.length c) ∧ W.frozen? ⟨p, 0, none⟩ = false ∧ Row W 80 5 a l.length c (wnFlat l) := by
  obtain ⟨a, n, c, hA⟩ := h
  have hm := Mem.ofAll hA
  have hr := Mem.rowAt [BlockA p #[.slice a n c] 55] (r := []) hm
  have hl := hr.len
  rw [wnFlat_len] at hl
  have hnl : n = l.length := by omega
  subst hnl
  obtain ⟨h1, h2⟩ := Mem.cellAt (i := 0) (v := .slice a l.length c) [] (r := [RowA 80 5 a l.length c (wnFlat l)]) hm rfl
  exact ⟨a, c, h1, h2, hr⟩
/-- what a call makes of a row of wants. -/
def RfPost (w : World) (D : List Nat) (p : Nat) (l : List Wn) (x : Ending) (e : Ending) (w' : World) : Prop := e = x ∧ ∃ D', RefA p l w' D' ∧ Step w D w' D'
set_option maxRecDepth 100000 in
set_option maxHeartbeats 8000000 in
theorem drop_any (p : Nat) (l : List Wn) (q : Nat) (wr : World) (D : List Nat) (h : RefA p l wr D) (hql : q < l.length) (hml : l.length ≤ 100000) :
    Calls Try.prog 75 #[.pointer (some ⟨p, 0, none⟩), .int .i64 q] wr (RfPost wr D p (l.take q ++ l.drop (q + 1)) (.returned (.tuple #[]))) := by
  obtain ⟨la, lc, hcw, hfw, hr⟩ := h.parts
  have HA := Lib.hid h
  have HR := Lib.hid hr
  generalize hQ : RfPost wr D p (l.take q ++ l.drop (q + 1)) (.returned (.tuple #[])) = Q
  have HQ : Hid (∀ W' D', RefA p (l.take q ++ l.drop (q + 1)) W' D' → Step wr D W' D' → Q (.returned (.tuple #[])) W') := Lib.hid fun W' D' h1 h2 => by rw [← hQ]; exact ⟨rfl, D', h1, h2⟩
  have hplt := World.block_lt_of_cell? wr _ hcw
  simp only at hplt
  have hz0 : ¬ wr.heap.size = p := by omega
  have hz1 : ¬ wr.heap.size + 1 = p := by omega
  obtain ⟨g, rfl, -⟩ := wnAt_row hr q hql
  have hlc : l.length ≤ lc := by
    rcases hr.out with ⟨e, _⟩ | ⟨_, _, _, _, h1, _⟩
    · cases e
    · exact h1
  clear hQ h hr
  have hqz : (0 : Int) ≤ (q : Int) := by omega
  have hqc : (q : Int) ≤ (lc : Int) := by omega
  have hqn : (q : Int) + 1 ≤ (l.length : Int) := by omega
  have hq1 : (0 : Int) ≤ (q : Int) + 1 := by omega
  have hwr1 : IntKind.i64.wrap ((q : Int) + 1) = (q : Int) + 1 := IntWalk.i64_in _ (by omega)
  have htn : ((q : Int) + 1).toNat = q + 1 := by omega
  go_enter Try.func75, Try.ntmps75
  by_cases hcc : q + 1 = lc
  · have hcc2 : lc = q + 1 := hcc.symm
    subst hcc2
    have hmlc : l.length = q + 1 := by omega
    have hqq : (q : Int) ≤ (q : Int) + 1 := by omega
    have SUB1 : Hid (SubV wr 5 (.slice (some ⟨g, 0, none⟩) q (q + 1)) q ((wnFlat l).take (q * 5))) := Lib.hid (SubV.upto HR.out (wnFlat_one l) (by omega))
    have SUB2 : Hid (SubV wr 5 (.slice (some ⟨g, 0, none⟩) 0 0) 0 []) := Lib.hid SubV.zero
    have HW3 : Hid (∀ b3 c3 V3, Row V3 80 5 b3 (q) c3 ([] ++ ((wnFlat l).take (q * 5)) ++ []) → NewB wr b3 → Below wr.heap.size wr V3 → ∀ W', W' = V3.setCell ⟨p, 0, none⟩ (.slice b3 (q) c3) → Q (.returned (.tuple #[])) W') := Lib.hid fun b3 c3 V3 hr3 hn3 hV3 W' e => by
      have e1 : q = (l.take q ++ l.drop (q + 1)).length := by rw [List.length_append, List.length_take, List.length_drop]; omega
      have e2 : ([] ++ ((wnFlat l).take (q * 5)) ++ []) = wnFlat (l.take q ++ l.drop (q + 1)) := by
        rw [List.nil_append, wnFlat_take, wnFlat_append]
        rw [List.drop_of_length_le (by omega)]; simp [wnFlat]
      have hr4 : Row V3 80 5 b3 (l.take q ++ l.drop (q + 1)).length c3 (wnFlat (l.take q ++ l.drop (q + 1))) := by rw [← e1, ← e2]; exact hr3
      obtain ⟨hf, D', g1, g2⟩ := ref_set HA.out hV3 hr4 hn3
      rw [← e1] at g1 g2
      subst e
      exact HQ.out _ _ g1 g2
    clear HQ HA HR
    go_wp2_with fail
    go_region_law
      (first
        | (refine step_chain (P := Try.prog) (t := 53) (e := 80) (k := 5) (by' := 40) Try.underlying53 infoWn rfl (Nat.succ_pos 4) (Nat.le_of_ble_eq_true rfl) rfl (.tmp 5) (.tmp 11) rfl (b := some ⟨wr.heap.size, 0, none⟩) (n := 0) (c := 0) (m := q) (xs := []) (ys := ((wnFlat l).take (q * 5))) (sv := .slice (some ⟨g, 0, none⟩) q (q + 1)) ?_ ?_ ?_ ?_ ?_ ?_
           · simp [Act.eval, Act.put]
           · simp [Act.eval, Act.put]
           · exact row_empty (by first | exact heap_new _ _ | exact hp_old _ _ _ _ (by simp) (heap_new _ _) | exact heap_alloc_at _ _ _ (by simp))
           · exact SUB1.out.below (by (try go_split_ands); repeat (first | assumption | exact Below.refl _ _ | refine bel_one ?_ _ | refine bel_two ?_))
           · omega
           intro b1 c1 V1 hr1 ht1 hf1
           have hn1 : NewB wr b1 := (NewB.lit (wr := wr) (g := wr.heap.size) (by omega)).next (_w' := V1) (by (try go_split_ands); repeat (first | assumption | exact Below.refl _ _ | refine bel_one ?_ _ | refine bel_two ?_)) hf1
           have hV1 : Below wr.heap.size wr V1 := (NewB.lit (wr := wr) (g := wr.heap.size) (by omega)).bel (by (try go_split_ands); repeat (first | assumption | exact Below.refl _ _ | refine bel_one ?_ _ | refine bel_two ?_)) ht1
           have hcxV1 : V1.cell? ⟨p, 0, none⟩ = some (.slice (some ⟨g, 0, none⟩) l.length (q + 1)) := (hV1.cell hplt).trans hcw
           have hfxV1 : V1.frozen? ⟨p, 0, none⟩ = false := (hV1.frozen hplt).trans hfw
           have hzxV1 : ¬ V1.heap.size = p := by have := hV1.size; omega)
        | (refine step_chain (P := Try.prog) (t := 53) (e := 80) (k := 5) (by' := 40) Try.underlying53 infoWn rfl (Nat.succ_pos 4) (Nat.le_of_ble_eq_true rfl) rfl (.tmp 5) (.tmp 11) rfl (b := some ⟨wr.heap.size + 1, 0, none⟩) (n := 0) (c := 0) (m := q) (xs := []) (ys := ((wnFlat l).take (q * 5))) (sv := .slice (some ⟨g, 0, none⟩) q (q + 1)) ?_ ?_ ?_ ?_ ?_ ?_
           · simp [Act.eval, Act.put]
           · simp [Act.eval, Act.put]
           · exact row_empty (by first | exact heap_new _ _ | exact hp_old _ _ _ _ (by simp) (heap_new _ _) | exact heap_alloc_at _ _ _ (by simp))
           · exact SUB1.out.below (by (try go_split_ands); repeat (first | assumption | exact Below.refl _ _ | refine bel_one ?_ _ | refine bel_two ?_))
           · omega
           intro b1 c1 V1 hr1 ht1 hf1
           have hn1 : NewB wr b1 := (NewB.lit (wr := wr) (g := wr.heap.size + 1) (by omega)).next (_w' := V1) (by (try go_split_ands); repeat (first | assumption | exact Below.refl _ _ | refine bel_one ?_ _ | refine bel_two ?_)) hf1
           have hV1 : Below wr.heap.size wr V1 := (NewB.lit (wr := wr) (g := wr.heap.size + 1) (by omega)).bel (by (try go_split_ands); repeat (first | assumption | exact Below.refl _ _ | refine bel_one ?_ _ | refine bel_two ?_)) ht1
           have hcxV1 : V1.cell? ⟨p, 0, none⟩ = some (.slice (some ⟨g, 0, none⟩) l.length (q + 1)) := (hV1.cell hplt).trans hcw
           have hfxV1 : V1.frozen? ⟨p, 0, none⟩ = false := (hV1.frozen hplt).trans hfw
           have hzxV1 : ¬ V1.heap.size = p := by have := hV1.size; omega)
        | (refine step_chain (P := Try.prog) (t := 53) (e := 80) (k := 5) (by' := 40) Try.underlying53 infoWn rfl (Nat.succ_pos 4) (Nat.le_of_ble_eq_true rfl) rfl (.tmp 12) (.tmp 19) rfl (b := b1) (n := 0 + q) (c := c1) (m := 0) (xs := [] ++ ((wnFlat l).take (q * 5))) (ys := []) (sv := .slice (some ⟨g, 0, none⟩) 0 0) ?_ ?_ ?_ ?_ ?_ ?_
           · simp [Act.eval, Act.put]
           · simp [Act.eval, Act.put]
           · exact hr1
           · exact SUB2.out.below (by (try go_split_ands); repeat (first | assumption | exact Below.refl _ _ | refine bel_one ?_ _ | refine bel_two ?_))
           · omega
           intro b3 c3 V3 hr3 ht3 hf3
           have hn3 : NewB wr b3 := hn1.next (_w' := V3) (by (try go_split_ands); repeat (first | assumption | exact Below.refl _ _ | refine bel_one ?_ _ | refine bel_two ?_)) hf3
           have hV3 : Below wr.heap.size wr V3 := hn1.bel (by (try go_split_ands); repeat (first | assumption | exact Below.refl _ _ | refine bel_one ?_ _ | refine bel_two ?_)) ht3
           have hcxV3 : V3.cell? ⟨p, 0, none⟩ = some (.slice (some ⟨g, 0, none⟩) l.length (q + 1)) := (hV3.cell hplt).trans hcw
           have hfxV3 : V3.frozen? ⟨p, 0, none⟩ = false := (hV3.frozen hplt).trans hfw
           have hzxV3 : ¬ V3.heap.size = p := by have := hV3.size; omega))
    all_goals
      have HFF := Lib.hid (HW3.out b3 c3 V3 (by simpa only [Nat.zero_add, Nat.add_zero] using hr3) hn3 hV3 _ rfl)
      clear hr3 hn3 hV3
      go_wp2_with fail
      go_end0
      exact HFF.out
  · have hne : ¬ lc = q + 1 := fun e => hcc e.symm
    have SUB1 : Hid (SubV wr 5 (.slice (some ⟨g, 0, none⟩) q lc) q ((wnFlat l).take (q * 5))) := Lib.hid (SubV.upto HR.out (wnFlat_one l) (by omega))
    have SUB2 : Hid (SubV wr 5 (.slice (some ⟨g, (q + 1) * 5, none⟩) (l.length - (q + 1)) (lc - (q + 1))) (l.length - (q + 1)) ((wnFlat l).drop ((q + 1) * 5))) := Lib.hid (SubV.behind HR.out (wnFlat_one l) (by omega) _)
    have HW3 : Hid (∀ b3 c3 V3, Row V3 80 5 b3 (q + (l.length - (q + 1))) c3 ([] ++ ((wnFlat l).take (q * 5)) ++ ((wnFlat l).drop ((q + 1) * 5))) → NewB wr b3 → Below wr.heap.size wr V3 → ∀ W', W' = V3.setCell ⟨p, 0, none⟩ (.slice b3 (q + (l.length - (q + 1))) c3) → Q (.returned (.tuple #[])) W') := Lib.hid fun b3 c3 V3 hr3 hn3 hV3 W' e => by
      have e1 : q + (l.length - (q + 1)) = (l.take q ++ l.drop (q + 1)).length := by rw [List.length_append, List.length_take, List.length_drop]; omega
      have e2 : ([] ++ ((wnFlat l).take (q * 5)) ++ ((wnFlat l).drop ((q + 1) * 5))) = wnFlat (l.take q ++ l.drop (q + 1)) := by
        rw [List.nil_append, wnFlat_take, wnFlat_append]
        rw [wnFlat_drop]
      have hr4 : Row V3 80 5 b3 (l.take q ++ l.drop (q + 1)).length c3 (wnFlat (l.take q ++ l.drop (q + 1))) := by rw [← e1, ← e2]; exact hr3
      obtain ⟨hf, D', g1, g2⟩ := ref_set HA.out hV3 hr4 hn3
      rw [← e1] at g1 g2
      subst e
      exact HQ.out _ _ g1 g2
    clear HQ HA HR
    go_wp2_with fail
    go_region_law
      (first
        | (refine step_chain (P := Try.prog) (t := 53) (e := 80) (k := 5) (by' := 40) Try.underlying53 infoWn rfl (Nat.succ_pos 4) (Nat.le_of_ble_eq_true rfl) rfl (.tmp 5) (.tmp 11) rfl (b := some ⟨wr.heap.size, 0, none⟩) (n := 0) (c := 0) (m := q) (xs := []) (ys := ((wnFlat l).take (q * 5))) (sv := .slice (some ⟨g, 0, none⟩) q lc) ?_ ?_ ?_ ?_ ?_ ?_
           · simp [Act.eval, Act.put]
           · simp [Act.eval, Act.put]
           · exact row_empty (by first | exact heap_new _ _ | exact hp_old _ _ _ _ (by simp) (heap_new _ _) | exact heap_alloc_at _ _ _ (by simp))
           · exact SUB1.out.below (by (try go_split_ands); repeat (first | assumption | exact Below.refl _ _ | refine bel_one ?_ _ | refine bel_two ?_))
           · omega
           intro b1 c1 V1 hr1 ht1 hf1
           have hn1 : NewB wr b1 := (NewB.lit (wr := wr) (g := wr.heap.size) (by omega)).next (_w' := V1) (by (try go_split_ands); repeat (first | assumption | exact Below.refl _ _ | refine bel_one ?_ _ | refine bel_two ?_)) hf1
           have hV1 : Below wr.heap.size wr V1 := (NewB.lit (wr := wr) (g := wr.heap.size) (by omega)).bel (by (try go_split_ands); repeat (first | assumption | exact Below.refl _ _ | refine bel_one ?_ _ | refine bel_two ?_)) ht1
           have hcxV1 : V1.cell? ⟨p, 0, none⟩ = some (.slice (some ⟨g, 0, none⟩) l.length lc) := (hV1.cell hplt).trans hcw
           have hfxV1 : V1.frozen? ⟨p, 0, none⟩ = false := (hV1.frozen hplt).trans hfw
           have hzxV1 : ¬ V1.heap.size = p := by have := hV1.size; omega)
        | (refine step_chain (P := Try.prog) (t := 53) (e := 80) (k := 5) (by' := 40) Try.underlying53 infoWn rfl (Nat.succ_pos 4) (Nat.le_of_ble_eq_true rfl) rfl (.tmp 5) (.tmp 11) rfl (b := some ⟨wr.heap.size + 1, 0, none⟩) (n := 0) (c := 0) (m := q) (xs := []) (ys := ((wnFlat l).take (q * 5))) (sv := .slice (some ⟨g, 0, none⟩) q lc) ?_ ?_ ?_ ?_ ?_ ?_
           · simp [Act.eval, Act.put]
           · simp [Act.eval, Act.put]
           · exact row_empty (by first | exact heap_new _ _ | exact hp_old _ _ _ _ (by simp) (heap_new _ _) | exact heap_alloc_at _ _ _ (by simp))
           · exact SUB1.out.below (by (try go_split_ands); repeat (first | assumption | exact Below.refl _ _ | refine bel_one ?_ _ | refine bel_two ?_))
           · omega
           intro b1 c1 V1 hr1 ht1 hf1
           have hn1 : NewB wr b1 := (NewB.lit (wr := wr) (g := wr.heap.size + 1) (by omega)).next (_w' := V1) (by (try go_split_ands); repeat (first | assumption | exact Below.refl _ _ | refine bel_one ?_ _ | refine bel_two ?_)) hf1
           have hV1 : Below wr.heap.size wr V1 := (NewB.lit (wr := wr) (g := wr.heap.size + 1) (by omega)).bel (by (try go_split_ands); repeat (first | assumption | exact Below.refl _ _ | refine bel_one ?_ _ | refine bel_two ?_)) ht1
           have hcxV1 : V1.cell? ⟨p, 0, none⟩ = some (.slice (some ⟨g, 0, none⟩) l.length lc) := (hV1.cell hplt).trans hcw
           have hfxV1 : V1.frozen? ⟨p, 0, none⟩ = false := (hV1.frozen hplt).trans hfw
           have hzxV1 : ¬ V1.heap.size = p := by have := hV1.size; omega)
        | (refine step_chain (P := Try.prog) (t := 53) (e := 80) (k := 5) (by' := 40) Try.underlying53 infoWn rfl (Nat.succ_pos 4) (Nat.le_of_ble_eq_true rfl) rfl (.tmp 12) (.tmp 19) rfl (b := b1) (n := 0 + q) (c := c1) (m := (l.length - (q + 1))) (xs := [] ++ ((wnFlat l).take (q * 5))) (ys := ((wnFlat l).drop ((q + 1) * 5))) (sv := .slice (some ⟨g, (q + 1) * 5, none⟩) (l.length - (q + 1)) (lc - (q + 1))) ?_ ?_ ?_ ?_ ?_ ?_
           · simp [Act.eval, Act.put]
           · simp [Act.eval, Act.put]
           · exact hr1
           · exact SUB2.out.below (by (try go_split_ands); repeat (first | assumption | exact Below.refl _ _ | refine bel_one ?_ _ | refine bel_two ?_))
           · omega
           intro b3 c3 V3 hr3 ht3 hf3
           have hn3 : NewB wr b3 := hn1.next (_w' := V3) (by (try go_split_ands); repeat (first | assumption | exact Below.refl _ _ | refine bel_one ?_ _ | refine bel_two ?_)) hf3
           have hV3 : Below wr.heap.size wr V3 := hn1.bel (by (try go_split_ands); repeat (first | assumption | exact Below.refl _ _ | refine bel_one ?_ _ | refine bel_two ?_)) ht3
           have hcxV3 : V3.cell? ⟨p, 0, none⟩ = some (.slice (some ⟨g, 0, none⟩) l.length lc) := (hV3.cell hplt).trans hcw
           have hfxV3 : V3.frozen? ⟨p, 0, none⟩ = false := (hV3.frozen hplt).trans hfw
           have hzxV3 : ¬ V3.heap.size = p := by have := hV3.size; omega))
    all_goals
      have HFF := Lib.hid (HW3.out b3 c3 V3 (by simpa only [Nat.zero_add, Nat.add_zero] using hr3) hn3 hV3 _ rfl)
      clear hr3 hn3 hV3
      go_wp2_with fail
      go_end0
      exact HFF.out
end Go.Proofs.Ytnemgmlhcjhdhaa
/- The document's row: let, walked. -/
namespace Go.Proofs.Ytnemgmlhcjhdhaa
open Go.RowKit
theorem wnFlat_setM : ∀ (l : List Wn) (q : Nat) (h : q < l.length) (m : Int), (wnFlat l).set (q * 5 + 2) (.int .i64 m) = wnFlat (l.set q { l[q] with mode := m })
  | [], _, h, _ => by cases h
  | x :: r, 0, _, m => by simp [wnFlat]
  | x :: r, q + 1, h, m => by
    have ih := wnFlat_setM r q (by simpa using h) m
    rw [show (q + 1) * 5 + 2 = (q * 5 + 2) + 1 + 1 + 1 + 1 + 1 by omega]
    simp only [wnFlat, List.set_cons_succ, List.getElem_cons_succ]
    rw [ih]
theorem wnFlat_setI : ∀ (l : List Wn) (q : Nat) (h : q < l.length) (b : Bool), (wnFlat l).set (q * 5 + 3) (.bool b) = wnFlat (l.set q { l[q] with isin := b })
  | [], _, h, _ => by cases h
  | x :: r, 0, _, b => by simp [wnFlat]
  | x :: r, q + 1, h, b => by
    have ih := wnFlat_setI r q (by simpa using h) b
    rw [show (q + 1) * 5 + 3 = (q * 5 + 3) + 1 + 1 + 1 + 1 + 1 by omega]
    simp only [wnFlat, List.set_cons_succ, List.getElem_cons_succ]
    rw [ih]
theorem row_frozen {w : World} {E k g n c : Nat} {xs : List Value} (h : Row w E k (some ⟨g, 0, none⟩) n c xs) (j : Nat) : w.frozen? ⟨g, j, none⟩ = false := by
  rcases h.out with ⟨e, _⟩ | ⟨g', cur, e, hg, _⟩
  · cases e
  · simp only [Option.some.injEq, Addr.mk.injEq, and_true] at e
    subst e
    simp only [World.frozen?, hg]; simp
/-- what one step does. -/
theorem stepR_at {l : List Wn} {k : ByteArray} (h : firstR l k < l.length) : stepR l k =
    if (l[firstR l k].up && hcR l k == 1) = true then some (l[firstR l k].owner, ((l.map (soleAll k)).take (firstR l k)) ++ (l.map (soleAll k)).drop (firstR l k + 1))
    else if (!l[firstR l k].up && (hcR l k == 0 || l[firstR l k].mode == 1 && !soleR l k)) = true then some (l[firstR l k].owner, l.set (firstR l k) { l[firstR l k] with isin := true }) else none := by
  unfold stepR
  rw [List.getElem?_eq_getElem h]
theorem stepR_no {l : List Wn} {k : ByteArray} (h : ¬ firstR l k < l.length) : stepR l k = none := by
  unfold stepR
  rw [List.getElem?_eq_none (by omega)]
theorem step_less {l l' : List Wn} {k : ByteArray} {o : Int} (h : stepR l k = some (o, l')) : (waitW k l').length + 1 = (waitW k l).length ∧ l'.length ≤ l.length := by
  rcases first_split (l := l) (k := k) with ⟨h1, -⟩ | ⟨A, w, B, h1, h2, h3, h4⟩
  · rw [stepR_no (by omega)] at h; cases h
  · have hwl : waitW k l = w :: waitW k B := by rw [h1, waitW_app, h3, List.nil_append, waitW_cons, if_pos h4]
    have hlt : firstR l k < l.length := by rw [← h2, h1]; simp
    have hat : l[firstR l k] = w := by
      have : l[firstR l k]? = some w := by
        rw [← h2]
        conv => lhs; rw [h1]
        rw [List.getElem?_append_right (Nat.le_refl _), Nat.sub_self]; rfl
      rw [List.getElem?_eq_getElem hlt] at this
      exact Option.some.inj this
    rw [stepR_at hlt, hat] at h
    split at h
    · simp only [Option.some.injEq, Prod.mk.injEq] at h
      obtain ⟨-, rfl⟩ := h
      have e : l.map (soleAll k) = A.map (soleAll k) ++ soleAll k w :: B.map (soleAll k) := by rw [h1, List.map_append, List.map_cons]
      have el : (A.map (soleAll k)).length = firstR l k := by rw [List.length_map, h2]
      rw [e, ← el, cut_mid, waitW_app, soleAll_wait, soleAll_wait, h3, hwl, h1]
      simp
    · split at h
      · simp only [Option.some.injEq, Prod.mk.injEq] at h
        obtain ⟨-, rfl⟩ := h
        have hset : l.set (firstR l k) { w with isin := true } = A ++ { w with isin := true } :: B := by
          rw [← h2]
          conv => lhs; rw [h1]
          rw [List.set_append_right _ _ (Nat.le_refl _), Nat.sub_self]; rfl
        have hw'1 : isW k { w with isin := true } = false := by unfold isW; simp
        rw [hset, waitW_app, h3, List.nil_append, waitW_cons, hw'1, hwl, h1]
        simp
      · cases h
theorem mem_drop {w0 w : World} {D0 : List Nat} {p : Nat} {l : List Wn} {r : List Asn} [Stables r] (h : Mem w0 D0 w (RefA p l :: r)) {q : Nat} (hql : q < l.length) (hml : l.length ≤ 100000) :
    Calls Try.prog 75 #[.pointer (some ⟨p, 0, none⟩), .int .i64 q] w fun e w' => e = .returned (.tuple #[]) ∧ Mem w0 D0 w' (RefA p (l.take q ++ l.drop (q + 1)) :: r) := by
  obtain ⟨D, hA, kk⟩ := Mem.focus [] h
  refine (drop_any p l q w D hA hql hml).mono ?_
  rintro e w' ⟨rfl, D', h1, h2⟩
  exact ⟨rfl, kk [RefA p (l.take q ++ l.drop (q + 1))] w' D' (all_one h1) h2⟩
/-- the loop's head. -/
def LtHead (w : World) (D : List Nat) (p : Nat) (k : ByteArray) (R : List Int × List Wn) (v : Value) (m : Nat) (wr : World) : Prop :=
  ∃ (I : List Int) (a : Option Addr) (ca : Nat) (cur : List Wn) (n : Nat), v = .slice a I.length ca ∧ I.length + m ≤ 100000 ∧ cur.length ≤ 100000 ∧ m = (waitW k cur).length ∧ m ≤ n ∧ R = (I ++ (letR k n cur).1, (letR k n cur).2) ∧ Mem w D wr [RowI a ca I, RefA p cur]
set_option maxRecDepth 100000 in
set_option maxHeartbeats 16000000 in
theorem rlet_any (p : Nat) (l : List Wn) (k : ByteArray) (N : Nat) (w : World) (D : List Nat) (h : RefA p l w D) (hml : l.length ≤ 50000) (hN : l.length ≤ N) :
    Calls Try.prog 50 #[.pointer (some ⟨p, 0, none⟩), .string k] w fun e w' => ∃ a c, e = .returned (.slice a (letR k N l).1.length c) ∧ Mem w D w' [RowI a c (letR k N l).1, RefA p (letR k N l).2] := by
  have hw0 : (waitW k l).length ≤ l.length := List.length_filter_le _ _
  have HI : Hid (LtHead w D p k (letR k N l) (.slice none 0 0) (waitW k l).length w) := Lib.hid ⟨[], none, 0, l, N, rfl, by simp; omega, by omega, rfl, by omega, by simp, (Mem.start h).new (Below.refl _ _) (As := [RowI none 0 []]) (all_one ⟨rfl, Row.nil _ _ _⟩) (by simp [blkOf])⟩
  generalize letR k N l = R at *
  generalize (waitW k l).length = m0 at *
  clear h hml hN hw0
  go_enter Try.func50, Try.ntmps50
  go_wp2_with fail
  go_loopg [5] m0 (fun m v wr => Hid (LtHead w D p k R v m wr))
  case atStart => exact HI
  case round =>
    obtain ⟨w1, rfl⟩ : ∃ w1, w1 = wr := ⟨_, rfl⟩
    obtain ⟨I, a, ca, cur, n, rfl, hIl, hcl, rfl, hmn, hR, hm⟩ := hrel.out
    have hRF : RfAt w1 p cur := RfAt.mem (r := [RowI a ca I]) (Mem.swap [] (r := []) hm)
    have HFST := Lib.hid (first_any p cur k w1 hRF (by omega))
    have HHN := Lib.hid fun W (hb : Below w1.heap.size w1 W) => holdersN_any p cur k W (hRF.below hb) (by omega)
    clear HI hrel hRF
    have HRET : Hid (∀ W, stepR cur k = none → Mem w D W [RowI a ca I, RefA p cur] → I = R.1 ∧ Mem w D W [RowI a ca R.1, RefA p R.2]) := Lib.hid fun W hst hW => by
      have hlr : letR k n cur = ([], cur) := by
        cases n with
        | zero => rfl
        | succ n => unfold letR; rw [hst]
      rw [hlr] at hR
      rw [hR]
      exact ⟨by simp, by simpa using hW⟩
    have HNEXT : Hid (∀ o cur' W b c, stepR cur k = some (o, cur') → Mem w D W [RowI b c (I ++ [o]), RefA p cur'] → LtHead w D p k R (.slice b (I.length + 1) c) (waitW k cur').length W ∧ (waitW k cur').length < (waitW k cur).length) := Lib.hid fun o cur' W b c hst hW => by
      obtain ⟨h1, h2⟩ := step_less hst
      obtain ⟨n', rfl⟩ : ∃ n', n = n' + 1 := ⟨n - 1, by omega⟩
      have hlr : letR k (n' + 1) cur = (o :: (letR k n' cur').1, (letR k n' cur').2) := by conv => lhs; unfold letR; rw [hst]
      rw [hlr] at hR
      exact ⟨⟨I ++ [o], b, c, cur', n', by rw [List.length_append]; rfl, by rw [List.length_append, List.length_singleton]; omega, by omega, rfl, by omega, by rw [hR, List.append_assoc]; rfl, hW⟩, by omega⟩
    have hI1 : I.length ≤ 100000 := by omega
    by_cases hq : firstR cur k < cur.length
    · have hst := stepR_at hq
      have hfi : firstI cur k = (firstR cur k : Nat) := by unfold firstI; rw [if_pos hq]
      rw [hfi] at HFST
      obtain ⟨ra, rn, rc, hm2⟩ := Mem.refOpen (r := [RowI a ca I]) (Mem.swap [] (r := []) hm)
      have hrow := Mem.rowAt [BlockA p #[.slice ra rn rc] 55] (r := [RowI a ca I]) hm2
      have hrn : rn = cur.length := by have := hrow.len; rw [wnFlat_len] at this; omega
      subst hrn
      obtain ⟨g, rfl, -⟩ := wnAt_row hrow _ hq
      have HM2 := Lib.hid hm2
      have HST := Lib.hid hst
      clear hm hm2 hrow hst hfi hR hmn hIl
      generalize firstR cur k = q at *
      go_wp2_with fail
      refine HFST.out.mono ?_
      rintro e w2 ⟨rfl, hb⟩
      have hm3 := HM2.out.below hb
      obtain ⟨hcp, -⟩ := Mem.cellAt (i := 0) (v := .slice (some ⟨g, 0, none⟩) cur.length rc) [] (r := [RowA 80 5 (some ⟨g, 0, none⟩) cur.length rc (wnFlat cur), RowI a ca I]) hm3 rfl
      obtain ⟨g', e', hx⟩ := wnAt_row (Mem.rowAt [BlockA p #[.slice (some ⟨g, 0, none⟩) cur.length rc] 55] (r := [RowI a ca I]) hm3) q hq
      simp only [Option.some.injEq, Addr.mk.injEq, and_true] at e'
      subst e'
      obtain ⟨c0, c1, c2, c3, c4⟩ := hx
      have HCX : Hid (∀ h : q < cur.length, cur[q] = cur[q]) := Lib.hid fun _ => rfl
      have HEX := Lib.hid (show ∀ b : Bool, { cur[q] with isin := b } = { cur[q] with isin := b } from fun _ => rfl)
      have HB1 := Lib.hid hb
      have HM3 := Lib.hid hm3
      clear HCX HEX hm3 hb HM2 HFST
      generalize hx : cur[q] = x at *
      have HX := Lib.hid hx
      clear hx
      obtain ⟨xk, xo, xm, xi, xu⟩ := x
      simp only at c0 c1 c2 c3 c4 HST
      have hqz : (0 : Int) ≤ (q : Int) := by omega
      have hqn : (q : Int) < (cur.length : Int) := by omega
      have hq0 : decide ((q : Int) < 0) = false := decide_eq_false (by omega)
      have HM4 := Lib.hid (HM3.out.block #[.string xk, .int .i64 xo, .int .i64 xm, .bool xi, .bool xu] 80)
      have HB2 := Lib.hid (bel_one HB1.out (.cells #[.string xk, .int .i64 xo, .int .i64 xm, .bool xi, .bool xu] 80))
      clear HB1 HM3
      go_wp2_with fail
      obtain ⟨w3, hw3⟩ : ∃ w3, w3 = w2.alloc (.cells #[.string xk, .int .i64 xo, .int .i64 xm, .bool xi, .bool xu] 80) := ⟨_, rfl⟩
      rw [← hw3] at HM4 HB2 ⊢
      clear hw3 c0 c1 c2 c3 c4 hcp
      generalize w2.heap.size = b7 at *
      refine (HHN.out w3 HB2.out).mono ?_
      rintro e w4 ⟨rfl, hb⟩
      have HM5 := Lib.hid (HM4.out.below hb)
      clear hb HM4 HB2 HHN hq0
      obtain ⟨y1, -⟩ := cell_of_heap (i := 1) (v := .int .i64 xo) (Mem.blk HM5.out (g := b7) (cur := #[.string xk, .int .i64 xo, .int .i64 xm, .bool xi, .bool xu]) (T := 80) (by simp)) rfl
      obtain ⟨y2, -⟩ := cell_of_heap (i := 2) (v := .int .i64 xm) (Mem.blk HM5.out (g := b7) (cur := #[.string xk, .int .i64 xo, .int .i64 xm, .bool xi, .bool xu]) (T := 80) (by simp)) rfl
      obtain ⟨y4, -⟩ := cell_of_heap (i := 4) (v := .bool xu) (Mem.blk HM5.out (g := b7) (cur := #[.string xk, .int .i64 xo, .int .i64 xm, .bool xi, .bool xu]) (T := 80) (by simp)) rfl
      obtain ⟨hcp, -⟩ := Mem.cellAt (i := 0) (v := .slice (some ⟨g, 0, none⟩) cur.length rc) [BlockA b7 #[.string xk, .int .i64 xo, .int .i64 xm, .bool xi, .bool xu] 80] (r := [RowA 80 5 (some ⟨g, 0, none⟩) cur.length rc (wnFlat cur), RowI a ca I]) HM5.out rfl
      generalize hcR cur k = hc at *
      generalize soleR cur k = so at *
      cases xu with
      | true =>
        cases h1 : (hc == 1) with
        | true =>
          have HS : Hid (stepR cur k = some (xo, ((cur.map (soleAll k)).take q) ++ (cur.map (soleAll k)).drop (q + 1))) := Lib.hid (by rw [HST.out, h1]; rfl)
          have h1' : ((hc : Int) == 1) = true := by rw [beq_iff_eq] at h1 ⊢; omega
          have hcl2 : (cur.length : Int) ≤ 100000 := by omega
          go_wp2_with fail
          clear y1 y2 y4
          go_loopw [41] (fun jv wr => ∃ j : Nat, j ≤ cur.length ∧ jv = .int .i64 j ∧ Hid (Mem w D wr [BlockA b7 #[.string xk, .int .i64 xo, .int .i64 xm, .bool xi, .bool true] 80, BlockA p #[.slice (some ⟨g, 0, none⟩) cur.length rc] 55, RowA 80 5 (some ⟨g, 0, none⟩) cur.length rc (wnFlat ((cur.take j).map (soleAll k) ++ cur.drop j)), RowI a ca I])) (fun jv _ => cur.length - (intOf jv).toNat)
          case atStart => exact ⟨0, Nat.zero_le _, rfl, Lib.hid (by simpa using HM5.out)⟩
          case round =>
            obtain ⟨w5, rfl⟩ : ∃ w5, w5 = wr := ⟨_, rfl⟩
            obtain ⟨j, hj, rfl, HMJ⟩ := hrel
            clear HM5 hcp
            obtain ⟨hcp, -⟩ := Mem.cellAt (i := 0) (v := .slice (some ⟨g, 0, none⟩) cur.length rc) [BlockA b7 #[.string xk, .int .i64 xo, .int .i64 xm, .bool xi, .bool true] 80] (r := [RowA 80 5 (some ⟨g, 0, none⟩) cur.length rc (wnFlat ((cur.take j).map (soleAll k) ++ cur.drop j)), RowI a ca I]) HMJ.out rfl
            by_cases hltj : j < cur.length
            · have hjl : j < ((cur.take j).map (soleAll k) ++ cur.drop j).length := by simp; omega
              have hje : ((cur.take j).map (soleAll k) ++ cur.drop j)[j] = cur[j] := by
                rw [List.getElem_append_right (by simp; omega)]
                simp [Nat.min_eq_left (Nat.le_of_lt hltj)]
              have hrow := Mem.rowAt [BlockA b7 #[.string xk, .int .i64 xo, .int .i64 xm, .bool xi, .bool true] 80, BlockA p #[.slice (some ⟨g, 0, none⟩) cur.length rc] 55] (r := [RowI a ca I]) HMJ.out
              obtain ⟨g0, g1, g2, g3, g4⟩ := wnFlat_get ((cur.take j).map (soleAll k) ++ cur.drop j) j hjl
              rw [hje] at g0 g1 g2 g3 g4
              obtain ⟨d0, -⟩ := row_cell hrow g0
              obtain ⟨d2, f2⟩ := row_cell hrow g2
              obtain ⟨d3, -⟩ := row_cell hrow g3
              have hnx : (cur.take (j + 1)).map (soleAll k) ++ cur.drop (j + 1) = ((cur.take j).map (soleAll k) ++ cur.drop j).set j (soleAll k cur[j]) := by
                rw [List.set_append_right _ _ (by simp; omega), List.take_succ_eq_append_getElem hltj, List.map_append, List.append_assoc]
                congr 1
                rw [List.length_map, List.length_take, Nat.min_eq_left (Nat.le_of_lt hltj), Nat.sub_self]
                conv => rhs; rw [List.drop_eq_getElem_cons hltj]
                rfl
              have hsm : ((cur.take j).map (soleAll k) ++ cur.drop j).set j cur[j] = ((cur.take j).map (soleAll k) ++ cur.drop j) := by
                have e := List.set_getElem_self hjl
                rw [hje] at e
                exact e
              have hset := Mem.rowSet [BlockA b7 #[.string xk, .int .i64 xo, .int .i64 xm, .bool xi, .bool true] 80, BlockA p #[.slice (some ⟨g, 0, none⟩) cur.length rc] 55] (r := [RowI a ca I]) HMJ.out (j * 5 + 2) (.int .i64 2)
              rw [wnFlat_setM _ j hjl 2, hje] at hset
              have HSET := Lib.hid hset
              have HNX := Lib.hid hnx
              have HSM := Lib.hid hsm
              have HSO : Hid (isH k cur[j] = (cur[j].key.toList == k.toList && cur[j].isin)) := Lib.hid (isH_eq k _)
              have HNO : Hid (isH k cur[j] = false → Mem w D w5 [BlockA b7 #[.string xk, .int .i64 xo, .int .i64 xm, .bool xi, .bool true] 80, BlockA p #[.slice (some ⟨g, 0, none⟩) cur.length rc] 55, RowA 80 5 (some ⟨g, 0, none⟩) cur.length rc (wnFlat ((cur.take (j + 1)).map (soleAll k) ++ cur.drop (j + 1))), RowI a ca I]) := Lib.hid fun hf => by
                rw [hnx, show soleAll k cur[j] = cur[j] by unfold soleAll; rw [hf]; rfl, hsm]; exact HMJ.out
              have HYE : Hid (isH k cur[j] = true → Mem w D (w5.setCell ⟨g, j * 5 + 2, none⟩ (.int .i64 2)) [BlockA b7 #[.string xk, .int .i64 xo, .int .i64 xm, .bool xi, .bool true] 80, BlockA p #[.slice (some ⟨g, 0, none⟩) cur.length rc] 55, RowA 80 5 (some ⟨g, 0, none⟩) cur.length rc (wnFlat ((cur.take (j + 1)).map (soleAll k) ++ cur.drop (j + 1))), RowI a ca I]) := Lib.hid fun hf => by
                rw [hnx, show soleAll k cur[j] = { cur[j] with mode := 2 } by unfold soleAll; rw [hf]; rfl]; exact hset
              clear hnx hsm hset hrow g0 g1 g2 g3 g4 hje hjl HSET HNX HSM HMJ
              have hjz : (0 : Int) ≤ (j : Int) := by omega
              have hjn : (j : Int) < (cur.length : Int) := by omega
              generalize cur[j] = y at *
              obtain ⟨yk, yo, ym, yi, yu⟩ := y
              simp only at d0 d2 d3 HSO
              cases p1 : (yk.toList == k.toList) with
              | false =>
                have HE := Lib.hid (HNO.out (by rw [HSO.out, p1]; rfl))
                clear HNO HYE HSO
                go_wp2_with fail
                go_roundw
                case rel => exact ⟨j + 1, by omega, by go_num, HE⟩
                case measure => simp [intOf]; omega
              | true =>
                cases yi with
                | false =>
                  have HE := Lib.hid (HNO.out (by rw [HSO.out, p1]; rfl))
                  clear HNO HYE HSO
                  go_wp2_with fail
                  go_roundw
                  case rel => exact ⟨j + 1, by omega, by go_num, HE⟩
                  case measure => simp [intOf]; omega
                | true =>
                  have HE := Lib.hid (HYE.out (by rw [HSO.out, p1]; rfl))
                  clear HNO HYE HSO
                  go_wp2_with fail
                  go_roundw
                  case rel => exact ⟨j + 1, by omega, by go_num, HE⟩
                  case measure => simp [intOf]; omega
            · obtain rfl : j = cur.length := by omega
              have hm6 := HMJ.out
              rw [List.take_length, List.drop_length, List.append_nil] at hm6
              have hm7 := hm6.perm (l' := BlockA p #[.slice (some ⟨g, 0, none⟩) cur.length rc] 55 :: RowA 80 5 (some ⟨g, 0, none⟩) cur.length rc (wnFlat (cur.map (soleAll k))) :: [RowI a ca I, BlockA b7 #[.string xk, .int .i64 xo, .int .i64 xm, .bool xi, .bool true] 80]) (perm_ct fun x => by simp only [cnt_cons, cnt_nil]; omega)
              have HDR := Lib.hid (mem_drop (r := [RowI a ca I, BlockA b7 #[.string xk, .int .i64 xo, .int .i64 xm, .bool xi, .bool true] 80]) (Mem.refShut hm7) (by rw [List.length_map]; exact hq) (by rw [List.length_map]; omega))
              clear hm6 hm7 HMJ hcp
              go_wp2_with fail
              refine HDR.out.mono ?_
              rintro e w6 ⟨rfl, hm8⟩
              obtain ⟨y1, -⟩ := cell_of_heap (i := 1) (v := .int .i64 xo) (Mem.blk hm8 (g := b7) (cur := #[.string xk, .int .i64 xo, .int .i64 xm, .bool xi, .bool true]) (T := 80) (by simp)) rfl
              obtain ⟨b6, c6, w7, hrun, hnr⟩ := RowI.app [RefA p ((cur.map (soleAll k)).take q ++ (cur.map (soleAll k)).drop (q + 1))] (r := [BlockA b7 #[.string xk, .int .i64 xo, .int .i64 xm, .bool xi, .bool true] 80]) hm8 xo (by omega)
              have HRUN := Lib.hid hrun
              have hm9 := Mem.cutTo [RefA p ((cur.map (soleAll k)).take q ++ (cur.map (soleAll k)).drop (q + 1)), RowI b6 c6 (I ++ [xo])] (r := [BlockA b7 #[.string xk, .int .i64 xo, .int .i64 xm, .bool xi, .bool true] 80]) hnr
              have HF := Lib.hid (HNEXT.out _ _ w7 b6 c6 HS.out (Mem.swap [] (r := []) hm9))
              clear hrun hnr hm8 hm9 HDR HS HRET HNEXT HST HX
              go_wp2_with ((at_builtin; refine wpList_appendR _ rfl (.tmp 99) (.tmp 102) 43 43 rfl (.slice a I.length ca) (.slice (some ⟨w6.heap.size, 0, none⟩) 1 1) rfl rfl HRUN.out ?_))
              go_roundg (waitW k ((cur.map (soleAll k)).take q ++ (cur.map (soleAll k)).drop (q + 1))).length
              case rel => exact HF.out.1
              case measure => exact HF.out.2
        | false =>
          have HS : Hid (stepR cur k = none) := Lib.hid (by rw [HST.out, h1]; rfl)
          have h1' : ((hc : Int) == 1) = false := by rw [beq_eq_false_iff_ne] at h1 ⊢; omega
          have HF := Lib.hid (HRET.out w4 HS.out (Mem.swap [] (r := []) (Mem.refShut (r := [RowI a ca I]) (Mem.drop [] (r := [BlockA p #[.slice (some ⟨g, 0, none⟩) cur.length rc] 55, RowA 80 5 (some ⟨g, 0, none⟩) cur.length rc (wnFlat cur), RowI a ca I]) HM5.out))))
          clear HS HM5 HRET HNEXT HST HX
          go_wp2_with fail
          go_ret
          exact ⟨a, ca, by rw [← HF.out.1]; rfl, HF.out.2⟩
      | false =>
        cases h0 : (hc == 0) with
        | true =>
          have HS : Hid (stepR cur k = some (xo, cur.set q { key := xk, owner := xo, mode := xm, isin := true, up := false })) := Lib.hid (by rw [HST.out, h0]; rfl)
          have h0' : ((hc : Int) == 0) = true := by rw [beq_iff_eq] at h0 ⊢; omega
          have hfz := row_frozen (Mem.rowAt [BlockA b7 #[.string xk, .int .i64 xo, .int .i64 xm, .bool xi, .bool false] 80, BlockA p #[.slice (some ⟨g, 0, none⟩) cur.length rc] 55] (r := [RowI a ca I]) HM5.out) (q * 5 + 3)
          obtain ⟨hcz, -⟩ := row_cell (Mem.rowAt [BlockA b7 #[.string xk, .int .i64 xo, .int .i64 xm, .bool xi, .bool false] 80, BlockA p #[.slice (some ⟨g, 0, none⟩) cur.length rc] 55] (r := [RowI a ca I]) HM5.out) (wnFlat_get cur q hq).2.2.2.1
          have hm6 := Mem.rowSet [BlockA b7 #[.string xk, .int .i64 xo, .int .i64 xm, .bool xi, .bool false] 80, BlockA p #[.slice (some ⟨g, 0, none⟩) cur.length rc] 55] (r := [RowI a ca I]) HM5.out (q * 5 + 3) (.bool true)
          rw [wnFlat_setI cur q hq true, HX.out] at hm6
          have HM6 := Lib.hid hm6
          clear hm6
          go_upto_region 18 with (fail)
          obtain ⟨w5, hw5⟩ : ∃ w5, w5 = w4.setCell ⟨g, q * 5 + 3, none⟩ (.bool true) := ⟨_, rfl⟩
          rw [← hw5] at HM6 ⊢
          clear hw5 HM5 y1 y2 y4 hcp hfz hcz
          obtain ⟨y1, -⟩ := cell_of_heap (i := 1) (v := .int .i64 xo) (Mem.blk HM6.out (g := b7) (cur := #[.string xk, .int .i64 xo, .int .i64 xm, .bool xi, .bool false]) (T := 80) (by simp)) rfl
          have hln : (cur.set q { key := xk, owner := xo, mode := xm, isin := true, up := false }).length = cur.length := List.length_set
          obtain ⟨b6, c6, w6, hrun, hnr⟩ := RowI.app [BlockA b7 #[.string xk, .int .i64 xo, .int .i64 xm, .bool xi, .bool false] 80, BlockA p #[.slice (some ⟨g, 0, none⟩) cur.length rc] 55, RowA 80 5 (some ⟨g, 0, none⟩) cur.length rc (wnFlat (cur.set q { key := xk, owner := xo, mode := xm, isin := true, up := false }))] (r := []) HM6.out xo (by omega)
          have HRUN := Lib.hid hrun
          have hm7 := Mem.drop [] (r := [BlockA p #[.slice (some ⟨g, 0, none⟩) cur.length rc] 55, RowA 80 5 (some ⟨g, 0, none⟩) cur.length rc (wnFlat (cur.set q { key := xk, owner := xo, mode := xm, isin := true, up := false })), RowI b6 c6 (I ++ [xo])]) hnr
          have HF := Lib.hid (HNEXT.out _ _ w6 b6 c6 HS.out (Mem.swap [] (r := []) (Mem.refShut (r := [RowI b6 c6 (I ++ [xo])]) hm7)))
          clear hrun hnr hm7 HM6 HS HRET HNEXT HST HX hln
          go_wp2_with ((at_builtin; refine wpList_appendR _ rfl (.tmp 99) (.tmp 102) 43 43 rfl (.slice a I.length ca) (.slice (some ⟨w5.heap.size, 0, none⟩) 1 1) rfl rfl HRUN.out ?_))
          go_roundg (waitW k (cur.set q { key := xk, owner := xo, mode := xm, isin := true, up := false })).length
          case rel => exact HF.out.1
          case measure => exact HF.out.2
        | false =>
          have h0' : ((hc : Int) == 0) = false := by rw [beq_eq_false_iff_ne] at h0 ⊢; omega
          cases h2 : (xm == 1) with
          | false =>
            have HS : Hid (stepR cur k = none) := Lib.hid (by rw [HST.out, h0, h2]; rfl)
            have HF := Lib.hid (HRET.out w4 HS.out (Mem.swap [] (r := []) (Mem.refShut (r := [RowI a ca I]) (Mem.drop [] (r := [BlockA p #[.slice (some ⟨g, 0, none⟩) cur.length rc] 55, RowA 80 5 (some ⟨g, 0, none⟩) cur.length rc (wnFlat cur), RowI a ca I]) HM5.out))))
            clear HS HM5 HRET HNEXT HST HX
            go_wp2_with fail
            go_ret
            exact ⟨a, ca, by rw [← HF.out.1]; rfl, HF.out.2⟩
          | true =>
            cases so with
            | true =>
              have HS : Hid (stepR cur k = none) := Lib.hid (by rw [HST.out, h0, h2]; rfl)
              have HF := Lib.hid (HRET.out w4 HS.out (Mem.swap [] (r := []) (Mem.refShut (r := [RowI a ca I]) (Mem.drop [] (r := [BlockA p #[.slice (some ⟨g, 0, none⟩) cur.length rc] 55, RowA 80 5 (some ⟨g, 0, none⟩) cur.length rc (wnFlat cur), RowI a ca I]) HM5.out))))
              clear HS HM5 HRET HNEXT HST HX
              go_wp2_with fail
              go_ret
              exact ⟨a, ca, by rw [← HF.out.1]; rfl, HF.out.2⟩
            | false =>
              have HS : Hid (stepR cur k = some (xo, cur.set q { key := xk, owner := xo, mode := xm, isin := true, up := false })) := Lib.hid (by rw [HST.out, h0, h2]; rfl)
              have hfz := row_frozen (Mem.rowAt [BlockA b7 #[.string xk, .int .i64 xo, .int .i64 xm, .bool xi, .bool false] 80, BlockA p #[.slice (some ⟨g, 0, none⟩) cur.length rc] 55] (r := [RowI a ca I]) HM5.out) (q * 5 + 3)
              obtain ⟨hcz, -⟩ := row_cell (Mem.rowAt [BlockA b7 #[.string xk, .int .i64 xo, .int .i64 xm, .bool xi, .bool false] 80, BlockA p #[.slice (some ⟨g, 0, none⟩) cur.length rc] 55] (r := [RowI a ca I]) HM5.out) (wnFlat_get cur q hq).2.2.2.1
              have hm6 := Mem.rowSet [BlockA b7 #[.string xk, .int .i64 xo, .int .i64 xm, .bool xi, .bool false] 80, BlockA p #[.slice (some ⟨g, 0, none⟩) cur.length rc] 55] (r := [RowI a ca I]) HM5.out (q * 5 + 3) (.bool true)
              rw [wnFlat_setI cur q hq true, HX.out] at hm6
              have HM6 := Lib.hid hm6
              clear hm6
              go_upto_region 18 with (fail)
              obtain ⟨w5, hw5⟩ : ∃ w5, w5 = w4.setCell ⟨g, q * 5 + 3, none⟩ (.bool true) := ⟨_, rfl⟩
              rw [← hw5] at HM6 ⊢
              clear hw5 HM5 y1 y2 y4 hcp hfz hcz
              obtain ⟨y1, -⟩ := cell_of_heap (i := 1) (v := .int .i64 xo) (Mem.blk HM6.out (g := b7) (cur := #[.string xk, .int .i64 xo, .int .i64 xm, .bool xi, .bool false]) (T := 80) (by simp)) rfl
              have hln : (cur.set q { key := xk, owner := xo, mode := xm, isin := true, up := false }).length = cur.length := List.length_set
              obtain ⟨b6, c6, w6, hrun, hnr⟩ := RowI.app [BlockA b7 #[.string xk, .int .i64 xo, .int .i64 xm, .bool xi, .bool false] 80, BlockA p #[.slice (some ⟨g, 0, none⟩) cur.length rc] 55, RowA 80 5 (some ⟨g, 0, none⟩) cur.length rc (wnFlat (cur.set q { key := xk, owner := xo, mode := xm, isin := true, up := false }))] (r := []) HM6.out xo (by omega)
              have HRUN := Lib.hid hrun
              have hm7 := Mem.drop [] (r := [BlockA p #[.slice (some ⟨g, 0, none⟩) cur.length rc] 55, RowA 80 5 (some ⟨g, 0, none⟩) cur.length rc (wnFlat (cur.set q { key := xk, owner := xo, mode := xm, isin := true, up := false })), RowI b6 c6 (I ++ [xo])]) hnr
              have HF := Lib.hid (HNEXT.out _ _ w6 b6 c6 HS.out (Mem.swap [] (r := []) (Mem.refShut (r := [RowI b6 c6 (I ++ [xo])]) hm7)))
              clear hrun hnr hm7 HM6 HS HRET HNEXT HST HX hln
              go_wp2_with ((at_builtin; refine wpList_appendR _ rfl (.tmp 99) (.tmp 102) 43 43 rfl (.slice a I.length ca) (.slice (some ⟨w5.heap.size, 0, none⟩) 1 1) rfl rfl HRUN.out ?_))
              go_roundg (waitW k (cur.set q { key := xk, owner := xo, mode := xm, isin := true, up := false })).length
              case rel => exact HF.out.1
              case measure => exact HF.out.2
    · have hst := stepR_no hq
      have hfi : firstI cur k = -1 := by unfold firstI; rw [if_neg hq]
      rw [hfi] at HFST
      have HM := Lib.hid hm
      clear hm hfi hR hmn hIl hq
      go_wp2_with fail
      refine HFST.out.mono ?_
      rintro e w2 ⟨rfl, hb⟩
      have HF := Lib.hid (HRET.out w2 hst (HM.out.below hb))
      clear hb HM HFST HHN HNEXT hst
      go_wp2_with fail
      go_ret
      exact ⟨a, ca, by rw [← HF.out.1]; rfl, HF.out.2⟩
end Go.Proofs.Ytnemgmlhcjhdhaa
/- The document's row: Leave, walked. -/
namespace Go.Proofs.Ytnemgmlhcjhdhaa
open Go.RowKit
theorem mem_rlet {w0 w : World} {D0 : List Nat} {p : Nat} {l : List Wn} {r : List Asn} [Stables r] (h : Mem w0 D0 w (RefA p l :: r)) (k : ByteArray) (N : Nat) (hml : l.length ≤ 50000) (hN : l.length ≤ N) :
    Calls Try.prog 50 #[.pointer (some ⟨p, 0, none⟩), .string k] w fun e w' => ∃ a c, e = .returned (.slice a (letR k N l).1.length c) ∧ Mem w0 D0 w' (RowI a c (letR k N l).1 :: RefA p (letR k N l).2 :: r) := by
  obtain ⟨D, hA, kk⟩ := Mem.focus [] h
  refine (rlet_any p l k N w D hA hml hN).mono ?_
  rintro e w' ⟨a, c, rfl, hm⟩
  obtain ⟨D', h1, h2⟩ := hm.out
  exact ⟨a, c, rfl, kk _ w' D' h1 h2⟩
theorem letR_len (k : ByteArray) : ∀ (n : Nat) (l : List Wn), (letR k n l).2.length ≤ l.length ∧ (letR k n l).1.length ≤ n
  | 0, l => ⟨Nat.le_refl _, Nat.le_refl _⟩
  | n + 1, l => by
    unfold letR
    split
    · exact ⟨Nat.le_refl _, Nat.zero_le _⟩
    · rename_i o l' h
      obtain ⟨h1, h2⟩ := letR_len k n l'
      have := (step_less h).2
      exact ⟨by simp only; omega, by simp only [List.length_cons]; omega⟩
theorem letsR_take {r : List Wn} {l : List Wn} {i : Nat} (h : i < r.length) : letsR (r.take (i + 1)) l = ((letsR (r.take i) l).1 ++ (letR r[i].key (letsR (r.take i) l).2.length (letsR (r.take i) l).2).1, (letR r[i].key (letsR (r.take i) l).2.length (letsR (r.take i) l).2).2) := by
  induction r generalizing l i with
  | nil => cases h
  | cons w r ih =>
    cases i with
    | zero => simp [letsR]
    | succ i =>
      have h' : i < r.length := by simpa using h
      simp only [List.take_succ_cons, letsR, List.getElem_cons_succ]
      rw [ih h']
      simp [List.append_assoc]
theorem letsR_len (l : List Wn) : ∀ (r : List Wn) (n : Nat), l.length ≤ n → (letsR r l).2.length ≤ l.length ∧ (letsR r l).1.length ≤ r.length * n
  | [], n, _ => ⟨Nat.le_refl _, Nat.zero_le _⟩
  | w :: r, n, hn => by
    obtain ⟨h1, h2⟩ := letR_len w.key l.length l
    obtain ⟨h3, h4⟩ := letsR_len (letR w.key l.length l).2 r n (by omega)
    unfold letsR
    refine ⟨by simp only; omega, ?_⟩
    simp only [List.length_append, List.length_cons, Nat.succ_mul]
    omega
theorem outR_next {l : List Wn} {o : Int} {i : Nat} (h : i < l.length) : outR (l.take (i + 1)) o = outR (l.take i) o ++ (if (!(l[i].owner == o)) = true then [l[i]] else []) := by
  unfold outR
  rw [List.take_succ_eq_append_getElem h, List.filter_append, List.filter_cons]; rfl
set_option maxRecDepth 100000 in
set_option maxHeartbeats 16000000 in
theorem rleave_any (p : Nat) (l : List Wn) (o : Int) (w : World) (D : List Nat) (h : RefA p l w D) (hml : l.length ≤ 200) :
    Calls Try.prog 26 #[.pointer (some ⟨p, 0, none⟩), .int .i64 o] w fun e w' => ∃ a c, e = .returned (.slice a (riseI (leaveR l o).1).length c) ∧ Mem w D w' [RowI a c (riseI (leaveR l o).1), RefA p (leaveR l o).2] := by
  obtain ⟨la, n, lc, hm0⟩ := Mem.refOpen (Mem.start h)
  have hrow := Mem.rowAt [BlockA p #[.slice la n lc] 55] (r := []) hm0
  have hrn : n = l.length := by have := hrow.len; rw [wnFlat_len] at this; omega
  subst hrn
  have M0 := Lib.hid ((hm0.new (Below.refl _ _) (As := [RowA 80 5 none 0 0 (wnFlat [])]) (all_one ⟨rfl, Row.nil _ _ _⟩) (by simp [blkOf])))
  obtain ⟨hcp, -⟩ := Mem.cellAt (i := 0) (v := .slice la l.length lc) [] (r := [RowA 80 5 la l.length lc (wnFlat l)]) hm0 rfl
  clear h hrow hm0
  go_enter Try.func26, Try.ntmps26
  go_wp2_with fail
  go_loopw [5, 17] (fun v jv wr => ∃ i : Nat, i ≤ l.length ∧ jv = .int .i64 i ∧ Hid (∃ a ca m, v = .slice a m ca ∧ m = (outR (l.take i) o).length ∧ Mem w D wr [RowA 80 5 a m ca (wnFlat (outR (l.take i) o)), BlockA p #[.slice la l.length lc] 55, RowA 80 5 la l.length lc (wnFlat l)])) (fun _ jv _ => l.length - (intOf jv).toNat)
  case atStart => exact ⟨0, Nat.zero_le _, rfl, Lib.hid ⟨none, 0, 0, rfl, rfl, M0.out⟩⟩
  case round =>
    obtain ⟨w1, rfl⟩ : ∃ w1, w1 = wr := ⟨_, rfl⟩
    obtain ⟨i, hi, rfl, hS⟩ := hrel
    clear M0 hcp
    obtain ⟨a, ca, m, rfl, hmm, hm⟩ := hS.out
    clear hS
    by_cases hlt : i < l.length
    · obtain ⟨g, rfl, hx⟩ := wnAt_row (Mem.rowAt [RowA 80 5 a m ca (wnFlat (outR (l.take i) o)), BlockA p #[.slice la l.length lc] 55] (r := []) hm) i hlt
      obtain ⟨c0, c1, c2, c3, c4⟩ := hx
      have HNX := Lib.hid (outR_next (o := o) hlt)
      have hol : m ≤ 200 := by
        have : (outR (l.take i) o).length ≤ (l.take i).length := List.length_filter_le _ _
        rw [List.length_take] at this; omega
      have HMM := Lib.hid hmm
      clear hmm
      generalize l[i] = x at *
      obtain ⟨xk, xo, xm, xi, xu⟩ := x
      simp only at c0 c1 c2 c3 c4 HNX
      generalize outR (l.take i) o = O at *
      have M1 := Lib.hid (hm.block #[.string xk, .int .i64 xo, .int .i64 xm, .bool xi, .bool xu] 80)
      clear hm
      cases q1 : (xo == o) with
      | true =>
        have q2 : (xo != o) = false := by simp only [bne, q1, Bool.not_true]
        have HE : Hid (outR (l.take (i + 1)) o = O) := Lib.hid (by rw [HNX.out, q1]; simp)
        have HM := Lib.hid (Mem.drop [] (r := [RowA 80 5 a m ca (wnFlat O), BlockA p #[.slice (some ⟨g, 0, none⟩) l.length lc] 55, RowA 80 5 (some ⟨g, 0, none⟩) l.length lc (wnFlat l)]) M1.out)
        clear HNX M1
        go_wp2_with fail
        go_roundw
        case rel => exact ⟨i + 1, by omega, by go_num, Lib.hid ⟨a, ca, m, rfl, by rw [HE.out]; exact HMM.out, by rw [HE.out]; exact HM.out⟩⟩
        case measure => simp [intOf]; omega
      | false =>
        have q2 : (xo != o) = true := by simp only [bne, q1, Bool.not_false]
        have HE : Hid (outR (l.take (i + 1)) o = O ++ [⟨xk, xo, xm, xi, xu⟩]) := Lib.hid (by rw [HNX.out, q1]; simp)
        obtain ⟨b6, c6, w6, hrun, hnr⟩ := Mem.app1 (P := Try.prog) (t := 53) (ty := 53) [BlockA w1.heap.size #[.string xk, .int .i64 xo, .int .i64 xm, .bool xi, .bool xu] 80] (r := [BlockA p #[.slice (some ⟨g, 0, none⟩) l.length lc] 55, RowA 80 5 (some ⟨g, 0, none⟩) l.length lc (wnFlat l)]) Try.underlying53 infoWn (by rfl) (by decide) M1.out [.string xk, .int .i64 xo, .int .i64 xm, .bool xi, .bool xu] (by rfl) (by simp [Value.oneCell']) (by omega) (by decide)
        rw [show (w1.alloc (.cells #[.string xk, .int .i64 xo, .int .i64 xm, .bool xi, .bool xu] 80)).heap.size = w1.heap.size + 1 by simp only [World.size_alloc]] at hrun
        have HRUN := Lib.hid hrun
        have HF := Lib.hid (Mem.drop [] (r := [RowA 80 5 b6 (m + 1) c6 (wnFlat O ++ [.string xk, .int .i64 xo, .int .i64 xm, .bool xi, .bool xu]), BlockA p #[.slice (some ⟨g, 0, none⟩) l.length lc] 55, RowA 80 5 (some ⟨g, 0, none⟩) l.length lc (wnFlat l)]) hnr)
        clear HNX M1 hrun hnr
        go_wp2_with ((at_builtin; refine wpList_appendR _ rfl (.tmp 25) (.tmp 27) 53 53 rfl (.slice a m ca) (.slice (some ⟨w1.heap.size + 1, 0, none⟩) 1 1) rfl rfl HRUN.out ?_))
        go_roundw
        case rel => exact ⟨i + 1, by omega, by go_num, Lib.hid ⟨b6, c6, m + 1, rfl, by rw [HE.out, List.length_append, HMM.out]; rfl, by rw [HE.out, wnFlat_append]; exact HF.out⟩⟩
        case measure => simp [intOf]; omega
    · obtain rfl : i = l.length := by omega
      rw [List.take_length] at hmm hm
      subst hmm
      obtain ⟨hcp, hfp⟩ := Mem.cellAt (i := 0) (v := .slice la l.length lc) [RowA 80 5 a (outR l o).length ca (wnFlat (outR l o))] (r := [RowA 80 5 la l.length lc (wnFlat l)]) hm rfl
      have hm2 := Mem.setAt (i := 0) [RowA 80 5 a (outR l o).length ca (wnFlat (outR l o))] (r := [RowA 80 5 la l.length lc (wnFlat l)]) hm (.slice a (outR l o).length ca)
      have hm3 := Mem.refShut (r := [RowA 80 5 la l.length lc (wnFlat l)]) (Mem.swap [] (r := [RowA 80 5 la l.length lc (wnFlat l)]) hm2)
      have hm4 := hm3.new (Below.refl _ _) (As := [RowI none 0 []]) (all_one ⟨rfl, Row.nil _ _ _⟩) (by simp [blkOf])
      have HM4 := Lib.hid hm4
      have hOl : (outR l o).length ≤ l.length := List.length_filter_le _ _
      have HLN := Lib.hid fun i => letsR_len (outR l o) (l.take i) 200 (by omega)
      have HRE : Hid (leaveR l o = letsR l (outR l o)) := Lib.hid rfl
      clear hm hm2 hm3 hm4
      generalize hO : outR l o = O at *
      clear hO
      go_wp2_with fail
      obtain ⟨w2, hw2⟩ : ∃ w2, w2 = w1.setCell ⟨p, 0, none⟩ (.slice a O.length ca) := ⟨_, rfl⟩
      rw [← hw2] at HM4 ⊢
      clear hw2 hcp hfp
      go_loopw [9, 40] (fun v jv wr => ∃ i : Nat, i ≤ l.length ∧ jv = .int .i64 i ∧ Hid (∃ a ca, v = .slice a (letsR (l.take i) O).1.length ca ∧ Mem w D wr [RowI a ca (letsR (l.take i) O).1, RefA p (letsR (l.take i) O).2, RowA 80 5 la l.length lc (wnFlat l)])) (fun _ jv _ => l.length - (intOf jv).toNat)
      case atStart => exact ⟨0, Nat.zero_le _, rfl, Lib.hid ⟨none, 0, rfl, HM4.out⟩⟩
      case round =>
        obtain ⟨w3, rfl⟩ : ∃ w3, w3 = wr := ⟨_, rfl⟩
        obtain ⟨i, hi, rfl, hS⟩ := hrel
        clear HM4
        obtain ⟨aI, cI, rfl, hm⟩ := hS.out
        clear hS
        by_cases hlt : i < l.length
        · obtain ⟨g, rfl, hx⟩ := wnAt_row (Mem.rowAt [RowI aI cI (letsR (l.take i) O).1, RefA p (letsR (l.take i) O).2] (r := []) hm) i hlt
          obtain ⟨c0, c1, c2, c3, c4⟩ := hx
          have HNX := Lib.hid (letsR_take (l := O) hlt)
          obtain ⟨hl1, hl2⟩ := HLN.out i
          have hl3 : (l.take i).length * 200 ≤ 200 * 200 := Nat.mul_le_mul (by rw [List.length_take]; omega) (Nat.le_refl _)
          have hl4 := letR_len l[i].key (letsR (l.take i) O).2.length (letsR (l.take i) O).2
          have hln : (letsR (l.take i) O).1.length ≤ 40000 := by omega
          have hlc : (letsR (l.take i) O).2.length ≤ 200 := by omega
          have hlr : (letR l[i].key (letsR (l.take i) O).2.length (letsR (l.take i) O).2).1.length ≤ 200 := by omega
          clear hl1 hl2 hl3 hl4
          generalize l[i] = x at *
          obtain ⟨xk, xo, xm, xi, xu⟩ := x
          simp only at c0 c1 c2 c3 c4 HNX hlr
          have hm1 := hm.block #[.string xk, .int .i64 xo, .int .i64 xm, .bool xi, .bool xu] 80
          have hm2 := hm1.perm (l' := RefA p (letsR (l.take i) O).2 :: [RowI aI cI (letsR (l.take i) O).1, RowA 80 5 (some ⟨g, 0, none⟩) l.length lc (wnFlat l), BlockA w3.heap.size #[.string xk, .int .i64 xo, .int .i64 xm, .bool xi, .bool xu] 80]) (perm_ct fun x => by simp only [cnt_cons, cnt_nil]; omega)
          have HLT := Lib.hid (mem_rlet hm2 xk (letsR (l.take i) O).2.length (by omega) (Nat.le_refl _))
          clear hm hm1 hm2
          generalize (letsR (l.take i) O).1 = I at *
          generalize (letsR (l.take i) O).2 = cur at *
          go_wp2_with fail
          refine HLT.out.mono ?_
          rintro e w4 ⟨a4, c4', rfl, hm4⟩
          obtain ⟨a5, c5, w5, hrun, hm5⟩ := Mem.appP (a := aI) (ca := cI) (I := I) (b := a4) (cb := c4') (J := (letR xk cur.length cur).1) (r := [RefA p (letR xk cur.length cur).2, RowA 80 5 (some ⟨g, 0, none⟩) l.length lc (wnFlat l), BlockA w3.heap.size #[.string xk, .int .i64 xo, .int .i64 xm, .bool xi, .bool xu] 80]) hm4 (by omega) (perm_ct fun x => by simp only [cnt_cons, cnt_nil]; omega)
          have HRUN := Lib.hid hrun
          have hm6 := hm5.perm (l' := [RowI a5 c5 (I ++ (letR xk cur.length cur).1), RefA p (letR xk cur.length cur).2, RowA 80 5 (some ⟨g, 0, none⟩) l.length lc (wnFlat l)] ++ [RowI a4 c4' (letR xk cur.length cur).1, BlockA w3.heap.size #[.string xk, .int .i64 xo, .int .i64 xm, .bool xi, .bool xu] 80]) (perm_ct fun x => by simp only [cnt_cons, cnt_append, cnt_nil]; omega)
          have HF := Lib.hid (Mem.cutTo [RowI a5 c5 (I ++ (letR xk cur.length cur).1), RefA p (letR xk cur.length cur).2, RowA 80 5 (some ⟨g, 0, none⟩) l.length lc (wnFlat l)] hm6)
          clear hm4 hm5 hm6 hrun HLT
          generalize (letR xk cur.length cur).1 = J at *
          generalize (letR xk cur.length cur).2 = cur2 at *
          go_wp2_with ((at_builtin; refine wpList_appendR _ rfl (.tmp 44) (.tmp 48) 43 43 rfl (.slice aI I.length cI) (.slice a4 J.length c4') rfl rfl HRUN.out ?_))
          go_roundw
          case rel => exact ⟨i + 1, by omega, by go_num, Lib.hid ⟨a5, c5, by rw [HNX.out, List.length_append], by rw [HNX.out]; exact HF.out⟩⟩
          case measure => simp [intOf]; omega
        · obtain rfl : i = l.length := by omega
          have hl := (HLN.out l.length).2
          rw [List.take_length] at hm hl ⊢
          have hl3 : l.length * 200 ≤ 200 * 200 := Nat.mul_le_mul hml (Nat.le_refl _)
          have HR := Lib.hid (rising_any aI (letsR l O).1.length cI (letsR l O).1 w3 (IntsAt.row (Mem.rowAt [] (r := [RefA p (letsR l O).2, RowA 80 5 la l.length lc (wnFlat l)]) hm)) (by omega))
          rw [risI_rise] at HR
          have HM := Lib.hid (Mem.drop [] (r := [RefA p (letsR l O).2, RowA 80 5 la l.length lc (wnFlat l)]) hm)
          clear hm hl hl3
          go_wp2_with fail
          refine HR.out.mono ?_
          rintro e w4 ⟨a8, c8, rfl, hm⟩
          have hm2 := HM.out.join hm
          have HF := Lib.hid (Mem.cutTo [RowI a8 c8 (riseI (letsR l O).1), RefA p (letsR l O).2] (r := [RowA 80 5 la l.length lc (wnFlat l)]) hm2)
          clear hm hm2 HM HR
          go_wp2_with fail
          go_ret
          exact ⟨a8, c8, by rw [HRE.out]; rfl, by rw [HRE.out]; exact HF.out⟩
end Go.Proofs.Ytnemgmlhcjhdhaa
