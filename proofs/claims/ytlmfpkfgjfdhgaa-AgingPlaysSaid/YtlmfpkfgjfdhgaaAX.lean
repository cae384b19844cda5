/- The reference's Leave. -/
import Derived.Test.YtlmfpkfgjfdhgaaAV
import Derived.Deep.RegionLaw
namespace Go.Proofs.Ytlmfpkfgjfdhgaa
open Go.RowKit

/-- other members, made anew. -/
theorem ref_setM {W V : World} {D : List Nat} {p : Nat} {wd : Bool} {M M' : List Mb} {K : List Lk} {b : Option Addr} {c : Nat} (h : RefA p wd M K W D) (hV : Below W.heap.size W V) (hr : Row V 61 4 b M'.length c (mbFlat M')) (hn : NewB W b) :
    V.frozen? ⟨p, 1, none⟩ = false ∧ ∃ D', RefA p wd M' K (V.setCell ⟨p, 1, none⟩ (.slice b M'.length c)) D' ∧ Step W D (V.setCell ⟨p, 1, none⟩ (.slice b M'.length c)) D' := by
  obtain ⟨la, lc, ka, kc, hA⟩ := h
  have m1 := (Mem.ofAll hA).new hV (As := [RowA 61 4 b M'.length c (mbFlat M')]) (all_one ⟨rfl, hr⟩) hn
  have m2 := Mem.cellAt (i := 1) [RowA 61 4 b M'.length c (mbFlat M')] (r := [RowA 61 4 la M.length lc (mbFlat M), RowA 91 2 ka K.length kc (lkFlat K)]) m1 rfl
  have m3 := Mem.setAt (i := 1) [RowA 61 4 b M'.length c (mbFlat M')] (r := [RowA 61 4 la M.length lc (mbFlat M), RowA 91 2 ka K.length kc (lkFlat K)]) m1 (.slice b M'.length c)
  have m4 := Mem.drop [RowA 61 4 b M'.length c (mbFlat M'), BlockA p #[.bool wd, .slice b M'.length c, .slice ka K.length kc] 53] (r := [RowA 91 2 ka K.length kc (lkFlat K)]) m3
  have m5 := Mem.swap [] (r := [RowA 91 2 ka K.length kc (lkFlat K)]) m4
  obtain ⟨D', q1, q2⟩ := m5.out
  exact ⟨m2.2, D', ⟨b, c, ka, kc, q1⟩, q2⟩
theorem posBy_eq {α : Type} (f : α → Bool) : ∀ (l : List α) (q : Nat) (hq : q ≤ l.length), (∀ i (hi : i < l.length), i < q → f l[i] = true) → (∀ hi : q < l.length, f l[q] = false) → posBy f l = q
  | [], q, hq, _, _ => by simp at hq; subst hq; rfl
  | x :: r, 0, _, _, h2 => by
    have := h2 (by simp)
    unfold posBy
    rw [if_neg (by simpa using this)]
  | x :: r, q + 1, hq, h1, h2 => by
    have h0 := h1 0 (by simp) (by omega)
    unfold posBy
    rw [if_pos (by simpa using h0), posBy_eq f r q (by simpa using hq) (fun i hi hiq => by have := h1 (i + 1) (by simpa using hi) (by omega); rwa [List.getElem_cons_succ] at this) (fun hi => by have := h2 (by simpa using hi); rwa [List.getElem_cons_succ] at this)]

set_option maxRecDepth 100000 in
set_option maxHeartbeats 8000000 in
theorem rf_leave_has (p : Nat) (wd : Bool) (M : List Mb) (K : List Lk) (id : Int) (hok : TOk M K) (hh : hasM M id = true) (hid : ∀ m ∈ M, 0 ≤ m.id) (w : World) (D : List Nat) (h : RefA p wd M K w D) :
    Calls Try.prog 21 #[.pointer (some ⟨p, 0, none⟩), .int .i64 id] w (RPost p wd ((losesT wd M K id).1.eraseIdx (posM M id)) (losesT wd M K id).2 w D (.returned (.int .i64 0))) := by
  have HP := Lib.hid (rf_place p wd M K id w D h hok.sm hok.fm)
  rw [placeI_has hh] at HP
  have HL := Lib.hid fun w1 (hb : Below w.heap.size w w1) => rf_loses p wd M K id hok hh hid w1 D (h.below hb)
  obtain ⟨hql, -⟩ := (hasM_iff hok.sm id).1 hh
  have hlen2 : (losesT wd M K id).1.length = M.length := by simpa using congrArg List.length (losesT_ids wd M K id)
  have hml := hok.fm
  clear h
  rw [← hlen2] at hql hml
  clear hlen2
  generalize (losesT wd M K id).1 = M2 at *
  generalize (losesT wd M K id).2 = K2 at *
  generalize posM M id = q at *
  have HFIN : Hid (∀ e W', RPost p wd (M2.eraseIdx q) K2 w D (.returned (.int .i64 0)) e W' → RPost p wd (M2.eraseIdx q) K2 w D (.returned (.int .i64 0)) e W') := Lib.hid fun _ _ h => h
  have HFI2 : Hid (∀ w1, Below w.heap.size w w1 → ∀ W D1, Step w1 D W D1 → Step w D W D1) := Lib.hid fun w1 hb W D1 hs => (Step.of_below hb D).trans hs
  generalize hR : RPost p wd (M2.eraseIdx q) K2 w D (.returned (.int .i64 0)) = R at *
  have HRE : Hid (∀ W' D', RefA p wd (M2.eraseIdx q) K2 W' D' → Step w D W' D' → R (.returned (.int .i64 0)) W') := Lib.hid fun W' D' h1 h2 => by rw [← hR]; exact ⟨rfl, D', h1, h2⟩
  clear hR HFIN
  have hqz : (0 : Int) ≤ (q : Int) := by omega
  go_enter Try.func21, Try.ntmps21
  go_wp2_with fail
  refine HP.out.mono ?_
  rintro e w1 ⟨rfl, hb⟩
  have HB := Lib.hid hb
  clear hb
  go_wp2_with fail
  refine (HL.out w1 HB.out).mono ?_
  rintro e wr ⟨rfl, D1, hA, hst⟩
  have HA := Lib.hid hA
  have HST := Lib.hid (HFI2.out w1 HB.out wr D1 hst)
  obtain ⟨la, lc, ka, kc, -, hcw, -, hr, -⟩ := hA.parts
  have hfw : wr.frozen? ⟨p, 1, none⟩ = false := by
    obtain ⟨la', lc', ka', kc', hA'⟩ := hA
    exact (Mem.cellAt (i := 1) [] (r := [RowA 61 4 la' M2.length lc' (mbFlat M2), RowA 91 2 ka' K2.length kc' (lkFlat K2)]) (Mem.ofAll hA') rfl).2
  have HR := Lib.hid hr
  have hplt := World.block_lt_of_cell? wr _ hcw
  simp only at hplt
  have hz0 : ¬ wr.heap.size = p := by omega
  have hz1 : ¬ wr.heap.size + 1 = p := by omega
  obtain ⟨g, rfl, -⟩ := mbAt_row hr q hql
  have hlc : M2.length ≤ lc := by
    rcases hr.out with ⟨e, _⟩ | ⟨_, _, _, _, h1, _⟩
    · cases e
    · exact h1
  clear hA hst hr HL HP HB HFI2
  have hqc : (q : Int) ≤ (lc : Int) := by omega
  have hqn : (q : Int) + 1 ≤ (M2.length : Int) := by omega
  have hq1 : (0 : Int) ≤ (q : Int) + 1 := by omega
  have hwr1 : IntKind.i64.wrap ((q : Int) + 1) = (q : Int) + 1 := IntWalk.i64_in _ (by omega)
  have htn : ((q : Int) + 1).toNat = q + 1 := by omega
  by_cases hcc : q + 1 = lc
  · have hcc2 : lc = q + 1 := hcc.symm
    subst hcc2
    have hmlc : M2.length = q + 1 := by omega
    have hqq : (q : Int) ≤ (q : Int) + 1 := by omega
    have SUB1 : Hid (SubV wr 4 (.slice (some ⟨g, 0, none⟩) q (q + 1)) q ((mbFlat M2).take (q * 4))) := Lib.hid (SubV.upto HR.out (mbFlat_one M2) (by omega))
    have SUB2 : Hid (SubV wr 4 (.slice (some ⟨g, 0, none⟩) 0 0) 0 []) := Lib.hid SubV.zero
    have HW3 : Hid (∀ b3 c3 V3, Row V3 61 4 b3 (q) c3 ([] ++ ((mbFlat M2).take (q * 4)) ++ []) → NewB wr b3 → Below wr.heap.size wr V3 → ∀ W', W' = V3.setCell ⟨p, 1, none⟩ (.slice b3 (q) c3) → R (.returned (.int .i64 0)) W') := Lib.hid fun b3 c3 V3 hr3 hn3 hV3 W' e => by
      have e1 : q = (M2.eraseIdx q).length := by rw [List.length_eraseIdx, if_pos hql]; omega
      have e2 : ([] ++ ((mbFlat M2).take (q * 4)) ++ []) = mbFlat (M2.eraseIdx q) := by
        rw [List.eraseIdx_eq_take_drop_succ, List.nil_append, mbFlat_take, mbFlat_append]
        rw [List.drop_of_length_le (by omega)]; simp [mbFlat]
      have hr4 : Row V3 61 4 b3 (M2.eraseIdx q).length c3 (mbFlat (M2.eraseIdx q)) := by rw [← e1, ← e2]; exact hr3
      obtain ⟨hf, D', g1, g2⟩ := ref_setM HA.out hV3 hr4 hn3
      rw [← e1] at g1 g2
      subst e
      exact HRE.out _ D' g1 (HST.out.trans g2)
    clear HRE HST HA
    go_wp2_with fail
    go_region_law
      (first
        | (refine step_chain (P := Try.prog) (t := 50) (e := 61) (k := 4) (by' := 40) Try.underlying50 info61 rfl (Nat.succ_pos 3) (Nat.le_of_ble_eq_true rfl) rfl (.tmp 15) (.tmp 21) rfl (b := some ⟨wr.heap.size, 0, none⟩) (n := 0) (c := 0) (m := q) (xs := []) (ys := ((mbFlat M2).take (q * 4))) (sv := .slice (some ⟨g, 0, none⟩) q (q + 1)) ?_ ?_ ?_ ?_ ?_ ?_
           · simp [Act.eval, Act.put]
           · simp [Act.eval, Act.put]
           · exact row_empty (by first | exact heap_new _ _ | exact hp_old _ _ _ _ (by simp) (heap_new _ _) | exact heap_alloc_at _ _ _ (by simp))
           · exact SUB1.out.below (by (try go_split_ands); repeat (first | assumption | exact Below.refl _ _ | refine bel_one ?_ _ | refine bel_two ?_))
           · omega
           intro b1 c1 V1 hr1 ht1 hf1
           have hn1 : NewB wr b1 := (NewB.lit (wr := wr) (g := wr.heap.size) (by omega)).next (w' := V1) (by (try go_split_ands); repeat (first | assumption | exact Below.refl _ _ | refine bel_one ?_ _ | refine bel_two ?_)) hf1
           have hV1 : Below wr.heap.size wr V1 := (NewB.lit (wr := wr) (g := wr.heap.size) (by omega)).bel (by (try go_split_ands); repeat (first | assumption | exact Below.refl _ _ | refine bel_one ?_ _ | refine bel_two ?_)) ht1
           have hcxV1 : V1.cell? ⟨p, 1, none⟩ = some (.slice (some ⟨g, 0, none⟩) M2.length (q + 1)) := (hV1.cell hplt).trans hcw
           have hfxV1 : V1.frozen? ⟨p, 1, none⟩ = false := (hV1.frozen hplt).trans hfw
           have hzxV1 : ¬ V1.heap.size = p := by have := hV1.size; omega)
        | (refine step_chain (P := Try.prog) (t := 50) (e := 61) (k := 4) (by' := 40) Try.underlying50 info61 rfl (Nat.succ_pos 3) (Nat.le_of_ble_eq_true rfl) rfl (.tmp 15) (.tmp 21) rfl (b := some ⟨wr.heap.size + 1, 0, none⟩) (n := 0) (c := 0) (m := q) (xs := []) (ys := ((mbFlat M2).take (q * 4))) (sv := .slice (some ⟨g, 0, none⟩) q (q + 1)) ?_ ?_ ?_ ?_ ?_ ?_
           · simp [Act.eval, Act.put]
           · simp [Act.eval, Act.put]
           · exact row_empty (by first | exact heap_new _ _ | exact hp_old _ _ _ _ (by simp) (heap_new _ _) | exact heap_alloc_at _ _ _ (by simp))
           · exact SUB1.out.below (by (try go_split_ands); repeat (first | assumption | exact Below.refl _ _ | refine bel_one ?_ _ | refine bel_two ?_))
           · omega
           intro b1 c1 V1 hr1 ht1 hf1
           have hn1 : NewB wr b1 := (NewB.lit (wr := wr) (g := wr.heap.size + 1) (by omega)).next (w' := V1) (by (try go_split_ands); repeat (first | assumption | exact Below.refl _ _ | refine bel_one ?_ _ | refine bel_two ?_)) hf1
           have hV1 : Below wr.heap.size wr V1 := (NewB.lit (wr := wr) (g := wr.heap.size + 1) (by omega)).bel (by (try go_split_ands); repeat (first | assumption | exact Below.refl _ _ | refine bel_one ?_ _ | refine bel_two ?_)) ht1
           have hcxV1 : V1.cell? ⟨p, 1, none⟩ = some (.slice (some ⟨g, 0, none⟩) M2.length (q + 1)) := (hV1.cell hplt).trans hcw
           have hfxV1 : V1.frozen? ⟨p, 1, none⟩ = false := (hV1.frozen hplt).trans hfw
           have hzxV1 : ¬ V1.heap.size = p := by have := hV1.size; omega)
        | (refine step_chain (P := Try.prog) (t := 50) (e := 61) (k := 4) (by' := 40) Try.underlying50 info61 rfl (Nat.succ_pos 3) (Nat.le_of_ble_eq_true rfl) rfl (.tmp 22) (.tmp 29) rfl (b := b1) (n := 0 + q) (c := c1) (m := 0) (xs := [] ++ ((mbFlat M2).take (q * 4))) (ys := []) (sv := .slice (some ⟨g, 0, none⟩) 0 0) ?_ ?_ ?_ ?_ ?_ ?_
           · simp [Act.eval, Act.put]
           · simp [Act.eval, Act.put]
           · exact hr1
           · exact SUB2.out.below (by (try go_split_ands); repeat (first | assumption | exact Below.refl _ _ | refine bel_one ?_ _ | refine bel_two ?_))
           · omega
           intro b3 c3 V3 hr3 ht3 hf3
           have hn3 : NewB wr b3 := hn1.next (w' := V3) (by (try go_split_ands); repeat (first | assumption | exact Below.refl _ _ | refine bel_one ?_ _ | refine bel_two ?_)) hf3
           have hV3 : Below wr.heap.size wr V3 := hn1.bel (by (try go_split_ands); repeat (first | assumption | exact Below.refl _ _ | refine bel_one ?_ _ | refine bel_two ?_)) ht3
           have hcxV3 : V3.cell? ⟨p, 1, none⟩ = some (.slice (some ⟨g, 0, none⟩) M2.length (q + 1)) := (hV3.cell hplt).trans hcw
           have hfxV3 : V3.frozen? ⟨p, 1, none⟩ = false := (hV3.frozen hplt).trans hfw
           have hzxV3 : ¬ V3.heap.size = p := by have := hV3.size; omega))
    all_goals
      have HFF := Lib.hid (HW3.out b3 c3 V3 (by simpa only [Nat.zero_add, Nat.add_zero] using hr3) hn3 hV3 _ rfl)
      clear hr3 hn3 hV3
      go_wp2_with fail
      exact HFF.out
  · have hne : ¬ lc = q + 1 := fun e => hcc e.symm
    have SUB1 : Hid (SubV wr 4 (.slice (some ⟨g, 0, none⟩) q lc) q ((mbFlat M2).take (q * 4))) := Lib.hid (SubV.upto HR.out (mbFlat_one M2) (by omega))
    have SUB2 : Hid (SubV wr 4 (.slice (some ⟨g, (q + 1) * 4, none⟩) (M2.length - (q + 1)) (lc - (q + 1))) (M2.length - (q + 1)) ((mbFlat M2).drop ((q + 1) * 4))) := Lib.hid (SubV.behind HR.out (mbFlat_one M2) (by omega) _)
    have HW3 : Hid (∀ b3 c3 V3, Row V3 61 4 b3 (q + (M2.length - (q + 1))) c3 ([] ++ ((mbFlat M2).take (q * 4)) ++ ((mbFlat M2).drop ((q + 1) * 4))) → NewB wr b3 → Below wr.heap.size wr V3 → ∀ W', W' = V3.setCell ⟨p, 1, none⟩ (.slice b3 (q + (M2.length - (q + 1))) c3) → R (.returned (.int .i64 0)) W') := Lib.hid fun b3 c3 V3 hr3 hn3 hV3 W' e => by
      have e1 : q + (M2.length - (q + 1)) = (M2.eraseIdx q).length := by rw [List.length_eraseIdx, if_pos hql]; omega
      have e2 : ([] ++ ((mbFlat M2).take (q * 4)) ++ ((mbFlat M2).drop ((q + 1) * 4))) = mbFlat (M2.eraseIdx q) := by
        rw [List.eraseIdx_eq_take_drop_succ, List.nil_append, mbFlat_take, mbFlat_append]
        rw [mbFlat_drop]
      have hr4 : Row V3 61 4 b3 (M2.eraseIdx q).length c3 (mbFlat (M2.eraseIdx q)) := by rw [← e1, ← e2]; exact hr3
      obtain ⟨hf, D', g1, g2⟩ := ref_setM HA.out hV3 hr4 hn3
      rw [← e1] at g1 g2
      subst e
      exact HRE.out _ D' g1 (HST.out.trans g2)
    clear HRE HST HA
    go_wp2_with fail
    go_region_law
      (first
        | (refine step_chain (P := Try.prog) (t := 50) (e := 61) (k := 4) (by' := 40) Try.underlying50 info61 rfl (Nat.succ_pos 3) (Nat.le_of_ble_eq_true rfl) rfl (.tmp 15) (.tmp 21) rfl (b := some ⟨wr.heap.size, 0, none⟩) (n := 0) (c := 0) (m := q) (xs := []) (ys := ((mbFlat M2).take (q * 4))) (sv := .slice (some ⟨g, 0, none⟩) q lc) ?_ ?_ ?_ ?_ ?_ ?_
           · simp [Act.eval, Act.put]
           · simp [Act.eval, Act.put]
           · exact row_empty (by first | exact heap_new _ _ | exact hp_old _ _ _ _ (by simp) (heap_new _ _) | exact heap_alloc_at _ _ _ (by simp))
           · exact SUB1.out.below (by (try go_split_ands); repeat (first | assumption | exact Below.refl _ _ | refine bel_one ?_ _ | refine bel_two ?_))
           · omega
           intro b1 c1 V1 hr1 ht1 hf1
           have hn1 : NewB wr b1 := (NewB.lit (wr := wr) (g := wr.heap.size) (by omega)).next (w' := V1) (by (try go_split_ands); repeat (first | assumption | exact Below.refl _ _ | refine bel_one ?_ _ | refine bel_two ?_)) hf1
           have hV1 : Below wr.heap.size wr V1 := (NewB.lit (wr := wr) (g := wr.heap.size) (by omega)).bel (by (try go_split_ands); repeat (first | assumption | exact Below.refl _ _ | refine bel_one ?_ _ | refine bel_two ?_)) ht1
           have hcxV1 : V1.cell? ⟨p, 1, none⟩ = some (.slice (some ⟨g, 0, none⟩) M2.length lc) := (hV1.cell hplt).trans hcw
           have hfxV1 : V1.frozen? ⟨p, 1, none⟩ = false := (hV1.frozen hplt).trans hfw
           have hzxV1 : ¬ V1.heap.size = p := by have := hV1.size; omega)
        | (refine step_chain (P := Try.prog) (t := 50) (e := 61) (k := 4) (by' := 40) Try.underlying50 info61 rfl (Nat.succ_pos 3) (Nat.le_of_ble_eq_true rfl) rfl (.tmp 15) (.tmp 21) rfl (b := some ⟨wr.heap.size + 1, 0, none⟩) (n := 0) (c := 0) (m := q) (xs := []) (ys := ((mbFlat M2).take (q * 4))) (sv := .slice (some ⟨g, 0, none⟩) q lc) ?_ ?_ ?_ ?_ ?_ ?_
           · simp [Act.eval, Act.put]
           · simp [Act.eval, Act.put]
           · exact row_empty (by first | exact heap_new _ _ | exact hp_old _ _ _ _ (by simp) (heap_new _ _) | exact heap_alloc_at _ _ _ (by simp))
           · exact SUB1.out.below (by (try go_split_ands); repeat (first | assumption | exact Below.refl _ _ | refine bel_one ?_ _ | refine bel_two ?_))
           · omega
           intro b1 c1 V1 hr1 ht1 hf1
           have hn1 : NewB wr b1 := (NewB.lit (wr := wr) (g := wr.heap.size + 1) (by omega)).next (w' := V1) (by (try go_split_ands); repeat (first | assumption | exact Below.refl _ _ | refine bel_one ?_ _ | refine bel_two ?_)) hf1
           have hV1 : Below wr.heap.size wr V1 := (NewB.lit (wr := wr) (g := wr.heap.size + 1) (by omega)).bel (by (try go_split_ands); repeat (first | assumption | exact Below.refl _ _ | refine bel_one ?_ _ | refine bel_two ?_)) ht1
           have hcxV1 : V1.cell? ⟨p, 1, none⟩ = some (.slice (some ⟨g, 0, none⟩) M2.length lc) := (hV1.cell hplt).trans hcw
           have hfxV1 : V1.frozen? ⟨p, 1, none⟩ = false := (hV1.frozen hplt).trans hfw
           have hzxV1 : ¬ V1.heap.size = p := by have := hV1.size; omega)
        | (refine step_chain (P := Try.prog) (t := 50) (e := 61) (k := 4) (by' := 40) Try.underlying50 info61 rfl (Nat.succ_pos 3) (Nat.le_of_ble_eq_true rfl) rfl (.tmp 22) (.tmp 29) rfl (b := b1) (n := 0 + q) (c := c1) (m := (M2.length - (q + 1))) (xs := [] ++ ((mbFlat M2).take (q * 4))) (ys := ((mbFlat M2).drop ((q + 1) * 4))) (sv := .slice (some ⟨g, (q + 1) * 4, none⟩) (M2.length - (q + 1)) (lc - (q + 1))) ?_ ?_ ?_ ?_ ?_ ?_
           · simp [Act.eval, Act.put]
           · simp [Act.eval, Act.put]
           · exact hr1
           · exact SUB2.out.below (by (try go_split_ands); repeat (first | assumption | exact Below.refl _ _ | refine bel_one ?_ _ | refine bel_two ?_))
           · omega
           intro b3 c3 V3 hr3 ht3 hf3
           have hn3 : NewB wr b3 := hn1.next (w' := V3) (by (try go_split_ands); repeat (first | assumption | exact Below.refl _ _ | refine bel_one ?_ _ | refine bel_two ?_)) hf3
           have hV3 : Below wr.heap.size wr V3 := hn1.bel (by (try go_split_ands); repeat (first | assumption | exact Below.refl _ _ | refine bel_one ?_ _ | refine bel_two ?_)) ht3
           have hcxV3 : V3.cell? ⟨p, 1, none⟩ = some (.slice (some ⟨g, 0, none⟩) M2.length lc) := (hV3.cell hplt).trans hcw
           have hfxV3 : V3.frozen? ⟨p, 1, none⟩ = false := (hV3.frozen hplt).trans hfw
           have hzxV3 : ¬ V3.heap.size = p := by have := hV3.size; omega))
    all_goals
      have HFF := Lib.hid (HW3.out b3 c3 V3 (by simpa only [Nat.zero_add, Nat.add_zero] using hr3) hn3 hV3 _ rfl)
      clear hr3 hn3 hV3
      go_wp2_with fail
      exact HFF.out
end Go.Proofs.Ytlmfpkfgjfdhgaa
