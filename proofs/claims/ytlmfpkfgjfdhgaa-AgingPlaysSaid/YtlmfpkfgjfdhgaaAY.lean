/- The reference's Join: a place within. -/
import Derived.Test.YtlmfpkfgjfdhgaaAX
import Derived.Deep.RegionLaw
namespace Go.Proofs.Ytlmfpkfgjfdhgaa
open Go.RowKit
set_option maxRecDepth 100000 in
set_option maxHeartbeats 16000000 in
theorem rf_join_a (p : Nat) (wd : Bool) (M : List Mb) (K : List Lk) (id st : Int) (hok : TOk M K) (w : World) (D : List Nat) (h : RefA p wd M K w D) (la : Option Addr) (lc : Nat) (hc0 : w.cell? ⟨p, 1, none⟩ = some (.slice la M.length lc)) (hr0 : Row w 61 4 la M.length lc (mbFlat M))
    (h1 : ¬ id < 0) (h2 : ¬ st < 0) (h3 : ¬ 1099511627776 < st) (hh : hasM M id = false) (hf : ¬ 64 ≤ M.length) (hlt : posM M id < M.length) :
    Calls Try.prog 20 #[.pointer (some ⟨p, 0, none⟩), .int .i64 id, .int .i64 st] w (RPost p wd (insAt M (posM M id) ⟨id, st, false, ⟨#[]⟩⟩) K w D (.returned (.int .i64 0))) := by
  have HP := Lib.hid (rf_place p wd M K id w D h hok.sm hok.fm)
  rw [show placeI M id = -1 by unfold placeI; rw [hh]; rfl] at HP
  have HLT : Hid (∀ i (hi : i < M.length), i < posM M id → decide (M[i].id < id) = true) := Lib.hid fun i hi hiq => decide_eq_true (posM_lt id i hi hiq)
  have HGE : Hid (∀ hi : posM M id < M.length, decide (M[posM M id].id < id) = false) := Lib.hid fun hi => decide_eq_false (by have := posM_ge hok.sm id _ hi (Nat.le_refl _); omega)
  have hqM : posM M id ≤ M.length := posBy_le _ M
  have hfw0 : w.frozen? ⟨p, 1, none⟩ = false := by
    obtain ⟨la', lc', ka', kc', hA⟩ := h
    exact (Mem.cellAt (i := 1) [] (r := [RowA 61 4 la' M.length lc' (mbFlat M), RowA 91 2 ka' K.length kc' (lkFlat K)]) (Mem.ofAll hA) rfl).2
  have HH := Lib.hid h
  clear h hh
  generalize posM M id = q at *

  generalize hR : RPost p wd (insAt M q ⟨id, st, false, ⟨#[]⟩⟩) K w D (.returned (.int .i64 0)) = R at *
  have HRE : Hid (∀ wr W' D', Below w.heap.size w wr → RefA p wd (insAt M q ⟨id, st, false, ⟨#[]⟩⟩) K W' D' → Step wr D W' D' → R (.returned (.int .i64 0)) W') := Lib.hid fun wr W' D' hb g1 g2 => by rw [← hR]; exact ⟨rfl, D', g1, (Step.of_below hb D).trans g2⟩
  clear hR
  have HR0 := Lib.hid hr0
  clear hr0
  have d1 := decide_eq_false h1
  have d2 := decide_eq_false h2
  have d3 := decide_eq_false h3
  have d4 : decide ((64 : Int) ≤ (((M.length : Nat)) : Int)) = false := decide_eq_false (by omega)
  clear h1 h2 h3
  go_enter Try.func20, Try.ntmps20
  go_wp2_with fail
  refine HP.out.mono ?_
  rintro e w1 ⟨rfl, hb⟩
  have HB := Lib.hid hb
  have hcw := (hb.cell (World.block_lt_of_cell? w _ hc0)).trans hc0
  have hfw := (hb.frozen (World.block_lt_of_cell? w _ hc0)).trans hfw0
  have HR := Lib.hid (HR0.out.below hb)
  clear hb HP hc0 hfw0 HR0
  obtain ⟨wr, rfl⟩ : ∃ wr, wr = w1 := ⟨_, rfl⟩
  have hplt := World.block_lt_of_cell? wr _ hcw
  simp only at hplt
  have hz0 : ¬ wr.heap.size = p := by omega
  have hz1 : ¬ wr.heap.size + 1 = p := by omega
  go_wp2_with fail
  go_loop [7] (fun jv => ∃ q' : Nat, q' ≤ q ∧ jv = .int .i64 q') (fun jv => q - (intOf jv).toNat)
  case atStart => exact ⟨0, Nat.zero_le _, rfl⟩
  case round =>
    obtain ⟨q', hq', rfl⟩ := hrel
    by_cases hlq : q' < q
    · obtain ⟨g, rfl, hcs⟩ := mbAt_row HR.out q' (by omega)
      obtain ⟨hx0, hx1, hx2, hx3⟩ := hcs
      have hd := HLT.out q' (by omega) hlq
      have hlM : q' < M.length := by omega
      generalize M[q'].id = mi at *
      go_wp2_with fail
      go_round
      case rel => exact ⟨q' + 1, by omega, by go_num⟩
      case measure => simp [intOf]; omega
    · obtain rfl : q = q' := by omega
      have hdx := HGE.out hlt
      obtain ⟨g, rfl, hcs⟩ := mbAt_row HR.out q hlt
      obtain ⟨hx0, hx1, hx2, hx3⟩ := hcs
      have hlc : M.length ≤ lc := by
        rcases HR.out.out with ⟨e, _⟩ | ⟨_, _, _, _, h1, _⟩
        · cases e
        · exact h1
      generalize M[q].id = mi at *
      have hqc : (q : Int) ≤ (lc : Int) := by omega
      have hql : (q : Int) ≤ (M.length : Int) := by omega
      have hqz : (0 : Int) ≤ (q : Int) := by omega
      have hne : ¬ q = lc := by omega
      have hne2 : ¬ lc = q := by omega

      have SUB1 : Hid (SubV wr 4 (.slice (some ⟨g, 0, none⟩) q lc) q ((mbFlat M).take (q * 4))) := Lib.hid (SubV.upto HR.out (mbFlat_one M) (by omega))
      have SUB2 : Hid (SubV wr 4 (.slice (some ⟨g, q * 4, none⟩) (M.length - q) (lc - q)) (M.length - q) ((mbFlat M).drop (q * 4))) := Lib.hid (SubV.behind HR.out (mbFlat_one M) (by omega) _)
      have HW3 : Hid (∀ b3 c3 V3, Row V3 61 4 b3 (q + 1 + (M.length - q)) c3 ([] ++ ((mbFlat M).take (q * 4)) ++ [.int .i64 id, .int .i64 st, .bool false, .string ⟨#[]⟩] ++ ((mbFlat M).drop (q * 4))) → NewB wr b3 → Below wr.heap.size wr V3 → ∀ W', W' = V3.setCell ⟨p, 1, none⟩ (.slice b3 (q + 1 + (M.length - q)) c3) → R (.returned (.int .i64 0)) W') := Lib.hid fun b3 c3 V3 hr3 hn3 hV3 W' e => by
        have e1 : q + 1 + (M.length - q) = (insAt M q ⟨id, st, false, ⟨#[]⟩⟩).length := by rw [insAt_len (by omega)]; omega
        have e2 : ([] ++ ((mbFlat M).take (q * 4)) ++ [.int .i64 id, .int .i64 st, .bool false, .string ⟨#[]⟩] ++ ((mbFlat M).drop (q * 4))) = mbFlat (insAt M q ⟨id, st, false, ⟨#[]⟩⟩) := by
          unfold insAt; rw [List.nil_append, mbFlat_take, mbFlat_append, mbFlat_cons, mbFlat_drop, List.append_assoc]; rfl
        have hr4 : Row V3 61 4 b3 (insAt M q ⟨id, st, false, ⟨#[]⟩⟩).length c3 (mbFlat (insAt M q ⟨id, st, false, ⟨#[]⟩⟩)) := by rw [← e1, ← e2]; exact hr3
        obtain ⟨hf, D', g1, g2⟩ := ref_setM (HH.out.below HB.out) hV3 hr4 hn3
        rw [← e1] at g1 g2
        subst e
        exact HRE.out wr _ D' HB.out g1 g2
      clear HRE HH HR HLT HGE HB
      go_wp2_with fail
      go_region_law
        (first
          | (refine step_chain (P := Try.prog) (t := 50) (e := 61) (k := 4) (by' := 40) Try.underlying50 info61 rfl (Nat.succ_pos 3) (Nat.le_of_ble_eq_true rfl) rfl (.tmp 50) (.tmp 56) rfl (b := some ⟨wr.heap.size, 0, none⟩) (n := 0) (c := 0) (m := q) (xs := []) (ys := ((mbFlat M).take (q * 4))) (sv := .slice (some ⟨g, 0, none⟩) q lc) ?_ ?_ ?_ ?_ ?_ ?_
             · simp [Act.eval, Act.put]
             · simp [Act.eval, Act.put]
             · exact row_empty (by first | exact heap_new _ _ | exact hp_old _ _ _ _ (by simp) (heap_new _ _) | exact heap_alloc_at _ _ _ (by simp))
             · exact SUB1.out.below (by (try go_split_ands); repeat (first | assumption | exact Below.refl _ _ | refine bel_one ?_ _ | refine bel_two ?_))
             · omega
             intro b1 c1 V1 hr1 ht1 hf1
             have hn1 : NewB wr b1 := (NewB.lit (wr := wr) (g := wr.heap.size) (by omega)).next (w' := V1) (by (try go_split_ands); repeat (first | assumption | exact Below.refl _ _ | refine bel_one ?_ _ | refine bel_two ?_)) hf1
             have hV1 : Below wr.heap.size wr V1 := (NewB.lit (wr := wr) (g := wr.heap.size) (by omega)).bel (by (try go_split_ands); repeat (first | assumption | exact Below.refl _ _ | refine bel_one ?_ _ | refine bel_two ?_)) ht1
             have hcxV1 : V1.cell? ⟨p, 1, none⟩ = some (.slice (some ⟨g, 0, none⟩) M.length lc) := (hV1.cell hplt).trans hcw
             have hfxV1 : V1.frozen? ⟨p, 1, none⟩ = false := (hV1.frozen hplt).trans hfw
             have hzxV1 : ¬ V1.heap.size = p := by have := hV1.size; omega
             have hpxV1 : p < V1.heap.size := Nat.lt_of_lt_of_le hplt hV1.size
             have hayV1 : ∀ o, (V1.alloc o).cell? ⟨p, 1, none⟩ = some (.slice (some ⟨g, 0, none⟩) M.length lc) := fun o => ((bel_new V1 o).cell hpxV1).trans hcxV1
             have hazV1 : ∀ o, (V1.alloc o).frozen? ⟨p, 1, none⟩ = false := fun o => ((bel_new V1 o).frozen hpxV1).trans hfxV1)
          | (refine step_chain (P := Try.prog) (t := 50) (e := 61) (k := 4) (by' := 40) Try.underlying50 info61 rfl (Nat.succ_pos 3) (Nat.le_of_ble_eq_true rfl) rfl (.tmp 50) (.tmp 56) rfl (b := some ⟨wr.heap.size + 1, 0, none⟩) (n := 0) (c := 0) (m := q) (xs := []) (ys := ((mbFlat M).take (q * 4))) (sv := .slice (some ⟨g, 0, none⟩) q lc) ?_ ?_ ?_ ?_ ?_ ?_
             · simp [Act.eval, Act.put]
             · simp [Act.eval, Act.put]
             · exact row_empty (by first | exact heap_new _ _ | exact hp_old _ _ _ _ (by simp) (heap_new _ _) | exact heap_alloc_at _ _ _ (by simp))
             · exact SUB1.out.below (by (try go_split_ands); repeat (first | assumption | exact Below.refl _ _ | refine bel_one ?_ _ | refine bel_two ?_))
             · omega
             intro b1 c1 V1 hr1 ht1 hf1
             have hn1 : NewB wr b1 := (NewB.lit (wr := wr) (g := wr.heap.size + 1) (by omega)).next (w' := V1) (by (try go_split_ands); repeat (first | assumption | exact Below.refl _ _ | refine bel_one ?_ _ | refine bel_two ?_)) hf1
             have hV1 : Below wr.heap.size wr V1 := (NewB.lit (wr := wr) (g := wr.heap.size + 1) (by omega)).bel (by (try go_split_ands); repeat (first | assumption | exact Below.refl _ _ | refine bel_one ?_ _ | refine bel_two ?_)) ht1
             have hcxV1 : V1.cell? ⟨p, 1, none⟩ = some (.slice (some ⟨g, 0, none⟩) M.length lc) := (hV1.cell hplt).trans hcw
             have hfxV1 : V1.frozen? ⟨p, 1, none⟩ = false := (hV1.frozen hplt).trans hfw
             have hzxV1 : ¬ V1.heap.size = p := by have := hV1.size; omega
             have hpxV1 : p < V1.heap.size := Nat.lt_of_lt_of_le hplt hV1.size
             have hayV1 : ∀ o, (V1.alloc o).cell? ⟨p, 1, none⟩ = some (.slice (some ⟨g, 0, none⟩) M.length lc) := fun o => ((bel_new V1 o).cell hpxV1).trans hcxV1
             have hazV1 : ∀ o, (V1.alloc o).frozen? ⟨p, 1, none⟩ = false := fun o => ((bel_new V1 o).frozen hpxV1).trans hfxV1)
          | (refine step_chain (P := Try.prog) (t := 50) (e := 61) (k := 4) (by' := 40) Try.underlying50 info61 rfl (Nat.succ_pos 3) (Nat.le_of_ble_eq_true rfl) rfl (.tmp 57) (.tmp 61) rfl (b := b1) (n := 0 + q) (c := c1) (m := 1) (xs := [] ++ ((mbFlat M).take (q * 4))) (ys := [.int .i64 id, .int .i64 st, .bool false, .string ⟨#[]⟩]) (sv := .slice (some ⟨V1.heap.size, 0, none⟩) 1 1) ?_ ?_ ?_ ?_ ?_ ?_
             · simp [Act.eval, Act.put]
             · simp [Act.eval, Act.put]
             · exact hr1.below (bel_new _ _)
             · exact SubV.one (T := 61) (vs := [.int .i64 id, .int .i64 st, .bool false, .string ⟨#[]⟩]) (by first | exact heap_new _ _ | exact hp_old _ _ _ _ (by simp) (heap_new _ _) | exact heap_alloc_at _ _ _ (by simp)) rfl (by simp [Value.oneCell'])
             · omega
             intro b2 c2 V2 hr2 ht2 hf2
             have hn2 : NewB wr b2 := hn1.next (w' := V2) (by (try go_split_ands); repeat (first | assumption | exact Below.refl _ _ | refine bel_one ?_ _ | refine bel_two ?_)) hf2
             have hV2 : Below wr.heap.size wr V2 := hn1.bel (by (try go_split_ands); repeat (first | assumption | exact Below.refl _ _ | refine bel_one ?_ _ | refine bel_two ?_)) ht2
             have hcxV2 : V2.cell? ⟨p, 1, none⟩ = some (.slice (some ⟨g, 0, none⟩) M.length lc) := (hV2.cell hplt).trans hcw
             have hfxV2 : V2.frozen? ⟨p, 1, none⟩ = false := (hV2.frozen hplt).trans hfw
             have hzxV2 : ¬ V2.heap.size = p := by have := hV2.size; omega
             have hpxV2 : p < V2.heap.size := Nat.lt_of_lt_of_le hplt hV2.size
             have hayV2 : ∀ o, (V2.alloc o).cell? ⟨p, 1, none⟩ = some (.slice (some ⟨g, 0, none⟩) M.length lc) := fun o => ((bel_new V2 o).cell hpxV2).trans hcxV2
             have hazV2 : ∀ o, (V2.alloc o).frozen? ⟨p, 1, none⟩ = false := fun o => ((bel_new V2 o).frozen hpxV2).trans hfxV2)
          | (refine step_chain (P := Try.prog) (t := 50) (e := 61) (k := 4) (by' := 40) Try.underlying50 info61 rfl (Nat.succ_pos 3) (Nat.le_of_ble_eq_true rfl) rfl (.tmp 57) (.tmp 61) rfl (b := b1) (n := 0 + q) (c := c1) (m := 1) (xs := [] ++ ((mbFlat M).take (q * 4))) (ys := [.int .i64 id, .int .i64 st, .bool false, .string ⟨#[]⟩]) (sv := .slice (some ⟨wr.heap.size + 1, 0, none⟩) 1 1) ?_ ?_ ?_ ?_ ?_ ?_
             · simp [Act.eval, Act.put]
             · simp [Act.eval, Act.put]
             · exact hr1
             · exact SubV.one (T := 61) (vs := [.int .i64 id, .int .i64 st, .bool false, .string ⟨#[]⟩]) (ht1.heap (by first | exact heap_new _ _ | exact hp_old _ _ _ _ (by simp) (heap_new _ _) | exact heap_alloc_at _ _ _ (by simp)) (by simp [blkOf])) rfl (by simp [Value.oneCell'])
             · omega
             intro b2 c2 V2 hr2 ht2 hf2
             have hn2 : NewB wr b2 := hn1.next (w' := V2) (by (try go_split_ands); repeat (first | assumption | exact Below.refl _ _ | refine bel_one ?_ _ | refine bel_two ?_)) hf2
             have hV2 : Below wr.heap.size wr V2 := hn1.bel (by (try go_split_ands); repeat (first | assumption | exact Below.refl _ _ | refine bel_one ?_ _ | refine bel_two ?_)) ht2
             have hcxV2 : V2.cell? ⟨p, 1, none⟩ = some (.slice (some ⟨g, 0, none⟩) M.length lc) := (hV2.cell hplt).trans hcw
             have hfxV2 : V2.frozen? ⟨p, 1, none⟩ = false := (hV2.frozen hplt).trans hfw
             have hzxV2 : ¬ V2.heap.size = p := by have := hV2.size; omega
             have hpxV2 : p < V2.heap.size := Nat.lt_of_lt_of_le hplt hV2.size
             have hayV2 : ∀ o, (V2.alloc o).cell? ⟨p, 1, none⟩ = some (.slice (some ⟨g, 0, none⟩) M.length lc) := fun o => ((bel_new V2 o).cell hpxV2).trans hcxV2
             have hazV2 : ∀ o, (V2.alloc o).frozen? ⟨p, 1, none⟩ = false := fun o => ((bel_new V2 o).frozen hpxV2).trans hfxV2)
          | (refine step_chain (P := Try.prog) (t := 50) (e := 61) (k := 4) (by' := 40) Try.underlying50 info61 rfl (Nat.succ_pos 3) (Nat.le_of_ble_eq_true rfl) rfl (.tmp 57) (.tmp 61) rfl (b := b1) (n := 0 + q) (c := c1) (m := 1) (xs := [] ++ ((mbFlat M).take (q * 4))) (ys := [.int .i64 id, .int .i64 st, .bool false, .string ⟨#[]⟩]) (sv := .slice (some ⟨wr.heap.size, 0, none⟩) 1 1) ?_ ?_ ?_ ?_ ?_ ?_
             · simp [Act.eval, Act.put]
             · simp [Act.eval, Act.put]
             · exact hr1
             · exact SubV.one (T := 61) (vs := [.int .i64 id, .int .i64 st, .bool false, .string ⟨#[]⟩]) (ht1.heap (by first | exact heap_new _ _ | exact hp_old _ _ _ _ (by simp) (heap_new _ _) | exact heap_alloc_at _ _ _ (by simp)) (by simp [blkOf])) rfl (by simp [Value.oneCell'])
             · omega
             intro b2 c2 V2 hr2 ht2 hf2
             have hn2 : NewB wr b2 := hn1.next (w' := V2) (by (try go_split_ands); repeat (first | assumption | exact Below.refl _ _ | refine bel_one ?_ _ | refine bel_two ?_)) hf2
             have hV2 : Below wr.heap.size wr V2 := hn1.bel (by (try go_split_ands); repeat (first | assumption | exact Below.refl _ _ | refine bel_one ?_ _ | refine bel_two ?_)) ht2
             have hcxV2 : V2.cell? ⟨p, 1, none⟩ = some (.slice (some ⟨g, 0, none⟩) M.length lc) := (hV2.cell hplt).trans hcw
             have hfxV2 : V2.frozen? ⟨p, 1, none⟩ = false := (hV2.frozen hplt).trans hfw
             have hzxV2 : ¬ V2.heap.size = p := by have := hV2.size; omega
             have hpxV2 : p < V2.heap.size := Nat.lt_of_lt_of_le hplt hV2.size
             have hayV2 : ∀ o, (V2.alloc o).cell? ⟨p, 1, none⟩ = some (.slice (some ⟨g, 0, none⟩) M.length lc) := fun o => ((bel_new V2 o).cell hpxV2).trans hcxV2
             have hazV2 : ∀ o, (V2.alloc o).frozen? ⟨p, 1, none⟩ = false := fun o => ((bel_new V2 o).frozen hpxV2).trans hfxV2)
          | (refine step_chain (P := Try.prog) (t := 50) (e := 61) (k := 4) (by' := 40) Try.underlying50 info61 rfl (Nat.succ_pos 3) (Nat.le_of_ble_eq_true rfl) rfl (.tmp 62) (.tmp 68) rfl (b := b2) (n := 0 + q + 1) (c := c2) (m := (M.length - q)) (xs := [] ++ ((mbFlat M).take (q * 4)) ++ [.int .i64 id, .int .i64 st, .bool false, .string ⟨#[]⟩]) (ys := ((mbFlat M).drop (q * 4))) (sv := .slice (some ⟨g, q * 4, none⟩) (M.length - q) (lc - q)) ?_ ?_ ?_ ?_ ?_ ?_
             · simp [Act.eval, Act.put]
             · simp [Act.eval, Act.put]
             · exact hr2
             · exact SUB2.out.below (by (try go_split_ands); repeat (first | assumption | exact Below.refl _ _ | refine bel_one ?_ _ | refine bel_two ?_))
             · omega
             intro b3 c3 V3 hr3 ht3 hf3
             have hn3 : NewB wr b3 := hn2.next (w' := V3) (by (try go_split_ands); repeat (first | assumption | exact Below.refl _ _ | refine bel_one ?_ _ | refine bel_two ?_)) hf3
             have hV3 : Below wr.heap.size wr V3 := hn2.bel (by (try go_split_ands); repeat (first | assumption | exact Below.refl _ _ | refine bel_one ?_ _ | refine bel_two ?_)) ht3
             have hcxV3 : V3.cell? ⟨p, 1, none⟩ = some (.slice (some ⟨g, 0, none⟩) M.length lc) := (hV3.cell hplt).trans hcw
             have hfxV3 : V3.frozen? ⟨p, 1, none⟩ = false := (hV3.frozen hplt).trans hfw
             have hzxV3 : ¬ V3.heap.size = p := by have := hV3.size; omega
             have hpxV3 : p < V3.heap.size := Nat.lt_of_lt_of_le hplt hV3.size
             have hayV3 : ∀ o, (V3.alloc o).cell? ⟨p, 1, none⟩ = some (.slice (some ⟨g, 0, none⟩) M.length lc) := fun o => ((bel_new V3 o).cell hpxV3).trans hcxV3
             have hazV3 : ∀ o, (V3.alloc o).frozen? ⟨p, 1, none⟩ = false := fun o => ((bel_new V3 o).frozen hpxV3).trans hfxV3))

      all_goals
        have HFF := Lib.hid (HW3.out b3 c3 V3 (by simpa only [Nat.zero_add, Nat.add_zero, Nat.sub_self] using hr3) hn3 hV3 _ rfl)
        clear hr3 hn3 hV3
        go_wp2_with fail
        exact HFF.out
end Go.Proofs.Ytlmfpkfgjfdhgaa
