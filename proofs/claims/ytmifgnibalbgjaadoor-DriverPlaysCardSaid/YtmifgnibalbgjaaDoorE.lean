/- What an operation writes and tells: plan.Step. -/
import Derived.Test.YtmifgnibalbgjaaDoorD
import Derived.Deep.Cut
import Derived.IntWalk
import Derived.Deep.CutRange
import Derived.Deep.CutBlock
import Derived.BigRegion
import Derived.Deep.RegionWith
namespace Go.Proofs.YtmifgnibalbgjaaDoor
open Go.RowKit
theorem below_drew {B : Nat} {a b : World} (h : Below B a b) : Below B a b.drew := ⟨h.os, h.tape, h.output, h.size, h.block⟩
/-- how Step ends. -/
def stE (x : Opp) (h l : Rs) : Ending := .returned (.tuple #[rsV (stepW x h l), rsV (stepR x h)])
theorem stE_mk {x : Opp} {h l p q : Rs} (e1 : stepW x h l = p) (e2 : stepR x h = q) : Ending.returned (.tuple #[.agg #[.string p.v, .bool p.h], .agg #[.string q.v, .bool q.h]]) = stE x h l := by
  unfold stE; rw [e1, e2]; rfl
/-- behind the two results' being made plain. -/
def StMid (w : World) (x : Opp) (h l : Rs) (wx : World) : Prop := Mem w [] wx [BlockA (w.heap.size + 1 + 1 + 1 + 1) #[.string ⟨#[]⟩, .bool false] 52, BlockA (w.heap.size + 1 + 1 + 1) #[.string ⟨#[]⟩, .bool false] 52,
  BlockA (w.heap.size + 1 + 1) #[.string l.v, .bool l.h] 52, BlockA (w.heap.size + 1) #[.string h.v, .bool h.h] 52, BlockA w.heap.size #[.int .i64 x.kind, .string x.key, .string x.value, .int .i64 x.n] 60]
theorem stMid_new (w : World) (x : Opp) (h l : Rs) : StMid w x h l (((((w.alloc (.cells #[.int .i64 x.kind, .string x.key, .string x.value, .int .i64 x.n] 60)).alloc (.cells #[.string h.v, .bool h.h] 52)).alloc (.cells #[.string l.v, .bool l.h] 52)).alloc (.cells #[.string ⟨#[]⟩, .bool false] 52)).alloc (.cells #[.string ⟨#[]⟩, .bool false] 52)) := by
  have m1 := (Mem.nil w).block #[.int .i64 x.kind, .string x.key, .string x.value, .int .i64 x.n] 60
  have m2 := m1.block #[.string h.v, .bool h.h] 52
  have m3 := m2.block #[.string l.v, .bool l.h] 52
  have m4 := m3.block #[.string ⟨#[]⟩, .bool false] 52
  have m5 := m4.block #[.string ⟨#[]⟩, .bool false] 52
  simpa [StMid] using m5
theorem StMid.two {w W : World} {x : Opp} {h l : Rs} (M : StMid w x h l W) (p q : Rs) : StMid w x p q ((((W.setCell ⟨w.heap.size + 1, 0, none⟩ (.string p.v)).setCell ⟨w.heap.size + 1, 1, none⟩ (.bool p.h)).setCell ⟨w.heap.size + 1 + 1, 0, none⟩ (.string q.v)).setCell ⟨w.heap.size + 1 + 1, 1, none⟩ (.bool q.h)) := by
  unfold StMid at M ⊢
  have M2 := Mem.setAt [BlockA (w.heap.size + 1 + 1 + 1 + 1) #[.string ⟨#[]⟩, .bool false] 52, BlockA (w.heap.size + 1 + 1 + 1) #[.string ⟨#[]⟩, .bool false] 52, BlockA (w.heap.size + 1 + 1) #[.string l.v, .bool l.h] 52] (r := [BlockA w.heap.size #[.int .i64 x.kind, .string x.key, .string x.value, .int .i64 x.n] 60]) (i := 0) M (.string p.v)
  have M3 := Mem.setAt [BlockA (w.heap.size + 1 + 1 + 1 + 1) #[.string ⟨#[]⟩, .bool false] 52, BlockA (w.heap.size + 1 + 1 + 1) #[.string ⟨#[]⟩, .bool false] 52, BlockA (w.heap.size + 1 + 1) #[.string l.v, .bool l.h] 52] (r := [BlockA w.heap.size #[.int .i64 x.kind, .string x.key, .string x.value, .int .i64 x.n] 60]) (i := 1) M2 (.bool p.h)
  have M4 := Mem.setAt [BlockA (w.heap.size + 1 + 1 + 1 + 1) #[.string ⟨#[]⟩, .bool false] 52, BlockA (w.heap.size + 1 + 1 + 1) #[.string ⟨#[]⟩, .bool false] 52] (r := [BlockA (w.heap.size + 1) #[.string p.v, .bool p.h] 52, BlockA w.heap.size #[.int .i64 x.kind, .string x.key, .string x.value, .int .i64 x.n] 60]) (i := 0) M3 (.string q.v)
  exact Mem.setAt [BlockA (w.heap.size + 1 + 1 + 1 + 1) #[.string ⟨#[]⟩, .bool false] 52, BlockA (w.heap.size + 1 + 1 + 1) #[.string ⟨#[]⟩, .bool false] 52] (r := [BlockA (w.heap.size + 1) #[.string p.v, .bool p.h] 52, BlockA w.heap.size #[.int .i64 x.kind, .string x.key, .string x.value, .int .i64 x.n] 60]) (i := 1) M4 (.bool q.h)
/-- what it holds, cell by cell. -/
theorem StMid.cells {w W : World} {x : Opp} {h l : Rs} (M : StMid w x h l W) :
    W.cell? ⟨w.heap.size, 0, none⟩ = some (.int .i64 x.kind) ∧ W.cell? ⟨w.heap.size, 2, none⟩ = some (.string x.value) ∧ W.cell? ⟨w.heap.size, 3, none⟩ = some (.int .i64 x.n) ∧
    (W.cell? ⟨w.heap.size + 1, 0, none⟩ = some (.string h.v) ∧ W.cell? ⟨w.heap.size + 1, 1, none⟩ = some (.bool h.h)) ∧ (W.cell? ⟨w.heap.size + 1 + 1, 0, none⟩ = some (.string l.v) ∧ W.cell? ⟨w.heap.size + 1 + 1, 1, none⟩ = some (.bool l.h)) ∧
    (W.cell? ⟨w.heap.size + 1 + 1 + 1, 0, none⟩ = some (.string ⟨#[]⟩) ∧ W.cell? ⟨w.heap.size + 1 + 1 + 1, 1, none⟩ = some (.bool false) ∧ W.frozen? ⟨w.heap.size + 1 + 1 + 1, 0, none⟩ = false ∧ W.frozen? ⟨w.heap.size + 1 + 1 + 1, 1, none⟩ = false) ∧
    (W.cell? ⟨w.heap.size + 1 + 1 + 1 + 1, 0, none⟩ = some (.string ⟨#[]⟩) ∧ W.cell? ⟨w.heap.size + 1 + 1 + 1 + 1, 1, none⟩ = some (.bool false) ∧ W.frozen? ⟨w.heap.size + 1 + 1 + 1 + 1, 0, none⟩ = false ∧ W.frozen? ⟨w.heap.size + 1 + 1 + 1 + 1, 1, none⟩ = false) := by
  unfold StMid at M
  obtain ⟨D, ⟨D1, E1, _, _, ⟨_, hb⟩, D2, E2, _, _, ⟨_, ha⟩, D3, E3, _, _, ⟨_, hl⟩, D4, E4, _, _, ⟨_, hh⟩, D5, E5, _, _, ⟨_, ho⟩, _⟩, _⟩ := M.out
  exact ⟨(cell_of_heap ho rfl).1, (cell_of_heap ho rfl).1, (cell_of_heap ho rfl).1, ⟨(cell_of_heap hh rfl).1, (cell_of_heap hh rfl).1⟩, ⟨(cell_of_heap hl rfl).1, (cell_of_heap hl rfl).1⟩,
    ⟨(cell_of_heap ha rfl).1, (cell_of_heap ha rfl).1, (cell_of_heap (i := 0) ha rfl).2, (cell_of_heap (i := 1) ha rfl).2⟩, ⟨(cell_of_heap hb rfl).1, (cell_of_heap hb rfl).1, (cell_of_heap (i := 0) hb rfl).2, (cell_of_heap (i := 1) hb rfl).2⟩⟩
set_option maxRecDepth 100000 in
set_option maxHeartbeats 4000000 in
theorem step_any (x : Opp) (h l : Rs) (w : World) (hh : h.v.size ≤ 140737488355328) (hv : LibV w) :
    Calls Tryd.prog 53 #[opV x, rsV h, rsV l] w fun e w' => e = stE x h l ∧ Below w.heap.size w w' := by
  have HP := Lib.hid fun r W => plain_any r W
  obtain ⟨k, y, v, n⟩ := x
  obtain ⟨hv0, hh0⟩ := h
  obtain ⟨lv0, lh0⟩ := l
  unfold opV
  simp only
  have e1 : rsV ⟨hv0, hh0⟩ = .agg #[.string hv0, .bool hh0] := rfl
  have e2 : rsV ⟨lv0, lh0⟩ = .agg #[.string lv0, .bool lh0] := rfl
  have HPH : Hid (∀ W, Calls Tryd.prog 56 #[.agg #[.string hv0, .bool hh0]] W fun e w' => e = .returned (.agg #[.string (plainR ⟨hv0, hh0⟩).v, .bool (plainR ⟨hv0, hh0⟩).h]) ∧ Below W.heap.size W w') := Lib.hid fun W => HP.out ⟨hv0, hh0⟩ W
  have HPL : Hid (∀ W, Calls Tryd.prog 56 #[.agg #[.string lv0, .bool lh0]] W fun e w' => e = .returned (.agg #[.string (plainR ⟨lv0, lh0⟩).v, .bool (plainR ⟨lv0, lh0⟩).h]) ∧ Below W.heap.size W w') := Lib.hid fun W => HP.out ⟨lv0, lh0⟩ W
  rw [e1, e2]
  clear e1 e2 HP
  have HN := Lib.hid fun s (hs : s.size ≤ 140737488355328) W (hb : Below w.heap.size w W) => number_any s W hs (hv.below hb)
  have HT := Lib.hid fun n (h0 : -9223372036854775808 ≤ n) (h1 : n ≤ 9223372036854775807) W (hb : Below w.heap.size w W) => text_any n W h0 h1 (hv.below hb)
  have HPS : Hid ((plainR ⟨hv0, hh0⟩).v.size ≤ 140737488355328) := Lib.hid (by cases hh0 <;> first | exact hh | exact Nat.zero_le _)
  generalize e1 : plainR ⟨hv0, hh0⟩ = ph at *
  generalize e2 : plainR ⟨lv0, lh0⟩ = pl at *
  have EH := Lib.hid e1
  have EL := Lib.hid e2
  clear e1 e2 hh hv
  go_enter Tryd.func53, Tryd.ntmps53
  go_wp2_with fail
  go_cut [] from 10 to 13 (fun wx => Hid (StMid w ⟨k, y, v, n⟩ ph pl wx))
  case first =>
    go_region_with (first
      | ((go_at_call_of 56 (Value.agg #[Value.string hv0, Value.bool hh0])); refine (HPH.out _).mono ?_; rintro e w1 ⟨rfl, hb1⟩; have hs1 : w.heap.size + 5 ≤ w1.heap.size := (by have h9 := hb1.size; (try simp at h9); omega); obtain ⟨hc1, hf1⟩ := bcell hb1; have hz1a : w.heap.size < w1.heap.size := (by omega); have hz1b : w.heap.size + 1 < w1.heap.size := (by omega); have hz1c : w.heap.size + 1 + 1 < w1.heap.size := (by omega); have hz1d : w.heap.size + 1 + 1 + 1 < w1.heap.size := (by omega); have hz1e : w.heap.size + 1 + 1 + 1 + 1 < w1.heap.size := (by omega))
      | ((go_at_call_of 56 (Value.agg #[Value.string lv0, Value.bool lh0])); refine (HPL.out _).mono ?_; rintro e w2 ⟨rfl, hb2⟩; have hs2 : w.heap.size + 5 ≤ w2.heap.size := (by have h9 := hb2.size; (try simp at h9); omega); obtain ⟨hc2, hf2⟩ := bcell hb2; have hz2a : w.heap.size < w2.heap.size := (by omega); have hz2b : w.heap.size + 1 < w2.heap.size := (by omega); have hz2c : w.heap.size + 1 + 1 < w2.heap.size := (by omega); have hz2d : w.heap.size + 1 + 1 + 1 < w2.heap.size := (by omega); have hz2e : w.heap.size + 1 + 1 + 1 + 1 < w2.heap.size := (by omega))
      | (fail "none"))
    all_goals
      have M5 := Lib.hid ((show StMid w ⟨k, y, v, n⟩ ⟨hv0, hh0⟩ ⟨lv0, lh0⟩ w2 from (((stMid_new w ⟨k, y, v, n⟩ ⟨hv0, hh0⟩ ⟨lv0, lh0⟩).below (bel_drew _)).below hb1).below hb2).two ph pl)
      clear hc1 hf1 hc2 hf2
      go_wp2_with fail
      go_meet
      case rel => exact M5
  case rest =>
    have HB := Lib.hid (Mem.bel hcut.out)
    obtain ⟨o0, o2, o3, ⟨h0, h1⟩, ⟨l0, l1⟩, ⟨a0, a1, fa0, fa1⟩, ⟨b0, b1, fb0, fb1⟩⟩ := hcut.out.cells
    simp only at o0 o2 o3
    have HSZ : Hid (∀ W, Below wc.heap.size wc W → w.heap.size ≤ w.heap.size + 1 + 1 + 1) := Lib.hid fun _ _ => by omega
    clear HPH HPL
    by_cases k1 : k = 1
    · subst k1
      have E1 : Hid (stepW ⟨1, y, v, n⟩ ⟨hv0, hh0⟩ ⟨lv0, lh0⟩ = rs0) := Lib.hid (rfl)
      have E2 : Hid (stepR ⟨1, y, v, n⟩ ⟨hv0, hh0⟩ = ph) := Lib.hid (EH.out)
      clear hcut HN HT
      go_wp2_with fail
      go_region
      all_goals
        go_wp2_with fail
        exact bodyPost_ret (v := .tuple #[.agg #[.string ⟨#[]⟩, .bool false], .agg #[.string ph.v, .bool ph.h]]) (by simp [results, Tryd.results53, go_sem, a0, a1, b0, b1]) rfl ⟨stE_mk (p := rs0) E1.out E2.out, (by repeat (first | exact HB.out | exact HB2.out | refine Below.setCell ?_ (by simp; omega) _ | refine below_drew ?_))⟩
    have c1 : (k == 1) = false := by simpa using k1
    by_cases k2 : k = 2
    · subst k2
      have E1 : Hid (stepW ⟨2, y, v, n⟩ ⟨hv0, hh0⟩ ⟨lv0, lh0⟩ = ⟨v, true⟩) := Lib.hid (rfl)
      have E2 : Hid (stepR ⟨2, y, v, n⟩ ⟨hv0, hh0⟩ = ph) := Lib.hid (EH.out)
      clear hcut HN HT
      go_wp2_with fail
      go_region
      all_goals
        go_wp2_with fail
        exact bodyPost_ret (v := .tuple #[.agg #[.string v, .bool true], .agg #[.string ph.v, .bool ph.h]]) (by simp [results, Tryd.results53, go_sem, a0, a1, b0, b1]) rfl ⟨stE_mk (p := ⟨v, true⟩) E1.out E2.out, (by repeat (first | exact HB.out | exact HB2.out | refine Below.setCell ?_ (by simp; omega) _ | refine below_drew ?_))⟩
    have c2 : (k == 2) = false := by simpa using k2
    by_cases k3 : k = 3
    · subst k3
      have E1 : Hid (stepW ⟨3, y, v, n⟩ ⟨hv0, hh0⟩ ⟨lv0, lh0⟩ = rs0) := Lib.hid (rfl)
      have E2 : Hid (stepR ⟨3, y, v, n⟩ ⟨hv0, hh0⟩ = ph) := Lib.hid (EH.out)
      clear hcut HN HT
      go_wp2_with fail
      go_region
      all_goals
        go_wp2_with fail
        exact bodyPost_ret (v := .tuple #[.agg #[.string ⟨#[]⟩, .bool false], .agg #[.string ph.v, .bool ph.h]]) (by simp [results, Tryd.results53, go_sem, a0, a1, b0, b1]) rfl ⟨stE_mk (p := rs0) E1.out E2.out, (by repeat (first | exact HB.out | exact HB2.out | refine Below.setCell ?_ (by simp; omega) _ | refine below_drew ?_))⟩
    have c3 : (k == 3) = false := by simpa using k3
    by_cases k4 : k = 4
    · subst k4
      have E1 : Hid (stepW ⟨4, y, v, n⟩ ⟨hv0, hh0⟩ ⟨lv0, lh0⟩ = pl) := Lib.hid (EL.out)
      have E2 : Hid (stepR ⟨4, y, v, n⟩ ⟨hv0, hh0⟩ = ph) := Lib.hid (EH.out)
      clear hcut HN HT
      go_wp2_with fail
      go_region
      all_goals
        go_wp2_with fail
        exact bodyPost_ret (v := .tuple #[.agg #[.string pl.v, .bool pl.h], .agg #[.string ph.v, .bool ph.h]]) (by simp [results, Tryd.results53, go_sem, a0, a1, b0, b1]) rfl ⟨stE_mk (p := pl) E1.out E2.out, (by repeat (first | exact HB.out | exact HB2.out | refine Below.setCell ?_ (by simp; omega) _ | refine below_drew ?_))⟩
    have c4 : (k == 4) = false := by simpa using k4
    by_cases k5 : k = 5
    · subst k5
      have E1 : Hid (stepW ⟨5, y, v, n⟩ ⟨hv0, hh0⟩ ⟨lv0, lh0⟩ = addR ⟨5, y, v, n⟩ ph) := Lib.hid (by rw [← EH.out]; rfl)
      have E2 : Hid (stepR ⟨5, y, v, n⟩ ⟨hv0, hh0⟩ = addR ⟨5, y, v, n⟩ ph) := Lib.hid (by rw [← EH.out]; rfl)
      obtain ⟨wm, hwm⟩ : ∃ wm, wm = wc := ⟨_, rfl⟩
      rw [← hwm] at HB o0 o2 o3 h0 h1 l0 l1 a0 a1 b0 b1 fa0 fa1 fb0 fb1 ⊢
      clear hcut HSZ
      clear hwm
      have HN5 : Hid (∀ W, Below wm.heap.size wm W → Calls Tryd.prog 58 #[.string ph.v] W fun e w' => e = .returned (.int .i64 (numB ph.v)) ∧ Below wm.heap.size wm w') := Lib.hid fun W hb =>
        (HN.out ph.v HPS.out W (HB.out.trans (hb.mono HB.out.size))).mono fun e w' hh => ⟨hh.1, hb.trans (hh.2.mono hb.size)⟩
      have HC := Lib.hid fun m W => clamp_any m W
      have KS : Hid (∀ W, Below wm.heap.size wm W → Below wm.heap.size wm W ∧ W.cell? ⟨w.heap.size + 1, 0, none⟩ = some (.string ph.v) ∧ W.cell? ⟨w.heap.size, 3, none⟩ = some (.int .i64 n)) := Lib.hid fun W hb =>
        ⟨hb, (hb.cell (World.block_lt_of_cell? wm _ h0)).trans h0, (hb.cell (World.block_lt_of_cell? wm _ o3)).trans o3⟩
      obtain ⟨nb1, nb2⟩ := numB_bd ph.v
      obtain ⟨cb1, cb2⟩ := clampN_bd n
      have hwrap := IntWalk.i64_in (numB ph.v + clampN n) (by omega)
      obtain ⟨sb1, sb2⟩ := clampN_bd (numB ph.v + clampN n)
      have EA : Hid (addR ⟨5, y, v, n⟩ ph = ⟨itoaS (clampN (numB ph.v + clampN n)), true⟩) := Lib.hid rfl
      generalize hsm : clampN (numB ph.v + clampN n) = sm at *
      have HSM := Lib.hid hsm
      clear hsm
      clear HN EH EL HPS
      have HTS := Lib.hid (HT.out sm (by omega) (by omega))
      clear HT
      have hq0 := KS.out wm (Below.refl _ _)
      go_wp2_with fail
      go_cut [8] from 36 to 43 (fun v8 wx => v8 = .int .i64 sm ∧ Hid (Below wm.heap.size wm wx))
      case first =>
        have m0 := below_drew (Below.refl wm.heap.size wm)
        go_region_held3 (fun W => Below wm.heap.size wm W ∧ W.cell? ⟨w.heap.size + 1, 0, none⟩ = some (.string ph.v) ∧ W.cell? ⟨w.heap.size, 3, none⟩ = some (.int .i64 n)) (first | assumption | exact KS.out _ (by first | assumption | (go_split_ands; assumption)))
          (first
            | ((go_at_call 58; refine (HN5.out _ (by first | assumption | (go_split_ands; assumption))).mono ?_; rintro e w5 ⟨rfl, m5⟩))
            | ((go_at_call 57; refine (HC.out _ _).mono ?_; rintro e w6 ⟨rfl, rfl⟩))
            | (fail "none"))
        all_goals
          go_wp2_with fail
          go_meet
          case rel => exact ⟨by rw [HSM.out], Lib.hid (by assumption)⟩
      case rest =>
        obtain ⟨rfl, hbc⟩ := hcut
        have HBW := Lib.hid (HB.out.trans (hbc.out.mono HB.out.size))
        have H1 := Lib.hid (HTS.out _ HBW.out)
        have HC2 : Hid (∀ W, Below wm.heap.size wm W → (W.cell? ⟨w.heap.size + 1 + 1 + 1, 0, none⟩ = some (.string ⟨#[]⟩) ∧ W.cell? ⟨w.heap.size + 1 + 1 + 1, 1, none⟩ = some (.bool false) ∧ W.cell? ⟨w.heap.size + 1 + 1 + 1 + 1, 0, none⟩ = some (.string ⟨#[]⟩) ∧ W.cell? ⟨w.heap.size + 1 + 1 + 1 + 1, 1, none⟩ = some (.bool false)) ∧
            (W.frozen? ⟨w.heap.size + 1 + 1 + 1, 0, none⟩ = false ∧ W.frozen? ⟨w.heap.size + 1 + 1 + 1, 1, none⟩ = false ∧ W.frozen? ⟨w.heap.size + 1 + 1 + 1 + 1, 0, none⟩ = false ∧ W.frozen? ⟨w.heap.size + 1 + 1 + 1 + 1, 1, none⟩ = false) ∧ w.heap.size + 1 + 1 + 1 < W.heap.size ∧ w.heap.size + 1 + 1 + 1 + 1 < W.heap.size ∧ w.heap.size ≤ W.heap.size) := Lib.hid fun W hb => by
          have q0 := World.block_lt_of_cell? wm _ a0
          have q1 := World.block_lt_of_cell? wm _ b0
          have hs := hb.size
          simp only at q0 q1
          exact ⟨⟨(hb.cell q0).trans a0, (hb.cell q0).trans a1, (hb.cell q1).trans b0, (hb.cell q1).trans b1⟩, ⟨(hb.frozen q0).trans fa0, (hb.frozen q0).trans fa1, (hb.frozen q1).trans fb0, (hb.frozen q1).trans fb1⟩, by omega, by omega, by omega⟩
        clear o0 o2 o3 h0 h1 l0 l1 a0 a1 b0 b1 fa0 fa1 fb0 fb1 hq0 KS HN5 HC HTS
        go_wp2_with fail
        refine H1.out.mono ?_
        rintro e w7 ⟨rfl, hb⟩
        have HB9 := Lib.hid (HBW.out.trans (hb.mono HBW.out.size))
        obtain ⟨⟨a0, a1, b0, b1⟩, ⟨fa0, fa1, fb0, fb1⟩, z1, z2, z3⟩ := HC2.out w7 (hbc.out.trans (hb.mono hbc.out.size))
        clear hb hbc H1 HC2
        go_wp2_with fail
        go_region
        all_goals
          go_wp2_with fail
          exact bodyPost_ret (v := .tuple #[.agg #[.string (itoaS sm), .bool true], .agg #[.string (itoaS sm), .bool true]]) (by simp [results, Tryd.results53, go_sem, a0, a1, b0, b1, z1, z2]) rfl ⟨stE_mk (p := ⟨itoaS sm, true⟩) (q := ⟨itoaS sm, true⟩) (E1.out.trans EA.out) (E2.out.trans EA.out), (by repeat (first | exact HB9.out | refine Below.setCell ?_ (by simp; omega) _ | refine below_drew ?_ | refine Below.alloc ?_ (by first | omega | (simp; done) | (simp; omega)) _))⟩
    have c5 : (k == 5) = false := by simpa using k5
    have E1 : Hid (stepW ⟨k, y, v, n⟩ ⟨hv0, hh0⟩ ⟨lv0, lh0⟩ = rs0) := Lib.hid (by unfold stepW; simp only; rw [if_neg k2, if_neg k4, if_neg k5])
    have E2 : Hid (stepR ⟨k, y, v, n⟩ ⟨hv0, hh0⟩ = rs0) := Lib.hid (by unfold stepR; simp only; rw [if_neg k5, if_neg (by omega)])
    clear hcut HN HT k1 k2 k3 k4 k5
    go_wp2_with fail
    exact bodyPost_ret (v := .tuple #[.agg #[.string ⟨#[]⟩, .bool false], .agg #[.string ⟨#[]⟩, .bool false]]) (by simp [results, Tryd.results53, go_sem, a0, a1, b0, b1]) rfl ⟨stE_mk (p := rs0) (q := rs0) E1.out E2.out, (by repeat (first | exact HB.out | exact HB2.out | refine Below.setCell ?_ (by simp; omega) _ | refine below_drew ?_))⟩
end Go.Proofs.YtmifgnibalbgjaaDoor
