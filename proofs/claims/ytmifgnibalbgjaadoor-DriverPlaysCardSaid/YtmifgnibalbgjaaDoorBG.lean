/- The document's Step. -/
import Derived.Test.YtmifgnibalbgjaaDoorBE
import Derived.Test.YtmifgnibalbgjaaDoorBF
import Derived.Deep.CutBlock
namespace Go.Proofs.YtmifgnibalbgjaaDoor
open Go.RowKit
/-- the memory of a Step. -/
def St6 (w : World) (x : Opp) (h l : Rs) (wx : World) : Prop := Mem w [] wx [BlockA (w.heap.size + 1 + 1 + 1 + 1 + 1) #[.string ⟨#[]⟩, .bool false] 52, BlockA (w.heap.size + 1 + 1 + 1 + 1) #[.string ⟨#[]⟩, .bool false] 52, BlockA (w.heap.size + 1 + 1 + 1) #[.string ⟨#[]⟩, .bool false] 52,
  BlockA (w.heap.size + 1 + 1) #[.string l.v, .bool l.h] 52, BlockA (w.heap.size + 1) #[.string h.v, .bool h.h] 52, BlockA w.heap.size #[.int .i64 x.kind, .string x.key, .string x.value, .int .i64 x.n] 60]
theorem st6_new (w : World) (x : Opp) (h l : Rs) : St6 w x h l ((((((w.alloc (.cells #[.int .i64 x.kind, .string x.key, .string x.value, .int .i64 x.n] 60)).alloc (.cells #[.string h.v, .bool h.h] 52)).alloc (.cells #[.string l.v, .bool l.h] 52)).alloc (.cells #[.string ⟨#[]⟩, .bool false] 52)).alloc (.cells #[.string ⟨#[]⟩, .bool false] 52)).alloc (.cells #[.string ⟨#[]⟩, .bool false] 52)) := by
  have hm := Mem.block (stMid_new w x h l) #[.string ⟨#[]⟩, .bool false] 52
  have e : ((((((w.alloc (.cells #[.int .i64 x.kind, .string x.key, .string x.value, .int .i64 x.n] 60)).alloc (.cells #[.string h.v, .bool h.h] 52)).alloc (.cells #[.string l.v, .bool l.h] 52)).alloc (.cells #[.string ⟨#[]⟩, .bool false] 52)).alloc (.cells #[.string ⟨#[]⟩, .bool false] 52))).heap.size = w.heap.size + 1 + 1 + 1 + 1 + 1 := by simp
  rw [e] at hm
  exact hm
theorem St6.setH {w W : World} {x : Opp} {h l : Rs} (M : St6 w x h l W) (p : Rs) : St6 w x p l ((W.setCell ⟨w.heap.size + 1, 0, none⟩ (.string p.v)).setCell ⟨w.heap.size + 1, 1, none⟩ (.bool p.h)) := by
  have m1 := Mem.setAt [BlockA (w.heap.size + 1 + 1 + 1 + 1 + 1) #[.string ⟨#[]⟩, .bool false] 52, BlockA (w.heap.size + 1 + 1 + 1 + 1) #[.string ⟨#[]⟩, .bool false] 52, BlockA (w.heap.size + 1 + 1 + 1) #[.string ⟨#[]⟩, .bool false] 52, BlockA (w.heap.size + 1 + 1) #[.string l.v, .bool l.h] 52] (r := [BlockA w.heap.size #[.int .i64 x.kind, .string x.key, .string x.value, .int .i64 x.n] 60]) (i := 0) M (.string p.v)
  exact Mem.setAt [BlockA (w.heap.size + 1 + 1 + 1 + 1 + 1) #[.string ⟨#[]⟩, .bool false] 52, BlockA (w.heap.size + 1 + 1 + 1 + 1) #[.string ⟨#[]⟩, .bool false] 52, BlockA (w.heap.size + 1 + 1 + 1) #[.string ⟨#[]⟩, .bool false] 52, BlockA (w.heap.size + 1 + 1) #[.string l.v, .bool l.h] 52] (r := [BlockA w.heap.size #[.int .i64 x.kind, .string x.key, .string x.value, .int .i64 x.n] 60]) (i := 1) m1 (.bool p.h)
theorem St6.setL {w W : World} {x : Opp} {h l : Rs} (M : St6 w x h l W) (p : Rs) : St6 w x h p ((W.setCell ⟨w.heap.size + 1 + 1, 0, none⟩ (.string p.v)).setCell ⟨w.heap.size + 1 + 1, 1, none⟩ (.bool p.h)) := by
  have m1 := Mem.setAt [BlockA (w.heap.size + 1 + 1 + 1 + 1 + 1) #[.string ⟨#[]⟩, .bool false] 52, BlockA (w.heap.size + 1 + 1 + 1 + 1) #[.string ⟨#[]⟩, .bool false] 52, BlockA (w.heap.size + 1 + 1 + 1) #[.string ⟨#[]⟩, .bool false] 52] (r := [BlockA (w.heap.size + 1) #[.string h.v, .bool h.h] 52, BlockA w.heap.size #[.int .i64 x.kind, .string x.key, .string x.value, .int .i64 x.n] 60]) (i := 0) M (.string p.v)
  exact Mem.setAt [BlockA (w.heap.size + 1 + 1 + 1 + 1 + 1) #[.string ⟨#[]⟩, .bool false] 52, BlockA (w.heap.size + 1 + 1 + 1 + 1) #[.string ⟨#[]⟩, .bool false] 52, BlockA (w.heap.size + 1 + 1 + 1) #[.string ⟨#[]⟩, .bool false] 52] (r := [BlockA (w.heap.size + 1) #[.string h.v, .bool h.h] 52, BlockA w.heap.size #[.int .i64 x.kind, .string x.key, .string x.value, .int .i64 x.n] 60]) (i := 1) m1 (.bool p.h)
theorem St6.cells {w W : World} {x : Opp} {h l : Rs} (M : St6 w x h l W) :
    (W.cell? ⟨w.heap.size, 0, none⟩ = some (.int .i64 x.kind) ∧ W.cell? ⟨w.heap.size, 2, none⟩ = some (.string x.value) ∧ W.cell? ⟨w.heap.size, 3, none⟩ = some (.int .i64 x.n)) ∧
    (W.cell? ⟨w.heap.size + 1, 0, none⟩ = some (.string h.v) ∧ W.cell? ⟨w.heap.size + 1, 1, none⟩ = some (.bool h.h) ∧ W.frozen? ⟨w.heap.size + 1, 0, none⟩ = false ∧ W.frozen? ⟨w.heap.size + 1, 1, none⟩ = false) ∧
    (W.cell? ⟨w.heap.size + 1 + 1, 0, none⟩ = some (.string l.v) ∧ W.cell? ⟨w.heap.size + 1 + 1, 1, none⟩ = some (.bool l.h) ∧ W.frozen? ⟨w.heap.size + 1 + 1, 0, none⟩ = false ∧ W.frozen? ⟨w.heap.size + 1 + 1, 1, none⟩ = false) ∧
    (W.cell? ⟨w.heap.size + 1 + 1 + 1, 0, none⟩ = some (.string ⟨#[]⟩) ∧ W.cell? ⟨w.heap.size + 1 + 1 + 1, 1, none⟩ = some (.bool false) ∧ W.frozen? ⟨w.heap.size + 1 + 1 + 1, 0, none⟩ = false ∧ W.frozen? ⟨w.heap.size + 1 + 1 + 1, 1, none⟩ = false) ∧
    (W.cell? ⟨w.heap.size + 1 + 1 + 1 + 1, 0, none⟩ = some (.string ⟨#[]⟩) ∧ W.cell? ⟨w.heap.size + 1 + 1 + 1 + 1, 1, none⟩ = some (.bool false) ∧ W.frozen? ⟨w.heap.size + 1 + 1 + 1 + 1, 0, none⟩ = false ∧ W.frozen? ⟨w.heap.size + 1 + 1 + 1 + 1, 1, none⟩ = false) ∧
    (W.cell? ⟨w.heap.size + 1 + 1 + 1 + 1 + 1, 0, none⟩ = some (.string ⟨#[]⟩) ∧ W.cell? ⟨w.heap.size + 1 + 1 + 1 + 1 + 1, 1, none⟩ = some (.bool false)) := by
  obtain ⟨D, ⟨_, _, _, _, ⟨_, h5⟩, _, _, _, _, ⟨_, h4⟩, _, _, _, _, ⟨_, h3⟩, _, _, _, _, ⟨_, h2⟩, _, _, _, _, ⟨_, h1⟩, _, _, _, _, ⟨_, h0⟩, _⟩, _⟩ := M.out
  exact ⟨⟨(cell_of_heap h0 rfl).1, (cell_of_heap h0 rfl).1, (cell_of_heap h0 rfl).1⟩,
    ⟨(cell_of_heap h1 rfl).1, (cell_of_heap h1 rfl).1, (cell_of_heap (i := 0) h1 rfl).2, (cell_of_heap (i := 1) h1 rfl).2⟩,
    ⟨(cell_of_heap h2 rfl).1, (cell_of_heap h2 rfl).1, (cell_of_heap (i := 0) h2 rfl).2, (cell_of_heap (i := 1) h2 rfl).2⟩,
    ⟨(cell_of_heap h3 rfl).1, (cell_of_heap h3 rfl).1, (cell_of_heap (i := 0) h3 rfl).2, (cell_of_heap (i := 1) h3 rfl).2⟩,
    ⟨(cell_of_heap h4 rfl).1, (cell_of_heap h4 rfl).1, (cell_of_heap (i := 0) h4 rfl).2, (cell_of_heap (i := 1) h4 rfl).2⟩,
    ⟨(cell_of_heap h5 rfl).1, (cell_of_heap h5 rfl).1⟩⟩
set_option maxRecDepth 100000 in
set_option maxHeartbeats 8000000 in
theorem rstep_any (x : Opp) (h l : Rs) (w : World) (hk1 : 1 ≤ x.kind) (hk5 : x.kind ≤ 5) (hh : h.v.size ≤ 140737488355328) :
    Calls Tryd.prog 38 #[opV x, rsV h, rsV l] w fun e w' => e = stE x h l ∧ Below w.heap.size w w' := by
  obtain ⟨k, y, v, n⟩ := x
  obtain ⟨hv0, hh0⟩ := h
  obtain ⟨lv0, lh0⟩ := l
  unfold opV
  simp only at hk1 hk5 hh ⊢
  have e1 : rsV ⟨hv0, hh0⟩ = .agg #[.string hv0, .bool hh0] := rfl
  have e2 : rsV ⟨lv0, lh0⟩ = .agg #[.string lv0, .bool lh0] := rfl
  have HPS : Hid ((plainR ⟨hv0, hh0⟩).v.size ≤ 140737488355328) := Lib.hid (by cases hh0 <;> first | exact hh | exact Nat.zero_le _)
  have EA : Hid (∀ o h l, stE o h l = stE o h l) := Lib.hid fun _ _ _ => rfl
  rw [e1, e2]
  clear e1 e2 hh EA
  go_enter Tryd.func38, Tryd.ntmps38
  go_upto_if 14 with (fail)
  obtain ⟨W6, hW6⟩ : ∃ W6, W6 = ((((((w.alloc (.cells #[.int .i64 k, .string y, .string v, .int .i64 n] 60)).alloc (.cells #[.string hv0, .bool hh0] 52)).alloc (.cells #[.string lv0, .bool lh0] 52)).alloc (.cells #[.string ⟨#[]⟩, .bool false] 52)).alloc (.cells #[.string ⟨#[]⟩, .bool false] 52)).alloc (.cells #[.string ⟨#[]⟩, .bool false] 52)) := ⟨_, rfl⟩
  rw [← hW6]
  have M6 : St6 w ⟨k, y, v, n⟩ ⟨hv0, hh0⟩ ⟨lv0, lh0⟩ W6 := by rw [hW6]; exact st6_new w ⟨k, y, v, n⟩ ⟨hv0, hh0⟩ ⟨lv0, lh0⟩
  clear hW6
  go_cut [] from 15 to 15 (fun wx => Hid (St6 w ⟨k, y, v, n⟩ (plainR ⟨hv0, hh0⟩) ⟨lv0, lh0⟩ wx))
  case first =>
    obtain ⟨-, ⟨h0, h1, fh0, fh1⟩, -, -, -, ⟨z0, z1⟩⟩ := M6.cells
    simp only at h0 h1 fh0 fh1
    have HM := Lib.hid M6
    clear M6
    cases hh0 with
    | true =>
      go_wp2_with fail
      go_meet
      case rel => exact HM
    | false =>
      go_wp2_with fail
      go_meet
      case rel => exact Lib.hid (HM.out.setH rs0)
  case rest =>
    have M6 := hcut
    clear hcut
    obtain ⟨-, -, ⟨l0, l1, fl0, fl1⟩, -, -, ⟨z0, z1⟩⟩ := M6.out.cells
    simp only at l0 l1 fl0 fl1
    go_upto_if 18 with (fail)
    go_cut [] from 19 to 19 (fun wx => Hid (St6 w ⟨k, y, v, n⟩ (plainR ⟨hv0, hh0⟩) (plainR ⟨lv0, lh0⟩) wx))
    case first =>
      cases lh0 with
      | true =>
        go_wp2_with fail
        go_meet
        case rel => exact M6
      | false =>
        go_wp2_with fail
        go_meet
        case rel => exact Lib.hid (M6.out.setL rs0)
    case rest =>
      clear M6 l0 l1 fl0 fl1 z0 z1
      have EW : Hid (∀ o, stepW o ⟨hv0, hh0⟩ ⟨lv0, lh0⟩ = if o.kind = 2 then ⟨o.value, true⟩ else if o.kind = 4 then plainR ⟨lv0, lh0⟩ else if o.kind = 5 then addR o (plainR ⟨hv0, hh0⟩) else rs0) := Lib.hid fun _ => rfl
      have ER : Hid (∀ o, stepR o ⟨hv0, hh0⟩ = if o.kind = 5 then addR o (plainR ⟨hv0, hh0⟩) else if o.kind = 1 ∨ o.kind = 2 ∨ o.kind = 3 ∨ o.kind = 4 then plainR ⟨hv0, hh0⟩ else rs0) := Lib.hid fun _ => rfl
      generalize plainR ⟨hv0, hh0⟩ = ph at *
      generalize plainR ⟨lv0, lh0⟩ = pl at *
      have HB := Lib.hid (Mem.bel hcut.out)
      obtain ⟨⟨o0, o2, o3⟩, ⟨h0, h1, -, -⟩, ⟨l0, l1, -, -⟩, ⟨a0, a1, fa0, fa1⟩, ⟨b0, b1, fb0, fb1⟩, ⟨z0, z1⟩⟩ := hcut.out.cells
      simp only at o0 o2 o3
      have hk : k = 1 ∨ k = 2 ∨ k = 3 ∨ k = 4 ∨ k = 5 := by omega
      rcases hk with rfl | rfl | rfl | rfl | rfl
      · have E1 : Hid (stepW ⟨1, y, v, n⟩ ⟨hv0, hh0⟩ ⟨lv0, lh0⟩ = rs0) := Lib.hid (EW.out _)
        have E2 : Hid (stepR ⟨1, y, v, n⟩ ⟨hv0, hh0⟩ = ph) := Lib.hid (ER.out _)
        clear hcut EW ER
        go_wp2_with fail
        go_region
        all_goals
          go_wp2_with fail
          exact bodyPost_ret (v := .tuple #[.agg #[.string ⟨#[]⟩, .bool false], .agg #[.string ph.v, .bool ph.h]]) (by simp [results, Tryd.results38, go_sem, a0, a1, b0, b1]) rfl ⟨stE_mk (p := rs0) (q := ph) E1.out E2.out, (by repeat (first | exact HB.out | refine Below.setCell ?_ (by simp; omega) _ | refine below_drew ?_))⟩
      · have E1 : Hid (stepW ⟨2, y, v, n⟩ ⟨hv0, hh0⟩ ⟨lv0, lh0⟩ = ⟨v, true⟩) := Lib.hid (EW.out _)
        have E2 : Hid (stepR ⟨2, y, v, n⟩ ⟨hv0, hh0⟩ = ph) := Lib.hid (ER.out _)
        clear hcut EW ER
        go_wp2_with fail
        go_region
        all_goals
          go_wp2_with fail
          exact bodyPost_ret (v := .tuple #[.agg #[.string v, .bool true], .agg #[.string ph.v, .bool ph.h]]) (by simp [results, Tryd.results38, go_sem, a0, a1, b0, b1]) rfl ⟨stE_mk (p := ⟨v, true⟩) (q := ph) E1.out E2.out, (by repeat (first | exact HB.out | refine Below.setCell ?_ (by simp; omega) _ | refine below_drew ?_))⟩
      · have E1 : Hid (stepW ⟨3, y, v, n⟩ ⟨hv0, hh0⟩ ⟨lv0, lh0⟩ = rs0) := Lib.hid (EW.out _)
        have E2 : Hid (stepR ⟨3, y, v, n⟩ ⟨hv0, hh0⟩ = ph) := Lib.hid (ER.out _)
        clear hcut EW ER
        go_wp2_with fail
        go_region
        all_goals
          go_wp2_with fail
          exact bodyPost_ret (v := .tuple #[.agg #[.string ⟨#[]⟩, .bool false], .agg #[.string ph.v, .bool ph.h]]) (by simp [results, Tryd.results38, go_sem, a0, a1, b0, b1]) rfl ⟨stE_mk (p := rs0) (q := ph) E1.out E2.out, (by repeat (first | exact HB.out | refine Below.setCell ?_ (by simp; omega) _ | refine below_drew ?_))⟩
      · have E1 : Hid (stepW ⟨4, y, v, n⟩ ⟨hv0, hh0⟩ ⟨lv0, lh0⟩ = pl) := Lib.hid (EW.out _)
        have E2 : Hid (stepR ⟨4, y, v, n⟩ ⟨hv0, hh0⟩ = ph) := Lib.hid (ER.out _)
        clear hcut EW ER
        go_wp2_with fail
        go_region
        all_goals
          go_wp2_with fail
          exact bodyPost_ret (v := .tuple #[.agg #[.string pl.v, .bool pl.h], .agg #[.string ph.v, .bool ph.h]]) (by simp [results, Tryd.results38, go_sem, a0, a1, b0, b1]) rfl ⟨stE_mk (p := pl) (q := ph) E1.out E2.out, (by repeat (first | exact HB.out | refine Below.setCell ?_ (by simp; omega) _ | refine below_drew ?_))⟩
      · have E1 : Hid (stepW ⟨5, y, v, n⟩ ⟨hv0, hh0⟩ ⟨lv0, lh0⟩ = addR ⟨5, y, v, n⟩ ph) := Lib.hid (EW.out _)
        have E2 : Hid (stepR ⟨5, y, v, n⟩ ⟨hv0, hh0⟩ = addR ⟨5, y, v, n⟩ ph) := Lib.hid (ER.out _)
        obtain ⟨wm, hwm⟩ : ∃ wm, wm = wc := ⟨_, rfl⟩
        rw [← hwm] at HB o0 o2 o3 h0 h1 l0 l1 a0 a1 b0 b1 z0 z1 fa0 fa1 fb0 fb1 ⊢
        clear hcut EW ER hwm
        have HN := Lib.hid (rnumber_any ph.v wm HPS.out)
        rw [refNum_eq] at HN
        obtain ⟨nb1, nb2⟩ := numB_bd ph.v
        obtain ⟨cb1, cb2⟩ := clampN_bd n
        obtain ⟨sb1, sb2⟩ := clampN_bd (numB ph.v + clampN n)
        have EA : Hid (addR ⟨5, y, v, n⟩ ph = ⟨itoaS (clampN (numB ph.v + clampN n)), true⟩) := Lib.hid rfl
        have ECn : Hid (clampN n = min (max n (-1125899906842624)) 1125899906842624) := Lib.hid rfl
        have ECs : Hid (∀ z, clampN z = min (max z (-1125899906842624)) 1125899906842624) := Lib.hid fun _ => rfl
        generalize numB ph.v = nb at *
        have HTS := Lib.hid fun W => rtext_any (clampN (nb + clampN n)) W (by omega) (by omega)
        generalize hcn : clampN n = cn at *
        have HCN : Hid (cn = min (max n (-1125899906842624)) 1125899906842624) := Lib.hid (by rw [← hcn]; exact ECs.out _)
        clear hcn ECn
        have hwrap := IntWalk.i64_in (cn + nb) (by omega)
        rw [Int.add_comm nb cn] at *
        generalize hsm : clampN (cn + nb) = sm at *
        have HSM : Hid (sm = min (max (cn + nb) (-1125899906842624)) 1125899906842624) := Lib.hid (by rw [← hsm]; exact ECs.out _)
        clear hsm ECs
        go_upto_if 38 with (fail)
        go_cut [9] from 38 to 38 (fun v9 wx => v9 = .int .i64 (min n 1125899906842624) ∧ wx = wm)
        case first =>
          by_cases c : 1125899906842624 < n
          · have b : decide (1125899906842624 < n) = true := decide_eq_true c
            go_wp2_with fail
            go_meet
            case rel => exact ⟨by rw [Int.min_eq_right (by omega)], rfl⟩
          · have b : decide (1125899906842624 < n) = false := decide_eq_false c
            go_wp2_with fail
            go_meet
            case rel => exact ⟨by rw [Int.min_eq_left (by omega)], rfl⟩
        case rest =>
        obtain ⟨rfl, rfl⟩ := hcut
        obtain ⟨n1, hn1⟩ : ∃ n1, n1 = min n 1125899906842624 := ⟨_, rfl⟩
        rw [← hn1]
        have HN1 := Lib.hid hn1
        clear hn1
        go_upto_if 40 with (fail)
        go_cut [9] from 40 to 40 (fun v9 wx => v9 = .int .i64 cn ∧ wx = wc)
        case first =>
          by_cases c : n1 < -1125899906842624
          · have b : decide (n1 < -1125899906842624) = true := decide_eq_true c
            go_wp2_with fail
            go_meet
            case rel => exact ⟨by have e1 := HN1.out; have e2 := HCN.out; congr 1; omega, rfl⟩
          · have b : decide (n1 < -1125899906842624) = false := decide_eq_false c
            go_wp2_with fail
            go_meet
            case rel => exact ⟨by have e1 := HN1.out; have e2 := HCN.out; congr 1; omega, rfl⟩
        case rest =>
        obtain ⟨rfl, hwc⟩ := hcut
        subst hwc
        clear HN1 HCN
        have HKS : Hid (∀ W, Below wc.heap.size wc W → (W.cell? ⟨w.heap.size + 1 + 1 + 1, 0, none⟩ = some (.string ⟨#[]⟩) ∧ W.cell? ⟨w.heap.size + 1 + 1 + 1, 1, none⟩ = some (.bool false) ∧ W.cell? ⟨w.heap.size + 1 + 1 + 1 + 1, 0, none⟩ = some (.string ⟨#[]⟩) ∧ W.cell? ⟨w.heap.size + 1 + 1 + 1 + 1, 1, none⟩ = some (.bool false)) ∧
            (W.frozen? ⟨w.heap.size + 1 + 1 + 1, 0, none⟩ = false ∧ W.frozen? ⟨w.heap.size + 1 + 1 + 1, 1, none⟩ = false ∧ W.frozen? ⟨w.heap.size + 1 + 1 + 1 + 1, 0, none⟩ = false ∧ W.frozen? ⟨w.heap.size + 1 + 1 + 1 + 1, 1, none⟩ = false) ∧ w.heap.size + 1 + 1 + 1 < W.heap.size ∧ w.heap.size + 1 + 1 + 1 + 1 < W.heap.size ∧ w.heap.size ≤ W.heap.size) := Lib.hid fun W hb => by
          have q0 := World.block_lt_of_cell? wc _ a0
          have q1 := World.block_lt_of_cell? wc _ b0
          have hs := hb.size
          simp only at q0 q1
          exact ⟨⟨(hb.cell q0).trans a0, (hb.cell q0).trans a1, (hb.cell q1).trans b0, (hb.cell q1).trans b1⟩, ⟨(hb.frozen q0).trans fa0, (hb.frozen q0).trans fa1, (hb.frozen q1).trans fb0, (hb.frozen q1).trans fb1⟩, by omega, by omega, by omega⟩
        go_wp2_with fail
        refine HN.out.mono ?_
        rintro e w1 ⟨rfl, hb1⟩
        have HB1 := Lib.hid hb1
        clear hb1 HN o0 o2 o3 h0 h1 l0 l1 a0 a1 b0 b1 z0 z1 fa0 fa1 fb0 fb1
        go_upto_if 47 with (fail)
        generalize hs0 : cn + nb = s0 at *
        clear hs0
        go_cut [9] from 47 to 47 (fun v9 wx => v9 = .int .i64 (min s0 1125899906842624) ∧ wx = w1)
        case first =>
          by_cases c : 1125899906842624 < s0
          · have b : decide (1125899906842624 < s0) = true := decide_eq_true c
            go_wp2_with fail
            go_meet
            case rel => exact ⟨by rw [Int.min_eq_right (by omega)], rfl⟩
          · have b : decide (1125899906842624 < s0) = false := decide_eq_false c
            go_wp2_with fail
            go_meet
            case rel => exact ⟨by rw [Int.min_eq_left (by omega)], rfl⟩
        case rest =>
        obtain ⟨rfl, hwc⟩ := hcut
        subst hwc
        obtain ⟨n2, hn2⟩ : ∃ n2, n2 = min s0 1125899906842624 := ⟨_, rfl⟩
        rw [← hn2]
        have HN2 := Lib.hid hn2
        clear hn2
        go_upto_if 49 with (fail)
        go_cut [9] from 49 to 49 (fun v9 wx => v9 = .int .i64 sm ∧ wx = wc)
        case first =>
          by_cases c : n2 < -1125899906842624
          · have b : decide (n2 < -1125899906842624) = true := decide_eq_true c
            go_wp2_with fail
            go_meet
            case rel => exact ⟨by have e1 := HN2.out; have e2 := HSM.out; congr 1; omega, rfl⟩
          · have b : decide (n2 < -1125899906842624) = false := decide_eq_false c
            go_wp2_with fail
            go_meet
            case rel => exact ⟨by have e1 := HN2.out; have e2 := HSM.out; congr 1; omega, rfl⟩
        case rest =>
        obtain ⟨rfl, hwc⟩ := hcut
        subst hwc
        clear HN2 HSM
        have H1 := Lib.hid (HTS.out wc)
        clear HTS
        go_wp2_with fail
        refine H1.out.mono ?_
        rintro e w7 ⟨rfl, hb⟩
        have hbb := HB1.out.trans (hb.mono HB1.out.size)
        have HB9 := Lib.hid (HB.out.trans (hbb.mono HB.out.size))
        obtain ⟨⟨a0, a1, b0, b1⟩, ⟨fa0, fa1, fb0, fb1⟩, z1, z2, z3⟩ := HKS.out w7 hbb
        clear hb hbb H1 HKS
        go_wp2_with fail
        go_region
        all_goals
          go_wp2_with fail
          exact bodyPost_ret (v := .tuple #[.agg #[.string (itoaS sm), .bool true], .agg #[.string (itoaS sm), .bool true]]) (by simp [results, Tryd.results38, go_sem, a0, a1, b0, b1, z1, z2]) rfl ⟨stE_mk (p := ⟨itoaS sm, true⟩) (q := ⟨itoaS sm, true⟩) (E1.out.trans EA.out) (E2.out.trans EA.out), (by repeat (first | exact HB9.out | refine Below.setCell ?_ (by simp; omega) _ | refine below_drew ?_ | refine Below.alloc ?_ (by first | omega | (simp; done) | (simp; omega)) _))⟩
end Go.Proofs.YtmifgnibalbgjaaDoor
