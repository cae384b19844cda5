/- The document's row: Ask, where one is put in (B). -/
import Derived.Test.YtnemgmlhcjhdhaaBM0
import Derived.Deep.RegionHeld3
import Derived.Deep.Cut
import Derived.Deep.CutRange
namespace Go.Proofs.Ytnemgmlhcjhdhaa
open Go.RowKit
set_option maxRecDepth 100000 in
set_option maxHeartbeats 40000000 in
theorem rask_B (p : Nat) (l : List Wn) (o : Int) (k : ByteArray) (m : Int) (w : World) (D : List Nat) (h : RefA p l w D) (hml : l.length ≤ 150) (h0 : ¬ o < 0) (h1 : ¬ 16 < k.size) (h2 : ¬ m < 1) (h3 : ¬ 2 < m) (hv0 : ¬ m ≤ hasR l o k true) (hu0 : ¬ 0 < hasR l o k false) (g : Nat) (hc0 : w.cell? ⟨p, 0, none⟩ = some (.slice (some ⟨g, 0, none⟩) l.length l.length)) (hr0 : Row w 80 5 (some ⟨g, 0, none⟩) l.length l.length (wnFlat l)) (hqc : atR l o k = l.length) :
    Calls Try.prog 27 #[.pointer (some ⟨p, 0, none⟩), .int .i64 o, .string k, .int .i64 m] w fun e w' => e = .returned (.int .i64 (askR l o k m).1) ∧ Mem w D w' [RefA p (askR l o k m).2] := by
  have hrf : RfAt w p l := RfAt.mem (r := []) (Mem.start h)
  have HH1 := Lib.hid (has_any p l o k true w hrf (by omega))
  have HH2 := Lib.hid fun W (hb : Below w.heap.size w W) => has_any p l o k false W (hrf.below hb) (by omega)
  have hask : askR l o k m = (if m ≤ hasR (letR k (l.length + 1) (askedR l o k m)).2 o k true then 0 else 10, (letR k (l.length + 1) (askedR l o k m)).2) := by
    unfold askR
    rw [if_neg (by simp only [not_or]; exact ⟨h0, h1, h2, h3⟩), if_neg hv0, if_neg hu0]
  have hat : atR l o k = if 0 < hasR l o k true then posBy (fun w => !(isW k w && !w.up)) l else l.length := rfl
  have hqL : atR l o k ≤ l.length := by rw [hat]; split; exact posBy_le _ _; exact Nat.le_refl _
  have haq : askedR l o k m = l.take (atR l o k) ++ ⟨k, o, m, false, decide (0 < hasR l o k true)⟩ :: l.drop (atR l o k) := rfl
  have HFIN : Hid (∀ W, Mem w D W [RefA p (letR k (l.length + 1) (askedR l o k m)).2] → ∀ x : Int, x = (if m ≤ hasR (letR k (l.length + 1) (askedR l o k m)).2 o k true then 0 else 10) → Ending.returned (.int .i64 x) = .returned (.int .i64 (askR l o k m).1) ∧ Mem w D W [RefA p (askR l o k m).2]) := Lib.hid fun W hW x hx => by rw [hask]; exact ⟨by rw [hx], hW⟩
  have hfw0 : w.frozen? ⟨p, 0, none⟩ = false := h.parts.choose_spec.choose_spec.2.1
  have hlA : (askedR l o k m).length = l.length + 1 := by
    rw [haq, List.length_append, List.length_cons, List.length_take, List.length_drop]; omega
  have HL2 : Hid ((letR k (l.length + 1) (askedR l o k m)).2.length ≤ 151) := Lib.hid (by have := (letR_len k (l.length + 1) (askedR l o k m)).1; omega)
  have HAT := Lib.hid hat
  have HAQ := Lib.hid haq
  have HA0 := Lib.hid h
  clear hask hat haq h hrf
  have d0 : decide (o < 0) = false := decide_eq_false h0
  have d2 : decide (m < 1) = false := decide_eq_false h2
  have d3 : decide (2 < m) = false := decide_eq_false h3
  have hks : k.size ≤ 16 := by omega
  have d1 : decide ((16 : Int) < (k.size : Int)) = false := decide_eq_false (by omega)
  generalize hasR l o k false = u at *
  generalize hasR l o k true = v at *
  have dv : decide (m ≤ v) = false := decide_eq_false hv0
  have du : decide (0 < u) = false := decide_eq_false hu0
  generalize atR l o k = q at *
  generalize askedR l o k m = A at *
  clear h0 h1 h2 h3 hv0 hu0
  go_enter Try.func27, Try.ntmps27
  go_wp2_with fail
  refine HH1.out.mono ?_
  rintro e w1 ⟨rfl, hb⟩
  have HB1 := Lib.hid hb
  clear hb HH1
  go_wp2_with fail
  refine (HH2.out w1 HB1.out).mono ?_
  rintro e w2 ⟨rfl, hb⟩
  have HB2 := Lib.hid (HB1.out.trans (hb.mono HB1.out.size))
  have hcw0 := (HB2.out.cell (World.block_lt_of_cell? w _ hc0)).trans hc0
  clear hb HB1 HH2
  generalize hvb : decide (0 < v) = vb at *
  have hcwo := fun oo => ((bel_new w2 oo).cell (World.block_lt_of_cell? w2 _ hcw0)).trans hcw0
  go_upto_if 52 with (fail)
  clear hcwo
  obtain ⟨wr, hwr⟩ : ∃ wr, wr = w2.alloc (.cells #[.string k, .int .i64 o, .int .i64 m, .bool false, .bool vb] 80) := ⟨_, rfl⟩
  have HBW : Hid (Below w.heap.size w wr) := Lib.hid (by rw [hwr]; exact bel_one HB2.out _)
  have hb0 : wr.cell? ⟨w2.heap.size, 0, none⟩ = some (.string k) ∧ wr.cell? ⟨w2.heap.size, 1, none⟩ = some (.int .i64 o) ∧ wr.cell? ⟨w2.heap.size, 2, none⟩ = some (.int .i64 m) ∧ wr.cell? ⟨w2.heap.size, 3, none⟩ = some (.bool false) ∧ wr.cell? ⟨w2.heap.size, 4, none⟩ = some (.bool vb) := by rw [hwr]; refine ⟨?_, ?_, ?_, ?_, ?_⟩ <;> simp [go_sem]
  have hbxs : w2.heap.size < wr.heap.size := by rw [hwr]; simp
  rw [← hwr]
  clear hwr hcw0
  have hplt0 := World.block_lt_of_cell? w _ hc0
  simp only at hplt0
  have hpb : p < w2.heap.size := Nat.lt_of_lt_of_le hplt0 HB2.out.size
  generalize w2.heap.size = bx at *
  have hcw := (HBW.out.cell (World.block_lt_of_cell? w _ hc0)).trans hc0
  have hfw := (HBW.out.frozen (World.block_lt_of_cell? w _ hc0)).trans hfw0
  have hplt := World.block_lt_of_cell? wr _ hcw
  simp only at hplt
  clear hc0 hfw0 hplt0
  go_cut [11, 12] from 53 to 95 (fun v11 _v12 wx => v11 = .int .i64 q ∧ Hid (wr = wx))
  case first =>
    cases vb with
    | false =>
      have hq : q = l.length := by rw [HAT.out, if_neg (of_decide_eq_false hvb)]
      clear HAT HAQ HFIN HA0
      go_wp2_with fail
      go_meet
      case rel => exact ⟨by rw [hq] <;> first | rfl | simp, Lib.hid rfl⟩
    | true =>
      have hq : q = posF l 0 k := by rw [HAT.out, if_pos (of_decide_eq_true hvb)]; unfold posF; rw [List.drop_zero, Nat.zero_add]
      have HQ := Lib.hid hq
      clear HAT HAQ HFIN HA0 hq
      have ROWL := Lib.hid (hr0.below HBW.out)
      go_wp2_with fail
      go_loopw [11, 12] (fun v11 v12 wx => ∃ j : Nat, j ≤ l.length ∧ v12 = .int .i64 ((j : Int) - 1) ∧ v11 = .int .i64 (posF l j k : Nat) ∧ Hid (wr = wx)) (fun _ v12 _ => (intOf v12 + 1).toNat)
      case atStart => exact ⟨l.length, Nat.le_refl _, by go_num, by rw [posF_end] <;> rfl, Lib.hid rfl⟩
      case round =>
        obtain ⟨j0, hj0, rfl, rfl, hwe⟩ := hrel
        obtain rfl := hwe.out
        clear hwe
        cases j0 with
        | zero =>
          have hp := HQ.out
          go_wp2_with fail
          go_meet
          case rel => exact ⟨by rw [hp], Lib.hid rfl⟩
        | succ j =>
          have hjl : j < l.length := by omega
          have hpl : posF l (j + 1) k ≤ l.length := posF_le _ _ _ (by omega)
          obtain ⟨g', e', hx⟩ := wnAt_row ROWL.out j hjl
          simp only [Option.some.injEq, Addr.mk.injEq, and_true] at e'
          subst e'
          obtain ⟨c0, c1, c2, c3, c4⟩ := hx
          have HCND : Hid ((isW k l[j] && !l[j].up) = ((l[j].key.toList == k.toList) && !l[j].isin && !l[j].up)) := Lib.hid (by rw [isW_eq])
          have HNX := Lib.hid (posF_next (k := k) hjl)
          have hjz : (0 : Int) ≤ (j : Int) := by omega
          have hjn : (j : Int) < (l.length : Int) := by omega
          have hj1 : ((j + 1 : Nat) : Int) - 1 = (j : Int) := by omega
          clear c1 c2
          generalize l[j] = x at *
          obtain ⟨xk, xo, xm, xi, xu⟩ := x
          simp only at c0 c3 c4 HCND HNX
          rw [HCND.out] at HNX
          clear HCND
          cases p1 : (xk.toList == k.toList) with
          | false =>
            have HN : Hid (posF l j k = posF l (j + 1) k) := Lib.hid (by rw [HNX.out, p1]; rfl)
            clear HNX
            go_wp2_with fail
            go_roundw
            case rel => exact ⟨j, by omega, by go_num, by rw [HN.out] <;> first | rfl | simp, (by first | exact Lib.hid rfl | trivial)⟩
            case measure => simp [intOf] <;> omega
          | true =>
            cases xi with
            | true =>
              have HN : Hid (posF l j k = posF l (j + 1) k) := Lib.hid (by rw [HNX.out, p1]; rfl)
              clear HNX
              go_wp2_with fail
              go_roundw
              case rel => exact ⟨j, by omega, by go_num, by rw [HN.out] <;> first | rfl | simp, (by first | exact Lib.hid rfl | trivial)⟩
              case measure => simp [intOf] <;> omega
            | false =>
              cases xu with
              | true =>
                have HN : Hid (posF l j k = posF l (j + 1) k) := Lib.hid (by rw [HNX.out, p1]; rfl)
                clear HNX
                go_wp2_with fail
                go_roundw
                case rel => exact ⟨j, by omega, by go_num, by rw [HN.out] <;> first | rfl | simp, (by first | exact Lib.hid rfl | trivial)⟩
                case measure => simp [intOf] <;> omega
              | false =>
                have HN : Hid (posF l j k = j) := Lib.hid (by rw [HNX.out, p1]; rfl)
                clear HNX
                go_wp2_with fail
                go_roundw
                case rel => exact ⟨j, by omega, by go_num, by rw [HN.out] <;> first | rfl | simp, (by first | exact Lib.hid rfl | trivial)⟩
                case measure => simp [intOf] <;> omega
  case rest =>
    obtain ⟨rfl, hwe⟩ := hcut
    obtain rfl := hwe.out
    clear hwe HAT
    obtain ⟨b0, b1, b2, b3', b4⟩ := hb0
    have HSX : Hid (∀ W, Below wr.heap.size wr W → W.cell? ⟨bx, 0, none⟩ = some (.string k) ∧ W.cell? ⟨bx, 1, none⟩ = some (.int .i64 o) ∧ W.cell? ⟨bx, 2, none⟩ = some (.int .i64 m) ∧ W.cell? ⟨bx, 3, none⟩ = some (.bool false) ∧ W.cell? ⟨bx, 4, none⟩ = some (.bool vb)) := Lib.hid fun W hb => ⟨(hb.cell (World.block_lt_of_cell? wr _ b0)).trans b0, (hb.cell (World.block_lt_of_cell? wr _ b1)).trans b1, (hb.cell (World.block_lt_of_cell? wr _ b2)).trans b2, (hb.cell (World.block_lt_of_cell? wr _ b3')).trans b3', (hb.cell (World.block_lt_of_cell? wr _ b4)).trans b4⟩
    have HSS : Hid (∀ W x, Below wr.heap.size wr W → (W.setCell ⟨p, 0, none⟩ x).cell? ⟨bx, 0, none⟩ = some (.string k) ∧ (W.setCell ⟨p, 0, none⟩ x).cell? ⟨bx, 1, none⟩ = some (.int .i64 o) ∧ (W.setCell ⟨p, 0, none⟩ x).cell? ⟨bx, 2, none⟩ = some (.int .i64 m) ∧ (W.setCell ⟨p, 0, none⟩ x).cell? ⟨bx, 3, none⟩ = some (.bool false) ∧ (W.setCell ⟨p, 0, none⟩ x).cell? ⟨bx, 4, none⟩ = some (.bool vb)) := Lib.hid fun W x hb => by
      obtain ⟨e0, e1, e2, e3, e4⟩ := HSX.out W hb
      have hne : (⟨p, 0, none⟩ : Addr).block ≠ bx := by show p ≠ bx; omega
      exact ⟨(World.cell?_setCell_far W _ _ _ hne).trans e0, (World.cell?_setCell_far W _ _ _ hne).trans e1, (World.cell?_setCell_far W _ _ _ hne).trans e2, (World.cell?_setCell_far W _ _ _ hne).trans e3, (World.cell?_setCell_far W _ _ _ hne).trans e4⟩
    go_upto_region 16 with (fail)
    go_cut [] from 96 to 116 (fun wx => Hid (Mem w D wx [RefA p A]))
    case first =>
      have hz0 : ¬ wr.heap.size = p := by omega
      have hz1 : ¬ wr.heap.size + 1 = p := by omega
      have hz2 : ¬ wr.heap.size = bx := by omega
      have hz3 : ¬ wr.heap.size + 1 = bx := by omega
      have HR := Lib.hid (hr0.below HBW.out)
      clear hr0
      subst hqc
      have SUB1 : Hid (SubV wr 5 (.slice (some ⟨g, 0, none⟩) l.length l.length) l.length ((wnFlat l).take (l.length * 5))) := Lib.hid (SubV.upto HR.out (wnFlat_one l) (by omega))
      have SUB2 : Hid (SubV wr 5 (.slice (some ⟨g, 0, none⟩) 0 0) 0 []) := Lib.hid SubV.zero
      have HW3 : Hid (∀ b3 c3 V3, Row V3 80 5 b3 (l.length + 1) c3 ([] ++ ((wnFlat l).take (l.length * 5)) ++ [.string k, .int .i64 o, .int .i64 m, .bool false, .bool vb] ++ []) → NewB wr b3 → Below wr.heap.size wr V3 → ∀ W', W' = V3.setCell ⟨p, 0, none⟩ (.slice b3 (l.length + 1) c3) → Mem w D W' [RefA p A]) := Lib.hid fun b3 c3 V3 hr3 hn3 hV3 W' e => by
        have e1 : l.length + 1 = A.length := by rw [hlA]; skip
        have e2 : ([] ++ ((wnFlat l).take (l.length * 5)) ++ [.string k, .int .i64 o, .int .i64 m, .bool false, .bool vb] ++ []) = wnFlat A := by
          rw [HAQ.out]
          rw [List.nil_append, wnFlat_take, wnFlat_append, wnFlat_cons, List.append_nil, List.drop_length]; rfl
        have hr4 : Row V3 80 5 b3 A.length c3 (wnFlat A) := by rw [← e1, ← e2]; exact hr3
        have hA1 : RefA p l wr D := Stable.keep HA0.out fun x hx => HBW.out.block x (Stable.lt HA0.out x hx)
        obtain ⟨hf, D', g1, g2⟩ := ref_set hA1 hV3 hr4 hn3
        rw [← e1] at g1 g2
        subst e
        exact ⟨D', all_one g1, ((Step.of_below HBW.out D).trans g2).touch, ((Step.of_below HBW.out D).trans g2).fresh⟩
      clear HAQ HA0 HFIN HBW HB2 HR
      go_wp2_with fail
      have HTS : Hid (∀ W, Below wr.heap.size wr W → W.cell? ⟨bx, 0, none⟩ = some (.string k) ∧ W.cell? ⟨bx, 1, none⟩ = some (.int .i64 o) ∧ W.cell? ⟨bx, 2, none⟩ = some (.int .i64 m) ∧ W.cell? ⟨bx, 3, none⟩ = some (.bool false) ∧ W.cell? ⟨bx, 4, none⟩ = some (.bool vb) ∧ W.cell? ⟨p, 0, none⟩ = some (.slice (some ⟨g, 0, none⟩) l.length l.length)) := Lib.hid fun W hb => by
        obtain ⟨e0, e1, e2, e3, e4⟩ := HSX.out W hb
        exact ⟨e0, e1, e2, e3, e4, (hb.cell hplt).trans hcw⟩
      refine wp_region_till (fun W => W.cell? ⟨bx, 0, none⟩ = some (.string k) ∧ W.cell? ⟨bx, 1, none⟩ = some (.int .i64 o) ∧ W.cell? ⟨bx, 2, none⟩ = some (.int .i64 m) ∧ W.cell? ⟨bx, 3, none⟩ = some (.bool false) ∧ W.cell? ⟨bx, 4, none⟩ = some (.bool vb) ∧ W.cell? ⟨p, 0, none⟩ = some (.slice (some ⟨g, 0, none⟩) l.length l.length)) 21 (by kernel_rfl) (HTS.out _ (bel_two (Below.refl _ _))) (fun hM hS => ?_)
      refine till_op (v := ?_) 0 [19, 20] hM rfl (by kernel_rfl) (by kernel_rfl) (by kernel_rfl) (by kernel_rfl) rfl (fun _ _ _ h => h) (Or.inl ⟨by rfl, ?_⟩) hS (fun hM => ?_)
      rotate_left
      · intro W hSw
        (try dsimp only at hSw)
        go_simp
        try with_reducible rfl
      try simp only [Act.put, List.setIfInBounds_toArray, List.set_cons_zero, List.set_cons_succ]
      refine till_op (v := ?_) 2 [3, 4, 5, 7, 8, 11, 18] hM rfl (by kernel_rfl) (by kernel_rfl) (by kernel_rfl) (by kernel_rfl) rfl (fun _ _ _ h => h) (Or.inl ⟨by rfl, ?_⟩) hS (fun hM => ?_)
      rotate_left
      · intro W hSw
        (try dsimp only at hSw)
        go_simp
        try with_reducible rfl
      try simp only [Act.put, List.setIfInBounds_toArray, List.set_cons_zero, List.set_cons_succ]
      refine till_op (v := ?_) 3 [4, 5, 7, 8, 11, 18] hM rfl (by kernel_rfl) (by kernel_rfl) (by kernel_rfl) (by kernel_rfl) rfl (fun _ _ _ h => h) (Or.inl ⟨by rfl, ?_⟩) hS (fun hM => ?_)
      rotate_left
      · intro W hSw
        (try dsimp only at hSw)
        go_simp
        try with_reducible rfl
      try simp only [Act.put, List.setIfInBounds_toArray, List.set_cons_zero, List.set_cons_succ]
      refine till_op (v := ?_) 4 [5, 7, 8, 11, 18] hM rfl (by kernel_rfl) (by kernel_rfl) (by kernel_rfl) (by kernel_rfl) rfl (fun _ _ _ h => h) (Or.inl ⟨by rfl, ?_⟩) hS (fun hM => ?_)
      rotate_left
      · intro W hSw
        (try dsimp only at hSw)
        go_simp
        try with_reducible rfl
      try simp only [Act.put, List.setIfInBounds_toArray, List.set_cons_zero, List.set_cons_succ]
      refine till_op (v := ?_) 5 [7, 8, 11, 18] hM rfl (by kernel_rfl) (by kernel_rfl) (by kernel_rfl) (by kernel_rfl) rfl (fun _ _ _ h => h) (Or.inl ⟨by rfl, ?_⟩) hS (fun hM => ?_)
      rotate_left
      · intro W hSw
        (try dsimp only at hSw)
        go_simp
        try with_reducible rfl
      try simp only [Act.put, List.setIfInBounds_toArray, List.set_cons_zero, List.set_cons_succ]
      refine till_op (v := ?_) 6 [7, 8, 11, 18] hM rfl (by kernel_rfl) (by kernel_rfl) (by kernel_rfl) (by kernel_rfl) rfl (fun _ _ _ h => h) (Or.inl ⟨by rfl, ?_⟩) hS (fun hM => ?_)
      rotate_left
      · intro W hSw
        (try dsimp only at hSw)
        go_simp
        try with_reducible rfl
      try simp only [Act.put, List.setIfInBounds_toArray, List.set_cons_zero, List.set_cons_succ]
      refine till_op (v := ?_) 7 [8, 11, 18] hM rfl (by kernel_rfl) (by kernel_rfl) (by kernel_rfl) (by kernel_rfl) rfl (fun _ _ _ h => h) (Or.inl ⟨by rfl, ?_⟩) hS (fun hM => ?_)
      rotate_left
      · intro W hSw
        (try dsimp only at hSw)
        go_simp
        try with_reducible rfl
      try simp only [Act.put, List.setIfInBounds_toArray, List.set_cons_zero, List.set_cons_succ]
      refine till_op (v := ?_) 9 [10, 11, 18] hM rfl (by kernel_rfl) (by kernel_rfl) (by kernel_rfl) (by kernel_rfl) rfl (fun _ _ _ h => h) (Or.inl ⟨by rfl, ?_⟩) hS (fun hM => ?_)
      rotate_left
      · intro W hSw
        (try dsimp only at hSw)
        go_simp
        try with_reducible rfl
      try simp only [Act.put, List.setIfInBounds_toArray, List.set_cons_zero, List.set_cons_succ]
      refine till_op (v := ?_) 12 [13, 14, 15, 17, 18] hM rfl (by kernel_rfl) (by kernel_rfl) (by kernel_rfl) (by kernel_rfl) rfl (fun _ _ _ h => h) (Or.inl ⟨by rfl, ?_⟩) hS (fun hM => ?_)
      rotate_left
      · intro W hSw
        (try dsimp only at hSw)
        go_simp
        try with_reducible rfl
      try simp only [Act.put, List.setIfInBounds_toArray, List.set_cons_zero, List.set_cons_succ]
      refine till_op (v := ?_) 13 [14, 15, 17, 18] hM rfl (by kernel_rfl) (by kernel_rfl) (by kernel_rfl) (by kernel_rfl) rfl (fun _ _ _ h => h) (Or.inl ⟨by rfl, ?_⟩) hS (fun hM => ?_)
      rotate_left
      · intro W hSw
        (try dsimp only at hSw)
        go_simp
        try with_reducible rfl
      try simp only [Act.put, List.setIfInBounds_toArray, List.set_cons_zero, List.set_cons_succ]
      refine till_op (v := ?_) 14 [15, 17, 18] hM rfl (by kernel_rfl) (by kernel_rfl) (by kernel_rfl) (by kernel_rfl) rfl (fun _ _ _ h => h) (Or.inl ⟨by rfl, ?_⟩) hS (fun hM => ?_)
      rotate_left
      · intro W hSw
        (try dsimp only at hSw)
        go_simp
        try with_reducible rfl
      try simp only [Act.put, List.setIfInBounds_toArray, List.set_cons_zero, List.set_cons_succ]
      refine till_op (v := ?_) 15 [17, 18] hM rfl (by kernel_rfl) (by kernel_rfl) (by kernel_rfl) (by kernel_rfl) rfl (fun _ _ _ h => h) (Or.inl ⟨by rfl, ?_⟩) hS (fun hM => ?_)
      rotate_left
      · intro W hSw
        (try dsimp only at hSw)
        go_simp
        try with_reducible rfl
      try simp only [Act.put, List.setIfInBounds_toArray, List.set_cons_zero, List.set_cons_succ]
      refine till_op (v := ?_) 16 [17, 18] hM rfl (by kernel_rfl) (by kernel_rfl) (by kernel_rfl) (by kernel_rfl) rfl (fun _ _ _ h => h) (Or.inl ⟨by rfl, ?_⟩) hS (fun hM => ?_)
      rotate_left
      · intro W hSw
        (try dsimp only at hSw)
        go_simp
        try with_reducible rfl
      try simp only [Act.put, List.setIfInBounds_toArray, List.set_cons_zero, List.set_cons_succ]
      refine till_op (v := ?_) 17 [18] hM rfl (by kernel_rfl) (by kernel_rfl) (by kernel_rfl) (by kernel_rfl) rfl (fun _ _ _ h => h) (Or.inl ⟨by rfl, ?_⟩) hS (fun hM => ?_)
      rotate_left
      · intro W hSw
        (try dsimp only at hSw)
        go_simp
        try with_reducible rfl
      try simp only [Act.put, List.setIfInBounds_toArray, List.set_cons_zero, List.set_cons_succ]
      refine till_ready (rs := [1, 10]) (by kernel_rfl) (by simp) (EachTill.op rfl (fun K hK => ?_) (EachTill.op rfl (fun K hK => ?_) EachTill.nil))
      · go_simp
        refine hK _ _ (fun _ => HTS.out _ (by (try go_split_ands); repeat (first | assumption | exact Below.refl _ _ | refine bel_one ?_ _ | refine bel_two ?_))) ?_
        clear hK K
        try simp only [Act.put, List.setIfInBounds_toArray, List.set_cons_zero, List.set_cons_succ]
        refine till_ready (rs := [8, 10]) (by kernel_rfl) (by simp) (EachTill.op rfl (fun K hK => ?_) (EachTill.op rfl (fun K hK => ?_) EachTill.nil))
        · refine step_chain (P := Try.prog) (t := 53) (e := 80) (k := 5) (by' := 40) Try.underlying53 infoWn rfl (Nat.succ_pos 4) (Nat.le_of_ble_eq_true rfl) rfl (.tmp 97) (.tmp 103) rfl (b := some ⟨wr.heap.size, 0, none⟩) (n := 0) (c := 0) (m := l.length) (xs := []) (ys := ((wnFlat l).take (l.length * 5))) (sv := .slice (some ⟨g, 0, none⟩) l.length l.length) ?_ ?_ ?_ ?_ ?_ ?_
          · simp [Act.eval]
          · simp [Act.eval]
          · exact row_empty (by first | exact heap_new _ _ | exact hp_old _ _ _ _ (by simp) (heap_new _ _) | exact heap_alloc_at _ _ _ (by simp))
          · exact SUB1.out.below (by (try go_split_ands); repeat (first | assumption | exact Below.refl _ _ | refine bel_one ?_ _ | refine bel_two ?_))
          · omega
          intro b1 c1 V1 hr1 ht1 hf1
          have hn1 : NewB wr b1 := (NewB.lit (wr := wr) (g := wr.heap.size) (by omega)).next (_w' := V1) (by (try go_split_ands); repeat (first | assumption | exact Below.refl _ _ | refine bel_one ?_ _ | refine bel_two ?_)) hf1
          have hV1 : Below wr.heap.size wr V1 := (NewB.lit (wr := wr) (g := wr.heap.size) (by omega)).bel (by (try go_split_ands); repeat (first | assumption | exact Below.refl _ _ | refine bel_one ?_ _ | refine bel_two ?_)) ht1
          refine hK _ _ (fun _ => HTS.out _ (by (try go_split_ands); repeat (first | assumption | exact Below.refl _ _ | refine bel_one ?_ _ | refine bel_two ?_))) ?_
          clear hK K
          try simp only [Act.put, List.setIfInBounds_toArray, List.set_cons_zero, List.set_cons_succ]
          refine till_ready (rs := [10]) (by kernel_rfl) (by simp) (EachTill.op rfl (fun K hK => ?_) EachTill.nil)
          go_simp
          refine hK _ _ (fun _ => HTS.out _ (by (try go_split_ands); repeat (first | assumption | exact Below.refl _ _ | refine bel_one ?_ _ | refine bel_two ?_))) ?_
          clear hK K
          try simp only [Act.put, List.setIfInBounds_toArray, List.set_cons_zero, List.set_cons_succ]
          refine till_ready (rs := [11]) (by kernel_rfl) (by simp) (EachTill.op rfl (fun K hK => ?_) EachTill.nil)
          refine step_chain (P := Try.prog) (t := 53) (e := 80) (k := 5) (by' := 40) Try.underlying53 infoWn rfl (Nat.succ_pos 4) (Nat.le_of_ble_eq_true rfl) rfl (.tmp 104) (.tmp 106) rfl (b := b1) (n := 0 + l.length) (c := c1) (m := 1) (xs := [] ++ ((wnFlat l).take (l.length * 5))) (ys := [.string k, .int .i64 o, .int .i64 m, .bool false, .bool vb]) (sv := .slice (some ⟨V1.heap.size, 0, none⟩) 1 1) ?_ ?_ ?_ ?_ ?_ ?_
          · simp [Act.eval]
          · simp [Act.eval]
          · exact hr1.below (bel_new _ _)
          · exact SubV.one (T := 80) (vs := [.string k, .int .i64 o, .int .i64 m, .bool false, .bool vb]) (by first | exact heap_new _ _ | exact hp_old _ _ _ _ (by simp) (heap_new _ _) | exact heap_alloc_at _ _ _ (by simp)) rfl (by simp [Value.oneCell'])
          · omega
          intro b2 c2 V2 hr2 ht2 hf2
          have hn2 : NewB wr b2 := hn1.next (_w' := V2) (by (try go_split_ands); repeat (first | assumption | exact Below.refl _ _ | refine bel_one ?_ _ | refine bel_two ?_)) hf2
          have hV2 : Below wr.heap.size wr V2 := hn1.bel (by (try go_split_ands); repeat (first | assumption | exact Below.refl _ _ | refine bel_one ?_ _ | refine bel_two ?_)) ht2
          refine hK _ _ (fun _ => HTS.out _ (by (try go_split_ands); repeat (first | assumption | exact Below.refl _ _ | refine bel_one ?_ _ | refine bel_two ?_))) ?_
          clear hK K
          try simp only [Act.put, List.setIfInBounds_toArray, List.set_cons_zero, List.set_cons_succ]
          refine till_ready (rs := [18]) (by kernel_rfl) (by simp) (EachTill.op rfl (fun K hK => ?_) EachTill.nil)
          refine step_chain (P := Try.prog) (t := 53) (e := 80) (k := 5) (by' := 40) Try.underlying53 infoWn rfl (Nat.succ_pos 4) (Nat.le_of_ble_eq_true rfl) rfl (.tmp 107) (.tmp 113) rfl (b := b2) (n := 0 + l.length + 1) (c := c2) (m := 0) (xs := [] ++ ((wnFlat l).take (l.length * 5)) ++ [.string k, .int .i64 o, .int .i64 m, .bool false, .bool vb]) (ys := []) (sv := .slice (some ⟨g, 0, none⟩) 0 0) ?_ ?_ ?_ ?_ ?_ ?_
          · simp [Act.eval]
          · simp [Act.eval]
          · exact hr2
          · exact SUB2.out.below (by (try go_split_ands); repeat (first | assumption | exact Below.refl _ _ | refine bel_one ?_ _ | refine bel_two ?_))
          · omega
          intro b3 c3 V3 hr3 ht3 hf3
          have hn3 : NewB wr b3 := hn2.next (_w' := V3) (by (try go_split_ands); repeat (first | assumption | exact Below.refl _ _ | refine bel_one ?_ _ | refine bel_two ?_)) hf3
          have hV3 : Below wr.heap.size wr V3 := hn2.bel (by (try go_split_ands); repeat (first | assumption | exact Below.refl _ _ | refine bel_one ?_ _ | refine bel_two ?_)) ht3
          have hcx3 := (hV3.cell hplt).trans hcw
          have hfx3 := (hV3.frozen hplt).trans hfw
          refine hK _ _ (fun _ => HTS.out _ (by (try go_split_ands); repeat (first | assumption | exact Below.refl _ _ | refine bel_one ?_ _ | refine bel_two ?_))) ?_
          clear hK K
          try simp only [Act.put, List.setIfInBounds_toArray, List.set_cons_zero, List.set_cons_succ]
          refine till_ready (rs := [19]) (by kernel_rfl) (by simp) (EachTill.op rfl (fun K hK => ?_) EachTill.nil)
          go_simp
          refine hK _ _ (fun _ => HTS.out _ (by (try go_split_ands); repeat (first | assumption | exact Below.refl _ _ | refine bel_one ?_ _ | refine bel_two ?_))) ?_
          clear hK K
          try simp only [Act.put, List.setIfInBounds_toArray, List.set_cons_zero, List.set_cons_succ]
          refine till_ready (rs := [20]) (by kernel_rfl) (by simp) (EachTill.op rfl (fun K hK => ?_) EachTill.nil)
          go_simp
          refine hK _ _ (fun _ => HTS.out _ (by (try go_split_ands); repeat (first | assumption | exact Below.refl _ _ | refine bel_one ?_ _ | refine bel_two ?_))) ?_
          clear hK K
          try simp only [Act.put, List.setIfInBounds_toArray, List.set_cons_zero, List.set_cons_succ]
          refine till_ready (rs := [21]) (by kernel_rfl) (by simp) (EachTill.op rfl (fun K hK => ?_) EachTill.nil)
          go_simp
          refine hK _ _ (fun h => absurd rfl h) ?_
          clear hK K
          try simp only [Act.put, List.setIfInBounds_toArray, List.set_cons_zero, List.set_cons_succ]
          refine till_done (by kernel_rfl) ?_ _
          have HFF := Lib.hid (HW3.out b3 c3 V3 (by simpa only [Nat.zero_add, Nat.add_zero, Nat.sub_self] using hr3) hn3 hV3 _ rfl)
          clear hr3 hn3 hV3
          go_wp2_with fail
          go_meet
          case rel => exact HFF
        · go_simp
          refine hK _ _ (fun _ => HTS.out _ (by (try go_split_ands); repeat (first | assumption | exact Below.refl _ _ | refine bel_one ?_ _ | refine bel_two ?_))) ?_
          clear hK K
          try simp only [Act.put, List.setIfInBounds_toArray, List.set_cons_zero, List.set_cons_succ]
          refine till_ready (rs := [8]) (by kernel_rfl) (by simp) (EachTill.op rfl (fun K hK => ?_) EachTill.nil)
          refine step_chain (P := Try.prog) (t := 53) (e := 80) (k := 5) (by' := 40) Try.underlying53 infoWn rfl (Nat.succ_pos 4) (Nat.le_of_ble_eq_true rfl) rfl (.tmp 97) (.tmp 103) rfl (b := some ⟨wr.heap.size, 0, none⟩) (n := 0) (c := 0) (m := l.length) (xs := []) (ys := ((wnFlat l).take (l.length * 5))) (sv := .slice (some ⟨g, 0, none⟩) l.length l.length) ?_ ?_ ?_ ?_ ?_ ?_
          · simp [Act.eval]
          · simp [Act.eval]
          · exact row_empty (by first | exact heap_new _ _ | exact hp_old _ _ _ _ (by simp) (heap_new _ _) | exact heap_alloc_at _ _ _ (by simp))
          · exact SUB1.out.below (by (try go_split_ands); repeat (first | assumption | exact Below.refl _ _ | refine bel_one ?_ _ | refine bel_two ?_))
          · omega
          intro b1 c1 V1 hr1 ht1 hf1
          have hn1 : NewB wr b1 := (NewB.lit (wr := wr) (g := wr.heap.size) (by omega)).next (_w' := V1) (by (try go_split_ands); repeat (first | assumption | exact Below.refl _ _ | refine bel_one ?_ _ | refine bel_two ?_)) hf1
          have hV1 : Below wr.heap.size wr V1 := (NewB.lit (wr := wr) (g := wr.heap.size) (by omega)).bel (by (try go_split_ands); repeat (first | assumption | exact Below.refl _ _ | refine bel_one ?_ _ | refine bel_two ?_)) ht1
          refine hK _ _ (fun _ => HTS.out _ (by (try go_split_ands); repeat (first | assumption | exact Below.refl _ _ | refine bel_one ?_ _ | refine bel_two ?_))) ?_
          clear hK K
          try simp only [Act.put, List.setIfInBounds_toArray, List.set_cons_zero, List.set_cons_succ]
          refine till_ready (rs := [11]) (by kernel_rfl) (by simp) (EachTill.op rfl (fun K hK => ?_) EachTill.nil)
          refine step_chain (P := Try.prog) (t := 53) (e := 80) (k := 5) (by' := 40) Try.underlying53 infoWn rfl (Nat.succ_pos 4) (Nat.le_of_ble_eq_true rfl) rfl (.tmp 104) (.tmp 106) rfl (b := b1) (n := 0 + l.length) (c := c1) (m := 1) (xs := [] ++ ((wnFlat l).take (l.length * 5))) (ys := [.string k, .int .i64 o, .int .i64 m, .bool false, .bool vb]) (sv := .slice (some ⟨wr.heap.size + 1, 0, none⟩) 1 1) ?_ ?_ ?_ ?_ ?_ ?_
          · simp [Act.eval]
          · simp [Act.eval]
          · exact hr1
          · exact SubV.one (T := 80) (vs := [.string k, .int .i64 o, .int .i64 m, .bool false, .bool vb]) (ht1.heap (by first | exact heap_new _ _ | exact hp_old _ _ _ _ (by simp) (heap_new _ _) | exact heap_alloc_at _ _ _ (by simp)) (by simp [blkOf])) rfl (by simp [Value.oneCell'])
          · omega
          intro b2 c2 V2 hr2 ht2 hf2
          have hn2 : NewB wr b2 := hn1.next (_w' := V2) (by (try go_split_ands); repeat (first | assumption | exact Below.refl _ _ | refine bel_one ?_ _ | refine bel_two ?_)) hf2
          have hV2 : Below wr.heap.size wr V2 := hn1.bel (by (try go_split_ands); repeat (first | assumption | exact Below.refl _ _ | refine bel_one ?_ _ | refine bel_two ?_)) ht2
          refine hK _ _ (fun _ => HTS.out _ (by (try go_split_ands); repeat (first | assumption | exact Below.refl _ _ | refine bel_one ?_ _ | refine bel_two ?_))) ?_
          clear hK K
          try simp only [Act.put, List.setIfInBounds_toArray, List.set_cons_zero, List.set_cons_succ]
          refine till_ready (rs := [18]) (by kernel_rfl) (by simp) (EachTill.op rfl (fun K hK => ?_) EachTill.nil)
          refine step_chain (P := Try.prog) (t := 53) (e := 80) (k := 5) (by' := 40) Try.underlying53 infoWn rfl (Nat.succ_pos 4) (Nat.le_of_ble_eq_true rfl) rfl (.tmp 107) (.tmp 113) rfl (b := b2) (n := 0 + l.length + 1) (c := c2) (m := 0) (xs := [] ++ ((wnFlat l).take (l.length * 5)) ++ [.string k, .int .i64 o, .int .i64 m, .bool false, .bool vb]) (ys := []) (sv := .slice (some ⟨g, 0, none⟩) 0 0) ?_ ?_ ?_ ?_ ?_ ?_
          · simp [Act.eval]
          · simp [Act.eval]
          · exact hr2
          · exact SUB2.out.below (by (try go_split_ands); repeat (first | assumption | exact Below.refl _ _ | refine bel_one ?_ _ | refine bel_two ?_))
          · omega
          intro b3 c3 V3 hr3 ht3 hf3
          have hn3 : NewB wr b3 := hn2.next (_w' := V3) (by (try go_split_ands); repeat (first | assumption | exact Below.refl _ _ | refine bel_one ?_ _ | refine bel_two ?_)) hf3
          have hV3 : Below wr.heap.size wr V3 := hn2.bel (by (try go_split_ands); repeat (first | assumption | exact Below.refl _ _ | refine bel_one ?_ _ | refine bel_two ?_)) ht3
          have hcx3 := (hV3.cell hplt).trans hcw
          have hfx3 := (hV3.frozen hplt).trans hfw
          refine hK _ _ (fun _ => HTS.out _ (by (try go_split_ands); repeat (first | assumption | exact Below.refl _ _ | refine bel_one ?_ _ | refine bel_two ?_))) ?_
          clear hK K
          try simp only [Act.put, List.setIfInBounds_toArray, List.set_cons_zero, List.set_cons_succ]
          refine till_ready (rs := [19]) (by kernel_rfl) (by simp) (EachTill.op rfl (fun K hK => ?_) EachTill.nil)
          go_simp
          refine hK _ _ (fun _ => HTS.out _ (by (try go_split_ands); repeat (first | assumption | exact Below.refl _ _ | refine bel_one ?_ _ | refine bel_two ?_))) ?_
          clear hK K
          try simp only [Act.put, List.setIfInBounds_toArray, List.set_cons_zero, List.set_cons_succ]
          refine till_ready (rs := [20]) (by kernel_rfl) (by simp) (EachTill.op rfl (fun K hK => ?_) EachTill.nil)
          go_simp
          refine hK _ _ (fun _ => HTS.out _ (by (try go_split_ands); repeat (first | assumption | exact Below.refl _ _ | refine bel_one ?_ _ | refine bel_two ?_))) ?_
          clear hK K
          try simp only [Act.put, List.setIfInBounds_toArray, List.set_cons_zero, List.set_cons_succ]
          refine till_ready (rs := [21]) (by kernel_rfl) (by simp) (EachTill.op rfl (fun K hK => ?_) EachTill.nil)
          go_simp
          refine hK _ _ (fun h => absurd rfl h) ?_
          clear hK K
          try simp only [Act.put, List.setIfInBounds_toArray, List.set_cons_zero, List.set_cons_succ]
          refine till_done (by kernel_rfl) ?_ _
          have HFF := Lib.hid (HW3.out b3 c3 V3 (by simpa only [Nat.zero_add, Nat.add_zero, Nat.sub_self] using hr3) hn3 hV3 _ rfl)
          clear hr3 hn3 hV3
          go_wp2_with fail
          go_meet
          case rel => exact HFF
      · go_simp
        refine hK _ _ (fun _ => HTS.out _ (by (try go_split_ands); repeat (first | assumption | exact Below.refl _ _ | refine bel_one ?_ _ | refine bel_two ?_))) ?_
        clear hK K
        try simp only [Act.put, List.setIfInBounds_toArray, List.set_cons_zero, List.set_cons_succ]
        refine till_ready (rs := [1]) (by kernel_rfl) (by simp) (EachTill.op rfl (fun K hK => ?_) EachTill.nil)
        go_simp
        refine hK _ _ (fun _ => HTS.out _ (by (try go_split_ands); repeat (first | assumption | exact Below.refl _ _ | refine bel_one ?_ _ | refine bel_two ?_))) ?_
        clear hK K
        try simp only [Act.put, List.setIfInBounds_toArray, List.set_cons_zero, List.set_cons_succ]
        refine till_ready (rs := [8]) (by kernel_rfl) (by simp) (EachTill.op rfl (fun K hK => ?_) EachTill.nil)
        refine step_chain (P := Try.prog) (t := 53) (e := 80) (k := 5) (by' := 40) Try.underlying53 infoWn rfl (Nat.succ_pos 4) (Nat.le_of_ble_eq_true rfl) rfl (.tmp 97) (.tmp 103) rfl (b := some ⟨wr.heap.size + 1, 0, none⟩) (n := 0) (c := 0) (m := l.length) (xs := []) (ys := ((wnFlat l).take (l.length * 5))) (sv := .slice (some ⟨g, 0, none⟩) l.length l.length) ?_ ?_ ?_ ?_ ?_ ?_
        · simp [Act.eval]
        · simp [Act.eval]
        · exact row_empty (by first | exact heap_new _ _ | exact hp_old _ _ _ _ (by simp) (heap_new _ _) | exact heap_alloc_at _ _ _ (by simp))
        · exact SUB1.out.below (by (try go_split_ands); repeat (first | assumption | exact Below.refl _ _ | refine bel_one ?_ _ | refine bel_two ?_))
        · omega
        intro b1 c1 V1 hr1 ht1 hf1
        have hn1 : NewB wr b1 := (NewB.lit (wr := wr) (g := wr.heap.size + 1) (by omega)).next (_w' := V1) (by (try go_split_ands); repeat (first | assumption | exact Below.refl _ _ | refine bel_one ?_ _ | refine bel_two ?_)) hf1
        have hV1 : Below wr.heap.size wr V1 := (NewB.lit (wr := wr) (g := wr.heap.size + 1) (by omega)).bel (by (try go_split_ands); repeat (first | assumption | exact Below.refl _ _ | refine bel_one ?_ _ | refine bel_two ?_)) ht1
        refine hK _ _ (fun _ => HTS.out _ (by (try go_split_ands); repeat (first | assumption | exact Below.refl _ _ | refine bel_one ?_ _ | refine bel_two ?_))) ?_
        clear hK K
        try simp only [Act.put, List.setIfInBounds_toArray, List.set_cons_zero, List.set_cons_succ]
        refine till_ready (rs := [11]) (by kernel_rfl) (by simp) (EachTill.op rfl (fun K hK => ?_) EachTill.nil)
        refine step_chain (P := Try.prog) (t := 53) (e := 80) (k := 5) (by' := 40) Try.underlying53 infoWn rfl (Nat.succ_pos 4) (Nat.le_of_ble_eq_true rfl) rfl (.tmp 104) (.tmp 106) rfl (b := b1) (n := 0 + l.length) (c := c1) (m := 1) (xs := [] ++ ((wnFlat l).take (l.length * 5))) (ys := [.string k, .int .i64 o, .int .i64 m, .bool false, .bool vb]) (sv := .slice (some ⟨wr.heap.size, 0, none⟩) 1 1) ?_ ?_ ?_ ?_ ?_ ?_
        · simp [Act.eval]
        · simp [Act.eval]
        · exact hr1
        · exact SubV.one (T := 80) (vs := [.string k, .int .i64 o, .int .i64 m, .bool false, .bool vb]) (ht1.heap (by first | exact heap_new _ _ | exact hp_old _ _ _ _ (by simp) (heap_new _ _) | exact heap_alloc_at _ _ _ (by simp)) (by simp [blkOf])) rfl (by simp [Value.oneCell'])
        · omega
        intro b2 c2 V2 hr2 ht2 hf2
        have hn2 : NewB wr b2 := hn1.next (_w' := V2) (by (try go_split_ands); repeat (first | assumption | exact Below.refl _ _ | refine bel_one ?_ _ | refine bel_two ?_)) hf2
        have hV2 : Below wr.heap.size wr V2 := hn1.bel (by (try go_split_ands); repeat (first | assumption | exact Below.refl _ _ | refine bel_one ?_ _ | refine bel_two ?_)) ht2
        refine hK _ _ (fun _ => HTS.out _ (by (try go_split_ands); repeat (first | assumption | exact Below.refl _ _ | refine bel_one ?_ _ | refine bel_two ?_))) ?_
        clear hK K
        try simp only [Act.put, List.setIfInBounds_toArray, List.set_cons_zero, List.set_cons_succ]
        refine till_ready (rs := [18]) (by kernel_rfl) (by simp) (EachTill.op rfl (fun K hK => ?_) EachTill.nil)
        refine step_chain (P := Try.prog) (t := 53) (e := 80) (k := 5) (by' := 40) Try.underlying53 infoWn rfl (Nat.succ_pos 4) (Nat.le_of_ble_eq_true rfl) rfl (.tmp 107) (.tmp 113) rfl (b := b2) (n := 0 + l.length + 1) (c := c2) (m := 0) (xs := [] ++ ((wnFlat l).take (l.length * 5)) ++ [.string k, .int .i64 o, .int .i64 m, .bool false, .bool vb]) (ys := []) (sv := .slice (some ⟨g, 0, none⟩) 0 0) ?_ ?_ ?_ ?_ ?_ ?_
        · simp [Act.eval]
        · simp [Act.eval]
        · exact hr2
        · exact SUB2.out.below (by (try go_split_ands); repeat (first | assumption | exact Below.refl _ _ | refine bel_one ?_ _ | refine bel_two ?_))
        · omega
        intro b3 c3 V3 hr3 ht3 hf3
        have hn3 : NewB wr b3 := hn2.next (_w' := V3) (by (try go_split_ands); repeat (first | assumption | exact Below.refl _ _ | refine bel_one ?_ _ | refine bel_two ?_)) hf3
        have hV3 : Below wr.heap.size wr V3 := hn2.bel (by (try go_split_ands); repeat (first | assumption | exact Below.refl _ _ | refine bel_one ?_ _ | refine bel_two ?_)) ht3
        have hcx3 := (hV3.cell hplt).trans hcw
        have hfx3 := (hV3.frozen hplt).trans hfw
        refine hK _ _ (fun _ => HTS.out _ (by (try go_split_ands); repeat (first | assumption | exact Below.refl _ _ | refine bel_one ?_ _ | refine bel_two ?_))) ?_
        clear hK K
        try simp only [Act.put, List.setIfInBounds_toArray, List.set_cons_zero, List.set_cons_succ]
        refine till_ready (rs := [19]) (by kernel_rfl) (by simp) (EachTill.op rfl (fun K hK => ?_) EachTill.nil)
        go_simp
        refine hK _ _ (fun _ => HTS.out _ (by (try go_split_ands); repeat (first | assumption | exact Below.refl _ _ | refine bel_one ?_ _ | refine bel_two ?_))) ?_
        clear hK K
        try simp only [Act.put, List.setIfInBounds_toArray, List.set_cons_zero, List.set_cons_succ]
        refine till_ready (rs := [20]) (by kernel_rfl) (by simp) (EachTill.op rfl (fun K hK => ?_) EachTill.nil)
        go_simp
        refine hK _ _ (fun _ => HTS.out _ (by (try go_split_ands); repeat (first | assumption | exact Below.refl _ _ | refine bel_one ?_ _ | refine bel_two ?_))) ?_
        clear hK K
        try simp only [Act.put, List.setIfInBounds_toArray, List.set_cons_zero, List.set_cons_succ]
        refine till_ready (rs := [21]) (by kernel_rfl) (by simp) (EachTill.op rfl (fun K hK => ?_) EachTill.nil)
        go_simp
        refine hK _ _ (fun h => absurd rfl h) ?_
        clear hK K
        try simp only [Act.put, List.setIfInBounds_toArray, List.set_cons_zero, List.set_cons_succ]
        refine till_done (by kernel_rfl) ?_ _
        have HFF := Lib.hid (HW3.out b3 c3 V3 (by simpa only [Nat.zero_add, Nat.add_zero, Nat.sub_self] using hr3) hn3 hV3 _ rfl)
        clear hr3 hn3 hV3
        go_wp2_with fail
        go_meet
        case rel => exact HFF
    case rest =>
      clear HSX HSS b0 b1 b2 b3' b4 hcw hfw hplt hpb hbxs HAQ HA0
      have HLT := Lib.hid (mem_rlet (r := []) hcut.out k (l.length + 1) (by omega) (by omega))
      generalize (letR k (l.length + 1) A).1 = J at *
      generalize (letR k (l.length + 1) A).2 = l2 at *
      have hl2 : l2.length ≤ 151 := HL2.out
      clear hcut
      go_wp2_with fail
      refine HLT.out.mono ?_
      rintro e w5 ⟨a5, c5, rfl, hm⟩
      have hm2 := Mem.drop [] (r := [RefA p l2]) hm
      have HM := Lib.hid hm2
      have HHS := Lib.hid (has_any p l2 o k true w5 (RfAt.mem (r := []) hm2) (by omega))
      clear hm hm2 HLT
      generalize hv2 : hasR l2 o k true = v2 at *
      go_wp2_with fail
      refine HHS.out.mono ?_
      rintro e w6 ⟨rfl, hb⟩
      have HF := Lib.hid (HFIN.out w6 (HM.out.below hb))
      clear hb HHS HM
      by_cases hm2 : m ≤ v2
      · have d : decide (m ≤ v2) = true := decide_eq_true hm2
        have HF2 := Lib.hid (HF.out 0 (by rw [if_pos hm2]))
        clear HF
        go_wp2_with fail
        go_ret
        exact HF2.out
      · have d : decide (m ≤ v2) = false := decide_eq_false hm2
        have HF2 := Lib.hid (HF.out 10 (by rw [if_neg hm2]))
        clear HF
        go_wp2_with fail
        go_ret
        exact HF2.out
end Go.Proofs.Ytnemgmlhcjhdhaa

