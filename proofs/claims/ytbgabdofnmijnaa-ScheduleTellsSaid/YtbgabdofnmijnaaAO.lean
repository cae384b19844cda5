/- The document's All, walked. -/
import Derived.Test.YtbgabdofnmijnaaAN
import Derived.Deep.RegionHeld3
namespace Go.Proofs.Ytbgabdofnmijnaa
open Go.RowKit
set_option maxRecDepth 100000 in
set_option maxHeartbeats 16000000 in
theorem rall_any (a : Option Addr) (n c0 : Nat) (l : List Mk) (w : World) (h : MksAt w a n l) (hn : n ≤ 1000) (hnc : n ≤ c0) (hR : RightP l) : Calls Try.prog 54 #[.slice a n c0] w fun e w' => ∃ b d, e = .returned (.slice b (allM l).length d) ∧ Made w (RowI b d (allM l)) w' := by
  have HE4 : Hid (∀ x, isR l 4 x n = !liveB l x) := Lib.hid fun x => by rw [h.1]; exact isR4_live hR x
  have HIS := Lib.hid fun tx W (hb : Below w.heap.size w W) => is_any a n c0 l 4 tx n W (h.below hb) hn hnc (Nat.le_refl _)
  have HL := Lib.hid h.1
  have HR := Lib.hid h
  clear h hR
  go_enter Try.func54, Try.ntmps54
  go_wp2_with fail
  go_loopw [3, 9] (fun v jv wr => ∃ i : Nat, i ≤ n ∧ jv = .int .i64 i ∧ Hid (∃ m, m = (risI (allUp l i)).length ∧ NewRow 3 1 w (intsV (risI (allUp l i))) m v wr)) (fun _ jv _ => n - (intOf jv).toNat)
  case atStart => exact ⟨0, Nat.zero_le _, rfl, Lib.hid ⟨0, rfl, NewRow.nil 3 1 w⟩⟩
  case round =>
    obtain ⟨W0, rfl⟩ : ∃ W0, W0 = wr := ⟨_, rfl⟩
    obtain ⟨i, hi, rfl, hS⟩ := hrel
    obtain ⟨m, rfl, aO, c, rfl, hrow, hb, hf⟩ := hS.out
    clear hS
    by_cases hlt : i < n
    · have hlt' : i < l.length := by rw [← HL.out]; exact hlt
      obtain ⟨g, off, rfl, hcA, hcB, hcD⟩ := (HR.out.below hb).at i hlt'
      have HU := Lib.hid (allUp_succ l i hlt')
      have M0 := (Mem.nil w).new hb (As := [RowI aO c (risI (allUp l i))]) (all_one ⟨rfl, hrow⟩) hf
      have M2 := Lib.hid (M0.block #[.int .i64 l[i].kind, .int .i64 l[i].tx, .string l[i].key] 36)
      have hOl : (risI (allUp l i)).length ≤ 100000 := by
        have h1 := risN_len ltI (allUp l i) []
        have h2 := allUp_len l i
        unfold risI; simp only [List.length_nil] at h1; omega
      have H4 := HE4.out l[i].tx
      have HI1 := Lib.hid (HIS.out l[i].tx _ M2.out.bel)
      rw [H4] at HI1
      clear hrow hb hf M0 H4
      generalize l[i] = X at *
      obtain ⟨xk, x, xy⟩ := X
      simp only at hcA hcB hcD M2 HU HI1
      obtain ⟨k0, k1, k2⟩ := box_cells M2.out
      cases hlv : liveB l x with
      | false =>
        rw [hlv] at HU HI1
        have HNX : Hid (risI (allUp l (i + 1)) = risI (allUp l i)) := Lib.hid (by rw [HU.out, if_neg (by simp), List.append_nil])
        clear HU
        generalize risI (allUp l i) = O at *
        go_wp2_with fail
        refine HI1.out.mono ?_
        rintro e W2 ⟨rfl, hb2⟩
        have HF : Hid (NewRow 3 1 w (intsV O) O.length (.slice aO O.length c) W2) := Lib.hid (by
          obtain ⟨h1, h2, h3⟩ := (Mem.drop [] (A := BlockA W0.heap.size #[.int .i64 xk, .int .i64 x, .string xy] 36) (r := [RowI aO c O]) (M2.out.below hb2)).rowNew
          exact ⟨aO, c, rfl, h1, h3, h2⟩)
        clear hb2 M2 k0 k1 k2 HI1
        go_wp2_with fail
        go_roundw
        case rel => exact ⟨i + 1, by omega, by go_num, Lib.hid ⟨_, by rw [HNX.out], by rw [HNX.out]; exact HF.out⟩⟩
        case measure => simp [intOf]; omega
      | true =>
        rw [hlv] at HU HI1
        have HNX : Hid (risI (allUp l (i + 1)) = insG ltI x (risI (allUp l i))) := Lib.hid (by rw [HU.out, if_pos rfl, risI_snoc])
        clear HU
        generalize risI (allUp l i) = O at *
        go_wp2_with fail
        refine HI1.out.mono ?_
        rintro e W2 ⟨rfl, hb2⟩
        have HWS : Hid (∀ W, Below W2.heap.size W2 W → Row W 3 1 aO O.length c (intsV O) ∧ (∀ x ∈ blkOf aO, w.heap.size ≤ x) ∧ Below w.heap.size w W ∧ W.cell? ⟨W0.heap.size, 1, none⟩ = some (.int .i64 x)) := Lib.hid fun W hW => by
          have m1 := (M2.out.below hb2).below hW
          obtain ⟨h1, h2, h3⟩ := (Mem.drop [] (A := BlockA W0.heap.size #[.int .i64 xk, .int .i64 x, .string xy] 36) (r := [RowI aO c O]) m1).rowNew
          exact ⟨h1, h2, h3, (box_cells m1).2.1⟩
        clear hb2 M2 k0 k1 k2 HI1 hcA hcB hcD
        generalize W0.heap.size = bx at *
        clear W0
        go_wp2_with fail
        go_loopw [6] (fun jv wr => ∃ q : Nat, q ≤ O.length ∧ jv = .int .i64 q ∧ Hid (Below W2.heap.size W2 wr) ∧ Hid (∀ t (ht : t < O.length), t < q → ltI O[t] x = true)) (fun jv _ => O.length - (intOf jv).toNat)
        case atStart => exact ⟨0, Nat.zero_le _, rfl, Lib.hid (Below.refl _ _), Lib.hid fun t ht h => absurd h (Nat.not_lt_zero _)⟩
        case round =>
          obtain ⟨W3, rfl⟩ : ∃ W3, W3 = wr := ⟨_, rfl⟩
          obtain ⟨q, hq, rfl, HWB, HALL⟩ := hrel
          obtain ⟨hrow3, hnb3, hbw3, hbx3⟩ := HWS.out _ HWB.out
          have ROW := Lib.hid hrow3
          clear hrow3 hnb3 hbw3
          by_cases hlq : q < O.length
          · obtain ⟨gs, rfl, hcx⟩ := ROW.out.cellAt q (by simpa [intsV] using hlq)
            rw [show (intsV O)[q]'(by simpa [intsV] using hlq) = .int .i64 O[q] by simp [intsV]] at hcx
            have hqn : (q : Int) < (O.length : Int) := by omega
            have hqz : (0 : Int) ≤ (q : Int) := by omega
            have HGI := Lib.hid fun (h2 : ltI O[q] x = false) => insG_is ltI x O q hq HALL.out (fun _ => h2)
            have HN2 : Hid (ltI O[q] x = true → ∀ t (ht : t < O.length), t < q + 1 → ltI O[t] x = true) := Lib.hid fun h t ht htq => by
              by_cases e : t = q
              · subst e; exact h
              · exact HALL.out t ht (by omega)
            have HEQ : Hid (O[q] = x → ∃ h : q < O.length, O[q] = x) := Lib.hid fun e => ⟨hlq, e⟩
            have HNQ : Hid (O[q] ≠ x → ∀ h : q < O.length, O[q] ≠ x) := Lib.hid fun e _ => e
            have HCX : Hid (∀ nq, (W3.drewN nq).cell? ⟨gs, q, none⟩ = some (.int .i64 O[q])) := Lib.hid fun nq => ((bel_drewN W3 nq).cell (World.block_lt_of_cell? W3 _ hcx)).trans hcx
            generalize hy : O[q] = y at *
            clear hy
            by_cases hyx : y < x
            · have hd : decide (y < x) = true := decide_eq_true hyx
              have HN3 := Lib.hid (HN2.out hd)
              clear HN2 HGI HEQ HNQ HALL
              go_wp2_with fail
              go_quiet (fail)
              generalize hnq : W3.drewN _ = W4
              have HB4 : Hid (Below W2.heap.size W2 W4) := Lib.hid (by rw [← hnq]; exact HWB.out.trans ((bel_drewN W3 _).mono HWB.out.size))
              clear HWB hnq
              go_wp2_with fail
              go_roundw
              case rel => exact ⟨q + 1, by omega, by go_num, HB4, HN3⟩
              case measure => simp [intOf]; omega
            · have hd : decide (y < x) = false := decide_eq_false hyx
              have hqe : ((q : Int) == (O.length : Int)) = false := by simp; omega
              by_cases hyx2 : y = x
              · have hd2 : (y == x) = true := beq_iff_eq.2 hyx2
                have hd3 : (y != x) = false := by rw [bne, hd2]; rfl
                have HE : Hid (insG ltI x O = O) := Lib.hid ((HGI.out hd).1 (HEQ.out hyx2))
                clear HN2 HGI HEQ HNQ HALL hyx2 hyx
                go_wp2_with fail
                go_quiet (fail)
                generalize hnq : W3.drewN _ = W4
                have HB4 : Hid (Below W2.heap.size W2 W4) := Lib.hid (by rw [← hnq]; exact HWB.out.trans ((bel_drewN W3 _).mono HWB.out.size))
                have hcx4 : W4.cell? ⟨gs, q, none⟩ = some (.int .i64 y) := by rw [← hnq]; exact HCX.out _
                obtain ⟨hrow4, hnb4, hbw4, hbx4⟩ := HWS.out _ HB4.out
                clear hnq HWB hcx hbx3 ROW HCX hrow4 hnb4 hbw4
                go_wp2_with fail
                go_quiet (fail)
                generalize hnq : W4.drewN _ = W5
                have HB5 : Hid (Below W2.heap.size W2 W5) := Lib.hid (by rw [← hnq]; exact HB4.out.trans ((bel_drewN W4 _).mono HB4.out.size))
                have HF : Hid (NewRow 3 1 w (intsV O) O.length (.slice (some ⟨gs, 0, none⟩) O.length c) W5) := Lib.hid (by
                  obtain ⟨h1, h2, h3, _⟩ := HWS.out _ HB5.out
                  exact ⟨_, _, rfl, h1, h3, h2⟩)
                clear hnq HB4 HB5 hcx4 hbx4
                go_wp2_with fail
                go_roundw
                case rel => exact ⟨i + 1, by omega, by go_num, Lib.hid ⟨_, by rw [HNX.out, HE.out], by rw [HNX.out, HE.out]; exact HF.out⟩⟩
                case measure => simp [intOf]; omega
              · have hd2 : (y == x) = false := by simpa using hyx2
                have hd3 : (y != x) = true := by rw [bne, hd2]; rfl
                have HINS : Hid (insG ltI x O = O.take q ++ x :: O.drop q) := Lib.hid ((HGI.out hd).2 (HNQ.out hyx2))
                clear HN2 HGI HEQ HNQ hyx2 hyx
                go_wp2_with fail
                go_quiet (fail)
                generalize hnq : W3.drewN _ = W4
                have HB4 : Hid (Below W2.heap.size W2 W4) := Lib.hid (by rw [← hnq]; exact HWB.out.trans ((bel_drewN W3 _).mono HWB.out.size))
                have hcx4 : W4.cell? ⟨gs, q, none⟩ = some (.int .i64 y) := by rw [← hnq]; exact HCX.out _
                obtain ⟨hrow4, hnb4, hbw4, hbx4⟩ := HWS.out _ HB4.out
                clear hnq HWB hcx hbx3 ROW HCX hrow4 hnb4 hbw4
                go_wp2_with fail
                go_quiet (fail)
                generalize hnq : W4.drewN _ = Wc
                have HB5 : Hid (Below W2.heap.size W2 Wc) := Lib.hid (by rw [← hnq]; exact HB4.out.trans ((bel_drewN W4 _).mono HB4.out.size))
                obtain ⟨hrow5, hnb5, hBW, hbx5⟩ := HWS.out _ HB5.out
                have ROW := Lib.hid hrow5
                have HBX := Lib.hid hbx5
                have hlc : (q : Int) < (c : Int) := by
                  rcases ROW.out.out with ⟨e, _⟩ | ⟨_, _, _, _, h1, _⟩
                  · cases e
                  · omega
                have hqc : (q : Int) ≤ (c : Int) := by omega
                have hql : (q : Int) ≤ (O.length : Int) := by omega
                have hne : ¬ q = c := by omega
                have hne2 : ¬ c = q := by omega
                clear hnq HB4 HB5 hcx4 hbx4 hrow5 hbx5 HWS
                have HSC : Hid (∀ W, Below Wc.heap.size Wc W → W.cell? ⟨bx, 1, none⟩ = some (.int .i64 x)) := Lib.hid fun W hW => (hW.cell (World.block_lt_of_cell? Wc _ HBX.out)).trans HBX.out
                have SUB1 : Hid (SubV Wc 1 (.slice (some ⟨gs, 0, none⟩) q c) q ((intsV O).take (q * 1))) := Lib.hid (SubV.upto ROW.out (by simp [intsV, Value.oneCell']) (by omega))
                have SUB2 : Hid (SubV Wc 1 (.slice (some ⟨gs, q * 1, none⟩) (O.length - q) (c - q)) (O.length - q) ((intsV O).drop (q * 1))) := Lib.hid (SubV.behind ROW.out (by simp [intsV, Value.oneCell']) (by omega) _)
                have HW3 : Hid (∀ b3 c3 V3, Row V3 3 1 b3 (q + 1 + (O.length - q)) c3 ([] ++ (intsV O).take (q * 1) ++ [.int .i64 x] ++ (intsV O).drop (q * 1)) → NewB Wc b3 → Below Wc.heap.size Wc V3 → NewRow 3 1 w (intsV (insG ltI x O)) (insG ltI x O).length (.slice b3 (q + 1 + (O.length - q)) c3) V3) := Lib.hid fun b3 c3 V3 hr3 hn3 hV3 => by
                  have e0 : insG ltI x O = O.take (q) ++ x :: O.drop (q) := HINS.out
                  have e1 : q + 1 + (O.length - q) = (insG ltI x O).length := by rw [e0]; simp <;> omega
                  rw [e1] at hr3 ⊢
                  refine ⟨b3, c3, rfl, ?_, hBW.trans (hV3.mono hBW.size), fun x hx => Nat.le_trans hBW.size (hn3 x hx)⟩
                  have e2 : ([] ++ (intsV O).take (q * 1) ++ [.int .i64 x] ++ (intsV O).drop (q * 1)) = intsV (insG ltI x O) := by rw [e0]; simp [intsV, List.take_of_length_le]
                  rw [e2] at hr3
                  exact hr3
                have HLE := Lib.hid HNX.out
                clear HINS HNX HALL ROW hBW HBX
                go_wp2_with fail
                go_region_held3 (fun W => W.cell? ⟨bx, 1, none⟩ = some (.int .i64 x))
                  ((exact HSC.out _ (by (try go_split_ands); repeat (first | assumption | exact Below.refl _ _ | refine bel_one ?_ _ | refine bel_two ?_))))
                  (first
                    | (refine step_chain (P := Try.prog) (t := 29) (e := 3) (k := 1) (by' := 8) Try.underlying29 infoInt rfl (Nat.succ_pos 0) (Nat.le_of_ble_eq_true rfl) rfl (.tmp 47) (.tmp 50) rfl (b := some ⟨Wc.heap.size, 0, none⟩) (n := 0) (c := 0) (m := q) (xs := []) (ys := (intsV O).take (q * 1)) (sv := .slice (some ⟨gs, 0, none⟩) q c) ?_ ?_ ?_ ?_ ?_ ?_
                       · simp [Act.eval, Act.put]
                       · simp [Act.eval, Act.put]
                       · exact row_empty (by first | exact heap_new _ _ | exact hp_old _ _ _ _ (by simp) (heap_new _ _) | exact heap_alloc_at _ _ _ (by simp))
                       · exact SUB1.out.below (by (try go_split_ands); repeat (first | assumption | exact Below.refl _ _ | refine bel_one ?_ _ | refine bel_two ?_))
                       · omega
                       intro b1 c1 V1 hr1 ht1 hf1
                       have hn1 : NewB Wc b1 := (NewB.lit (wr := Wc) (g := Wc.heap.size) (by omega)).next (_w' := V1) (by (try go_split_ands); repeat (first | assumption | exact Below.refl _ _ | refine bel_one ?_ _ | refine bel_two ?_)) hf1
                       have hV1 : Below Wc.heap.size Wc V1 := (NewB.lit (wr := Wc) (g := Wc.heap.size) (by omega)).bel (by (try go_split_ands); repeat (first | assumption | exact Below.refl _ _ | refine bel_one ?_ _ | refine bel_two ?_)) ht1)
                    | (refine step_chain (P := Try.prog) (t := 29) (e := 3) (k := 1) (by' := 8) Try.underlying29 infoInt rfl (Nat.succ_pos 0) (Nat.le_of_ble_eq_true rfl) rfl (.tmp 47) (.tmp 50) rfl (b := some ⟨Wc.heap.size + 1, 0, none⟩) (n := 0) (c := 0) (m := q) (xs := []) (ys := (intsV O).take (q * 1)) (sv := .slice (some ⟨gs, 0, none⟩) q c) ?_ ?_ ?_ ?_ ?_ ?_
                       · simp [Act.eval, Act.put]
                       · simp [Act.eval, Act.put]
                       · exact row_empty (by first | exact heap_new _ _ | exact hp_old _ _ _ _ (by simp) (heap_new _ _) | exact heap_alloc_at _ _ _ (by simp))
                       · exact SUB1.out.below (by (try go_split_ands); repeat (first | assumption | exact Below.refl _ _ | refine bel_one ?_ _ | refine bel_two ?_))
                       · omega
                       intro b1 c1 V1 hr1 ht1 hf1
                       have hn1 : NewB Wc b1 := (NewB.lit (wr := Wc) (g := Wc.heap.size + 1) (by omega)).next (_w' := V1) (by (try go_split_ands); repeat (first | assumption | exact Below.refl _ _ | refine bel_one ?_ _ | refine bel_two ?_)) hf1
                       have hV1 : Below Wc.heap.size Wc V1 := (NewB.lit (wr := Wc) (g := Wc.heap.size + 1) (by omega)).bel (by (try go_split_ands); repeat (first | assumption | exact Below.refl _ _ | refine bel_one ?_ _ | refine bel_two ?_)) ht1)
                    | (refine step_chain (P := Try.prog) (t := 29) (e := 3) (k := 1) (by' := 8) Try.underlying29 infoInt rfl (Nat.succ_pos 0) (Nat.le_of_ble_eq_true rfl) rfl (.tmp 51) (.tmp 54) rfl (b := b1) (n := 0 + q) (c := c1) (m := 1) (xs := [] ++ (intsV O).take (q * 1)) (ys := [.int .i64 x]) (sv := .slice (some ⟨V1.heap.size, 0, none⟩) 1 1) ?_ ?_ ?_ ?_ ?_ ?_
                       · simp [Act.eval, Act.put]
                       · simp [Act.eval, Act.put]
                       · exact hr1.below (bel_new _ _)
                       · exact SubV.one (T := 3) (vs := [.int .i64 x]) (by first | exact heap_new _ _ | exact hp_old _ _ _ _ (by simp) (heap_new _ _) | exact heap_alloc_at _ _ _ (by simp)) rfl (by simp [Value.oneCell'])
                       · omega
                       intro b2 c2 V2 hr2 ht2 hf2
                       have hn2 : NewB Wc b2 := hn1.next (_w' := V2) (by (try go_split_ands); repeat (first | assumption | exact Below.refl _ _ | refine bel_one ?_ _ | refine bel_two ?_)) hf2
                       have hV2 : Below Wc.heap.size Wc V2 := hn1.bel (by (try go_split_ands); repeat (first | assumption | exact Below.refl _ _ | refine bel_one ?_ _ | refine bel_two ?_)) ht2)
                    | (refine step_chain (P := Try.prog) (t := 29) (e := 3) (k := 1) (by' := 8) Try.underlying29 infoInt rfl (Nat.succ_pos 0) (Nat.le_of_ble_eq_true rfl) rfl (.tmp 51) (.tmp 54) rfl (b := b1) (n := 0 + q) (c := c1) (m := 1) (xs := [] ++ (intsV O).take (q * 1)) (ys := [.int .i64 x]) (sv := .slice (some ⟨Wc.heap.size + 1, 0, none⟩) 1 1) ?_ ?_ ?_ ?_ ?_ ?_
                       · simp [Act.eval, Act.put]
                       · simp [Act.eval, Act.put]
                       · exact hr1
                       · exact SubV.one (T := 3) (vs := [.int .i64 x]) (ht1.heap (by first | exact heap_new _ _ | exact hp_old _ _ _ _ (by simp) (heap_new _ _) | exact heap_alloc_at _ _ _ (by simp)) (by simp [blkOf])) rfl (by simp [Value.oneCell'])
                       · omega
                       intro b2 c2 V2 hr2 ht2 hf2
                       have hn2 : NewB Wc b2 := hn1.next (_w' := V2) (by (try go_split_ands); repeat (first | assumption | exact Below.refl _ _ | refine bel_one ?_ _ | refine bel_two ?_)) hf2
                       have hV2 : Below Wc.heap.size Wc V2 := hn1.bel (by (try go_split_ands); repeat (first | assumption | exact Below.refl _ _ | refine bel_one ?_ _ | refine bel_two ?_)) ht2)
                    | (refine step_chain (P := Try.prog) (t := 29) (e := 3) (k := 1) (by' := 8) Try.underlying29 infoInt rfl (Nat.succ_pos 0) (Nat.le_of_ble_eq_true rfl) rfl (.tmp 51) (.tmp 54) rfl (b := b1) (n := 0 + q) (c := c1) (m := 1) (xs := [] ++ (intsV O).take (q * 1)) (ys := [.int .i64 x]) (sv := .slice (some ⟨Wc.heap.size, 0, none⟩) 1 1) ?_ ?_ ?_ ?_ ?_ ?_
                       · simp [Act.eval, Act.put]
                       · simp [Act.eval, Act.put]
                       · exact hr1
                       · exact SubV.one (T := 3) (vs := [.int .i64 x]) (ht1.heap (by first | exact heap_new _ _ | exact hp_old _ _ _ _ (by simp) (heap_new _ _) | exact heap_alloc_at _ _ _ (by simp)) (by simp [blkOf])) rfl (by simp [Value.oneCell'])
                       · omega
                       intro b2 c2 V2 hr2 ht2 hf2
                       have hn2 : NewB Wc b2 := hn1.next (_w' := V2) (by (try go_split_ands); repeat (first | assumption | exact Below.refl _ _ | refine bel_one ?_ _ | refine bel_two ?_)) hf2
                       have hV2 : Below Wc.heap.size Wc V2 := hn1.bel (by (try go_split_ands); repeat (first | assumption | exact Below.refl _ _ | refine bel_one ?_ _ | refine bel_two ?_)) ht2)
                    | (refine step_chain (P := Try.prog) (t := 29) (e := 3) (k := 1) (by' := 8) Try.underlying29 infoInt rfl (Nat.succ_pos 0) (Nat.le_of_ble_eq_true rfl) rfl (.tmp 55) (.tmp 58) rfl (b := b2) (n := 0 + q + 1) (c := c2) (m := (O.length - q)) (xs := [] ++ (intsV O).take (q * 1) ++ [.int .i64 x]) (ys := (intsV O).drop (q * 1)) (sv := .slice (some ⟨gs, q * 1, none⟩) (O.length - q) (c - q)) ?_ ?_ ?_ ?_ ?_ ?_
                       · simp [Act.eval, Act.put]
                       · simp [Act.eval, Act.put]
                       · exact hr2
                       · exact SUB2.out.below (by (try go_split_ands); repeat (first | assumption | exact Below.refl _ _ | refine bel_one ?_ _ | refine bel_two ?_))
                       · omega
                       intro b3 c3 V3 hr3 ht3 hf3
                       have hn3 : NewB Wc b3 := hn2.next (_w' := V3) (by (try go_split_ands); repeat (first | assumption | exact Below.refl _ _ | refine bel_one ?_ _ | refine bel_two ?_)) hf3
                       have hV3 : Below Wc.heap.size Wc V3 := hn2.bel (by (try go_split_ands); repeat (first | assumption | exact Below.refl _ _ | refine bel_one ?_ _ | refine bel_two ?_)) ht3))
                all_goals
                  have HFF := Lib.hid (HW3.out b3 c3 V3 (by simpa only [Nat.zero_add, Nat.add_zero] using hr3) hn3 hV3)
                  clear hr3 hn3 hV3
                  go_wp2_with fail
                  go_roundw
                  case rel => exact ⟨i + 1, by omega, by go_num, Lib.hid (by rw [HLE.out]; exact ⟨_, rfl, HFF.out⟩)⟩
                  case measure => simp [intOf]; omega
          · obtain rfl : q = O.length := by omega
            have HINS : Hid (insG ltI x O = O.take O.length ++ x :: O.drop O.length) := Lib.hid ((insG_is ltI x O O.length hq HALL.out (fun h => absurd h (Nat.lt_irrefl _))).2 (fun h => absurd h (Nat.lt_irrefl _)))
            have hd : decide ((O.length : Int) < (O.length : Int)) = false := by simp
            have hqe : ((O.length : Int) == (O.length : Int)) = true := by simp
            go_wp2_with fail
            go_quiet (fail)
            generalize hnq : W3.drewN _ = W4
            have HB4 : Hid (Below W2.heap.size W2 W4) := Lib.hid (by rw [← hnq]; exact HWB.out.trans ((bel_drewN W3 _).mono HWB.out.size))
            obtain ⟨hrow4, hnb4, hbw4, hbx4⟩ := HWS.out _ HB4.out
            clear hnq HWB hbx3 ROW hrow4 hnb4 hbw4
            go_wp2_with fail
            go_quiet (fail)
            generalize hnq : W4.drewN _ = Wc
            have HB5 : Hid (Below W2.heap.size W2 Wc) := Lib.hid (by rw [← hnq]; exact HB4.out.trans ((bel_drewN W4 _).mono HB4.out.size))
            obtain ⟨hrow5, hnb5, hBW, hbx5⟩ := HWS.out _ HB5.out
            have ROW := Lib.hid hrow5
            have HBX := Lib.hid hbx5
            have hrr := ROW.out.out
            clear hnq HB4 HB5 hbx4 hrow5 hbx5 HWS
            rcases hrr with ⟨rfl, hz, rfl, -⟩ | ⟨gs, cur, rfl, -, hsc, -⟩
            · obtain rfl : O = [] := List.eq_nil_of_length_eq_zero hz
              clear hz
              simp only [List.length_nil] at *
              have HSC : Hid (∀ W, Below Wc.heap.size Wc W → W.cell? ⟨bx, 1, none⟩ = some (.int .i64 x)) := Lib.hid fun W hW => (hW.cell (World.block_lt_of_cell? Wc _ HBX.out)).trans HBX.out
              have SUB1 : Hid (SubV Wc 1 (.slice none 0 0) 0 ([])) := Lib.hid (SubV.nil)
              have SUB2 : Hid (SubV Wc 1 (.slice none 0 0) 0 ([])) := Lib.hid (SubV.nil)
              have HW3 : Hid (∀ b3 c3 V3, Row V3 3 1 b3 (1) c3 ([] ++ [] ++ [.int .i64 x] ++ []) → NewB Wc b3 → Below Wc.heap.size Wc V3 → NewRow 3 1 w (intsV (insG ltI x ([] : List Int))) (insG ltI x ([] : List Int)).length (.slice b3 (1) c3) V3) := Lib.hid fun b3 c3 V3 hr3 hn3 hV3 => by
                have e0 : insG ltI x ([] : List Int) = ([] : List Int).take (0) ++ x :: ([] : List Int).drop (0) := HINS.out
                have e1 : 1 = (insG ltI x ([] : List Int)).length := by rw [e0]; simp <;> omega
                rw [e1] at hr3 ⊢
                refine ⟨b3, c3, rfl, ?_, hBW.trans (hV3.mono hBW.size), fun x hx => Nat.le_trans hBW.size (hn3 x hx)⟩
                have e2 : ([] ++ [] ++ [.int .i64 x] ++ []) = intsV (insG ltI x ([] : List Int)) := by rw [e0]; simp [intsV, List.take_of_length_le]
                rw [e2] at hr3
                exact hr3
              have HLE := Lib.hid HNX.out
              clear HINS HNX HALL ROW hBW HBX
              go_wp2_with fail
              go_region_held3 (fun W => W.cell? ⟨bx, 1, none⟩ = some (.int .i64 x))
                ((exact HSC.out _ (by (try go_split_ands); repeat (first | assumption | exact Below.refl _ _ | refine bel_one ?_ _ | refine bel_two ?_))))
                (first
                  | (refine step_chain (P := Try.prog) (t := 29) (e := 3) (k := 1) (by' := 8) Try.underlying29 infoInt rfl (Nat.succ_pos 0) (Nat.le_of_ble_eq_true rfl) rfl (.tmp 47) (.tmp 50) rfl (b := some ⟨Wc.heap.size, 0, none⟩) (n := 0) (c := 0) (m := 0) (xs := []) (ys := []) (sv := .slice none 0 0) ?_ ?_ ?_ ?_ ?_ ?_
                     · simp [Act.eval, Act.put]
                     · simp [Act.eval, Act.put]
                     · exact row_empty (by first | exact heap_new _ _ | exact hp_old _ _ _ _ (by simp) (heap_new _ _) | exact heap_alloc_at _ _ _ (by simp))
                     · exact SUB1.out.below (by (try go_split_ands); repeat (first | assumption | exact Below.refl _ _ | refine bel_one ?_ _ | refine bel_two ?_))
                     · omega
                     intro b1 c1 V1 hr1 ht1 hf1
                     have hn1 : NewB Wc b1 := (NewB.lit (wr := Wc) (g := Wc.heap.size) (by omega)).next (_w' := V1) (by (try go_split_ands); repeat (first | assumption | exact Below.refl _ _ | refine bel_one ?_ _ | refine bel_two ?_)) hf1
                     have hV1 : Below Wc.heap.size Wc V1 := (NewB.lit (wr := Wc) (g := Wc.heap.size) (by omega)).bel (by (try go_split_ands); repeat (first | assumption | exact Below.refl _ _ | refine bel_one ?_ _ | refine bel_two ?_)) ht1)
                  | (refine step_chain (P := Try.prog) (t := 29) (e := 3) (k := 1) (by' := 8) Try.underlying29 infoInt rfl (Nat.succ_pos 0) (Nat.le_of_ble_eq_true rfl) rfl (.tmp 47) (.tmp 50) rfl (b := some ⟨Wc.heap.size + 1, 0, none⟩) (n := 0) (c := 0) (m := 0) (xs := []) (ys := []) (sv := .slice none 0 0) ?_ ?_ ?_ ?_ ?_ ?_
                     · simp [Act.eval, Act.put]
                     · simp [Act.eval, Act.put]
                     · exact row_empty (by first | exact heap_new _ _ | exact hp_old _ _ _ _ (by simp) (heap_new _ _) | exact heap_alloc_at _ _ _ (by simp))
                     · exact SUB1.out.below (by (try go_split_ands); repeat (first | assumption | exact Below.refl _ _ | refine bel_one ?_ _ | refine bel_two ?_))
                     · omega
                     intro b1 c1 V1 hr1 ht1 hf1
                     have hn1 : NewB Wc b1 := (NewB.lit (wr := Wc) (g := Wc.heap.size + 1) (by omega)).next (_w' := V1) (by (try go_split_ands); repeat (first | assumption | exact Below.refl _ _ | refine bel_one ?_ _ | refine bel_two ?_)) hf1
                     have hV1 : Below Wc.heap.size Wc V1 := (NewB.lit (wr := Wc) (g := Wc.heap.size + 1) (by omega)).bel (by (try go_split_ands); repeat (first | assumption | exact Below.refl _ _ | refine bel_one ?_ _ | refine bel_two ?_)) ht1)
                  | (refine step_chain (P := Try.prog) (t := 29) (e := 3) (k := 1) (by' := 8) Try.underlying29 infoInt rfl (Nat.succ_pos 0) (Nat.le_of_ble_eq_true rfl) rfl (.tmp 51) (.tmp 54) rfl (b := b1) (n := 0 + 0) (c := c1) (m := 1) (xs := [] ++ []) (ys := [.int .i64 x]) (sv := .slice (some ⟨V1.heap.size, 0, none⟩) 1 1) ?_ ?_ ?_ ?_ ?_ ?_
                     · simp [Act.eval, Act.put]
                     · simp [Act.eval, Act.put]
                     · exact hr1.below (bel_new _ _)
                     · exact SubV.one (T := 3) (vs := [.int .i64 x]) (by first | exact heap_new _ _ | exact hp_old _ _ _ _ (by simp) (heap_new _ _) | exact heap_alloc_at _ _ _ (by simp)) rfl (by simp [Value.oneCell'])
                     · omega
                     intro b2 c2 V2 hr2 ht2 hf2
                     have hn2 : NewB Wc b2 := hn1.next (_w' := V2) (by (try go_split_ands); repeat (first | assumption | exact Below.refl _ _ | refine bel_one ?_ _ | refine bel_two ?_)) hf2
                     have hV2 : Below Wc.heap.size Wc V2 := hn1.bel (by (try go_split_ands); repeat (first | assumption | exact Below.refl _ _ | refine bel_one ?_ _ | refine bel_two ?_)) ht2)
                  | (refine step_chain (P := Try.prog) (t := 29) (e := 3) (k := 1) (by' := 8) Try.underlying29 infoInt rfl (Nat.succ_pos 0) (Nat.le_of_ble_eq_true rfl) rfl (.tmp 51) (.tmp 54) rfl (b := b1) (n := 0 + 0) (c := c1) (m := 1) (xs := [] ++ []) (ys := [.int .i64 x]) (sv := .slice (some ⟨Wc.heap.size + 1, 0, none⟩) 1 1) ?_ ?_ ?_ ?_ ?_ ?_
                     · simp [Act.eval, Act.put]
                     · simp [Act.eval, Act.put]
                     · exact hr1
                     · exact SubV.one (T := 3) (vs := [.int .i64 x]) (ht1.heap (by first | exact heap_new _ _ | exact hp_old _ _ _ _ (by simp) (heap_new _ _) | exact heap_alloc_at _ _ _ (by simp)) (by simp [blkOf])) rfl (by simp [Value.oneCell'])
                     · omega
                     intro b2 c2 V2 hr2 ht2 hf2
                     have hn2 : NewB Wc b2 := hn1.next (_w' := V2) (by (try go_split_ands); repeat (first | assumption | exact Below.refl _ _ | refine bel_one ?_ _ | refine bel_two ?_)) hf2
                     have hV2 : Below Wc.heap.size Wc V2 := hn1.bel (by (try go_split_ands); repeat (first | assumption | exact Below.refl _ _ | refine bel_one ?_ _ | refine bel_two ?_)) ht2)
                  | (refine step_chain (P := Try.prog) (t := 29) (e := 3) (k := 1) (by' := 8) Try.underlying29 infoInt rfl (Nat.succ_pos 0) (Nat.le_of_ble_eq_true rfl) rfl (.tmp 51) (.tmp 54) rfl (b := b1) (n := 0 + 0) (c := c1) (m := 1) (xs := [] ++ []) (ys := [.int .i64 x]) (sv := .slice (some ⟨Wc.heap.size, 0, none⟩) 1 1) ?_ ?_ ?_ ?_ ?_ ?_
                     · simp [Act.eval, Act.put]
                     · simp [Act.eval, Act.put]
                     · exact hr1
                     · exact SubV.one (T := 3) (vs := [.int .i64 x]) (ht1.heap (by first | exact heap_new _ _ | exact hp_old _ _ _ _ (by simp) (heap_new _ _) | exact heap_alloc_at _ _ _ (by simp)) (by simp [blkOf])) rfl (by simp [Value.oneCell'])
                     · omega
                     intro b2 c2 V2 hr2 ht2 hf2
                     have hn2 : NewB Wc b2 := hn1.next (_w' := V2) (by (try go_split_ands); repeat (first | assumption | exact Below.refl _ _ | refine bel_one ?_ _ | refine bel_two ?_)) hf2
                     have hV2 : Below Wc.heap.size Wc V2 := hn1.bel (by (try go_split_ands); repeat (first | assumption | exact Below.refl _ _ | refine bel_one ?_ _ | refine bel_two ?_)) ht2)
                  | (refine step_chain (P := Try.prog) (t := 29) (e := 3) (k := 1) (by' := 8) Try.underlying29 infoInt rfl (Nat.succ_pos 0) (Nat.le_of_ble_eq_true rfl) rfl (.tmp 55) (.tmp 58) rfl (b := b2) (n := 0 + 0 + 1) (c := c2) (m := 0) (xs := [] ++ [] ++ [.int .i64 x]) (ys := []) (sv := .slice none 0 0) ?_ ?_ ?_ ?_ ?_ ?_
                     · simp [Act.eval, Act.put]
                     · simp [Act.eval, Act.put]
                     · exact hr2
                     · exact SUB2.out.below (by (try go_split_ands); repeat (first | assumption | exact Below.refl _ _ | refine bel_one ?_ _ | refine bel_two ?_))
                     · omega
                     intro b3 c3 V3 hr3 ht3 hf3
                     have hn3 : NewB Wc b3 := hn2.next (_w' := V3) (by (try go_split_ands); repeat (first | assumption | exact Below.refl _ _ | refine bel_one ?_ _ | refine bel_two ?_)) hf3
                     have hV3 : Below Wc.heap.size Wc V3 := hn2.bel (by (try go_split_ands); repeat (first | assumption | exact Below.refl _ _ | refine bel_one ?_ _ | refine bel_two ?_)) ht3))
              all_goals
                have HFF := Lib.hid (HW3.out b3 c3 V3 (by simpa only [Nat.zero_add, Nat.add_zero] using hr3) hn3 hV3)
                clear hr3 hn3 hV3
                go_wp2_with fail
                go_roundw
                case rel => exact ⟨i + 1, by omega, by go_num, Lib.hid (by rw [HLE.out]; exact ⟨_, rfl, HFF.out⟩)⟩
                case measure => simp [intOf]; omega
            · by_cases hcc : c = O.length
              · subst hcc
                have HSC : Hid (∀ W, Below Wc.heap.size Wc W → W.cell? ⟨bx, 1, none⟩ = some (.int .i64 x)) := Lib.hid fun W hW => (hW.cell (World.block_lt_of_cell? Wc _ HBX.out)).trans HBX.out
                have SUB1 : Hid (SubV Wc 1 (.slice (some ⟨gs, 0, none⟩) O.length O.length) O.length ((intsV O).take (O.length * 1))) := Lib.hid (SubV.upto ROW.out (by simp [intsV, Value.oneCell']) (by omega))
                have SUB2 : Hid (SubV Wc 1 (.slice (some ⟨gs, 0, none⟩) 0 0) 0 ([])) := Lib.hid (SubV.zero)
                have HW3 : Hid (∀ b3 c3 V3, Row V3 3 1 b3 (O.length + 1) c3 ([] ++ (intsV O).take (O.length * 1) ++ [.int .i64 x] ++ []) → NewB Wc b3 → Below Wc.heap.size Wc V3 → NewRow 3 1 w (intsV (insG ltI x O)) (insG ltI x O).length (.slice b3 (O.length + 1) c3) V3) := Lib.hid fun b3 c3 V3 hr3 hn3 hV3 => by
                  have e0 : insG ltI x O = O.take (O.length) ++ x :: O.drop (O.length) := HINS.out
                  have e1 : O.length + 1 = (insG ltI x O).length := by rw [e0]; simp <;> omega
                  rw [e1] at hr3 ⊢
                  refine ⟨b3, c3, rfl, ?_, hBW.trans (hV3.mono hBW.size), fun x hx => Nat.le_trans hBW.size (hn3 x hx)⟩
                  have e2 : ([] ++ (intsV O).take (O.length * 1) ++ [.int .i64 x] ++ []) = intsV (insG ltI x O) := by rw [e0]; simp [intsV, List.take_of_length_le]
                  rw [e2] at hr3
                  exact hr3
                have HLE := Lib.hid HNX.out
                clear HINS HNX HALL ROW hBW HBX
                go_wp2_with fail
                go_region_held3 (fun W => W.cell? ⟨bx, 1, none⟩ = some (.int .i64 x))
                  ((exact HSC.out _ (by (try go_split_ands); repeat (first | assumption | exact Below.refl _ _ | refine bel_one ?_ _ | refine bel_two ?_))))
                  (first
                    | (refine step_chain (P := Try.prog) (t := 29) (e := 3) (k := 1) (by' := 8) Try.underlying29 infoInt rfl (Nat.succ_pos 0) (Nat.le_of_ble_eq_true rfl) rfl (.tmp 47) (.tmp 50) rfl (b := some ⟨Wc.heap.size, 0, none⟩) (n := 0) (c := 0) (m := O.length) (xs := []) (ys := (intsV O).take (O.length * 1)) (sv := .slice (some ⟨gs, 0, none⟩) O.length O.length) ?_ ?_ ?_ ?_ ?_ ?_
                       · simp [Act.eval, Act.put]
                       · simp [Act.eval, Act.put]
                       · exact row_empty (by first | exact heap_new _ _ | exact hp_old _ _ _ _ (by simp) (heap_new _ _) | exact heap_alloc_at _ _ _ (by simp))
                       · exact SUB1.out.below (by (try go_split_ands); repeat (first | assumption | exact Below.refl _ _ | refine bel_one ?_ _ | refine bel_two ?_))
                       · omega
                       intro b1 c1 V1 hr1 ht1 hf1
                       have hn1 : NewB Wc b1 := (NewB.lit (wr := Wc) (g := Wc.heap.size) (by omega)).next (_w' := V1) (by (try go_split_ands); repeat (first | assumption | exact Below.refl _ _ | refine bel_one ?_ _ | refine bel_two ?_)) hf1
                       have hV1 : Below Wc.heap.size Wc V1 := (NewB.lit (wr := Wc) (g := Wc.heap.size) (by omega)).bel (by (try go_split_ands); repeat (first | assumption | exact Below.refl _ _ | refine bel_one ?_ _ | refine bel_two ?_)) ht1)
                    | (refine step_chain (P := Try.prog) (t := 29) (e := 3) (k := 1) (by' := 8) Try.underlying29 infoInt rfl (Nat.succ_pos 0) (Nat.le_of_ble_eq_true rfl) rfl (.tmp 47) (.tmp 50) rfl (b := some ⟨Wc.heap.size + 1, 0, none⟩) (n := 0) (c := 0) (m := O.length) (xs := []) (ys := (intsV O).take (O.length * 1)) (sv := .slice (some ⟨gs, 0, none⟩) O.length O.length) ?_ ?_ ?_ ?_ ?_ ?_
                       · simp [Act.eval, Act.put]
                       · simp [Act.eval, Act.put]
                       · exact row_empty (by first | exact heap_new _ _ | exact hp_old _ _ _ _ (by simp) (heap_new _ _) | exact heap_alloc_at _ _ _ (by simp))
                       · exact SUB1.out.below (by (try go_split_ands); repeat (first | assumption | exact Below.refl _ _ | refine bel_one ?_ _ | refine bel_two ?_))
                       · omega
                       intro b1 c1 V1 hr1 ht1 hf1
                       have hn1 : NewB Wc b1 := (NewB.lit (wr := Wc) (g := Wc.heap.size + 1) (by omega)).next (_w' := V1) (by (try go_split_ands); repeat (first | assumption | exact Below.refl _ _ | refine bel_one ?_ _ | refine bel_two ?_)) hf1
                       have hV1 : Below Wc.heap.size Wc V1 := (NewB.lit (wr := Wc) (g := Wc.heap.size + 1) (by omega)).bel (by (try go_split_ands); repeat (first | assumption | exact Below.refl _ _ | refine bel_one ?_ _ | refine bel_two ?_)) ht1)
                    | (refine step_chain (P := Try.prog) (t := 29) (e := 3) (k := 1) (by' := 8) Try.underlying29 infoInt rfl (Nat.succ_pos 0) (Nat.le_of_ble_eq_true rfl) rfl (.tmp 51) (.tmp 54) rfl (b := b1) (n := 0 + O.length) (c := c1) (m := 1) (xs := [] ++ (intsV O).take (O.length * 1)) (ys := [.int .i64 x]) (sv := .slice (some ⟨V1.heap.size, 0, none⟩) 1 1) ?_ ?_ ?_ ?_ ?_ ?_
                       · simp [Act.eval, Act.put]
                       · simp [Act.eval, Act.put]
                       · exact hr1.below (bel_new _ _)
                       · exact SubV.one (T := 3) (vs := [.int .i64 x]) (by first | exact heap_new _ _ | exact hp_old _ _ _ _ (by simp) (heap_new _ _) | exact heap_alloc_at _ _ _ (by simp)) rfl (by simp [Value.oneCell'])
                       · omega
                       intro b2 c2 V2 hr2 ht2 hf2
                       have hn2 : NewB Wc b2 := hn1.next (_w' := V2) (by (try go_split_ands); repeat (first | assumption | exact Below.refl _ _ | refine bel_one ?_ _ | refine bel_two ?_)) hf2
                       have hV2 : Below Wc.heap.size Wc V2 := hn1.bel (by (try go_split_ands); repeat (first | assumption | exact Below.refl _ _ | refine bel_one ?_ _ | refine bel_two ?_)) ht2)
                    | (refine step_chain (P := Try.prog) (t := 29) (e := 3) (k := 1) (by' := 8) Try.underlying29 infoInt rfl (Nat.succ_pos 0) (Nat.le_of_ble_eq_true rfl) rfl (.tmp 51) (.tmp 54) rfl (b := b1) (n := 0 + O.length) (c := c1) (m := 1) (xs := [] ++ (intsV O).take (O.length * 1)) (ys := [.int .i64 x]) (sv := .slice (some ⟨Wc.heap.size + 1, 0, none⟩) 1 1) ?_ ?_ ?_ ?_ ?_ ?_
                       · simp [Act.eval, Act.put]
                       · simp [Act.eval, Act.put]
                       · exact hr1
                       · exact SubV.one (T := 3) (vs := [.int .i64 x]) (ht1.heap (by first | exact heap_new _ _ | exact hp_old _ _ _ _ (by simp) (heap_new _ _) | exact heap_alloc_at _ _ _ (by simp)) (by simp [blkOf])) rfl (by simp [Value.oneCell'])
                       · omega
                       intro b2 c2 V2 hr2 ht2 hf2
                       have hn2 : NewB Wc b2 := hn1.next (_w' := V2) (by (try go_split_ands); repeat (first | assumption | exact Below.refl _ _ | refine bel_one ?_ _ | refine bel_two ?_)) hf2
                       have hV2 : Below Wc.heap.size Wc V2 := hn1.bel (by (try go_split_ands); repeat (first | assumption | exact Below.refl _ _ | refine bel_one ?_ _ | refine bel_two ?_)) ht2)
                    | (refine step_chain (P := Try.prog) (t := 29) (e := 3) (k := 1) (by' := 8) Try.underlying29 infoInt rfl (Nat.succ_pos 0) (Nat.le_of_ble_eq_true rfl) rfl (.tmp 51) (.tmp 54) rfl (b := b1) (n := 0 + O.length) (c := c1) (m := 1) (xs := [] ++ (intsV O).take (O.length * 1)) (ys := [.int .i64 x]) (sv := .slice (some ⟨Wc.heap.size, 0, none⟩) 1 1) ?_ ?_ ?_ ?_ ?_ ?_
                       · simp [Act.eval, Act.put]
                       · simp [Act.eval, Act.put]
                       · exact hr1
                       · exact SubV.one (T := 3) (vs := [.int .i64 x]) (ht1.heap (by first | exact heap_new _ _ | exact hp_old _ _ _ _ (by simp) (heap_new _ _) | exact heap_alloc_at _ _ _ (by simp)) (by simp [blkOf])) rfl (by simp [Value.oneCell'])
                       · omega
                       intro b2 c2 V2 hr2 ht2 hf2
                       have hn2 : NewB Wc b2 := hn1.next (_w' := V2) (by (try go_split_ands); repeat (first | assumption | exact Below.refl _ _ | refine bel_one ?_ _ | refine bel_two ?_)) hf2
                       have hV2 : Below Wc.heap.size Wc V2 := hn1.bel (by (try go_split_ands); repeat (first | assumption | exact Below.refl _ _ | refine bel_one ?_ _ | refine bel_two ?_)) ht2)
                    | (refine step_chain (P := Try.prog) (t := 29) (e := 3) (k := 1) (by' := 8) Try.underlying29 infoInt rfl (Nat.succ_pos 0) (Nat.le_of_ble_eq_true rfl) rfl (.tmp 55) (.tmp 58) rfl (b := b2) (n := 0 + O.length + 1) (c := c2) (m := 0) (xs := [] ++ (intsV O).take (O.length * 1) ++ [.int .i64 x]) (ys := []) (sv := .slice (some ⟨gs, 0, none⟩) 0 0) ?_ ?_ ?_ ?_ ?_ ?_
                       · simp [Act.eval, Act.put]
                       · simp [Act.eval, Act.put]
                       · exact hr2
                       · exact SUB2.out.below (by (try go_split_ands); repeat (first | assumption | exact Below.refl _ _ | refine bel_one ?_ _ | refine bel_two ?_))
                       · omega
                       intro b3 c3 V3 hr3 ht3 hf3
                       have hn3 : NewB Wc b3 := hn2.next (_w' := V3) (by (try go_split_ands); repeat (first | assumption | exact Below.refl _ _ | refine bel_one ?_ _ | refine bel_two ?_)) hf3
                       have hV3 : Below Wc.heap.size Wc V3 := hn2.bel (by (try go_split_ands); repeat (first | assumption | exact Below.refl _ _ | refine bel_one ?_ _ | refine bel_two ?_)) ht3))
                all_goals
                  have HFF := Lib.hid (HW3.out b3 c3 V3 (by simpa only [Nat.zero_add, Nat.add_zero] using hr3) hn3 hV3)
                  clear hr3 hn3 hV3
                  go_wp2_with fail
                  go_roundw
                  case rel => exact ⟨i + 1, by omega, by go_num, Lib.hid (by rw [HLE.out]; exact ⟨_, rfl, HFF.out⟩)⟩
                  case measure => simp [intOf]; omega
              · have hqc : (O.length : Int) ≤ (c : Int) := by omega
                have hne : ¬ O.length = c := by omega
                have HSC : Hid (∀ W, Below Wc.heap.size Wc W → W.cell? ⟨bx, 1, none⟩ = some (.int .i64 x)) := Lib.hid fun W hW => (hW.cell (World.block_lt_of_cell? Wc _ HBX.out)).trans HBX.out
                have SUB1 : Hid (SubV Wc 1 (.slice (some ⟨gs, 0, none⟩) O.length c) O.length ((intsV O).take (O.length * 1))) := Lib.hid (SubV.upto ROW.out (by simp [intsV, Value.oneCell']) (by omega))
                have SUB2 : Hid (SubV Wc 1 (.slice (some ⟨gs, O.length * 1, none⟩) 0 (c - O.length)) 0 ([])) := Lib.hid (SubV.zero)
                have HW3 : Hid (∀ b3 c3 V3, Row V3 3 1 b3 (O.length + 1) c3 ([] ++ (intsV O).take (O.length * 1) ++ [.int .i64 x] ++ []) → NewB Wc b3 → Below Wc.heap.size Wc V3 → NewRow 3 1 w (intsV (insG ltI x O)) (insG ltI x O).length (.slice b3 (O.length + 1) c3) V3) := Lib.hid fun b3 c3 V3 hr3 hn3 hV3 => by
                  have e0 : insG ltI x O = O.take (O.length) ++ x :: O.drop (O.length) := HINS.out
                  have e1 : O.length + 1 = (insG ltI x O).length := by rw [e0]; simp <;> omega
                  rw [e1] at hr3 ⊢
                  refine ⟨b3, c3, rfl, ?_, hBW.trans (hV3.mono hBW.size), fun x hx => Nat.le_trans hBW.size (hn3 x hx)⟩
                  have e2 : ([] ++ (intsV O).take (O.length * 1) ++ [.int .i64 x] ++ []) = intsV (insG ltI x O) := by rw [e0]; simp [intsV, List.take_of_length_le]
                  rw [e2] at hr3
                  exact hr3
                have HLE := Lib.hid HNX.out
                clear HINS HNX HALL ROW hBW HBX
                go_wp2_with fail
                go_region_held3 (fun W => W.cell? ⟨bx, 1, none⟩ = some (.int .i64 x))
                  ((exact HSC.out _ (by (try go_split_ands); repeat (first | assumption | exact Below.refl _ _ | refine bel_one ?_ _ | refine bel_two ?_))))
                  (first
                    | (refine step_chain (P := Try.prog) (t := 29) (e := 3) (k := 1) (by' := 8) Try.underlying29 infoInt rfl (Nat.succ_pos 0) (Nat.le_of_ble_eq_true rfl) rfl (.tmp 47) (.tmp 50) rfl (b := some ⟨Wc.heap.size, 0, none⟩) (n := 0) (c := 0) (m := O.length) (xs := []) (ys := (intsV O).take (O.length * 1)) (sv := .slice (some ⟨gs, 0, none⟩) O.length c) ?_ ?_ ?_ ?_ ?_ ?_
                       · simp [Act.eval, Act.put]
                       · simp [Act.eval, Act.put]
                       · exact row_empty (by first | exact heap_new _ _ | exact hp_old _ _ _ _ (by simp) (heap_new _ _) | exact heap_alloc_at _ _ _ (by simp))
                       · exact SUB1.out.below (by (try go_split_ands); repeat (first | assumption | exact Below.refl _ _ | refine bel_one ?_ _ | refine bel_two ?_))
                       · omega
                       intro b1 c1 V1 hr1 ht1 hf1
                       have hn1 : NewB Wc b1 := (NewB.lit (wr := Wc) (g := Wc.heap.size) (by omega)).next (_w' := V1) (by (try go_split_ands); repeat (first | assumption | exact Below.refl _ _ | refine bel_one ?_ _ | refine bel_two ?_)) hf1
                       have hV1 : Below Wc.heap.size Wc V1 := (NewB.lit (wr := Wc) (g := Wc.heap.size) (by omega)).bel (by (try go_split_ands); repeat (first | assumption | exact Below.refl _ _ | refine bel_one ?_ _ | refine bel_two ?_)) ht1)
                    | (refine step_chain (P := Try.prog) (t := 29) (e := 3) (k := 1) (by' := 8) Try.underlying29 infoInt rfl (Nat.succ_pos 0) (Nat.le_of_ble_eq_true rfl) rfl (.tmp 47) (.tmp 50) rfl (b := some ⟨Wc.heap.size + 1, 0, none⟩) (n := 0) (c := 0) (m := O.length) (xs := []) (ys := (intsV O).take (O.length * 1)) (sv := .slice (some ⟨gs, 0, none⟩) O.length c) ?_ ?_ ?_ ?_ ?_ ?_
                       · simp [Act.eval, Act.put]
                       · simp [Act.eval, Act.put]
                       · exact row_empty (by first | exact heap_new _ _ | exact hp_old _ _ _ _ (by simp) (heap_new _ _) | exact heap_alloc_at _ _ _ (by simp))
                       · exact SUB1.out.below (by (try go_split_ands); repeat (first | assumption | exact Below.refl _ _ | refine bel_one ?_ _ | refine bel_two ?_))
                       · omega
                       intro b1 c1 V1 hr1 ht1 hf1
                       have hn1 : NewB Wc b1 := (NewB.lit (wr := Wc) (g := Wc.heap.size + 1) (by omega)).next (_w' := V1) (by (try go_split_ands); repeat (first | assumption | exact Below.refl _ _ | refine bel_one ?_ _ | refine bel_two ?_)) hf1
                       have hV1 : Below Wc.heap.size Wc V1 := (NewB.lit (wr := Wc) (g := Wc.heap.size + 1) (by omega)).bel (by (try go_split_ands); repeat (first | assumption | exact Below.refl _ _ | refine bel_one ?_ _ | refine bel_two ?_)) ht1)
                    | (refine step_chain (P := Try.prog) (t := 29) (e := 3) (k := 1) (by' := 8) Try.underlying29 infoInt rfl (Nat.succ_pos 0) (Nat.le_of_ble_eq_true rfl) rfl (.tmp 51) (.tmp 54) rfl (b := b1) (n := 0 + O.length) (c := c1) (m := 1) (xs := [] ++ (intsV O).take (O.length * 1)) (ys := [.int .i64 x]) (sv := .slice (some ⟨V1.heap.size, 0, none⟩) 1 1) ?_ ?_ ?_ ?_ ?_ ?_
                       · simp [Act.eval, Act.put]
                       · simp [Act.eval, Act.put]
                       · exact hr1.below (bel_new _ _)
                       · exact SubV.one (T := 3) (vs := [.int .i64 x]) (by first | exact heap_new _ _ | exact hp_old _ _ _ _ (by simp) (heap_new _ _) | exact heap_alloc_at _ _ _ (by simp)) rfl (by simp [Value.oneCell'])
                       · omega
                       intro b2 c2 V2 hr2 ht2 hf2
                       have hn2 : NewB Wc b2 := hn1.next (_w' := V2) (by (try go_split_ands); repeat (first | assumption | exact Below.refl _ _ | refine bel_one ?_ _ | refine bel_two ?_)) hf2
                       have hV2 : Below Wc.heap.size Wc V2 := hn1.bel (by (try go_split_ands); repeat (first | assumption | exact Below.refl _ _ | refine bel_one ?_ _ | refine bel_two ?_)) ht2)
                    | (refine step_chain (P := Try.prog) (t := 29) (e := 3) (k := 1) (by' := 8) Try.underlying29 infoInt rfl (Nat.succ_pos 0) (Nat.le_of_ble_eq_true rfl) rfl (.tmp 51) (.tmp 54) rfl (b := b1) (n := 0 + O.length) (c := c1) (m := 1) (xs := [] ++ (intsV O).take (O.length * 1)) (ys := [.int .i64 x]) (sv := .slice (some ⟨Wc.heap.size + 1, 0, none⟩) 1 1) ?_ ?_ ?_ ?_ ?_ ?_
                       · simp [Act.eval, Act.put]
                       · simp [Act.eval, Act.put]
                       · exact hr1
                       · exact SubV.one (T := 3) (vs := [.int .i64 x]) (ht1.heap (by first | exact heap_new _ _ | exact hp_old _ _ _ _ (by simp) (heap_new _ _) | exact heap_alloc_at _ _ _ (by simp)) (by simp [blkOf])) rfl (by simp [Value.oneCell'])
                       · omega
                       intro b2 c2 V2 hr2 ht2 hf2
                       have hn2 : NewB Wc b2 := hn1.next (_w' := V2) (by (try go_split_ands); repeat (first | assumption | exact Below.refl _ _ | refine bel_one ?_ _ | refine bel_two ?_)) hf2
                       have hV2 : Below Wc.heap.size Wc V2 := hn1.bel (by (try go_split_ands); repeat (first | assumption | exact Below.refl _ _ | refine bel_one ?_ _ | refine bel_two ?_)) ht2)
                    | (refine step_chain (P := Try.prog) (t := 29) (e := 3) (k := 1) (by' := 8) Try.underlying29 infoInt rfl (Nat.succ_pos 0) (Nat.le_of_ble_eq_true rfl) rfl (.tmp 51) (.tmp 54) rfl (b := b1) (n := 0 + O.length) (c := c1) (m := 1) (xs := [] ++ (intsV O).take (O.length * 1)) (ys := [.int .i64 x]) (sv := .slice (some ⟨Wc.heap.size, 0, none⟩) 1 1) ?_ ?_ ?_ ?_ ?_ ?_
                       · simp [Act.eval, Act.put]
                       · simp [Act.eval, Act.put]
                       · exact hr1
                       · exact SubV.one (T := 3) (vs := [.int .i64 x]) (ht1.heap (by first | exact heap_new _ _ | exact hp_old _ _ _ _ (by simp) (heap_new _ _) | exact heap_alloc_at _ _ _ (by simp)) (by simp [blkOf])) rfl (by simp [Value.oneCell'])
                       · omega
                       intro b2 c2 V2 hr2 ht2 hf2
                       have hn2 : NewB Wc b2 := hn1.next (_w' := V2) (by (try go_split_ands); repeat (first | assumption | exact Below.refl _ _ | refine bel_one ?_ _ | refine bel_two ?_)) hf2
                       have hV2 : Below Wc.heap.size Wc V2 := hn1.bel (by (try go_split_ands); repeat (first | assumption | exact Below.refl _ _ | refine bel_one ?_ _ | refine bel_two ?_)) ht2)
                    | (refine step_chain (P := Try.prog) (t := 29) (e := 3) (k := 1) (by' := 8) Try.underlying29 infoInt rfl (Nat.succ_pos 0) (Nat.le_of_ble_eq_true rfl) rfl (.tmp 55) (.tmp 58) rfl (b := b2) (n := 0 + O.length + 1) (c := c2) (m := 0) (xs := [] ++ (intsV O).take (O.length * 1) ++ [.int .i64 x]) (ys := []) (sv := .slice (some ⟨gs, O.length * 1, none⟩) 0 (c - O.length)) ?_ ?_ ?_ ?_ ?_ ?_
                       · simp [Act.eval, Act.put]
                       · simp [Act.eval, Act.put]
                       · exact hr2
                       · exact SUB2.out.below (by (try go_split_ands); repeat (first | assumption | exact Below.refl _ _ | refine bel_one ?_ _ | refine bel_two ?_))
                       · omega
                       intro b3 c3 V3 hr3 ht3 hf3
                       have hn3 : NewB Wc b3 := hn2.next (_w' := V3) (by (try go_split_ands); repeat (first | assumption | exact Below.refl _ _ | refine bel_one ?_ _ | refine bel_two ?_)) hf3
                       have hV3 : Below Wc.heap.size Wc V3 := hn2.bel (by (try go_split_ands); repeat (first | assumption | exact Below.refl _ _ | refine bel_one ?_ _ | refine bel_two ?_)) ht3))
                all_goals
                  have HFF := Lib.hid (HW3.out b3 c3 V3 (by simpa only [Nat.zero_add, Nat.add_zero] using hr3) hn3 hV3)
                  clear hr3 hn3 hV3
                  go_wp2_with fail
                  go_roundw
                  case rel => exact ⟨i + 1, by omega, by go_num, Lib.hid (by rw [HLE.out]; exact ⟨_, rfl, HFF.out⟩)⟩
                  case measure => simp [intOf]; omega
    · obtain rfl : i = n := by omega
      have HFIN : Hid (∃ b d, Ending.returned (.slice aO (risI (allUp l i)).length c) = .returned (.slice b (allM l).length d) ∧ Made w (RowI b d (allM l)) W0) := Lib.hid (by
        have e : risI (allUp l i) = allM l := by rw [risI_rise, HL.out]; rfl
        rw [e] at hrow ⊢
        have h1 : Mem w [] W0 [RowI aO c (allM l)] := (Mem.nil w).new hb (As := [RowI aO c (allM l)]) (all_one ⟨rfl, hrow⟩) hf
        exact ⟨aO, c, rfl, h1.toMade⟩)
      clear hrow hb hf
      go_wp2_with fail
      go_ret
      exact HFIN.out
end Go.Proofs.Ytbgabdofnmijnaa
