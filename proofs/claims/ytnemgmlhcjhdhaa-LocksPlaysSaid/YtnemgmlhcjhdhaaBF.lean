/- The document's Rising, walked. -/
import Derived.Test.YtnemgmlhcjhdhaaBD
import Derived.Test.YtnemgmlhcjhdhaaBA
import Derived.Test.YtnemgmlhcjhdhaaAU
import Derived.Test.YtnemgmlhcjhdhaaMem3
import Derived.Deep.RegionHeld3
namespace Go.Proofs.Ytnemgmlhcjhdhaa
open Go.RowKit
theorem Mem.cutTo {w0 w : World} {D0 : List Nat} (l : List Asn) {r : List Asn} (h : Mem w0 D0 w (l ++ r)) : Mem w0 D0 w l := by
  obtain ⟨D, hA, hD⟩ := h.out
  obtain ⟨D1, D2, rfl, -, h1, -⟩ := all_append l r hA
  exact ⟨D1, h1, hD.touch, fun x hx => hD.fresh x (List.mem_append_left _ hx)⟩
theorem posBy_is {α : Type} (f : α → Bool) (O : List α) (q : Nat) (hq : q ≤ O.length) (h1 : ∀ t (ht : t < O.length), t < q → f O[t] = true) (h2 : ∀ h : q < O.length, f O[q] = false) : posBy f O = q := by
  have := posBy_app f (O.take q) (O.drop q) (fun x hx => by
    obtain ⟨t, ht, rfl⟩ := List.getElem_of_mem hx
    rw [List.length_take] at ht
    rw [List.getElem_take]; exact h1 t (by omega) (by omega)) (fun x hx => by
    rcases Nat.lt_or_ge q O.length with h | h
    · rw [List.drop_eq_getElem_cons h] at hx
      simp only [List.head?_cons, Option.some.injEq] at hx
      rw [← hx]; exact h2 h
    · rw [List.drop_of_length_le h] at hx; cases hx)
  rw [List.take_append_drop, List.length_take, Nat.min_eq_left hq] at this
  exact this
theorem insG_is {α : Type} [DecidableEq α] (lt : α → α → Bool) (x : α) (O : List α) (q : Nat) (hq : q ≤ O.length) (h1 : ∀ t (ht : t < O.length), t < q → lt O[t] x = true) (h2 : ∀ h : q < O.length, lt O[q] x = false) :
    ((∃ h : q < O.length, O[q] = x) → insG lt x O = O) ∧ ((∀ h : q < O.length, O[q] ≠ x) → insG lt x O = O.take q ++ x :: O.drop q) := by
  have e := posBy_is (fun y => lt y x) O q hq h1 h2
  unfold insG
  rw [e]
  constructor
  · rintro ⟨h, hx⟩
    rw [if_pos (by rw [List.getElem?_eq_getElem h, hx])]
  · intro h
    rw [if_neg]
    intro hx
    obtain ⟨hl, hx⟩ := List.getElem?_eq_some_iff.1 hx
    exact h hl hx
theorem foldl_take {α β : Type} (f : β → α → β) (b : β) {l : List α} {i : Nat} (h : i < l.length) : (l.take (i + 1)).foldl f b = f ((l.take i).foldl f b) l[i] := by
  rw [List.take_succ_eq_append_getElem h, List.foldl_append]; rfl
theorem insG_len {α : Type} [DecidableEq α] (lt : α → α → Bool) (x : α) (O : List α) : (insG lt x O).length ≤ O.length + 1 := by
  unfold insG
  split
  · omega
  · rw [List.length_append, List.length_cons, List.length_take, List.length_drop]
    have := posBy_le (fun y => lt y x) O
    omega
theorem risN_len {α : Type} [DecidableEq α] (lt : α → α → Bool) : ∀ (l O : List α), (l.foldl (fun o x => insG lt x o) O).length ≤ O.length + l.length
  | [], O => by simp
  | x :: r, O => by
    have h1 := risN_len lt r (insG lt x O)
    have h2 := insG_len lt x O
    rw [List.foldl_cons, List.length_cons]
    omega
set_option maxRecDepth 100000 in
set_option maxHeartbeats 16000000 in
theorem rising_any (a : Option Addr) (n c : Nat) (I : List Int) (w : World) (h : IntsAt w a n I) (hn : n ≤ 100000) : Calls Try.prog 51 #[.slice a n c] w (NewI w (risI I)) := by
  obtain rfl := h.1
  have HL := Lib.hid h
  clear h
  go_enter Try.func51, Try.ntmps51
  go_wp2_with fail
  go_loopw [3, 9] (fun v jv wr => ∃ i : Nat, i ≤ I.length ∧ jv = .int .i64 i ∧ Hid (∃ m, m = (risI (I.take i)).length ∧ NewRow 3 1 w (intsV (risI (I.take i))) m v wr)) (fun _ jv _ => I.length - (intOf jv).toNat)
  case atStart => exact ⟨0, Nat.zero_le _, rfl, Lib.hid ⟨0, rfl, NewRow.nil 3 1 w⟩⟩
  case round =>
    obtain ⟨Wc, rfl⟩ : ∃ Wc, Wc = wr := ⟨_, rfl⟩
    obtain ⟨i, hi, rfl, hS⟩ := hrel
    obtain ⟨m, rfl, aO, c, rfl, hrow, hb, hf⟩ := hS.out
    clear hS
    by_cases hlt : i < I.length
    · obtain ⟨gi, oi, rfl, hx⟩ := (HL.out.below hb).2 i hlt
      have hnx : risI (I.take (i + 1)) = insG ltI I[i] (risI (I.take i)) := foldl_take _ _ hlt
      have HNX := Lib.hid hnx
      have hOl : (risI (I.take i)).length ≤ 100000 := by
        have := risN_len ltI (I.take i) []
        rw [List.length_take] at this
        unfold risI; simp only [List.length_nil] at this; omega
      have ROW := Lib.hid hrow
      have hBW := hb
      have NB := Lib.hid hf
      clear hnx hrow hb hf
      generalize risI (I.take i) = O at *
      generalize I[i] = x at *
      go_wp2_with fail
      go_loopw [6] (fun jv wr => ∃ q : Nat, q ≤ O.length ∧ jv = .int .i64 q ∧ Hid (Wc = wr) ∧ Hid (∀ t (ht : t < O.length), t < q → ltI O[t] x = true)) (fun jv _ => O.length - (intOf jv).toNat)
      case atStart => exact ⟨0, Nat.zero_le _, rfl, (by first | exact Lib.hid rfl | trivial), Lib.hid fun t ht h => absurd h (Nat.not_lt_zero _)⟩
      case round =>
        obtain ⟨q, hq, rfl, HWE, HALL⟩ := hrel
        obtain rfl := HWE.out
        clear HWE
        by_cases hlq : q < O.length
        · obtain ⟨gs, rfl, hcx⟩ := ROW.out.cellAt q (by simpa [intsV] using hlq)
          rw [show (intsV O)[q]'(by simpa [intsV] using hlq) = .int .i64 O[q] by simp [intsV]] at hcx
          have hqn : (q : Int) < (O.length : Int) := by omega
          have hqz : (0 : Int) ≤ (q : Int) := by omega
          have HGI := Lib.hid fun (h2 : ltI O[q] x = false) => insG_is ltI x O q hq HALL.out (fun _ => h2)
          have HN2 : Hid (ltI O[q] x = true → ∀ t (ht : t < O.length), t < q + 1 → ltI O[t] x = true) := Lib.hid fun h t ht htq => by
            by_cases e : t = q
            · subst e; exact h
            · exact HALL.out t ht (by omega)
          have HYE : Hid (∀ h : q < O.length, O[q] = O[q]) := Lib.hid fun _ => rfl
          have HEQ : Hid (O[q] = x → ∃ h : q < O.length, O[q] = x) := Lib.hid fun e => ⟨hlq, e⟩
          have HNQ : Hid (O[q] ≠ x → ∀ h : q < O.length, O[q] ≠ x) := Lib.hid fun e _ => e
          generalize hy : O[q] = y at *
          clear hy
          by_cases hyx : y < x
          · have hd : decide (y < x) = true := decide_eq_true hyx
            have HN3 := Lib.hid (HN2.out hd)
            clear HN2 HGI HYE HEQ HNQ HALL
            go_wp2_with fail
            go_roundw
            case rel => exact ⟨q + 1, by omega, by go_num, (by first | exact Lib.hid rfl | trivial), HN3⟩
            case measure => simp [intOf]; omega
          · have hd : decide (y < x) = false := decide_eq_false hyx
            by_cases hyx2 : y = x
            · have hd2 : (y == x) = true := beq_iff_eq.2 hyx2
              have HE : Hid (insG ltI x O = O) := Lib.hid ((HGI.out hd).1 (HEQ.out hyx2))
              have HF : Hid (NewRow 3 1 w (intsV O) O.length (.slice (some ⟨gs, 0, none⟩) O.length c) Wc) := Lib.hid ⟨_, _, rfl, ROW.out, hBW, NB.out⟩
              clear HN2 HGI HYE HEQ HNQ HALL hyx2 hyx
              go_wp2_with fail
              go_roundw
              case rel => exact ⟨i + 1, by omega, by go_num, Lib.hid ⟨_, by rw [HNX.out, HE.out], by rw [HNX.out, HE.out]; exact HF.out⟩⟩
              case measure => simp [intOf]; omega
            · have hd2 : (y == x) = false := by simpa using hyx2
              have HINS : Hid (insG ltI x O = O.take q ++ x :: O.drop q) := Lib.hid ((HGI.out hd).2 (HNQ.out hyx2))
              clear HN2 HGI HYE HEQ HNQ hyx2 hyx
              have hlc : (q : Int) < (c : Int) := by
                rcases ROW.out.out with ⟨e, _⟩ | ⟨_, _, _, _, h1, _⟩
                · cases e
                · omega
              have hqc : (q : Int) ≤ (c : Int) := by omega
              have hql : (q : Int) ≤ (O.length : Int) := by omega
              have hne : ¬ q = c := by omega
              have hne2 : ¬ c = q := by omega
              have HSC := Lib.hid fun W (hW : Below Wc.heap.size Wc W) => hW
              have SUB1 : Hid (SubV Wc 1 (.slice (some ⟨gs, 0, none⟩) q c) q ((intsV O).take (q * 1))) := Lib.hid (SubV.upto ROW.out (by simp [intsV, Value.oneCell']) (by omega))
              have SUB2 : Hid (SubV Wc 1 (.slice (some ⟨gs, q * 1, none⟩) (O.length - q) (c - q)) (O.length - q) ((intsV O).drop (q * 1))) := Lib.hid (SubV.behind ROW.out (by simp [intsV, Value.oneCell']) (by omega) _)
              have HW3 : Hid (∀ b3 c3 V3, Row V3 3 1 b3 (q + 1 + (O.length - q)) c3 ([] ++ (intsV O).take (q * 1) ++ [.int .i64 x] ++ (intsV O).drop (q * 1)) → NewB Wc b3 → Below Wc.heap.size Wc V3 → NewRow 3 1 w (intsV (insG ltI x O)) (insG ltI x O).length (.slice b3 (q + 1 + (O.length - q)) c3) V3) := Lib.hid fun b3 c3 V3 hr3 hn3 hV3 => by
                have e0 : insG ltI x O = O.take (q) ++ x :: O.drop (q) := HINS.out
                have e1 : q + 1 + (O.length - q) = (insG ltI x O).length := by rw [e0]; simp <;> omega
                rw [e1] at hr3 ⊢
                refine ⟨b3, c3, rfl, ?_, hBW.trans (hV3.mono hBW.size), fun x hx => Nat.le_trans hBW.size (hn3 x hx)⟩
                have e2 : ([] ++ (intsV O).take (q * 1) ++ [.int .i64 x] ++ (intsV O).drop (q * 1)) = intsV (insG ltI x O) := by rw [e0]; simp [intsV]
                rw [e2] at hr3
                exact hr3
              have HLE := Lib.hid HNX.out
              clear HINS HNX HALL ROW hBW
              go_wp2_with fail
              go_region_held3 (fun W => Below Wc.heap.size Wc W)
                ((exact HSC.out _ (by (try go_split_ands); repeat (first | assumption | exact Below.refl _ _ | refine bel_one ?_ _ | refine bel_two ?_))))
                (first
                  | (refine step_chain (P := Try.prog) (t := 43) (e := 3) (k := 1) (by' := 8) Try.underlying43 infoInt rfl (Nat.succ_pos 0) (Nat.le_of_ble_eq_true rfl) rfl (.tmp 39) (.tmp 42) rfl (b := some ⟨Wc.heap.size, 0, none⟩) (n := 0) (c := 0) (m := q) (xs := []) (ys := (intsV O).take (q * 1)) (sv := .slice (some ⟨gs, 0, none⟩) q c) ?_ ?_ ?_ ?_ ?_ ?_
                     · simp [Act.eval]
                     · simp [Act.eval]
                     · exact row_empty (by first | exact heap_new _ _ | exact hp_old _ _ _ _ (by simp) (heap_new _ _) | exact heap_alloc_at _ _ _ (by simp))
                     · exact SUB1.out.below (by (try go_split_ands); repeat (first | assumption | exact Below.refl _ _ | refine bel_one ?_ _ | refine bel_two ?_))
                     · omega
                     intro b1 c1 V1 hr1 ht1 hf1
                     have hn1 : NewB Wc b1 := (NewB.lit (wr := Wc) (g := Wc.heap.size) (by omega)).next (_w' := V1) (by (try go_split_ands); repeat (first | assumption | exact Below.refl _ _ | refine bel_one ?_ _ | refine bel_two ?_)) hf1
                     have hV1 : Below Wc.heap.size Wc V1 := (NewB.lit (wr := Wc) (g := Wc.heap.size) (by omega)).bel (by (try go_split_ands); repeat (first | assumption | exact Below.refl _ _ | refine bel_one ?_ _ | refine bel_two ?_)) ht1)
                  | (refine step_chain (P := Try.prog) (t := 43) (e := 3) (k := 1) (by' := 8) Try.underlying43 infoInt rfl (Nat.succ_pos 0) (Nat.le_of_ble_eq_true rfl) rfl (.tmp 39) (.tmp 42) rfl (b := some ⟨Wc.heap.size + 1, 0, none⟩) (n := 0) (c := 0) (m := q) (xs := []) (ys := (intsV O).take (q * 1)) (sv := .slice (some ⟨gs, 0, none⟩) q c) ?_ ?_ ?_ ?_ ?_ ?_
                     · simp [Act.eval]
                     · simp [Act.eval]
                     · exact row_empty (by first | exact heap_new _ _ | exact hp_old _ _ _ _ (by simp) (heap_new _ _) | exact heap_alloc_at _ _ _ (by simp))
                     · exact SUB1.out.below (by (try go_split_ands); repeat (first | assumption | exact Below.refl _ _ | refine bel_one ?_ _ | refine bel_two ?_))
                     · omega
                     intro b1 c1 V1 hr1 ht1 hf1
                     have hn1 : NewB Wc b1 := (NewB.lit (wr := Wc) (g := Wc.heap.size + 1) (by omega)).next (_w' := V1) (by (try go_split_ands); repeat (first | assumption | exact Below.refl _ _ | refine bel_one ?_ _ | refine bel_two ?_)) hf1
                     have hV1 : Below Wc.heap.size Wc V1 := (NewB.lit (wr := Wc) (g := Wc.heap.size + 1) (by omega)).bel (by (try go_split_ands); repeat (first | assumption | exact Below.refl _ _ | refine bel_one ?_ _ | refine bel_two ?_)) ht1)
                  | (refine step_chain (P := Try.prog) (t := 43) (e := 3) (k := 1) (by' := 8) Try.underlying43 infoInt rfl (Nat.succ_pos 0) (Nat.le_of_ble_eq_true rfl) rfl (.tmp 43) (.tmp 45) rfl (b := b1) (n := 0 + q) (c := c1) (m := 1) (xs := [] ++ (intsV O).take (q * 1)) (ys := [.int .i64 x]) (sv := .slice (some ⟨V1.heap.size, 0, none⟩) 1 1) ?_ ?_ ?_ ?_ ?_ ?_
                     · simp [Act.eval]
                     · simp [Act.eval]
                     · exact hr1.below (bel_new _ _)
                     · exact SubV.one (T := 3) (vs := [.int .i64 x]) (by first | exact heap_new _ _ | exact hp_old _ _ _ _ (by simp) (heap_new _ _) | exact heap_alloc_at _ _ _ (by simp)) rfl (by simp [Value.oneCell'])
                     · omega
                     intro b2 c2 V2 hr2 ht2 hf2
                     have hn2 : NewB Wc b2 := hn1.next (_w' := V2) (by (try go_split_ands); repeat (first | assumption | exact Below.refl _ _ | refine bel_one ?_ _ | refine bel_two ?_)) hf2
                     have hV2 : Below Wc.heap.size Wc V2 := hn1.bel (by (try go_split_ands); repeat (first | assumption | exact Below.refl _ _ | refine bel_one ?_ _ | refine bel_two ?_)) ht2)
                  | (refine step_chain (P := Try.prog) (t := 43) (e := 3) (k := 1) (by' := 8) Try.underlying43 infoInt rfl (Nat.succ_pos 0) (Nat.le_of_ble_eq_true rfl) rfl (.tmp 43) (.tmp 45) rfl (b := b1) (n := 0 + q) (c := c1) (m := 1) (xs := [] ++ (intsV O).take (q * 1)) (ys := [.int .i64 x]) (sv := .slice (some ⟨Wc.heap.size + 1, 0, none⟩) 1 1) ?_ ?_ ?_ ?_ ?_ ?_
                     · simp [Act.eval]
                     · simp [Act.eval]
                     · exact hr1
                     · exact SubV.one (T := 3) (vs := [.int .i64 x]) (ht1.heap (by first | exact heap_new _ _ | exact hp_old _ _ _ _ (by simp) (heap_new _ _) | exact heap_alloc_at _ _ _ (by simp)) (by simp [blkOf])) rfl (by simp [Value.oneCell'])
                     · omega
                     intro b2 c2 V2 hr2 ht2 hf2
                     have hn2 : NewB Wc b2 := hn1.next (_w' := V2) (by (try go_split_ands); repeat (first | assumption | exact Below.refl _ _ | refine bel_one ?_ _ | refine bel_two ?_)) hf2
                     have hV2 : Below Wc.heap.size Wc V2 := hn1.bel (by (try go_split_ands); repeat (first | assumption | exact Below.refl _ _ | refine bel_one ?_ _ | refine bel_two ?_)) ht2)
                  | (refine step_chain (P := Try.prog) (t := 43) (e := 3) (k := 1) (by' := 8) Try.underlying43 infoInt rfl (Nat.succ_pos 0) (Nat.le_of_ble_eq_true rfl) rfl (.tmp 43) (.tmp 45) rfl (b := b1) (n := 0 + q) (c := c1) (m := 1) (xs := [] ++ (intsV O).take (q * 1)) (ys := [.int .i64 x]) (sv := .slice (some ⟨Wc.heap.size, 0, none⟩) 1 1) ?_ ?_ ?_ ?_ ?_ ?_
                     · simp [Act.eval]
                     · simp [Act.eval]
                     · exact hr1
                     · exact SubV.one (T := 3) (vs := [.int .i64 x]) (ht1.heap (by first | exact heap_new _ _ | exact hp_old _ _ _ _ (by simp) (heap_new _ _) | exact heap_alloc_at _ _ _ (by simp)) (by simp [blkOf])) rfl (by simp [Value.oneCell'])
                     · omega
                     intro b2 c2 V2 hr2 ht2 hf2
                     have hn2 : NewB Wc b2 := hn1.next (_w' := V2) (by (try go_split_ands); repeat (first | assumption | exact Below.refl _ _ | refine bel_one ?_ _ | refine bel_two ?_)) hf2
                     have hV2 : Below Wc.heap.size Wc V2 := hn1.bel (by (try go_split_ands); repeat (first | assumption | exact Below.refl _ _ | refine bel_one ?_ _ | refine bel_two ?_)) ht2)
                  | (refine step_chain (P := Try.prog) (t := 43) (e := 3) (k := 1) (by' := 8) Try.underlying43 infoInt rfl (Nat.succ_pos 0) (Nat.le_of_ble_eq_true rfl) rfl (.tmp 46) (.tmp 49) rfl (b := b2) (n := 0 + q + 1) (c := c2) (m := (O.length - q)) (xs := [] ++ (intsV O).take (q * 1) ++ [.int .i64 x]) (ys := (intsV O).drop (q * 1)) (sv := .slice (some ⟨gs, q * 1, none⟩) (O.length - q) (c - q)) ?_ ?_ ?_ ?_ ?_ ?_
                     · simp [Act.eval]
                     · simp [Act.eval]
                     · exact hr2
                     · exact SUB2.out.below (by (try go_split_ands); repeat (first | assumption | exact Below.refl _ _ | refine bel_one ?_ _ | refine bel_two ?_))
                     · omega
                     intro b3 c3 V3 hr3 ht3 hf3
                     have hn3 : NewB Wc b3 := hn2.next (_w' := V3) (by (try go_split_ands); repeat (first | assumption | exact Below.refl _ _ | refine bel_one ?_ _ | refine bel_two ?_)) hf3
                     have hV3 : Below Wc.heap.size Wc V3 := hn2.bel (by (try go_split_ands); repeat (first | assumption | exact Below.refl _ _ | refine bel_one ?_ _ | refine bel_two ?_)) ht3))
              all_goals
                have HFF := Lib.hid (HW3.out b3 c3 V3 (by simpa only [Nat.zero_add, Nat.add_zero] using hr3) hn3 hV3)
                clear hr3 hn3 hV3
                go_wp2_with fail
                go_roundw
                case rel => exact ⟨i + 1, by omega, by go_num, Lib.hid (by rw [HLE.out]; exact ⟨_, rfl, HFF.out⟩)⟩
                case measure => simp [intOf]; omega
        · obtain rfl : q = O.length := by omega
          have HINS : Hid (insG ltI x O = O.take O.length ++ x :: O.drop O.length) := Lib.hid ((insG_is ltI x O O.length hq HALL.out (fun h => absurd h (Nat.lt_irrefl _))).2 (fun h => absurd h (Nat.lt_irrefl _)))
          have hd : decide ((O.length : Int) < (O.length : Int)) = false := by simp
          have hrr := ROW.out.out
          rcases hrr with ⟨rfl, hz, rfl, -⟩ | ⟨gs, cur, rfl, -, hsc, -⟩
          · obtain rfl : O = [] := List.eq_nil_of_length_eq_zero hz
            clear hz
            simp only [List.length_nil] at *
            have HSC := Lib.hid fun W (hW : Below Wc.heap.size Wc W) => hW
            have SUB1 : Hid (SubV Wc 1 (.slice none 0 0) 0 ([])) := Lib.hid (SubV.nil)
            have SUB2 : Hid (SubV Wc 1 (.slice none 0 0) 0 ([])) := Lib.hid (SubV.nil)
            have HW3 : Hid (∀ b3 c3 V3, Row V3 3 1 b3 (1) c3 ([] ++ [] ++ [.int .i64 x] ++ []) → NewB Wc b3 → Below Wc.heap.size Wc V3 → NewRow 3 1 w (intsV (insG ltI x ([] : List Int))) (insG ltI x ([] : List Int)).length (.slice b3 (1) c3) V3) := Lib.hid fun b3 c3 V3 hr3 hn3 hV3 => by
              have e0 : insG ltI x ([] : List Int) = ([] : List Int).take (0) ++ x :: ([] : List Int).drop (0) := HINS.out
              have e1 : 1 = (insG ltI x ([] : List Int)).length := by rw [e0]; simp <;> omega
              rw [e1] at hr3 ⊢
              refine ⟨b3, c3, rfl, ?_, hBW.trans (hV3.mono hBW.size), fun x hx => Nat.le_trans hBW.size (hn3 x hx)⟩
              have e2 : ([] ++ [] ++ [.int .i64 x] ++ []) = intsV (insG ltI x ([] : List Int)) := by rw [e0]; simp [intsV, List.take_of_length_le]
              rw [e2] at hr3
              exact hr3
            have HLE := Lib.hid HNX.out
            clear HINS HNX HALL ROW hBW
            go_wp2_with fail
            go_region_held3 (fun W => Below Wc.heap.size Wc W)
              ((exact HSC.out _ (by (try go_split_ands); repeat (first | assumption | exact Below.refl _ _ | refine bel_one ?_ _ | refine bel_two ?_))))
              (first
                | (refine step_chain (P := Try.prog) (t := 43) (e := 3) (k := 1) (by' := 8) Try.underlying43 infoInt rfl (Nat.succ_pos 0) (Nat.le_of_ble_eq_true rfl) rfl (.tmp 39) (.tmp 42) rfl (b := some ⟨Wc.heap.size, 0, none⟩) (n := 0) (c := 0) (m := 0) (xs := []) (ys := []) (sv := .slice none 0 0) ?_ ?_ ?_ ?_ ?_ ?_
                   · simp [Act.eval]
                   · simp [Act.eval]
                   · exact row_empty (by first | exact heap_new _ _ | exact hp_old _ _ _ _ (by simp) (heap_new _ _) | exact heap_alloc_at _ _ _ (by simp))
                   · exact SUB1.out.below (by (try go_split_ands); repeat (first | assumption | exact Below.refl _ _ | refine bel_one ?_ _ | refine bel_two ?_))
                   · omega
                   intro b1 c1 V1 hr1 ht1 hf1
                   have hn1 : NewB Wc b1 := (NewB.lit (wr := Wc) (g := Wc.heap.size) (by omega)).next (_w' := V1) (by (try go_split_ands); repeat (first | assumption | exact Below.refl _ _ | refine bel_one ?_ _ | refine bel_two ?_)) hf1
                   have hV1 : Below Wc.heap.size Wc V1 := (NewB.lit (wr := Wc) (g := Wc.heap.size) (by omega)).bel (by (try go_split_ands); repeat (first | assumption | exact Below.refl _ _ | refine bel_one ?_ _ | refine bel_two ?_)) ht1)
                | (refine step_chain (P := Try.prog) (t := 43) (e := 3) (k := 1) (by' := 8) Try.underlying43 infoInt rfl (Nat.succ_pos 0) (Nat.le_of_ble_eq_true rfl) rfl (.tmp 39) (.tmp 42) rfl (b := some ⟨Wc.heap.size + 1, 0, none⟩) (n := 0) (c := 0) (m := 0) (xs := []) (ys := []) (sv := .slice none 0 0) ?_ ?_ ?_ ?_ ?_ ?_
                   · simp [Act.eval]
                   · simp [Act.eval]
                   · exact row_empty (by first | exact heap_new _ _ | exact hp_old _ _ _ _ (by simp) (heap_new _ _) | exact heap_alloc_at _ _ _ (by simp))
                   · exact SUB1.out.below (by (try go_split_ands); repeat (first | assumption | exact Below.refl _ _ | refine bel_one ?_ _ | refine bel_two ?_))
                   · omega
                   intro b1 c1 V1 hr1 ht1 hf1
                   have hn1 : NewB Wc b1 := (NewB.lit (wr := Wc) (g := Wc.heap.size + 1) (by omega)).next (_w' := V1) (by (try go_split_ands); repeat (first | assumption | exact Below.refl _ _ | refine bel_one ?_ _ | refine bel_two ?_)) hf1
                   have hV1 : Below Wc.heap.size Wc V1 := (NewB.lit (wr := Wc) (g := Wc.heap.size + 1) (by omega)).bel (by (try go_split_ands); repeat (first | assumption | exact Below.refl _ _ | refine bel_one ?_ _ | refine bel_two ?_)) ht1)
                | (refine step_chain (P := Try.prog) (t := 43) (e := 3) (k := 1) (by' := 8) Try.underlying43 infoInt rfl (Nat.succ_pos 0) (Nat.le_of_ble_eq_true rfl) rfl (.tmp 43) (.tmp 45) rfl (b := b1) (n := 0 + 0) (c := c1) (m := 1) (xs := [] ++ []) (ys := [.int .i64 x]) (sv := .slice (some ⟨V1.heap.size, 0, none⟩) 1 1) ?_ ?_ ?_ ?_ ?_ ?_
                   · simp [Act.eval]
                   · simp [Act.eval]
                   · exact hr1.below (bel_new _ _)
                   · exact SubV.one (T := 3) (vs := [.int .i64 x]) (by first | exact heap_new _ _ | exact hp_old _ _ _ _ (by simp) (heap_new _ _) | exact heap_alloc_at _ _ _ (by simp)) rfl (by simp [Value.oneCell'])
                   · omega
                   intro b2 c2 V2 hr2 ht2 hf2
                   have hn2 : NewB Wc b2 := hn1.next (_w' := V2) (by (try go_split_ands); repeat (first | assumption | exact Below.refl _ _ | refine bel_one ?_ _ | refine bel_two ?_)) hf2
                   have hV2 : Below Wc.heap.size Wc V2 := hn1.bel (by (try go_split_ands); repeat (first | assumption | exact Below.refl _ _ | refine bel_one ?_ _ | refine bel_two ?_)) ht2)
                | (refine step_chain (P := Try.prog) (t := 43) (e := 3) (k := 1) (by' := 8) Try.underlying43 infoInt rfl (Nat.succ_pos 0) (Nat.le_of_ble_eq_true rfl) rfl (.tmp 43) (.tmp 45) rfl (b := b1) (n := 0 + 0) (c := c1) (m := 1) (xs := [] ++ []) (ys := [.int .i64 x]) (sv := .slice (some ⟨Wc.heap.size + 1, 0, none⟩) 1 1) ?_ ?_ ?_ ?_ ?_ ?_
                   · simp [Act.eval]
                   · simp [Act.eval]
                   · exact hr1
                   · exact SubV.one (T := 3) (vs := [.int .i64 x]) (ht1.heap (by first | exact heap_new _ _ | exact hp_old _ _ _ _ (by simp) (heap_new _ _) | exact heap_alloc_at _ _ _ (by simp)) (by simp [blkOf])) rfl (by simp [Value.oneCell'])
                   · omega
                   intro b2 c2 V2 hr2 ht2 hf2
                   have hn2 : NewB Wc b2 := hn1.next (_w' := V2) (by (try go_split_ands); repeat (first | assumption | exact Below.refl _ _ | refine bel_one ?_ _ | refine bel_two ?_)) hf2
                   have hV2 : Below Wc.heap.size Wc V2 := hn1.bel (by (try go_split_ands); repeat (first | assumption | exact Below.refl _ _ | refine bel_one ?_ _ | refine bel_two ?_)) ht2)
                | (refine step_chain (P := Try.prog) (t := 43) (e := 3) (k := 1) (by' := 8) Try.underlying43 infoInt rfl (Nat.succ_pos 0) (Nat.le_of_ble_eq_true rfl) rfl (.tmp 43) (.tmp 45) rfl (b := b1) (n := 0 + 0) (c := c1) (m := 1) (xs := [] ++ []) (ys := [.int .i64 x]) (sv := .slice (some ⟨Wc.heap.size, 0, none⟩) 1 1) ?_ ?_ ?_ ?_ ?_ ?_
                   · simp [Act.eval]
                   · simp [Act.eval]
                   · exact hr1
                   · exact SubV.one (T := 3) (vs := [.int .i64 x]) (ht1.heap (by first | exact heap_new _ _ | exact hp_old _ _ _ _ (by simp) (heap_new _ _) | exact heap_alloc_at _ _ _ (by simp)) (by simp [blkOf])) rfl (by simp [Value.oneCell'])
                   · omega
                   intro b2 c2 V2 hr2 ht2 hf2
                   have hn2 : NewB Wc b2 := hn1.next (_w' := V2) (by (try go_split_ands); repeat (first | assumption | exact Below.refl _ _ | refine bel_one ?_ _ | refine bel_two ?_)) hf2
                   have hV2 : Below Wc.heap.size Wc V2 := hn1.bel (by (try go_split_ands); repeat (first | assumption | exact Below.refl _ _ | refine bel_one ?_ _ | refine bel_two ?_)) ht2)
                | (refine step_chain (P := Try.prog) (t := 43) (e := 3) (k := 1) (by' := 8) Try.underlying43 infoInt rfl (Nat.succ_pos 0) (Nat.le_of_ble_eq_true rfl) rfl (.tmp 46) (.tmp 49) rfl (b := b2) (n := 0 + 0 + 1) (c := c2) (m := 0) (xs := [] ++ [] ++ [.int .i64 x]) (ys := []) (sv := .slice none 0 0) ?_ ?_ ?_ ?_ ?_ ?_
                   · simp [Act.eval]
                   · simp [Act.eval]
                   · exact hr2
                   · exact SUB2.out.below (by (try go_split_ands); repeat (first | assumption | exact Below.refl _ _ | refine bel_one ?_ _ | refine bel_two ?_))
                   · omega
                   intro b3 c3 V3 hr3 ht3 hf3
                   have hn3 : NewB Wc b3 := hn2.next (_w' := V3) (by (try go_split_ands); repeat (first | assumption | exact Below.refl _ _ | refine bel_one ?_ _ | refine bel_two ?_)) hf3
                   have hV3 : Below Wc.heap.size Wc V3 := hn2.bel (by (try go_split_ands); repeat (first | assumption | exact Below.refl _ _ | refine bel_one ?_ _ | refine bel_two ?_)) ht3))
            all_goals
              have HFF := Lib.hid (HW3.out b3 c3 V3 (by simpa only [Nat.zero_add, Nat.add_zero] using hr3) hn3 hV3)
              clear hr3 hn3 hV3
              go_wp2_with fail
              go_roundw
              case rel => exact ⟨i + 1, by omega, by go_num, Lib.hid (by rw [HLE.out]; exact ⟨_, rfl, HFF.out⟩)⟩
              case measure => simp [intOf]; omega
          · by_cases hcc : c = O.length
            · subst hcc
              have HSC := Lib.hid fun W (hW : Below Wc.heap.size Wc W) => hW
              have SUB1 : Hid (SubV Wc 1 (.slice (some ⟨gs, 0, none⟩) O.length O.length) O.length ((intsV O).take (O.length * 1))) := Lib.hid (SubV.upto ROW.out (by simp [intsV, Value.oneCell']) (by omega))
              have SUB2 : Hid (SubV Wc 1 (.slice (some ⟨gs, 0, none⟩) 0 0) 0 ([])) := Lib.hid (SubV.zero)
              have HW3 : Hid (∀ b3 c3 V3, Row V3 3 1 b3 (O.length + 1) c3 ([] ++ (intsV O).take (O.length * 1) ++ [.int .i64 x] ++ []) → NewB Wc b3 → Below Wc.heap.size Wc V3 → NewRow 3 1 w (intsV (insG ltI x O)) (insG ltI x O).length (.slice b3 (O.length + 1) c3) V3) := Lib.hid fun b3 c3 V3 hr3 hn3 hV3 => by
                have e0 : insG ltI x O = O.take (O.length) ++ x :: O.drop (O.length) := HINS.out
                have e1 : O.length + 1 = (insG ltI x O).length := by rw [e0]; simp <;> omega
                rw [e1] at hr3 ⊢
                refine ⟨b3, c3, rfl, ?_, hBW.trans (hV3.mono hBW.size), fun x hx => Nat.le_trans hBW.size (hn3 x hx)⟩
                have e2 : ([] ++ (intsV O).take (O.length * 1) ++ [.int .i64 x] ++ []) = intsV (insG ltI x O) := by rw [e0]; simp [intsV, List.take_of_length_le]
                rw [e2] at hr3
                exact hr3
              have HLE := Lib.hid HNX.out
              clear HINS HNX HALL ROW hBW
              go_wp2_with fail
              go_region_held3 (fun W => Below Wc.heap.size Wc W)
                ((exact HSC.out _ (by (try go_split_ands); repeat (first | assumption | exact Below.refl _ _ | refine bel_one ?_ _ | refine bel_two ?_))))
                (first
                  | (refine step_chain (P := Try.prog) (t := 43) (e := 3) (k := 1) (by' := 8) Try.underlying43 infoInt rfl (Nat.succ_pos 0) (Nat.le_of_ble_eq_true rfl) rfl (.tmp 39) (.tmp 42) rfl (b := some ⟨Wc.heap.size, 0, none⟩) (n := 0) (c := 0) (m := O.length) (xs := []) (ys := (intsV O).take (O.length * 1)) (sv := .slice (some ⟨gs, 0, none⟩) O.length O.length) ?_ ?_ ?_ ?_ ?_ ?_
                     · simp [Act.eval]
                     · simp [Act.eval]
                     · exact row_empty (by first | exact heap_new _ _ | exact hp_old _ _ _ _ (by simp) (heap_new _ _) | exact heap_alloc_at _ _ _ (by simp))
                     · exact SUB1.out.below (by (try go_split_ands); repeat (first | assumption | exact Below.refl _ _ | refine bel_one ?_ _ | refine bel_two ?_))
                     · omega
                     intro b1 c1 V1 hr1 ht1 hf1
                     have hn1 : NewB Wc b1 := (NewB.lit (wr := Wc) (g := Wc.heap.size) (by omega)).next (_w' := V1) (by (try go_split_ands); repeat (first | assumption | exact Below.refl _ _ | refine bel_one ?_ _ | refine bel_two ?_)) hf1
                     have hV1 : Below Wc.heap.size Wc V1 := (NewB.lit (wr := Wc) (g := Wc.heap.size) (by omega)).bel (by (try go_split_ands); repeat (first | assumption | exact Below.refl _ _ | refine bel_one ?_ _ | refine bel_two ?_)) ht1)
                  | (refine step_chain (P := Try.prog) (t := 43) (e := 3) (k := 1) (by' := 8) Try.underlying43 infoInt rfl (Nat.succ_pos 0) (Nat.le_of_ble_eq_true rfl) rfl (.tmp 39) (.tmp 42) rfl (b := some ⟨Wc.heap.size + 1, 0, none⟩) (n := 0) (c := 0) (m := O.length) (xs := []) (ys := (intsV O).take (O.length * 1)) (sv := .slice (some ⟨gs, 0, none⟩) O.length O.length) ?_ ?_ ?_ ?_ ?_ ?_
                     · simp [Act.eval]
                     · simp [Act.eval]
                     · exact row_empty (by first | exact heap_new _ _ | exact hp_old _ _ _ _ (by simp) (heap_new _ _) | exact heap_alloc_at _ _ _ (by simp))
                     · exact SUB1.out.below (by (try go_split_ands); repeat (first | assumption | exact Below.refl _ _ | refine bel_one ?_ _ | refine bel_two ?_))
                     · omega
                     intro b1 c1 V1 hr1 ht1 hf1
                     have hn1 : NewB Wc b1 := (NewB.lit (wr := Wc) (g := Wc.heap.size + 1) (by omega)).next (_w' := V1) (by (try go_split_ands); repeat (first | assumption | exact Below.refl _ _ | refine bel_one ?_ _ | refine bel_two ?_)) hf1
                     have hV1 : Below Wc.heap.size Wc V1 := (NewB.lit (wr := Wc) (g := Wc.heap.size + 1) (by omega)).bel (by (try go_split_ands); repeat (first | assumption | exact Below.refl _ _ | refine bel_one ?_ _ | refine bel_two ?_)) ht1)
                  | (refine step_chain (P := Try.prog) (t := 43) (e := 3) (k := 1) (by' := 8) Try.underlying43 infoInt rfl (Nat.succ_pos 0) (Nat.le_of_ble_eq_true rfl) rfl (.tmp 43) (.tmp 45) rfl (b := b1) (n := 0 + O.length) (c := c1) (m := 1) (xs := [] ++ (intsV O).take (O.length * 1)) (ys := [.int .i64 x]) (sv := .slice (some ⟨V1.heap.size, 0, none⟩) 1 1) ?_ ?_ ?_ ?_ ?_ ?_
                     · simp [Act.eval]
                     · simp [Act.eval]
                     · exact hr1.below (bel_new _ _)
                     · exact SubV.one (T := 3) (vs := [.int .i64 x]) (by first | exact heap_new _ _ | exact hp_old _ _ _ _ (by simp) (heap_new _ _) | exact heap_alloc_at _ _ _ (by simp)) rfl (by simp [Value.oneCell'])
                     · omega
                     intro b2 c2 V2 hr2 ht2 hf2
                     have hn2 : NewB Wc b2 := hn1.next (_w' := V2) (by (try go_split_ands); repeat (first | assumption | exact Below.refl _ _ | refine bel_one ?_ _ | refine bel_two ?_)) hf2
                     have hV2 : Below Wc.heap.size Wc V2 := hn1.bel (by (try go_split_ands); repeat (first | assumption | exact Below.refl _ _ | refine bel_one ?_ _ | refine bel_two ?_)) ht2)
                  | (refine step_chain (P := Try.prog) (t := 43) (e := 3) (k := 1) (by' := 8) Try.underlying43 infoInt rfl (Nat.succ_pos 0) (Nat.le_of_ble_eq_true rfl) rfl (.tmp 43) (.tmp 45) rfl (b := b1) (n := 0 + O.length) (c := c1) (m := 1) (xs := [] ++ (intsV O).take (O.length * 1)) (ys := [.int .i64 x]) (sv := .slice (some ⟨Wc.heap.size + 1, 0, none⟩) 1 1) ?_ ?_ ?_ ?_ ?_ ?_
                     · simp [Act.eval]
                     · simp [Act.eval]
                     · exact hr1
                     · exact SubV.one (T := 3) (vs := [.int .i64 x]) (ht1.heap (by first | exact heap_new _ _ | exact hp_old _ _ _ _ (by simp) (heap_new _ _) | exact heap_alloc_at _ _ _ (by simp)) (by simp [blkOf])) rfl (by simp [Value.oneCell'])
                     · omega
                     intro b2 c2 V2 hr2 ht2 hf2
                     have hn2 : NewB Wc b2 := hn1.next (_w' := V2) (by (try go_split_ands); repeat (first | assumption | exact Below.refl _ _ | refine bel_one ?_ _ | refine bel_two ?_)) hf2
                     have hV2 : Below Wc.heap.size Wc V2 := hn1.bel (by (try go_split_ands); repeat (first | assumption | exact Below.refl _ _ | refine bel_one ?_ _ | refine bel_two ?_)) ht2)
                  | (refine step_chain (P := Try.prog) (t := 43) (e := 3) (k := 1) (by' := 8) Try.underlying43 infoInt rfl (Nat.succ_pos 0) (Nat.le_of_ble_eq_true rfl) rfl (.tmp 43) (.tmp 45) rfl (b := b1) (n := 0 + O.length) (c := c1) (m := 1) (xs := [] ++ (intsV O).take (O.length * 1)) (ys := [.int .i64 x]) (sv := .slice (some ⟨Wc.heap.size, 0, none⟩) 1 1) ?_ ?_ ?_ ?_ ?_ ?_
                     · simp [Act.eval]
                     · simp [Act.eval]
                     · exact hr1
                     · exact SubV.one (T := 3) (vs := [.int .i64 x]) (ht1.heap (by first | exact heap_new _ _ | exact hp_old _ _ _ _ (by simp) (heap_new _ _) | exact heap_alloc_at _ _ _ (by simp)) (by simp [blkOf])) rfl (by simp [Value.oneCell'])
                     · omega
                     intro b2 c2 V2 hr2 ht2 hf2
                     have hn2 : NewB Wc b2 := hn1.next (_w' := V2) (by (try go_split_ands); repeat (first | assumption | exact Below.refl _ _ | refine bel_one ?_ _ | refine bel_two ?_)) hf2
                     have hV2 : Below Wc.heap.size Wc V2 := hn1.bel (by (try go_split_ands); repeat (first | assumption | exact Below.refl _ _ | refine bel_one ?_ _ | refine bel_two ?_)) ht2)
                  | (refine step_chain (P := Try.prog) (t := 43) (e := 3) (k := 1) (by' := 8) Try.underlying43 infoInt rfl (Nat.succ_pos 0) (Nat.le_of_ble_eq_true rfl) rfl (.tmp 46) (.tmp 49) rfl (b := b2) (n := 0 + O.length + 1) (c := c2) (m := 0) (xs := [] ++ (intsV O).take (O.length * 1) ++ [.int .i64 x]) (ys := []) (sv := .slice (some ⟨gs, 0, none⟩) 0 0) ?_ ?_ ?_ ?_ ?_ ?_
                     · simp [Act.eval]
                     · simp [Act.eval]
                     · exact hr2
                     · exact SUB2.out.below (by (try go_split_ands); repeat (first | assumption | exact Below.refl _ _ | refine bel_one ?_ _ | refine bel_two ?_))
                     · omega
                     intro b3 c3 V3 hr3 ht3 hf3
                     have hn3 : NewB Wc b3 := hn2.next (_w' := V3) (by (try go_split_ands); repeat (first | assumption | exact Below.refl _ _ | refine bel_one ?_ _ | refine bel_two ?_)) hf3
                     have hV3 : Below Wc.heap.size Wc V3 := hn2.bel (by (try go_split_ands); repeat (first | assumption | exact Below.refl _ _ | refine bel_one ?_ _ | refine bel_two ?_)) ht3))
              all_goals
                have HFF := Lib.hid (HW3.out b3 c3 V3 (by simpa only [Nat.zero_add, Nat.add_zero] using hr3) hn3 hV3)
                clear hr3 hn3 hV3
                go_wp2_with fail
                go_roundw
                case rel => exact ⟨i + 1, by omega, by go_num, Lib.hid (by rw [HLE.out]; exact ⟨_, rfl, HFF.out⟩)⟩
                case measure => simp [intOf]; omega
            · have hqc : (O.length : Int) ≤ (c : Int) := by omega
              have hne : ¬ O.length = c := by omega
              have HSC := Lib.hid fun W (hW : Below Wc.heap.size Wc W) => hW
              have SUB1 : Hid (SubV Wc 1 (.slice (some ⟨gs, 0, none⟩) O.length c) O.length ((intsV O).take (O.length * 1))) := Lib.hid (SubV.upto ROW.out (by simp [intsV, Value.oneCell']) (by omega))
              have SUB2 : Hid (SubV Wc 1 (.slice (some ⟨gs, O.length * 1, none⟩) 0 (c - O.length)) 0 ([])) := Lib.hid (SubV.zero)
              have HW3 : Hid (∀ b3 c3 V3, Row V3 3 1 b3 (O.length + 1) c3 ([] ++ (intsV O).take (O.length * 1) ++ [.int .i64 x] ++ []) → NewB Wc b3 → Below Wc.heap.size Wc V3 → NewRow 3 1 w (intsV (insG ltI x O)) (insG ltI x O).length (.slice b3 (O.length + 1) c3) V3) := Lib.hid fun b3 c3 V3 hr3 hn3 hV3 => by
                have e0 : insG ltI x O = O.take (O.length) ++ x :: O.drop (O.length) := HINS.out
                have e1 : O.length + 1 = (insG ltI x O).length := by rw [e0]; simp <;> omega
                rw [e1] at hr3 ⊢
                refine ⟨b3, c3, rfl, ?_, hBW.trans (hV3.mono hBW.size), fun x hx => Nat.le_trans hBW.size (hn3 x hx)⟩
                have e2 : ([] ++ (intsV O).take (O.length * 1) ++ [.int .i64 x] ++ []) = intsV (insG ltI x O) := by rw [e0]; simp [intsV, List.take_of_length_le]
                rw [e2] at hr3
                exact hr3
              have HLE := Lib.hid HNX.out
              clear HINS HNX HALL ROW hBW
              go_wp2_with fail
              go_region_held3 (fun W => Below Wc.heap.size Wc W)
                ((exact HSC.out _ (by (try go_split_ands); repeat (first | assumption | exact Below.refl _ _ | refine bel_one ?_ _ | refine bel_two ?_))))
                (first
                  | (refine step_chain (P := Try.prog) (t := 43) (e := 3) (k := 1) (by' := 8) Try.underlying43 infoInt rfl (Nat.succ_pos 0) (Nat.le_of_ble_eq_true rfl) rfl (.tmp 39) (.tmp 42) rfl (b := some ⟨Wc.heap.size, 0, none⟩) (n := 0) (c := 0) (m := O.length) (xs := []) (ys := (intsV O).take (O.length * 1)) (sv := .slice (some ⟨gs, 0, none⟩) O.length c) ?_ ?_ ?_ ?_ ?_ ?_
                     · simp [Act.eval]
                     · simp [Act.eval]
                     · exact row_empty (by first | exact heap_new _ _ | exact hp_old _ _ _ _ (by simp) (heap_new _ _) | exact heap_alloc_at _ _ _ (by simp))
                     · exact SUB1.out.below (by (try go_split_ands); repeat (first | assumption | exact Below.refl _ _ | refine bel_one ?_ _ | refine bel_two ?_))
                     · omega
                     intro b1 c1 V1 hr1 ht1 hf1
                     have hn1 : NewB Wc b1 := (NewB.lit (wr := Wc) (g := Wc.heap.size) (by omega)).next (_w' := V1) (by (try go_split_ands); repeat (first | assumption | exact Below.refl _ _ | refine bel_one ?_ _ | refine bel_two ?_)) hf1
                     have hV1 : Below Wc.heap.size Wc V1 := (NewB.lit (wr := Wc) (g := Wc.heap.size) (by omega)).bel (by (try go_split_ands); repeat (first | assumption | exact Below.refl _ _ | refine bel_one ?_ _ | refine bel_two ?_)) ht1)
                  | (refine step_chain (P := Try.prog) (t := 43) (e := 3) (k := 1) (by' := 8) Try.underlying43 infoInt rfl (Nat.succ_pos 0) (Nat.le_of_ble_eq_true rfl) rfl (.tmp 39) (.tmp 42) rfl (b := some ⟨Wc.heap.size + 1, 0, none⟩) (n := 0) (c := 0) (m := O.length) (xs := []) (ys := (intsV O).take (O.length * 1)) (sv := .slice (some ⟨gs, 0, none⟩) O.length c) ?_ ?_ ?_ ?_ ?_ ?_
                     · simp [Act.eval]
                     · simp [Act.eval]
                     · exact row_empty (by first | exact heap_new _ _ | exact hp_old _ _ _ _ (by simp) (heap_new _ _) | exact heap_alloc_at _ _ _ (by simp))
                     · exact SUB1.out.below (by (try go_split_ands); repeat (first | assumption | exact Below.refl _ _ | refine bel_one ?_ _ | refine bel_two ?_))
                     · omega
                     intro b1 c1 V1 hr1 ht1 hf1
                     have hn1 : NewB Wc b1 := (NewB.lit (wr := Wc) (g := Wc.heap.size + 1) (by omega)).next (_w' := V1) (by (try go_split_ands); repeat (first | assumption | exact Below.refl _ _ | refine bel_one ?_ _ | refine bel_two ?_)) hf1
                     have hV1 : Below Wc.heap.size Wc V1 := (NewB.lit (wr := Wc) (g := Wc.heap.size + 1) (by omega)).bel (by (try go_split_ands); repeat (first | assumption | exact Below.refl _ _ | refine bel_one ?_ _ | refine bel_two ?_)) ht1)
                  | (refine step_chain (P := Try.prog) (t := 43) (e := 3) (k := 1) (by' := 8) Try.underlying43 infoInt rfl (Nat.succ_pos 0) (Nat.le_of_ble_eq_true rfl) rfl (.tmp 43) (.tmp 45) rfl (b := b1) (n := 0 + O.length) (c := c1) (m := 1) (xs := [] ++ (intsV O).take (O.length * 1)) (ys := [.int .i64 x]) (sv := .slice (some ⟨V1.heap.size, 0, none⟩) 1 1) ?_ ?_ ?_ ?_ ?_ ?_
                     · simp [Act.eval]
                     · simp [Act.eval]
                     · exact hr1.below (bel_new _ _)
                     · exact SubV.one (T := 3) (vs := [.int .i64 x]) (by first | exact heap_new _ _ | exact hp_old _ _ _ _ (by simp) (heap_new _ _) | exact heap_alloc_at _ _ _ (by simp)) rfl (by simp [Value.oneCell'])
                     · omega
                     intro b2 c2 V2 hr2 ht2 hf2
                     have hn2 : NewB Wc b2 := hn1.next (_w' := V2) (by (try go_split_ands); repeat (first | assumption | exact Below.refl _ _ | refine bel_one ?_ _ | refine bel_two ?_)) hf2
                     have hV2 : Below Wc.heap.size Wc V2 := hn1.bel (by (try go_split_ands); repeat (first | assumption | exact Below.refl _ _ | refine bel_one ?_ _ | refine bel_two ?_)) ht2)
                  | (refine step_chain (P := Try.prog) (t := 43) (e := 3) (k := 1) (by' := 8) Try.underlying43 infoInt rfl (Nat.succ_pos 0) (Nat.le_of_ble_eq_true rfl) rfl (.tmp 43) (.tmp 45) rfl (b := b1) (n := 0 + O.length) (c := c1) (m := 1) (xs := [] ++ (intsV O).take (O.length * 1)) (ys := [.int .i64 x]) (sv := .slice (some ⟨Wc.heap.size + 1, 0, none⟩) 1 1) ?_ ?_ ?_ ?_ ?_ ?_
                     · simp [Act.eval]
                     · simp [Act.eval]
                     · exact hr1
                     · exact SubV.one (T := 3) (vs := [.int .i64 x]) (ht1.heap (by first | exact heap_new _ _ | exact hp_old _ _ _ _ (by simp) (heap_new _ _) | exact heap_alloc_at _ _ _ (by simp)) (by simp [blkOf])) rfl (by simp [Value.oneCell'])
                     · omega
                     intro b2 c2 V2 hr2 ht2 hf2
                     have hn2 : NewB Wc b2 := hn1.next (_w' := V2) (by (try go_split_ands); repeat (first | assumption | exact Below.refl _ _ | refine bel_one ?_ _ | refine bel_two ?_)) hf2
                     have hV2 : Below Wc.heap.size Wc V2 := hn1.bel (by (try go_split_ands); repeat (first | assumption | exact Below.refl _ _ | refine bel_one ?_ _ | refine bel_two ?_)) ht2)
                  | (refine step_chain (P := Try.prog) (t := 43) (e := 3) (k := 1) (by' := 8) Try.underlying43 infoInt rfl (Nat.succ_pos 0) (Nat.le_of_ble_eq_true rfl) rfl (.tmp 43) (.tmp 45) rfl (b := b1) (n := 0 + O.length) (c := c1) (m := 1) (xs := [] ++ (intsV O).take (O.length * 1)) (ys := [.int .i64 x]) (sv := .slice (some ⟨Wc.heap.size, 0, none⟩) 1 1) ?_ ?_ ?_ ?_ ?_ ?_
                     · simp [Act.eval]
                     · simp [Act.eval]
                     · exact hr1
                     · exact SubV.one (T := 3) (vs := [.int .i64 x]) (ht1.heap (by first | exact heap_new _ _ | exact hp_old _ _ _ _ (by simp) (heap_new _ _) | exact heap_alloc_at _ _ _ (by simp)) (by simp [blkOf])) rfl (by simp [Value.oneCell'])
                     · omega
                     intro b2 c2 V2 hr2 ht2 hf2
                     have hn2 : NewB Wc b2 := hn1.next (_w' := V2) (by (try go_split_ands); repeat (first | assumption | exact Below.refl _ _ | refine bel_one ?_ _ | refine bel_two ?_)) hf2
                     have hV2 : Below Wc.heap.size Wc V2 := hn1.bel (by (try go_split_ands); repeat (first | assumption | exact Below.refl _ _ | refine bel_one ?_ _ | refine bel_two ?_)) ht2)
                  | (refine step_chain (P := Try.prog) (t := 43) (e := 3) (k := 1) (by' := 8) Try.underlying43 infoInt rfl (Nat.succ_pos 0) (Nat.le_of_ble_eq_true rfl) rfl (.tmp 46) (.tmp 49) rfl (b := b2) (n := 0 + O.length + 1) (c := c2) (m := 0) (xs := [] ++ (intsV O).take (O.length * 1) ++ [.int .i64 x]) (ys := []) (sv := .slice (some ⟨gs, O.length * 1, none⟩) 0 (c - O.length)) ?_ ?_ ?_ ?_ ?_ ?_
                     · simp [Act.eval]
                     · simp [Act.eval]
                     · exact hr2
                     · exact SUB2.out.below (by (try go_split_ands); repeat (first | assumption | exact Below.refl _ _ | refine bel_one ?_ _ | refine bel_two ?_))
                     · omega
                     intro b3 c3 V3 hr3 ht3 hf3
                     have hn3 : NewB Wc b3 := hn2.next (_w' := V3) (by (try go_split_ands); repeat (first | assumption | exact Below.refl _ _ | refine bel_one ?_ _ | refine bel_two ?_)) hf3
                     have hV3 : Below Wc.heap.size Wc V3 := hn2.bel (by (try go_split_ands); repeat (first | assumption | exact Below.refl _ _ | refine bel_one ?_ _ | refine bel_two ?_)) ht3))
              all_goals
                have HFF := Lib.hid (HW3.out b3 c3 V3 (by simpa only [Nat.zero_add, Nat.add_zero] using hr3) hn3 hV3)
                clear hr3 hn3 hV3
                go_wp2_with fail
                go_roundw
                case rel => exact ⟨i + 1, by omega, by go_num, Lib.hid (by rw [HLE.out]; exact ⟨_, rfl, HFF.out⟩)⟩
                case measure => simp [intOf]; omega
    · obtain rfl : i = I.length := by omega
      rw [List.take_length] at *
      have HF : Hid (Mem w [] Wc [RowI aO c (risI I)]) := Lib.hid ((Mem.nil w).new hb (As := [RowI aO c (risI I)]) (all_one ⟨rfl, hrow⟩) hf)
      clear hrow hb hf
      go_wp2_with fail
      go_ret
      exact ⟨aO, c, rfl, HF.out⟩
end Go.Proofs.Ytnemgmlhcjhdhaa

