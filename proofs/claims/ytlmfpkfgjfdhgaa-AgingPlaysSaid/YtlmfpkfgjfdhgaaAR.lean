/- The reference's Waiting. -/
import Derived.Test.YtlmfpkfgjfdhgaaAQ
import Derived.Test.YtlmfpkfgjfdhgaaMem3
import Derived.IntWalk
namespace Go.Proofs.Ytlmfpkfgjfdhgaa
open Go.RowKit

theorem info61 : (Try.prog.info? 61).map (fun i => (i.zero, i.size, i.bytes)) = some (some (.agg #[.int .i64 0, .int .i64 0, .bool false, .string ⟨#[]⟩]), 4, 40) := by kernel_rfl
/-- sorted so far. -/
structure Ins (M : List Mb) (key : ByteArray) (k : Nat) (S : List Mb) : Prop where
  perm : S.Perm (waitM (M.take k) key)
  ord : ByAge S
theorem waitM_take (M : List Mb) (key : ByteArray) (k : Nat) (hk : k < M.length) : waitM (M.take (k + 1)) key = waitM (M.take k) key ++ (if (M[k].waits && M[k].key.toList == key.toList) = true then [M[k]] else []) := by
  unfold waitM
  exact filter_take_succ (fun t : Mb => t.waits && t.key.toList == key.toList) M k hk
theorem Ins.skip {M : List Mb} {key : ByteArray} {k : Nat} {S : List Mb} (h : Ins M key k S) (hk : k < M.length) (hq : ¬ (M[k].waits && M[k].key.toList == key.toList) = true) : Ins M key (k + 1) S :=
  ⟨by rw [waitM_take M key k hk, if_neg hq, List.append_nil]; exact h.perm, h.ord⟩
theorem Ins.put {M : List Mb} {key : ByteArray} {k : Nat} {S : List Mb} (h : Ins M key k S) (hk : k < M.length) (hq : (M[k].waits && M[k].key.toList == key.toList) = true) {q : Nat} (hql : q ≤ S.length)
    (h1 : ∀ i (hi : i < S.length), i < q → ageC S[i] M[k] < 0) (h2 : ∀ hi : q < S.length, ¬ ageC S[q] M[k] < 0) : Ins M key (k + 1) (insAt S q M[k]) := by
  refine ⟨?_, ?_⟩
  · rw [waitM_take M key k hk, if_pos hq]
    unfold insAt
    have e : (S.take q ++ M[k] :: S.drop q).Perm (M[k] :: S) := by
      have h3 := List.perm_middle (a := M[k]) (l₁ := S.take q) (l₂ := S.drop q)
      rw [List.take_append_drop] at h3
      exact h3
    exact e.trans ((List.Perm.cons _ h.perm).trans (List.perm_append_singleton _ _).symm)
  · unfold insAt ByAge
    have hs : (S.take q ++ S.drop q).Pairwise fun x y => ¬ ageC y x < 0 := by rw [List.take_append_drop]; exact h.ord
    obtain ⟨p1, p2, p3⟩ := List.pairwise_append.1 hs
    have hge : ∀ y ∈ S.drop q, ¬ ageC y M[k] < 0 := fun y hy => by
      obtain ⟨j, hj, rfl⟩ := List.getElem_of_mem hy
      rw [List.length_drop] at hj
      rw [List.getElem_drop]
      have hq0 : q < S.length := by omega
      by_cases ej : j = 0
      · subst ej; exact h2 hq0
      · have h4 := List.pairwise_iff_getElem.1 h.ord q (q + j) hq0 (by omega) (by omega)
        have h5 := h2 hq0
        rw [ageC_neg] at h4 h5 ⊢
        omega
    refine List.pairwise_append.2 ⟨p1, List.pairwise_cons.2 ⟨hge, p2⟩, fun x hx y hy => ?_⟩
    rcases List.mem_cons.1 hy with rfl | hy
    · obtain ⟨i, hi, rfl⟩ := List.getElem_of_mem hx
      rw [List.length_take] at hi
      rw [List.getElem_take]
      have := h1 i (by omega) (by omega)
      rw [ageC_neg] at this ⊢
      omega
    · exact p3 x hx y hy
theorem Ins.start (M : List Mb) (key : ByteArray) : Ins M key 0 [] := ⟨by simp [waitM], List.Pairwise.nil⟩
theorem Ins.len {M : List Mb} {key : ByteArray} {k : Nat} {S : List Mb} (h : Ins M key k S) (hb : M.length ≤ 1000) : S.length ≤ 1000 := by
  rw [h.perm.length_eq]
  exact Nat.le_trans (List.length_filter_le _ _) (by rw [List.length_take]; omega)
theorem bel_of_drew {w w' : World} (h : Below w.drew.heap.size w.drew w') : Below w.heap.size w w' := ⟨h.os, h.tape, h.output, h.size, h.block⟩
/-- what the loop holds. -/
def WRow (w : World) (M : List Mb) (key : ByteArray) (k : Nat) (v : Value) (wr : World) : Prop :=
  ∃ S a c, v = .slice a S.length c ∧ Ins M key k S ∧ Row wr 61 4 a S.length c (mbFlat S) ∧ NewB w a ∧ Below w.heap.size w wr
set_option maxRecDepth 100000 in
set_option maxHeartbeats 4000000 in
theorem rf_waiting (p : Nat) (wd : Bool) (M : List Mb) (K : List Lk) (key : ByteArray) (w : World) (D : List Nat) (h : RefA p wd M K w D) (hbig : M.length ≤ 1000) :
    Calls Try.prog 27 #[.pointer (some ⟨p, 0, none⟩), .string key] w (WaitPost w M key) := by
  obtain ⟨la, lc, ka, kc, -, hc, -, hr, -⟩ := h.parts
  have HR := Lib.hid hr
  clear h hr
  have HFIN : Hid (∀ S v w2 w3, Ins M key M.length S → Below w.heap.size w w2 → NewRow 3 1 w2 (idsFlat S) S.length v w3 → WaitPost w M key (.returned v) w3) := Lib.hid fun S v w2 w3 h1 h2 h3 => by
    have hp := h1.perm
    rw [List.take_length] at hp
    exact WaitPost.mk (a := none) h2 (by simp [blkOf]) (Touch.refl _ _) hp h1.ord h3
  generalize WaitPost w M key = R at *
  generalize hn : M.length = n at hc hbig HFIN
  have HN := Lib.hid hn
  clear hn
  go_enter Try.func27, Try.ntmps27
  go_wp2_with fail
  go_loopw [5, 17] (fun v j wr => ∃ k : Nat, k ≤ n ∧ j = .int .i64 k ∧ Hid (WRow w M key k v wr)) (fun _ j _ => n - (intOf j).toNat)
  case atStart => exact ⟨0, Nat.zero_le _, rfl, Lib.hid ⟨[], none, 0, rfl, Ins.start M key, Row.nil _ _ _, by simp [NewB, blkOf], Below.refl _ _⟩⟩
  case round =>
    obtain ⟨W1, rfl⟩ : ∃ W1, W1 = wr := ⟨_, rfl⟩
    obtain ⟨k, hk, rfl, hS⟩ := hrel
    obtain ⟨S, a, c, rfl, hins, hrow, hnb, hb⟩ := hS.out
    have INS := Lib.hid hins
    have ROW := Lib.hid hrow
    have NB := Lib.hid hnb
    have HB := Lib.hid hb
    have hsl : S.length ≤ 1000 := hins.len (by rw [HN.out]; exact hbig)
    clear hS hins hrow hnb
    by_cases hlt : k < n
    · have hk2 : k < M.length := by rw [HN.out]; exact hlt
      obtain ⟨g, rfl, hcs⟩ := mbAt_row HR.out k hk2
      obtain ⟨hx0, hx1, hx2, hx3⟩ := hcs.below hb
      have HSK := Lib.hid fun hq => INS.out.skip hk2 hq
      have HPUT := Lib.hid fun hq (q : Nat) hql h1 h2 => INS.out.put hk2 hq (q := q) hql h1 h2
      clear hcs hb
      generalize M[k] = x at *
      obtain ⟨xi, xs, xw, xy⟩ := x
      simp only at hx0 hx1 hx2 hx3 HSK HPUT
      by_cases hq : (xw && xy.toList == key.toList) = true
      · obtain ⟨rfl, hq2⟩ := Bool.and_eq_true_iff.1 hq
        have HP2 := Lib.hid (HPUT.out hq)
        have hq3 : (xy.toList != key.toList) = false := by simp only [bne, hq2]; rfl
        clear hq HPUT HSK
        go_wp2_with fail
        have HB1 := Lib.hid (bel_one HB.out (.cells #[.int .i64 xi, .int .i64 xs, .bool true, .string xy] 61))
        have HBX : Hid (∀ W, Below (W1.alloc (.cells #[.int .i64 xi, .int .i64 xs, .bool true, .string xy] 61)).heap.size (W1.alloc (.cells #[.int .i64 xi, .int .i64 xs, .bool true, .string xy] 61)) W → mbAt W W1.heap.size 0 ⟨xi, xs, true, xy⟩) := Lib.hid fun W hW => (mbAt_new W1 ⟨xi, xs, true, xy⟩ 61).below hW
        have ROW1 := Lib.hid (ROW.out.below (bel_new W1 (.cells #[.int .i64 xi, .int .i64 xs, .bool true, .string xy] 61)))
        generalize hW0 : W1.alloc (.cells #[.int .i64 xi, .int .i64 xs, .bool true, .string xy] 61) = W0 at *
        clear hW0
        generalize W1.heap.size = gb at *
        clear hx0 hx1 hx2 hx3
        go_loopw [8] (fun jv wr => ∃ q : Nat, q ≤ S.length ∧ jv = .int .i64 q ∧ Hid (Below W0.heap.size W0 wr ∧ ∀ i (hi : i < S.length), i < q → ageC S[i] ⟨xi, xs, true, xy⟩ < 0)) (fun jv _ => S.length - (intOf jv).toNat)
        case atStart => exact ⟨0, Nat.zero_le _, rfl, Lib.hid ⟨Below.refl _ _, fun _ _ h => by omega⟩⟩
        case round =>
          obtain ⟨q, hq, rfl, hS⟩ := hrel
          obtain ⟨hb0, hall⟩ := hS.out
          have HB0 := Lib.hid hb0
          have HALL := Lib.hid hall
          have hbx := HBX.out _ hb0
          clear hS hall
          by_cases hlq : q < S.length
          · obtain ⟨gs, rfl, hss⟩ := mbAt_row (ROW1.out.below hb0) q hlq
            have HSX := Lib.hid fun W (hW : Below wr.heap.size wr W) => (show (W.cell? ⟨gs, q * 4, none⟩ = some (.int .i64 S[q].id) ∧ W.cell? ⟨gs, q * 4 + 1, none⟩ = some (.int .i64 S[q].stamp) ∧ W.cell? ⟨gs, q * 4 + 2, none⟩ = some (.bool S[q].waits) ∧ W.cell? ⟨gs, q * 4 + 3, none⟩ = some (.string S[q].key)) ∧ W.cell? ⟨gb, 0, none⟩ = some (.int .i64 xi) ∧ W.cell? ⟨gb, 1, none⟩ = some (.int .i64 xs) ∧ W.cell? ⟨gb, 2, none⟩ = some (.bool true) ∧ W.cell? ⟨gb, 3, none⟩ = some (.string xy) from ⟨hss.below hW, hbx.below hW⟩)
            obtain ⟨hs0, hs1, hs2, hs3⟩ := hss
            obtain ⟨hb0', hb1, hb2, hb3⟩ := hbx
            simp only [Nat.zero_add] at hb0' hb1 hb2 hb3
            have HNX : Hid (ageC S[q] ⟨xi, xs, true, xy⟩ < 0 → ∀ i (hi : i < S.length), i < q + 1 → ageC S[i] ⟨xi, xs, true, xy⟩ < 0) := Lib.hid fun h i hi hik => by
              by_cases e : i = q
              · subst e; exact h
              · exact HALL.out i hi (by omega)
            have HXX : Hid (∀ h : q < S.length, S[q] = S[q]) := Lib.hid fun _ => rfl
            have HG : Hid (¬ ageC S[q] ⟨xi, xs, true, xy⟩ < 0 → ∀ hi : q < S.length, ¬ ageC S[q] ⟨xi, xs, true, xy⟩ < 0) := Lib.hid fun h _ => h
            have HEL := Lib.hid fun W => rf_elder S[q] ⟨xi, xs, true, xy⟩ W
            clear hb0
            generalize S[q] = y at *
            obtain ⟨yi, ys, yw, yk⟩ := y
            simp only at hs0 hs1 hs2 hs3 HSX HNX HEL
            have hlz : (q : Int) < (S.length : Int) := by omega
            have hqz : (0 : Int) ≤ (q : Int) := by omega
            by_cases hag : ageC ⟨yi, ys, yw, yk⟩ ⟨xi, xs, true, xy⟩ < 0
            · have HN2 := Lib.hid (HNX.out hag)
              rw [decide_eq_true hag] at HEL
              clear hag HNX HG
              go_wp2_with fail
              go_region_held3 (fun W => (W.cell? ⟨gs, q * 4, none⟩ = some (.int .i64 yi) ∧ W.cell? ⟨gs, q * 4 + 1, none⟩ = some (.int .i64 ys) ∧ W.cell? ⟨gs, q * 4 + 2, none⟩ = some (.bool yw) ∧ W.cell? ⟨gs, q * 4 + 3, none⟩ = some (.string yk)) ∧ W.cell? ⟨gb, 0, none⟩ = some (.int .i64 xi) ∧ W.cell? ⟨gb, 1, none⟩ = some (.int .i64 xs) ∧ W.cell? ⟨gb, 2, none⟩ = some (.bool true) ∧ W.cell? ⟨gb, 3, none⟩ = some (.string xy))
                (first | (exact HSX.out _ (bel_two (Below.refl _ _))) | (exact HSX.out _ (bel_of_drew (by assumption))) | (exact HSX.out _ (by assumption)))
                ((go_at_call 47; refine (HEL.out _).mono ?_; rintro e w' ⟨rfl, hbw⟩))
              all_goals
                have hBw : Below wr.heap.size wr w' := by first | exact hbw | exact bel_of_drew hbw
                have HB2 := Lib.hid (HB0.out.trans (hBw.mono HB0.out.size))
                clear hBw
                go_wp2_with fail
                go_roundw
                case rel => exact ⟨q + 1, by omega, by go_num, Lib.hid ⟨HB2.out, HN2.out⟩⟩
                case measure => simp [intOf]; omega
            · have HQX : Hid (∀ hi : q < S.length, ¬ ageC S[q] ⟨xi, xs, true, xy⟩ < 0) := Lib.hid (HG.out hag)
              have HQA := HALL
              rw [decide_eq_false hag] at HEL
              clear hag HNX HG
              go_wp2_with fail
              go_region_held3 (fun W => (W.cell? ⟨gs, q * 4, none⟩ = some (.int .i64 yi) ∧ W.cell? ⟨gs, q * 4 + 1, none⟩ = some (.int .i64 ys) ∧ W.cell? ⟨gs, q * 4 + 2, none⟩ = some (.bool yw) ∧ W.cell? ⟨gs, q * 4 + 3, none⟩ = some (.string yk)) ∧ W.cell? ⟨gb, 0, none⟩ = some (.int .i64 xi) ∧ W.cell? ⟨gb, 1, none⟩ = some (.int .i64 xs) ∧ W.cell? ⟨gb, 2, none⟩ = some (.bool true) ∧ W.cell? ⟨gb, 3, none⟩ = some (.string xy))
                (first | (exact HSX.out _ (bel_two (Below.refl _ _))) | (exact HSX.out _ (bel_of_drew (by assumption))) | (exact HSX.out _ (by assumption)))
                ((go_at_call 47; refine (HEL.out _).mono ?_; rintro e w' ⟨rfl, hbw⟩))
              all_goals
                have hBw : Below wr.heap.size wr w' := by first | exact hbw | exact bel_of_drew hbw
                have HBC := Lib.hid (HB0.out.trans (hBw.mono HB0.out.size))
                clear hBw hbw
                have hlc : (q : Int) < (c : Int) := by
                  rcases ROW1.out.out with ⟨e, _⟩ | ⟨_, _, _, _, h1, _⟩
                  · cases e
                  · omega
                have hqc : (q : Int) ≤ (c : Int) := by omega
                have hql : (q : Int) ≤ (S.length : Int) := by omega
                have hne : ¬ q = c := by omega
                have hne2 : ¬ c = q := by omega
                clear hs0 hs1 hs2 hs3 hb0' hb1 hb2 hb3 HEL HSX HXX
                try go_split_ands
                generalize w' = Wc at *
                have HSC := Lib.hid fun W (hW : Below Wc.heap.size Wc W) => (show Below Wc.heap.size Wc W ∧ W.cell? ⟨gb, 0, none⟩ = some (.int .i64 xi) ∧ W.cell? ⟨gb, 1, none⟩ = some (.int .i64 xs) ∧ W.cell? ⟨gb, 2, none⟩ = some (.bool true) ∧ W.cell? ⟨gb, 3, none⟩ = some (.string xy) from ⟨hW, by have := (HBX.out _ HBC.out).below hW; simpa only [mbAt, Nat.zero_add] using this⟩)
                have SUB1 : Hid (SubV Wc 4 (.slice (some ⟨gs, 0, none⟩) q c) q ((mbFlat S).take (q * 4))) := Lib.hid (SubV.upto (ROW1.out.below HBC.out) (mbFlat_one S) (by omega))
                have SUB2 : Hid (SubV Wc 4 (.slice (some ⟨gs, q * 4, none⟩) (S.length - q) (c - q)) (S.length - q) ((mbFlat S).drop (q * 4))) := Lib.hid (SubV.behind (ROW1.out.below HBC.out) (mbFlat_one S) (by omega) _)
                have HW3 : Hid (∀ b3 c3 V3, Row V3 61 4 b3 (q + 1 + (S.length - q)) c3 ([] ++ (mbFlat S).take (q * 4) ++ [.int .i64 xi, .int .i64 xs, .bool true, .string xy] ++ ((mbFlat S).drop (q * 4))) → NewB Wc b3 → Below Wc.heap.size Wc V3 → WRow w M key (k + 1) (.slice b3 (q + 1 + (S.length - q)) c3) V3) := Lib.hid fun b3 c3 V3 hr3 hn3 hV3 => by
                  have e1 : q + 1 + (S.length - q) = (insAt S q ⟨xi, xs, true, xy⟩).length := by rw [insAt_len (by omega)] <;> omega
                  rw [e1] at hr3 ⊢
                  refine ⟨_, b3, c3, rfl, HP2.out q (by omega) HQA.out HQX.out, ?_, fun x hx => Nat.le_trans (HB1.out.trans (HBC.out.mono HB1.out.size)).size (hn3 x hx), (HB1.out.trans (HBC.out.mono HB1.out.size)).trans (hV3.mono (HB1.out.trans (HBC.out.mono HB1.out.size)).size)⟩
                  have e2 : ([] ++ (mbFlat S).take (q * 4) ++ [.int .i64 xi, .int .i64 xs, .bool true, .string xy] ++ ((mbFlat S).drop (q * 4))) = mbFlat (insAt S q ⟨xi, xs, true, xy⟩) := by
                    unfold insAt
                    rw [List.nil_append, mbFlat_take, mbFlat_append, mbFlat_cons, List.append_assoc]
                    rw [mbFlat_drop]; rfl
                  rw [e2] at hr3
                  exact hr3
                clear HP2 HQX HQA HBX INS HB0 HB1 NB ROW ROW1
                go_wp2_with fail
                go_region_held3 (fun W => Below Wc.heap.size Wc W ∧ W.cell? ⟨gb, 0, none⟩ = some (.int .i64 xi) ∧ W.cell? ⟨gb, 1, none⟩ = some (.int .i64 xs) ∧ W.cell? ⟨gb, 2, none⟩ = some (.bool true) ∧ W.cell? ⟨gb, 3, none⟩ = some (.string xy))
                  ((exact HSC.out _ (by (try go_split_ands); repeat (first | assumption | exact Below.refl _ _ | refine bel_one ?_ _ | refine bel_two ?_))))
                  (first
                    | (refine step_chain (P := Try.prog) (t := 50) (e := 61) (k := 4) (by' := 40) Try.underlying50 info61 rfl (Nat.succ_pos 3) (Nat.le_of_ble_eq_true rfl) rfl (.tmp 44) (.tmp 47) rfl (b := some ⟨Wc.heap.size, 0, none⟩) (n := 0) (c := 0) (m := q) (xs := []) (ys := (mbFlat S).take (q * 4)) (sv := .slice (some ⟨gs, 0, none⟩) q c) ?_ ?_ ?_ ?_ ?_ ?_
                       · simp [Act.eval, Act.put]
                       · simp [Act.eval, Act.put]
                       · exact row_empty (by first | exact heap_new _ _ | exact hp_old _ _ _ _ (by simp) (heap_new _ _) | exact heap_alloc_at _ _ _ (by simp))
                       · exact SUB1.out.below (by (try go_split_ands); repeat (first | assumption | exact Below.refl _ _ | refine bel_one ?_ _ | refine bel_two ?_))
                       · omega
                       intro b1 c1 V1 hr1 ht1 hf1
                       have hn1 : NewB Wc b1 := (NewB.lit (wr := Wc) (g := Wc.heap.size) (by omega)).next (w' := V1) (by (try go_split_ands); repeat (first | assumption | exact Below.refl _ _ | refine bel_one ?_ _ | refine bel_two ?_)) hf1
                       have hV1 : Below Wc.heap.size Wc V1 := (NewB.lit (wr := Wc) (g := Wc.heap.size) (by omega)).bel (by (try go_split_ands); repeat (first | assumption | exact Below.refl _ _ | refine bel_one ?_ _ | refine bel_two ?_)) ht1)
                    | (refine step_chain (P := Try.prog) (t := 50) (e := 61) (k := 4) (by' := 40) Try.underlying50 info61 rfl (Nat.succ_pos 3) (Nat.le_of_ble_eq_true rfl) rfl (.tmp 44) (.tmp 47) rfl (b := some ⟨Wc.heap.size + 1, 0, none⟩) (n := 0) (c := 0) (m := q) (xs := []) (ys := (mbFlat S).take (q * 4)) (sv := .slice (some ⟨gs, 0, none⟩) q c) ?_ ?_ ?_ ?_ ?_ ?_
                       · simp [Act.eval, Act.put]
                       · simp [Act.eval, Act.put]
                       · exact row_empty (by first | exact heap_new _ _ | exact hp_old _ _ _ _ (by simp) (heap_new _ _) | exact heap_alloc_at _ _ _ (by simp))
                       · exact SUB1.out.below (by (try go_split_ands); repeat (first | assumption | exact Below.refl _ _ | refine bel_one ?_ _ | refine bel_two ?_))
                       · omega
                       intro b1 c1 V1 hr1 ht1 hf1
                       have hn1 : NewB Wc b1 := (NewB.lit (wr := Wc) (g := Wc.heap.size + 1) (by omega)).next (w' := V1) (by (try go_split_ands); repeat (first | assumption | exact Below.refl _ _ | refine bel_one ?_ _ | refine bel_two ?_)) hf1
                       have hV1 : Below Wc.heap.size Wc V1 := (NewB.lit (wr := Wc) (g := Wc.heap.size + 1) (by omega)).bel (by (try go_split_ands); repeat (first | assumption | exact Below.refl _ _ | refine bel_one ?_ _ | refine bel_two ?_)) ht1)
                    | (refine step_chain (P := Try.prog) (t := 50) (e := 61) (k := 4) (by' := 40) Try.underlying50 info61 rfl (Nat.succ_pos 3) (Nat.le_of_ble_eq_true rfl) rfl (.tmp 48) (.tmp 50) rfl (b := b1) (n := 0 + q) (c := c1) (m := 1) (xs := [] ++ (mbFlat S).take (q * 4)) (ys := [.int .i64 xi, .int .i64 xs, .bool true, .string xy]) (sv := .slice (some ⟨V1.heap.size, 0, none⟩) 1 1) ?_ ?_ ?_ ?_ ?_ ?_
                       · simp [Act.eval, Act.put]
                       · simp [Act.eval, Act.put]
                       · exact hr1.below (bel_new _ _)
                       · exact SubV.one (T := 61) (vs := [.int .i64 xi, .int .i64 xs, .bool true, .string xy]) (by first | exact heap_new _ _ | exact hp_old _ _ _ _ (by simp) (heap_new _ _) | exact heap_alloc_at _ _ _ (by simp)) rfl (by simp [Value.oneCell'])
                       · omega
                       intro b2 c2 V2 hr2 ht2 hf2
                       have hn2 : NewB Wc b2 := hn1.next (w' := V2) (by (try go_split_ands); repeat (first | assumption | exact Below.refl _ _ | refine bel_one ?_ _ | refine bel_two ?_)) hf2
                       have hV2 : Below Wc.heap.size Wc V2 := hn1.bel (by (try go_split_ands); repeat (first | assumption | exact Below.refl _ _ | refine bel_one ?_ _ | refine bel_two ?_)) ht2)
                    | (refine step_chain (P := Try.prog) (t := 50) (e := 61) (k := 4) (by' := 40) Try.underlying50 info61 rfl (Nat.succ_pos 3) (Nat.le_of_ble_eq_true rfl) rfl (.tmp 48) (.tmp 50) rfl (b := b1) (n := 0 + q) (c := c1) (m := 1) (xs := [] ++ (mbFlat S).take (q * 4)) (ys := [.int .i64 xi, .int .i64 xs, .bool true, .string xy]) (sv := .slice (some ⟨Wc.heap.size + 1, 0, none⟩) 1 1) ?_ ?_ ?_ ?_ ?_ ?_
                       · simp [Act.eval, Act.put]
                       · simp [Act.eval, Act.put]
                       · exact hr1
                       · exact SubV.one (T := 61) (vs := [.int .i64 xi, .int .i64 xs, .bool true, .string xy]) (ht1.heap (by first | exact heap_new _ _ | exact hp_old _ _ _ _ (by simp) (heap_new _ _) | exact heap_alloc_at _ _ _ (by simp)) (by simp [blkOf])) rfl (by simp [Value.oneCell'])
                       · omega
                       intro b2 c2 V2 hr2 ht2 hf2
                       have hn2 : NewB Wc b2 := hn1.next (w' := V2) (by (try go_split_ands); repeat (first | assumption | exact Below.refl _ _ | refine bel_one ?_ _ | refine bel_two ?_)) hf2
                       have hV2 : Below Wc.heap.size Wc V2 := hn1.bel (by (try go_split_ands); repeat (first | assumption | exact Below.refl _ _ | refine bel_one ?_ _ | refine bel_two ?_)) ht2)
                    | (refine step_chain (P := Try.prog) (t := 50) (e := 61) (k := 4) (by' := 40) Try.underlying50 info61 rfl (Nat.succ_pos 3) (Nat.le_of_ble_eq_true rfl) rfl (.tmp 48) (.tmp 50) rfl (b := b1) (n := 0 + q) (c := c1) (m := 1) (xs := [] ++ (mbFlat S).take (q * 4)) (ys := [.int .i64 xi, .int .i64 xs, .bool true, .string xy]) (sv := .slice (some ⟨Wc.heap.size, 0, none⟩) 1 1) ?_ ?_ ?_ ?_ ?_ ?_
                       · simp [Act.eval, Act.put]
                       · simp [Act.eval, Act.put]
                       · exact hr1
                       · exact SubV.one (T := 61) (vs := [.int .i64 xi, .int .i64 xs, .bool true, .string xy]) (ht1.heap (by first | exact heap_new _ _ | exact hp_old _ _ _ _ (by simp) (heap_new _ _) | exact heap_alloc_at _ _ _ (by simp)) (by simp [blkOf])) rfl (by simp [Value.oneCell'])
                       · omega
                       intro b2 c2 V2 hr2 ht2 hf2
                       have hn2 : NewB Wc b2 := hn1.next (w' := V2) (by (try go_split_ands); repeat (first | assumption | exact Below.refl _ _ | refine bel_one ?_ _ | refine bel_two ?_)) hf2
                       have hV2 : Below Wc.heap.size Wc V2 := hn1.bel (by (try go_split_ands); repeat (first | assumption | exact Below.refl _ _ | refine bel_one ?_ _ | refine bel_two ?_)) ht2)
                    | (refine step_chain (P := Try.prog) (t := 50) (e := 61) (k := 4) (by' := 40) Try.underlying50 info61 rfl (Nat.succ_pos 3) (Nat.le_of_ble_eq_true rfl) rfl (.tmp 51) (.tmp 54) rfl (b := b2) (n := 0 + q + 1) (c := c2) (m := (S.length - q)) (xs := [] ++ (mbFlat S).take (q * 4) ++ [.int .i64 xi, .int .i64 xs, .bool true, .string xy]) (ys := ((mbFlat S).drop (q * 4))) (sv := .slice (some ⟨gs, q * 4, none⟩) (S.length - q) (c - q)) ?_ ?_ ?_ ?_ ?_ ?_
                       · simp [Act.eval, Act.put]
                       · simp [Act.eval, Act.put]
                       · exact hr2
                       · exact SUB2.out.below (by (try go_split_ands); repeat (first | assumption | exact Below.refl _ _ | refine bel_one ?_ _ | refine bel_two ?_))
                       · omega
                       intro b3 c3 V3 hr3 ht3 hf3
                       have hn3 : NewB Wc b3 := hn2.next (w' := V3) (by (try go_split_ands); repeat (first | assumption | exact Below.refl _ _ | refine bel_one ?_ _ | refine bel_two ?_)) hf3
                       have hV3 : Below Wc.heap.size Wc V3 := hn2.bel (by (try go_split_ands); repeat (first | assumption | exact Below.refl _ _ | refine bel_one ?_ _ | refine bel_two ?_)) ht3))
                all_goals
                  have HFF := Lib.hid (HW3.out b3 c3 V3 (by simpa only [Nat.zero_add, Nat.add_zero] using hr3) hn3 hV3)
                  clear hr3 hn3 hV3
                  go_wp2_with fail
                  go_roundw
                  case rel => exact ⟨k + 1, by omega, by go_num, HFF⟩
                  case measure => simp [intOf]; omega
          · obtain rfl : q = S.length := by omega
            have HQX : Hid (∀ hi : S.length < S.length, ¬ ageC S[S.length] ⟨xi, xs, true, xy⟩ < 0) := Lib.hid fun h => absurd h (Nat.lt_irrefl _)
            have HQA := HALL
            have hd : decide ((S.length : Int) < (S.length : Int)) = false := by simp
            go_wp2_with fail
            go_quiet (fail)
            have HBC := Lib.hid (HB0.out.trans ((bel_drewN wr nq).mono HB0.out.size))
            clear hbx hb0 hd
            generalize wr.drewN nq = Wc at *
            have hrr := ROW1.out.out
            rcases hrr with ⟨rfl, hz, rfl, -⟩ | ⟨gs, cur, rfl, -, hsc, -⟩
            · obtain rfl : S = [] := List.eq_nil_of_length_eq_zero hz
              clear hz
              simp only [List.length_nil] at *
              have HSC := Lib.hid fun W (hW : Below Wc.heap.size Wc W) => (show Below Wc.heap.size Wc W ∧ W.cell? ⟨gb, 0, none⟩ = some (.int .i64 xi) ∧ W.cell? ⟨gb, 1, none⟩ = some (.int .i64 xs) ∧ W.cell? ⟨gb, 2, none⟩ = some (.bool true) ∧ W.cell? ⟨gb, 3, none⟩ = some (.string xy) from ⟨hW, by have := (HBX.out _ HBC.out).below hW; simpa only [mbAt, Nat.zero_add] using this⟩)
              have SUB1 : Hid (SubV Wc 4 (.slice none 0 0) 0 ([])) := Lib.hid (SubV.nil)
              have SUB2 : Hid (SubV Wc 4 (.slice none 0 0) 0 []) := Lib.hid SubV.nil
              have HW3 : Hid (∀ b3 c3 V3, Row V3 61 4 b3 (1) c3 ([] ++ [] ++ [.int .i64 xi, .int .i64 xs, .bool true, .string xy] ++ []) → NewB Wc b3 → Below Wc.heap.size Wc V3 → WRow w M key (k + 1) (.slice b3 (1) c3) V3) := Lib.hid fun b3 c3 V3 hr3 hn3 hV3 => by
                have e1 : 1 = (insAt ([] : List Mb) 0 ⟨xi, xs, true, xy⟩).length := by simp [insAt]
                rw [e1] at hr3 ⊢
                refine ⟨_, b3, c3, rfl, HP2.out 0 (by omega) HQA.out HQX.out, ?_, fun x hx => Nat.le_trans (HB1.out.trans (HBC.out.mono HB1.out.size)).size (hn3 x hx), (HB1.out.trans (HBC.out.mono HB1.out.size)).trans (hV3.mono (HB1.out.trans (HBC.out.mono HB1.out.size)).size)⟩
                have e2 : ([] ++ [] ++ [.int .i64 xi, .int .i64 xs, .bool true, .string xy] ++ []) = mbFlat (insAt ([] : List Mb) 0 ⟨xi, xs, true, xy⟩) := by
                  unfold insAt
                  skip
                  simp [mbFlat]
                rw [e2] at hr3
                exact hr3
              clear HP2 HQX HQA HBX INS HB0 HB1 NB ROW ROW1
              go_wp2_with fail
              go_region_held3 (fun W => Below Wc.heap.size Wc W ∧ W.cell? ⟨gb, 0, none⟩ = some (.int .i64 xi) ∧ W.cell? ⟨gb, 1, none⟩ = some (.int .i64 xs) ∧ W.cell? ⟨gb, 2, none⟩ = some (.bool true) ∧ W.cell? ⟨gb, 3, none⟩ = some (.string xy))
                ((exact HSC.out _ (by (try go_split_ands); repeat (first | assumption | exact Below.refl _ _ | refine bel_one ?_ _ | refine bel_two ?_))))
                (first
                  | (refine step_chain (P := Try.prog) (t := 50) (e := 61) (k := 4) (by' := 40) Try.underlying50 info61 rfl (Nat.succ_pos 3) (Nat.le_of_ble_eq_true rfl) rfl (.tmp 44) (.tmp 47) rfl (b := some ⟨Wc.heap.size, 0, none⟩) (n := 0) (c := 0) (m := 0) (xs := []) (ys := []) (sv := .slice none 0 0) ?_ ?_ ?_ ?_ ?_ ?_
                     · simp [Act.eval, Act.put]
                     · simp [Act.eval, Act.put]
                     · exact row_empty (by first | exact heap_new _ _ | exact hp_old _ _ _ _ (by simp) (heap_new _ _) | exact heap_alloc_at _ _ _ (by simp))
                     · exact SUB1.out.below (by (try go_split_ands); repeat (first | assumption | exact Below.refl _ _ | refine bel_one ?_ _ | refine bel_two ?_))
                     · omega
                     intro b1 c1 V1 hr1 ht1 hf1
                     have hn1 : NewB Wc b1 := (NewB.lit (wr := Wc) (g := Wc.heap.size) (by omega)).next (w' := V1) (by (try go_split_ands); repeat (first | assumption | exact Below.refl _ _ | refine bel_one ?_ _ | refine bel_two ?_)) hf1
                     have hV1 : Below Wc.heap.size Wc V1 := (NewB.lit (wr := Wc) (g := Wc.heap.size) (by omega)).bel (by (try go_split_ands); repeat (first | assumption | exact Below.refl _ _ | refine bel_one ?_ _ | refine bel_two ?_)) ht1)
                  | (refine step_chain (P := Try.prog) (t := 50) (e := 61) (k := 4) (by' := 40) Try.underlying50 info61 rfl (Nat.succ_pos 3) (Nat.le_of_ble_eq_true rfl) rfl (.tmp 44) (.tmp 47) rfl (b := some ⟨Wc.heap.size + 1, 0, none⟩) (n := 0) (c := 0) (m := 0) (xs := []) (ys := []) (sv := .slice none 0 0) ?_ ?_ ?_ ?_ ?_ ?_
                     · simp [Act.eval, Act.put]
                     · simp [Act.eval, Act.put]
                     · exact row_empty (by first | exact heap_new _ _ | exact hp_old _ _ _ _ (by simp) (heap_new _ _) | exact heap_alloc_at _ _ _ (by simp))
                     · exact SUB1.out.below (by (try go_split_ands); repeat (first | assumption | exact Below.refl _ _ | refine bel_one ?_ _ | refine bel_two ?_))
                     · omega
                     intro b1 c1 V1 hr1 ht1 hf1
                     have hn1 : NewB Wc b1 := (NewB.lit (wr := Wc) (g := Wc.heap.size + 1) (by omega)).next (w' := V1) (by (try go_split_ands); repeat (first | assumption | exact Below.refl _ _ | refine bel_one ?_ _ | refine bel_two ?_)) hf1
                     have hV1 : Below Wc.heap.size Wc V1 := (NewB.lit (wr := Wc) (g := Wc.heap.size + 1) (by omega)).bel (by (try go_split_ands); repeat (first | assumption | exact Below.refl _ _ | refine bel_one ?_ _ | refine bel_two ?_)) ht1)
                  | (refine step_chain (P := Try.prog) (t := 50) (e := 61) (k := 4) (by' := 40) Try.underlying50 info61 rfl (Nat.succ_pos 3) (Nat.le_of_ble_eq_true rfl) rfl (.tmp 48) (.tmp 50) rfl (b := b1) (n := 0 + 0) (c := c1) (m := 1) (xs := [] ++ []) (ys := [.int .i64 xi, .int .i64 xs, .bool true, .string xy]) (sv := .slice (some ⟨V1.heap.size, 0, none⟩) 1 1) ?_ ?_ ?_ ?_ ?_ ?_
                     · simp [Act.eval, Act.put]
                     · simp [Act.eval, Act.put]
                     · exact hr1.below (bel_new _ _)
                     · exact SubV.one (T := 61) (vs := [.int .i64 xi, .int .i64 xs, .bool true, .string xy]) (by first | exact heap_new _ _ | exact hp_old _ _ _ _ (by simp) (heap_new _ _) | exact heap_alloc_at _ _ _ (by simp)) rfl (by simp [Value.oneCell'])
                     · omega
                     intro b2 c2 V2 hr2 ht2 hf2
                     have hn2 : NewB Wc b2 := hn1.next (w' := V2) (by (try go_split_ands); repeat (first | assumption | exact Below.refl _ _ | refine bel_one ?_ _ | refine bel_two ?_)) hf2
                     have hV2 : Below Wc.heap.size Wc V2 := hn1.bel (by (try go_split_ands); repeat (first | assumption | exact Below.refl _ _ | refine bel_one ?_ _ | refine bel_two ?_)) ht2)
                  | (refine step_chain (P := Try.prog) (t := 50) (e := 61) (k := 4) (by' := 40) Try.underlying50 info61 rfl (Nat.succ_pos 3) (Nat.le_of_ble_eq_true rfl) rfl (.tmp 48) (.tmp 50) rfl (b := b1) (n := 0 + 0) (c := c1) (m := 1) (xs := [] ++ []) (ys := [.int .i64 xi, .int .i64 xs, .bool true, .string xy]) (sv := .slice (some ⟨Wc.heap.size + 1, 0, none⟩) 1 1) ?_ ?_ ?_ ?_ ?_ ?_
                     · simp [Act.eval, Act.put]
                     · simp [Act.eval, Act.put]
                     · exact hr1
                     · exact SubV.one (T := 61) (vs := [.int .i64 xi, .int .i64 xs, .bool true, .string xy]) (ht1.heap (by first | exact heap_new _ _ | exact hp_old _ _ _ _ (by simp) (heap_new _ _) | exact heap_alloc_at _ _ _ (by simp)) (by simp [blkOf])) rfl (by simp [Value.oneCell'])
                     · omega
                     intro b2 c2 V2 hr2 ht2 hf2
                     have hn2 : NewB Wc b2 := hn1.next (w' := V2) (by (try go_split_ands); repeat (first | assumption | exact Below.refl _ _ | refine bel_one ?_ _ | refine bel_two ?_)) hf2
                     have hV2 : Below Wc.heap.size Wc V2 := hn1.bel (by (try go_split_ands); repeat (first | assumption | exact Below.refl _ _ | refine bel_one ?_ _ | refine bel_two ?_)) ht2)
                  | (refine step_chain (P := Try.prog) (t := 50) (e := 61) (k := 4) (by' := 40) Try.underlying50 info61 rfl (Nat.succ_pos 3) (Nat.le_of_ble_eq_true rfl) rfl (.tmp 48) (.tmp 50) rfl (b := b1) (n := 0 + 0) (c := c1) (m := 1) (xs := [] ++ []) (ys := [.int .i64 xi, .int .i64 xs, .bool true, .string xy]) (sv := .slice (some ⟨Wc.heap.size, 0, none⟩) 1 1) ?_ ?_ ?_ ?_ ?_ ?_
                     · simp [Act.eval, Act.put]
                     · simp [Act.eval, Act.put]
                     · exact hr1
                     · exact SubV.one (T := 61) (vs := [.int .i64 xi, .int .i64 xs, .bool true, .string xy]) (ht1.heap (by first | exact heap_new _ _ | exact hp_old _ _ _ _ (by simp) (heap_new _ _) | exact heap_alloc_at _ _ _ (by simp)) (by simp [blkOf])) rfl (by simp [Value.oneCell'])
                     · omega
                     intro b2 c2 V2 hr2 ht2 hf2
                     have hn2 : NewB Wc b2 := hn1.next (w' := V2) (by (try go_split_ands); repeat (first | assumption | exact Below.refl _ _ | refine bel_one ?_ _ | refine bel_two ?_)) hf2
                     have hV2 : Below Wc.heap.size Wc V2 := hn1.bel (by (try go_split_ands); repeat (first | assumption | exact Below.refl _ _ | refine bel_one ?_ _ | refine bel_two ?_)) ht2)
                  | (refine step_chain (P := Try.prog) (t := 50) (e := 61) (k := 4) (by' := 40) Try.underlying50 info61 rfl (Nat.succ_pos 3) (Nat.le_of_ble_eq_true rfl) rfl (.tmp 51) (.tmp 54) rfl (b := b2) (n := 0 + 0 + 1) (c := c2) (m := 0) (xs := [] ++ [] ++ [.int .i64 xi, .int .i64 xs, .bool true, .string xy]) (ys := []) (sv := .slice none 0 0) ?_ ?_ ?_ ?_ ?_ ?_
                     · simp [Act.eval, Act.put]
                     · simp [Act.eval, Act.put]
                     · exact hr2
                     · exact SUB2.out.below (by (try go_split_ands); repeat (first | assumption | exact Below.refl _ _ | refine bel_one ?_ _ | refine bel_two ?_))
                     · omega
                     intro b3 c3 V3 hr3 ht3 hf3
                     have hn3 : NewB Wc b3 := hn2.next (w' := V3) (by (try go_split_ands); repeat (first | assumption | exact Below.refl _ _ | refine bel_one ?_ _ | refine bel_two ?_)) hf3
                     have hV3 : Below Wc.heap.size Wc V3 := hn2.bel (by (try go_split_ands); repeat (first | assumption | exact Below.refl _ _ | refine bel_one ?_ _ | refine bel_two ?_)) ht3))
              all_goals
                have HFF := Lib.hid (HW3.out b3 c3 V3 (by simpa only [Nat.zero_add, Nat.add_zero] using hr3) hn3 hV3)
                clear hr3 hn3 hV3
                go_wp2_with fail
                go_roundw
                case rel => exact ⟨k + 1, by omega, by go_num, HFF⟩
                case measure => simp [intOf]; omega
            · by_cases hcc : c = S.length
              · subst hcc
                have HSC := Lib.hid fun W (hW : Below Wc.heap.size Wc W) => (show Below Wc.heap.size Wc W ∧ W.cell? ⟨gb, 0, none⟩ = some (.int .i64 xi) ∧ W.cell? ⟨gb, 1, none⟩ = some (.int .i64 xs) ∧ W.cell? ⟨gb, 2, none⟩ = some (.bool true) ∧ W.cell? ⟨gb, 3, none⟩ = some (.string xy) from ⟨hW, by have := (HBX.out _ HBC.out).below hW; simpa only [mbAt, Nat.zero_add] using this⟩)
                have SUB1 : Hid (SubV Wc 4 (.slice (some ⟨gs, 0, none⟩) S.length S.length) S.length ((mbFlat S).take (S.length * 4))) := Lib.hid (SubV.upto (ROW1.out.below HBC.out) (mbFlat_one S) (by omega))
                have SUB2 : Hid (SubV Wc 4 (.slice (some ⟨gs, 0, none⟩) 0 0) 0 []) := Lib.hid SubV.zero
                have HW3 : Hid (∀ b3 c3 V3, Row V3 61 4 b3 (S.length + 1) c3 ([] ++ (mbFlat S).take (S.length * 4) ++ [.int .i64 xi, .int .i64 xs, .bool true, .string xy] ++ []) → NewB Wc b3 → Below Wc.heap.size Wc V3 → WRow w M key (k + 1) (.slice b3 (S.length + 1) c3) V3) := Lib.hid fun b3 c3 V3 hr3 hn3 hV3 => by
                  have e1 : S.length + 1 = (insAt S S.length ⟨xi, xs, true, xy⟩).length := by rw [insAt_len (by omega)] <;> omega
                  rw [e1] at hr3 ⊢
                  refine ⟨_, b3, c3, rfl, HP2.out S.length (by omega) HQA.out HQX.out, ?_, fun x hx => Nat.le_trans (HB1.out.trans (HBC.out.mono HB1.out.size)).size (hn3 x hx), (HB1.out.trans (HBC.out.mono HB1.out.size)).trans (hV3.mono (HB1.out.trans (HBC.out.mono HB1.out.size)).size)⟩
                  have e2 : ([] ++ (mbFlat S).take (S.length * 4) ++ [.int .i64 xi, .int .i64 xs, .bool true, .string xy] ++ []) = mbFlat (insAt S S.length ⟨xi, xs, true, xy⟩) := by
                    unfold insAt
                    rw [List.nil_append, mbFlat_take, mbFlat_append, mbFlat_cons, List.append_assoc]
                    simp [mbFlat, mbCells]
                  rw [e2] at hr3
                  exact hr3
                clear HP2 HQX HQA HBX INS HB0 HB1 NB ROW ROW1
                go_wp2_with fail
                go_region_held3 (fun W => Below Wc.heap.size Wc W ∧ W.cell? ⟨gb, 0, none⟩ = some (.int .i64 xi) ∧ W.cell? ⟨gb, 1, none⟩ = some (.int .i64 xs) ∧ W.cell? ⟨gb, 2, none⟩ = some (.bool true) ∧ W.cell? ⟨gb, 3, none⟩ = some (.string xy))
                  ((exact HSC.out _ (by (try go_split_ands); repeat (first | assumption | exact Below.refl _ _ | refine bel_one ?_ _ | refine bel_two ?_))))
                  (first
                    | (refine step_chain (P := Try.prog) (t := 50) (e := 61) (k := 4) (by' := 40) Try.underlying50 info61 rfl (Nat.succ_pos 3) (Nat.le_of_ble_eq_true rfl) rfl (.tmp 44) (.tmp 47) rfl (b := some ⟨Wc.heap.size, 0, none⟩) (n := 0) (c := 0) (m := S.length) (xs := []) (ys := (mbFlat S).take (S.length * 4)) (sv := .slice (some ⟨gs, 0, none⟩) S.length S.length) ?_ ?_ ?_ ?_ ?_ ?_
                       · simp [Act.eval, Act.put]
                       · simp [Act.eval, Act.put]
                       · exact row_empty (by first | exact heap_new _ _ | exact hp_old _ _ _ _ (by simp) (heap_new _ _) | exact heap_alloc_at _ _ _ (by simp))
                       · exact SUB1.out.below (by (try go_split_ands); repeat (first | assumption | exact Below.refl _ _ | refine bel_one ?_ _ | refine bel_two ?_))
                       · omega
                       intro b1 c1 V1 hr1 ht1 hf1
                       have hn1 : NewB Wc b1 := (NewB.lit (wr := Wc) (g := Wc.heap.size) (by omega)).next (w' := V1) (by (try go_split_ands); repeat (first | assumption | exact Below.refl _ _ | refine bel_one ?_ _ | refine bel_two ?_)) hf1
                       have hV1 : Below Wc.heap.size Wc V1 := (NewB.lit (wr := Wc) (g := Wc.heap.size) (by omega)).bel (by (try go_split_ands); repeat (first | assumption | exact Below.refl _ _ | refine bel_one ?_ _ | refine bel_two ?_)) ht1)
                    | (refine step_chain (P := Try.prog) (t := 50) (e := 61) (k := 4) (by' := 40) Try.underlying50 info61 rfl (Nat.succ_pos 3) (Nat.le_of_ble_eq_true rfl) rfl (.tmp 44) (.tmp 47) rfl (b := some ⟨Wc.heap.size + 1, 0, none⟩) (n := 0) (c := 0) (m := S.length) (xs := []) (ys := (mbFlat S).take (S.length * 4)) (sv := .slice (some ⟨gs, 0, none⟩) S.length S.length) ?_ ?_ ?_ ?_ ?_ ?_
                       · simp [Act.eval, Act.put]
                       · simp [Act.eval, Act.put]
                       · exact row_empty (by first | exact heap_new _ _ | exact hp_old _ _ _ _ (by simp) (heap_new _ _) | exact heap_alloc_at _ _ _ (by simp))
                       · exact SUB1.out.below (by (try go_split_ands); repeat (first | assumption | exact Below.refl _ _ | refine bel_one ?_ _ | refine bel_two ?_))
                       · omega
                       intro b1 c1 V1 hr1 ht1 hf1
                       have hn1 : NewB Wc b1 := (NewB.lit (wr := Wc) (g := Wc.heap.size + 1) (by omega)).next (w' := V1) (by (try go_split_ands); repeat (first | assumption | exact Below.refl _ _ | refine bel_one ?_ _ | refine bel_two ?_)) hf1
                       have hV1 : Below Wc.heap.size Wc V1 := (NewB.lit (wr := Wc) (g := Wc.heap.size + 1) (by omega)).bel (by (try go_split_ands); repeat (first | assumption | exact Below.refl _ _ | refine bel_one ?_ _ | refine bel_two ?_)) ht1)
                    | (refine step_chain (P := Try.prog) (t := 50) (e := 61) (k := 4) (by' := 40) Try.underlying50 info61 rfl (Nat.succ_pos 3) (Nat.le_of_ble_eq_true rfl) rfl (.tmp 48) (.tmp 50) rfl (b := b1) (n := 0 + S.length) (c := c1) (m := 1) (xs := [] ++ (mbFlat S).take (S.length * 4)) (ys := [.int .i64 xi, .int .i64 xs, .bool true, .string xy]) (sv := .slice (some ⟨V1.heap.size, 0, none⟩) 1 1) ?_ ?_ ?_ ?_ ?_ ?_
                       · simp [Act.eval, Act.put]
                       · simp [Act.eval, Act.put]
                       · exact hr1.below (bel_new _ _)
                       · exact SubV.one (T := 61) (vs := [.int .i64 xi, .int .i64 xs, .bool true, .string xy]) (by first | exact heap_new _ _ | exact hp_old _ _ _ _ (by simp) (heap_new _ _) | exact heap_alloc_at _ _ _ (by simp)) rfl (by simp [Value.oneCell'])
                       · omega
                       intro b2 c2 V2 hr2 ht2 hf2
                       have hn2 : NewB Wc b2 := hn1.next (w' := V2) (by (try go_split_ands); repeat (first | assumption | exact Below.refl _ _ | refine bel_one ?_ _ | refine bel_two ?_)) hf2
                       have hV2 : Below Wc.heap.size Wc V2 := hn1.bel (by (try go_split_ands); repeat (first | assumption | exact Below.refl _ _ | refine bel_one ?_ _ | refine bel_two ?_)) ht2)
                    | (refine step_chain (P := Try.prog) (t := 50) (e := 61) (k := 4) (by' := 40) Try.underlying50 info61 rfl (Nat.succ_pos 3) (Nat.le_of_ble_eq_true rfl) rfl (.tmp 48) (.tmp 50) rfl (b := b1) (n := 0 + S.length) (c := c1) (m := 1) (xs := [] ++ (mbFlat S).take (S.length * 4)) (ys := [.int .i64 xi, .int .i64 xs, .bool true, .string xy]) (sv := .slice (some ⟨Wc.heap.size + 1, 0, none⟩) 1 1) ?_ ?_ ?_ ?_ ?_ ?_
                       · simp [Act.eval, Act.put]
                       · simp [Act.eval, Act.put]
                       · exact hr1
                       · exact SubV.one (T := 61) (vs := [.int .i64 xi, .int .i64 xs, .bool true, .string xy]) (ht1.heap (by first | exact heap_new _ _ | exact hp_old _ _ _ _ (by simp) (heap_new _ _) | exact heap_alloc_at _ _ _ (by simp)) (by simp [blkOf])) rfl (by simp [Value.oneCell'])
                       · omega
                       intro b2 c2 V2 hr2 ht2 hf2
                       have hn2 : NewB Wc b2 := hn1.next (w' := V2) (by (try go_split_ands); repeat (first | assumption | exact Below.refl _ _ | refine bel_one ?_ _ | refine bel_two ?_)) hf2
                       have hV2 : Below Wc.heap.size Wc V2 := hn1.bel (by (try go_split_ands); repeat (first | assumption | exact Below.refl _ _ | refine bel_one ?_ _ | refine bel_two ?_)) ht2)
                    | (refine step_chain (P := Try.prog) (t := 50) (e := 61) (k := 4) (by' := 40) Try.underlying50 info61 rfl (Nat.succ_pos 3) (Nat.le_of_ble_eq_true rfl) rfl (.tmp 48) (.tmp 50) rfl (b := b1) (n := 0 + S.length) (c := c1) (m := 1) (xs := [] ++ (mbFlat S).take (S.length * 4)) (ys := [.int .i64 xi, .int .i64 xs, .bool true, .string xy]) (sv := .slice (some ⟨Wc.heap.size, 0, none⟩) 1 1) ?_ ?_ ?_ ?_ ?_ ?_
                       · simp [Act.eval, Act.put]
                       · simp [Act.eval, Act.put]
                       · exact hr1
                       · exact SubV.one (T := 61) (vs := [.int .i64 xi, .int .i64 xs, .bool true, .string xy]) (ht1.heap (by first | exact heap_new _ _ | exact hp_old _ _ _ _ (by simp) (heap_new _ _) | exact heap_alloc_at _ _ _ (by simp)) (by simp [blkOf])) rfl (by simp [Value.oneCell'])
                       · omega
                       intro b2 c2 V2 hr2 ht2 hf2
                       have hn2 : NewB Wc b2 := hn1.next (w' := V2) (by (try go_split_ands); repeat (first | assumption | exact Below.refl _ _ | refine bel_one ?_ _ | refine bel_two ?_)) hf2
                       have hV2 : Below Wc.heap.size Wc V2 := hn1.bel (by (try go_split_ands); repeat (first | assumption | exact Below.refl _ _ | refine bel_one ?_ _ | refine bel_two ?_)) ht2)
                    | (refine step_chain (P := Try.prog) (t := 50) (e := 61) (k := 4) (by' := 40) Try.underlying50 info61 rfl (Nat.succ_pos 3) (Nat.le_of_ble_eq_true rfl) rfl (.tmp 51) (.tmp 54) rfl (b := b2) (n := 0 + S.length + 1) (c := c2) (m := 0) (xs := [] ++ (mbFlat S).take (S.length * 4) ++ [.int .i64 xi, .int .i64 xs, .bool true, .string xy]) (ys := []) (sv := .slice (some ⟨gs, 0, none⟩) 0 0) ?_ ?_ ?_ ?_ ?_ ?_
                       · simp [Act.eval, Act.put]
                       · simp [Act.eval, Act.put]
                       · exact hr2
                       · exact SUB2.out.below (by (try go_split_ands); repeat (first | assumption | exact Below.refl _ _ | refine bel_one ?_ _ | refine bel_two ?_))
                       · omega
                       intro b3 c3 V3 hr3 ht3 hf3
                       have hn3 : NewB Wc b3 := hn2.next (w' := V3) (by (try go_split_ands); repeat (first | assumption | exact Below.refl _ _ | refine bel_one ?_ _ | refine bel_two ?_)) hf3
                       have hV3 : Below Wc.heap.size Wc V3 := hn2.bel (by (try go_split_ands); repeat (first | assumption | exact Below.refl _ _ | refine bel_one ?_ _ | refine bel_two ?_)) ht3))
                all_goals
                  have HFF := Lib.hid (HW3.out b3 c3 V3 (by simpa only [Nat.zero_add, Nat.add_zero] using hr3) hn3 hV3)
                  clear hr3 hn3 hV3
                  go_wp2_with fail
                  go_roundw
                  case rel => exact ⟨k + 1, by omega, by go_num, HFF⟩
                  case measure => simp [intOf]; omega
              · have hqc : (S.length : Int) ≤ (c : Int) := by omega
                have hne : ¬ S.length = c := by omega
                have HSC := Lib.hid fun W (hW : Below Wc.heap.size Wc W) => (show Below Wc.heap.size Wc W ∧ W.cell? ⟨gb, 0, none⟩ = some (.int .i64 xi) ∧ W.cell? ⟨gb, 1, none⟩ = some (.int .i64 xs) ∧ W.cell? ⟨gb, 2, none⟩ = some (.bool true) ∧ W.cell? ⟨gb, 3, none⟩ = some (.string xy) from ⟨hW, by have := (HBX.out _ HBC.out).below hW; simpa only [mbAt, Nat.zero_add] using this⟩)
                have SUB1 : Hid (SubV Wc 4 (.slice (some ⟨gs, 0, none⟩) S.length c) S.length ((mbFlat S).take (S.length * 4))) := Lib.hid (SubV.upto (ROW1.out.below HBC.out) (mbFlat_one S) (by omega))
                have SUB2 : Hid (SubV Wc 4 (.slice (some ⟨gs, S.length * 4, none⟩) 0 (c - S.length)) 0 []) := Lib.hid SubV.zero
                have HW3 : Hid (∀ b3 c3 V3, Row V3 61 4 b3 (S.length + 1) c3 ([] ++ (mbFlat S).take (S.length * 4) ++ [.int .i64 xi, .int .i64 xs, .bool true, .string xy] ++ []) → NewB Wc b3 → Below Wc.heap.size Wc V3 → WRow w M key (k + 1) (.slice b3 (S.length + 1) c3) V3) := Lib.hid fun b3 c3 V3 hr3 hn3 hV3 => by
                  have e1 : S.length + 1 = (insAt S S.length ⟨xi, xs, true, xy⟩).length := by rw [insAt_len (by omega)] <;> omega
                  rw [e1] at hr3 ⊢
                  refine ⟨_, b3, c3, rfl, HP2.out S.length (by omega) HQA.out HQX.out, ?_, fun x hx => Nat.le_trans (HB1.out.trans (HBC.out.mono HB1.out.size)).size (hn3 x hx), (HB1.out.trans (HBC.out.mono HB1.out.size)).trans (hV3.mono (HB1.out.trans (HBC.out.mono HB1.out.size)).size)⟩
                  have e2 : ([] ++ (mbFlat S).take (S.length * 4) ++ [.int .i64 xi, .int .i64 xs, .bool true, .string xy] ++ []) = mbFlat (insAt S S.length ⟨xi, xs, true, xy⟩) := by
                    unfold insAt
                    rw [List.nil_append, mbFlat_take, mbFlat_append, mbFlat_cons, List.append_assoc]
                    simp [mbFlat, mbCells]
                  rw [e2] at hr3
                  exact hr3
                clear HP2 HQX HQA HBX INS HB0 HB1 NB ROW ROW1
                go_wp2_with fail
                go_region_held3 (fun W => Below Wc.heap.size Wc W ∧ W.cell? ⟨gb, 0, none⟩ = some (.int .i64 xi) ∧ W.cell? ⟨gb, 1, none⟩ = some (.int .i64 xs) ∧ W.cell? ⟨gb, 2, none⟩ = some (.bool true) ∧ W.cell? ⟨gb, 3, none⟩ = some (.string xy))
                  ((exact HSC.out _ (by (try go_split_ands); repeat (first | assumption | exact Below.refl _ _ | refine bel_one ?_ _ | refine bel_two ?_))))
                  (first
                    | (refine step_chain (P := Try.prog) (t := 50) (e := 61) (k := 4) (by' := 40) Try.underlying50 info61 rfl (Nat.succ_pos 3) (Nat.le_of_ble_eq_true rfl) rfl (.tmp 44) (.tmp 47) rfl (b := some ⟨Wc.heap.size, 0, none⟩) (n := 0) (c := 0) (m := S.length) (xs := []) (ys := (mbFlat S).take (S.length * 4)) (sv := .slice (some ⟨gs, 0, none⟩) S.length c) ?_ ?_ ?_ ?_ ?_ ?_
                       · simp [Act.eval, Act.put]
                       · simp [Act.eval, Act.put]
                       · exact row_empty (by first | exact heap_new _ _ | exact hp_old _ _ _ _ (by simp) (heap_new _ _) | exact heap_alloc_at _ _ _ (by simp))
                       · exact SUB1.out.below (by (try go_split_ands); repeat (first | assumption | exact Below.refl _ _ | refine bel_one ?_ _ | refine bel_two ?_))
                       · omega
                       intro b1 c1 V1 hr1 ht1 hf1
                       have hn1 : NewB Wc b1 := (NewB.lit (wr := Wc) (g := Wc.heap.size) (by omega)).next (w' := V1) (by (try go_split_ands); repeat (first | assumption | exact Below.refl _ _ | refine bel_one ?_ _ | refine bel_two ?_)) hf1
                       have hV1 : Below Wc.heap.size Wc V1 := (NewB.lit (wr := Wc) (g := Wc.heap.size) (by omega)).bel (by (try go_split_ands); repeat (first | assumption | exact Below.refl _ _ | refine bel_one ?_ _ | refine bel_two ?_)) ht1)
                    | (refine step_chain (P := Try.prog) (t := 50) (e := 61) (k := 4) (by' := 40) Try.underlying50 info61 rfl (Nat.succ_pos 3) (Nat.le_of_ble_eq_true rfl) rfl (.tmp 44) (.tmp 47) rfl (b := some ⟨Wc.heap.size + 1, 0, none⟩) (n := 0) (c := 0) (m := S.length) (xs := []) (ys := (mbFlat S).take (S.length * 4)) (sv := .slice (some ⟨gs, 0, none⟩) S.length c) ?_ ?_ ?_ ?_ ?_ ?_
                       · simp [Act.eval, Act.put]
                       · simp [Act.eval, Act.put]
                       · exact row_empty (by first | exact heap_new _ _ | exact hp_old _ _ _ _ (by simp) (heap_new _ _) | exact heap_alloc_at _ _ _ (by simp))
                       · exact SUB1.out.below (by (try go_split_ands); repeat (first | assumption | exact Below.refl _ _ | refine bel_one ?_ _ | refine bel_two ?_))
                       · omega
                       intro b1 c1 V1 hr1 ht1 hf1
                       have hn1 : NewB Wc b1 := (NewB.lit (wr := Wc) (g := Wc.heap.size + 1) (by omega)).next (w' := V1) (by (try go_split_ands); repeat (first | assumption | exact Below.refl _ _ | refine bel_one ?_ _ | refine bel_two ?_)) hf1
                       have hV1 : Below Wc.heap.size Wc V1 := (NewB.lit (wr := Wc) (g := Wc.heap.size + 1) (by omega)).bel (by (try go_split_ands); repeat (first | assumption | exact Below.refl _ _ | refine bel_one ?_ _ | refine bel_two ?_)) ht1)
                    | (refine step_chain (P := Try.prog) (t := 50) (e := 61) (k := 4) (by' := 40) Try.underlying50 info61 rfl (Nat.succ_pos 3) (Nat.le_of_ble_eq_true rfl) rfl (.tmp 48) (.tmp 50) rfl (b := b1) (n := 0 + S.length) (c := c1) (m := 1) (xs := [] ++ (mbFlat S).take (S.length * 4)) (ys := [.int .i64 xi, .int .i64 xs, .bool true, .string xy]) (sv := .slice (some ⟨V1.heap.size, 0, none⟩) 1 1) ?_ ?_ ?_ ?_ ?_ ?_
                       · simp [Act.eval, Act.put]
                       · simp [Act.eval, Act.put]
                       · exact hr1.below (bel_new _ _)
                       · exact SubV.one (T := 61) (vs := [.int .i64 xi, .int .i64 xs, .bool true, .string xy]) (by first | exact heap_new _ _ | exact hp_old _ _ _ _ (by simp) (heap_new _ _) | exact heap_alloc_at _ _ _ (by simp)) rfl (by simp [Value.oneCell'])
                       · omega
                       intro b2 c2 V2 hr2 ht2 hf2
                       have hn2 : NewB Wc b2 := hn1.next (w' := V2) (by (try go_split_ands); repeat (first | assumption | exact Below.refl _ _ | refine bel_one ?_ _ | refine bel_two ?_)) hf2
                       have hV2 : Below Wc.heap.size Wc V2 := hn1.bel (by (try go_split_ands); repeat (first | assumption | exact Below.refl _ _ | refine bel_one ?_ _ | refine bel_two ?_)) ht2)
                    | (refine step_chain (P := Try.prog) (t := 50) (e := 61) (k := 4) (by' := 40) Try.underlying50 info61 rfl (Nat.succ_pos 3) (Nat.le_of_ble_eq_true rfl) rfl (.tmp 48) (.tmp 50) rfl (b := b1) (n := 0 + S.length) (c := c1) (m := 1) (xs := [] ++ (mbFlat S).take (S.length * 4)) (ys := [.int .i64 xi, .int .i64 xs, .bool true, .string xy]) (sv := .slice (some ⟨Wc.heap.size + 1, 0, none⟩) 1 1) ?_ ?_ ?_ ?_ ?_ ?_
                       · simp [Act.eval, Act.put]
                       · simp [Act.eval, Act.put]
                       · exact hr1
                       · exact SubV.one (T := 61) (vs := [.int .i64 xi, .int .i64 xs, .bool true, .string xy]) (ht1.heap (by first | exact heap_new _ _ | exact hp_old _ _ _ _ (by simp) (heap_new _ _) | exact heap_alloc_at _ _ _ (by simp)) (by simp [blkOf])) rfl (by simp [Value.oneCell'])
                       · omega
                       intro b2 c2 V2 hr2 ht2 hf2
                       have hn2 : NewB Wc b2 := hn1.next (w' := V2) (by (try go_split_ands); repeat (first | assumption | exact Below.refl _ _ | refine bel_one ?_ _ | refine bel_two ?_)) hf2
                       have hV2 : Below Wc.heap.size Wc V2 := hn1.bel (by (try go_split_ands); repeat (first | assumption | exact Below.refl _ _ | refine bel_one ?_ _ | refine bel_two ?_)) ht2)
                    | (refine step_chain (P := Try.prog) (t := 50) (e := 61) (k := 4) (by' := 40) Try.underlying50 info61 rfl (Nat.succ_pos 3) (Nat.le_of_ble_eq_true rfl) rfl (.tmp 48) (.tmp 50) rfl (b := b1) (n := 0 + S.length) (c := c1) (m := 1) (xs := [] ++ (mbFlat S).take (S.length * 4)) (ys := [.int .i64 xi, .int .i64 xs, .bool true, .string xy]) (sv := .slice (some ⟨Wc.heap.size, 0, none⟩) 1 1) ?_ ?_ ?_ ?_ ?_ ?_
                       · simp [Act.eval, Act.put]
                       · simp [Act.eval, Act.put]
                       · exact hr1
                       · exact SubV.one (T := 61) (vs := [.int .i64 xi, .int .i64 xs, .bool true, .string xy]) (ht1.heap (by first | exact heap_new _ _ | exact hp_old _ _ _ _ (by simp) (heap_new _ _) | exact heap_alloc_at _ _ _ (by simp)) (by simp [blkOf])) rfl (by simp [Value.oneCell'])
                       · omega
                       intro b2 c2 V2 hr2 ht2 hf2
                       have hn2 : NewB Wc b2 := hn1.next (w' := V2) (by (try go_split_ands); repeat (first | assumption | exact Below.refl _ _ | refine bel_one ?_ _ | refine bel_two ?_)) hf2
                       have hV2 : Below Wc.heap.size Wc V2 := hn1.bel (by (try go_split_ands); repeat (first | assumption | exact Below.refl _ _ | refine bel_one ?_ _ | refine bel_two ?_)) ht2)
                    | (refine step_chain (P := Try.prog) (t := 50) (e := 61) (k := 4) (by' := 40) Try.underlying50 info61 rfl (Nat.succ_pos 3) (Nat.le_of_ble_eq_true rfl) rfl (.tmp 51) (.tmp 54) rfl (b := b2) (n := 0 + S.length + 1) (c := c2) (m := 0) (xs := [] ++ (mbFlat S).take (S.length * 4) ++ [.int .i64 xi, .int .i64 xs, .bool true, .string xy]) (ys := []) (sv := .slice (some ⟨gs, S.length * 4, none⟩) 0 (c - S.length)) ?_ ?_ ?_ ?_ ?_ ?_
                       · simp [Act.eval, Act.put]
                       · simp [Act.eval, Act.put]
                       · exact hr2
                       · exact SUB2.out.below (by (try go_split_ands); repeat (first | assumption | exact Below.refl _ _ | refine bel_one ?_ _ | refine bel_two ?_))
                       · omega
                       intro b3 c3 V3 hr3 ht3 hf3
                       have hn3 : NewB Wc b3 := hn2.next (w' := V3) (by (try go_split_ands); repeat (first | assumption | exact Below.refl _ _ | refine bel_one ?_ _ | refine bel_two ?_)) hf3
                       have hV3 : Below Wc.heap.size Wc V3 := hn2.bel (by (try go_split_ands); repeat (first | assumption | exact Below.refl _ _ | refine bel_one ?_ _ | refine bel_two ?_)) ht3))
                all_goals
                  have HFF := Lib.hid (HW3.out b3 c3 V3 (by simpa only [Nat.zero_add, Nat.add_zero] using hr3) hn3 hV3)
                  clear hr3 hn3 hV3
                  go_wp2_with fail
                  go_roundw
                  case rel => exact ⟨k + 1, by omega, by go_num, HFF⟩
                  case measure => simp [intOf]; omega
      · have hor : xw = false ∨ (xw = true ∧ (xy.toList == key.toList) = false) := by
          cases xw with
          | false => exact .inl rfl
          | true => exact .inr ⟨rfl, by simpa using hq⟩
        have HFF : Hid (WRow w M key (k + 1) (.slice a S.length c) (W1.alloc (.cells #[.int .i64 xi, .int .i64 xs, .bool xw, .string xy] 61))) := Lib.hid ⟨S, a, c, rfl, HSK.out hq, ROW.out.below (bel_new _ _), NB.out, bel_one HB.out _⟩
        clear HPUT HSK hq
        rcases hor with rfl | ⟨rfl, hq2⟩
        all_goals
          go_wp2_with fail
          go_roundw
          case rel => exact ⟨k + 1, by omega, by go_num, HFF⟩
          case measure => simp [intOf]; omega
    · obtain rfl : k = n := by omega
      have HF2 := Lib.hid fun v w3 (hnr : NewRow 3 1 W1 (idsFlat (S.take S.length)) (S.take S.length).length v w3) => HFIN.out S v W1 w3 INS.out HB.out (by rw [List.take_length] at hnr; exact hnr)
      clear HFIN hb
      go_wp2_with fail
      go_loopw [9, 59] (fun v j wr => ∃ k : Nat, k ≤ S.length ∧ j = .int .i64 k ∧ Hid (NewRow 3 1 W1 (idsFlat (S.take k)) (S.take k).length v wr)) (fun _ j _ => S.length - (intOf j).toNat)
      case atStart => exact ⟨0, Nat.zero_le _, rfl, Lib.hid (NewRow.nil _ _ W1)⟩
      case round =>
        obtain ⟨k2, hk2, rfl, hrl⟩ := hrel
        by_cases hlt2 : k2 < S.length
        · obtain ⟨ao, co, rfl, hrow, hb, hf⟩ := hrl.out
          obtain ⟨g, rfl, hcs⟩ := mbAt_row ROW.out k2 hlt2
          obtain ⟨hx0, hx1, hx2, hx3⟩ := hcs.below hb
          have hol : (S.take k2).length ≤ 100000 := by rw [List.length_take]; omega
          have HFT := Lib.hid (idsFlat_take S k2 hlt2)
          have HLT : Hid ((S.take (k2 + 1)).length = (S.take k2).length + 1) := Lib.hid (by rw [List.length_take, List.length_take]; omega)
          have HNR := Lib.hid (NewRow.below hrl.out (bel_new wr (.cells #[.int .i64 S[k2].id, .int .i64 S[k2].stamp, .bool S[k2].waits, .string S[k2].key] 61)))
          have HAP := Lib.hid (HNR.out.app (P := Try.prog) Try.underlying40 info3 (z0 := .int .i64 0) rfl (by decide) [.int .i64 S[k2].id] rfl (by simp [Value.oneCell']) (by omega) (by decide) 40)
          rw [show (wr.alloc (.cells #[.int .i64 S[k2].id, .int .i64 S[k2].stamp, .bool S[k2].waits, .string S[k2].key] 61)).heap.size = wr.heap.size + 1 by simp] at HAP
          obtain ⟨b', cap', w4, hrun, hnr⟩ := HAP.out
          have HRUN := Lib.hid hrun
          have HNX : Hid (NewRow 3 1 W1 (idsFlat (S.take (k2 + 1))) (S.take (k2 + 1)).length (.slice b' ((S.take k2).length + 1) cap') w4) := Lib.hid (by rw [HFT.out, HLT.out]; exact hnr)
          clear hrl hrow hb hf hcs hrun hnr HAP HNR HFT
          generalize S[k2] = t at *
          obtain ⟨zid, zstamp, zwaits, zkey⟩ := t
          simp only at hx0 hx1 hx2 hx3 HRUN
          generalize hm : (S.take k2).length = m at *
          clear hm
          clear HLT
          go_wp2_with ((at_builtin; refine wpList_appendR _ rfl (.tmp 63) (.tmp 66) 40 40 rfl (.slice ao m co) (.slice (some ⟨wr.heap.size + 1, 0, none⟩) 1 1) rfl rfl HRUN.out ?_))
          go_roundw
          case rel => exact ⟨k2 + 1, by omega, by go_num, HNX⟩
          case measure => simp [intOf]; omega
        · obtain rfl : k2 = S.length := by omega
          have HFN := Lib.hid (HF2.out _ _ hrl.out)
          clear hrl
          go_wp2_with fail
          exact HFN.out
end Go.Proofs.Ytlmfpkfgjfdhgaa
