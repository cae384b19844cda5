/- The document's Order, walked. -/
import Derived.Test.YtbgabdofnmijnaaAQ
import Derived.Deep.RegionHeld3
namespace Go.Proofs.Ytbgabdofnmijnaa
open Go.RowKit
def OrdQAt (w : World) (R : Option (List Int)) (Q : Int → Int → Bool) (la : Option Addr) (ln ld : Nat) (oa : Option Addr) (on od : Nat) (wr : World) : Prop :=
  ∃ left out, ln = left.length ∧ on = out.length ∧ R = (ordQ Q left).map (out ++ ·) ∧ Mem w [] wr [RowI la ld left, RowI oa od out]
/-- what is picked, of the first i. -/
def PickAt (Q : Int → Int → Bool) (left : List Int) (i : Nat) (pk : Int) : Prop :=
  (pk = -1 ∧ ∀ j (h : j < left.length), j < i → freeQ Q left left.length left[j] = false) ∨ ∃ p : Nat, ∃ hp : p < left.length, p < i ∧ pk = (p : Int) ∧ (∀ j (h : j < left.length), j < p → freeQ Q left left.length left[j] = false) ∧ freeQ Q left left.length left[p] = true
theorem PickAt.next {Q : Int → Int → Bool} {left : List Int} {i : Nat} {pk : Int} (h : PickAt Q left i pk) (hi : i < left.length) (hf : (freeQ Q left left.length left[i] && decide (pk < 0)) = false) : PickAt Q left (i + 1) pk := by
  rcases h with ⟨rfl, h⟩ | ⟨p, hp, hpi, rfl, h1, h2⟩
  · refine .inl ⟨rfl, fun j hj hji => ?_⟩
    by_cases e : j = i
    · subst e; simpa using hf
    · exact h j hj (by omega)
  · exact .inr ⟨p, hp, by omega, rfl, h1, h2⟩
theorem PickAt.now {Q : Int → Int → Bool} {left : List Int} {i : Nat} {pk : Int} (h : PickAt Q left i pk) (hi : i < left.length) (h1 : freeQ Q left left.length left[i] = true) (h2 : pk < 0) : PickAt Q left (i + 1) (i : Int) := by
  rcases h with ⟨rfl, h⟩ | ⟨p, hp, hpi, rfl, _, _⟩
  · exact .inr ⟨i, hi, by omega, rfl, h, h1⟩
  · omega
def lenV : Value → Nat
  | .slice _ n _ => n
  | _ => 0
theorem ordQ_nil (Q : Int → Int → Bool) : ordQ Q [] = some [] := rfl
set_option maxRecDepth 100000 in
set_option maxHeartbeats 16000000 in
theorem rorder_any (a : Option Addr) (n c : Nat) (l : List Mk) (w : World) (h : MksAt w a n l) (hn : n ≤ 300) (hnc : n ≤ c) (hR : RightP l) : Calls Try.prog 19 #[.slice a n c] w fun e w' => ∃ b d O ok, e = .returned (.tuple #[.slice b O.length d, .bool ok]) ∧ IsOrd (ordQ (edgeQ l) (allM l)) O ok ∧ Made w (RowI b d O) w' := by
  have HA := Lib.hid (rall_any a n c l w h (by omega) hnc hR)
  have HEG := Lib.hid fun p q W (hb : Below w.heap.size w W) => redge_is a n c l p q W (h.below hb) (by omega) hnc hR
  have hAl : (allM l).length ≤ 300 := by have := allM_len l; have := h.1; omega
  clear h hR
  generalize edgeQ l = Q at *
  generalize allM l = A at *
  have HF : Hid (∀ b d O ok w', IsOrd (ordQ Q A) O ok → Made w (RowI b d O) w' → ∃ b' d' O' ok', Ending.returned (.tuple #[.slice b O.length d, .bool ok]) = .returned (.tuple #[.slice b' O'.length d', .bool ok']) ∧ IsOrd (ordQ Q A) O' ok' ∧ Made w (RowI b' d' O') w') := Lib.hid fun b d O ok w' h1 h2 => ⟨b, d, O, ok, rfl, h1, h2⟩
  go_enter Try.func19, Try.ntmps19
  go_wp2_with fail
  refine HA.out.mono ?_
  rintro e w1 ⟨la, ld, rfl, hm1⟩
  have H0 : Hid (OrdQAt w (ordQ Q A) Q la A.length ld none 0 0 w1) := Lib.hid ⟨A, [], rfl, rfl, by cases ordQ Q A <;> simp, by
    have h1 : Mem w [] w1 ([RowI la ld A] ++ [RowI none 0 []]) := Mem.swap [] (r := []) (hm1.mem.new (Below.refl _ _) (As := [RowI none 0 []]) (all_one ⟨rfl, Row.nil _ _ _⟩) (by simp [blkOf]))
    exact h1⟩
  clear hm1
  generalize A.length = n0 at *
  go_wp2_with fail
  go_loopw [4, 5] (fun v4 v5 wr => ∃ la ln ld oa on od, v4 = .slice la ln ld ∧ v5 = .slice oa on od ∧ ln + on ≤ 300 ∧ Hid (OrdQAt w (ordQ Q A) Q la ln ld oa on od wr)) (fun v4 _ _ => lenV v4)
  case atStart => exact ⟨_, _, _, _, 0, _, rfl, rfl, by omega, H0⟩
  case round =>
    obtain ⟨W1, rfl⟩ : ∃ W1, W1 = wr := ⟨_, rfl⟩
    obtain ⟨la, ln, ld, oa, on, od, rfl, rfl, hlo, HS⟩ := hrel
    clear H0
    obtain ⟨left, out, hln, hon, hR, hm⟩ := HS.out
    have HLN := Lib.hid hln
    have HON := Lib.hid hon
    have HRR := Lib.hid hR
    have M1 := Lib.hid hm
    clear HS hln hon hR hm
    by_cases hz : ln = 0
    · subst hz
      have HX : Hid (IsOrd (ordQ Q A) out true ∧ Made w (RowI oa od out) W1) := Lib.hid (by
        obtain rfl : left = [] := List.length_eq_zero_iff.1 HLN.out.symm
        refine ⟨by rw [HRR.out, ordQ_nil]; exact ⟨by simp, rfl⟩, ?_⟩
        exact Mem.toMade (Mem.drop [] (A := RowI la ld []) (r := [RowI oa od out]) M1.out))
      have HX2 := Lib.hid (HF.out oa od out true W1 HX.out.1 HX.out.2)
      rw [← HON.out] at HX2
      clear M1 HX HRR HF HEG
      go_wp2_with fail
      go_ret2
      exact HX2.out
    · have hlnp : (0 : Int) < (ln : Int) := by omega
      have hlnN : 0 < ln := by omega
      go_wp2_with fail
      go_loopw [6, 19] (fun pv jv wr => ∃ i : Nat, ∃ pk : Int, i ≤ ln ∧ jv = .int .i64 i ∧ pv = .int .i64 pk ∧ Hid (Below W1.heap.size W1 wr ∧ PickAt Q left i pk)) (fun _ jv _ => ln - (intOf jv).toNat)
      case atStart => exact ⟨0, -1, Nat.zero_le _, rfl, rfl, Lib.hid ⟨Below.refl _ _, .inl ⟨rfl, fun j _ h => absurd h (Nat.not_lt_zero _)⟩⟩⟩
      case round =>
        obtain ⟨W2, rfl⟩ : ∃ W2, W2 = wr := ⟨_, rfl⟩
        obtain ⟨i, pk, hi, rfl, rfl, HS⟩ := hrel
        have HB := Lib.hid HS.out.1
        have HP := Lib.hid HS.out.2
        clear HS
        by_cases hlt : i < ln
        · have hlt' : i < left.length := by rw [← HLN.out]; exact hlt
          have HCELL : Hid (∃ gl, la = some ⟨gl, 0, none⟩ ∧ ∀ W, Below W1.heap.size W1 W → ∀ j (hj : j < left.length), W.cell? ⟨gl, j, none⟩ = some (.int .i64 left[j])) := Lib.hid (by
            obtain ⟨gl, hgl, _⟩ := (Mem.rowAt [] (r := [RowI oa od out]) M1.out).cellAt i (by simpa [intsV] using hlt')
            refine ⟨gl, hgl, fun W hW j hj => ?_⟩
            obtain ⟨g2, hg2, hc⟩ := (Mem.rowAt [] (r := [RowI oa od out]) (M1.out.below hW)).cellAt j (by simpa [intsV] using hj)
            obtain rfl : gl = g2 := by rw [hgl] at hg2; simpa using hg2
            rw [hc]; simp [intsV])
          obtain ⟨gl, rfl, hcell⟩ := HCELL.out
          have HCL := Lib.hid hcell
          clear HCELL hcell
          have hci := HCL.out _ HB.out i hlt'
          have HNXT := Lib.hid (HP.out.next hlt')
          have HNOW := Lib.hid (HP.out.now hlt')
          generalize left[i] = y at *
          go_wp2_with fail
          go_loopw [9, 26] (fun fv jv wr => ∃ k : Nat, k ≤ ln ∧ jv = .int .i64 k ∧ fv = .bool (freeQ Q left k y) ∧ Hid (Below W1.heap.size W1 wr)) (fun _ jv _ => ln - (intOf jv).toNat)
          case atStart => exact ⟨0, Nat.zero_le _, rfl, rfl, HB⟩
          case round =>
            obtain ⟨W3, rfl⟩ : ∃ W3, W3 = wr := ⟨_, rfl⟩
            obtain ⟨k, hk, rfl, rfl, HB3⟩ := hrel
            clear HB hci
            by_cases hlk : k < ln
            · have hlk' : k < left.length := by rw [← HLN.out]; exact hlk
              have hck := HCL.out _ HB3.out k hlk'
              have HU := Lib.hid (freeQ_succ Q left k y hlk')
              have HE1 := Lib.hid (HEG.out left[k] y W3 (M1.out.below HB3.out).bel)
              generalize left[k] = z at *
              cases hfk : freeQ Q left k y with
              | false =>
                have HX : Hid (false = freeQ Q left (k + 1) y) := Lib.hid (by rw [HU.out, hfk]; rfl)
                clear HU HE1
                go_wp2_with fail
                go_roundw
                case rel => exact ⟨k + 1, by omega, by go_num, by rw [← HX.out], HB3⟩
                case measure => simp [intOf]; omega
              | true =>
                have HX : Hid ((!Q z y) = freeQ Q left (k + 1) y) := Lib.hid (by rw [HU.out, hfk]; rfl)
                clear HU
                generalize Q z y = qv at *
                go_wp2_with fail
                refine HE1.out.mono ?_
                rintro e w4 ⟨rfl, hb4⟩
                have HB4 := Lib.hid (HB3.out.trans (hb4.mono HB3.out.size))
                clear hb4 HE1 HB3
                go_wp2_with fail
                go_roundw
                case rel => exact ⟨k + 1, by omega, by go_num, by rw [← HX.out], HB4⟩
                case measure => simp [intOf]; omega
            · obtain rfl : k = ln := by omega
              have HFE : Hid (freeQ Q left k y = freeQ Q left left.length y) := Lib.hid (by rw [← HLN.out])
              rw [← HFE.out] at HNXT HNOW
              clear HFE
              cases hfk : freeQ Q left k y with
              | false =>
                have HX := Lib.hid (And.intro HB3.out (HNXT.out (by rw [hfk]; rfl)))
                clear HNXT HNOW HB3
                go_wp2_with fail
                go_roundw
                case rel => exact ⟨i + 1, pk, by omega, by go_num, rfl, HX⟩
                case measure => simp [intOf]; omega
              | true =>
                by_cases hpk : pk < 0
                · have hd : decide (pk < 0) = true := decide_eq_true hpk
                  have HX := Lib.hid (And.intro HB3.out (HNOW.out hfk hpk))
                  clear HNXT HNOW HB3
                  go_wp2_with fail
                  go_roundw
                  case rel => exact ⟨i + 1, (i : Int), by omega, by go_num, rfl, HX⟩
                  case measure => simp [intOf]; omega
                · have hd : decide (pk < 0) = false := decide_eq_false hpk
                  have HX := Lib.hid (And.intro HB3.out (HNXT.out (by rw [hfk, hd]; rfl)))
                  clear HNXT HNOW HB3
                  go_wp2_with fail
                  go_roundw
                  case rel => exact ⟨i + 1, pk, by omega, by go_num, rfl, HX⟩
                  case measure => simp [intOf]; omega
        · obtain rfl : i = ln := by omega
          rcases HP.out with ⟨rfl, hall⟩ | ⟨p, hp, hpi, rfl, hbef, hfree⟩
          · have HX : Hid (IsOrd (ordQ Q A) [] false ∧ Made w (RowI none 0 []) W2) := Lib.hid (by
              have h0 : left ≠ [] := by intro e; subst e; exact hz HLN.out
              refine ⟨by rw [HRR.out, ordQ_none h0 fun j hj => hall j hj (by rw [HLN.out]; exact hj)]; exact ⟨rfl, rfl⟩, [], ⟨rfl, Row.nil _ _ _⟩, by simp, (M1.out.below HB.out).bel⟩)
            have HX2 := Lib.hid (HF.out none 0 [] false W2 HX.out.1 HX.out.2)
            clear hall HX HF M1 HB HP HRR HEG
            go_wp2_with fail
            go_ret2
            exact HX2.out
          · have hpl : p < i := hpi
            have HALL : Hid (ordQ Q A = (ordQ Q (left.eraseIdx p)).map ((out ++ [left[p]]) ++ ·)) := Lib.hid (by
              rw [HRR.out, ordQ_some hp hbef hfree, Option.map_map]
              congr 1
              funext P
              simp)
            have HEL : Hid ((left.eraseIdx p).length = i - 1) := Lib.hid (by rw [List.length_eraseIdx, ← HLN.out]; simp [hpl])
            obtain ⟨gl, rfl, hcp⟩ := (Mem.rowAt [] (r := [RowI oa od out]) (M1.out.below HB.out)).cellAt p (by simpa [intsV] using hp)
            rw [show (intsV left)[p]'(by simpa [intsV] using hp) = .int .i64 left[p] by simp [intsV]] at hcp
            have MB := M1.out.below HB.out
            rw [show RowI (some ⟨gl, 0, none⟩) ld left = RowA 3 1 (some ⟨gl, 0, none⟩) i ld (intsV left) by unfold RowI; rw [← HLN.out]] at MB
            have MBH := Lib.hid MB
            clear MB M1 HB HP HRR hbef hfree HEG HF
            generalize left[p] = x at *
            have HRN := HALL
            have hpz : (0 : Int) ≤ (p : Int) := by omega
            have hpn : (p : Int) < (i : Int) := by omega
            have hdp : decide ((p : Int) < 0) = false := by simp
            obtain ⟨b4, d4, Wc, hrun4, mB⟩ := Mem.app1 (P := Try.prog) (t := 29) (ty := 29) [RowA 3 1 (some ⟨gl, 0, none⟩) i ld (intsV left)] (r := []) (a := oa) (n := out.length) (c := od) (xs := intsV out) Try.underlying29 infoInt (by rfl) (by decide) MBH.out [.int .i64 x] (by rfl) (by simp [Value.oneCell']) (by rw [← HON.out]; omega) (by decide)
            rw [← HON.out] at hrun4
            have HRUN := Lib.hid hrun4
            have MC : Hid (Mem w [] Wc ([] ++ RowA 3 1 (some ⟨gl, 0, none⟩) i ld (intsV left) :: [RowI b4 d4 (out ++ [x])])) := Lib.hid (by rw [← rowI_app b4 d4 out x]; exact mB)
            have ROW := Lib.hid (Mem.rowAt [] MC.out)
            clear MBH hrun4 mB
            go_wp2_with ((at_builtin; refine wpList_appendR _ rfl (.tmp 48) (.tmp 53) 29 29 rfl (.slice oa on od) (.slice (some ⟨W2.heap.size, 0, none⟩) 1 1) rfl rfl HRUN.out ?_))
            have hlc : i ≤ ld := by
              rcases ROW.out.out with ⟨e, _⟩ | ⟨_, _, _, _, h1, _⟩
              · cases e
              · exact h1
            have hpc : (p : Int) ≤ (ld : Int) := by omega
            have hpc1 : p + 1 ≤ ld := by omega
            have hpc2 : (p : Int) ≤ (p : Int) + 1 := by omega
            have hpc3 : (p : Int) + 1 ≤ (i : Int) := by omega
            have hpc4 : (p : Int) + 1 ≤ (ld : Int) := by omega
            have hpc5 : (0 : Int) ≤ (p : Int) + 1 := by omega
            have hpc6 : p + 1 ≤ i := hpl
            have hpc7 : (i : Int) ≤ (ld : Int) := by omega
            have hwk : IntKind.i64.wrap ((p : Int) + 1) = (p : Int) + 1 := IntWalk.i64_in _ (by omega)
            clear HRUN hcp
            by_cases hcc : ld = p + 1
            · obtain rfl : i = p + 1 := by omega
              subst hcc
              have HSC := Lib.hid fun W (hW : Below Wc.heap.size Wc W) => hW
              have SUB1 : Hid (SubV Wc 1 (.slice (some ⟨gl, 0, none⟩) p (p + 1)) p ((intsV left).take (p * 1))) := Lib.hid (SubV.upto ROW.out (by simp [intsV, Value.oneCell']) (by omega))
              have SUB2 : Hid (SubV Wc 1 (.slice (some ⟨gl, 0, none⟩) 0 0) 0 ([])) := Lib.hid (SubV.zero)
              have HW3 : Hid (∀ b3 c3 V3, Row V3 3 1 b3 (p) c3 ([] ++ (intsV left).take (p * 1) ++ []) → NewB Wc b3 → Below Wc.heap.size Wc V3 → OrdQAt w (ordQ Q A) Q b3 (p) c3 b4 (on + 1) d4 V3) := Lib.hid fun b3 c3 V3 hr3 hn3 hV3 => by
                have e1 : p = (left.eraseIdx p).length := by have hel := HEL.out; omega
                have e2 : ([] ++ (intsV left).take (p * 1) ++ []) = intsV (left.eraseIdx p) := by have hll := HLN.out; rw [List.eraseIdx_eq_take_drop_succ]; simp [intsV] <;> omega
                rw [e2] at hr3
                refine ⟨left.eraseIdx p, out ++ [x], e1, by rw [List.length_append, ← HON.out]; rfl, HRN.out, ?_⟩
                have h5 := Mem.drop [] (A := RowA 3 1 (some ⟨gl, 0, none⟩) (p + 1) (p + 1) (intsV left)) (r := [RowI b4 d4 (out ++ [x])]) MC.out
                have hr4 : Row V3 3 1 b3 (left.eraseIdx p).length c3 (intsV (left.eraseIdx p)) := by rw [← e1]; exact hr3
                exact h5.new hV3 (As := [RowI b3 c3 (left.eraseIdx p)]) (all_one ⟨rfl, hr4⟩) hn3
              clear HALL MC HRN HEL HON ROW HLN
              go_wp2_with fail
              go_region_held3 (fun W => Below Wc.heap.size Wc W)
                ((exact HSC.out _ (by (try go_split_ands); repeat (first | assumption | exact Below.refl _ _ | refine bel_one ?_ _ | refine bel_two ?_))))
                (first
                  | (refine step_chain (P := Try.prog) (t := 29) (e := 3) (k := 1) (by' := 8) Try.underlying29 infoInt rfl (Nat.succ_pos 0) (Nat.le_of_ble_eq_true rfl) rfl (.tmp 55) (.tmp 58) rfl (b := some ⟨Wc.heap.size, 0, none⟩) (n := 0) (c := 0) (m := p) (xs := []) (ys := (intsV left).take (p * 1)) (sv := .slice (some ⟨gl, 0, none⟩) p (p + 1)) ?_ ?_ ?_ ?_ ?_ ?_
                     · simp [Act.eval, Act.put]
                     · simp [Act.eval, Act.put]
                     · exact row_empty (by first | exact heap_new _ _ | exact hp_old _ _ _ _ (by simp) (heap_new _ _) | exact heap_alloc_at _ _ _ (by simp))
                     · exact SUB1.out.below (by (try go_split_ands); repeat (first | assumption | exact Below.refl _ _ | refine bel_one ?_ _ | refine bel_two ?_))
                     · omega
                     intro b1 c1 V1 hr1 ht1 hf1
                     have hn1 : NewB Wc b1 := (NewB.lit (wr := Wc) (g := Wc.heap.size) (by omega)).next (_w' := V1) (by (try go_split_ands); repeat (first | assumption | exact Below.refl _ _ | refine bel_one ?_ _ | refine bel_two ?_)) hf1
                     have hV1 : Below Wc.heap.size Wc V1 := (NewB.lit (wr := Wc) (g := Wc.heap.size) (by omega)).bel (by (try go_split_ands); repeat (first | assumption | exact Below.refl _ _ | refine bel_one ?_ _ | refine bel_two ?_)) ht1)
                  | (refine step_chain (P := Try.prog) (t := 29) (e := 3) (k := 1) (by' := 8) Try.underlying29 infoInt rfl (Nat.succ_pos 0) (Nat.le_of_ble_eq_true rfl) rfl (.tmp 55) (.tmp 58) rfl (b := some ⟨Wc.heap.size + 1, 0, none⟩) (n := 0) (c := 0) (m := p) (xs := []) (ys := (intsV left).take (p * 1)) (sv := .slice (some ⟨gl, 0, none⟩) p (p + 1)) ?_ ?_ ?_ ?_ ?_ ?_
                     · simp [Act.eval, Act.put]
                     · simp [Act.eval, Act.put]
                     · exact row_empty (by first | exact heap_new _ _ | exact hp_old _ _ _ _ (by simp) (heap_new _ _) | exact heap_alloc_at _ _ _ (by simp))
                     · exact SUB1.out.below (by (try go_split_ands); repeat (first | assumption | exact Below.refl _ _ | refine bel_one ?_ _ | refine bel_two ?_))
                     · omega
                     intro b1 c1 V1 hr1 ht1 hf1
                     have hn1 : NewB Wc b1 := (NewB.lit (wr := Wc) (g := Wc.heap.size + 1) (by omega)).next (_w' := V1) (by (try go_split_ands); repeat (first | assumption | exact Below.refl _ _ | refine bel_one ?_ _ | refine bel_two ?_)) hf1
                     have hV1 : Below Wc.heap.size Wc V1 := (NewB.lit (wr := Wc) (g := Wc.heap.size + 1) (by omega)).bel (by (try go_split_ands); repeat (first | assumption | exact Below.refl _ _ | refine bel_one ?_ _ | refine bel_two ?_)) ht1)
                  | (refine step_chain (P := Try.prog) (t := 29) (e := 3) (k := 1) (by' := 8) Try.underlying29 infoInt rfl (Nat.succ_pos 0) (Nat.le_of_ble_eq_true rfl) rfl (.tmp 59) (.tmp 63) rfl (b := b1) (n := 0 + p) (c := c1) (m := 0) (xs := [] ++ (intsV left).take (p * 1)) (ys := []) (sv := .slice (some ⟨gl, 0, none⟩) 0 0) ?_ ?_ ?_ ?_ ?_ ?_
                     · simp [Act.eval, Act.put]
                     · simp [Act.eval, Act.put]
                     · exact hr1
                     · exact SUB2.out.below (by (try go_split_ands); repeat (first | assumption | exact Below.refl _ _ | refine bel_one ?_ _ | refine bel_two ?_))
                     · omega
                     intro b3 c3 V3 hr3 ht3 hf3
                     have hn3 : NewB Wc b3 := hn1.next (_w' := V3) (by (try go_split_ands); repeat (first | assumption | exact Below.refl _ _ | refine bel_one ?_ _ | refine bel_two ?_)) hf3
                     have hV3 : Below Wc.heap.size Wc V3 := hn1.bel (by (try go_split_ands); repeat (first | assumption | exact Below.refl _ _ | refine bel_one ?_ _ | refine bel_two ?_)) ht3))
              all_goals
                have HFF := Lib.hid (HW3.out b3 c3 V3 (by simpa only [Nat.zero_add, Nat.add_zero] using hr3) hn3 hV3)
                clear hr3 hn3 hV3
                go_wp2_with fail
                go_roundw
                case rel => exact ⟨_, _, _, _, on + 1, _, rfl, rfl, by omega, HFF⟩
                case measure => simp [lenV] <;> omega
            · have hne : ¬ p + 1 = ld := by omega
              have hne2 : ¬ ld = p + 1 := hcc
              have HSC := Lib.hid fun W (hW : Below Wc.heap.size Wc W) => hW
              have SUB1 : Hid (SubV Wc 1 (.slice (some ⟨gl, 0, none⟩) p ld) p ((intsV left).take (p * 1))) := Lib.hid (SubV.upto ROW.out (by simp [intsV, Value.oneCell']) (by omega))
              have SUB2 : Hid (SubV Wc 1 (.slice (some ⟨gl, (p + 1) * 1, none⟩) (i - (p + 1)) (ld - (p + 1))) (i - (p + 1)) ((intsV left).drop ((p + 1) * 1))) := Lib.hid (SubV.behind ROW.out (by simp [intsV, Value.oneCell']) (by omega) _)
              have HW3 : Hid (∀ b3 c3 V3, Row V3 3 1 b3 (p + (i - (p + 1))) c3 ([] ++ (intsV left).take (p * 1) ++ (intsV left).drop ((p + 1) * 1)) → NewB Wc b3 → Below Wc.heap.size Wc V3 → OrdQAt w (ordQ Q A) Q b3 (p + (i - (p + 1))) c3 b4 (on + 1) d4 V3) := Lib.hid fun b3 c3 V3 hr3 hn3 hV3 => by
                have e1 : p + (i - (p + 1)) = (left.eraseIdx p).length := by have hel := HEL.out; omega
                have e2 : ([] ++ (intsV left).take (p * 1) ++ (intsV left).drop ((p + 1) * 1)) = intsV (left.eraseIdx p) := by have hll := HLN.out; rw [List.eraseIdx_eq_take_drop_succ]; simp [intsV] <;> omega
                rw [e2] at hr3
                refine ⟨left.eraseIdx p, out ++ [x], e1, by rw [List.length_append, ← HON.out]; rfl, HRN.out, ?_⟩
                have h5 := Mem.drop [] (A := RowA 3 1 (some ⟨gl, 0, none⟩) i ld (intsV left)) (r := [RowI b4 d4 (out ++ [x])]) MC.out
                have hr4 : Row V3 3 1 b3 (left.eraseIdx p).length c3 (intsV (left.eraseIdx p)) := by rw [← e1]; exact hr3
                exact h5.new hV3 (As := [RowI b3 c3 (left.eraseIdx p)]) (all_one ⟨rfl, hr4⟩) hn3
              clear HALL MC HRN HEL HON ROW HLN
              go_wp2_with fail
              go_region_held3 (fun W => Below Wc.heap.size Wc W)
                ((exact HSC.out _ (by (try go_split_ands); repeat (first | assumption | exact Below.refl _ _ | refine bel_one ?_ _ | refine bel_two ?_))))
                (first
                  | (refine step_chain (P := Try.prog) (t := 29) (e := 3) (k := 1) (by' := 8) Try.underlying29 infoInt rfl (Nat.succ_pos 0) (Nat.le_of_ble_eq_true rfl) rfl (.tmp 55) (.tmp 58) rfl (b := some ⟨Wc.heap.size, 0, none⟩) (n := 0) (c := 0) (m := p) (xs := []) (ys := (intsV left).take (p * 1)) (sv := .slice (some ⟨gl, 0, none⟩) p ld) ?_ ?_ ?_ ?_ ?_ ?_
                     · simp [Act.eval, Act.put]
                     · simp [Act.eval, Act.put]
                     · exact row_empty (by first | exact heap_new _ _ | exact hp_old _ _ _ _ (by simp) (heap_new _ _) | exact heap_alloc_at _ _ _ (by simp))
                     · exact SUB1.out.below (by (try go_split_ands); repeat (first | assumption | exact Below.refl _ _ | refine bel_one ?_ _ | refine bel_two ?_))
                     · omega
                     intro b1 c1 V1 hr1 ht1 hf1
                     have hn1 : NewB Wc b1 := (NewB.lit (wr := Wc) (g := Wc.heap.size) (by omega)).next (_w' := V1) (by (try go_split_ands); repeat (first | assumption | exact Below.refl _ _ | refine bel_one ?_ _ | refine bel_two ?_)) hf1
                     have hV1 : Below Wc.heap.size Wc V1 := (NewB.lit (wr := Wc) (g := Wc.heap.size) (by omega)).bel (by (try go_split_ands); repeat (first | assumption | exact Below.refl _ _ | refine bel_one ?_ _ | refine bel_two ?_)) ht1)
                  | (refine step_chain (P := Try.prog) (t := 29) (e := 3) (k := 1) (by' := 8) Try.underlying29 infoInt rfl (Nat.succ_pos 0) (Nat.le_of_ble_eq_true rfl) rfl (.tmp 55) (.tmp 58) rfl (b := some ⟨Wc.heap.size + 1, 0, none⟩) (n := 0) (c := 0) (m := p) (xs := []) (ys := (intsV left).take (p * 1)) (sv := .slice (some ⟨gl, 0, none⟩) p ld) ?_ ?_ ?_ ?_ ?_ ?_
                     · simp [Act.eval, Act.put]
                     · simp [Act.eval, Act.put]
                     · exact row_empty (by first | exact heap_new _ _ | exact hp_old _ _ _ _ (by simp) (heap_new _ _) | exact heap_alloc_at _ _ _ (by simp))
                     · exact SUB1.out.below (by (try go_split_ands); repeat (first | assumption | exact Below.refl _ _ | refine bel_one ?_ _ | refine bel_two ?_))
                     · omega
                     intro b1 c1 V1 hr1 ht1 hf1
                     have hn1 : NewB Wc b1 := (NewB.lit (wr := Wc) (g := Wc.heap.size + 1) (by omega)).next (_w' := V1) (by (try go_split_ands); repeat (first | assumption | exact Below.refl _ _ | refine bel_one ?_ _ | refine bel_two ?_)) hf1
                     have hV1 : Below Wc.heap.size Wc V1 := (NewB.lit (wr := Wc) (g := Wc.heap.size + 1) (by omega)).bel (by (try go_split_ands); repeat (first | assumption | exact Below.refl _ _ | refine bel_one ?_ _ | refine bel_two ?_)) ht1)
                  | (refine step_chain (P := Try.prog) (t := 29) (e := 3) (k := 1) (by' := 8) Try.underlying29 infoInt rfl (Nat.succ_pos 0) (Nat.le_of_ble_eq_true rfl) rfl (.tmp 59) (.tmp 63) rfl (b := b1) (n := 0 + p) (c := c1) (m := (i - (p + 1))) (xs := [] ++ (intsV left).take (p * 1)) (ys := (intsV left).drop ((p + 1) * 1)) (sv := .slice (some ⟨gl, (p + 1) * 1, none⟩) (i - (p + 1)) (ld - (p + 1))) ?_ ?_ ?_ ?_ ?_ ?_
                     · simp [Act.eval, Act.put]
                     · simp [Act.eval, Act.put]
                     · exact hr1
                     · exact SUB2.out.below (by (try go_split_ands); repeat (first | assumption | exact Below.refl _ _ | refine bel_one ?_ _ | refine bel_two ?_))
                     · omega
                     intro b3 c3 V3 hr3 ht3 hf3
                     have hn3 : NewB Wc b3 := hn1.next (_w' := V3) (by (try go_split_ands); repeat (first | assumption | exact Below.refl _ _ | refine bel_one ?_ _ | refine bel_two ?_)) hf3
                     have hV3 : Below Wc.heap.size Wc V3 := hn1.bel (by (try go_split_ands); repeat (first | assumption | exact Below.refl _ _ | refine bel_one ?_ _ | refine bel_two ?_)) ht3))
              all_goals
                have HFF := Lib.hid (HW3.out b3 c3 V3 (by simpa only [Nat.zero_add, Nat.add_zero] using hr3) hn3 hV3)
                clear hr3 hn3 hV3
                go_wp2_with fail
                go_roundw
                case rel => exact ⟨_, _, _, _, on + 1, _, rfl, rfl, by omega, HFF⟩
                case measure => simp [lenV] <;> omega
end Go.Proofs.Ytbgabdofnmijnaa
