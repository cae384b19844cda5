/- ScheduleTells walked. -/
import Derived.Test.YtbgabdofnmijnaaAR
import Derived.Test.YtbgabdofnmijnaaAA
import Derived.Test.YtbgabdofnmijnaaAF
import Derived.Test.YtbgabdofnmijnaaAL
namespace Go.Proofs.Ytbgabdofnmijnaa
open Go.RowKit
theorem isOrd_same {R : Option (List Int)} {O P : List Int} {a b : Bool} (h : IsOrd R O a) (k : IsOrd R P b) : O = P ∧ a = b := by
  unfold IsOrd at h k
  cases R with
  | none => obtain ⟨rfl, rfl⟩ := h; obtain ⟨rfl, rfl⟩ := k; exact ⟨rfl, rfl⟩
  | some Q => obtain ⟨rfl, rfl⟩ := h; obtain ⟨rfl, rfl⟩ := k; exact ⟨rfl, rfl⟩
theorem ordQGo_len (Q : Int → Int → Bool) : ∀ n l P, ordQGo Q n l = some P → P.length = l.length
  | n, [], P, h => by cases n <;> (simp only [ordQGo, Option.some.injEq] at h; subst h; rfl)
  | 0, x :: r, P, h => by cases h
  | n + 1, x :: r, P, h => by
    rw [ordQGo] at h
    split at h
    · cases h
    · rename_i i hi
      rw [List.findIdx?_eq_some_iff_getElem] at hi
      obtain ⟨hi, _⟩ := hi
      rw [Option.map_eq_some_iff] at h
      obtain ⟨P', h, rfl⟩ := h
      have := ordQGo_len Q n _ P' h
      rw [List.length_eraseIdx, if_pos hi] at this
      simp at this ⊢; omega
theorem isOrd_len {Q : Int → Int → Bool} {A O : List Int} {a : Bool} (h : IsOrd (ordQ Q A) O a) : O.length ≤ A.length := by
  unfold IsOrd at h
  cases hq : ordQ Q A with
  | none => rw [hq] at h; rw [h.1]; simp
  | some P => rw [hq] at h; rw [h.1]; exact Nat.le_of_eq (ordQGo_len Q _ _ _ hq)
/-- more things, as one. -/
def Bun (r : List Asn) : Asn := fun w D => All r w D
instance {r : List Asn} [h : Stables r] : Stable (Bun r) := ⟨fun h2 => allStable.lt h2, fun h2 hk => allStable.keep h2 hk⟩
theorem Mem.bun {w0 w : World} {D0 : List Nat} {A : Asn} {r : List Asn} (h : Mem w0 D0 w (A :: r)) : Mem w0 D0 w [A, Bun r] := by
  obtain ⟨D, ⟨D1, D2, e, hd, h1, h2⟩, hD⟩ := h.out
  exact ⟨D, ⟨D1, D2, e, hd, h1, D2, [], by simp, by simp, h2, rfl⟩, hD⟩
theorem Mem.unbun {w0 w : World} {D0 : List Nat} {A : Asn} {r : List Asn} (h : Mem w0 D0 w [A, Bun r]) : Mem w0 D0 w (A :: r) := by
  obtain ⟨D, ⟨D1, D2, e, hd, h1, D3, D4, e2, hd2, h2, e4⟩, hD⟩ := h.out
  have e4 : D4 = [] := e4
  subst e4
  rw [List.append_nil] at e2
  subst e2
  exact ⟨D, ⟨D1, D2, e, hd, h1, h2⟩, hD⟩
theorem egRow_len (l : List Mk) (A : List Int) (p : Int) (j : Nat) : (egRow l A p j).length ≤ A.length := by
  unfold egRow
  rw [List.length_map]
  refine Nat.le_trans (List.length_filter_le _ _) ?_
  rw [List.length_take]; omega
theorem egUp_len (l : List Mk) (A : List Int) : ∀ i, (egUp l A i).length ≤ i * A.length
  | 0 => by simp [egUp]
  | i + 1 => by
    by_cases h : i < A.length
    · have h1 := egUp_len l A i
      have h2 := egRow_len l A A[i] A.length
      rw [egUp_succ l A i h, List.length_append, Nat.add_mul]; omega
    · have h1 := egUp_len l A i
      have e : egUp l A (i + 1) = egUp l A i := by
        unfold egUp
        rw [List.take_of_length_le (by omega), List.take_of_length_le (by omega)]
      rw [e, Nat.add_mul]; omega
set_option maxRecDepth 100000 in
set_option maxHeartbeats 16000000 in
theorem tells_law (a : Option Addr) (n c : Nat) (l : List Mk) (w : World) (hn : n ≤ maxLen) (hnc : n ≤ c) (h : MksAt w a n l) :
    Calls Try.prog 3 #[.slice a n c] w fun e w' => e = .returned (.bool true) ∧ Below w.heap.size w w' := by
  have HF := Lib.hid (fixed_any w)
  have HFEW := Lib.hid fun w1 (hb : Below w.heap.size w w1) => few_any a n c l w1 hn (h.below hb)
  have HA := Lib.hid h
  have HL := Lib.hid h.1
  unfold maxLen at hn
  clear h
  cases hfew : fewM l with
  | false =>
    rw [hfew] at HFEW
    clear hfew
    go_enter Try.func3, Try.ntmps3
    go_wp2_with fail
    refine HF.out.mono ?_
    rintro e w1 ⟨rfl, hb⟩
    have HB := Lib.hid hb
    have HW := Lib.hid (HFEW.out _ hb)
    clear hb HFEW
    go_wp2_with fail
    refine HW.out.mono ?_
    rintro e w2 ⟨rfl, hb⟩
    have HB2 := Lib.hid (HB.out.trans (hb.mono HB.out.size))
    clear hb
    go_wp2_with fail
    go_ret
    exact ⟨rfl, HB2.out⟩
  | true =>
    have hn40 : n ≤ 40 := by rw [HL.out]; exact few_len hfew
    rw [hfew] at HFEW
    clear hfew
    have HRR := Lib.hid fun w1 (hb : Below w.heap.size w w1) => rright_any a n c l w1 (HA.out.below hb) (by omega) hnc
    have HRT := Lib.hid fun w1 (hb : Below w.heap.size w w1) => right_any a n c l w1 (HA.out.below hb) (by omega)
    have HC1 := Lib.hid fun w1 (hb : Below w.heap.size w w1) => rigor_any a n c l w1 (HA.out.below hb) (by omega) hnc
    have HC2 := Lib.hid fun w1 (hb : Below w.heap.size w w1) => strict_any a n c l w1 (HA.out.below hb) (by omega) hnc
    have HC3 := Lib.hid fun w1 (hb : Below w.heap.size w w1) => casc_any a n c l w1 (HA.out.below hb) (by omega)
    have HC4 := Lib.hid fun w1 (hb : Below w.heap.size w w1) => recov_any a n c l w1 (HA.out.below hb) (by omega)
    have HED := Lib.hid fun W (hb : Below w.heap.size w W) => edges_any a n c l W (HA.out.below hb) (by omega) hnc
    have HSO := Lib.hid fun W (hb : Below w.heap.size w W) => sources_any a n c l W (HA.out.below hb) (by omega)
    have HOR := Lib.hid fun W (hb : Below w.heap.size w W) => order_any a n c l W (HA.out.below hb) (by omega) hnc
    by_cases h0 : rightM l = 0
    · have hR := ((right_iff l).1 h0).2
      have HD1 := Lib.hid fun w1 (hb : Below w.heap.size w w1) => rrigor_any a n c l w1 (HA.out.below hb) (by omega) hnc h0
      have HD2 := Lib.hid fun w1 (hb : Below w.heap.size w w1) => rstrict_any a n c l w1 (HA.out.below hb) (by omega) hnc h0
      have HD3 := Lib.hid fun w1 (hb : Below w.heap.size w w1) => rcasc_any a n c l w1 (HA.out.below hb) (by omega) hnc h0
      have HD4 := Lib.hid fun w1 (hb : Below w.heap.size w w1) => rrec_any a n c l w1 (HA.out.below hb) (by omega) hnc h0
      have HDE := Lib.hid fun w1 (hb : Below w.heap.size w w1) => redges_any a n c l w1 (HA.out.below hb) (by omega) hnc hR
      have HDO := Lib.hid fun w1 (hb : Below w.heap.size w w1) => rorder_any a n c l w1 (HA.out.below hb) (by omega) hnc hR
      have HDS := Lib.hid fun k (hk : k < n) w1 (hb : Below w.heap.size w w1) => rsource_any a n c l k w1 (HA.out.below hb) (by omega) hnc hk hR
      have HEQ := Lib.hid fun E (hE : IsEdges l E) => edges_same h0 hE
      have HOQ := Lib.hid fun O ok (hO : IsOrder l O ok) => (show IsOrd (ordQ (edgeQ l) (allM l)) O ok from by
        unfold IsOrder at hO
        rw [if_pos h0] at hO
        obtain ⟨E, hE, h⟩ := hO
        rw [order_same h0 hE] at h; exact h)
      have HOL : Hid (∀ O ok, IsOrd (ordQ (edgeQ l) (allM l)) O ok → O.length ≤ 40) := Lib.hid fun O ok h => by
        have h1 := isOrd_len h
        have h2 := allM_len l
        have h3 := HL.out
        omega
      have HEL : Hid ((edgesRef l).length ≤ 1600) := Lib.hid (by
        have h1 := egUp_len l (allM l) (allM l).length
        have h2 := allM_len l
        have h3 := HL.out
        have h4 : (allM l).length ≤ 40 := by omega
        exact Nat.le_trans h1 (Nat.mul_le_mul h4 h4))
      have hsm := sourcesM_right h0
      simp only [hsm] at HSO
      rw [h0] at HRR HRT
      have HSL := Lib.hid (srcsUp_len l l.length)
      clear h0 hR hsm
      generalize readsB l (recH l) = B4 at *
      generalize readsB l (casH l) = B3 at *
      generalize apartB l strT = B2 at *
      generalize apartB l rigT = B1 at *
      generalize ordQ (edgeQ l) (allM l) = RO at *
      go_enter Try.func3, Try.ntmps3
      go_wp2_with fail
      refine HF.out.mono ?_
      rintro e w1 ⟨rfl, hb⟩
      have Mw1 := Lib.hid ((Mem.nil w).below hb)
      clear hb
      have H1 := Lib.hid (HFEW.out _ Mw1.out.bel)
      go_wp2_with fail
      refine H1.out.mono ?_
      rintro e w2 ⟨rfl, hb⟩
      have Mw2 := Lib.hid (Mw1.out.below hb)
      clear hb H1 Mw1
      have H1 := Lib.hid (HED.out _ Mw2.out.bel)
      go_wp2_with fail
      refine H1.out.mono ?_
      rintro e w3 ⟨eb, ed, E, rfl, hE, hm⟩
      obtain rfl := HEQ.out E hE
      clear hE
      have Mw3 := Lib.hid (Mw2.out.made hm)
      clear hm H1 Mw2
      have H1 := Lib.hid (HSO.out _ Mw3.out.bel)
      go_wp2_with fail
      refine H1.out.mono ?_
      rintro e w4 ⟨sb, sd, rfl, hm⟩
      have Mw4 := Lib.hid (Mw3.out.made hm)
      clear hm H1 Mw3
      have H1 := Lib.hid (HOR.out _ Mw4.out.bel)
      go_wp2_with fail
      refine H1.out.mono ?_
      rintro e w5 ⟨ob, od, O, ok, rfl, hO, hm⟩
      have HO := Lib.hid (HOQ.out O ok hO)
      clear hO
      have Mw5 := Lib.hid (Mw4.out.made hm)
      clear hm H1 Mw4
      have H1 := Lib.hid (HRR.out _ Mw5.out.bel)
      go_wp2_with fail
      refine H1.out.mono ?_
      rintro e w6 ⟨rfl, hb⟩
      have Mw6 := Lib.hid (Mw5.out.below hb)
      clear hb H1 Mw5
      have H1 := Lib.hid (HRT.out _ Mw6.out.bel)
      go_wp2_with fail
      refine H1.out.mono ?_
      rintro e w7 ⟨rfl, hb⟩
      have Mw7 := Lib.hid (Mw6.out.below hb)
      clear hb H1 Mw6
      have H1 := Lib.hid (HDO.out _ Mw7.out.bel)
      go_wp2_with fail
      refine H1.out.mono ?_
      rintro e w8 ⟨pb, pd, P, is, rfl, hP, hm⟩
      obtain ⟨rfl, rfl⟩ := isOrd_same HO.out hP
      have M0 := Lib.hid (show Mem w [] w8 [RowA 39 2 none 0 0 (srFlat (srcsUp l 0)), RowI pb pd O, RowI ob od O, RowS sb sd (srcsUp l l.length), RowE eb ed (edgesRef l)] from (Mw7.out.made hm).new (Below.refl _ _) (As := [RowA 39 2 none 0 0 []]) (all_one ⟨rfl, Row.nil _ _ _⟩) (by simp [blkOf]))
      obtain ⟨RS, hRQ⟩ : ∃ RS, RS = Bun [RowI pb pd O, RowI ob od O, RowS sb sd (srcsUp l l.length), RowE eb ed (edgesRef l)] := ⟨_, rfl⟩
      have sRS : Stable RS := by rw [hRQ]; infer_instance
      have M0 : Hid (Mem w [] w8 [RowA 39 2 none 0 0 (srFlat (srcsUp l 0)), RS]) := Lib.hid (by rw [hRQ]; exact Mem.bun M0.out)
      have HRQ := Lib.hid hRQ
      clear hRQ
      have hol := HOL.out _ _ hP
      have hel := HEL.out
      clear hP hm H1 Mw7 HO HDO HOQ HEQ HFEW HED HSO HOR HRR HRT HOL HEL
      go_wp2_with fail
      go_loopw [10, 11, 12, 86] (fun v _ _ j wr => ∃ k b d m, k ≤ n ∧ m ≤ k ∧ v = .slice b m d ∧ j = .int .i64 (k : Nat) ∧ Hid (m = (srcsUp l k).length ∧ Mem w [] wr [RowA 39 2 b m d (srFlat (srcsUp l k)), RS])) (fun _ _ _ j _ => n - (intOf j).toNat)
      case atStart => exact ⟨0, none, 0, 0, Nat.zero_le _, Nat.le_refl _, rfl, rfl, Lib.hid ⟨rfl, M0.out⟩⟩
      case round =>
        obtain ⟨k, b, d, m, hk, hmk, rfl, rfl, HS⟩ := hrel
        clear M0
        have HM := Lib.hid HS.out.1
        have M2 := Lib.hid HS.out.2
        clear HS
        by_cases hlt : k < n
        · have hlt' : k < l.length := by rw [← HL.out]; exact hlt
          obtain ⟨g, off, rfl, hcA, hcB, hcD⟩ := (HA.out.below M2.out.bel).at k hlt'
          have HSRC := Lib.hid fun W (hb : Below w.heap.size w W) => HDS.out k hlt W hb
          have HU := Lib.hid (srcsUp_succ l k hlt')
          have M3 := Lib.hid (M2.out.block #[.int .i64 l[k].kind, .int .i64 l[k].tx, .string l[k].key] 36)
          clear M2
          generalize l[k] = x at *
          obtain ⟨xk, xt, xy⟩ := x
          simp only at hcA hcB hcD M3 HU
          have HFIN : Hid (∀ w9 b9 d9, xk = 1 → Mem w [] w9 [RowA 39 2 b9 (m + 1) d9 (srFlat (srcsUp l k) ++ [.int .i64 xt, .int .i64 (sourceM l k)]), RS] → (m + 1) = (srcsUp l (k + 1)).length ∧ Mem w [] w9 [RowA 39 2 b9 (m + 1) d9 (srFlat (srcsUp l (k + 1))), RS]) := Lib.hid fun w9 b9 d9 h1 h => by
            have hU := HU.out
            rw [if_pos (by simp [h1])] at hU
            have hl : (srcsUp l (k + 1)).length = m + 1 := by rw [hU, HM.out]; simp
            refine ⟨hl.symm, ?_⟩
            rw [hU, srFlat_append]
            exact h
          by_cases h1 : xk = 1
          · subst h1
            obtain ⟨k0, k1, k2⟩ := box_cells M3.out
            have HS1 := Lib.hid fun W (hW : Mem w [] W [BlockA wr.heap.size #[.int .i64 1, .int .i64 xt, .string xy] 36, RowA 39 2 b m d (srFlat (srcsUp l k)), RS]) => (HSRC.out W hW.bel).mono fun e W' (h : e = .returned (.int .i64 (sourceM l k)) ∧ Below W.heap.size W W') => (⟨h.1, hW.below h.2⟩ : e = .returned (.int .i64 (sourceM l k)) ∧ Mem w [] W' [BlockA wr.heap.size #[.int .i64 1, .int .i64 xt, .string xy] 36, RowA 39 2 b m d (srFlat (srcsUp l k)), RS])
            clear HSRC HU
            have HFN2 := Lib.hid fun w9 b9 d9 => HFIN.out w9 b9 d9 rfl
            clear HFIN
            generalize sourceM l k = sv at *
            generalize srFlat (srcsUp l k) = SF at *
            go_wp2_with fail
            obtain ⟨w5, hw5⟩ : ∃ w5, w5 = wr.alloc (.cells #[.int .i64 1, .int .i64 xt, .string xy] 36) := ⟨_, rfl⟩
            rw [← hw5] at M3 k0 k1 k2 ⊢
            clear hw5 hcA hcB hcD
            generalize wr.heap.size = b5 at *
            have m0 := M3.out.below (bel_drew w5)
            have K8 : Hid (∀ W A, Stable A → Mem w [] W [BlockA b5 #[.int .i64 1, .int .i64 xt, .string xy] 36, A, RS] → W.cell? ⟨b5, 1, none⟩ = some (.int .i64 xt)) := Lib.hid fun W A sA h => (box_cells h).2.1
            first
              | (go_region_held3 (fun W => W.cell? ⟨b5, 1, none⟩ = some (.int .i64 xt)) (first | exact K8.out _ _ inferInstance mB | exact K8.out _ _ inferInstance (Mem.below m1 (bel_new _ _)) | exact K8.out _ _ inferInstance m1 | exact K8.out _ _ inferInstance m0 | exact K8.out _ _ inferInstance (Mem.below m0 (bel_drew _)) | exact K8.out _ _ inferInstance (Mem.below M3.out (bel_drew _)))
                    (first
                      | ((go_at_call 20; refine (HS1.out _ m0).mono ?_; rintro e w2 ⟨rfl, m1⟩))
                      | ((have m1 := m1; obtain ⟨b4, d4, w4, hrun4, mB⟩ := Mem.app1 (P := Try.prog) (t := 27) (ty := 27) [BlockA b5 #[.int .i64 1, .int .i64 xt, .string xy] 36] (r := [RS]) Try.underlying27 infoSr (by rfl) (by decide) m1 [.int .i64 xt, .int .i64 sv] (by rfl) (by simp [Value.oneCell']) (by omega) (by decide); have HR4 := Lib.hid hrun4; clear hrun4; refine step_appendR rfl (.tmp 94) (.tmp 101) 27 27 rfl (.slice b m d) (.slice (some ⟨w2.heap.size, 0, none⟩) 1 1) (by rfl) (by rfl) HR4.out ?_))
                      | (fail "none")))
              | (fail "none")
            all_goals
              have HF2 := Lib.hid (HFN2.out w4 b4 d4 (Mem.drop [] (A := BlockA b5 #[.int .i64 1, .int .i64 xt, .string xy] 36) (r := [RowA 39 2 b4 (m + 1) d4 (SF ++ [.int .i64 xt, .int .i64 sv]), RS]) mB))
              clear m0 M3 K8 mB m1 HFN2 HS1
              go_wp2_with fail
              go_roundw
              case rel => exact ⟨k + 1, b4, d4, m + 1, by omega, by omega, rfl, by go_num, HF2⟩
              case measure => simp [intOf]; omega
          · have h1' : (xk == 1) = false := by simpa using h1
            obtain ⟨k0, k1, k2⟩ := box_cells M3.out
            have HF2 : Hid (m = (srcsUp l (k + 1)).length ∧ Mem w [] (wr.alloc (.cells #[.int .i64 xk, .int .i64 xt, .string xy] 36)) [RowA 39 2 b m d (srFlat (srcsUp l (k + 1))), RS]) := Lib.hid (by
              have hU := HU.out
              rw [if_neg (by simpa using h1), List.append_nil] at hU
              rw [hU]
              exact ⟨HM.out, Mem.drop [] (A := BlockA wr.heap.size #[.int .i64 xk, .int .i64 xt, .string xy] 36) (r := [RowA 39 2 b m d (srFlat (srcsUp l k)), RS]) M3.out⟩)
            clear HFIN HU M3 h1 HSRC
            go_wp2_with fail
            go_roundw
            case rel => exact ⟨k + 1, b, d, m, by omega, by omega, rfl, by go_num, HF2⟩
            case measure => simp [intOf]; omega
        · obtain rfl : k = n := by omega
          have Mw8 : Hid (Mem w [] wr [RowS b d (srcsUp l l.length), RowI pb pd O, RowI ob od O, RowS sb sd (srcsUp l l.length), RowE eb ed (edgesRef l)]) := Lib.hid (by
            have h := M2.out
            have e := HM.out
            rw [HL.out] at e h
            rw [e] at h
            have h2 := Mem.unbun (A := RowS b d (srcsUp l l.length)) (r := [RowI pb pd O, RowI ob od O, RowS sb sd (srcsUp l l.length), RowE eb ed (edgesRef l)]) (by rw [← HRQ.out]; exact h)
            exact h2)
          have HM2 : Hid (m = (srcsUp l l.length).length) := Lib.hid (by rw [← HL.out]; exact HM.out)
          clear M2 HM HDS
          have HSS : Hid (∀ W l0, Stables l0 → Mem w [] W (l0 ++ RowS b d (srcsUp l l.length) :: [RowI pb pd O, RowI ob od O, RowS sb sd (srcsUp l l.length), RowE eb ed (edgesRef l)]) → Calls Try.prog 24 #[.slice sb (srcsUp l l.length).length sd, .slice b m d] W fun e w' => e = .returned (.bool true) ∧ Below W.heap.size W w') := Lib.hid fun W l0 i0 h => by
            have e := HM2.out
            have h1 := Mem.rowAt l0 h
            have h2 := Mem.rowAt (l0 ++ [RowS b d (srcsUp l l.length), RowI pb pd O, RowI ob od O]) (a := sb) (r := [RowE eb ed (edgesRef l)]) (xs := srFlat (srcsUp l l.length)) (by rw [List.append_assoc]; exact h)
            rw [e]
            exact same_s _ _ _ _ _ _ W rfl h2 h1 (by have := HSL.out; have := HL.out; omega)
          clear HM2
          have H1 := Lib.hid (HDE.out _ Mw8.out.bel)
          obtain ⟨wq, rfl⟩ : ∃ wq, wq = wr := ⟨_, rfl⟩
          go_wp2_with fail
          refine H1.out.mono ?_
          rintro e w9 ⟨xb, xd, rfl, hm⟩
          have Mw9 := Lib.hid (Mw8.out.made hm)
          clear hm H1 Mw8
          have H1 := Lib.hid (same_e eb xb ed xd _ (edgesRef l) w9 rfl (Mem.rowAt [RowE xb xd (edgesRef l), RowS b d (srcsUp l l.length), RowI pb pd O, RowI ob od O, RowS sb sd (srcsUp l l.length)] (r := []) Mw9.out) (Mem.rowAt [] Mw9.out) (by omega))
          go_wp2_with fail
          refine H1.out.mono ?_
          rintro e w10 ⟨rfl, hb⟩
          have Mw10 := Lib.hid (Mw9.out.below hb)
          clear hb H1 Mw9
          have H1 := Lib.hid (same_i ob pb od pd _ O w10 rfl (Mem.rowAt [RowE xb xd (edgesRef l), RowS b d (srcsUp l l.length), RowI pb pd O] Mw10.out) (Mem.rowAt [RowE xb xd (edgesRef l), RowS b d (srcsUp l l.length)] Mw10.out) (by omega))
          go_wp2_with fail
          refine H1.out.mono ?_
          rintro e w11 ⟨rfl, hb⟩
          have Mw11 := Lib.hid (Mw10.out.below hb)
          clear hb H1 Mw10
          have H1 := Lib.hid (HSS.out w11 [RowE xb xd (edgesRef l)] inferInstance Mw11.out)
          clear HSS
          go_wp2_with fail
          refine H1.out.mono ?_
          rintro e w12 ⟨rfl, hb⟩
          have Mw12 := Lib.hid (Mw11.out.below hb)
          clear hb H1 Mw11
          have H1 := Lib.hid (HC4.out _ Mw12.out.bel)
          go_wp2_with fail
          refine H1.out.mono ?_
          rintro e w13 ⟨rfl, hb⟩
          have Mw13 := Lib.hid (Mw12.out.below hb)
          clear hb H1 Mw12
          have H1 := Lib.hid (HD4.out _ Mw13.out.bel)
          go_wp2_with fail
          refine H1.out.mono ?_
          rintro e w14 ⟨rfl, hb⟩
          have Mw14 := Lib.hid (Mw13.out.below hb)
          clear hb H1 Mw13
          have H1 := Lib.hid (HC3.out _ Mw14.out.bel)
          go_wp2_with fail
          refine H1.out.mono ?_
          rintro e w15 ⟨rfl, hb⟩
          have Mw15 := Lib.hid (Mw14.out.below hb)
          clear hb H1 Mw14
          have H1 := Lib.hid (HD3.out _ Mw15.out.bel)
          go_wp2_with fail
          refine H1.out.mono ?_
          rintro e w16 ⟨rfl, hb⟩
          have Mw16 := Lib.hid (Mw15.out.below hb)
          clear hb H1 Mw15
          have H1 := Lib.hid (HC2.out _ Mw16.out.bel)
          go_wp2_with fail
          refine H1.out.mono ?_
          rintro e w17 ⟨rfl, hb⟩
          have Mw17 := Lib.hid (Mw16.out.below hb)
          clear hb H1 Mw16
          have H1 := Lib.hid (HD2.out _ Mw17.out.bel)
          go_wp2_with fail
          refine H1.out.mono ?_
          rintro e w18 ⟨rfl, hb⟩
          have Mw18 := Lib.hid (Mw17.out.below hb)
          clear hb H1 Mw17
          have H1 := Lib.hid (HC1.out _ Mw18.out.bel)
          go_wp2_with fail
          refine H1.out.mono ?_
          rintro e w19 ⟨rfl, hb⟩
          have Mw19 := Lib.hid (Mw18.out.below hb)
          clear hb H1 Mw18
          have H1 := Lib.hid (HD1.out _ Mw19.out.bel)
          go_wp2_with fail
          refine H1.out.mono ?_
          rintro e w20 ⟨rfl, hb⟩
          have Mw20 := Lib.hid (Mw19.out.below hb)
          clear hb H1 Mw19
          go_wp2_with fail
          go_ret
          exact ⟨rfl, Mw20.out.bel⟩
    · have hq : (rightM l == 0) = false := by simpa using h0
      have hq2 : (rightM l != 0) = true := by simpa using h0
      have HEQ : Hid (∀ E, IsEdges l E → E = []) := Lib.hid fun E hE => by unfold IsEdges at hE; rw [if_neg h0] at hE; exact hE
      have HOQ : Hid (∀ O ok, IsOrder l O ok → O = [] ∧ ok = false) := Lib.hid fun O ok hO => by unfold IsOrder at hO; rw [if_neg h0] at hO; exact hO
      have hsm : sourcesM l = [] := by unfold sourcesM; rw [if_neg h0]
      have HSE : Hid (∀ W oa oc, Below w.heap.size w W → Row W 3 1 oa 3 oc (intsV [0, 1, 2]) → Calls Try.prog 18 #[.slice a n c, .slice oa 3 oc] W fun e w' => (∃ b d, e = .returned (.slice b 0 d)) ∧ Below W.heap.size W w') := Lib.hid fun W oa oc hb hr => by
        refine (serial_any a n c l oa oc [0, 1, 2] W (HA.out.below hb) (by omega) hr (by decide)).mono fun e w' h => ?_
        obtain ⟨b, d, rfl, hm⟩ := h
        refine ⟨⟨b, d, ?_⟩, hm.mem.bel⟩
        have : serM l [0, 1, 2] = [] := by unfold serM; rw [if_neg h0]
        rw [this]; rfl
      have e1 : apartB l rigT = false := by unfold apartB; rw [hq]; rfl
      have e2 : apartB l strT = false := by unfold apartB; rw [hq]; rfl
      have e3 : readsB l (casH l) = false := by unfold readsB; rw [hq]; rfl
      have e4 : readsB l (recH l) = false := by unfold readsB; rw [hq]; rfl
      rw [e1] at HC1
      rw [e2] at HC2
      rw [e3] at HC3
      rw [e4] at HC4
      simp only [hsm] at HSO
      clear h0 hsm e1 e2 e3 e4
      generalize rightM l = q at *
      go_enter Try.func3, Try.ntmps3
      go_wp2_with fail
      refine HF.out.mono ?_
      rintro e w1 ⟨rfl, hb⟩
      have Mw1 := Lib.hid ((Mem.nil w).below hb)
      clear hb
      have H1 := Lib.hid (HFEW.out _ Mw1.out.bel)
      go_wp2_with fail
      refine H1.out.mono ?_
      rintro e w2 ⟨rfl, hb⟩
      have Mw2 := Lib.hid (Mw1.out.below hb)
      clear hb H1 Mw1
      have H1 := Lib.hid (HED.out _ Mw2.out.bel)
      go_wp2_with fail
      refine H1.out.mono ?_
      rintro e w3 ⟨eb, ed, E, rfl, hE, hm⟩
      obtain rfl := HEQ.out E hE
      clear hE
      have Mw3 := Lib.hid (Mw2.out.made hm)
      clear hm H1 Mw2
      have H1 := Lib.hid (HSO.out _ Mw3.out.bel)
      go_wp2_with fail
      refine H1.out.mono ?_
      rintro e w4 ⟨sb, sd, rfl, hm⟩
      have Mw4 := Lib.hid (Mw3.out.made hm)
      clear hm H1 Mw3
      have H1 := Lib.hid (HOR.out _ Mw4.out.bel)
      go_wp2_with fail
      refine H1.out.mono ?_
      rintro e w5 ⟨ob, od, O, ok, rfl, hO, hm⟩
      obtain ⟨rfl, rfl⟩ := HOQ.out O ok hO
      clear hO
      have Mw5 := Lib.hid (Mw4.out.made hm)
      clear hm H1 Mw4
      have H1 := Lib.hid (HRR.out _ Mw5.out.bel)
      go_wp2_with fail
      refine H1.out.mono ?_
      rintro e w6 ⟨rfl, hb⟩
      have Mw6 := Lib.hid (Mw5.out.below hb)
      clear hb H1 Mw5
      have H1 := Lib.hid (HRT.out _ Mw6.out.bel)
      go_wp2_with fail
      refine H1.out.mono ?_
      rintro e w7 ⟨rfl, hb⟩
      have Mw7 := Lib.hid (Mw6.out.below hb)
      clear hb H1 Mw6
      have H1 := Lib.hid (HC4.out _ Mw7.out.bel)
      go_wp2_with fail
      refine H1.out.mono ?_
      rintro e w8 ⟨rfl, hb⟩
      have Mw8 := Lib.hid (Mw7.out.below hb)
      clear hb H1 Mw7
      have H1 := Lib.hid (HC3.out _ Mw8.out.bel)
      go_wp2_with fail
      refine H1.out.mono ?_
      rintro e w9 ⟨rfl, hb⟩
      have Mw9 := Lib.hid (Mw8.out.below hb)
      clear hb H1 Mw8
      have H1 := Lib.hid (HC2.out _ Mw9.out.bel)
      go_wp2_with fail
      refine H1.out.mono ?_
      rintro e w10 ⟨rfl, hb⟩
      have Mw10 := Lib.hid (Mw9.out.below hb)
      clear hb H1 Mw9
      have H1 := Lib.hid (HC1.out _ Mw10.out.bel)
      go_wp2_with fail
      refine H1.out.mono ?_
      rintro e w11 ⟨rfl, hb⟩
      have Mw11 := Lib.hid (Mw10.out.below hb)
      clear hb H1 Mw10
      have h3 : Row (w11.alloc (.cells #[.int .i64 0, .int .i64 1, .int .i64 2] 3)) 3 1 (some ⟨w11.heap.size, 0, none⟩) 3 3 (intsV [0, 1, 2]) := Row.mk (heap_new w11 _) (Nat.le_refl _) (by decide) (by rfl) (by simp [intsV])
      have H1 := Lib.hid (HSE.out _ _ 3 (Mw11.out.below (bel_new w11 _)).bel h3)
      clear h3
      go_wp2_with fail
      refine H1.out.mono ?_
      rintro e w12 ⟨⟨zb, zd, rfl⟩, hb⟩
      have Mw12 := Lib.hid ((Mw11.out.below (bel_new w11 (.cells #[.int .i64 0, .int .i64 1, .int .i64 2] 3))).below hb)
      clear hb H1 Mw11
      go_wp2_with fail
      go_ret
      exact ⟨rfl, Mw12.out.bel⟩
end Go.Proofs.Ytbgabdofnmijnaa

