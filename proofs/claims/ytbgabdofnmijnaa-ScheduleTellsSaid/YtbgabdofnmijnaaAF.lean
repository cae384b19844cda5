/- ScheduleSerial walked. -/
import Derived.Test.YtbgabdofnmijnaaAA
import Derived.Test.YtbgabdofnmijnaaAE
namespace Go.Proofs.Ytbgabdofnmijnaa
open Go.RowKit
theorem row_cap {w : World} {E k n c : Nat} {a : Option Addr} {xs : List Value} (h : Row w E k a n c xs) : n ≤ c := by
  rcases h.out with ⟨_, h0, h1, _⟩ | ⟨_, _, _, _, h1, _⟩
  · omega
  · exact h1
theorem order_len {l : List Mk} {O : List Int} {ok : Bool} (ho : IsOrder l O ok) : O.length ≤ l.length := by
  unfold IsOrder at ho
  by_cases h0 : rightM l = 0
  · rw [if_pos h0] at ho
    obtain ⟨E, h1, h2⟩ := ho
    have hnd : (allM l).Nodup := (allM_strict l).imp fun h => by omega
    cases hP : ordR (allM l) E with
    | none => rw [hP] at h2; rw [h2.1]; simp
    | some P =>
      rw [hP] at h2
      obtain ⟨p1, _⟩ := ord_ok _ (allM l) E P rfl hnd hP
      rw [h2.1, p1.length_eq]; exact allM_len l
  · rw [if_neg h0] at ho
    rw [ho.1]; simp
theorem edges_eq {l s : List Mk} {E1 E2 : List Eg} (h1 : rightM l = 0) (h2 : rightM s = 0) (he : ∀ x y, EdgeP s x y ↔ EdgeP l x y) (k1 : IsEdges l E1) (k2 : IsEdges s E2) : E2 = E1 := by
  obtain ⟨a1, a2⟩ := isEdges_ok h1 k1
  obtain ⟨b1, b2⟩ := isEdges_ok h2 k2
  exact eg_strict_ext b2 a2 fun e => by rw [a1, b1, he]
def pickS (S : List Sr) (t : Int) (k : Nat) : List Sr := (S.take k).filter fun x => x.tx == t
theorem pickS_succ (S : List Sr) (t : Int) (k : Nat) (hk : k < S.length) : pickS S t (k + 1) = pickS S t k ++ if S[k].tx == t then [S[k]] else [] := by
  unfold pickS
  rw [List.take_succ_eq_append_getElem hk, List.filter_append, List.filter_cons]
  cases S[k].tx == t <;> rfl
theorem pickS_len (S : List Sr) (t : Int) (k : Nat) : (pickS S t k).length ≤ k := Nat.le_trans (List.length_filter_le _ _) (by rw [List.length_take]; omega)
theorem sourcesM_right {l : List Mk} (h : rightM l = 0) : sourcesM l = srcsUp l l.length := by unfold sourcesM; rw [if_pos h]
set_option maxRecDepth 100000 in
set_option maxHeartbeats 16000000 in
theorem serial_law (a : Option Addr) (n c : Nat) (l : List Mk) (w : World) (hn : n ≤ maxLen) (hnc : n ≤ c) (h : MksAt w a n l) :
    Calls Try.prog 5 #[.slice a n c] w fun e w' => e = .returned (.bool true) ∧ Below w.heap.size w w' := by
  have HF := Lib.hid (fixed_any w)
  have HFEW := Lib.hid fun w1 (hb : Below w.heap.size w w1) => few_any a n c l w1 hn (h.below hb)
  have HA := Lib.hid h
  have HL := Lib.hid h.1
  unfold maxLen at hn
  clear h
  cases hfew : fewM l with
  | false =>
    rw [hfew] at HFEW
    clear hfew
    go_enter Try.func5, Try.ntmps5
    go_wp2_with fail
    refine HF.out.mono ?_
    rintro e w1 ⟨rfl, hb⟩
    have HB := Lib.hid hb
    have HW := Lib.hid (HFEW.out _ hb)
    clear hb HFEW
    go_wp2_with fail
    refine HW.out.mono ?_
    rintro e w2 ⟨rfl, hb⟩
    have HB2 := Lib.hid (HB.out.trans (hb.mono HB.out.size))
    clear hb
    go_wp2_with fail
    go_ret
    exact ⟨rfl, HB2.out⟩
  | true =>
    have hn40 : n ≤ 40 := by rw [HL.out]; exact few_len hfew
    rw [hfew] at HFEW
    clear hfew
    have HRR := Lib.hid fun w1 (hb : Below w.heap.size w w1) => rright_any a n c l w1 (HA.out.below hb) (by omega) hnc
    by_cases h0 : rightM l = 0
    · rw [h0] at HRR
      have HOR := Lib.hid fun W (hb : Below w.heap.size w W) => order_any a n c l W (HA.out.below hb) (by omega) hnc
      have HSR := Lib.hid fun W (hb : Below w.heap.size w W) ob od O (ho : Row W 3 1 ob O.length od (intsV O)) (hlo : O.length ≤ 300) => serial_any a n c l ob od O W (HA.out.below hb) (by omega) ho hlo
      have HED := Lib.hid fun W (hb : Below w.heap.size w W) => edges_any a n c l W (HA.out.below hb) (by omega) hnc
      have HSO := Lib.hid fun W (hb : Below w.heap.size w W) => sources_any a n c l W (HA.out.below hb) (by omega)
      have HR0 := Lib.hid h0
      clear h0
      go_enter Try.func5, Try.ntmps5
      go_wp2_with fail
      refine HF.out.mono ?_
      rintro e w1 ⟨rfl, hb⟩
      have M1 := Lib.hid ((Mem.nil w).below hb)
      clear hb
      have H1 := Lib.hid (HFEW.out _ M1.out.bel)
      go_wp2_with fail
      refine H1.out.mono ?_
      rintro e w2 ⟨rfl, hb⟩
      have M2 := Lib.hid (M1.out.below hb)
      clear hb H1 M1
      have H1 := Lib.hid (HRR.out _ M2.out.bel)
      go_wp2_with fail
      refine H1.out.mono ?_
      rintro e w3 ⟨rfl, hb⟩
      have M3 := Lib.hid (M2.out.below hb)
      clear hb H1 M2 HFEW HRR HF
      go_wp2_with fail
      go_loopw [36] (fun j wr => ∃ k : Nat, k ≤ n ∧ j = .int .i64 k ∧ Hid ((∀ i (hi : i < l.length), i < k → l[i].kind ≠ 4) ∧ Mem w [] wr [])) (fun j _ => n - (intOf j).toNat)
      case atStart => exact ⟨0, Nat.zero_le _, rfl, Lib.hid ⟨fun i h hi => by omega, M3.out⟩⟩
      case round =>
        obtain ⟨W1, rfl⟩ : ∃ W1, W1 = wr := ⟨_, rfl⟩
        obtain ⟨k, hk, rfl, HS⟩ := hrel
        clear M3
        have HALL := Lib.hid HS.out.1
        have M4 := Lib.hid HS.out.2
        clear HS
        by_cases hlt : k < n
        · have hlt' : k < l.length := by rw [← HL.out]; exact hlt
          obtain ⟨g, off, rfl, hcA, hcB, hcD⟩ := (HA.out.below M4.out.bel).at k hlt'
          have HNX := Lib.hid fun (h : l[k].kind ≠ 4) => (show ∀ i (hi : i < l.length), i < k + 1 → l[i].kind ≠ 4 from fun i hi hik => by
            by_cases e : i = k
            · subst e; exact h
            · exact HALL.out i hi (by omega))
          have M5 := Lib.hid (M4.out.block #[.int .i64 l[k].kind, .int .i64 l[k].tx, .string l[k].key] 36)
          clear M4 HALL
          generalize l[k] = x at *
          obtain ⟨xk, xt, xy⟩ := x
          simp only at hcA hcB hcD M5 HNX
          obtain ⟨k0, k1, k2⟩ := box_cells M5.out
          by_cases h4 : xk = 4
          · subst h4
            clear HNX
            go_wp2_with fail
            go_ret
            exact ⟨rfl, M5.out.bel⟩
          · have h4' : (xk == 4) = false := by simpa using h4
            have HX := Lib.hid (And.intro (HNX.out h4) (Mem.drop [] (A := BlockA W1.heap.size #[.int .i64 xk, .int .i64 xt, .string xy] 36) (r := []) M5.out))
            clear HNX M5 h4
            go_wp2_with fail
            go_roundw
            case rel => exact ⟨k + 1, by omega, by go_num, HX⟩
            case measure => simp [intOf]; omega
        · obtain rfl : k = n := by omega
          have HNA : Hid (∀ m ∈ l, m.kind ≠ 4) := Lib.hid fun m hm => by
            obtain ⟨i, hi, rfl⟩ := List.getElem_of_mem hm
            exact HALL.out i hi (by rw [HL.out]; exact hi)
          have H1 := Lib.hid (HOR.out _ M4.out.bel)
          clear HALL HOR
          go_wp2_with fail
          refine H1.out.mono ?_
          rintro e w5 ⟨ob, od, O, ok, rfl, ho, hm⟩
          have M5 := Lib.hid (M4.out.made hm)
          have HOL := Lib.hid (order_len ho)
          have HOK := Lib.hid ho
          clear hm H1 M4 ho
          cases ok with
          | false =>
            generalize O.length = on at *
            go_wp2_with fail
            go_ret
            exact ⟨rfl, M5.out.bel⟩
          | true =>
            have hP := serP_of HR0.out HNA.out HOK.out
            have hon : O.length ≤ 40 := by have := HOL.out; have := HL.out; omega
            have H1 := Lib.hid (HSR.out _ M5.out.bel ob od O (Mem.rowAt [] M5.out) (by omega))
            have hs0 := serM_eq HR0.out hP.nd
            have HP := Lib.hid hP
            clear hP HSR HOL HOK HNA
            generalize hon' : O.length = on at *
            have HON := Lib.hid hon'
            clear hon'
            go_wp2_with fail
            refine H1.out.mono ?_
            rintro e w6 ⟨sb, sd, rfl, hm⟩
            generalize serM l O = s at *
            have HSS := Lib.hid hs0
            have HKP := Lib.hid HP.out.kept
            have hsl : s.length = k := by rw [hs0, List.length_map, HKP.out.len, HL.out]
            rw [hsl]
            have HSL := Lib.hid hsl
            have HRS := Lib.hid (HKP.out.right hs0).1
            have HSB : Hid (∀ m ∈ s, MkB m) := Lib.hid fun m hmm => by
              obtain ⟨p, hp, rfl⟩ := List.getElem_of_mem hmm
              obtain ⟨_, b, e⟩ := HKP.out.get hs0 hp
              rw [e]; exact HA.out.bd _ (List.getElem_mem b)
            have M6 := Lib.hid (show Mem w [] w6 [RowA 36 3 sb k sd (mkFlat s), RowI ob od O] from by
              have := M5.out.made hm
              rwa [show RowM sb sd s = RowA 36 3 sb k sd (mkFlat s) by unfold RowM; rw [hsl]] at this)
            have hsc := row_cap (Mem.rowAt [] (r := [RowI ob od O]) M6.out)
            have HSM : Hid (∀ W (_ : Row W 36 3 sb k sd (mkFlat s)), MksAt W sb k s) := Lib.hid fun W hr => MksAt.row hr HSB.out
            clear hm H1 M5 hs0 hsl
            have H1 := Lib.hid (edges_any sb k sd s w6 (HSM.out _ (Mem.rowAt [] (r := [RowI ob od O]) M6.out)) (by omega) hsc)
            have hneq : ((k : Int) != (k : Int)) = false := by simp
            go_wp2_with fail
            refine H1.out.mono ?_
            rintro e w7 ⟨e1, d1, E2, rfl, hE2, hm⟩
            have M7 := Lib.hid (Mem.drop [] (A := RowE e1 d1 E2) (r := [RowA 36 3 sb k sd (mkFlat s), RowI ob od O]) (M6.out.made hm))
            have H2 := Lib.hid (HED.out _ M7.out.bel)
            have HE2 := Lib.hid hE2
            clear hm H1 M6 hE2 HED
            go_wp2_with fail
            refine H2.out.mono ?_
            rintro e w8 ⟨e2, d2, E1, rfl, hE1, hm⟩
            obtain rfl := edges_eq HR0.out HRS.out (HKP.out.edges HSS.out) hE1 HE2.out
            have M8 := Lib.hid (Mem.drop [] (A := RowE e2 d2 E2) (r := [RowA 36 3 sb k sd (mkFlat s), RowI ob od O]) (M7.out.made hm))
            have hEl := isEdges_len (by rw [← HL.out]; omega) hE1
            clear hm H2 M7 hE1 HE2
            generalize E2.length = en at *
            have hneq2 : ((en : Int) != (en : Int)) = false := by simp
            go_wp2_with fail
            clear hneq hneq2 hEl
            -- the sources of each transaction's readings
            go_loopw [70] (fun j wr => ∃ i : Nat, i ≤ on ∧ j = .int .i64 i ∧ Hid (Mem w [] wr [RowA 36 3 sb k sd (mkFlat s), RowI ob od O])) (fun j _ => on - (intOf j).toNat)
            case atStart => exact ⟨0, Nat.zero_le _, rfl, M8⟩
            case round =>
              obtain ⟨W2, rfl⟩ : ∃ W2, W2 = wr := ⟨_, rfl⟩
              obtain ⟨i, hi, rfl, M9⟩ := hrel
              clear M8
              by_cases hlt2 : i < on
              · have hlt2' : i < O.length := by rw [HON.out]; exact hlt2
                obtain ⟨gl, rfl, hc1⟩ := (Mem.rowAt [RowA 36 3 sb k sd (mkFlat s)] (r := []) M9.out).cellAt i (by unfold intsV; rw [List.length_map]; exact hlt2')
                have hc2 : W2.cell? ⟨gl, i, none⟩ = some (.int .i64 O[i]) := by rw [hc1]; simp [intsV]
                have HEQ := Lib.hid (HP.out.srcs HSS.out (List.getElem_mem hlt2'))
                have H1 := Lib.hid (HSO.out W2 M9.out.bel)
                have hsm1 := sourcesM_right HR0.out
                have hsm2 := sourcesM_right HRS.out
                have hl1 : (sourcesM l).length ≤ 40 := by rw [hsm1]; have := srcsUp_len l l.length; have := HL.out; omega
                have hl2 : (sourcesM s).length ≤ 40 := by rw [hsm2]; have := srcsUp_len s s.length; have := HSL.out; omega
                unfold srcOf at HEQ
                rw [← hsm1, ← hsm2] at HEQ
                have H2 := Lib.hid fun W (hr : Row W 36 3 sb k sd (mkFlat s)) => sources_any sb k sd s W (HSM.out W hr) (by omega)
                clear hc1 hsm1 hsm2
                generalize sourcesM l = S1 at *
                generalize sourcesM s = S2 at *
                generalize hls1 : S1.length = s1 at *
                generalize hls2 : S2.length = s2 at *
                have HS1 := Lib.hid hls1
                have HS2 := Lib.hid hls2
                clear hls1 hls2
                generalize O[i] = t at *
                go_wp2_with fail
                refine H1.out.mono ?_
                rintro e w10 ⟨b1, c1, rfl, hm⟩
                have M10 := Lib.hid (show Mem w [] w10 [RowA 39 2 none 0 0 (srFlat (pickS S1 t 0)), RowA 39 2 b1 s1 c1 (srFlat S1), RowA 36 3 sb k sd (mkFlat s), RowI (some ⟨gl, 0, none⟩) od O] from by
                  have h1 := M9.out.made hm
                  rw [show RowS b1 c1 S1 = RowA 39 2 b1 s1 c1 (srFlat S1) by unfold RowS; rw [HS1.out]] at h1
                  exact h1.new (Below.refl _ _) (As := [RowA 39 2 none 0 0 []]) (all_one ⟨rfl, Row.nil _ _ _⟩) (by simp [blkOf]))
                clear hm H1 M9 hc2
                go_wp2_with fail
                go_loopw [10, 77] (fun v j wr => ∃ q b d m, q ≤ s1 ∧ m ≤ q ∧ v = .slice b m d ∧ j = .int .i64 (q : Nat) ∧ Hid (m = (pickS S1 t q).length ∧ Mem w [] wr [RowA 39 2 b m d (srFlat (pickS S1 t q)), RowA 39 2 b1 s1 c1 (srFlat S1), RowA 36 3 sb k sd (mkFlat s), RowI (some ⟨gl, 0, none⟩) od O])) (fun _ j _ => s1 - (intOf j).toNat)
                case atStart => exact ⟨0, none, 0, 0, Nat.zero_le _, Nat.le_refl _, rfl, rfl, Lib.hid ⟨rfl, M10.out⟩⟩
                case round =>
                  obtain ⟨W3, rfl⟩ : ∃ W3, W3 = wr := ⟨_, rfl⟩
                  obtain ⟨q, b, d, m, hq, hmq, rfl, rfl, HS⟩ := hrel
                  clear M10
                  have HM := Lib.hid HS.out.1
                  have M11 := Lib.hid HS.out.2
                  clear HS
                  by_cases hlq : q < s1
                  · have hlq' : q < S1.length := by rw [HS1.out]; exact hlq
                    obtain ⟨g1, rfl, hx1, hx2⟩ := srAt_row (Mem.rowAt [RowA 39 2 b m d (srFlat (pickS S1 t q))] (r := [RowA 36 3 sb k sd (mkFlat s), RowI (some ⟨gl, 0, none⟩) od O]) M11.out) q hlq'
                    have HU := Lib.hid (pickS_succ S1 t q hlq')
                    have M12 := Lib.hid (M11.out.block #[.int .i64 S1[q].tx, .int .i64 S1[q].wr] 39)
                    clear M11
                    generalize S1[q] = x at *
                    obtain ⟨xt, xw⟩ := x
                    simp only at hx1 hx2 M12 HU
                    obtain ⟨z0, -⟩ := M12.out.block_cell (i := 0) (v := .int .i64 xt) rfl
                    obtain ⟨z1, -⟩ := M12.out.block_cell (i := 1) (v := .int .i64 xw) rfl
                    by_cases ht : xt = t
                    · have ht' : (xt == t) = true := by simpa using ht
                      rw [ht'] at HU
                      obtain ⟨b4, d4, w12, hrun4, mB⟩ := Mem.app1 (P := Try.prog) (t := 27) (ty := 27) [BlockA W3.heap.size #[.int .i64 xt, .int .i64 xw] 39] (r := [RowA 39 2 (some ⟨g1, 0, none⟩) s1 c1 (srFlat S1), RowA 36 3 sb k sd (mkFlat s), RowI (some ⟨gl, 0, none⟩) od O]) Try.underlying27 infoSr (by rfl) (by decide) M12.out [.int .i64 xt, .int .i64 xw] (by rfl) (by simp [Value.oneCell']) (by omega) (by decide)
                      rw [show (W3.alloc (.cells #[.int .i64 xt, .int .i64 xw] 39)).heap.size = W3.heap.size + 1 by simp] at hrun4
                      have HRUN := Lib.hid hrun4
                      have HX : Hid (m + 1 = (pickS S1 t (q + 1)).length ∧ Mem w [] w12 [RowA 39 2 b4 (m + 1) d4 (srFlat (pickS S1 t (q + 1))), RowA 39 2 (some ⟨g1, 0, none⟩) s1 c1 (srFlat S1), RowA 36 3 sb k sd (mkFlat s), RowI (some ⟨gl, 0, none⟩) od O]) := Lib.hid (by
                        have hU := HU.out
                        rw [if_pos rfl] at hU
                        rw [hU]
                        refine ⟨by rw [HM.out]; simp, ?_⟩
                        rw [srFlat_append]
                        exact Mem.drop [] (A := BlockA W3.heap.size #[.int .i64 xt, .int .i64 xw] 39) (r := [RowA 39 2 b4 (m + 1) d4 (srFlat (pickS S1 t q) ++ [.int .i64 xt, .int .i64 xw]), RowA 39 2 (some ⟨g1, 0, none⟩) s1 c1 (srFlat S1), RowA 36 3 sb k sd (mkFlat s), RowI (some ⟨gl, 0, none⟩) od O]) mB)
                      clear hrun4 mB HU HM M12 ht
                      go_wp2_with ((at_builtin; refine wpList_appendR _ rfl (.tmp 85) (.tmp 87) 27 27 rfl (.slice b m d) (.slice (some ⟨W3.heap.size + 1, 0, none⟩) 1 1) rfl rfl HRUN.out ?_))
                      go_roundw
                      case rel => exact ⟨q + 1, b4, d4, m + 1, by omega, by omega, rfl, by go_num, HX⟩
                      case measure => simp [intOf]; omega
                    · have ht' : (xt == t) = false := by simpa using ht
                      rw [ht'] at HU
                      have HX : Hid (m = (pickS S1 t (q + 1)).length ∧ Mem w [] (W3.alloc (.cells #[.int .i64 xt, .int .i64 xw] 39)) [RowA 39 2 b m d (srFlat (pickS S1 t (q + 1))), RowA 39 2 (some ⟨g1, 0, none⟩) s1 c1 (srFlat S1), RowA 36 3 sb k sd (mkFlat s), RowI (some ⟨gl, 0, none⟩) od O]) := Lib.hid (by
                        have hU := HU.out
                        rw [if_neg (by simp), List.append_nil] at hU
                        rw [hU]
                        exact ⟨HM.out, Mem.drop [] (A := BlockA W3.heap.size #[.int .i64 xt, .int .i64 xw] 39) (r := [RowA 39 2 b m d (srFlat (pickS S1 t q)), RowA 39 2 (some ⟨g1, 0, none⟩) s1 c1 (srFlat S1), RowA 36 3 sb k sd (mkFlat s), RowI (some ⟨gl, 0, none⟩) od O]) M12.out⟩)
                      clear HU HM M12 ht
                      go_wp2_with fail
                      go_roundw
                      case rel => exact ⟨q + 1, b, d, m, by omega, by omega, rfl, by go_num, HX⟩
                      case measure => simp [intOf]; omega
                  · obtain rfl : q = s1 := by omega
                    have M12 := Lib.hid (Mem.drop [RowA 39 2 b m d (srFlat (pickS S1 t q))] (A := RowA 39 2 b1 q c1 (srFlat S1)) (r := [RowA 36 3 sb k sd (mkFlat s), RowI (some ⟨gl, 0, none⟩) od O]) M11.out)
                    have H3 := Lib.hid (H2.out W3 (Mem.rowAt [RowA 39 2 b m d (srFlat (pickS S1 t q))] (r := [RowI (some ⟨gl, 0, none⟩) od O]) M12.out))
                    clear M11 H2
                    go_wp2_with fail
                    refine H3.out.mono ?_
                    rintro e w13 ⟨b2, c2, rfl, hm⟩
                    have M13 := Lib.hid (show Mem w [] w13 [RowA 39 2 none 0 0 (srFlat (pickS S2 t 0)), RowA 39 2 b2 s2 c2 (srFlat S2), RowA 39 2 b m d (srFlat (pickS S1 t q)), RowA 36 3 sb k sd (mkFlat s), RowI (some ⟨gl, 0, none⟩) od O] from by
                      have h1 := M12.out.made hm
                      rw [show RowS b2 c2 S2 = RowA 39 2 b2 s2 c2 (srFlat S2) by unfold RowS; rw [HS2.out]] at h1
                      exact h1.new (Below.refl _ _) (As := [RowA 39 2 none 0 0 []]) (all_one ⟨rfl, Row.nil _ _ _⟩) (by simp [blkOf]))
                    clear hm H3 M12
                    go_wp2_with fail
                    go_loopw [11, 93] (fun v j wr => ∃ p b' d' m', p ≤ s2 ∧ m' ≤ p ∧ v = .slice b' m' d' ∧ j = .int .i64 (p : Nat) ∧ Hid (m' = (pickS S2 t p).length ∧ Mem w [] wr [RowA 39 2 b' m' d' (srFlat (pickS S2 t p)), RowA 39 2 b2 s2 c2 (srFlat S2), RowA 39 2 b m d (srFlat (pickS S1 t q)), RowA 36 3 sb k sd (mkFlat s), RowI (some ⟨gl, 0, none⟩) od O])) (fun _ j _ => s2 - (intOf j).toNat)
                    case atStart => exact ⟨0, none, 0, 0, Nat.zero_le _, Nat.le_refl _, rfl, rfl, Lib.hid ⟨rfl, M13.out⟩⟩
                    case round =>
                      obtain ⟨W4, rfl⟩ : ∃ W4, W4 = wr := ⟨_, rfl⟩
                      obtain ⟨p, b', d', m', hp, hmp, rfl, rfl, HS⟩ := hrel
                      clear M13
                      have HM' := Lib.hid HS.out.1
                      have M14 := Lib.hid HS.out.2
                      clear HS
                      by_cases hlp : p < s2
                      · have hlp' : p < S2.length := by rw [HS2.out]; exact hlp
                        obtain ⟨g2, rfl, hx1, hx2⟩ := srAt_row (Mem.rowAt [RowA 39 2 b' m' d' (srFlat (pickS S2 t p))] (r := [RowA 39 2 b m d (srFlat (pickS S1 t q)), RowA 36 3 sb k sd (mkFlat s), RowI (some ⟨gl, 0, none⟩) od O]) M14.out) p hlp'
                        have HU := Lib.hid (pickS_succ S2 t p hlp')
                        have M15 := Lib.hid (M14.out.block #[.int .i64 S2[p].tx, .int .i64 S2[p].wr] 39)
                        clear M14
                        generalize S2[p] = x at *
                        obtain ⟨xt, xw⟩ := x
                        simp only at hx1 hx2 M15 HU
                        obtain ⟨z0, -⟩ := M15.out.block_cell (i := 0) (v := .int .i64 xt) rfl
                        obtain ⟨z1, -⟩ := M15.out.block_cell (i := 1) (v := .int .i64 xw) rfl
                        by_cases ht : xt = t
                        · have ht' : (xt == t) = true := by simpa using ht
                          rw [ht'] at HU
                          obtain ⟨b4, d4, w15, hrun4, mB⟩ := Mem.app1 (P := Try.prog) (t := 27) (ty := 27) [BlockA W4.heap.size #[.int .i64 xt, .int .i64 xw] 39] (r := [RowA 39 2 (some ⟨g2, 0, none⟩) s2 c2 (srFlat S2), RowA 39 2 b m d (srFlat (pickS S1 t q)), RowA 36 3 sb k sd (mkFlat s), RowI (some ⟨gl, 0, none⟩) od O]) Try.underlying27 infoSr (by rfl) (by decide) M15.out [.int .i64 xt, .int .i64 xw] (by rfl) (by simp [Value.oneCell']) (by omega) (by decide)
                          rw [show (W4.alloc (.cells #[.int .i64 xt, .int .i64 xw] 39)).heap.size = W4.heap.size + 1 by simp] at hrun4
                          have HRUN := Lib.hid hrun4
                          have HX : Hid (m' + 1 = (pickS S2 t (p + 1)).length ∧ Mem w [] w15 [RowA 39 2 b4 (m' + 1) d4 (srFlat (pickS S2 t (p + 1))), RowA 39 2 (some ⟨g2, 0, none⟩) s2 c2 (srFlat S2), RowA 39 2 b m d (srFlat (pickS S1 t q)), RowA 36 3 sb k sd (mkFlat s), RowI (some ⟨gl, 0, none⟩) od O]) := Lib.hid (by
                            have hU := HU.out
                            rw [if_pos rfl] at hU
                            rw [hU]
                            refine ⟨by rw [HM'.out]; simp, ?_⟩
                            rw [srFlat_append]
                            exact Mem.drop [] (A := BlockA W4.heap.size #[.int .i64 xt, .int .i64 xw] 39) (r := [RowA 39 2 b4 (m' + 1) d4 (srFlat (pickS S2 t p) ++ [.int .i64 xt, .int .i64 xw]), RowA 39 2 (some ⟨g2, 0, none⟩) s2 c2 (srFlat S2), RowA 39 2 b m d (srFlat (pickS S1 t q)), RowA 36 3 sb k sd (mkFlat s), RowI (some ⟨gl, 0, none⟩) od O]) mB)
                          clear hrun4 mB HU HM' M15 ht
                          go_wp2_with ((at_builtin; refine wpList_appendR _ rfl (.tmp 101) (.tmp 103) 27 27 rfl (.slice b' m' d') (.slice (some ⟨W4.heap.size + 1, 0, none⟩) 1 1) rfl rfl HRUN.out ?_))
                          go_roundw
                          case rel => exact ⟨p + 1, b4, d4, m' + 1, by omega, by omega, rfl, by go_num, HX⟩
                          case measure => simp [intOf]; omega
                        · have ht' : (xt == t) = false := by simpa using ht
                          rw [ht'] at HU
                          have HX : Hid (m' = (pickS S2 t (p + 1)).length ∧ Mem w [] (W4.alloc (.cells #[.int .i64 xt, .int .i64 xw] 39)) [RowA 39 2 b' m' d' (srFlat (pickS S2 t (p + 1))), RowA 39 2 (some ⟨g2, 0, none⟩) s2 c2 (srFlat S2), RowA 39 2 b m d (srFlat (pickS S1 t q)), RowA 36 3 sb k sd (mkFlat s), RowI (some ⟨gl, 0, none⟩) od O]) := Lib.hid (by
                            have hU := HU.out
                            rw [if_neg (by simp), List.append_nil] at hU
                            rw [hU]
                            exact ⟨HM'.out, Mem.drop [] (A := BlockA W4.heap.size #[.int .i64 xt, .int .i64 xw] 39) (r := [RowA 39 2 b' m' d' (srFlat (pickS S2 t p)), RowA 39 2 (some ⟨g2, 0, none⟩) s2 c2 (srFlat S2), RowA 39 2 b m d (srFlat (pickS S1 t q)), RowA 36 3 sb k sd (mkFlat s), RowI (some ⟨gl, 0, none⟩) od O]) M15.out⟩)
                          clear HU HM' M15 ht
                          go_wp2_with fail
                          go_roundw
                          case rel => exact ⟨p + 1, b', d', m', by omega, by omega, rfl, by go_num, HX⟩
                          case measure => simp [intOf]; omega
                      · obtain rfl : p = s2 := by omega
                        have hpe : pickS S2 t p = pickS S1 t q := by
                          have := HEQ.out
                          unfold pickS
                          rw [← HS1.out, ← HS2.out, List.take_length, List.take_length]; exact this
                        have hmm' : m' = m := by rw [HM'.out, hpe, ← HM.out]
                        subst hmm'
                        have hrow2 := Mem.rowAt [] (r := [RowA 39 2 b2 p c2 (srFlat S2), RowA 39 2 b m' d (srFlat (pickS S1 t q)), RowA 36 3 sb k sd (mkFlat s), RowI (some ⟨gl, 0, none⟩) od O]) M14.out
                        rw [hpe] at hrow2
                        have H4 := Lib.hid (same_s b b' d d' m' (pickS S1 t q) W4 HM.out (Mem.rowAt [RowA 39 2 b' m' d' (srFlat (pickS S2 t p)), RowA 39 2 b2 p c2 (srFlat S2)] (r := [RowA 36 3 sb k sd (mkFlat s), RowI (some ⟨gl, 0, none⟩) od O]) M14.out) hrow2 (by omega))
                        have M15 := Lib.hid (Mem.drop [] (A := RowA 39 2 b' m' d' (srFlat (pickS S2 t p))) (r := [RowA 36 3 sb k sd (mkFlat s), RowI (some ⟨gl, 0, none⟩) od O]) (Mem.drop [RowA 39 2 b' m' d' (srFlat (pickS S2 t p))] (A := RowA 39 2 b2 p c2 (srFlat S2)) (r := [RowA 36 3 sb k sd (mkFlat s), RowI (some ⟨gl, 0, none⟩) od O]) (Mem.drop [RowA 39 2 b' m' d' (srFlat (pickS S2 t p)), RowA 39 2 b2 p c2 (srFlat S2)] (A := RowA 39 2 b m' d (srFlat (pickS S1 t q))) (r := [RowA 36 3 sb k sd (mkFlat s), RowI (some ⟨gl, 0, none⟩) od O]) M14.out)))
                        clear M14 HM' HM HEQ hpe hrow2 HS1 HS2
                        go_wp2_with fail
                        refine H4.out.mono ?_
                        rintro e w16 ⟨rfl, hb⟩
                        have M16 := Lib.hid (M15.out.below hb)
                        clear hb H4 M15
                        go_wp2_with fail
                        go_roundw
                        case rel => exact ⟨i + 1, by omega, by go_num, M16⟩
                        case measure => simp [intOf]; omega
              · obtain rfl : i = on := by omega
                have M10 := Lib.hid (Mem.drop [RowA 36 3 sb k sd (mkFlat s)] (A := RowI ob od O) (r := []) M9.out)
                have HLW := Lib.hid (HP.out.lastW HSS.out)
                clear M9 HSO HP HKP HRS HON
                go_wp2_with fail
                go_loopw [113] (fun j wr => ∃ z : Nat, z ≤ k ∧ j = .int .i64 z ∧ Hid (Mem w [] wr [RowA 36 3 sb k sd (mkFlat s)])) (fun j _ => k - (intOf j).toNat)
                case atStart => exact ⟨0, Nat.zero_le _, rfl, M10⟩
                case round =>
                  obtain ⟨W5, rfl⟩ : ∃ W5, W5 = wr := ⟨_, rfl⟩
                  obtain ⟨z, hz, rfl, M11⟩ := hrel
                  clear M10
                  by_cases hlz : z < k
                  · have hlz' : z < l.length := by rw [← HL.out]; exact hlz
                    obtain ⟨g, off, rfl, hcA, hcB, hcD⟩ := (HA.out.below M11.out.bel).at z hlz'
                    have HEQ := Lib.hid (HLW.out l[z].key)
                    rw [HSL.out, ← HL.out] at HEQ
                    have M12 := Lib.hid (M11.out.block #[.int .i64 l[z].kind, .int .i64 l[z].tx, .string l[z].key] 36)
                    clear M11
                    generalize l[z] = x at *
                    obtain ⟨xk, xt, xy⟩ := x
                    simp only at hcA hcB hcD M12 HEQ
                    go_wp2_with fail
                    obtain ⟨W6, hW6⟩ : ∃ W6, W6 = W5.alloc (.cells #[.int .i64 xk, .int .i64 xt, .string xy] 36) := ⟨_, rfl⟩
                    rw [← hW6] at M12 ⊢
                    clear hW6 hcA hcB hcD
                    generalize W5.heap.size = b17 at *
                    go_loopw [18, 119] (fun v j wr => ∃ q : Nat, q ≤ k ∧ v = .int .i64 (lastU l xy q) ∧ j = .int .i64 q ∧ Hid (Mem w [] wr [BlockA b17 #[.int .i64 xk, .int .i64 xt, .string xy] 36, RowA 36 3 sb k sd (mkFlat s)])) (fun _ j _ => k - (intOf j).toNat)
                    case atStart => exact ⟨0, Nat.zero_le _, rfl, rfl, M12⟩
                    case round =>
                      obtain ⟨W7, rfl⟩ : ∃ W7, W7 = wr := ⟨_, rfl⟩
                      obtain ⟨q, hq, rfl, rfl, M13⟩ := hrel
                      clear M12
                      by_cases hlq : q < k
                      · have hlq' : q < l.length := by rw [← HL.out]; exact hlq
                        obtain ⟨g', off', he, hdA, hdB, hdD⟩ := (HA.out.below M13.out.bel).at q hlq'
                        obtain ⟨rfl, rfl⟩ : g = g' ∧ off = off' := by simpa using he
                        clear he
                        have HU := Lib.hid (lastU_succ l xy q hlq')
                        have M14 := Lib.hid (M13.out.block #[.int .i64 l[q].kind, .int .i64 l[q].tx, .string l[q].key] 36)
                        clear M13
                        generalize l[q] = y at *
                        obtain ⟨yk, yt, yy⟩ := y
                        simp only at hdA hdB hdD M14 HU
                        obtain ⟨k0, k1, k2⟩ := box_cells M14.out
                        obtain ⟨j0, j1, j2⟩ := box_cells2 M14.out
                        have M15 := Lib.hid (Mem.drop [] (A := BlockA W7.heap.size #[.int .i64 yk, .int .i64 yt, .string yy] 36) (r := [BlockA b17 #[.int .i64 xk, .int .i64 xt, .string xy] 36, RowA 36 3 sb k sd (mkFlat s)]) M14.out)
                        clear M14
                        by_cases h2 : yk = 2
                        · subst h2
                          cases hky : (yy.toList == xy.toList) with
                          | true =>
                            have HX : Hid (yt = lastU l xy (q + 1)) := Lib.hid (by rw [HU.out, hky]; rfl)
                            clear HU
                            go_wp2_with fail
                            go_roundw
                            case rel => exact ⟨q + 1, by omega, by rw [HX.out], by go_num, M15⟩
                            case measure => simp [intOf]; omega
                          | false =>
                            have HX : Hid (lastU l xy q = lastU l xy (q + 1)) := Lib.hid (by rw [HU.out, hky]; rfl)
                            clear HU
                            go_wp2_with fail
                            go_roundw
                            case rel => exact ⟨q + 1, by omega, by rw [HX.out], by go_num, M15⟩
                            case measure => simp [intOf]; omega
                        · have h2' : (yk == 2) = false := by simpa using h2
                          have HX : Hid (lastU l xy q = lastU l xy (q + 1)) := Lib.hid (by rw [HU.out, h2']; rfl)
                          clear HU h2
                          go_wp2_with fail
                          go_roundw
                          case rel => exact ⟨q + 1, by omega, by rw [HX.out], by go_num, M15⟩
                          case measure => simp [intOf]; omega
                      · obtain rfl : q = k := by omega
                        generalize lastU l xy q = x0 at *
                        go_wp2_with fail
                        go_loopw [19, 138] (fun v j wr => ∃ p : Nat, p ≤ q ∧ v = .int .i64 (lastU s xy p) ∧ j = .int .i64 p ∧ Hid (Mem w [] wr [BlockA b17 #[.int .i64 xk, .int .i64 xt, .string xy] 36, RowA 36 3 sb q sd (mkFlat s)])) (fun _ j _ => q - (intOf j).toNat)
                        case atStart => exact ⟨0, Nat.zero_le _, rfl, rfl, M13⟩
                        case round =>
                          obtain ⟨W8, rfl⟩ : ∃ W8, W8 = wr := ⟨_, rfl⟩
                          obtain ⟨p, hp, rfl, rfl, M14⟩ := hrel
                          clear M13
                          by_cases hlp : p < q
                          · have hlp' : p < s.length := by rw [HSL.out]; exact hlp
                            obtain ⟨gs, rfl, hdA, hdB, hdD⟩ := mkAt_row (Mem.rowAt [BlockA b17 #[.int .i64 xk, .int .i64 xt, .string xy] 36] (r := []) M14.out) p hlp'
                            have HU := Lib.hid (lastU_succ s xy p hlp')
                            have M15 := Lib.hid (M14.out.block #[.int .i64 s[p].kind, .int .i64 s[p].tx, .string s[p].key] 36)
                            clear M14
                            generalize s[p] = y at *
                            obtain ⟨yk, yt, yy⟩ := y
                            simp only at hdA hdB hdD M15 HU
                            obtain ⟨k0, k1, k2⟩ := box_cells M15.out
                            obtain ⟨j0, j1, j2⟩ := box_cells2 M15.out
                            have M16 := Lib.hid (Mem.drop [] (A := BlockA W8.heap.size #[.int .i64 yk, .int .i64 yt, .string yy] 36) (r := [BlockA b17 #[.int .i64 xk, .int .i64 xt, .string xy] 36, RowA 36 3 (some ⟨gs, 0, none⟩) q sd (mkFlat s)]) M15.out)
                            clear M15
                            by_cases h2 : yk = 2
                            · subst h2
                              cases hky : (yy.toList == xy.toList) with
                              | true =>
                                have HX : Hid (yt = lastU s xy (p + 1)) := Lib.hid (by rw [HU.out, hky]; rfl)
                                clear HU
                                go_wp2_with fail
                                go_roundw
                                case rel => exact ⟨p + 1, by omega, by rw [HX.out], by go_num, M16⟩
                                case measure => simp [intOf]; omega
                              | false =>
                                have HX : Hid (lastU s xy p = lastU s xy (p + 1)) := Lib.hid (by rw [HU.out, hky]; rfl)
                                clear HU
                                go_wp2_with fail
                                go_roundw
                                case rel => exact ⟨p + 1, by omega, by rw [HX.out], by go_num, M16⟩
                                case measure => simp [intOf]; omega
                            · have h2' : (yk == 2) = false := by simpa using h2
                              have HX : Hid (lastU s xy p = lastU s xy (p + 1)) := Lib.hid (by rw [HU.out, h2']; rfl)
                              clear HU h2
                              go_wp2_with fail
                              go_roundw
                              case rel => exact ⟨p + 1, by omega, by rw [HX.out], by go_num, M16⟩
                              case measure => simp [intOf]; omega
                          · obtain rfl : p = q := by omega
                            have hxe := HEQ.out
                            rw [hxe]
                            have hxx : (x0 != x0) = false := by simp
                            have M15 := Lib.hid (Mem.drop [] (A := BlockA b17 #[.int .i64 xk, .int .i64 xt, .string xy] 36) (r := [RowA 36 3 sb p sd (mkFlat s)]) M14.out)
                            clear M14 HEQ hxe
                            go_wp2_with fail
                            go_roundw
                            case rel => exact ⟨z + 1, by omega, by go_num, M15⟩
                            case measure => simp [intOf]; omega
                  · obtain rfl : z = k := by omega
                    go_wp2_with fail
                    go_ret
                    exact ⟨rfl, M11.out.bel⟩
    · have hq2 : (rightM l != 0) = true := by simpa using h0
      clear h0
      generalize rightM l = q at *
      go_enter Try.func5, Try.ntmps5
      go_wp2_with fail
      refine HF.out.mono ?_
      rintro e w1 ⟨rfl, hb⟩
      have M1 := Lib.hid ((Mem.nil w).below hb)
      clear hb
      have H1 := Lib.hid (HFEW.out _ M1.out.bel)
      go_wp2_with fail
      refine H1.out.mono ?_
      rintro e w2 ⟨rfl, hb⟩
      have M2 := Lib.hid (M1.out.below hb)
      clear hb H1 M1
      have H1 := Lib.hid (HRR.out _ M2.out.bel)
      go_wp2_with fail
      refine H1.out.mono ?_
      rintro e w3 ⟨rfl, hb⟩
      have HB3 := Lib.hid (M2.out.below hb).bel
      clear hb H1 M2
      go_wp2_with fail
      go_ret
      exact ⟨rfl, HB3.out⟩
end Go.Proofs.Ytbgabdofnmijnaa
