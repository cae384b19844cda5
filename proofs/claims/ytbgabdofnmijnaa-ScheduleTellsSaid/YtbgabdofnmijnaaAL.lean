/- The document's Recoverable and Apart, walked. -/
import Derived.Test.YtbgabdofnmijnaaAK
namespace Go.Proofs.Ytbgabdofnmijnaa
open Go.RowKit
set_option maxRecDepth 100000 in
set_option maxHeartbeats 8000000 in
theorem rrec_any (a : Option Addr) (n c : Nat) (l : List Mk) (w : World) (hr : MksAt w a n l) (hn : n ≤ 1000) (hnc : n ≤ c) (h0 : rightM l = 0) :
    Calls Try.prog 25 #[.slice a n c] w fun e w' => e = .returned (.bool (readsB l (recH l))) ∧ Below w.heap.size w w' := by
  have hR := ((right_iff l).1 h0).2
  have HSRC := Lib.hid fun k W (hb : Below w.heap.size w W) (hk : k < n) => rsource_any a n c l k W (hr.below hb) hn hnc hk hR
  have HIS := Lib.hid fun tx k W (hb : Below w.heap.size w W) (hk : k ≤ n) => is_any a n c l 3 tx k W (hr.below hb) hn hnc hk
  have HL := Lib.hid hr.1
  have HR := Lib.hid hr
  have HOK : Hid ((∀ i (h : i < l.length), recR l i l[i] = true) → readsB l (recH l) = true) := Lib.hid fun h => readsB_true h0 fun i hi => by rw [← recR_eq hR i hi]; exact h i hi
  have HNO : Hid (∀ i (h : i < l.length), recR l i l[i] = false → readsB l (recH l) = false) := Lib.hid fun i hi h => readsB_false h0 i hi (by rw [← recR_eq hR i hi]; exact h)
  clear hr h0 hR
  generalize hrb : readsB l (recH l) = rb at *
  clear hrb
  go_enter Try.func25, Try.ntmps25
  go_wp2_with fail
  go_loopw [10] (fun j wr => ∃ k : Nat, k ≤ n ∧ j = .int .i64 k ∧ Hid ((∀ i (h : i < l.length), i < k → recR l i l[i] = true) ∧ Mem w [] wr [])) (fun j _ => n - (intOf j).toNat)
  case atStart => exact ⟨0, Nat.zero_le _, rfl, Lib.hid ⟨fun i h hi => by omega, Mem.nil w⟩⟩
  case round =>
    obtain ⟨W1, rfl⟩ : ∃ W1, W1 = wr := ⟨_, rfl⟩
    obtain ⟨k, hk, rfl, HS⟩ := hrel
    have HALL := Lib.hid HS.out.1
    have M1 := Lib.hid HS.out.2
    clear HS
    by_cases hlt : k < n
    · have hlt' : k < l.length := by rw [← HL.out]; exact hlt
      obtain ⟨g, off, rfl, hcA, hcB, hcD⟩ := (HR.out.below M1.out.bel).at k hlt'
      have HNX := Lib.hid fun (h : recR l k l[k] = true) => (show ∀ i (h : i < l.length), i < k + 1 → recR l i l[i] = true from fun i hi hik => by
        by_cases e : i = k
        · subst e; exact h
        · exact HALL.out i hi (by omega))
      have HBAD := Lib.hid (HNO.out k hlt')
      have M2 := Lib.hid (M1.out.block #[.int .i64 l[k].kind, .int .i64 l[k].tx, .string l[k].key] 36)
      have H1 := Lib.hid (HSRC.out k _ M2.out.bel hlt)
      unfold recR at HNX HBAD
      clear HALL M1
      generalize l[k] = x at *
      obtain ⟨xk, xt, xy⟩ := x
      simp only at hcA hcB hcD M2 HNX HBAD H1
      obtain ⟨k0, k1, k2⟩ := box_cells M2.out
      by_cases h1 : xk = 1
      · subst h1
        have hk1 : ((1 : Int) != 1) = false := rfl
        generalize sourceM l k = sv at *
        go_wp2_with fail
        refine H1.out.mono ?_
        rintro e w2 ⟨rfl, hb⟩
        have M3 := Lib.hid (M2.out.below hb)
        clear hb M2 k0 k1 k2 H1
        obtain ⟨k0, k1, k2⟩ := box_cells M3.out
        by_cases h2 : sv < 0
        · have HX := Lib.hid (And.intro (HNX.out (by rw [decide_eq_true h2]; simp)) (Mem.drop [] (A := BlockA W1.heap.size #[.int .i64 1, .int .i64 xt, .string xy] 36) (r := []) M3.out))
          clear HNX HBAD M3
          go_wp2_with fail
          go_roundw
          case rel => exact ⟨k + 1, by omega, by go_num, HX⟩
          case measure => simp [intOf]; omega
        · by_cases h3 : sv = xt
          · have h3' : (sv == xt) = true := by simpa using h3
            have HX := Lib.hid (And.intro (HNX.out (by rw [h3']; simp)) (Mem.drop [] (A := BlockA W1.heap.size #[.int .i64 1, .int .i64 xt, .string xy] 36) (r := []) M3.out))
            clear HNX HBAD M3 h3
            go_wp2_with fail
            go_roundw
            case rel => exact ⟨k + 1, by omega, by go_num, HX⟩
            case measure => simp [intOf]; omega
          · have h3' : (sv == xt) = false := by simpa using h3
            have HNX2 := Lib.hid fun (h : ∀ j (hj : j < l.length), (l[j].kind == 3 && l[j].tx == xt && !isR l 3 sv j) = false) => HNX.out (by
              rw [show ((List.range l.length).all fun j => !(l[j]!.kind == 3 && l[j]!.tx == xt && !isR l 3 sv j)) = true from by
                rw [List.all_eq_true]
                intro j hj
                have hj' : j < l.length := List.mem_range.1 hj
                rw [getElem!_pos l j hj', h j hj']; rfl]
              simp)
            have HBAD2 := Lib.hid fun j (hj : j < l.length) (h : (l[j].kind == 3 && l[j].tx == xt && !isR l 3 sv j) = true) => HBAD.out (by
              rw [show ((List.range l.length).all fun j => !(l[j]!.kind == 3 && l[j]!.tx == xt && !isR l 3 sv j)) = false from by
                rw [List.all_eq_false]
                exact ⟨j, List.mem_range.2 hj, by rw [getElem!_pos l j hj, h]; simp⟩]
              rw [decide_eq_false h2, h3']; rfl)
            clear HNX HBAD h3
            go_wp2_with fail
            generalize W1.heap.size = b4 at *
            go_loopw [31] (fun j wr => ∃ q : Nat, q ≤ n ∧ j = .int .i64 q ∧ Hid ((∀ j (hj : j < l.length), j < q → (l[j].kind == 3 && l[j].tx == xt && !isR l 3 sv j) = false) ∧ Mem w [] wr [BlockA b4 #[.int .i64 1, .int .i64 xt, .string xy] 36])) (fun j _ => n - (intOf j).toNat)
            case atStart => exact ⟨0, Nat.zero_le _, rfl, Lib.hid ⟨fun i h hi => by omega, M3.out⟩⟩
            case round =>
              obtain ⟨W2, rfl⟩ : ∃ W2, W2 = wr := ⟨_, rfl⟩
              obtain ⟨q, hq, rfl, HS⟩ := hrel
              clear M3 k0 k1 k2
              have HALL := Lib.hid HS.out.1
              have M4 := Lib.hid HS.out.2
              clear HS
              by_cases hlq : q < n
              · have hlq' : q < l.length := by rw [← HL.out]; exact hlq
                obtain ⟨g', off', he, hdA, hdB, hdD⟩ := (HR.out.below M4.out.bel).at q hlq'
                obtain ⟨rfl, rfl⟩ : g = g' ∧ off = off' := by simpa using he
                clear he
                have HN3 := Lib.hid fun (h : (l[q].kind == 3 && l[q].tx == xt && !isR l 3 sv q) = false) => (show ∀ j (hj : j < l.length), j < q + 1 → (l[j].kind == 3 && l[j].tx == xt && !isR l 3 sv j) = false from fun j hj hjq => by
                  by_cases e : j = q
                  · subst e; exact h
                  · exact HALL.out j hj (by omega))
                have HB3 := Lib.hid (HBAD2.out q hlq')
                have M5 := Lib.hid (M4.out.block #[.int .i64 l[q].kind, .int .i64 l[q].tx, .string l[q].key] 36)
                have H2 := Lib.hid (HIS.out sv q _ M5.out.bel (by omega))
                clear HALL M4
                generalize l[q] = y at *
                obtain ⟨yk, yt, yy⟩ := y
                simp only at hdA hdB hdD M5 HN3 HB3 H2
                obtain ⟨k0, k1, k2⟩ := box_cells M5.out
                obtain ⟨j0, j1, j2⟩ := box_cells2 M5.out
                by_cases e3 : yk = 3
                · subst e3
                  by_cases e4 : yt = xt
                  · have e4' : (yt == xt) = true := by simpa using e4
                    rw [e4'] at HN3 HB3
                    cases hh : isR l 3 sv q with
                    | true =>
                      rw [hh] at H2 HN3
                      have HN4 := Lib.hid (HN3.out rfl)
                      clear HN3 HB3 e4 hh
                      go_wp2_with fail
                      refine H2.out.mono ?_
                      rintro e w3 ⟨rfl, hb⟩
                      have HX := Lib.hid (And.intro HN4.out (Mem.drop [] (A := BlockA W2.heap.size #[.int .i64 3, .int .i64 yt, .string yy] 36) (r := [BlockA b4 #[.int .i64 1, .int .i64 xt, .string xy] 36]) (M5.out.below hb)))
                      clear hb M5 H2 HN4
                      go_wp2_with fail
                      go_roundw
                      case rel => exact ⟨q + 1, by omega, by go_num, HX⟩
                      case measure => simp [intOf]; omega
                    | false =>
                      rw [hh] at H2 HB3
                      have HB4 := Lib.hid (HB3.out rfl)
                      clear HN3 HB3 e4 hh
                      go_wp2_with fail
                      refine H2.out.mono ?_
                      rintro e w3 ⟨rfl, hb⟩
                      have HX := Lib.hid ((M5.out.below hb).bel)
                      clear hb M5 H2
                      go_wp2_with fail
                      go_ret
                      exact ⟨by rw [HB4.out]; rfl, HX.out⟩
                  · have e4' : (yt == xt) = false := by simpa using e4
                    have HX := Lib.hid (And.intro (HN3.out (by rw [e4']; rfl)) (Mem.drop [] (A := BlockA W2.heap.size #[.int .i64 3, .int .i64 yt, .string yy] 36) (r := [BlockA b4 #[.int .i64 1, .int .i64 xt, .string xy] 36]) M5.out))
                    clear HN3 HB3 e4 H2 M5
                    go_wp2_with fail
                    go_roundw
                    case rel => exact ⟨q + 1, by omega, by go_num, HX⟩
                    case measure => simp [intOf]; omega
                · have e3' : (yk == 3) = false := by simpa using e3
                  have HX := Lib.hid (And.intro (HN3.out (by rw [e3']; rfl)) (Mem.drop [] (A := BlockA W2.heap.size #[.int .i64 yk, .int .i64 yt, .string yy] 36) (r := [BlockA b4 #[.int .i64 1, .int .i64 xt, .string xy] 36]) M5.out))
                  clear HN3 HB3 e3 H2 M5
                  go_wp2_with fail
                  go_roundw
                  case rel => exact ⟨q + 1, by omega, by go_num, HX⟩
                  case measure => simp [intOf]; omega
              · obtain rfl : q = n := by omega
                have HX := Lib.hid (And.intro (HNX2.out fun j hj => HALL.out j hj (by rw [HL.out]; exact hj)) (Mem.drop [] (A := BlockA b4 #[.int .i64 1, .int .i64 xt, .string xy] 36) (r := []) M4.out))
                clear HALL M4 HNX2 HBAD2
                go_wp2_with fail
                go_roundw
                case rel => exact ⟨k + 1, by omega, by go_num, HX⟩
                case measure => simp [intOf]; omega
      · have h1' : (xk == 1) = false := by simpa using h1
        have h1b : (xk != 1) = true := by simpa using h1
        have HX := Lib.hid (And.intro (HNX.out (by rw [h1']; rfl)) (Mem.drop [] (A := BlockA W1.heap.size #[.int .i64 xk, .int .i64 xt, .string xy] 36) (r := []) M2.out))
        clear HNX HBAD M2 h1 H1
        go_wp2_with fail
        go_roundw
        case rel => exact ⟨k + 1, by omega, by go_num, HX⟩
        case measure => simp [intOf]; omega
    · obtain rfl : k = n := by omega
      have HX := Lib.hid (And.intro (HOK.out fun i hi => HALL.out i hi (by rw [HL.out]; exact hi)) M1.out.bel)
      clear HALL M1
      go_wp2_with fail
      go_ret
      exact ⟨by rw [HX.out.1]; rfl, HX.out.2⟩
set_option maxRecDepth 100000 in
set_option maxHeartbeats 8000000 in
/-- strict, and rigorous. -/
theorem rapart_any (a : Option Addr) (n c : Nat) (l : List Mk) (rd : Bool) (R : Bool) (w : World) (hr : MksAt w a n l) (hn : n ≤ 1000) (hnc : n ≤ c)
    (hOK : (∀ i (hi : i < l.length), ∀ j (hj : j < l.length), j < i → badR l rd i l[j] l[i] = false) → R = true) (hNO : ∀ i (hi : i < l.length) j (hj : j < l.length), j < i → badR l rd i l[j] l[i] = true → R = false) :
    Calls Try.prog 27 #[.slice a n c, .bool rd] w fun e w' => e = .returned (.bool R) ∧ Below w.heap.size w w' := by
  have HEN := Lib.hid fun tx k W (hb : Below w.heap.size w W) (hk : k ≤ n) => ended_any a n c l tx k W (hr.below hb) hn hnc hk
  have HL := Lib.hid hr.1
  have HR := Lib.hid hr
  have HOK := Lib.hid hOK
  have HNO := Lib.hid hNO
  clear hr hOK hNO
  go_enter Try.func27, Try.ntmps27
  go_wp2_with fail
  go_loopw [11] (fun j wr => ∃ k : Nat, k ≤ n ∧ j = .int .i64 k ∧ Hid ((∀ i (hi : i < l.length), i < k → ∀ j (hj : j < l.length), j < i → badR l rd i l[j] l[i] = false) ∧ Mem w [] wr [])) (fun j _ => n - (intOf j).toNat)
  case atStart => exact ⟨0, Nat.zero_le _, rfl, Lib.hid ⟨fun i h hi => by omega, Mem.nil w⟩⟩
  case round =>
    obtain ⟨W1, rfl⟩ : ∃ W1, W1 = wr := ⟨_, rfl⟩
    obtain ⟨k, hk, rfl, HS⟩ := hrel
    have HALL := Lib.hid HS.out.1
    have M1 := Lib.hid HS.out.2
    clear HS
    by_cases hlt : k < n
    · have hlt' : k < l.length := by rw [← HL.out]; exact hlt
      obtain ⟨g, off, rfl, hcA, hcB, hcD⟩ := (HR.out.below M1.out.bel).at k hlt'
      have HNX := Lib.hid fun (h : ∀ j (hj : j < l.length), j < k → badR l rd k l[j] l[k] = false) => (show ∀ i (hi : i < l.length), i < k + 1 → ∀ j (hj : j < l.length), j < i → badR l rd i l[j] l[i] = false from fun i hi hik => by
        by_cases e : i = k
        · subst e; exact h
        · exact HALL.out i hi (by omega))
      have HBAD := Lib.hid (HNO.out k hlt')
      have M2 := Lib.hid (M1.out.block #[.int .i64 l[k].kind, .int .i64 l[k].tx, .string l[k].key] 36)
      clear HALL M1
      generalize l[k] = x at *
      obtain ⟨xk, xt, xy⟩ := x
      simp only at hcA hcB hcD M2
      have hkc : k ≤ c := by omega
      go_wp2_with fail
      obtain ⟨W2, hW2⟩ : ∃ W2, W2 = W1.alloc (.cells #[.int .i64 xk, .int .i64 xt, .string xy] 36) := ⟨_, rfl⟩
      rw [← hW2] at M2 ⊢
      clear hW2 hcA hcB hcD
      generalize W1.heap.size = b6 at *
      go_loopw [20] (fun j wr => ∃ q : Nat, q ≤ k ∧ j = .int .i64 q ∧ Hid ((∀ j (hj : j < l.length), j < q → badR l rd k l[j] ⟨xk, xt, xy⟩ = false) ∧ Mem w [] wr [BlockA b6 #[.int .i64 xk, .int .i64 xt, .string xy] 36])) (fun j _ => k - (intOf j).toNat)
      case atStart => exact ⟨0, Nat.zero_le _, rfl, Lib.hid ⟨fun i h hi => by omega, M2.out⟩⟩
      case round =>
        obtain ⟨W3, rfl⟩ : ∃ W3, W3 = wr := ⟨_, rfl⟩
        obtain ⟨q, hq, rfl, HS⟩ := hrel
        clear M2
        have HALL := Lib.hid HS.out.1
        have M3 := Lib.hid HS.out.2
        clear HS
        by_cases hlq : q < k
        · have hlq' : q < l.length := by omega
          obtain ⟨g', off', he, hdA, hdB, hdD⟩ := (HR.out.below M3.out.bel).at q hlq'
          obtain ⟨rfl, rfl⟩ : g = g' ∧ off = off' := by simpa using he
          clear he
          have HN2 := Lib.hid fun (h : badR l rd k l[q] ⟨xk, xt, xy⟩ = false) => (show ∀ j (hj : j < l.length), j < q + 1 → badR l rd k l[j] ⟨xk, xt, xy⟩ = false from fun j hj hjq => by
            by_cases e : j = q
            · subst e; exact h
            · exact HALL.out j hj (by omega))
          have HB2 := Lib.hid (HBAD.out q hlq' hlq)
          have M4 := Lib.hid (M3.out.block #[.int .i64 l[q].kind, .int .i64 l[q].tx, .string l[q].key] 36)
          have HE1 := Lib.hid (HEN.out l[q].tx k _ M4.out.bel (by omega))
          unfold badR at HN2 HB2
          clear HALL M3
          generalize l[q] = z at *
          obtain ⟨zk, zt, zy⟩ := z
          simp only at hdA hdB hdD M4 HN2 HB2 HE1
          obtain ⟨k0, k1, k2⟩ := box_cells M4.out
          obtain ⟨j0, j1, j2⟩ := box_cells2 M4.out
          have HGO := Lib.hid fun (W : World) (hm : Mem w [] W [BlockA W3.heap.size #[.int .i64 zk, .int .i64 zt, .string zy] 36, BlockA b6 #[.int .i64 xk, .int .i64 xt, .string xy] 36]) (h : _) => And.intro (HN2.out h) (Mem.drop [] (A := BlockA W3.heap.size #[.int .i64 zk, .int .i64 zt, .string zy] 36) (r := [BlockA b6 #[.int .i64 xk, .int .i64 xt, .string xy] 36]) hm)
          clear HN2
          by_cases e1 : 2 < xk
          · have HX := Lib.hid (HGO.out _ M4.out (by rw [decide_eq_true e1]; rfl))
            clear HGO HB2 HE1 M4
            go_wp2_with fail
            go_roundw
            case rel => exact ⟨q + 1, by omega, by go_num, HX⟩
            case measure => simp [intOf]; omega
          · by_cases e2 : 2 < zk
            · have HX := Lib.hid (HGO.out _ M4.out (by rw [decide_eq_true e2]; simp))
              clear HGO HB2 HE1 M4
              go_wp2_with fail
              go_roundw
              case rel => exact ⟨q + 1, by omega, by go_num, HX⟩
              case measure => simp [intOf]; omega
            · by_cases e3 : zt = xt
              · have e3' : (zt == xt) = true := by simpa using e3
                have HX := Lib.hid (HGO.out _ M4.out (by rw [e3']; simp))
                clear HGO HB2 HE1 M4 e3
                go_wp2_with fail
                go_roundw
                case rel => exact ⟨q + 1, by omega, by go_num, HX⟩
                case measure => simp [intOf]; omega
              · have e3' : (zt == xt) = false := by simpa using e3
                clear e3
                cases hky : (zy.toList == xy.toList) with
                | false =>
                  have HX := Lib.hid (HGO.out _ M4.out (by rw [hky]; simp))
                  clear HGO HB2 HE1 M4
                  go_wp2_with fail
                  go_roundw
                  case rel => exact ⟨q + 1, by omega, by go_num, HX⟩
                  case measure => simp [intOf]; omega
                | true =>
                  cases hen : endedR l zt k with
                  | true =>
                    rw [hen] at HE1
                    go_wp2_with fail
                    refine HE1.out.mono ?_
                    rintro e w4 ⟨rfl, hb⟩
                    have HX := Lib.hid (HGO.out _ (M4.out.below hb) (by rw [hen]; simp))
                    clear hb HGO HB2 HE1 M4 k0 k1 k2 j0 j1 j2
                    go_wp2_with fail
                    go_roundw
                    case rel => exact ⟨q + 1, by omega, by go_num, HX⟩
                    case measure => simp [intOf]; omega
                  | false =>
                    rw [hen] at HE1
                    have HGO2 := Lib.hid fun W hm (h : (zk == 2 || rd && xk == 2) = false) => HGO.out W hm (by rw [h]; simp)
                    have HB3 := Lib.hid fun (h : (zk == 2 || rd && xk == 2) = true) => HB2.out (by rw [h, hen, hky, e3', decide_eq_false e1, decide_eq_false e2]; rfl)
                    clear HGO HB2 hen
                    go_wp2_with fail
                    refine HE1.out.mono ?_
                    rintro e w4 ⟨rfl, hb⟩
                    have M5 := Lib.hid (M4.out.below hb)
                    clear hb HE1 M4 k0 k1 k2 j0 j1 j2
                    obtain ⟨k0, k1, k2⟩ := box_cells M5.out
                    obtain ⟨j0, j1, j2⟩ := box_cells2 M5.out
                    by_cases e4 : zk = 2
                    · subst e4
                      have HX := Lib.hid (And.intro (HB3.out (by simp)) M5.out.bel)
                      clear HGO2 HB3 M5
                      go_wp2_with fail
                      go_ret
                      exact ⟨by rw [HX.out.1]; rfl, HX.out.2⟩
                    · have e4' : (zk == 2) = false := by simpa using e4
                      clear e4
                      cases rd with
                      | false =>
                        have HX := Lib.hid (HGO2.out _ M5.out (by rw [e4']; rfl))
                        clear HGO2 HB3 M5
                        go_wp2_with fail
                        go_roundw
                        case rel => exact ⟨q + 1, by omega, by go_num, HX⟩
                        case measure => simp [intOf]; omega
                      | true =>
                        by_cases e5 : xk = 2
                        · have e5' : (xk == 2) = true := by simpa using e5
                          have HX := Lib.hid (And.intro (HB3.out (by rw [e5']; simp)) M5.out.bel)
                          clear HGO2 HB3 M5 e5
                          go_wp2_with fail
                          go_ret
                          exact ⟨by rw [HX.out.1]; rfl, HX.out.2⟩
                        · have e5' : (xk == 2) = false := by simpa using e5
                          have HX := Lib.hid (HGO2.out _ M5.out (by rw [e4', e5']; rfl))
                          clear HGO2 HB3 M5 e5
                          go_wp2_with fail
                          go_roundw
                          case rel => exact ⟨q + 1, by omega, by go_num, HX⟩
                          case measure => simp [intOf]; omega
        · obtain rfl : q = k := by omega
          have HX := Lib.hid (And.intro (HNX.out fun j hj hjk => HALL.out j hj hjk) (Mem.drop [] (A := BlockA b6 #[.int .i64 xk, .int .i64 xt, .string xy] 36) (r := []) M3.out))
          clear HALL M3 HNX HBAD
          go_wp2_with fail
          go_roundw
          case rel => exact ⟨q + 1, by omega, by go_num, HX⟩
          case measure => simp [intOf]; omega
    · obtain rfl : k = n := by omega
      have HX := Lib.hid (And.intro (HOK.out fun i hi => HALL.out i hi (by rw [HL.out]; exact hi)) M1.out.bel)
      clear HALL M1
      go_wp2_with fail
      go_ret
      exact ⟨by rw [HX.out.1]; rfl, HX.out.2⟩
theorem rstrict_any (a : Option Addr) (n c : Nat) (l : List Mk) (w : World) (hr : MksAt w a n l) (hn : n ≤ 1000) (hnc : n ≤ c) (h0 : rightM l = 0) :
    Calls Try.prog 27 #[.slice a n c, .bool false] w fun e w' => e = .returned (.bool (apartB l strT)) ∧ Below w.heap.size w w' := by
  have hR := ((right_iff l).1 h0).2
  exact rapart_any a n c l false _ w hr hn hnc (fun h => apartB_true h0 fun i hi j hj hji => by rw [← badR_str hR j i hj hi hji]; exact h i hi j hj hji) fun i hi j hj hji h => apartB_false h0 i hi j hj hji (by rw [← badR_str hR j i hj hi hji]; exact h)
theorem rrigor_any (a : Option Addr) (n c : Nat) (l : List Mk) (w : World) (hr : MksAt w a n l) (hn : n ≤ 1000) (hnc : n ≤ c) (h0 : rightM l = 0) :
    Calls Try.prog 27 #[.slice a n c, .bool true] w fun e w' => e = .returned (.bool (apartB l rigT)) ∧ Below w.heap.size w w' := by
  have hR := ((right_iff l).1 h0).2
  exact rapart_any a n c l true _ w hr hn hnc (fun h => apartB_true h0 fun i hi j hj hji => by rw [← badR_rig hR j i hj hi hji]; exact h i hi j hj hji) fun i hi j hj hji h => apartB_false h0 i hi j hj hji (by rw [← badR_rig hR j i hj hi hji]; exact h)
end Go.Proofs.Ytbgabdofnmijnaa
