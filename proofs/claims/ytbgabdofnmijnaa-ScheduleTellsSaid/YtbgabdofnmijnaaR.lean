/- Recoverable; Cascadeless. -/
import Derived.Test.YtbgabdofnmijnaaQ
namespace Go.Proofs.Ytbgabdofnmijnaa
open Go.RowKit
def readOk (l : List Mk) (H : Int → Int → Int → Bool) (i : Nat) (m : Mk) : Bool := !(m.kind == 1) || sourceM l i == -1 || sourceM l i == m.tx || H i m.tx (sourceM l i)
def readsB (l : List Mk) (H : Int → Int → Int → Bool) : Bool := rightM l == 0 && (List.range l.length).all fun i => readOk l H i l[i]!
theorem readsB_true {l : List Mk} {H : Int → Int → Int → Bool} (h0 : rightM l = 0) (h : ∀ i (h : i < l.length), readOk l H i l[i] = true) : readsB l H = true := by
  unfold readsB
  rw [h0, show ((0 : Int) == 0) = true from rfl, Bool.true_and, List.all_eq_true]
  intro i hi
  have hi' : i < l.length := by simpa using hi
  rw [getElem!_pos l i hi']; exact h i hi'
theorem readsB_false {l : List Mk} {H : Int → Int → Int → Bool} (_ : rightM l = 0) (i : Nat) (hi : i < l.length) (h : readOk l H i l[i] = false) : readsB l H = false := by
  unfold readsB
  rw [Bool.and_eq_false_iff]
  right
  rw [List.all_eq_false]
  exact ⟨i, by simpa using hi, by rw [getElem!_pos l i hi, h]; simp⟩
theorem readsB_wrong {l : List Mk} {H : Int → Int → Int → Bool} (h0 : rightM l ≠ 0) : readsB l H = false := by
  unfold readsB
  rw [show (rightM l == 0) = false by simpa using h0]; rfl
def recH (l : List Mk) (_at tx wr : Int) : Bool := placeM l tx == (l.length : Int) || decide (placeM l wr < placeM l tx)
def casH (l : List Mk) (at_ _tx wr : Int) : Bool := decide (placeM l wr < at_)
set_option maxRecDepth 100000 in
set_option maxHeartbeats 1000000 in
theorem rec_any (bi : Nat) (a : Option Addr) (n c : Nat) (l : List Mk) (q tx wr : Int) (w : World) (hr : MksAt w a n l) (hn : n ≤ 1000000) (hc : w.cell? ⟨bi, 0, none⟩ = some (.slice a n c)) :
    Calls Try.prog 47 #[.int .i64 q, .int .i64 tx, .int .i64 wr, .pointer (some ⟨bi, 0, none⟩)] w fun e w' => e = .returned (.bool (recH l q tx wr)) ∧ Below w.heap.size w w' := by
  have HP1 := Lib.hid (place_any a n c l tx w hr hn)
  have HP2 := Lib.hid fun W (hb : Below w.heap.size w W) => place_any a n c l wr W (hr.below hb) hn
  have HK := Lib.hid fun W (hb : Below w.heap.size w W) => (hb.cell (World.block_lt_of_cell? w _ hc)).trans hc
  have HQ : Hid (recH l q tx wr = (placeM l tx == (n : Int) || decide (placeM l wr < placeM l tx))) := Lib.hid (by rw [hr.1]; rfl)
  clear hr
  generalize hrb : recH l q tx wr = rb at *
  clear hrb
  generalize placeM l tx = p1 at *
  generalize placeM l wr = p2 at *
  go_enter Try.func47, Try.ntmps47
  go_wp2_with fail
  refine HP1.out.mono ?_
  rintro e w1 ⟨rfl, hb⟩
  have HB1 := Lib.hid hb
  have hc1 := HK.out w1 hb
  have HP3 := Lib.hid (HP2.out w1 hb)
  clear hb hc HP1 HP2 HK
  by_cases h1 : p1 = (n : Int)
  · have HQ2 : Hid (rb = true) := Lib.hid (by rw [HQ.out]; simp [h1])
    have h1' : (p1 == (n : Int)) = true := by simpa using h1
    clear HQ h1
    go_wp2_with fail
    go_ret
    exact ⟨by rw [HQ2.out]; rfl, HB1.out⟩
  · have h1' : (p1 == (n : Int)) = false := by simpa using h1
    have HQ2 : Hid (rb = decide (p2 < p1)) := Lib.hid (by rw [HQ.out, h1']; rfl)
    clear HQ h1
    go_wp2_with fail
    refine HP3.out.mono ?_
    rintro e w2 ⟨rfl, hb⟩
    have HB2 := Lib.hid (HB1.out.trans (hb.mono HB1.out.size))
    clear hb
    go_wp2_with fail
    go_ret
    exact ⟨by rw [HQ2.out]; rfl, HB2.out⟩
set_option maxRecDepth 100000 in
set_option maxHeartbeats 1000000 in
theorem cas_any (bi : Nat) (a : Option Addr) (n c : Nat) (l : List Mk) (q tx wr : Int) (w : World) (hr : MksAt w a n l) (hn : n ≤ 1000000) (hc : w.cell? ⟨bi, 0, none⟩ = some (.slice a n c)) :
    Calls Try.prog 49 #[.int .i64 q, .int .i64 tx, .int .i64 wr, .pointer (some ⟨bi, 0, none⟩)] w fun e w' => e = .returned (.bool (casH l q tx wr)) ∧ Below w.heap.size w w' := by
  have HP2 := Lib.hid (place_any a n c l wr w hr hn)
  unfold casH
  clear hr
  generalize placeM l wr = p2 at *
  go_enter Try.func49, Try.ntmps49
  go_wp2_with fail
  refine HP2.out.mono ?_
  rintro e w1 ⟨rfl, hb⟩
  have HB1 := Lib.hid hb
  clear hb
  go_wp2_with fail
  go_ret
  exact ⟨rfl, HB1.out⟩

set_option maxRecDepth 100000 in
set_option maxHeartbeats 4000000 in
theorem rec_reads (bi : Nat) (a : Option Addr) (n c : Nat) (l : List Mk) (w : World) (hr : MksAt w a n l) (hn : n ≤ 1000) (hc : w.cell? ⟨bi, 0, none⟩ = some (.slice a n c)) :
    Calls Try.prog 46 #[.slice a n c, .func (.func 47) #[] #[.pointer (some ⟨bi, 0, none⟩)]] w fun e w' => e = .returned (.bool (readsB l (recH l))) ∧ Below w.heap.size w w' := by
  have HRT := Lib.hid (right_any a n c l w hr (by omega))
  have HSRC := Lib.hid fun k W (hb : Below w.heap.size w W) (hk : k < n) => source_any a n c l k W (hr.below hb) (by omega) hk
  have HCAL := Lib.hid fun (q : Nat) (tx wr : Int) W (hb : Below w.heap.size w W) => rec_any bi a n c l q tx wr W (hr.below hb) (by omega) ((hb.cell (World.block_lt_of_cell? w _ hc)).trans hc)
  have HL := Lib.hid hr.1
  have HR := Lib.hid hr
  have HFIN := Lib.hid (show (rightM l = 0 → (∀ i (h : i < l.length), readOk l (recH l) i l[i] = true) → readsB l (recH l) = true) ∧ (rightM l = 0 → ∀ i (h : i < l.length), readOk l (recH l) i l[i] = false → readsB l (recH l) = false) ∧ (rightM l ≠ 0 → readsB l (recH l) = false) from ⟨readsB_true, readsB_false, readsB_wrong⟩)
  clear hr hc
  generalize hrb : readsB l (recH l) = rb at *
  clear hrb
  by_cases h0 : rightM l = 0
  · have HF := Lib.hid (And.intro (HFIN.out.1 h0) (HFIN.out.2.1 h0))
    rw [h0] at HRT
    clear h0 HFIN
    go_enter Try.func46, Try.ntmps46
    go_wp2_with fail
    refine HRT.out.mono ?_
    rintro e w1 ⟨rfl, hb⟩
    have HB1 := Lib.hid hb
    clear hb HRT
    go_wp2_with fail
    go_loopw [13] (fun j wr => ∃ k : Nat, k ≤ n ∧ j = .int .i64 k ∧ Hid ((∀ i (h : i < l.length), i < k → readOk l (recH l) i l[i] = true) ∧ Below w.heap.size w wr)) (fun j _ => n - (intOf j).toNat)
    case atStart => exact ⟨0, Nat.zero_le _, rfl, Lib.hid ⟨fun i h hi => by omega, HB1.out⟩⟩
    case round =>
      obtain ⟨k, hk, rfl, HS⟩ := hrel
      clear HB1
      have HALL := Lib.hid HS.out.1
      have HB := Lib.hid HS.out.2
      clear HS
      by_cases hlt : k < n
      · have hlt' : k < l.length := by rw [← HL.out]; exact hlt
        obtain ⟨g, off, rfl, hcA, hcB, hcD⟩ := (HR.out.below HB.out).at k hlt'
        have HNX := Lib.hid fun (h : readOk l (recH l) k l[k] = true) => (show ∀ i (h : i < l.length), i < k + 1 → readOk l (recH l) i l[i] = true from fun i hi hik => by
          by_cases e : i = k
          · subst e; exact h
          · exact HALL.out i hi (by omega))
        have HBAD := Lib.hid (HF.out.2 k hlt')
        have M1 := Lib.hid (((Mem.nil w).below HB.out).block #[.int .i64 l[k].kind, .int .i64 l[k].tx, .string l[k].key] 36)
        have HS1 := Lib.hid fun W hb => HSRC.out k W hb hlt
        unfold readOk at HNX HBAD
        clear HALL HB
        generalize l[k] = x at *
        obtain ⟨xk, xt, xy⟩ := x
        simp only at hcA hcB hcD M1 HNX HBAD
        obtain ⟨k0, k1, k2⟩ := box_cells M1.out
        by_cases h1 : xk = 1
        · subst h1
          generalize sourceM l k = sv at *
          have HS2 := Lib.hid (HS1.out _ M1.out.bel)
          have hk1 : ((1 : Int) != 1) = false := rfl
          go_wp2_with fail
          refine HS2.out.mono ?_
          rintro e w2 ⟨rfl, hb⟩
          have M2 := Lib.hid (M1.out.below hb)
          clear hb M1 k0 k1 k2 HS1 HS2
          obtain ⟨k0, k1, k2⟩ := box_cells M2.out
          by_cases h2 : sv = -1
          · have h2' : (sv != -1) = false := by simpa using h2
            have HX := Lib.hid (And.intro (HNX.out (by simp [h2])) M2.out.bel)
            clear HNX HBAD M2 h2
            go_wp2_with fail
            go_roundw
            case rel => exact ⟨k + 1, by omega, by go_num, HX⟩
            case measure => simp [intOf]; omega
          · have h2' : (sv != -1) = true := by simpa using h2
            have h2b : (sv == -1) = false := by simpa using h2
            by_cases h3 : sv = xt
            · have h3' : (sv != xt) = false := by simpa using h3
              have HX := Lib.hid (And.intro (HNX.out (by simp [h3])) M2.out.bel)
              clear HNX HBAD M2 h2 h2b h3
              go_wp2_with fail
              go_roundw
              case rel => exact ⟨k + 1, by omega, by go_num, HX⟩
              case measure => simp [intOf]; omega
            · have h3' : (sv != xt) = true := by simpa using h3
              have h3b : (sv == xt) = false := by simpa using h3
              have HC := Lib.hid (HCAL.out k xt sv w2 M2.out.bel)
              cases hh : recH l k xt sv with
              | true =>
                rw [hh] at HC
                have HNX2 := Lib.hid (HNX.out (by simp [hh]))
                clear HNX HBAD h2 h2b h3 h3b hh
                go_wp2_with fail
                refine HC.out.mono ?_
                rintro e w3 ⟨rfl, hb⟩
                have HX := Lib.hid (And.intro HNX2.out ((M2.out.below hb).bel))
                clear hb HNX2 M2 HC
                go_wp2_with fail
                go_roundw
                case rel => exact ⟨k + 1, by omega, by go_num, HX⟩
                case measure => simp [intOf]; omega
              | false =>
                rw [hh] at HC
                have HBAD2 := Lib.hid (HBAD.out (by rw [h2b, h3b, hh]; rfl))
                clear HNX HBAD h2 h2b h3 h3b hh
                go_wp2_with fail
                refine HC.out.mono ?_
                rintro e w3 ⟨rfl, hb⟩
                have HX := Lib.hid ((M2.out.below hb).bel)
                clear hb M2 HC
                go_wp2_with fail
                go_ret
                exact ⟨by rw [HBAD2.out]; rfl, HX.out⟩
        · have h1' : (xk != 1) = true := by simpa using h1
          have HX := Lib.hid (And.intro (HNX.out (by simp [h1])) M1.out.bel)
          clear HNX HBAD M1 h1 HS1
          go_wp2_with fail
          go_roundw
          case rel => exact ⟨k + 1, by omega, by go_num, HX⟩
          case measure => simp [intOf]; omega
      · obtain rfl : k = n := by omega
        have HX := Lib.hid (And.intro (HF.out.1 fun i hi => HALL.out i hi (by rw [HL.out]; exact hi)) HB.out)
        clear HALL HB HF
        go_wp2_with fail
        go_ret
        exact ⟨by rw [HX.out.1]; rfl, HX.out.2⟩
  · have hq2 : (rightM l != 0) = true := by simpa using h0
    have HF := Lib.hid (HFIN.out.2.2 h0)
    clear h0 HFIN HSRC HCAL
    generalize rightM l = q at *
    go_enter Try.func46, Try.ntmps46
    go_wp2_with fail
    refine HRT.out.mono ?_
    rintro e w1 ⟨rfl, hb⟩
    have HB := Lib.hid hb
    clear hb
    go_wp2_with fail
    go_ret
    exact ⟨by rw [HF.out]; rfl, HB.out⟩

set_option maxRecDepth 100000 in
set_option maxHeartbeats 4000000 in
theorem cas_reads (bi : Nat) (a : Option Addr) (n c : Nat) (l : List Mk) (w : World) (hr : MksAt w a n l) (hn : n ≤ 1000) (hc : w.cell? ⟨bi, 0, none⟩ = some (.slice a n c)) :
    Calls Try.prog 46 #[.slice a n c, .func (.func 49) #[] #[.pointer (some ⟨bi, 0, none⟩)]] w fun e w' => e = .returned (.bool (readsB l (casH l))) ∧ Below w.heap.size w w' := by
  have HRT := Lib.hid (right_any a n c l w hr (by omega))
  have HSRC := Lib.hid fun k W (hb : Below w.heap.size w W) (hk : k < n) => source_any a n c l k W (hr.below hb) (by omega) hk
  have HCAL := Lib.hid fun (q : Nat) (tx wr : Int) W (hb : Below w.heap.size w W) => cas_any bi a n c l q tx wr W (hr.below hb) (by omega) ((hb.cell (World.block_lt_of_cell? w _ hc)).trans hc)
  have HL := Lib.hid hr.1
  have HR := Lib.hid hr
  have HFIN := Lib.hid (show (rightM l = 0 → (∀ i (h : i < l.length), readOk l (casH l) i l[i] = true) → readsB l (casH l) = true) ∧ (rightM l = 0 → ∀ i (h : i < l.length), readOk l (casH l) i l[i] = false → readsB l (casH l) = false) ∧ (rightM l ≠ 0 → readsB l (casH l) = false) from ⟨readsB_true, readsB_false, readsB_wrong⟩)
  clear hr hc
  generalize hrb : readsB l (casH l) = rb at *
  clear hrb
  by_cases h0 : rightM l = 0
  · have HF := Lib.hid (And.intro (HFIN.out.1 h0) (HFIN.out.2.1 h0))
    rw [h0] at HRT
    clear h0 HFIN
    go_enter Try.func46, Try.ntmps46
    go_wp2_with fail
    refine HRT.out.mono ?_
    rintro e w1 ⟨rfl, hb⟩
    have HB1 := Lib.hid hb
    clear hb HRT
    go_wp2_with fail
    go_loopw [13] (fun j wr => ∃ k : Nat, k ≤ n ∧ j = .int .i64 k ∧ Hid ((∀ i (h : i < l.length), i < k → readOk l (casH l) i l[i] = true) ∧ Below w.heap.size w wr)) (fun j _ => n - (intOf j).toNat)
    case atStart => exact ⟨0, Nat.zero_le _, rfl, Lib.hid ⟨fun i h hi => by omega, HB1.out⟩⟩
    case round =>
      obtain ⟨k, hk, rfl, HS⟩ := hrel
      clear HB1
      have HALL := Lib.hid HS.out.1
      have HB := Lib.hid HS.out.2
      clear HS
      by_cases hlt : k < n
      · have hlt' : k < l.length := by rw [← HL.out]; exact hlt
        obtain ⟨g, off, rfl, hcA, hcB, hcD⟩ := (HR.out.below HB.out).at k hlt'
        have HNX := Lib.hid fun (h : readOk l (casH l) k l[k] = true) => (show ∀ i (h : i < l.length), i < k + 1 → readOk l (casH l) i l[i] = true from fun i hi hik => by
          by_cases e : i = k
          · subst e; exact h
          · exact HALL.out i hi (by omega))
        have HBAD := Lib.hid (HF.out.2 k hlt')
        have M1 := Lib.hid (((Mem.nil w).below HB.out).block #[.int .i64 l[k].kind, .int .i64 l[k].tx, .string l[k].key] 36)
        have HS1 := Lib.hid fun W hb => HSRC.out k W hb hlt
        unfold readOk at HNX HBAD
        clear HALL HB
        generalize l[k] = x at *
        obtain ⟨xk, xt, xy⟩ := x
        simp only at hcA hcB hcD M1 HNX HBAD
        obtain ⟨k0, k1, k2⟩ := box_cells M1.out
        by_cases h1 : xk = 1
        · subst h1
          generalize sourceM l k = sv at *
          have HS2 := Lib.hid (HS1.out _ M1.out.bel)
          have hk1 : ((1 : Int) != 1) = false := rfl
          go_wp2_with fail
          refine HS2.out.mono ?_
          rintro e w2 ⟨rfl, hb⟩
          have M2 := Lib.hid (M1.out.below hb)
          clear hb M1 k0 k1 k2 HS1 HS2
          obtain ⟨k0, k1, k2⟩ := box_cells M2.out
          by_cases h2 : sv = -1
          · have h2' : (sv != -1) = false := by simpa using h2
            have HX := Lib.hid (And.intro (HNX.out (by simp [h2])) M2.out.bel)
            clear HNX HBAD M2 h2
            go_wp2_with fail
            go_roundw
            case rel => exact ⟨k + 1, by omega, by go_num, HX⟩
            case measure => simp [intOf]; omega
          · have h2' : (sv != -1) = true := by simpa using h2
            have h2b : (sv == -1) = false := by simpa using h2
            by_cases h3 : sv = xt
            · have h3' : (sv != xt) = false := by simpa using h3
              have HX := Lib.hid (And.intro (HNX.out (by simp [h3])) M2.out.bel)
              clear HNX HBAD M2 h2 h2b h3
              go_wp2_with fail
              go_roundw
              case rel => exact ⟨k + 1, by omega, by go_num, HX⟩
              case measure => simp [intOf]; omega
            · have h3' : (sv != xt) = true := by simpa using h3
              have h3b : (sv == xt) = false := by simpa using h3
              have HC := Lib.hid (HCAL.out k xt sv w2 M2.out.bel)
              cases hh : casH l k xt sv with
              | true =>
                rw [hh] at HC
                have HNX2 := Lib.hid (HNX.out (by simp [hh]))
                clear HNX HBAD h2 h2b h3 h3b hh
                go_wp2_with fail
                refine HC.out.mono ?_
                rintro e w3 ⟨rfl, hb⟩
                have HX := Lib.hid (And.intro HNX2.out ((M2.out.below hb).bel))
                clear hb HNX2 M2 HC
                go_wp2_with fail
                go_roundw
                case rel => exact ⟨k + 1, by omega, by go_num, HX⟩
                case measure => simp [intOf]; omega
              | false =>
                rw [hh] at HC
                have HBAD2 := Lib.hid (HBAD.out (by rw [h2b, h3b, hh]; rfl))
                clear HNX HBAD h2 h2b h3 h3b hh
                go_wp2_with fail
                refine HC.out.mono ?_
                rintro e w3 ⟨rfl, hb⟩
                have HX := Lib.hid ((M2.out.below hb).bel)
                clear hb M2 HC
                go_wp2_with fail
                go_ret
                exact ⟨by rw [HBAD2.out]; rfl, HX.out⟩
        · have h1' : (xk != 1) = true := by simpa using h1
          have HX := Lib.hid (And.intro (HNX.out (by simp [h1])) M1.out.bel)
          clear HNX HBAD M1 h1 HS1
          go_wp2_with fail
          go_roundw
          case rel => exact ⟨k + 1, by omega, by go_num, HX⟩
          case measure => simp [intOf]; omega
      · obtain rfl : k = n := by omega
        have HX := Lib.hid (And.intro (HF.out.1 fun i hi => HALL.out i hi (by rw [HL.out]; exact hi)) HB.out)
        clear HALL HB HF
        go_wp2_with fail
        go_ret
        exact ⟨by rw [HX.out.1]; rfl, HX.out.2⟩
  · have hq2 : (rightM l != 0) = true := by simpa using h0
    have HF := Lib.hid (HFIN.out.2.2 h0)
    clear h0 HFIN HSRC HCAL
    generalize rightM l = q at *
    go_enter Try.func46, Try.ntmps46
    go_wp2_with fail
    refine HRT.out.mono ?_
    rintro e w1 ⟨rfl, hb⟩
    have HB := Lib.hid hb
    clear hb
    go_wp2_with fail
    go_ret
    exact ⟨by rw [HF.out]; rfl, HB.out⟩

set_option maxRecDepth 100000 in
theorem recov_any (a : Option Addr) (n c : Nat) (l : List Mk) (w : World) (hr : MksAt w a n l) (hn : n ≤ 1000) :
    Calls Try.prog 14 #[.slice a n c] w fun e w' => e = .returned (.bool (readsB l (recH l))) ∧ Below w.heap.size w w' := by
  have hb0 := bel_new w (.cells #[.slice a n c] 22)
  have HC := Lib.hid (rec_reads w.heap.size a n c l (w.alloc (.cells #[.slice a n c] 22)) (hr.below hb0) hn ((cell_of_heap (heap_new w _) rfl).1))
  have HB0 := Lib.hid hb0
  clear hr hb0
  go_enter Try.func14, Try.ntmps14
  go_wp2_with fail
  refine HC.out.mono ?_
  rintro e w1 ⟨rfl, hb⟩
  have HB := Lib.hid (HB0.out.trans (hb.mono HB0.out.size))
  clear hb
  go_wp2_with fail
  go_ret
  exact ⟨rfl, HB.out⟩

set_option maxRecDepth 100000 in
theorem casc_any (a : Option Addr) (n c : Nat) (l : List Mk) (w : World) (hr : MksAt w a n l) (hn : n ≤ 1000) :
    Calls Try.prog 15 #[.slice a n c] w fun e w' => e = .returned (.bool (readsB l (casH l))) ∧ Below w.heap.size w w' := by
  have hb0 := bel_new w (.cells #[.slice a n c] 22)
  have HC := Lib.hid (cas_reads w.heap.size a n c l (w.alloc (.cells #[.slice a n c] 22)) (hr.below hb0) hn ((cell_of_heap (heap_new w _) rfl).1))
  have HB0 := Lib.hid hb0
  clear hr hb0
  go_enter Try.func15, Try.ntmps15
  go_wp2_with fail
  refine HC.out.mono ?_
  rintro e w1 ⟨rfl, hb⟩
  have HB := Lib.hid (HB0.out.trans (hb.mono HB0.out.size))
  clear hb
  go_wp2_with fail
  go_ret
  exact ⟨rfl, HB.out⟩
end Go.Proofs.Ytbgabdofnmijnaa
