/- The eldest and the youngest of some. -/
import Derived.Test.YtlmfpkfgjfdhgaaI
namespace Go.Proofs.Ytlmfpkfgjfdhgaa
open Go.RowKit

def minF (m : Mb) (l : List Mb) : Mb := l.foldl (fun m x => if ageC x m < 0 then x else m) m
theorem minF_take (m : Mb) (r : List Mb) (k : Nat) (hk : k < r.length) : minF m (r.take (k + 1)) = if ageC r[k] (minF m (r.take k)) < 0 then r[k] else minF m (r.take k) := by
  unfold minF
  rw [List.take_succ_eq_append_getElem hk, List.foldl_append]; rfl
set_option maxRecDepth 100000 in
set_option maxHeartbeats 4000000 in
theorem min_any (a : Option Addr) (c : Nat) (x0 : Mb) (r : List Mb) (w : World) (hr : Row w 77 4 a (x0 :: r).length c (mbFlat (x0 :: r))) (hbig : r.length ≤ 1000) :
    Calls Try.prog 50 #[.slice a (x0 :: r).length c, .func (.func 40) #[] #[]] w fun e w' => e = .returned (.agg #[.int .i64 (minF x0 r).id, .int .i64 (minF x0 r).stamp, .bool (minF x0 r).waits, .string (minF x0 r).key]) ∧ Below w.heap.size w w' := by
  have HR := Lib.hid hr
  obtain ⟨g, rfl, hcs⟩ := mbAt_row hr 0 (by simp)
  obtain ⟨hx0, hx1, hx2, hx3⟩ := hcs.below (bel_new w (.cells #[.int .i64 0, .int .i64 0, .bool false, .string ⟨#[]⟩] 77))
  simp only [List.getElem_cons_zero, Nat.zero_mul, Nat.zero_add] at hx0 hx1 hx2 hx3
  have hgl : ¬ g = w.heap.size := by have := hr.lt _ rfl; simp at this; omega
  have hgl2 : ¬ g = w.heap.size + 1 := by have := hr.lt _ rfl; simp at this; omega
  have hn : (x0 :: r).length = r.length + 1 := rfl
  rw [hn] at HR ⊢
  have M0 := Lib.hid (((Mem.nil w).block #[.int .i64 0, .int .i64 0, .bool false, .string ⟨#[]⟩] 77).block #[.int .i64 x0.id, .int .i64 x0.stamp, .bool x0.waits, .string x0.key] 77)
  rw [show (w.alloc (.cells #[.int .i64 0, .int .i64 0, .bool false, .string ⟨#[]⟩] 77)).heap.size = w.heap.size + 1 by simp] at M0
  have HF : Hid (∀ k, r.length ≤ k → minF x0 (r.take k) = minF x0 r) := Lib.hid fun k hk => by rw [List.take_of_length_le hk]
  have HF0 : Hid (minF x0 (r.take 0) = x0) := Lib.hid rfl
  clear hr hn hcs
  generalize hL : r.length = n at *
  have HL := Lib.hid hL
  clear hL
  have h1 : ¬ ((n : Int) + 1 < 1) := by omega
  have h1b : decide (((n : Int) + 1) < 1) = false := decide_eq_false h1
  go_enter Try.func50, Try.ntmps50
  go_wp2_with fail
  go_loopw [6] (fun iv wr => ∃ k : Nat, k ≤ n ∧ iv = .int .i64 ((k : Int) + 1) ∧ Hid (Mem w [] wr [BlockA (w.heap.size + 1) #[.int .i64 (minF x0 (r.take k)).id, .int .i64 (minF x0 (r.take k)).stamp, .bool (minF x0 (r.take k)).waits, .string (minF x0 (r.take k)).key] 77, BlockA w.heap.size #[.int .i64 0, .int .i64 0, .bool false, .string ⟨#[]⟩] 77])) (fun iv _ => n + 1 - (intOf iv).toNat)
  case atStart => exact ⟨0, Nat.zero_le _, rfl, Lib.hid (by rw [HF0.out]; exact M0.out)⟩
  case round =>
    obtain ⟨k, hk, rfl, hS⟩ := hrel
    clear M0 hx0 hx1 hx2 hx3 hgl hgl2
    have M1 := hS
    obtain ⟨y0, _⟩ := Mem.block_cell (i := 0) M1.out rfl
    obtain ⟨y1, _⟩ := Mem.block_cell (i := 1) M1.out rfl
    obtain ⟨y2, _⟩ := Mem.block_cell (i := 2) M1.out rfl
    obtain ⟨y3, _⟩ := Mem.block_cell (i := 3) M1.out rfl
    by_cases hlt : k < n
    · have hk2 : k < r.length := by rw [HL.out]; exact hlt
      obtain ⟨g2, e2, hcs⟩ := mbAt_row (HR.out.below M1.out.bel) (k + 1) (by simp; omega)
      obtain rfl : g = g2 := by simpa using e2
      obtain ⟨hx0, hx1, hx2, hx3⟩ := hcs
      simp only [List.getElem_cons_succ] at hx0 hx1 hx2 hx3
      have HT := Lib.hid (minF_take x0 r k hk2)
      have HAG := Lib.hid (age_any r[k] (minF x0 (r.take k)))
      generalize hz : r[k] = z at *
      have HZ : Hid ((x0 :: r)[k + 1]'(by simp; omega) = z) := Lib.hid hz
      clear hz
      generalize hm : minF x0 (r.take k) = mm at *
      have HM := Lib.hid hm
      clear hm
      have HMM : Hid (minF x0 (r.take (k + 1)) = if ageC z mm < 0 then z else mm) := Lib.hid (by rw [HT.out])
      clear HT
      generalize ageC z mm = ag at *
      obtain ⟨zi, zs, zw, zk⟩ := z
      obtain ⟨mi, ms, mw, mk⟩ := mm
      simp only at hx0 hx1 hx2 hx3 y0 y1 y2 y3 HAG
      by_cases ht : ag < 0
      · rw [if_pos ht] at HMM
        have htb : decide (ag < 0) = true := decide_eq_true ht
        go_wp2_with fail
        have hi1 : (0 : Int) ≤ (k : Int) + 1 := by omega
        have hi2 : (k : Int) + 1 < (n : Int) + 1 := by omega
        go_still_tail 6, (by kernel_rfl)
        go_wp2_with fail
        refine (HAG.out _).mono ?_
        rintro e w2 ⟨rfl, hb2⟩
        have M2 := Lib.hid ((M1.out.below (bel_drew wr)).below hb2)
        clear hb2 hx0 hx1 hx2 hx3 y0 y1 y2 y3
        obtain ⟨g3, e3, hcs⟩ := mbAt_row (HR.out.below M2.out.bel) (k + 1) (by simp; omega)
        obtain rfl : g = g3 := by simpa using e3
        obtain ⟨hx0, hx1, hx2, hx3⟩ := hcs
        rw [HZ.out] at hx0 hx1 hx2 hx3
        simp only at hx0 hx1 hx2 hx3
        obtain ⟨y0, f0⟩ := Mem.block_cell (i := 0) M2.out rfl
        obtain ⟨y1, f1⟩ := Mem.block_cell (i := 1) M2.out rfl
        obtain ⟨y2, f2⟩ := Mem.block_cell (i := 2) M2.out rfl
        obtain ⟨y3, f3⟩ := Mem.block_cell (i := 3) M2.out rfl
        have M3 := Lib.hid (Mem.setBlock (i := 3) (Mem.setBlock (i := 2) (Mem.setBlock (i := 1) (Mem.setBlock (i := 0) M2.out (.int .i64 zi)) (.int .i64 zs)) (.bool zw)) (.string zk))
        go_wp2_with fail
        have M4 := Lib.hid (show Mem w [] _ [BlockA (w.heap.size + 1) #[.int .i64 zi, .int .i64 zs, .bool zw, .string zk] 77, BlockA w.heap.size #[.int .i64 0, .int .i64 0, .bool false, .string ⟨#[]⟩] 77] from M3.out)
        go_roundw
        case rel => exact ⟨k + 1, by omega, by go_num, Lib.hid (by rw [HMM.out]; exact M4.out)⟩
        case measure => simp [intOf]; omega
      · rw [if_neg ht] at HMM
        have htb : decide (ag < 0) = false := decide_eq_false ht
        go_wp2_with fail
        have hi1 : (0 : Int) ≤ (k : Int) + 1 := by omega
        have hi2 : (k : Int) + 1 < (n : Int) + 1 := by omega
        go_still_tail 6, (by kernel_rfl)
        go_wp2_with fail
        refine (HAG.out _).mono ?_
        rintro e w2 ⟨rfl, hb2⟩
        have M2 := Lib.hid ((M1.out.below (bel_drew wr)).below hb2)
        clear hb2 hx0 hx1 hx2 hx3 y0 y1 y2 y3
        go_wp2_with fail
        go_roundw
        case rel => exact ⟨k + 1, by omega, by go_num, Lib.hid (by rw [HMM.out]; exact M2.out)⟩
        case measure => simp [intOf]; omega
    · obtain rfl : k = n := by omega
      have MS := Lib.hid (Mem.swap [] M1.out)
      obtain ⟨v0, f0⟩ := Mem.block_cell (i := 0) MS.out rfl
      obtain ⟨v1, f1⟩ := Mem.block_cell (i := 1) MS.out rfl
      obtain ⟨v2, f2⟩ := Mem.block_cell (i := 2) MS.out rfl
      obtain ⟨v3, f3⟩ := Mem.block_cell (i := 3) MS.out rfl
      have hff := HF.out k (Nat.le_refl _)
      rw [hff] at y0 y1 y2 y3
      clear hff hS M1 HF
      generalize hmm : minF x0 r = mm at *
      have HME := Lib.hid hmm
      clear hmm
      obtain ⟨mi, ms, mw, mk⟩ := mm
      simp only at y0 y1 y2 y3 ⊢
      have M5 := Lib.hid (Mem.setBlock (i := 3) (Mem.setBlock (i := 2) (Mem.setBlock (i := 1) (Mem.setBlock (i := 0) MS.out (.int .i64 mi)) (.int .i64 ms)) (.bool mw)) (.string mk))
      obtain ⟨u0, _⟩ := Mem.block_cell (i := 0) M5.out rfl
      obtain ⟨u1, _⟩ := Mem.block_cell (i := 1) M5.out rfl
      obtain ⟨u2, _⟩ := Mem.block_cell (i := 2) M5.out rfl
      obtain ⟨u3, _⟩ := Mem.block_cell (i := 3) M5.out rfl
      have HB := Lib.hid M5.out.bel
      go_wp2_with fail
      exact bodyPost_ret (v := .agg #[.int .i64 mi, .int .i64 ms, .bool mw, .string mk]) (by simp [results, Try.results50, go_sem, u0, u1, u2, u3]) rfl ⟨by rw [HME.out], HB.out⟩

def maxF (m : Mb) (l : List Mb) : Mb := l.foldl (fun m x => if 0 < ageC x m then x else m) m
theorem maxF_take (m : Mb) (r : List Mb) (k : Nat) (hk : k < r.length) : maxF m (r.take (k + 1)) = if 0 < ageC r[k] (maxF m (r.take k)) then r[k] else maxF m (r.take k) := by
  unfold maxF
  rw [List.take_succ_eq_append_getElem hk, List.foldl_append]; rfl
set_option maxRecDepth 100000 in
set_option maxHeartbeats 4000000 in
theorem max_any (a : Option Addr) (c : Nat) (x0 : Mb) (r : List Mb) (w : World) (hr : Row w 77 4 a (x0 :: r).length c (mbFlat (x0 :: r))) (hbig : r.length ≤ 1000) :
    Calls Try.prog 51 #[.slice a (x0 :: r).length c, .func (.func 40) #[] #[]] w fun e w' => e = .returned (.agg #[.int .i64 (maxF x0 r).id, .int .i64 (maxF x0 r).stamp, .bool (maxF x0 r).waits, .string (maxF x0 r).key]) ∧ Below w.heap.size w w' := by
  have HR := Lib.hid hr
  obtain ⟨g, rfl, hcs⟩ := mbAt_row hr 0 (by simp)
  obtain ⟨hx0, hx1, hx2, hx3⟩ := hcs.below (bel_new w (.cells #[.int .i64 0, .int .i64 0, .bool false, .string ⟨#[]⟩] 77))
  simp only [List.getElem_cons_zero, Nat.zero_mul, Nat.zero_add] at hx0 hx1 hx2 hx3
  have hgl : ¬ g = w.heap.size := by have := hr.lt _ rfl; simp at this; omega
  have hgl2 : ¬ g = w.heap.size + 1 := by have := hr.lt _ rfl; simp at this; omega
  have hn : (x0 :: r).length = r.length + 1 := rfl
  rw [hn] at HR ⊢
  have M0 := Lib.hid (((Mem.nil w).block #[.int .i64 0, .int .i64 0, .bool false, .string ⟨#[]⟩] 77).block #[.int .i64 x0.id, .int .i64 x0.stamp, .bool x0.waits, .string x0.key] 77)
  rw [show (w.alloc (.cells #[.int .i64 0, .int .i64 0, .bool false, .string ⟨#[]⟩] 77)).heap.size = w.heap.size + 1 by simp] at M0
  have HF : Hid (∀ k, r.length ≤ k → maxF x0 (r.take k) = maxF x0 r) := Lib.hid fun k hk => by rw [List.take_of_length_le hk]
  have HF0 : Hid (maxF x0 (r.take 0) = x0) := Lib.hid rfl
  clear hr hn hcs
  generalize hL : r.length = n at *
  have HL := Lib.hid hL
  clear hL
  have h1 : ¬ ((n : Int) + 1 < 1) := by omega
  have h1b : decide (((n : Int) + 1) < 1) = false := decide_eq_false h1
  go_enter Try.func51, Try.ntmps51
  go_wp2_with fail
  go_loopw [6] (fun iv wr => ∃ k : Nat, k ≤ n ∧ iv = .int .i64 ((k : Int) + 1) ∧ Hid (Mem w [] wr [BlockA (w.heap.size + 1) #[.int .i64 (maxF x0 (r.take k)).id, .int .i64 (maxF x0 (r.take k)).stamp, .bool (maxF x0 (r.take k)).waits, .string (maxF x0 (r.take k)).key] 77, BlockA w.heap.size #[.int .i64 0, .int .i64 0, .bool false, .string ⟨#[]⟩] 77])) (fun iv _ => n + 1 - (intOf iv).toNat)
  case atStart => exact ⟨0, Nat.zero_le _, rfl, Lib.hid (by rw [HF0.out]; exact M0.out)⟩
  case round =>
    obtain ⟨k, hk, rfl, hS⟩ := hrel
    clear M0 hx0 hx1 hx2 hx3 hgl hgl2
    have M1 := hS
    obtain ⟨y0, _⟩ := Mem.block_cell (i := 0) M1.out rfl
    obtain ⟨y1, _⟩ := Mem.block_cell (i := 1) M1.out rfl
    obtain ⟨y2, _⟩ := Mem.block_cell (i := 2) M1.out rfl
    obtain ⟨y3, _⟩ := Mem.block_cell (i := 3) M1.out rfl
    by_cases hlt : k < n
    · have hk2 : k < r.length := by rw [HL.out]; exact hlt
      obtain ⟨g2, e2, hcs⟩ := mbAt_row (HR.out.below M1.out.bel) (k + 1) (by simp; omega)
      obtain rfl : g = g2 := by simpa using e2
      obtain ⟨hx0, hx1, hx2, hx3⟩ := hcs
      simp only [List.getElem_cons_succ] at hx0 hx1 hx2 hx3
      have HT := Lib.hid (maxF_take x0 r k hk2)
      have HAG := Lib.hid (age_any r[k] (maxF x0 (r.take k)))
      generalize hz : r[k] = z at *
      have HZ : Hid ((x0 :: r)[k + 1]'(by simp; omega) = z) := Lib.hid hz
      clear hz
      generalize hm : maxF x0 (r.take k) = mm at *
      have HM := Lib.hid hm
      clear hm
      have HMM : Hid (maxF x0 (r.take (k + 1)) = if 0 < ageC z mm then z else mm) := Lib.hid (by rw [HT.out])
      clear HT
      generalize ageC z mm = ag at *
      obtain ⟨zi, zs, zw, zk⟩ := z
      obtain ⟨mi, ms, mw, mk⟩ := mm
      simp only at hx0 hx1 hx2 hx3 y0 y1 y2 y3 HAG
      by_cases ht : 0 < ag
      · rw [if_pos ht] at HMM
        have htb : decide (0 < ag) = true := decide_eq_true ht
        go_wp2_with fail
        have hi1 : (0 : Int) ≤ (k : Int) + 1 := by omega
        have hi2 : (k : Int) + 1 < (n : Int) + 1 := by omega
        go_still_tail 6, (by kernel_rfl)
        go_wp2_with fail
        refine (HAG.out _).mono ?_
        rintro e w2 ⟨rfl, hb2⟩
        have M2 := Lib.hid ((M1.out.below (bel_drew wr)).below hb2)
        clear hb2 hx0 hx1 hx2 hx3 y0 y1 y2 y3
        obtain ⟨g3, e3, hcs⟩ := mbAt_row (HR.out.below M2.out.bel) (k + 1) (by simp; omega)
        obtain rfl : g = g3 := by simpa using e3
        obtain ⟨hx0, hx1, hx2, hx3⟩ := hcs
        rw [HZ.out] at hx0 hx1 hx2 hx3
        simp only at hx0 hx1 hx2 hx3
        obtain ⟨y0, f0⟩ := Mem.block_cell (i := 0) M2.out rfl
        obtain ⟨y1, f1⟩ := Mem.block_cell (i := 1) M2.out rfl
        obtain ⟨y2, f2⟩ := Mem.block_cell (i := 2) M2.out rfl
        obtain ⟨y3, f3⟩ := Mem.block_cell (i := 3) M2.out rfl
        have M3 := Lib.hid (Mem.setBlock (i := 3) (Mem.setBlock (i := 2) (Mem.setBlock (i := 1) (Mem.setBlock (i := 0) M2.out (.int .i64 zi)) (.int .i64 zs)) (.bool zw)) (.string zk))
        go_wp2_with fail
        have M4 := Lib.hid (show Mem w [] _ [BlockA (w.heap.size + 1) #[.int .i64 zi, .int .i64 zs, .bool zw, .string zk] 77, BlockA w.heap.size #[.int .i64 0, .int .i64 0, .bool false, .string ⟨#[]⟩] 77] from M3.out)
        go_roundw
        case rel => exact ⟨k + 1, by omega, by go_num, Lib.hid (by rw [HMM.out]; exact M4.out)⟩
        case measure => simp [intOf]; omega
      · rw [if_neg ht] at HMM
        have htb : decide (0 < ag) = false := decide_eq_false ht
        go_wp2_with fail
        have hi1 : (0 : Int) ≤ (k : Int) + 1 := by omega
        have hi2 : (k : Int) + 1 < (n : Int) + 1 := by omega
        go_still_tail 6, (by kernel_rfl)
        go_wp2_with fail
        refine (HAG.out _).mono ?_
        rintro e w2 ⟨rfl, hb2⟩
        have M2 := Lib.hid ((M1.out.below (bel_drew wr)).below hb2)
        clear hb2 hx0 hx1 hx2 hx3 y0 y1 y2 y3
        go_wp2_with fail
        go_roundw
        case rel => exact ⟨k + 1, by omega, by go_num, Lib.hid (by rw [HMM.out]; exact M2.out)⟩
        case measure => simp [intOf]; omega
    · obtain rfl : k = n := by omega
      have MS := Lib.hid (Mem.swap [] M1.out)
      obtain ⟨v0, f0⟩ := Mem.block_cell (i := 0) MS.out rfl
      obtain ⟨v1, f1⟩ := Mem.block_cell (i := 1) MS.out rfl
      obtain ⟨v2, f2⟩ := Mem.block_cell (i := 2) MS.out rfl
      obtain ⟨v3, f3⟩ := Mem.block_cell (i := 3) MS.out rfl
      have hff := HF.out k (Nat.le_refl _)
      rw [hff] at y0 y1 y2 y3
      clear hff hS M1 HF
      generalize hmm : maxF x0 r = mm at *
      have HME := Lib.hid hmm
      clear hmm
      obtain ⟨mi, ms, mw, mk⟩ := mm
      simp only at y0 y1 y2 y3 ⊢
      have M5 := Lib.hid (Mem.setBlock (i := 3) (Mem.setBlock (i := 2) (Mem.setBlock (i := 1) (Mem.setBlock (i := 0) MS.out (.int .i64 mi)) (.int .i64 ms)) (.bool mw)) (.string mk))
      obtain ⟨u0, _⟩ := Mem.block_cell (i := 0) M5.out rfl
      obtain ⟨u1, _⟩ := Mem.block_cell (i := 1) M5.out rfl
      obtain ⟨u2, _⟩ := Mem.block_cell (i := 2) M5.out rfl
      obtain ⟨u3, _⟩ := Mem.block_cell (i := 3) M5.out rfl
      have HB := Lib.hid M5.out.bel
      go_wp2_with fail
      exact bodyPost_ret (v := .agg #[.int .i64 mi, .int .i64 ms, .bool mw, .string mk]) (by simp [results, Try.results51, go_sem, u0, u1, u2, u3]) rfl ⟨by rw [HME.out], HB.out⟩

set_option maxHeartbeats 800000 in
theorem eldest_any (a : Option Addr) (c : Nat) (x0 : Mb) (r : List Mb) (w : World) (hr : Row w 77 4 a (x0 :: r).length c (mbFlat (x0 :: r))) (hbig : r.length ≤ 1000) :
    Calls Try.prog 32 #[.slice a (x0 :: r).length c] w fun e w' => e = .returned (.agg #[.int .i64 (minF x0 r).id, .int .i64 (minF x0 r).stamp, .bool (minF x0 r).waits, .string (minF x0 r).key]) ∧ Below w.heap.size w w' := by
  have hb0 := bel_new w (.cells #[.int .i64 0, .int .i64 0, .bool false, .string ⟨#[]⟩] 77)
  have HC := Lib.hid (min_any a c x0 r _ (hr.below hb0) hbig)
  have M0 := Lib.hid ((Mem.nil w).block #[.int .i64 0, .int .i64 0, .bool false, .string ⟨#[]⟩] 77)
  clear hr hb0
  generalize minF x0 r = mm at *
  obtain ⟨mi, ms, mw, mk⟩ := mm
  simp only at HC ⊢
  go_enter Try.func32, Try.ntmps32
  go_wp2_with fail
  refine HC.out.mono ?_
  rintro e w1 ⟨rfl, hb⟩
  have M1 := Lib.hid (M0.out.below hb)
  clear hb
  obtain ⟨v0, f0⟩ := Mem.block_cell (i := 0) M1.out rfl
  obtain ⟨v1, f1⟩ := Mem.block_cell (i := 1) M1.out rfl
  obtain ⟨v2, f2⟩ := Mem.block_cell (i := 2) M1.out rfl
  obtain ⟨v3, f3⟩ := Mem.block_cell (i := 3) M1.out rfl
  have M5 := Lib.hid (Mem.setBlock (i := 3) (Mem.setBlock (i := 2) (Mem.setBlock (i := 1) (Mem.setBlock (i := 0) M1.out (.int .i64 mi)) (.int .i64 ms)) (.bool mw)) (.string mk))
  obtain ⟨u0, _⟩ := Mem.block_cell (i := 0) M5.out rfl
  obtain ⟨u1, _⟩ := Mem.block_cell (i := 1) M5.out rfl
  obtain ⟨u2, _⟩ := Mem.block_cell (i := 2) M5.out rfl
  obtain ⟨u3, _⟩ := Mem.block_cell (i := 3) M5.out rfl
  have HB := Lib.hid M5.out.bel
  go_wp2_with fail
  exact bodyPost_ret (v := .agg #[.int .i64 mi, .int .i64 ms, .bool mw, .string mk]) (by simp [results, Try.results32, go_sem, u0, u1, u2, u3]) rfl ⟨rfl, HB.out⟩
set_option maxHeartbeats 800000 in
theorem youngest_any (a : Option Addr) (c : Nat) (x0 : Mb) (r : List Mb) (w : World) (hr : Row w 77 4 a (x0 :: r).length c (mbFlat (x0 :: r))) (hbig : r.length ≤ 1000) :
    Calls Try.prog 33 #[.slice a (x0 :: r).length c] w fun e w' => e = .returned (.agg #[.int .i64 (maxF x0 r).id, .int .i64 (maxF x0 r).stamp, .bool (maxF x0 r).waits, .string (maxF x0 r).key]) ∧ Below w.heap.size w w' := by
  have hb0 := bel_new w (.cells #[.int .i64 0, .int .i64 0, .bool false, .string ⟨#[]⟩] 77)
  have HC := Lib.hid (max_any a c x0 r _ (hr.below hb0) hbig)
  have M0 := Lib.hid ((Mem.nil w).block #[.int .i64 0, .int .i64 0, .bool false, .string ⟨#[]⟩] 77)
  clear hr hb0
  generalize maxF x0 r = mm at *
  obtain ⟨mi, ms, mw, mk⟩ := mm
  simp only at HC ⊢
  go_enter Try.func33, Try.ntmps33
  go_wp2_with fail
  refine HC.out.mono ?_
  rintro e w1 ⟨rfl, hb⟩
  have M1 := Lib.hid (M0.out.below hb)
  clear hb
  obtain ⟨v0, f0⟩ := Mem.block_cell (i := 0) M1.out rfl
  obtain ⟨v1, f1⟩ := Mem.block_cell (i := 1) M1.out rfl
  obtain ⟨v2, f2⟩ := Mem.block_cell (i := 2) M1.out rfl
  obtain ⟨v3, f3⟩ := Mem.block_cell (i := 3) M1.out rfl
  have M5 := Lib.hid (Mem.setBlock (i := 3) (Mem.setBlock (i := 2) (Mem.setBlock (i := 1) (Mem.setBlock (i := 0) M1.out (.int .i64 mi)) (.int .i64 ms)) (.bool mw)) (.string mk))
  obtain ⟨u0, _⟩ := Mem.block_cell (i := 0) M5.out rfl
  obtain ⟨u1, _⟩ := Mem.block_cell (i := 1) M5.out rfl
  obtain ⟨u2, _⟩ := Mem.block_cell (i := 2) M5.out rfl
  obtain ⟨u3, _⟩ := Mem.block_cell (i := 3) M5.out rfl
  have HB := Lib.hid M5.out.bel
  go_wp2_with fail
  exact bodyPost_ret (v := .agg #[.int .i64 mi, .int .i64 ms, .bool mw, .string mk]) (by simp [results, Try.results33, go_sem, u0, u1, u2, u3]) rfl ⟨rfl, HB.out⟩
end Go.Proofs.Ytlmfpkfgjfdhgaa
