/- Even: the program's splits of keys into parts alike. -/
import Derived.Test.YteocoijkfkoddaaR
namespace Go.Proofs.Yteocoijkfkoddaa
open Go.RowKit

theorem sortcompact (a : Option Addr) (n c : Nat) (ss : List ByteArray) (w : World) (hn : n ≤ 1000) (h : Row w 9 1 a n c (ss.map Value.string)) :
    Calls Try.prog 30 #[.slice a n c] w fun e w' => e = .returned (.tuple #[]) ∧ Touch (blkOf a) w w' ∧
      Calls Try.prog 31 #[.slice a n c] w' fun e w'' => e = .returned (.slice a (srt (ss.map (·.toList))).length c) ∧ StrsAt w'' a (srt (ss.map (·.toList))).length ((srt (ss.map (·.toList))).map toB) ∧ Touch (blkOf a) w' w'' := by
  have hl : ss.length = n := by have := h.len; rw [List.length_map] at this; omega
  by_cases h0 : n = 0
  · subst h0
    obtain rfl : ss = [] := List.length_eq_zero_iff.1 hl
    refine (Try.slices_Sort_string_none a c w).mono fun e w' ⟨he, hw⟩ => ⟨he, hw ▸ Touch.refl _ _, ?_⟩
    refine (Try.slices_Compact_string_empty a c w').mono fun e w'' ⟨he, hw⟩ => ⟨?_, ⟨by simp [srt, Lib.compact, Lib.compactUpTo], fun j hj => absurd hj (by simp [srt, Lib.compact, Lib.compactUpTo])⟩, hw ▸ Touch.refl _ _⟩
    rw [he]; simp [srt, Lib.compact, Lib.compactUpTo]
  · rcases h.out with ⟨_, h1, _⟩ | ⟨g, cur, rfl, hg, hnc, hcm, hcs, htk, hxl⟩
    · exact absurd h1 h0
    · refine (sort_any g n c ss w hn h).mono fun e w' hw => ?_
      obtain ⟨he, hH, ht⟩ := hw
      refine ⟨he, ht, ?_⟩
      have hM : ((ss.map (·.toList)).mergeSort fun x y => decide (x ≤ y)).length = n := by rw [List.length_mergeSort, List.length_map, hl]
      have hc := compact_any g c ((ss.map (·.toList)).mergeSort fun x y => decide (x ≤ y)) w' (by omega) (by omega) hH
      rw [hM] at hc
      exact hc

set_option maxHeartbeats 400000 in
theorem even_bad (v : Value) (a : Option Addr) (n c : Nat) (hv : v = .slice a n c) (m : Int) (w : World) (h : m < 1 ∨ 8 < m) :
    Calls Try.prog 18 #[v, .int .i64 m] w fun e w' => e = .returned (.tuple #[.pointer none, .int .i64 1]) ∧ w = w' := by
  subst hv
  by_cases h1 : m < 1
  · clear h
    go_enter Try.func18, Try.ntmps18
    go_wp2_with fail
    go_ret2
    exact ⟨rfl, rfl⟩
  · have h8 : 8 < m := by omega
    clear h
    go_enter Try.func18, Try.ntmps18
    go_wp2_with fail
    go_ret2
    exact ⟨rfl, rfl⟩

set_option maxRecDepth 100000 in
set_option maxHeartbeats 1000000 in
theorem even_else (a : Option Addr) (n c N : Nat) (ss : List ByteArray) (w : World) (hN1 : 1 ≤ N) (hN8 : N ≤ 8) (hn : n ≤ 60) (h : StrsAt w a n ss)
    (R : Ending → World → Prop) (hR : ∀ w1 a c, Keep w w1 → StrsAt w1 a (evenS ((srt (ss.map (·.toList))).map toB) N (N - 1)).1.length (evenS ((srt (ss.map (·.toList))).map toB) N (N - 1)).1 → Calls Try.prog 8 #[.slice a (evenS ((srt (ss.map (·.toList))).map toB) N (N - 1)).1.length c] w1 R)
    (hRe : ∀ e w', R e w' → ∃ p n, e = .returned (.tuple #[.pointer p, .int .i64 n])) :
    Calls Try.prog 18 #[.slice a n c, .int .i64 N] w R := by
  have hll : (srt (ss.map (·.toList))).length ≤ 60 := by
    have h1 : (srt (ss.map (·.toList))).length ≤ ((ss.map (·.toList)).mergeSort fun x y => decide (x ≤ y)).length := by
      unfold srt Lib.compact Lib.compactUpTo
      rw [List.length_map]
      exact Nat.le_trans (List.length_filter_le _ _) (by simp)
    rw [List.length_mergeSort, List.length_map] at h1
    have := h.1; omega
  have HC := Lib.hid (clone_any a n c ss w (by omega) h)
  have HSC := Lib.hid fun a1 c1 w1 (hr : Row w1 9 1 a1 n c1 (ss.map Value.string)) => sortcompact a1 n c1 ss w1 (by omega) hr
  have hlm : ((srt (ss.map (·.toList))).map toB).length = (srt (ss.map (·.toList))).length := List.length_map ..
  rw [← hlm] at hll HSC
  clear hlm
  generalize (srt (ss.map (·.toList))).map toB = l at *
  have HRR := Lib.hid hR
  have HRe := Lib.hid hRe
  have hN9 : ¬ (N : Int) < 1 := by omega
  clear h hR hRe
  go_enter Try.func18, Try.ntmps18
  go_wp2_with fail
  refine HC.out.mono ?_
  rintro e w1 ⟨a1, c1, rfl, ho, -, hk⟩
  obtain ⟨hrow, hfr⟩ := Row.of_owns ho
  have HFr := Lib.hid hfr
  have K1 := Lib.hid hk
  have HSC1 := Lib.hid (HSC.out a1 c1 w1 hrow)
  clear ho hrow hfr hk HSC
  go_wp2_with fail
  refine HSC1.out.mono ?_
  rintro e w2 ⟨rfl, ht, hcc⟩
  have HCC := Lib.hid hcc
  have K2 : Hid (Keep w w2) := Lib.hid (Touch.keep ((Touch.of_below K1.out []).trans ht (fun x hx => .inr (by
    obtain ⟨y, hy, e⟩ := mem_blkOf.1 hx; rw [← e]; exact HFr.out y hy))))
  clear ht hcc HSC1
  go_wp2_with fail
  refine HCC.out.mono ?_
  rintro e w3 ⟨rfl, hst, ht⟩
  have HSt := Lib.hid hst
  have K3 : Hid (Keep w w3) := Lib.hid (Touch.keep ((Touch.of_below K2.out []).trans ht (fun x hx => .inr (by
    obtain ⟨y, hy, e⟩ := mem_blkOf.1 hx; rw [← e]; exact HFr.out y hy))))
  clear ht hst HCC
  go_wp2_with fail
  go_loopw [7, 8, 9, 10] (fun s7 s8 s9 _ wr => ∃ (k : Nat) (a7 : Option Addr) (c7 : Nat), k + 1 ≤ N ∧ s9 = .int .i64 ((k : Int) + 1) ∧ s8 = .int .i64 ((evenS l N k).2 : Nat) ∧ s7 = .slice a7 (evenS l N k).1.length c7 ∧
      Hid (Row wr 9 1 a7 (evenS l N k).1.length c7 ((evenS l N k).1.map Value.string)) ∧ Hid (∀ x, a7 = some x → w3.heap.size ≤ x.block) ∧ Hid (Keep w3 wr)) (fun _ _ i _ _ => N - (intOf i).toNat)
  case atStart => exact ⟨0, none, 0, by omega, rfl, rfl, rfl, Lib.hid (Row.nil _ _ _), Lib.hid (by simp), Lib.hid (Keep.refl _)⟩
  case round =>
    obtain ⟨k, a7, c7, hk, rfl, rfl, rfl, HR, HB, HK⟩ := hrel
    by_cases hlt : k + 1 < N
    · have hel := even_len l N k
      have hst : evenS l N (k + 1) = if (evenS l N k).2 < (k + 1) * l.length / N then ((evenS l N k).1 ++ [l.getD ((k + 1) * l.length / N) ByteArray.empty], (k + 1) * l.length / N) else evenS l N k := rfl
      have hpl := even_place l N (by omega) k
      have hp1 : (k + 1) * l.length ≤ 8 * 60 := Nat.mul_le_mul (by omega) hll
      have hmul : ((k : Int) + 1) * (l.length : Int) = (((k + 1) * l.length : Nat) : Int) := by simp
      have hdiv : ((((k + 1) * l.length : Nat) : Int)) / (N : Int) = (((k + 1) * l.length / N : Nat) : Int) := by simp
      have hat : 0 < l.length → (k + 1) * l.length / N < l.length := at_lt l.length N (k + 1) hlt
      have hz : l.length = 0 → (k + 1) * l.length / N = 0 := fun e => by rw [e]; simp
      generalize (k + 1) * l.length = M at *
      have hTb : M / N ≤ 480 := Nat.le_trans (Nat.div_le_self _ _) hp1
      generalize M / N = T at *
      obtain ⟨E', hE⟩ : ∃ E', evenS l N (k + 1) = E' := ⟨_, rfl⟩
      rw [hE] at hst
      generalize evenS l N k = E at *
      obtain ⟨O, p⟩ := E
      replace hst : E' = if p < T then (O ++ [l.getD T ByteArray.empty], T) else (O, p) := hst
      simp only at hel hpl HR
      have hOb : O.length ≤ 60 := by omega
      by_cases hT : p < T
      · rw [if_pos hT] at hst
        have hTl : T < l.length := hat (by rcases Nat.eq_zero_or_pos l.length with e | e; (rw [hz e] at hT; omega); exact e)
        have HE : Hid (evenS l N (k + 1) = (O ++ [l.getD T ByteArray.empty], T)) := Lib.hid (hE.trans hst)
        obtain ⟨b, off, rfl, hcell0⟩ := HSt.out.2 T hTl
        have hcell := HK.out.cell hcell0
        generalize l.getD T ByteArray.empty = x at *
        obtain ⟨a8, c8, w8, hrun, hrow, ht8, hf8⟩ := app_str a7 _ c7 (O.map Value.string) x wr HR.out (by omega)
        have HRun := Lib.hid hrun
        have HR8 : Hid (Row w8 9 1 a8 (O ++ [x]).length c8 ((O ++ [x]).map Value.string)) := Lib.hid (by rw [List.length_append, List.length_singleton, List.map_append]; exact hrow)
        have HB8 : Hid (∀ x, a8 = some x → w3.heap.size ≤ x.block) := Lib.hid fun x hx => by
          rcases hf8 x hx with h1 | h1
          · obtain ⟨y, hy, e⟩ := mem_blkOf.1 h1; rw [← e]; exact HB.out y hy
          · exact Nat.le_trans HK.out.size h1
        have HK8 : Hid (Keep w3 w8) := Lib.hid (Touch.keep ((Touch.of_below HK.out []).trans ht8 (fun x hx => .inr (by
          obtain ⟨y, hy, e⟩ := mem_blkOf.1 hx; rw [← e]; exact HB.out y hy))))
        have HL : Hid ((O ++ [x]).length = O.length + 1) := Lib.hid (by simp)
        clear hE hst hcell0 hrun hrow ht8 hf8 HR HB HK hat hz hpl
        go_wp2_with (at_builtin; refine wpList_appendR _ rfl _ _ 22 22 rfl _ _ rfl rfl HRun.out ?_)
        go_roundw
        case rel => exact ⟨k + 1, a8, c8, by omega, by go_num, by rw [HE.out], by rw [HE.out, HL.out], by rw [HE.out]; exact HR8, HB8, HK8⟩
        case measure => simp [intOf]; omega
      · rw [if_neg hT] at hst
        have HE : Hid (evenS l N (k + 1) = (O, p)) := Lib.hid (hE.trans hst)
        clear hE hst hat hz hpl
        go_wp2_with fail
        go_roundw
        case rel => exact ⟨k + 1, a7, c7, by omega, by go_num, by rw [HE.out], by rw [HE.out], by rw [HE.out]; exact HR, HB, HK⟩
        case measure => simp [intOf]; omega
    · have e : k = N - 1 := by omega
      subst e
      have HSO := Lib.hid (Row.strs HR.out)
      clear HR
      generalize evenS l N (N - 1) = E at *
      obtain ⟨O, p⟩ := E
      go_wp2_with fail
      refine (HRR.out _ _ _ (K3.out.trans HK.out) HSO.out).mono ?_
      rintro e w4 hR
      obtain ⟨p4, m4, rfl⟩ := HRe.out _ _ hR
      have HR4 := Lib.hid hR
      clear hR
      go_wp2_with fail
      exact HR4.out
end Go.Proofs.Yteocoijkfkoddaa
