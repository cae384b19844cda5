/- RouteSplits answers true at each input. -/
import Derived.Test.YteocoijkfkoddaaL
import Derived.Test.YteocoijkfkoddaaG
namespace Go.Proofs.Yteocoijkfkoddaa
open Go.RowKit

set_option maxHeartbeats 400000 in
theorem splits_far (a : Option Addr) (n c : Nat) (ss : List ByteArray) (key other : ByteArray) (w : World) (hn : n ≤ maxLen) (h : StrsAt w a n ss) (hf : fewL ss 7 = false ∨ 100 < (key.size : Int) ∨ 100 < (other.size : Int)) :
    Calls Try.prog 4 #[.slice a n c, .string key, .string other] w fun e w' => e = .returned (.bool true) ∧ Keep w w' := by
  have HF := Lib.hid fun w1 (k : Keep w w1) => few_any a n c ss 7 w1 hn (h.keep k)
  clear h
  cases hfew : fewL ss 7 with
  | false =>
    rw [hfew] at HF
    clear hf hfew
    go_enter Try.func4, Try.ntmps4
    go_wp2_with fail
    refine (fixed_any w).mono ?_
    rintro e w1 ⟨rfl, hk⟩
    have K1 := Lib.hid hk
    clear hk
    go_wp2_with fail
    refine (HF.out _ K1.out).mono ?_
    rintro e _ ⟨rfl, rfl⟩
    go_wp2_with fail
    go_ret
    exact ⟨rfl, K1.out⟩
  | true =>
    rw [hfew] at HF hf
    by_cases hkey : 100 < (key.size : Int)
    · clear hf hfew
      go_enter Try.func4, Try.ntmps4
      go_wp2_with fail
      refine (fixed_any w).mono ?_
      rintro e w1 ⟨rfl, hk⟩
      have K1 := Lib.hid hk
      clear hk
      go_wp2_with fail
      refine (HF.out _ K1.out).mono ?_
      rintro e _ ⟨rfl, rfl⟩
      go_wp2_with fail
      go_ret
      exact ⟨rfl, K1.out⟩
    · have hoth : 100 < (other.size : Int) := by rcases hf with h | h | h; (exact absurd h (by decide)); (exact absurd h hkey); exact h
      clear hf hfew
      go_enter Try.func4, Try.ntmps4
      go_wp2_with fail
      refine (fixed_any w).mono ?_
      rintro e w1 ⟨rfl, hk⟩
      have K1 := Lib.hid hk
      clear hk
      go_wp2_with fail
      refine (HF.out _ K1.out).mono ?_
      rintro e _ ⟨rfl, rfl⟩
      go_wp2_with fail
      go_ret
      exact ⟨rfl, K1.out⟩

set_option maxHeartbeats 400000 in
theorem splits_err (a : Option Addr) (n c : Nat) (ss : List ByteArray) (key other : ByteArray) (w : World) (hn : n ≤ maxLen) (h : StrsAt w a n ss) (hf : fewL ss 7 = true) (hkey : ¬ 100 < (key.size : Int)) (hoth : ¬ 100 < (other.size : Int)) (he : rightL ss ≠ 0) :
    Calls Try.prog 4 #[.slice a n c, .string key, .string other] w fun e w' => e = .returned (.bool true) ∧ Keep w w' := by
  have HF := Lib.hid fun w1 (k : Keep w w1) => few_any a n c ss 7 w1 hn (h.keep k)
  have HN := Lib.hid fun w1 (k : Keep w w1) => new_err a n c ss w1 hn (h.keep k) he
  have he1 : (rightL ss == 0) = false := beq_eq_false_iff_ne.2 he
  have he2 : (rightL ss != 0) = true := bne_iff_ne.2 he
  clear h he
  generalize rightL ss = r at *
  rw [hf] at HF
  clear hf
  go_enter Try.func4, Try.ntmps4
  go_wp2_with fail
  refine (fixed_any w).mono ?_
  rintro e w1 ⟨rfl, hk⟩
  have K1 := Lib.hid hk
  clear hk
  go_wp2_with fail
  refine (HF.out _ K1.out).mono ?_
  rintro e _ ⟨rfl, rfl⟩
  go_wp2_with fail
  refine (HN.out _ K1.out).mono ?_
  rintro e w2 ⟨rfl, q, rfl⟩
  go_wp2_with fail
  go_ret
  exact ⟨rfl, K1.out.trans (Keep.drewN _ _)⟩

set_option maxHeartbeats 400000 in
theorem splits_bad (a : Option Addr) (n c : Nat) (ss : List ByteArray) (key other : ByteArray) (w : World) (hn : n ≤ maxLen) (h : StrsAt w a n ss) (hf : fewL ss 7 = true) (hkey : ¬ 100 < (key.size : Int)) (hoth : ¬ 100 < (other.size : Int)) (he : rightL ss = 0) (h7 : ss.length ≤ 7) (hb : badStr key = true) :
    Calls Try.prog 4 #[.slice a n c, .string key, .string other] w fun e w' => e = .returned (.bool true) ∧ Keep w w' := by
  have HF := Lib.hid fun w1 (k : Keep w w1) => few_any a n c ss 7 w1 hn (h.keep k)
  have HN := Lib.hid fun w1 (k : Keep w w1) => new_ok a n c ss w1 hn (h.keep k) he h7
  have HB := Lib.hid fun g w1 => split_bad g key w1 hb
  rw [hf] at HF
  unfold badStr at hb
  by_cases h0 : key.toList.isEmpty = true
  · clear hf h he hb
    go_enter Try.func4, Try.ntmps4
    go_wp2_with fail
    refine (fixed_any w).mono ?_
    rintro e w1 ⟨rfl, hk⟩
    have K1 := Lib.hid hk
    clear hk
    go_wp2_with fail
    refine (HF.out _ K1.out).mono ?_
    rintro e _ ⟨rfl, rfl⟩
    go_wp2_with fail
    refine (HN.out _ K1.out).mono ?_
    rintro e w2 ⟨g, rfl, hm, _, hk⟩
    have K2 := Lib.hid (K1.out.trans hk)
    clear hk hm
    go_wp2_with fail
    refine (HB.out _ _).mono ?_
    rintro e _ ⟨rfl, rfl⟩
    go_wp2_with fail
    go_ret
    exact ⟨rfl, K2.out⟩
  · have h0' : key.toList.isEmpty = false := by simpa using h0
    have h16 : 16 < (key.size : Int) := by simpa [h0'] using hb
    clear hf h he hb h0
    go_enter Try.func4, Try.ntmps4
    go_wp2_with fail
    refine (fixed_any w).mono ?_
    rintro e w1 ⟨rfl, hk⟩
    have K1 := Lib.hid hk
    clear hk
    go_wp2_with fail
    refine (HF.out _ K1.out).mono ?_
    rintro e _ ⟨rfl, rfl⟩
    go_wp2_with fail
    refine (HN.out _ K1.out).mono ?_
    rintro e w2 ⟨g, rfl, hm, _, hk⟩
    have K2 := Lib.hid (K1.out.trans hk)
    clear hk hm
    go_wp2_with fail
    refine (HB.out _ _).mono ?_
    rintro e _ ⟨rfl, rfl⟩
    go_wp2_with fail
    go_ret
    exact ⟨rfl, K2.out⟩

theorem isSplit_succ (ss : List ByteArray) (key : ByteArray) (m : Nat) (h : ofL ss key = m + 1) : isSplit ss key = decide ([ss.getD m ByteArray.empty] = [key]) := by
  simp [isSplit, h]
theorem isSplit_zero (ss : List ByteArray) (key : ByteArray) (h : ofL ss key = 0) : isSplit ss key = decide (([] : List ByteArray) = [key]) := by
  simp [isSplit, h]
theorem strsAt_one (w : World) (s : ByteArray) (T : TypeId) : StrsAt (w.alloc (.cells #[.string s] T)) (some ⟨w.heap.size, 0, none⟩) 1 [s] := by
  refine ⟨rfl, fun j hj => ⟨w.heap.size, 0, rfl, ?_⟩⟩
  obtain rfl : j = 0 := by omega
  exact cell_new1 _ _ _

theorem strs1 {w w' : World} {b off m : Nat} {s : ByteArray} (k : Keep w w') (h : w.cell? ⟨b, off + m, none⟩ = some (.string s)) : StrsAt w' (some ⟨b, off + m, none⟩) 1 [s] := by
  refine ⟨rfl, fun j hj => ⟨b, off + m, rfl, ?_⟩⟩
  obtain rfl : j = 0 := by omega
  exact k.cell h

set_option maxHeartbeats 1000000 in
theorem splits_is (a : Option Addr) (c : Nat) (ss : List ByteArray) (key other : ByteArray) (w : World) (hnc : ss.length ≤ c) (hcm : c ≤ maxLen) (h : StrsAt w a ss.length ss) (hf : fewL ss 7 = true) (hkey : ¬ 100 < (key.size : Int)) (hoth : ¬ 100 < (other.size : Int)) (he : rightL ss = 0) (h7 : ss.length ≤ 7) (hb : badStr key = false) (hs : isSplit ss key = true) :
    Calls Try.prog 4 #[.slice a ss.length c, .string key, .string other] w fun e w' => e = .returned (.bool true) ∧ Keep w w' := by
  have hr := rises_of ss he
  have HF := Lib.hid fun w1 (k : Keep w w1) => few_any a ss.length c ss 7 w1 (by unfold maxLen; omega) (h.keep k)
  have HN := Lib.hid fun w1 (k : Keep w w1) => new_ok a ss.length c ss w1 (by unfold maxLen; omega) (h.keep k) he h7
  have HB := Lib.hid fun g w1 (hm : MapAt w1 g ss) => split_is g ss key w1 hb hm hr hs
  have HO := Lib.hid fun g w1 (hm : MapAt w1 g ss) => of_any g ss key w1 hm hr
  rw [hf] at HF
  unfold badStr at hb
  rw [Bool.or_eq_false_iff] at hb
  obtain ⟨hb1, hb2⟩ := hb
  have hb2' : ¬ 16 < (key.size : Int) := by simpa using hb2
  have hle : ofL ss key ≤ ss.length := List.countP_le_length
  have hH := Lib.hid h
  unfold maxLen at hcm
  cases hk : ofL ss key with
  | zero => rw [isSplit_zero ss key hk] at hs; simp at hs
  | succ m =>
    rw [hk] at HO hle
    rw [isSplit_succ ss key m hk] at hs
    have HS := Lib.hid hs
    obtain ⟨b, off, rfl, hcell⟩ := h.2 m (by omega)
    have HC := Lib.hid hcell
    clear hf he hr hb2 hs hk h hcell
    go_enter Try.func4, Try.ntmps4
    go_wp2_with fail
    refine (fixed_any w).mono ?_
    rintro e w1 ⟨rfl, hk⟩
    have K1 := Lib.hid hk
    clear hk
    go_wp2_with fail
    refine (HF.out _ K1.out).mono ?_
    rintro e _ ⟨rfl, rfl⟩
    go_wp2_with fail
    refine (HN.out _ K1.out).mono ?_
    rintro e w2 ⟨g, rfl, hm, _, hk⟩
    have K2 := Lib.hid (K1.out.trans hk)
    have M2 := Lib.hid hm
    clear hk hm
    go_wp2_with fail
    refine (HB.out g _ M2.out).mono ?_
    rintro e w3 ⟨rfl, hk⟩
    have K3 := Lib.hid (K2.out.trans hk)
    have M3 := Lib.hid (M2.out.keep hk)
    clear hk
    go_wp2_with fail
    refine (HO.out g _ M3.out).mono ?_
    rintro e w4 ⟨rfl, hk⟩
    have K4 := Lib.hid (K3.out.trans hk)
    have M4 := Lib.hid (M3.out.keep hk)
    clear hk
    go_wp2_with fail
    refine (HO.out g _ M4.out).mono ?_
    rintro e w5 ⟨rfl, hk⟩
    have K5 := Lib.hid (K4.out.trans hk)
    clear hk
    go_wp2_with fail
    have hsm := same_any (some ⟨b, off + m, none⟩) (some ⟨w5.heap.size, 0, none⟩) 1 (c - m) 1 1 [ss.getD m ByteArray.empty] [key] (w5.alloc (.cells #[.string key] 9)) (by decide)
      (strs1 (K5.out.trans (Keep.alloc _ _)) HC.out) (strsAt_one w5 key 9)
    rw [HS.out] at hsm
    refine hsm.mono ?_
    clear hsm
    rintro e w6 ⟨rfl, q, rfl⟩
    have K6 := Lib.hid ((K5.out.trans (Keep.alloc _ (.cells #[.string key] 9))).trans (Keep.drewN _ q))
    go_wp2_with fail
    go_ret
    exact ⟨rfl, K6.out⟩

theorem strs0 (w : World) (a : Option Addr) : StrsAt w a 0 [] := ⟨rfl, fun j hj => absurd hj (by omega)⟩
end Go.Proofs.Yteocoijkfkoddaa
