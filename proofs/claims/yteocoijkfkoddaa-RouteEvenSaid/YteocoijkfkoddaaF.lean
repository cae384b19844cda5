/- RouteFinds answers true at each input. -/
import Derived.Test.YteocoijkfkoddaaE
namespace Go.Proofs.Yteocoijkfkoddaa
open Go.RowKit

theorem no_bad (ss : List ByteArray) (h : rightL ss = 0) (j : Nat) (hj : j < ss.length) : (ss.getD j ByteArray.empty).toList.isEmpty = false := by
  have h' : anyBad ss = false := by
    unfold rightL at h
    cases hs : anyBad ss with
    | false => rfl
    | true => simp only [hs, if_true] at h; split at h <;> simp at h
  cases hb : badStr (ss.getD j ByteArray.empty) with
  | true => rw [anyBad_at hj hb] at h'; exact absurd h' (by decide)
  | false => unfold badStr at hb; rw [Bool.or_eq_false_iff] at hb; exact hb.1

theorem empty_toList : ByteArray.empty.toList = [] := by rw [ByteArray.toList_eq]; rfl
theorem in_iff (ss : List ByteArray) (key : ByteArray) (h : rightL ss = 0) (i : Nat) (hi : i ≤ ss.length) :
    (!(Op.bytesLess key.toList (lowL ss i).toList) && ((ss.getD i ByteArray.empty).toList.isEmpty || Op.bytesLess key.toList (ss.getD i ByteArray.empty).toList)) = ((ofL ss key : Int) == (i : Int)) := by
  obtain ⟨hb1, hb2, hb3⟩ := ofL_bound ss key (rises_of ss h)
  generalize hk : ofL ss key = k at *
  have low_le : ∀ j, j < k → Op.bytesLess key.toList (ss.getD j ByteArray.empty).toList = false := fun j hj => by
    have := hb2 j hj; rw [leStr_iff] at this; simpa using this
  have hi_lt : ∀ j, k ≤ j → j < ss.length → Op.bytesLess key.toList (ss.getD j ByteArray.empty).toList = true := fun j h1 h2 => by
    have := hb3 j h1 h2; rw [leStr_iff] at this; simpa using this
  rcases Nat.lt_trichotomy i k with hlt | heq | hgt
  · rw [low_le i hlt, no_bad ss h i (by omega)]
    have : ((k : Int) == (i : Int)) = false := beq_eq_false_iff_ne.2 (by omega)
    rw [this]; simp
  · subst heq
    have e : ((i : Int) == (i : Int)) = true := by simp
    rw [e]
    have h1 : Op.bytesLess key.toList (lowL ss i).toList = false := by
      unfold lowL
      by_cases h0 : 0 < i
      · rw [if_pos h0]; exact low_le _ (by omega)
      · rw [if_neg h0]
        rw [empty_toList]
        cases key.toList <;> rfl
    rw [h1]
    by_cases hl : i < ss.length
    · rw [hi_lt i (Nat.le_refl _) hl]; simp
    · rw [show ss.getD i ByteArray.empty = ByteArray.empty by rw [List.getD, List.getElem?_eq_none (by omega)]; rfl]
      rw [empty_toList]; rfl
  · have h1 : Op.bytesLess key.toList (lowL ss i).toList = true := by
      unfold lowL
      rw [if_pos (by omega)]; exact hi_lt _ (by omega) (by omega)
    have : ((k : Int) == (i : Int)) = false := beq_eq_false_iff_ne.2 (by omega)
    rw [h1, this]; rfl

set_option maxHeartbeats 400000 in
theorem finds_far (a : Option Addr) (n c : Nat) (ss : List ByteArray) (key : ByteArray) (w : World) (hn : n ≤ maxLen) (h : StrsAt w a n ss) (hf : fewL ss 12 = false ∨ 100 < (key.size : Int)) :
    Calls Try.prog 3 #[.slice a n c, .string key] w fun e w' => e = .returned (.bool true) ∧ Keep w w' := by
  have HF := Lib.hid fun w1 (k : Keep w w1) => few_any a n c ss 12 w1 hn (h.keep k)
  clear h
  cases hfew : fewL ss 12 with
  | false =>
    rw [hfew] at HF
    clear hf hfew
    go_enter Try.func3, Try.ntmps3
    go_wp2_with fail
    refine (fixed_any w).mono ?_
    rintro e w1 ⟨rfl, hk⟩
    have K1 := Lib.hid hk
    clear hk
    go_wp2_with fail
    refine (HF.out _ K1.out).mono ?_
    rintro e _ ⟨rfl, rfl⟩
    go_wp2_with fail
    go_ret
    exact ⟨rfl, K1.out⟩
  | true =>
    rw [hfew] at HF
    have hkey : 100 < (key.size : Int) := by rcases hf with h | h; (rw [hfew] at h; exact absurd h (by decide)); exact h
    clear hf hfew
    go_enter Try.func3, Try.ntmps3
    go_wp2_with fail
    refine (fixed_any w).mono ?_
    rintro e w1 ⟨rfl, hk⟩
    have K1 := Lib.hid hk
    clear hk
    go_wp2_with fail
    refine (HF.out _ K1.out).mono ?_
    rintro e _ ⟨rfl, rfl⟩
    go_wp2_with fail
    go_ret
    exact ⟨rfl, K1.out⟩

set_option maxHeartbeats 400000 in
theorem finds_err (a : Option Addr) (n c : Nat) (ss : List ByteArray) (key : ByteArray) (w : World) (hn : n ≤ maxLen) (h : StrsAt w a n ss) (hf : fewL ss 12 = true) (hkey : ¬ 100 < (key.size : Int)) (he : rightL ss ≠ 0) :
    Calls Try.prog 3 #[.slice a n c, .string key] w fun e w' => e = .returned (.bool true) ∧ Keep w w' := by
  have HF := Lib.hid fun w1 (k : Keep w w1) => few_any a n c ss 12 w1 hn (h.keep k)
  have HN := Lib.hid fun w1 (k : Keep w w1) => new_err a n c ss w1 hn (h.keep k) he
  have HR := Lib.hid fun w1 (k : Keep w w1) => refRight_any a n c ss w1 hn (h.keep k)
  have he1 : (rightL ss == 0) = false := beq_eq_false_iff_ne.2 he
  have he2 : (rightL ss != 0) = true := bne_iff_ne.2 he
  clear h he
  generalize rightL ss = r at *
  rw [hf] at HF
  clear hf
  go_enter Try.func3, Try.ntmps3
  go_wp2_with fail
  refine (fixed_any w).mono ?_
  rintro e w1 ⟨rfl, hk⟩
  have K1 := Lib.hid hk
  clear hk
  go_wp2_with fail
  refine (HF.out _ K1.out).mono ?_
  rintro e _ ⟨rfl, rfl⟩
  go_wp2_with fail
  refine (HN.out _ K1.out).mono ?_
  rintro e w2 ⟨rfl, q, rfl⟩
  go_wp2_with fail
  have K2 := Lib.hid (K1.out.trans (Keep.drewN w1 q))
  refine (HR.out _ K2.out).mono ?_
  rintro e w2 ⟨rfl, q2, rfl⟩
  have K3 := Lib.hid (K2.out.trans (Keep.drewN _ q2))
  go_wp2_with fail
  go_ret
  exact ⟨rfl, by rw [← World.drewN_drewN]; exact K3.out⟩

set_option maxHeartbeats 1000000 in
theorem finds_ok (a : Option Addr) (c : Nat) (ss : List ByteArray) (key : ByteArray) (w : World) (h : StrsAt w a ss.length ss) (hf : fewL ss 12 = true) (hkey : ¬ 100 < (key.size : Int)) (he : rightL ss = 0) (h7 : ss.length ≤ 7) :
    Calls Try.prog 3 #[.slice a ss.length c, .string key] w fun e w' => e = .returned (.bool true) ∧ Keep w w' := by
  have HF := Lib.hid fun w1 (k : Keep w w1) => few_any a ss.length c ss 12 w1 (by unfold maxLen; omega) (h.keep k)
  have HN := Lib.hid fun w1 (k : Keep w w1) => new_ok a ss.length c ss w1 (by unfold maxLen; omega) (h.keep k) he h7
  have HR := Lib.hid fun w1 (k : Keep w w1) => refRight_any a ss.length c ss w1 (by unfold maxLen; omega) (h.keep k)
  have HO := Lib.hid fun w1 (k : Keep w w1) => refOf_any a ss.length c ss key w1 (by unfold maxLen; omega) (h.keep k)
  have HS : Hid (∀ w1, Keep w w1 → ∀ a' c', StrsAt w1 a' ss.length ss → Calls Try.prog 11 #[.slice a' ss.length c', .slice a ss.length c] w1 fun e w' => e = .returned (.bool true) ∧ ∃ k, w' = w1.drewN k) := Lib.hid fun w1 k a' c' hs => by
    have := same_any a' a ss.length c' ss.length c ss ss w1 (by unfold maxLen; omega) hs (h.keep k)
    simpa using this
  have hin := Lib.hid (in_iff ss key he)
  have hri := Lib.hid (rises_of ss he)
  rw [he] at HR
  rw [hf] at HF
  have h7n : ss.length ≤ 9223372036854775807 := by omega
  clear h he hf
  go_enter Try.func3, Try.ntmps3
  go_wp2_with fail
  refine (fixed_any w).mono ?_
  rintro e w1 ⟨rfl, hk⟩
  have K1 := Lib.hid hk
  clear hk
  go_wp2_with fail
  refine (HF.out _ K1.out).mono ?_
  rintro e _ ⟨rfl, rfl⟩
  go_wp2_with fail
  refine (HN.out _ K1.out).mono ?_
  rintro e w2 ⟨g, rfl, hm, _, hk⟩
  have K2 := Lib.hid (K1.out.trans hk)
  have M2 := Lib.hid hm
  clear hk hm
  go_wp2_with fail
  refine (HR.out _ K2.out).mono ?_
  rintro e _ ⟨rfl, q, rfl⟩
  have K3 := Lib.hid (K2.out.trans (Keep.drewN _ q))
  have M3 := Lib.hid (M2.out.keep (Keep.drewN _ q))
  go_wp2_with fail
  refine (shards_any g ss _ M3.out).mono ?_
  rintro e _ ⟨rfl, rfl⟩
  go_wp2_with fail
  refine (splits_any g ss _ M3.out).mono ?_
  rintro e w4 ⟨a4, c4, rfl, hs, hk⟩
  have K4 := Lib.hid (K3.out.trans hk)
  have M4 := Lib.hid (M3.out.keep hk)
  have S4 := Lib.hid hs
  clear hk hs
  go_wp2_with fail
  refine (HS.out _ K4.out _ _ S4.out).mono ?_
  rintro e _ ⟨rfl, q5, rfl⟩
  have K5 := Lib.hid (K4.out.trans (Keep.drewN _ q5))
  have M5 := Lib.hid (M4.out.keep (Keep.drewN _ q5))
  go_wp2_with fail
  refine (of_any g ss key _ M5.out hri.out).mono ?_
  rintro e w6 ⟨rfl, hk⟩
  have K6 := Lib.hid (K5.out.trans hk)
  have M6 := Lib.hid (M5.out.keep hk)
  clear hk
  go_wp2_with fail
  refine (HO.out _ K6.out).mono ?_
  rintro e _ ⟨rfl, rfl⟩
  go_wp2_with fail
  refine (shards_any g ss _ M6.out).mono ?_
  rintro e _ ⟨rfl, rfl⟩
  go_wp2_with fail
  go_loopw [8, 70] (fun _ i wr => ∃ k : Nat, k ≤ ss.length + 1 ∧ i = .int .i64 k ∧ Hid (Keep w wr) ∧ Hid (MapAt wr g ss)) (fun _ i _ => ss.length + 1 - (intOf i).toNat)
  case atStart => exact ⟨0, Nat.zero_le _, rfl, K6, M6⟩
  case round =>
    obtain ⟨k, hk, rfl, KR, MR⟩ := hrel
    by_cases hlt : k < ss.length + 1
    · have hiff := hin.out k (by omega)
      have HRg := Lib.hid (range_in g ss k wr MR.out (by omega))
      generalize lowL ss k = lo at *
      generalize ss.getD k ByteArray.empty = hi at *
      generalize hb1 : Op.bytesLess key.toList lo.toList = b1 at *
      generalize hb2 : hi.toList.isEmpty = b2 at *
      generalize hb3 : Op.bytesLess key.toList hi.toList = b3 at *
      generalize hb4 : ((ofL ss key : Int) == (k : Int)) = b4 at *
      cases b1 <;> cases b2 <;> cases b3 <;> cases b4 <;> first | exact absurd hiff (by decide) | clear hiff
      all_goals
        go_wp2_with fail
        refine HRg.out.mono ?_
        rintro e _ ⟨rfl, rfl⟩
        go_wp2_with fail
        refine (of_any g ss key _ MR.out hri.out).mono ?_
        rintro e w7 ⟨rfl, hk7⟩
        have KR7 := Lib.hid (KR.out.trans hk7)
        have MR7 := Lib.hid (MR.out.keep hk7)
        clear hk7
        go_wp2_with fail
        go_roundw
        case rel => exact ⟨k + 1, by omega, by go_num, KR7, MR7⟩
        case measure => simp [intOf]; omega
    · go_wp2_with fail
      refine (range_out g ss (-1) _ MR.out (Or.inl (by decide))).mono ?_
      rintro e _ ⟨rfl, rfl⟩
      go_wp2_with fail
      go_ret
      exact ⟨rfl, KR.out⟩
end Go.Proofs.Yteocoijkfkoddaa
