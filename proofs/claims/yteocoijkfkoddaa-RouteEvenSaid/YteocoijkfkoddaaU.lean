/- RouteEven: for every input the law returns true, and each argument reads behind the call as it read before. -/
import Derived.Test.YteocoijkfkoddaaT
import Derived.Test.YteocoijkfkoddaaG
namespace Go.Proofs.Yteocoijkfkoddaa
open Go.ChangeShapes Go.WideShapes Go.ChangeAt Go.RowKit

set_option maxHeartbeats 400000 in
theorem evlaw_far (a : Option Addr) (n c : Nat) (m : Int) (ss : List ByteArray) (w : World) (hn : n ≤ maxLen) (h : StrsAt w a n ss) (hf : fewL ss 60 = false) :
    Calls Try.prog 5 #[.slice a n c, .int .i64 m] w fun e w' => e = .returned (.bool true) ∧ Keep w w' := by
  have HF := Lib.hid fun w1 (k : Keep w w1) => few_any a n c ss 60 w1 hn (h.keep k)
  rw [hf] at HF
  clear h hf
  go_enter Try.func5, Try.ntmps5
  go_wp2_with fail
  refine (fixed_any w).mono ?_
  rintro e w1 ⟨rfl, hk⟩
  have K1 := Lib.hid hk
  clear hk
  go_wp2_with fail
  refine (HF.out _ K1.out).mono ?_
  rintro e _ ⟨rfl, rfl⟩
  go_wp2_with fail
  go_ret
  exact ⟨rfl, K1.out⟩
set_option maxHeartbeats 400000 in
theorem evlaw_bad (a : Option Addr) (n c : Nat) (m : Int) (ss : List ByteArray) (w : World) (hn : n ≤ maxLen) (h : StrsAt w a n ss) (hf : fewL ss 60 = true) (hm : m < 1 ∨ 8 < m) :
    Calls Try.prog 5 #[.slice a n c, .int .i64 m] w fun e w' => e = .returned (.bool true) ∧ Keep w w' := by
  have HF := Lib.hid fun w1 (k : Keep w w1) => few_any a n c ss 60 w1 hn (h.keep k)
  have HE := Lib.hid fun w1 => even_bad (.slice a n c) a n c rfl m w1 hm
  rw [hf] at HF
  clear h hf
  by_cases h1 : m < 1
  · clear hm
    go_enter Try.func5, Try.ntmps5
    go_wp2_with fail
    refine (fixed_any w).mono ?_
    rintro e w1 ⟨rfl, hk⟩
    have K1 := Lib.hid hk
    clear hk
    go_wp2_with fail
    refine (HF.out _ K1.out).mono ?_
    rintro e _ ⟨rfl, rfl⟩
    go_wp2_with fail
    refine (HE.out _).mono ?_
    rintro e _ ⟨rfl, rfl⟩
    go_wp2_with fail
    go_ret
    exact ⟨rfl, K1.out⟩
  · have h8 : 8 < m := by omega
    clear hm
    go_enter Try.func5, Try.ntmps5
    go_wp2_with fail
    refine (fixed_any w).mono ?_
    rintro e w1 ⟨rfl, hk⟩
    have K1 := Lib.hid hk
    clear hk
    go_wp2_with fail
    refine (HF.out _ K1.out).mono ?_
    rintro e _ ⟨rfl, rfl⟩
    go_wp2_with fail
    refine (HE.out _).mono ?_
    rintro e _ ⟨rfl, rfl⟩
    go_wp2_with fail
    go_ret
    exact ⟨rfl, K1.out⟩

theorem rightL_le (ss : List ByteArray) (h : rightL ss = 0) : ss.length ≤ 7 := by
  by_cases h7 : 7 < ss.length
  · rw [rightL, if_pos h7] at h; exact absurd h (by decide)
  · omega
set_option maxHeartbeats 1000000 in
theorem evlaw_err (a : Option Addr) (n c N : Nat) (ss : List ByteArray) (w : World) (hn : n ≤ 60) (h : StrsAt w a n ss) (hf : fewL ss 60 = true) (hN1 : 1 ≤ N) (hN8 : N ≤ 8)
    (hr : rightL (evenS ((srt (ss.map (·.toList))).map toB) N (N - 1)).1 ≠ 0) :
    Calls Try.prog 5 #[.slice a n c, .int .i64 N] w fun e w' => e = .returned (.bool true) ∧ Keep w w' := by
  have hmx : n ≤ maxLen := by unfold maxLen; omega
  have hul : (evenS ((srt (ss.map (·.toList))).map toB) N (N - 1)).1.length ≤ 8 := Nat.le_trans (even_len _ _ _) (by omega)
  have HF := Lib.hid fun w1 (k : Keep w w1) => few_any a n c ss 60 w1 hmx (h.keep k)
  have HE := Lib.hid fun w1 (k : Keep w w1) => even_else a n c N ss w1 hN1 hN8 hn (h.keep k) (fun e w' => e = .returned (.tuple #[.pointer none, .int .i64 (rightL (evenS ((srt (ss.map (·.toList))).map toB) N (N - 1)).1)]) ∧ Keep w1 w')
    (fun w2 a2 c2 hk hst => (new_err a2 _ c2 _ w2 (by unfold maxLen; omega) hst hr).mono fun e w' ⟨he, q, hw⟩ => ⟨he, hk.trans (hw ▸ Keep.drewN _ _)⟩) (fun e w' ⟨he, _⟩ => ⟨_, _, he⟩)
  have HR := Lib.hid fun w1 (k : Keep w w1) => refEven_any a n c N ss w1 hN1 hN8 hn (h.keep k)
  generalize (srt (ss.map (·.toList))).map toB = l at *
  have HRt := Lib.hid fun w1 a2 c2 (hst : StrsAt w1 a2 (evenS l N (N - 1)).1.length (evenS l N (N - 1)).1) => refRight_any a2 _ c2 _ w1 (by unfold maxLen; omega) hst
  have he1 : (rightL (evenS l N (N - 1)).1 == 0) = false := beq_eq_false_iff_ne.2 hr
  have he2 : (rightL (evenS l N (N - 1)).1 != 0) = true := bne_iff_ne.2 hr
  rw [hf] at HF
  unfold EvenPost at HR
  have hb1 : ¬ (N : Int) < 1 := by omega
  have hb2 : ¬ 8 < (N : Int) := by omega
  clear h hf hr
  generalize (evenS l N (N - 1)).1 = U at *
  generalize rightL U = r at *
  go_enter Try.func5, Try.ntmps5
  go_wp2_with fail
  refine (fixed_any w).mono ?_
  rintro e w1 ⟨rfl, hk⟩
  have K1 := Lib.hid hk
  clear hk
  go_wp2_with fail
  refine (HF.out _ K1.out).mono ?_
  rintro e _ ⟨rfl, rfl⟩
  go_wp2_with fail
  refine (HE.out _ K1.out).mono ?_
  rintro e w2 ⟨rfl, hk⟩
  have K2 := Lib.hid (K1.out.trans hk)
  clear hk
  go_wp2_with fail
  refine (HR.out _ K2.out).mono ?_
  rintro e w3 ⟨a3, c3, rfl, hst, hk⟩
  have K3 := Lib.hid (K2.out.trans hk)
  have S3 := Lib.hid hst
  clear hk hst
  go_wp2_with fail
  refine (HRt.out _ _ c3 S3.out).mono ?_
  rintro e w4 ⟨rfl, q, rfl⟩
  go_wp2_with fail
  go_ret
  exact ⟨rfl, K3.out.trans (Keep.drewN _ _)⟩
set_option maxHeartbeats 1000000 in
theorem evlaw_ok (a : Option Addr) (n c N : Nat) (ss : List ByteArray) (w : World) (hn : n ≤ 60) (h : StrsAt w a n ss) (hf : fewL ss 60 = true) (hN1 : 1 ≤ N) (hN8 : N ≤ 8)
    (hr : rightL (evenS ((srt (ss.map (·.toList))).map toB) N (N - 1)).1 = 0) :
    Calls Try.prog 5 #[.slice a n c, .int .i64 N] w fun e w' => e = .returned (.bool true) ∧ Keep w w' := by
  have hmx : n ≤ maxLen := by unfold maxLen; omega
  have hul := rightL_le _ hr
  have HF := Lib.hid fun w1 (k : Keep w w1) => few_any a n c ss 60 w1 hmx (h.keep k)
  have HE := Lib.hid fun w1 (k : Keep w w1) => even_else a n c N ss w1 hN1 hN8 hn (h.keep k) (fun e w' => ∃ g, e = .returned (.tuple #[.pointer (some ⟨g, 0, none⟩), .int .i64 0]) ∧ MapAt w' g (evenS ((srt (ss.map (·.toList))).map toB) N (N - 1)).1 ∧ Keep w1 w')
    (fun w2 a2 c2 hk hst => (new_ok a2 _ c2 _ w2 (by unfold maxLen; omega) hst hr hul).mono fun e w' ⟨g, he, hm, _, hk2⟩ => ⟨g, he, hm, hk.trans hk2⟩) (fun e w' ⟨g, he, _⟩ => ⟨_, _, he⟩)
  have HR := Lib.hid fun w1 (k : Keep w w1) => refEven_any a n c N ss w1 hN1 hN8 hn (h.keep k)
  generalize (srt (ss.map (·.toList))).map toB = l at *
  have HRt := Lib.hid fun w1 a2 c2 (hst : StrsAt w1 a2 (evenS l N (N - 1)).1.length (evenS l N (N - 1)).1) => refRight_any a2 _ c2 _ w1 (by unfold maxLen; omega) hst
  rw [hr] at HRt
  rw [hf] at HF
  unfold EvenPost at HR
  have hb1 : ¬ (N : Int) < 1 := by omega
  have hb2 : ¬ 8 < (N : Int) := by omega
  clear h hf hr
  generalize (evenS l N (N - 1)).1 = U at *
  have HSm : Hid (∀ w1 a' c' a2 c2, StrsAt w1 a' U.length U → StrsAt w1 a2 U.length U → Calls Try.prog 11 #[.slice a' U.length c', .slice a2 U.length c2] w1 fun e w' => e = .returned (.bool true) ∧ ∃ k, w' = w1.drewN k) := Lib.hid fun w1 a' c' a2 c2 hs hs2 => by
    have := same_any a' a2 U.length c' U.length c2 U U w1 (by unfold maxLen; omega) hs hs2
    simpa using this
  go_enter Try.func5, Try.ntmps5
  go_wp2_with fail
  refine (fixed_any w).mono ?_
  rintro e w1 ⟨rfl, hk⟩
  have K1 := Lib.hid hk
  clear hk
  go_wp2_with fail
  refine (HF.out _ K1.out).mono ?_
  rintro e _ ⟨rfl, rfl⟩
  go_wp2_with fail
  refine (HE.out _ K1.out).mono ?_
  rintro e w2 ⟨g, rfl, hm, hk⟩
  have K2 := Lib.hid (K1.out.trans hk)
  have M2 := Lib.hid hm
  clear hk hm
  go_wp2_with fail
  refine (HR.out _ K2.out).mono ?_
  rintro e w3 ⟨a3, c3, rfl, hst, hk⟩
  have K3 := Lib.hid (K2.out.trans hk)
  have M3 := Lib.hid (M2.out.keep hk)
  have S3 := Lib.hid hst
  clear hk hst
  go_wp2_with fail
  refine (HRt.out _ _ c3 S3.out).mono ?_
  rintro e w4 ⟨rfl, q, rfl⟩
  have K4 := Lib.hid (K3.out.trans (Keep.drewN _ q))
  have M4 := Lib.hid (M3.out.keep (Keep.drewN _ q))
  have S4 := Lib.hid (S3.out.keep (Keep.drewN _ q))
  go_wp2_with fail
  refine (splits_any g U _ M4.out).mono ?_
  rintro e w5 ⟨a5, c5, rfl, hst, hk⟩
  have K5 := Lib.hid (K4.out.trans hk)
  have S5 := Lib.hid hst
  have T5 := Lib.hid (S4.out.keep hk)
  clear hk hst
  go_wp2_with fail
  refine (HSm.out _ a5 c5 a3 c3 S5.out T5.out).mono ?_
  rintro e w6 ⟨rfl, q6, rfl⟩
  go_wp2_with fail
  go_ret
  exact ⟨rfl, K5.out.trans (Keep.drewN _ _)⟩

theorem few_len {ss : List ByteArray} {m : Int} (h : fewL ss m = true) : (ss.length : Int) ≤ m := by
  unfold fewL at h; simp only [Bool.and_eq_true, decide_eq_true_eq] at h; exact h.2
theorem evlaw_any (a : Option Addr) (n c : Nat) (m : Int) (ss : List ByteArray) (w : World) (hn : n ≤ maxLen) (h : StrsAt w a n ss) :
    Calls Try.prog 5 #[.slice a n c, .int .i64 m] w fun e w' => e = .returned (.bool true) ∧ Keep w w' := by
  cases hf : fewL ss 60 with
  | false => exact evlaw_far a n c m ss w hn h hf
  | true =>
    by_cases hm : m < 1 ∨ 8 < m
    · exact evlaw_bad a n c m ss w hn h hf hm
    · obtain ⟨N, rfl⟩ := Int.eq_ofNat_of_zero_le (show 0 ≤ m by omega)
      have h60 : n ≤ 60 := by have := few_len hf; have := h.1; omega
      by_cases hr : rightL (evenS ((srt (ss.map (·.toList))).map toB) N (N - 1)).1 = 0
      · exact evlaw_ok a n c N ss w h60 h hf (by omega) (by omega) hr
      · exact evlaw_err a n c N ss w h60 h hf (by omega) (by omega) hr

set_option maxRecDepth 100000 in
theorem even_lifted (os : Os) (started : os.Started) (H : Type) (enc : TypeId × Value → H) :
    ReturnsInHanded {} Try.checked os 5 .any (Rows.routeEvenSpec.pre6 enc Try.prog Try.f5 Rows.routeEvenRow.domain false) (Rows.routeEvenSpec.post enc Try.prog Try.f5 false true false false) := by
  refine returnsInHanded_of_change (C := Try.checked) own started (by kernel_rfl) Try.func5
    (ChangeSpec.witness6 (enc := enc) (C := Try.checked) false ⟨#[], #[.slice none 0 0, .int .i64 0], []⟩ 8 (by kernel_rfl) (by kernel_rfl) (by kernel_rfl) (by kernel_rfl)) ?_
  intro W base args ds gs before hval0 hW hcnd _
  have hval : ∀ (j : Nat) t v, Try.f5.params[j]? = some t → args[j]? = some v → Value.okWide Try.prog W .any base t v := hval0
  have hW' := hW
  obtain ⟨p, q, hA0, hV, rfl, hfz, hnd⟩ := hW
  have hA : DataW.TrodAll enc Try.prog W 0 (fun _ => true) true Try.f5.params.toList args.toList ds p := hA0
  rw [Try.params5] at hA hval
  obtain ⟨v0, vs0, d0, ds0, p0, q0, hargs, rfl, rfl, h0, r0⟩ := trodAll_cons hA
  obtain ⟨v1, vs1, d1, ds1, p1, q1, rfl, rfl, rfl, h1, r1⟩ := trodAll_cons r0
  obtain ⟨rfl, rfl, rfl⟩ := trodAll_nil r1
  obtain rfl : args = #[v0, v1] := by cases args; simp_all
  obtain ⟨rfl, rfl⟩ := trodVars_none hV
  obtain ⟨a0, len0, cap0, rfl⟩ := okWide_slice Try.underlying22 (hval 0 22 v0 rfl rfl)
  have lt0 : ∀ x ∈ p0, x.block < W.heap.size := by obtain ⟨m, hm⟩ := h0; exact DataW.trod_lt m _ _ _ hm
  have k0 := h0
  obtain ⟨ss, hs, hn⟩ := open_strs Try.underlying22 Try.underlying9 (by kernel_rfl) h0
  have lt1 : ∀ x ∈ p1, x.block < W.heap.size := by obtain ⟨m, hm⟩ := h1; exact DataW.trod_lt m _ _ _ hm
  have k1 := h1
  obtain ⟨m1, rfl, e1, e2, _⟩ := open_int Try.underlying3 (hval 1 3 v1 rfl rfl) h1
  clear hA0 hval0
  refine (evlaw_any a0 len0 cap0 m1 ss W hn hs).mono fun e W' ⟨he, bel⟩ => ?_
  subst he
  exact ⟨_, rfl, _, _, _, [], _, [], hW', trodAll_mk1 (shut_bool Try.underlying4 _), (trodAll_cons_mk (Below.trod laidOut (by kernel_rfl) (of_decide_eq_true (by kernel_rfl)) k0 bel lt0) (trodAll_cons_mk (Below.trod laidOut (by kernel_rfl) (of_decide_eq_true (by kernel_rfl)) k1 bel lt1) trodAll_mk0)), rfl, bel.frame _, fun h => by cases h⟩

theorem even_holds : Rows.RouteEvenSaid :=
  OpenClaim.holds_of_wide 5 Try.f5 rfl rfl rfl rfl rfl rfl rfl ⟨rfl, rfl, rfl, rfl, rfl⟩ rfl rfl rfl rfl rfl (by kernel_rfl) Try.func5 (by kernel_rfl)
    (of_decide_eq_true (by kernel_rfl)) (by unfold Func.isWrapper; first | (rw [if_pos (by decide +kernel)]; kernel_rfl) | (rw [if_neg (by decide +kernel)]; exact ⟨rfl, rfl⟩))
    (fun os started H enc _ => even_lifted os started H enc)
#print axioms even_holds
end Go.Proofs.Yteocoijkfkoddaa
