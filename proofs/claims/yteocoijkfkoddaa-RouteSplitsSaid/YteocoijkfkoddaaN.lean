/- RouteSplits where the key is no split: the map is split, and joined again. -/
import Derived.Test.YteocoijkfkoddaaM
namespace Go.Proofs.Yteocoijkfkoddaa
open Go.RowKit

set_option maxHeartbeats 800000 in
theorem splits_not_zf (a : Option Addr) (c : Nat) (ss : List ByteArray) (key other : ByteArray) (w : World) (hnc : ss.length ≤ c) (hcm : c ≤ maxLen) (h : StrsAt w a ss.length ss) (hf : fewL ss 7 = true) (hkey : ¬ 100 < (key.size : Int)) (hoth : ¬ 100 < (other.size : Int)) (he : rightL ss = 0) (hb : badStr key = false) (hs : isSplit ss key = false)
    (h7 : ss.length = 7) (hk : ofL ss key = 0) :
    Calls Try.prog 4 #[.slice a ss.length c, .string key, .string other] w fun e w' => e = .returned (.bool true) ∧ Keep w w' := by
  have hr := rises_of ss he
  have HF := Lib.hid fun w1 (k : Keep w w1) => few_any a ss.length c ss 7 w1 (by unfold maxLen; omega) (h.keep k)
  have HN := Lib.hid fun w1 (k : Keep w w1) => new_ok a ss.length c ss w1 (by unfold maxLen; omega) (h.keep k) he (by omega)
  have HB := Lib.hid fun g w1 (hm : MapAt w1 g ss) => split_full g ss key w1 hb hm hr hs h7
  have HO := Lib.hid fun g w1 (hm : MapAt w1 g ss) => of_any g ss key w1 hm hr
  rw [hf] at HF
  unfold badStr at hb
  rw [Bool.or_eq_false_iff] at hb
  obtain ⟨hb1, hb2⟩ := hb
  have hb2' : ¬ 16 < (key.size : Int) := by simpa using hb2
  have hle : ofL ss key ≤ ss.length := List.countP_le_length
  unfold maxLen at hcm
  rw [hk] at HO hle
  rw [isSplit_zero ss key hk] at hs
  have HS := Lib.hid hs
  have hc0 : ¬ (c = 0) := by omega
  have h7b : ((ss.length : Int) == 7) = true := beq_iff_eq.2 (by omega)
  have h7c : ss.length ≤ 7 := by omega
  clear h7
  clear hf he hr hb2 hs hk h
  go_enter Try.func4, Try.ntmps4
  go_wp2_with fail
  refine (fixed_any w).mono ?_
  rintro e w1 ⟨rfl, hk⟩
  have K1 := Lib.hid hk
  clear hk
  go_wp2_with fail
  refine (HF.out _ K1.out).mono ?_
  rintro e _ ⟨rfl, rfl⟩
  go_wp2_with fail
  refine (HN.out _ K1.out).mono ?_
  rintro e w2 ⟨g, rfl, hm, _, hk⟩
  have K2 := Lib.hid (K1.out.trans hk)
  have M2 := Lib.hid hm
  clear hk hm
  go_wp2_with fail
  refine (HB.out g _ M2.out).mono ?_
  rintro e w3 ⟨rfl, hk⟩
  have K3 := Lib.hid (K2.out.trans hk)
  have M3 := Lib.hid (M2.out.keep hk)
  clear hk
  go_wp2_with fail
  refine (HO.out g _ M3.out).mono ?_
  rintro e w4 ⟨rfl, hk⟩
  have K4 := Lib.hid (K3.out.trans hk)
  have M4 := Lib.hid (M3.out.keep hk)
  clear hk
  go_wp2_with fail
  refine (HO.out g _ M4.out).mono ?_
  rintro e w5 ⟨rfl, hk⟩
  have K5 := Lib.hid (K4.out.trans hk)
  have M5 := Lib.hid (M4.out.keep hk)
  clear hk
  go_wp2_with fail
  have hsm := same_any (Option.map (fun x => x.add (max (-1) 0 : Int).toNat) a) (some ⟨w5.heap.size, 0, none⟩) 0 (c - (max (-1) 0 : Int).toNat) 1 1 [] [key] (w5.alloc (.cells #[.string key] 9)) (by decide)
    (strs0 _ _) (strsAt_one w5 key 9)
  rw [HS.out] at hsm
  refine hsm.mono ?_
  clear hsm
  rintro e w6 ⟨rfl, q, rfl⟩
  have hk6 := (Keep.alloc w5 (.cells #[.string key] 9)).trans (Keep.drewN _ q)
  have K6 := Lib.hid (K5.out.trans hk6)
  have M6 := Lib.hid (M5.out.keep hk6)
  clear hk6
  go_wp2_with fail
  go_ret
  exact ⟨rfl, K6.out⟩


set_option maxHeartbeats 800000 in
theorem splits_not_zo (a : Option Addr) (c : Nat) (ss : List ByteArray) (key other : ByteArray) (w : World) (hnc : ss.length ≤ c) (hcm : c ≤ maxLen) (h : StrsAt w a ss.length ss) (hf : fewL ss 7 = true) (hkey : ¬ 100 < (key.size : Int)) (hoth : ¬ 100 < (other.size : Int)) (he : rightL ss = 0) (hb : badStr key = false) (hs : isSplit ss key = false)
    (h7 : ss.length ≤ 6) (hk : ofL ss key = 0) (hc1 : 0 < c) :
    Calls Try.prog 4 #[.slice a ss.length c, .string key, .string other] w fun e w' => e = .returned (.bool true) ∧ Keep w w' := by
  have hr := rises_of ss he
  have HF := Lib.hid fun w1 (k : Keep w w1) => few_any a ss.length c ss 7 w1 (by unfold maxLen; omega) (h.keep k)
  have HN := Lib.hid fun w1 (k : Keep w w1) => new_ok a ss.length c ss w1 (by unfold maxLen; omega) (h.keep k) he (by omega)
  have HB := Lib.hid fun g w1 (hm : MapAt w1 g ss) => split_ok g ss key w1 hb hm he hs h7
  have HO := Lib.hid fun g w1 (hm : MapAt w1 g ss) => of_any g ss key w1 hm hr
  have h0x := right_ins ss key he hb hs h7
  have hrx := rises_of _ h0x
  have HShX : Hid (∀ g w1, MapAt w1 g (insL ss key) → Calls Try.prog 10 #[.pointer (some ⟨g, 0, none⟩)] w1 fun e w' => e = .returned (.int .i64 (ss.length + 1 + 1 : Nat)) ∧ w1 = w') := Lib.hid fun g w1 hm => by
    have := shards_any g _ w1 hm; rwa [insL_len] at this
  have HOX : Hid (∀ g w1, MapAt w1 g (insL ss key) → Calls Try.prog 13 #[.pointer (some ⟨g, 0, none⟩), .string key] w1 fun e w' => e = .returned (.int .i64 (ofL ss key + 1 : Nat)) ∧ Keep w1 w') := Lib.hid fun g w1 hm => by
    have := of_any g _ key w1 hm hrx; rwa [ofL_insL, leStr_refl, if_pos rfl] at this
  have HOO := Lib.hid fun g w1 (hm : MapAt w1 g ss) => of_any g ss other w1 hm hr
  have hbo := leStr_iff key other
  have HOXO : Hid (∀ g w1, MapAt w1 g (insL ss key) → Calls Try.prog 13 #[.pointer (some ⟨g, 0, none⟩), .string other] w1 fun e w' => e = .returned (.int .i64 (ofL ss other + (if Op.bytesLess other.toList key.toList then 0 else 1) : Nat)) ∧ Keep w1 w') := Lib.hid fun g w1 hm => by
    have := of_any g _ other w1 hm hrx
    rw [ofL_insL, hbo] at this
    generalize Op.bytesLess other.toList key.toList = bb at this ⊢
    cases bb <;> simpa using this
  clear hbo
  have HJ := Lib.hid fun g w1 (hm : MapAt w1 g (insL ss key)) => join_ok g ss key w1 hm he h7
  have HSm : Hid (∀ w1, Keep w w1 → ∀ a' c', StrsAt w1 a' ss.length ss → Calls Try.prog 11 #[.slice a' ss.length c', .slice a ss.length c] w1 fun e w' => e = .returned (.bool true) ∧ ∃ k, w' = w1.drewN k) := Lib.hid fun w1 k a' c' hs => by
    have := same_any a' a ss.length c' ss.length c ss ss w1 (by unfold maxLen; omega) hs (h.keep k)
    simpa using this
  have hol : ofL ss other ≤ 7 := Nat.le_trans List.countP_le_length (by omega)
  generalize ofL ss other = o at *
  generalize hbo : Op.bytesLess other.toList key.toList = bo at *
  clear h0x hrx
  rw [hf] at HF
  unfold badStr at hb
  rw [Bool.or_eq_false_iff] at hb
  obtain ⟨hb1, hb2⟩ := hb
  have hb2' : ¬ 16 < (key.size : Int) := by simpa using hb2
  have hle : ofL ss key ≤ ss.length := List.countP_le_length
  unfold maxLen at hcm
  rw [hk] at HO hle HOX HJ
  rw [isSplit_zero ss key hk] at hs
  have HS := Lib.hid hs
  have hc0 : ¬ (c = 0) := by omega
  have h7b : ((ss.length : Int) == 7) = false := beq_eq_false_iff_ne.2 (by omega)
  clear hf he hr hb2 hs hk h
  go_enter Try.func4, Try.ntmps4
  go_wp2_with fail
  refine (fixed_any w).mono ?_
  rintro e w1 ⟨rfl, hk⟩
  have K1 := Lib.hid hk
  clear hk
  go_wp2_with fail
  refine (HF.out _ K1.out).mono ?_
  rintro e _ ⟨rfl, rfl⟩
  go_wp2_with fail
  refine (HN.out _ K1.out).mono ?_
  rintro e w2 ⟨g, rfl, hm, _, hk⟩
  have K2 := Lib.hid (K1.out.trans hk)
  have M2 := Lib.hid hm
  clear hk hm
  go_wp2_with fail
  refine (HB.out g _ M2.out).mono ?_
  rintro e w3 ⟨gx, rfl, hx, hk⟩
  have X3 := Lib.hid hx
  clear hx
  have K3 := Lib.hid (K2.out.trans hk)
  have M3 := Lib.hid (M2.out.keep hk)
  clear hk
  go_wp2_with fail
  refine (HO.out g _ M3.out).mono ?_
  rintro e w4 ⟨rfl, hk⟩
  have K4 := Lib.hid (K3.out.trans hk)
  have M4 := Lib.hid (M3.out.keep hk)
  have X4 := Lib.hid (X3.out.keep hk)
  clear hk
  go_wp2_with fail
  refine (HO.out g _ M4.out).mono ?_
  rintro e w5 ⟨rfl, hk⟩
  have K5 := Lib.hid (K4.out.trans hk)
  have M5 := Lib.hid (M4.out.keep hk)
  have X5 := Lib.hid (X4.out.keep hk)
  clear hk
  go_wp2_with fail
  have hsm := same_any (Option.map (fun x => x.add (max (-1) 0 : Int).toNat) a) (some ⟨w5.heap.size, 0, none⟩) 0 (c - (max (-1) 0 : Int).toNat) 1 1 [] [key] (w5.alloc (.cells #[.string key] 9)) (by decide)
    (strs0 _ _) (strsAt_one w5 key 9)
  rw [HS.out] at hsm
  refine hsm.mono ?_
  clear hsm
  rintro e w6 ⟨rfl, q, rfl⟩
  have hk6 := (Keep.alloc w5 (.cells #[.string key] 9)).trans (Keep.drewN _ q)
  have K6 := Lib.hid (K5.out.trans hk6)
  have M6 := Lib.hid (M5.out.keep hk6)
  have X6 := Lib.hid (X5.out.keep hk6)
  clear hk6
  go_wp2_with fail
  refine (HShX.out gx _ X6.out).mono ?_
  rintro e _ ⟨rfl, rfl⟩
  go_wp2_with fail
  refine (shards_any g ss _ M6.out).mono ?_
  rintro e _ ⟨rfl, rfl⟩
  go_wp2_with fail
  refine (HOX.out gx _ X6.out).mono ?_
  rintro e w7 ⟨rfl, hk⟩
  have K7 := Lib.hid (K6.out.trans hk)
  have M7 := Lib.hid (M6.out.keep hk)
  have X7 := Lib.hid (X6.out.keep hk)
  clear hk
  go_wp2_with fail
  refine (HO.out g _ M7.out).mono ?_
  rintro e w8 ⟨rfl, hk⟩
  have K8 := Lib.hid (K7.out.trans hk)
  have M8 := Lib.hid (M7.out.keep hk)
  have X8 := Lib.hid (X7.out.keep hk)
  clear hk
  go_wp2_with fail
  refine (HOO.out g _ M8.out).mono ?_
  rintro e w9 ⟨rfl, hk⟩
  have K9 := Lib.hid (K8.out.trans hk)
  have M9 := Lib.hid (M8.out.keep hk)
  have X9 := Lib.hid (X8.out.keep hk)
  clear hk
  cases bo
  all_goals
    go_wp2_with fail
    refine (HO.out g _ M9.out).mono ?_
    rintro e w10 ⟨rfl, hk⟩
    have K10 := Lib.hid (K9.out.trans hk)
    have M10 := Lib.hid (M9.out.keep hk)
    have X10 := Lib.hid (X9.out.keep hk)
    clear hk
    go_wp2_with fail
    refine (HJ.out gx _ X10.out).mono ?_
    rintro e w11 ⟨gy, rfl, hy, hk⟩
    have K11 := Lib.hid (K10.out.trans hk)
    have M11 := Lib.hid (M10.out.keep hk)
    have X11 := Lib.hid (X10.out.keep hk)
    have Y11 := Lib.hid hy
    clear hk hy
    go_wp2_with fail
    refine (HOXO.out gx _ X11.out).mono ?_
    rintro e w12 ⟨rfl, hk⟩
    have K12 := Lib.hid (K11.out.trans hk)
    have M12 := Lib.hid (M11.out.keep hk)
    have Y12 := Lib.hid (Y11.out.keep hk)
    clear hk
    go_wp2_with fail
    refine (splits_any gy ss _ Y12.out).mono ?_
    rintro e w13 ⟨a13, c13, rfl, hst, hk⟩
    have K13 := Lib.hid (K12.out.trans hk)
    have M13 := Lib.hid (M12.out.keep hk)
    have S13 := Lib.hid hst
    clear hk hst
    go_wp2_with fail
    refine (HSm.out _ K13.out _ _ S13.out).mono ?_
    rintro e w14 ⟨rfl, q14, rfl⟩
    have K14 := Lib.hid (K13.out.trans (Keep.drewN _ q14))
    have M14 := Lib.hid (M13.out.keep (Keep.drewN _ q14))
    go_wp2_with fail
    refine (splits_any g ss _ M14.out).mono ?_
    rintro e w15 ⟨a15, c15, rfl, hst, hk⟩
    have K15 := Lib.hid (K14.out.trans hk)
    have S15 := Lib.hid hst
    clear hk hst
    go_wp2_with fail
    refine (HSm.out _ K15.out _ _ S15.out).mono ?_
    rintro e w16 ⟨rfl, q16, rfl⟩
    have K16 := Lib.hid (K15.out.trans (Keep.drewN _ q16))
    go_wp2_with fail
    go_ret
    exact ⟨rfl, K16.out⟩


set_option maxHeartbeats 800000 in
theorem splits_not_zo0 (a : Option Addr) (c : Nat) (ss : List ByteArray) (key other : ByteArray) (w : World) (hnc : ss.length ≤ c) (hcm : c ≤ maxLen) (h : StrsAt w a ss.length ss) (hf : fewL ss 7 = true) (hkey : ¬ 100 < (key.size : Int)) (hoth : ¬ 100 < (other.size : Int)) (he : rightL ss = 0) (hb : badStr key = false) (hs : isSplit ss key = false)
    (h7 : ss.length ≤ 6) (hk : ofL ss key = 0) (hc0 : c = 0) :
    Calls Try.prog 4 #[.slice a ss.length c, .string key, .string other] w fun e w' => e = .returned (.bool true) ∧ Keep w w' := by
  have hr := rises_of ss he
  have HF := Lib.hid fun w1 (k : Keep w w1) => few_any a ss.length c ss 7 w1 (by unfold maxLen; omega) (h.keep k)
  have HN := Lib.hid fun w1 (k : Keep w w1) => new_ok a ss.length c ss w1 (by unfold maxLen; omega) (h.keep k) he (by omega)
  have HB := Lib.hid fun g w1 (hm : MapAt w1 g ss) => split_ok g ss key w1 hb hm he hs h7
  have HO := Lib.hid fun g w1 (hm : MapAt w1 g ss) => of_any g ss key w1 hm hr
  have h0x := right_ins ss key he hb hs h7
  have hrx := rises_of _ h0x
  have HShX : Hid (∀ g w1, MapAt w1 g (insL ss key) → Calls Try.prog 10 #[.pointer (some ⟨g, 0, none⟩)] w1 fun e w' => e = .returned (.int .i64 (ss.length + 1 + 1 : Nat)) ∧ w1 = w') := Lib.hid fun g w1 hm => by
    have := shards_any g _ w1 hm; rwa [insL_len] at this
  have HOX : Hid (∀ g w1, MapAt w1 g (insL ss key) → Calls Try.prog 13 #[.pointer (some ⟨g, 0, none⟩), .string key] w1 fun e w' => e = .returned (.int .i64 (ofL ss key + 1 : Nat)) ∧ Keep w1 w') := Lib.hid fun g w1 hm => by
    have := of_any g _ key w1 hm hrx; rwa [ofL_insL, leStr_refl, if_pos rfl] at this
  have HOO := Lib.hid fun g w1 (hm : MapAt w1 g ss) => of_any g ss other w1 hm hr
  have hbo := leStr_iff key other
  have HOXO : Hid (∀ g w1, MapAt w1 g (insL ss key) → Calls Try.prog 13 #[.pointer (some ⟨g, 0, none⟩), .string other] w1 fun e w' => e = .returned (.int .i64 (ofL ss other + (if Op.bytesLess other.toList key.toList then 0 else 1) : Nat)) ∧ Keep w1 w') := Lib.hid fun g w1 hm => by
    have := of_any g _ other w1 hm hrx
    rw [ofL_insL, hbo] at this
    generalize Op.bytesLess other.toList key.toList = bb at this ⊢
    cases bb <;> simpa using this
  clear hbo
  have HJ := Lib.hid fun g w1 (hm : MapAt w1 g (insL ss key)) => join_ok g ss key w1 hm he h7
  have HSm : Hid (∀ w1, Keep w w1 → ∀ a' c', StrsAt w1 a' ss.length ss → Calls Try.prog 11 #[.slice a' ss.length c', .slice a ss.length c] w1 fun e w' => e = .returned (.bool true) ∧ ∃ k, w' = w1.drewN k) := Lib.hid fun w1 k a' c' hs => by
    have := same_any a' a ss.length c' ss.length c ss ss w1 (by unfold maxLen; omega) hs (h.keep k)
    simpa using this
  have hol : ofL ss other ≤ 7 := Nat.le_trans List.countP_le_length (by omega)
  generalize ofL ss other = o at *
  generalize hbo : Op.bytesLess other.toList key.toList = bo at *
  clear h0x hrx
  rw [hf] at HF
  unfold badStr at hb
  rw [Bool.or_eq_false_iff] at hb
  obtain ⟨hb1, hb2⟩ := hb
  have hb2' : ¬ 16 < (key.size : Int) := by simpa using hb2
  have hle : ofL ss key ≤ ss.length := List.countP_le_length
  unfold maxLen at hcm
  rw [hk] at HO hle HOX HJ
  rw [isSplit_zero ss key hk] at hs
  have HS := Lib.hid hs
  subst hc0
  have h7b : ((ss.length : Int) == 7) = false := beq_eq_false_iff_ne.2 (by omega)
  clear hf he hr hb2 hs hk h
  go_enter Try.func4, Try.ntmps4
  go_wp2_with fail
  refine (fixed_any w).mono ?_
  rintro e w1 ⟨rfl, hk⟩
  have K1 := Lib.hid hk
  clear hk
  go_wp2_with fail
  refine (HF.out _ K1.out).mono ?_
  rintro e _ ⟨rfl, rfl⟩
  go_wp2_with fail
  refine (HN.out _ K1.out).mono ?_
  rintro e w2 ⟨g, rfl, hm, _, hk⟩
  have K2 := Lib.hid (K1.out.trans hk)
  have M2 := Lib.hid hm
  clear hk hm
  go_wp2_with fail
  refine (HB.out g _ M2.out).mono ?_
  rintro e w3 ⟨gx, rfl, hx, hk⟩
  have X3 := Lib.hid hx
  clear hx
  have K3 := Lib.hid (K2.out.trans hk)
  have M3 := Lib.hid (M2.out.keep hk)
  clear hk
  go_wp2_with fail
  refine (HO.out g _ M3.out).mono ?_
  rintro e w4 ⟨rfl, hk⟩
  have K4 := Lib.hid (K3.out.trans hk)
  have M4 := Lib.hid (M3.out.keep hk)
  have X4 := Lib.hid (X3.out.keep hk)
  clear hk
  go_wp2_with fail
  refine (HO.out g _ M4.out).mono ?_
  rintro e w5 ⟨rfl, hk⟩
  have K5 := Lib.hid (K4.out.trans hk)
  have M5 := Lib.hid (M4.out.keep hk)
  have X5 := Lib.hid (X4.out.keep hk)
  clear hk
  go_wp2_with fail
  have hsm := same_any a (some ⟨w5.heap.size, 0, none⟩) 0 0 1 1 [] [key] (w5.alloc (.cells #[.string key] 9)) (by decide)
    (strs0 _ _) (strsAt_one w5 key 9)
  rw [HS.out] at hsm
  refine hsm.mono ?_
  clear hsm
  rintro e w6 ⟨rfl, q, rfl⟩
  have hk6 := (Keep.alloc w5 (.cells #[.string key] 9)).trans (Keep.drewN _ q)
  have K6 := Lib.hid (K5.out.trans hk6)
  have M6 := Lib.hid (M5.out.keep hk6)
  have X6 := Lib.hid (X5.out.keep hk6)
  clear hk6
  go_wp2_with fail
  refine (HShX.out gx _ X6.out).mono ?_
  rintro e _ ⟨rfl, rfl⟩
  go_wp2_with fail
  refine (shards_any g ss _ M6.out).mono ?_
  rintro e _ ⟨rfl, rfl⟩
  go_wp2_with fail
  refine (HOX.out gx _ X6.out).mono ?_
  rintro e w7 ⟨rfl, hk⟩
  have K7 := Lib.hid (K6.out.trans hk)
  have M7 := Lib.hid (M6.out.keep hk)
  have X7 := Lib.hid (X6.out.keep hk)
  clear hk
  go_wp2_with fail
  refine (HO.out g _ M7.out).mono ?_
  rintro e w8 ⟨rfl, hk⟩
  have K8 := Lib.hid (K7.out.trans hk)
  have M8 := Lib.hid (M7.out.keep hk)
  have X8 := Lib.hid (X7.out.keep hk)
  clear hk
  go_wp2_with fail
  refine (HOO.out g _ M8.out).mono ?_
  rintro e w9 ⟨rfl, hk⟩
  have K9 := Lib.hid (K8.out.trans hk)
  have M9 := Lib.hid (M8.out.keep hk)
  have X9 := Lib.hid (X8.out.keep hk)
  clear hk
  cases bo
  all_goals
    go_wp2_with fail
    refine (HO.out g _ M9.out).mono ?_
    rintro e w10 ⟨rfl, hk⟩
    have K10 := Lib.hid (K9.out.trans hk)
    have M10 := Lib.hid (M9.out.keep hk)
    have X10 := Lib.hid (X9.out.keep hk)
    clear hk
    go_wp2_with fail
    refine (HJ.out gx _ X10.out).mono ?_
    rintro e w11 ⟨gy, rfl, hy, hk⟩
    have K11 := Lib.hid (K10.out.trans hk)
    have M11 := Lib.hid (M10.out.keep hk)
    have X11 := Lib.hid (X10.out.keep hk)
    have Y11 := Lib.hid hy
    clear hk hy
    go_wp2_with fail
    refine (HOXO.out gx _ X11.out).mono ?_
    rintro e w12 ⟨rfl, hk⟩
    have K12 := Lib.hid (K11.out.trans hk)
    have M12 := Lib.hid (M11.out.keep hk)
    have Y12 := Lib.hid (Y11.out.keep hk)
    clear hk
    go_wp2_with fail
    refine (splits_any gy ss _ Y12.out).mono ?_
    rintro e w13 ⟨a13, c13, rfl, hst, hk⟩
    have K13 := Lib.hid (K12.out.trans hk)
    have M13 := Lib.hid (M12.out.keep hk)
    have S13 := Lib.hid hst
    clear hk hst
    go_wp2_with fail
    refine (HSm.out _ K13.out _ _ S13.out).mono ?_
    rintro e w14 ⟨rfl, q14, rfl⟩
    have K14 := Lib.hid (K13.out.trans (Keep.drewN _ q14))
    have M14 := Lib.hid (M13.out.keep (Keep.drewN _ q14))
    go_wp2_with fail
    refine (splits_any g ss _ M14.out).mono ?_
    rintro e w15 ⟨a15, c15, rfl, hst, hk⟩
    have K15 := Lib.hid (K14.out.trans hk)
    have S15 := Lib.hid hst
    clear hk hst
    go_wp2_with fail
    refine (HSm.out _ K15.out _ _ S15.out).mono ?_
    rintro e w16 ⟨rfl, q16, rfl⟩
    have K16 := Lib.hid (K15.out.trans (Keep.drewN _ q16))
    go_wp2_with fail
    go_ret
    exact ⟨rfl, K16.out⟩


set_option maxHeartbeats 800000 in
theorem splits_not_sf (a : Option Addr) (c : Nat) (ss : List ByteArray) (key other : ByteArray) (w : World) (hnc : ss.length ≤ c) (hcm : c ≤ maxLen) (h : StrsAt w a ss.length ss) (hf : fewL ss 7 = true) (hkey : ¬ 100 < (key.size : Int)) (hoth : ¬ 100 < (other.size : Int)) (he : rightL ss = 0) (hb : badStr key = false) (hs : isSplit ss key = false)
    (h7 : ss.length = 7) (m : Nat) (hk : ofL ss key = m + 1) :
    Calls Try.prog 4 #[.slice a ss.length c, .string key, .string other] w fun e w' => e = .returned (.bool true) ∧ Keep w w' := by
  have hr := rises_of ss he
  have HF := Lib.hid fun w1 (k : Keep w w1) => few_any a ss.length c ss 7 w1 (by unfold maxLen; omega) (h.keep k)
  have HN := Lib.hid fun w1 (k : Keep w w1) => new_ok a ss.length c ss w1 (by unfold maxLen; omega) (h.keep k) he (by omega)
  have HB := Lib.hid fun g w1 (hm : MapAt w1 g ss) => split_full g ss key w1 hb hm hr hs h7
  have HO := Lib.hid fun g w1 (hm : MapAt w1 g ss) => of_any g ss key w1 hm hr
  rw [hf] at HF
  unfold badStr at hb
  rw [Bool.or_eq_false_iff] at hb
  obtain ⟨hb1, hb2⟩ := hb
  have hb2' : ¬ 16 < (key.size : Int) := by simpa using hb2
  have hle : ofL ss key ≤ ss.length := List.countP_le_length
  unfold maxLen at hcm
  rw [hk] at HO hle
  rw [isSplit_succ ss key m hk] at hs
  have HS := Lib.hid hs
  obtain ⟨b, off, rfl, hcell⟩ := h.2 m (by omega)
  have HC := Lib.hid hcell
  clear hcell
  have hc0 : ¬ (c = 0) := by omega
  have h7b : ((ss.length : Int) == 7) = true := beq_iff_eq.2 (by omega)
  have h7c : ss.length ≤ 7 := by omega
  clear h7
  clear hf he hr hb2 hs hk h
  go_enter Try.func4, Try.ntmps4
  go_wp2_with fail
  refine (fixed_any w).mono ?_
  rintro e w1 ⟨rfl, hk⟩
  have K1 := Lib.hid hk
  clear hk
  go_wp2_with fail
  refine (HF.out _ K1.out).mono ?_
  rintro e _ ⟨rfl, rfl⟩
  go_wp2_with fail
  refine (HN.out _ K1.out).mono ?_
  rintro e w2 ⟨g, rfl, hm, _, hk⟩
  have K2 := Lib.hid (K1.out.trans hk)
  have M2 := Lib.hid hm
  clear hk hm
  go_wp2_with fail
  refine (HB.out g _ M2.out).mono ?_
  rintro e w3 ⟨rfl, hk⟩
  have K3 := Lib.hid (K2.out.trans hk)
  have M3 := Lib.hid (M2.out.keep hk)
  clear hk
  go_wp2_with fail
  refine (HO.out g _ M3.out).mono ?_
  rintro e w4 ⟨rfl, hk⟩
  have K4 := Lib.hid (K3.out.trans hk)
  have M4 := Lib.hid (M3.out.keep hk)
  clear hk
  go_wp2_with fail
  refine (HO.out g _ M4.out).mono ?_
  rintro e w5 ⟨rfl, hk⟩
  have K5 := Lib.hid (K4.out.trans hk)
  have M5 := Lib.hid (M4.out.keep hk)
  clear hk
  go_wp2_with fail
  have hsm := same_any (some ⟨b, off + m, none⟩) (some ⟨w5.heap.size, 0, none⟩) 1 (c - m) 1 1 [ss.getD m ByteArray.empty] [key] (w5.alloc (.cells #[.string key] 9)) (by decide)
    (strs1 (K5.out.trans (Keep.alloc _ _)) HC.out) (strsAt_one w5 key 9)
  rw [HS.out] at hsm
  refine hsm.mono ?_
  clear hsm
  rintro e w6 ⟨rfl, q, rfl⟩
  have hk6 := (Keep.alloc w5 (.cells #[.string key] 9)).trans (Keep.drewN _ q)
  have K6 := Lib.hid (K5.out.trans hk6)
  have M6 := Lib.hid (M5.out.keep hk6)
  clear hk6
  go_wp2_with fail
  go_ret
  exact ⟨rfl, K6.out⟩


set_option maxHeartbeats 800000 in
theorem splits_not_so (a : Option Addr) (c : Nat) (ss : List ByteArray) (key other : ByteArray) (w : World) (hnc : ss.length ≤ c) (hcm : c ≤ maxLen) (h : StrsAt w a ss.length ss) (hf : fewL ss 7 = true) (hkey : ¬ 100 < (key.size : Int)) (hoth : ¬ 100 < (other.size : Int)) (he : rightL ss = 0) (hb : badStr key = false) (hs : isSplit ss key = false)
    (h7 : ss.length ≤ 6) (m : Nat) (hk : ofL ss key = m + 1) :
    Calls Try.prog 4 #[.slice a ss.length c, .string key, .string other] w fun e w' => e = .returned (.bool true) ∧ Keep w w' := by
  have hr := rises_of ss he
  have HF := Lib.hid fun w1 (k : Keep w w1) => few_any a ss.length c ss 7 w1 (by unfold maxLen; omega) (h.keep k)
  have HN := Lib.hid fun w1 (k : Keep w w1) => new_ok a ss.length c ss w1 (by unfold maxLen; omega) (h.keep k) he (by omega)
  have HB := Lib.hid fun g w1 (hm : MapAt w1 g ss) => split_ok g ss key w1 hb hm he hs h7
  have HO := Lib.hid fun g w1 (hm : MapAt w1 g ss) => of_any g ss key w1 hm hr
  have h0x := right_ins ss key he hb hs h7
  have hrx := rises_of _ h0x
  have HShX : Hid (∀ g w1, MapAt w1 g (insL ss key) → Calls Try.prog 10 #[.pointer (some ⟨g, 0, none⟩)] w1 fun e w' => e = .returned (.int .i64 (ss.length + 1 + 1 : Nat)) ∧ w1 = w') := Lib.hid fun g w1 hm => by
    have := shards_any g _ w1 hm; rwa [insL_len] at this
  have HOX : Hid (∀ g w1, MapAt w1 g (insL ss key) → Calls Try.prog 13 #[.pointer (some ⟨g, 0, none⟩), .string key] w1 fun e w' => e = .returned (.int .i64 (ofL ss key + 1 : Nat)) ∧ Keep w1 w') := Lib.hid fun g w1 hm => by
    have := of_any g _ key w1 hm hrx; rwa [ofL_insL, leStr_refl, if_pos rfl] at this
  have HOO := Lib.hid fun g w1 (hm : MapAt w1 g ss) => of_any g ss other w1 hm hr
  have hbo := leStr_iff key other
  have HOXO : Hid (∀ g w1, MapAt w1 g (insL ss key) → Calls Try.prog 13 #[.pointer (some ⟨g, 0, none⟩), .string other] w1 fun e w' => e = .returned (.int .i64 (ofL ss other + (if Op.bytesLess other.toList key.toList then 0 else 1) : Nat)) ∧ Keep w1 w') := Lib.hid fun g w1 hm => by
    have := of_any g _ other w1 hm hrx
    rw [ofL_insL, hbo] at this
    generalize Op.bytesLess other.toList key.toList = bb at this ⊢
    cases bb <;> simpa using this
  clear hbo
  have HJ := Lib.hid fun g w1 (hm : MapAt w1 g (insL ss key)) => join_ok g ss key w1 hm he h7
  have HSm : Hid (∀ w1, Keep w w1 → ∀ a' c', StrsAt w1 a' ss.length ss → Calls Try.prog 11 #[.slice a' ss.length c', .slice a ss.length c] w1 fun e w' => e = .returned (.bool true) ∧ ∃ k, w' = w1.drewN k) := Lib.hid fun w1 k a' c' hs => by
    have := same_any a' a ss.length c' ss.length c ss ss w1 (by unfold maxLen; omega) hs (h.keep k)
    simpa using this
  have hol : ofL ss other ≤ 7 := Nat.le_trans List.countP_le_length (by omega)
  generalize ofL ss other = o at *
  generalize hbo : Op.bytesLess other.toList key.toList = bo at *
  clear h0x hrx
  rw [hf] at HF
  unfold badStr at hb
  rw [Bool.or_eq_false_iff] at hb
  obtain ⟨hb1, hb2⟩ := hb
  have hb2' : ¬ 16 < (key.size : Int) := by simpa using hb2
  have hle : ofL ss key ≤ ss.length := List.countP_le_length
  unfold maxLen at hcm
  rw [hk] at HO hle HOX HJ
  rw [isSplit_succ ss key m hk] at hs
  have HS := Lib.hid hs
  obtain ⟨b, off, rfl, hcell⟩ := h.2 m (by omega)
  have HC := Lib.hid hcell
  clear hcell
  have hc0 : ¬ (c = 0) := by omega
  have h7b : ((ss.length : Int) == 7) = false := beq_eq_false_iff_ne.2 (by omega)
  clear hf he hr hb2 hs hk h
  go_enter Try.func4, Try.ntmps4
  go_wp2_with fail
  refine (fixed_any w).mono ?_
  rintro e w1 ⟨rfl, hk⟩
  have K1 := Lib.hid hk
  clear hk
  go_wp2_with fail
  refine (HF.out _ K1.out).mono ?_
  rintro e _ ⟨rfl, rfl⟩
  go_wp2_with fail
  refine (HN.out _ K1.out).mono ?_
  rintro e w2 ⟨g, rfl, hm, _, hk⟩
  have K2 := Lib.hid (K1.out.trans hk)
  have M2 := Lib.hid hm
  clear hk hm
  go_wp2_with fail
  refine (HB.out g _ M2.out).mono ?_
  rintro e w3 ⟨gx, rfl, hx, hk⟩
  have X3 := Lib.hid hx
  clear hx
  have K3 := Lib.hid (K2.out.trans hk)
  have M3 := Lib.hid (M2.out.keep hk)
  clear hk
  go_wp2_with fail
  refine (HO.out g _ M3.out).mono ?_
  rintro e w4 ⟨rfl, hk⟩
  have K4 := Lib.hid (K3.out.trans hk)
  have M4 := Lib.hid (M3.out.keep hk)
  have X4 := Lib.hid (X3.out.keep hk)
  clear hk
  go_wp2_with fail
  refine (HO.out g _ M4.out).mono ?_
  rintro e w5 ⟨rfl, hk⟩
  have K5 := Lib.hid (K4.out.trans hk)
  have M5 := Lib.hid (M4.out.keep hk)
  have X5 := Lib.hid (X4.out.keep hk)
  clear hk
  go_wp2_with fail
  have hsm := same_any (some ⟨b, off + m, none⟩) (some ⟨w5.heap.size, 0, none⟩) 1 (c - m) 1 1 [ss.getD m ByteArray.empty] [key] (w5.alloc (.cells #[.string key] 9)) (by decide)
    (strs1 (K5.out.trans (Keep.alloc _ _)) HC.out) (strsAt_one w5 key 9)
  rw [HS.out] at hsm
  refine hsm.mono ?_
  clear hsm
  rintro e w6 ⟨rfl, q, rfl⟩
  have hk6 := (Keep.alloc w5 (.cells #[.string key] 9)).trans (Keep.drewN _ q)
  have K6 := Lib.hid (K5.out.trans hk6)
  have M6 := Lib.hid (M5.out.keep hk6)
  have X6 := Lib.hid (X5.out.keep hk6)
  clear hk6
  go_wp2_with fail
  refine (HShX.out gx _ X6.out).mono ?_
  rintro e _ ⟨rfl, rfl⟩
  go_wp2_with fail
  refine (shards_any g ss _ M6.out).mono ?_
  rintro e _ ⟨rfl, rfl⟩
  go_wp2_with fail
  refine (HOX.out gx _ X6.out).mono ?_
  rintro e w7 ⟨rfl, hk⟩
  have K7 := Lib.hid (K6.out.trans hk)
  have M7 := Lib.hid (M6.out.keep hk)
  have X7 := Lib.hid (X6.out.keep hk)
  clear hk
  go_wp2_with fail
  refine (HO.out g _ M7.out).mono ?_
  rintro e w8 ⟨rfl, hk⟩
  have K8 := Lib.hid (K7.out.trans hk)
  have M8 := Lib.hid (M7.out.keep hk)
  have X8 := Lib.hid (X7.out.keep hk)
  clear hk
  go_wp2_with fail
  refine (HOO.out g _ M8.out).mono ?_
  rintro e w9 ⟨rfl, hk⟩
  have K9 := Lib.hid (K8.out.trans hk)
  have M9 := Lib.hid (M8.out.keep hk)
  have X9 := Lib.hid (X8.out.keep hk)
  clear hk
  cases bo
  all_goals
    go_wp2_with fail
    refine (HO.out g _ M9.out).mono ?_
    rintro e w10 ⟨rfl, hk⟩
    have K10 := Lib.hid (K9.out.trans hk)
    have M10 := Lib.hid (M9.out.keep hk)
    have X10 := Lib.hid (X9.out.keep hk)
    clear hk
    go_wp2_with fail
    refine (HJ.out gx _ X10.out).mono ?_
    rintro e w11 ⟨gy, rfl, hy, hk⟩
    have K11 := Lib.hid (K10.out.trans hk)
    have M11 := Lib.hid (M10.out.keep hk)
    have X11 := Lib.hid (X10.out.keep hk)
    have Y11 := Lib.hid hy
    clear hk hy
    go_wp2_with fail
    refine (HOXO.out gx _ X11.out).mono ?_
    rintro e w12 ⟨rfl, hk⟩
    have K12 := Lib.hid (K11.out.trans hk)
    have M12 := Lib.hid (M11.out.keep hk)
    have Y12 := Lib.hid (Y11.out.keep hk)
    clear hk
    go_wp2_with fail
    refine (splits_any gy ss _ Y12.out).mono ?_
    rintro e w13 ⟨a13, c13, rfl, hst, hk⟩
    have K13 := Lib.hid (K12.out.trans hk)
    have M13 := Lib.hid (M12.out.keep hk)
    have S13 := Lib.hid hst
    clear hk hst
    go_wp2_with fail
    refine (HSm.out _ K13.out _ _ S13.out).mono ?_
    rintro e w14 ⟨rfl, q14, rfl⟩
    have K14 := Lib.hid (K13.out.trans (Keep.drewN _ q14))
    have M14 := Lib.hid (M13.out.keep (Keep.drewN _ q14))
    go_wp2_with fail
    refine (splits_any g ss _ M14.out).mono ?_
    rintro e w15 ⟨a15, c15, rfl, hst, hk⟩
    have K15 := Lib.hid (K14.out.trans hk)
    have S15 := Lib.hid hst
    clear hk hst
    go_wp2_with fail
    refine (HSm.out _ K15.out _ _ S15.out).mono ?_
    rintro e w16 ⟨rfl, q16, rfl⟩
    have K16 := Lib.hid (K15.out.trans (Keep.drewN _ q16))
    go_wp2_with fail
    go_ret
    exact ⟨rfl, K16.out⟩

end Go.Proofs.Yteocoijkfkoddaa
