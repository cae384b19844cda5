/- Map.Split and Map.Join. -/
import Derived.Test.YteocoijkfkoddaaJ
import Derived.Test.YteocoijkfkoddaaH
import Derived.Test.YteocoijkfkoddaaI
namespace Go.Proofs.Yteocoijkfkoddaa
open Go.RowKit

theorem Row.of_owns {w : World} {B E k : Nat} {a : Option Addr} {n c : Nat} {xs : List Value} (h : w.ownsRow B E k (.slice a n c) n xs) : Row w E k a n c xs ∧ ∀ x, a = some x → B ≤ x.block := by
  obtain ⟨hl, ⟨hv, rfl⟩ | ⟨g, cap, cur, hv, hb, hg, hnc, hcm, hcs, htk⟩⟩ := h
  · refine ⟨⟨hl, .inl ⟨hv, rfl⟩⟩, ?_⟩
    simp only [Value.slice.injEq] at hv
    rw [hv.1]; intro x hx; simp at hx
  · refine ⟨⟨hl, .inr ⟨g, cap, cur, hv, Nat.zero_le _, hg, hnc, hcm, hcs, htk⟩⟩, ?_⟩
    simp only [Value.slice.injEq] at hv
    rw [hv.1]; intro x hx; simp only [Option.some.injEq] at hx; subst hx; exact hb
theorem Row.strs {w : World} {E : Nat} {a : Option Addr} {n c : Nat} {ss : List ByteArray} (h : Row w E 1 a n c (ss.map Value.string)) : StrsAt w a n ss := by
  obtain ⟨a', c', e, hs⟩ := strsAt_of_owns (B := 0) h
  simp only [Value.slice.injEq] at e
  obtain ⟨rfl, _, rfl⟩ := e
  exact hs
theorem Keep.touch {w w' : World} (h : Keep w w') (bs : List Nat) : Touch bs w w' := Touch.of_below h bs
theorem one_strs {ss : List ByteArray} : ∀ u ∈ ss.map Value.string, u.oneCell' = true := fun u hu => by
  obtain ⟨s, _, rfl⟩ := List.mem_map.1 hu; rfl

set_option maxHeartbeats 400000 in
theorem split_bad (g : Nat) (key : ByteArray) (w : World) (h : badStr key = true) :
    Calls Try.prog 16 #[.pointer (some ⟨g, 0, none⟩), .string key] w fun e w' => e = .returned (.tuple #[.pointer none, .int .i64 1]) ∧ w = w' := by
  unfold badStr at h
  by_cases he : key.toList.isEmpty = true
  · clear h
    go_enter Try.func16, Try.ntmps16
    go_wp2_with fail
    go_ret2
    exact ⟨rfl, rfl⟩
  · have he' : key.toList.isEmpty = false := by simpa using he
    have hs : 16 < (key.size : Int) := by simpa [he'] using h
    clear h he
    go_enter Try.func16, Try.ntmps16
    go_wp2_with fail
    go_ret2
    exact ⟨rfl, rfl⟩
set_option maxHeartbeats 400000 in
theorem split_is (g : Nat) (ss : List ByteArray) (key : ByteArray) (w : World) (h : badStr key = false) (hm : MapAt w g ss) (hr : Rises ss) (hs : isSplit ss key = true) :
    Calls Try.prog 16 #[.pointer (some ⟨g, 0, none⟩), .string key] w fun e w' => e = .returned (.tuple #[.pointer none, .int .i64 8]) ∧ Keep w w' := by
  unfold badStr at h
  rw [Bool.or_eq_false_iff] at h
  obtain ⟨he, h16⟩ := h
  have h16' : ¬ 16 < (key.size : Int) := by simpa using h16
  obtain ⟨a, n, c, hc, hst, h7⟩ := hm
  have HB := Lib.hid (bs_any a n c ss key w hst (by have := hst.1; omega) hr)
  rw [hs] at HB
  clear h16 hr hs hst
  go_enter Try.func16, Try.ntmps16
  go_wp2_with fail
  refine HB.out.mono ?_
  rintro e w1 ⟨rfl, q, rfl⟩
  go_wp2_with fail
  go_ret2
  exact ⟨rfl, Keep.drewN _ _⟩

-- Clone, Insert, New: what stands behind the search.
set_option maxHeartbeats 1000000 in
theorem split_else (g : Nat) (ss : List ByteArray) (key : ByteArray) (w : World) (h : badStr key = false) (hm : MapAt w g ss) (hr : Rises ss) (hs : isSplit ss key = false)
    (R : Ending → World → Prop) (hR : ∀ w1 a c, Keep w w1 → StrsAt w1 a (ss.length + 1) (insL ss key) → Calls Try.prog 8 #[.slice a (ss.length + 1) c] w1 R)
    (hRe : ∀ e w', R e w' → ∃ p n, e = .returned (.tuple #[.pointer p, .int .i64 n])) :
    Calls Try.prog 16 #[.pointer (some ⟨g, 0, none⟩), .string key] w R := by
  unfold badStr at h
  rw [Bool.or_eq_false_iff] at h
  obtain ⟨he, h16⟩ := h
  have h16' : ¬ 16 < (key.size : Int) := by simpa using h16
  obtain ⟨a, n, c, hc, hst, h7⟩ := hm
  obtain rfl : n = ss.length := hst.1
  have HB := Lib.hid (bs_any a _ c ss key w hst (by omega) hr)
  rw [hs] at HB
  have hle : ofL ss key ≤ ss.length := List.countP_le_length
  have HC := Lib.hid fun q => clone_any a _ c ss (w.drewN q) (by omega) (hst.keep (Keep.drewN w q))
  have hcm : ∀ x, (ss.map Value.string).take (x * 1) ++ [Value.string key] ++ (ss.map Value.string).drop (x * 1) = (ss.take x ++ key :: ss.drop x).map Value.string := fun x => by
    rw [Nat.mul_one]; simp
  have HM := Lib.hid hcm
  have HRR := Lib.hid hR
  have HRe := Lib.hid hRe
  clear h16 hr hs hst hcm hR hRe
  have hg : g < w.heap.size := World.block_lt_of_cell? w _ hc
  have hin : Hid (insL ss key = ss.take (ofL ss key) ++ key :: ss.drop (ofL ss key)) := Lib.hid rfl
  generalize ofL ss key = k at *
  generalize insL ss key = ii at *
  go_enter Try.func16, Try.ntmps16
  go_wp2_with fail
  refine HB.out.mono ?_
  rintro e w1 ⟨rfl, q, rfl⟩
  go_wp2_with fail
  refine (HC.out q).mono ?_
  rintro e w2 ⟨a2, c2, rfl, ho, -, hk⟩
  obtain ⟨hrow, hfr⟩ := Row.of_owns ho
  have HRow := Lib.hid hrow
  have HFr := Lib.hid hfr
  have K2 := Lib.hid ((Keep.drewN w q).trans hk)
  have hs2 : w.heap.size ≤ w2.heap.size := K2.out.size
  clear ho hrow hfr hk
  go_wp2_with fail
  refine (insS_any a2 _ c2 k w2.heap.size (ss.map Value.string) [.string key] _ (HRow.out.touch (Touch.alloc [] _ _) (by simp)) (heap_alloc_new w2 _) rfl
    (fun hx => by obtain ⟨x, hx, e⟩ := mem_blkOf.1 hx; have := HRow.out.lt x hx; omega) one_strs (by simp [Value.oneCell']) hle (by omega)).mono ?_
  rintro e w3 ⟨a3, c3, rfl, hrow, ht, -⟩
  have K3 : Hid (Keep w w3) := Lib.hid (Touch.keep ((Touch.of_below (K2.out.trans (Keep.alloc _ _)) []).trans ht (fun x hx => .inr (by
    obtain ⟨y, hy, e⟩ := mem_blkOf.1 hx; have := HFr.out y hy; rw [← e]
    exact Nat.le_trans (Nat.le_refl _) (by simpa using this)))))
  have hst3 : Hid (StrsAt w3 a3 (ss.length + 1) ii) := Lib.hid (Row.strs (by rw [HM.out, ← hin.out] at hrow; exact hrow))
  clear hrow ht
  go_wp2_with fail
  refine (HRR.out _ _ c3 K3.out hst3.out).mono ?_
  rintro e w4 hR
  obtain ⟨p, m, rfl⟩ := HRe.out _ _ hR
  have HR4 := Lib.hid hR
  clear hR
  go_wp2_with fail
  exact HR4.out

-- Clone, Delete, New: what stands behind Join's tests.
set_option maxHeartbeats 1000000 in
theorem join_else (g k : Nat) (ss : List ByteArray) (w : World) (hm : MapAt w g ss) (hk : k < ss.length)
    (R : Ending → World → Prop) (hR : ∀ w1 a c, Keep w w1 → StrsAt w1 a (ss.length - 1) (ss.take k ++ ss.drop (k + 1)) → Calls Try.prog 8 #[.slice a (ss.length - 1) c] w1 R)
    (hRe : ∀ e w', R e w' → ∃ p n, e = .returned (.tuple #[.pointer p, .int .i64 n])) :
    Calls Try.prog 17 #[.pointer (some ⟨g, 0, none⟩), .int .i64 k] w R := by
  obtain ⟨a, n, c, hc, hst, h7⟩ := hm
  obtain rfl : n = ss.length := hst.1
  have HC := Lib.hid (clone_any a _ c ss w (by omega) hst)
  have HM : Hid ((ss.map Value.string).take (k * 1) ++ (ss.map Value.string).drop ((k + 1) * 1) = (ss.take k ++ ss.drop (k + 1)).map Value.string) := Lib.hid (by
    rw [Nat.mul_one, Nat.mul_one]; simp)
  have HRR := Lib.hid hR
  have HRe := Lib.hid hRe
  clear hst hR hRe
  go_enter Try.func17, Try.ntmps17
  go_wp2_with fail
  refine HC.out.mono ?_
  rintro e w2 ⟨a2, c2, rfl, ho, -, hk2⟩
  obtain ⟨hrow, hfr⟩ := Row.of_owns ho
  have HFr := Lib.hid hfr
  have K2 := Lib.hid hk2
  rcases hrow.out with ⟨rfl, h0, rfl, h1⟩ | ⟨g2, cur, rfl, hg, hnc, hcm, hcs, htk, hxl⟩
  · omega
  have HD := Lib.hid (delS_any g2 ss.length c2 k cur (ss.map Value.string) w2 hg hcs hnc hcm htk one_strs hk)
  clear ho hrow hfr hk2 hg hcs hcm htk hxl
  go_wp2_with fail
  refine HD.out.mono ?_
  rintro e w3 ⟨rfl, hrow, ht⟩
  have K3 : Hid (Keep w w3) := Lib.hid (Touch.keep ((Touch.of_below K2.out []).trans ht (fun x hx => .inr (by
    have := HFr.out _ rfl; simp only [List.mem_singleton] at hx; subst hx; exact this))))
  have hst3 : Hid (StrsAt w3 (some ⟨g2, 0, none⟩) (ss.length - 1) (ss.take k ++ ss.drop (k + 1))) := Lib.hid (Row.strs (by rw [HM.out] at hrow; exact hrow))
  clear hrow ht
  go_wp2_with fail
  refine (HRR.out _ _ c2 K3.out hst3.out).mono ?_
  rintro e w4 hR
  obtain ⟨p, m, rfl⟩ := HRe.out _ _ hR
  have HR4 := Lib.hid hR
  clear hR
  go_wp2_with fail
  exact HR4.out

theorem rightL_iff (ss : List ByteArray) (h7 : ss.length ≤ 7) (hb : ∀ s ∈ ss, badStr s = false) (hr : ss.Pairwise (fun s t => s.toList < t.toList)) : rightL ss = 0 := by
  have h1 : anyBad ss = false := by rw [anyBad, List.any_eq_false]; intro s hs; rw [hb s hs]; simp
  have h2 : stepsDown ss = false := stepsDown_none fun k hk => by
    have := List.pairwise_iff_getElem.1 hr k (k + 1) (by omega) hk (by omega)
    rw [leStr_iff, less_iff]
    simp [List.getD, hk, show k < ss.length by omega, this]
  rw [rightL, if_neg (by omega), h1, h2]; rfl
theorem pairwise_of (ss : List ByteArray) (h : Rises ss) : ss.Pairwise (fun s t => s.toList < t.toList) :=
  List.pairwise_iff_getElem.2 fun i j hi hj hij => by
    have := lt_of_rises h hij hj
    simpa [List.getD, hi, hj] using this
theorem not_bad (ss : List ByteArray) (h : rightL ss = 0) : ∀ s ∈ ss, badStr s = false := by
  have h' : anyBad ss = false := by
    unfold rightL at h
    cases hs : anyBad ss with
    | false => rfl
    | true => simp only [hs, if_true] at h; split at h <;> simp at h
  intro s hs
  have := List.any_eq_false.1 h' s hs
  simpa using this
theorem right_ins (ss : List ByteArray) (key : ByteArray) (h : rightL ss = 0) (hb : badStr key = false) (hs : isSplit ss key = false) (h6 : ss.length ≤ 6) : rightL (insL ss key) = 0 := by
  have hr := rises_of ss h
  obtain ⟨b1, b2, b3⟩ := ofL_bound ss key hr
  refine rightL_iff _ (by rw [insL_len]; omega) (fun s hs => ?_) ?_
  · unfold insL at hs
    rcases List.mem_append.1 hs with h1 | h1
    · exact not_bad ss h s (List.mem_of_mem_take h1)
    · rcases List.mem_cons.1 h1 with rfl | h1
      · exact hb
      · exact not_bad ss h s (List.mem_of_mem_drop h1)
  · have hp := pairwise_of ss hr
    have lo : ∀ s ∈ ss.take (ofL ss key), s.toList < key.toList := fun s hs' => by
      obtain ⟨j, hj, rfl⟩ := List.getElem_of_mem hs'
      rw [List.length_take] at hj
      have hle := b2 j (by omega)
      have hjl : j < ss.length := by omega
      rw [List.getElem_take]
      simp only [List.getD, List.getElem?_eq_getElem hjl, Option.getD_some] at hle
      refine Std.lt_of_le_of_ne ((le_iff _ _).1 hle) fun e => ?_
      have e' := toList_inj e
      by_cases ej : j = ofL ss key - 1
      · subst ej
        simp [isSplit, hjl, e', show 0 < ofL ss key by omega] at hs
      · have h3 := lt_of_rises hr (show j < ofL ss key - 1 by omega) (by omega)
        have h4 := (le_iff _ _).1 (b2 (ofL ss key - 1) (by omega))
        simp only [List.getD, List.getElem?_eq_getElem hjl, Option.getD_some, e] at h3
        exact List.not_lt.2 h4 h3
    have hi : ∀ s ∈ ss.drop (ofL ss key), key.toList < s.toList := fun s hs' => by
      obtain ⟨j, hj, rfl⟩ := List.getElem_of_mem hs'
      rw [List.length_drop] at hj
      have := b3 (ofL ss key + j) (by omega) (by omega)
      rw [leStr_iff, less_iff] at this
      rw [List.getElem_drop]
      simpa [List.getD, show ofL ss key + j < ss.length by omega] using this
    unfold insL
    refine List.pairwise_append.2 ⟨hp.sublist (List.take_sublist _ _), List.pairwise_cons.2 ⟨hi, hp.sublist (List.drop_sublist _ _)⟩, fun s hs' t ht => ?_⟩
    rcases List.mem_cons.1 ht with rfl | ht
    · exact lo s hs'
    · exact List.lt_trans (lo s hs') (hi t ht)

theorem split_full (g : Nat) (ss : List ByteArray) (key : ByteArray) (w : World) (h : badStr key = false) (hm : MapAt w g ss) (hr : Rises ss) (hs : isSplit ss key = false) (h7 : ss.length = 7) :
    Calls Try.prog 16 #[.pointer (some ⟨g, 0, none⟩), .string key] w fun e w' => e = .returned (.tuple #[.pointer none, .int .i64 7]) ∧ Keep w w' := by
  refine split_else g ss key w h hm hr hs _ (fun w1 a c hk hst => ?_) (fun e w' ⟨he, _⟩ => ⟨_, _, he⟩)
  have e7 : rightL (insL ss key) = 7 := by rw [rightL, if_pos (by rw [insL_len]; omega)]
  have := new_err a (ss.length + 1) c (insL ss key) w1 (by unfold maxLen; omega) hst (by rw [e7]; decide)
  rw [e7] at this
  exact this.mono fun e w' ⟨he, k, hw⟩ => ⟨he, hk.trans (hw ▸ Keep.drewN _ _)⟩
theorem split_ok (g : Nat) (ss : List ByteArray) (key : ByteArray) (w : World) (h : badStr key = false) (hm : MapAt w g ss) (h0 : rightL ss = 0) (hs : isSplit ss key = false) (h6 : ss.length ≤ 6) :
    Calls Try.prog 16 #[.pointer (some ⟨g, 0, none⟩), .string key] w fun e w' => ∃ g', e = .returned (.tuple #[.pointer (some ⟨g', 0, none⟩), .int .i64 0]) ∧ MapAt w' g' (insL ss key) ∧ Keep w w' := by
  refine split_else g ss key w h hm (rises_of ss h0) hs _ (fun w1 a c hk hst => ?_) (fun e w' ⟨g', he, _⟩ => ⟨_, _, he⟩)
  exact (new_ok a (ss.length + 1) c (insL ss key) w1 (by unfold maxLen; omega) hst (right_ins ss key h0 h hs h6) (by rw [insL_len]; omega)).mono fun e w' ⟨g', he, hm', _, hk'⟩ => ⟨g', he, hm', hk.trans hk'⟩
theorem join_ok (g : Nat) (ss : List ByteArray) (key : ByteArray) (w : World) (hm : MapAt w g (insL ss key)) (h0 : rightL ss = 0) (h6 : ss.length ≤ 6) :
    Calls Try.prog 17 #[.pointer (some ⟨g, 0, none⟩), .int .i64 (ofL ss key)] w fun e w' => ∃ g', e = .returned (.tuple #[.pointer (some ⟨g', 0, none⟩), .int .i64 0]) ∧ MapAt w' g' ss ∧ Keep w w' := by
  have hle : ofL ss key ≤ ss.length := List.countP_le_length
  refine join_else g (ofL ss key) (insL ss key) w hm (by rw [insL_len]; omega) _ (fun w1 a c hk hst => ?_) (fun e w' ⟨g', he, _⟩ => ⟨_, _, he⟩)
  rw [insL_back] at hst
  exact (new_ok a _ c ss w1 (by rw [insL_len]; unfold maxLen; omega) hst h0 (by omega)).mono fun e w' ⟨g', he, hm', _, hk'⟩ => ⟨g', he, hm', hk.trans hk'⟩
end Go.Proofs.Yteocoijkfkoddaa
