/- What the table tells: waiting, Holds, Members. -/
import Derived.Test.YtlmfpkfgjfdhgaaF
namespace Go.Proofs.Ytlmfpkfgjfdhgaa
open Go.RowKit
theorem filter_take_succ {α : Type} (p : α → Bool) (L : List α) (k : Nat) (hk : k < L.length) : (L.take (k + 1)).filter p = (L.take k).filter p ++ (if p L[k] then [L[k]] else []) := by
  rw [List.take_succ_eq_append_getElem hk, List.filter_append]
  simp [List.filter_cons]
def keepAll (_ : Int) : Bool := true
theorem info3 : (Try.prog.info? 3).map (fun i => (i.zero, i.size, i.bytes)) = some (some (.int .i64 0), 1, 8) := by kernel_rfl
theorem info9 : (Try.prog.info? 9).map (fun i => (i.zero, i.size, i.bytes)) = some (some (.string ⟨#[]⟩), 1, 16) := by kernel_rfl
theorem info77 : (Try.prog.info? 77).map (fun i => (i.zero, i.size, i.bytes)) = some (some (.agg #[.int .i64 0, .int .i64 0, .bool false, .string ⟨#[]⟩]), 4, 40) := by kernel_rfl

set_option maxRecDepth 100000 in
set_option maxHeartbeats 1600000 in
theorem tb_waiting (p : Nat) (wd : Bool) (la : Option Addr) (lc : Nat) (M : List Mb) (ka : Option Addr) (kc : Nat) (K : List Lk) (key : ByteArray) (w : World) (h : Tb w p wd la lc M ka kc K) (hbig : M.length ≤ 1000) :
    Calls Try.prog 48 #[.pointer (some ⟨p, 0, none⟩), .string key] w (fun e w' => ∃ v, e = .returned v ∧ NewRow 77 4 w ((M.filter fun t => t.waits && t.key.toList == key.toList).flatMap fun t => [.int .i64 t.id, .int .i64 t.stamp, .bool t.waits, .string t.key]) (M.filter fun t => t.waits && t.key.toList == key.toList).length v w') := by
  have hc := h.cell1.1
  have HR := Lib.hid h.rm
  clear h
  have HS := Lib.hid fun w1 v (hn : NewRow 77 4 w ((((M).take (M).length).filter fun t => t.waits && t.key.toList == key.toList).flatMap fun t => [.int .i64 t.id, .int .i64 t.stamp, .bool t.waits, .string t.key]) ((((M).take (M).length).filter fun t => t.waits && t.key.toList == key.toList)).length v w1) => (show (∃ v', Ending.returned v = .returned v' ∧ NewRow 77 4 w ((M.filter fun t => t.waits && t.key.toList == key.toList).flatMap fun t => [.int .i64 t.id, .int .i64 t.stamp, .bool t.waits, .string t.key]) (M.filter fun t => t.waits && t.key.toList == key.toList).length v' w1) from ⟨v, rfl, by rw [List.take_length] at hn; exact hn⟩)
  generalize hQ : (fun e w' => ∃ v, e = Ending.returned v ∧ NewRow 77 4 w ((M.filter fun t => t.waits && t.key.toList == key.toList).flatMap fun t => [.int .i64 t.id, .int .i64 t.stamp, .bool t.waits, .string t.key]) (M.filter fun t => t.waits && t.key.toList == key.toList).length v w') = R
  have HQ : Hid (∀ v w', (∃ v', Ending.returned v = .returned v' ∧ NewRow 77 4 w ((M.filter fun t => t.waits && t.key.toList == key.toList).flatMap fun t => [.int .i64 t.id, .int .i64 t.stamp, .bool t.waits, .string t.key]) (M.filter fun t => t.waits && t.key.toList == key.toList).length v' w') → R (.returned v) w') := Lib.hid fun v w' h => by rw [← hQ]; exact h
  clear hQ
  have HS2 := Lib.hid fun w1 v hn => HQ.out v w1 (HS.out w1 v hn)
  clear HS HQ
  generalize hLL : M = L at *
  clear hLL
  generalize hn2 : L.length = n at hc hbig HS2
  have HN := Lib.hid hn2
  clear hn2
  go_enter Try.func48, Try.ntmps48
  go_wp2_with fail
  go_loopw [5, 13] (fun v j wr => ∃ k : Nat, k ≤ n ∧ j = .int .i64 k ∧ Hid (NewRow 77 4 w (((L.take k).filter fun t => t.waits && t.key.toList == key.toList).flatMap fun t => [.int .i64 t.id, .int .i64 t.stamp, .bool t.waits, .string t.key]) ((L.take k).filter fun t => t.waits && t.key.toList == key.toList).length v wr)) (fun _ j _ => n - (intOf j).toNat)
  case atStart => exact ⟨0, Nat.zero_le _, rfl, Lib.hid (NewRow.nil _ _ w)⟩
  case round =>
    obtain ⟨k, hk, rfl, hrl⟩ := hrel
    by_cases hlt : k < n
    · obtain ⟨ao, co, rfl, hrow, hb, hf⟩ := hrl.out
      have hk2 : k < L.length := by rw [HN.out]; exact hlt
      obtain ⟨g, rfl, hcs⟩ := mbAt_row HR.out k hk2
      obtain ⟨hx0, hx1, hx2, hx3⟩ := hcs.below hb
      have hol : ((L.take k).filter fun t => t.waits && t.key.toList == key.toList).length ≤ 100000 := Nat.le_trans (List.length_filter_le _ _) (by rw [List.length_take]; omega)
      have HFT := Lib.hid (filter_take_succ (fun t : Mb => t.waits && t.key.toList == key.toList) L k hk2)
      have HNR := Lib.hid (NewRow.below hrl.out (bel_new wr (.cells #[.int .i64 L[k].id, .int .i64 L[k].stamp, .bool L[k].waits, .string L[k].key] 77)))
      have HAP := Lib.hid fun vs (hv : vs.length = 4) (ho : ∀ u ∈ vs, u.oneCell' = true) => HNR.out.app (P := Try.prog) Try.underlying70 info77 (z0 := .agg #[.int .i64 0, .int .i64 0, .bool false, .string ⟨#[]⟩]) rfl (by decide) vs hv ho (by omega) (by decide) 70
      rw [show (wr.alloc (.cells #[.int .i64 L[k].id, .int .i64 L[k].stamp, .bool L[k].waits, .string L[k].key] 77)).heap.size = wr.heap.size + 1 by simp] at HAP
      clear hrl hrow hb hf hcs
      generalize hlk : L[k] = t at *
      clear hlk
      obtain ⟨zid, zstamp, zwaits, zkey⟩ := t
      simp only at hx0 hx1 hx2 hx3 HAP HNR HFT
      generalize (L.take k).filter (fun t => t.waits && t.key.toList == key.toList) = fl at *
      generalize hfl : fl.length = m at *
      have HFL := Lib.hid hfl
      clear hfl
      by_cases hq : (zwaits && zkey.toList == key.toList) = true
      · rw [if_pos hq] at HFT
        obtain ⟨b', cap', w3, hrun, hnr⟩ := HAP.out [.int .i64 zid, .int .i64 zstamp, .bool zwaits, .string zkey] rfl (by simp [Value.oneCell'])
        have HRUN := Lib.hid hrun
        have HNX : Hid (NewRow 77 4 w (((L.take (k + 1)).filter fun t => t.waits && t.key.toList == key.toList).flatMap fun t => [.int .i64 t.id, .int .i64 t.stamp, .bool t.waits, .string t.key]) ((L.take (k + 1)).filter fun t => t.waits && t.key.toList == key.toList).length (.slice b' (m + 1) cap') w3) := Lib.hid (by
          rw [HFT.out, List.length_append, HFL.out, List.flatMap_append]
          simpa using hnr)
        clear hrun hnr HAP HNR HFT
        obtain ⟨rfl, hq2⟩ := Bool.and_eq_true_iff.1 hq
        clear hq
        all_goals
          go_wp2_with ((at_builtin; refine wpList_appendR _ rfl (.tmp 25) (.tmp 27) 70 70 rfl (.slice ao m co) (.slice (some ⟨wr.heap.size + 1, 0, none⟩) 1 1) rfl rfl HRUN.out ?_))
          go_roundw
          case rel => exact ⟨k + 1, by omega, by go_num, HNX⟩
          case measure => simp [intOf]; omega
      · rw [if_neg hq, List.append_nil] at HFT
        have HNX : Hid (NewRow 77 4 w (((L.take (k + 1)).filter fun t => t.waits && t.key.toList == key.toList).flatMap fun t => [.int .i64 t.id, .int .i64 t.stamp, .bool t.waits, .string t.key]) ((L.take (k + 1)).filter fun t => t.waits && t.key.toList == key.toList).length (.slice ao m co) (wr.alloc (.cells #[.int .i64 zid, .int .i64 zstamp, .bool zwaits, .string zkey] 77))) := Lib.hid (by rw [HFT.out, HFL.out]; exact HNR.out)
        clear HAP HNR HFT
        have hor : zwaits = false ∨ (zwaits = true ∧ (zkey.toList == key.toList) = false) := by
          cases zwaits with
          | false => exact .inl rfl
          | true => exact .inr ⟨rfl, by simpa using hq⟩
        clear hq
        rcases hor with rfl | ⟨rfl, hq2⟩
        all_goals
          go_wp2_with fail
          go_roundw
          case rel => exact ⟨k + 1, by omega, by go_num, HNX⟩
          case measure => simp [intOf]; omega
    · obtain rfl : k = n := by omega
      have HFIN := Lib.hid (HS2.out _ _ hrl.out)
      clear hrl
      go_wp2_with fail
      exact HFIN.out


set_option maxRecDepth 100000 in
set_option maxHeartbeats 1600000 in
theorem tb_holds (p : Nat) (wd : Bool) (la : Option Addr) (lc : Nat) (M : List Mb) (ka : Option Addr) (kc : Nat) (K : List Lk) (id : Int) (w : World) (h : Tb w p wd la lc M ka kc K) (hbig : K.length ≤ 100000) :
    Calls Try.prog 19 #[.pointer (some ⟨p, 0, none⟩), .int .i64 id] w (fun e w' => ∃ v, e = .returned v ∧ NewRow 9 1 w ((K.filter fun t => t.holder == id).flatMap fun t => [.string t.key]) (K.filter fun t => t.holder == id).length v w') := by
  have hc := h.cell2.1
  have HR := Lib.hid h.rk
  clear h
  have HS := Lib.hid fun w1 v (hn : NewRow 9 1 w ((((K).take (K).length).filter fun t => t.holder == id).flatMap fun t => [.string t.key]) ((((K).take (K).length).filter fun t => t.holder == id)).length v w1) => (show (∃ v', Ending.returned v = .returned v' ∧ NewRow 9 1 w ((K.filter fun t => t.holder == id).flatMap fun t => [.string t.key]) (K.filter fun t => t.holder == id).length v' w1) from ⟨v, rfl, by rw [List.take_length] at hn; exact hn⟩)
  generalize hQ : (fun e w' => ∃ v, e = Ending.returned v ∧ NewRow 9 1 w ((K.filter fun t => t.holder == id).flatMap fun t => [.string t.key]) (K.filter fun t => t.holder == id).length v w') = R
  have HQ : Hid (∀ v w', (∃ v', Ending.returned v = .returned v' ∧ NewRow 9 1 w ((K.filter fun t => t.holder == id).flatMap fun t => [.string t.key]) (K.filter fun t => t.holder == id).length v' w') → R (.returned v) w') := Lib.hid fun v w' h => by rw [← hQ]; exact h
  clear hQ
  have HS2 := Lib.hid fun w1 v hn => HQ.out v w1 (HS.out w1 v hn)
  clear HS HQ
  generalize hLL : K = L at *
  clear hLL
  generalize hn2 : L.length = n at hc hbig HS2
  have HN := Lib.hid hn2
  clear hn2
  go_enter Try.func19, Try.ntmps19
  go_wp2_with fail
  go_loopw [5, 15] (fun v j wr => ∃ k : Nat, k ≤ n ∧ j = .int .i64 k ∧ Hid (NewRow 9 1 w (((L.take k).filter fun t => t.holder == id).flatMap fun t => [.string t.key]) ((L.take k).filter fun t => t.holder == id).length v wr)) (fun _ j _ => n - (intOf j).toNat)
  case atStart => exact ⟨0, Nat.zero_le _, rfl, Lib.hid (NewRow.nil _ _ w)⟩
  case round =>
    obtain ⟨k, hk, rfl, hrl⟩ := hrel
    by_cases hlt : k < n
    · obtain ⟨ao, co, rfl, hrow, hb, hf⟩ := hrl.out
      have hk2 : k < L.length := by rw [HN.out]; exact hlt
      obtain ⟨g, rfl, hcs⟩ := lkAt_row HR.out k hk2
      obtain ⟨hx0, hx1⟩ := hcs.below hb
      have hol : ((L.take k).filter fun t => t.holder == id).length ≤ 100000 := Nat.le_trans (List.length_filter_le _ _) (by rw [List.length_take]; omega)
      have HFT := Lib.hid (filter_take_succ (fun t : Lk => t.holder == id) L k hk2)
      have HNR := Lib.hid (NewRow.below hrl.out (bel_new wr (.cells #[.string L[k].key, .int .i64 L[k].holder] 82)))
      have HAP := Lib.hid fun vs (hv : vs.length = 1) (ho : ∀ u ∈ vs, u.oneCell' = true) => HNR.out.app (P := Try.prog) Try.underlying47 info9 (z0 := .string ⟨#[]⟩) rfl (by decide) vs hv ho (by omega) (by decide) 47
      rw [show (wr.alloc (.cells #[.string L[k].key, .int .i64 L[k].holder] 82)).heap.size = wr.heap.size + 1 by simp] at HAP
      clear hrl hrow hb hf hcs
      generalize hlk : L[k] = t at *
      clear hlk
      obtain ⟨zkey, zholder⟩ := t
      simp only at hx0 hx1 HAP HNR HFT
      generalize (L.take k).filter (fun t => t.holder == id) = fl at *
      generalize hfl : fl.length = m at *
      have HFL := Lib.hid hfl
      clear hfl
      by_cases hq : (zholder == id) = true
      · rw [if_pos hq] at HFT
        obtain ⟨b', cap', w3, hrun, hnr⟩ := HAP.out [.string zkey] rfl (by simp [Value.oneCell'])
        have HRUN := Lib.hid hrun
        have HNX : Hid (NewRow 9 1 w (((L.take (k + 1)).filter fun t => t.holder == id).flatMap fun t => [.string t.key]) ((L.take (k + 1)).filter fun t => t.holder == id).length (.slice b' (m + 1) cap') w3) := Lib.hid (by
          rw [HFT.out, List.length_append, HFL.out, List.flatMap_append]
          simpa using hnr)
        clear hrun hnr HAP HNR HFT
        have hq2 : (zholder == id) = true := hq
        all_goals
          go_wp2_with ((at_builtin; refine wpList_appendR _ rfl (.tmp 23) (.tmp 26) 47 47 rfl (.slice ao m co) (.slice (some ⟨wr.heap.size + 1, 0, none⟩) 1 1) rfl rfl HRUN.out ?_))
          go_roundw
          case rel => exact ⟨k + 1, by omega, by go_num, HNX⟩
          case measure => simp [intOf]; omega
      · rw [if_neg hq, List.append_nil] at HFT
        have HNX : Hid (NewRow 9 1 w (((L.take (k + 1)).filter fun t => t.holder == id).flatMap fun t => [.string t.key]) ((L.take (k + 1)).filter fun t => t.holder == id).length (.slice ao m co) (wr.alloc (.cells #[.string zkey, .int .i64 zholder] 82))) := Lib.hid (by rw [HFT.out, HFL.out]; exact HNR.out)
        clear HAP HNR HFT
        have hq2 : (zholder == id) = false := by simpa using hq
        clear hq
        all_goals
          go_wp2_with fail
          go_roundw
          case rel => exact ⟨k + 1, by omega, by go_num, HNX⟩
          case measure => simp [intOf]; omega
    · obtain rfl : k = n := by omega
      have HFIN := Lib.hid (HS2.out _ _ hrl.out)
      clear hrl
      go_wp2_with fail
      exact HFIN.out


set_option maxRecDepth 100000 in
set_option maxHeartbeats 1600000 in
theorem tb_members (p : Nat) (wd : Bool) (la : Option Addr) (lc : Nat) (M : List Mb) (ka : Option Addr) (kc : Nat) (K : List Lk) (w : World) (h : Tb w p wd la lc M ka kc K) (hbig : M.length ≤ 1000) :
    Calls Try.prog 13 #[.pointer (some ⟨p, 0, none⟩)] w (fun e w' => ∃ v, e = .returned v ∧ NewRow 3 1 w ((M.filter fun t => keepAll t.id).flatMap fun t => [.int .i64 t.id]) (M.filter fun t => keepAll t.id).length v w') := by
  have hc := h.cell1.1
  have HR := Lib.hid h.rm
  clear h
  have HS := Lib.hid fun w1 v (hn : NewRow 3 1 w ((((M).take (M).length).filter fun t => keepAll t.id).flatMap fun t => [.int .i64 t.id]) ((((M).take (M).length).filter fun t => keepAll t.id)).length v w1) => (show (∃ v', Ending.returned v = .returned v' ∧ NewRow 3 1 w ((M.filter fun t => keepAll t.id).flatMap fun t => [.int .i64 t.id]) (M.filter fun t => keepAll t.id).length v' w1) from ⟨v, rfl, by rw [List.take_length] at hn; exact hn⟩)
  generalize hQ : (fun e w' => ∃ v, e = Ending.returned v ∧ NewRow 3 1 w ((M.filter fun t => keepAll t.id).flatMap fun t => [.int .i64 t.id]) (M.filter fun t => keepAll t.id).length v w') = R
  have HQ : Hid (∀ v w', (∃ v', Ending.returned v = .returned v' ∧ NewRow 3 1 w ((M.filter fun t => keepAll t.id).flatMap fun t => [.int .i64 t.id]) (M.filter fun t => keepAll t.id).length v' w') → R (.returned v) w') := Lib.hid fun v w' h => by rw [← hQ]; exact h
  clear hQ
  have HS2 := Lib.hid fun w1 v hn => HQ.out v w1 (HS.out w1 v hn)
  clear HS HQ
  generalize hLL : M = L at *
  clear hLL
  generalize hn2 : L.length = n at hc hbig HS2
  have HN := Lib.hid hn2
  clear hn2
  go_enter Try.func13, Try.ntmps13
  go_wp2_with fail
  go_loopw [3, 13] (fun v j wr => ∃ k : Nat, k ≤ n ∧ j = .int .i64 k ∧ Hid (NewRow 3 1 w (((L.take k).filter fun t => keepAll t.id).flatMap fun t => [.int .i64 t.id]) ((L.take k).filter fun t => keepAll t.id).length v wr)) (fun _ j _ => n - (intOf j).toNat)
  case atStart => exact ⟨0, Nat.zero_le _, rfl, Lib.hid (NewRow.nil _ _ w)⟩
  case round =>
    obtain ⟨k, hk, rfl, hrl⟩ := hrel
    by_cases hlt : k < n
    · obtain ⟨ao, co, rfl, hrow, hb, hf⟩ := hrl.out
      have hk2 : k < L.length := by rw [HN.out]; exact hlt
      obtain ⟨g, rfl, hcs⟩ := mbAt_row HR.out k hk2
      obtain ⟨hx0, hx1, hx2, hx3⟩ := hcs.below hb
      have hol : ((L.take k).filter fun t => keepAll t.id).length ≤ 100000 := Nat.le_trans (List.length_filter_le _ _) (by rw [List.length_take]; omega)
      have HFT := Lib.hid (filter_take_succ (fun t : Mb => keepAll t.id) L k hk2)
      have HNR := Lib.hid (NewRow.below hrl.out (bel_new wr (.cells #[.int .i64 L[k].id, .int .i64 L[k].stamp, .bool L[k].waits, .string L[k].key] 77)))
      have HAP := Lib.hid fun vs (hv : vs.length = 1) (ho : ∀ u ∈ vs, u.oneCell' = true) => HNR.out.app (P := Try.prog) Try.underlying40 info3 (z0 := .int .i64 0) rfl (by decide) vs hv ho (by omega) (by decide) 40
      rw [show (wr.alloc (.cells #[.int .i64 L[k].id, .int .i64 L[k].stamp, .bool L[k].waits, .string L[k].key] 77)).heap.size = wr.heap.size + 1 by simp] at HAP
      clear hrl hrow hb hf hcs
      generalize hlk : L[k] = t at *
      clear hlk
      obtain ⟨zid, zstamp, zwaits, zkey⟩ := t
      simp only at hx0 hx1 hx2 hx3 HAP HNR HFT
      generalize (L.take k).filter (fun t => keepAll t.id) = fl at *
      generalize hfl : fl.length = m at *
      have HFL := Lib.hid hfl
      clear hfl
      by_cases hq : (keepAll zid) = true
      · rw [if_pos hq] at HFT
        obtain ⟨b', cap', w3, hrun, hnr⟩ := HAP.out [.int .i64 zid] rfl (by simp [Value.oneCell'])
        have HRUN := Lib.hid hrun
        have HNX : Hid (NewRow 3 1 w (((L.take (k + 1)).filter fun t => keepAll t.id).flatMap fun t => [.int .i64 t.id]) ((L.take (k + 1)).filter fun t => keepAll t.id).length (.slice b' (m + 1) cap') w3) := Lib.hid (by
          rw [HFT.out, List.length_append, HFL.out, List.flatMap_append]
          simpa using hnr)
        clear hrun hnr HAP HNR HFT
        skip
        all_goals
          go_wp2_with ((at_builtin; refine wpList_appendR _ rfl (.tmp 17) (.tmp 20) 40 40 rfl (.slice ao m co) (.slice (some ⟨wr.heap.size + 1, 0, none⟩) 1 1) rfl rfl HRUN.out ?_))
          go_roundw
          case rel => exact ⟨k + 1, by omega, by go_num, HNX⟩
          case measure => simp [intOf]; omega
      · rw [if_neg hq, List.append_nil] at HFT
        have HNX : Hid (NewRow 3 1 w (((L.take (k + 1)).filter fun t => keepAll t.id).flatMap fun t => [.int .i64 t.id]) ((L.take (k + 1)).filter fun t => keepAll t.id).length (.slice ao m co) (wr.alloc (.cells #[.int .i64 zid, .int .i64 zstamp, .bool zwaits, .string zkey] 77))) := Lib.hid (by rw [HFT.out, HFL.out]; exact HNR.out)
        clear HAP HNR HFT
        exact absurd rfl hq
        all_goals
          go_wp2_with fail
          go_roundw
          case rel => exact ⟨k + 1, by omega, by go_num, HNX⟩
          case measure => simp [intOf]; omega
    · obtain rfl : k = n := by omega
      have HFIN := Lib.hid (HS2.out _ _ hrl.out)
      clear hrl
      go_wp2_with fail
      exact HFIN.out

end Go.Proofs.Ytlmfpkfgjfdhgaa
