import Derived.Test.YtnemgmlhcjhdhaaBF
import Derived.Test.YtnemgmlhcjhdhaaAC
/- The document's row: Owners, Queue, walked. -/
namespace Go.Proofs.Ytnemgmlhcjhdhaa
open Go.RowKit
set_option maxRecDepth 100000 in
set_option maxHeartbeats 2000000 in
theorem rowners_any (p : Nat) (l : List Wn) (w : World) (h : RfAt w p l) (hn : l.length ≤ 100000) : Calls Try.prog 31 #[.pointer (some ⟨p, 0, none⟩)] w (NewI w (riseI (l.map (·.owner)))) := by
  obtain ⟨a, n, c, hc, hl⟩ := h
  obtain rfl := hl.1
  have HL := Lib.hid hl
  clear hl
  go_enter Try.func31, Try.ntmps31
  go_wp2_with fail
  go_loopw [3, 11] (fun v jv wr => ∃ i : Nat, i ≤ l.length ∧ jv = .int .i64 (i : Nat) ∧ Hid (∃ m, m = ((l.take i).map (·.owner)).length ∧ NewRow 3 1 w (intsV ((l.take i).map (·.owner))) m v wr)) (fun _ jv _ => l.length - (intOf jv).toNat)
  case atStart => exact ⟨0, Nat.zero_le _, rfl, Lib.hid ⟨0, rfl, NewRow.nil 3 1 w⟩⟩
  case round =>
    obtain ⟨w1, rfl⟩ : ∃ w1, w1 = wr := ⟨_, rfl⟩
    obtain ⟨i, hi, rfl, hS⟩ := hrel
    obtain ⟨m, hmm, a5, c5, rfl, hr5, hb5, hf5⟩ := hS.out
    have HMM := Lib.hid hmm
    clear hS
    by_cases hlt : i < l.length
    · obtain ⟨g, o', rfl, hx⟩ := (HL.out.below hb5).2 i hlt
      obtain ⟨k0, k1, k2, k3, k4⟩ := hx
      have HTK : Hid ((l.take (i + 1)).map (·.owner) = (l.take i).map (·.owner) ++ [l[i].owner]) := Lib.hid (by rw [List.take_succ_eq_append_getElem hlt, List.map_append]; rfl)
      have hli : m ≤ 1000000 := by rw [hmm, List.length_map, List.length_take]; omega
      clear hmm
      generalize l[i] = x at *
      obtain ⟨xk, xo, xm, xi, xu⟩ := x
      simp only at k0 k1 k2 k3 k4 HTK
      have hS2 := NewRow.below (w := w) ⟨a5, c5, rfl, hr5, hb5, hf5⟩ (bel_new w1 (.cells #[.string xk, .int .i64 xo, .int .i64 xm, .bool xi, .bool xu] 80))
      obtain ⟨b6, c6, w6, hrun, hnr⟩ := NewRow.app (P := Try.prog) (t := 43) Try.underlying43 infoInt (by rfl) (by decide) hS2 [.int .i64 xo] (by rfl) (by simp [Value.oneCell']) (by omega) (by decide) 43
      rw [show (w1.alloc (.cells #[.string xk, .int .i64 xo, .int .i64 xm, .bool xi, .bool xu] 80)).heap.size = w1.heap.size + 1 by simp only [World.size_alloc]] at hrun
      have HRUN := Lib.hid hrun
      have HNR := Lib.hid hnr
      clear hrun hnr hS2 hr5 hb5 hf5
      go_wp2_with ((at_builtin; refine wpList_appendR _ rfl (.tmp 15) (.tmp 18) 43 43 rfl (.slice a5 m c5) (.slice (some ⟨w1.heap.size + 1, 0, none⟩) 1 1) rfl rfl HRUN.out ?_))
      go_roundw
      case rel => exact ⟨i + 1, by omega, by go_num, Lib.hid ⟨m + 1, by rw [HTK.out, List.length_append, ← HMM.out]; rfl, by rw [HTK.out]; unfold intsV; rw [List.map_append]; exact HNR.out⟩⟩
      case measure => simp [intOf]; omega
    · obtain rfl : i = l.length := by omega
      rw [List.take_length] at *
      have hml : m ≤ 100000 := by rw [hmm, List.length_map]; exact hn
      have HR := Lib.hid (rising_any a5 m c5 (l.map (·.owner)) w1 (IntsAt.row hr5) hml)
      rw [risI_rise] at HR
      have HB := Lib.hid hb5
      clear hr5 hb5 hf5 hmm
      generalize hRR : riseI (l.map (·.owner)) = R at *
      have HRR := Lib.hid hRR
      clear hRR
      go_wp2_with fail
      refine HR.out.mono ?_
      rintro e w2 ⟨a8, c8, rfl, hm⟩
      have HF := Lib.hid ((Step.of_below HB.out []).mem hm)
      clear hm
      go_wp2_with fail
      go_ret
      exact ⟨a8, c8, by rw [HRR.out]; rfl, by rw [HRR.out]; exact HF.out⟩
theorem waitW_next {l : List Wn} {k : ByteArray} {i : Nat} (h : i < l.length) : waitW k (l.take (i + 1)) = waitW k (l.take i) ++ (if isW k l[i] = true then [l[i]] else []) := by
  rw [List.take_succ_eq_append_getElem h, waitW_app, waitW_cons]; rfl
/-- an answer that is new holds. -/
def NewH (w : World) (H : List Hd) (e : Ending) (w' : World) : Prop := ∃ sa sn sc, e = .returned (.slice sa sn sc) ∧ Mem w [] w' [RowH ⟨sa, sn, sc⟩ H]
set_option maxRecDepth 100000 in
set_option maxHeartbeats 4000000 in
theorem rqueue_any (p : Nat) (l : List Wn) (k : ByteArray) (w : World) (h : RfAt w p l) (hn : l.length ≤ 100000) : Calls Try.prog 54 #[.pointer (some ⟨p, 0, none⟩), .string k] w (NewH w ((waitW k l).map hd)) := by
  obtain ⟨a, n, c, hc, hl⟩ := h
  obtain rfl := hl.1
  have HL := Lib.hid hl
  clear hl
  go_enter Try.func54, Try.ntmps54
  go_wp2_with fail
  go_loopw [5, 13] (fun v jv wr => ∃ i : Nat, i ≤ l.length ∧ jv = .int .i64 (i : Nat) ∧ Hid (∃ m, m = ((waitW k (l.take i)).map hd).length ∧ NewRow 36 2 w (hdFlat ((waitW k (l.take i)).map hd)) m v wr)) (fun _ jv _ => l.length - (intOf jv).toNat)
  case atStart => exact ⟨0, Nat.zero_le _, rfl, Lib.hid ⟨0, rfl, NewRow.nil 36 2 w⟩⟩
  case round =>
    obtain ⟨w1, rfl⟩ : ∃ w1, w1 = wr := ⟨_, rfl⟩
    obtain ⟨i, hi, rfl, hS⟩ := hrel
    obtain ⟨m, hmm, a5, c5, rfl, hr5, hb5, hf5⟩ := hS.out
    have HMM := Lib.hid hmm
    clear hS
    by_cases hlt : i < l.length
    · obtain ⟨g, o', rfl, hx⟩ := (HL.out.below hb5).2 i hlt
      obtain ⟨k0, k1, k2, k3, k4⟩ := hx
      have hnx := waitW_next (k := k) hlt
      rw [isW_eq] at hnx
      have HNX := Lib.hid hnx
      have hli : m ≤ 1000000 := by
        rw [hmm, List.length_map]
        have : (waitW k (l.take i)).length ≤ (l.take i).length := List.length_filter_le _ _
        rw [List.length_take] at this; omega
      clear hnx hmm
      generalize l[i] = x at *
      obtain ⟨xk, xo, xm, xi, xu⟩ := x
      simp only at k0 k1 k2 k3 k4 HNX
      have HNO : Hid ((xk.toList == k.toList && !xi) = false → ∃ m', m' = ((waitW k (l.take (i + 1))).map hd).length ∧ NewRow 36 2 w (hdFlat ((waitW k (l.take (i + 1))).map hd)) m' (.slice a5 m c5) (w1.alloc (.cells #[.string xk, .int .i64 xo, .int .i64 xm, .bool xi, .bool xu] 80))) := Lib.hid fun hf => by
        rw [HNX.out, hf]
        simp only [Bool.false_eq_true, if_false, List.append_nil]
        exact ⟨m, HMM.out, NewRow.below (w := w) ⟨a5, c5, rfl, hr5, hb5, hf5⟩ (bel_new w1 _)⟩
      cases q1 : (xk.toList == k.toList) with
      | false =>
        have HE := Lib.hid (HNO.out (by rw [q1]; rfl))
        clear HNO HNX hr5 hb5 hf5
        go_wp2_with fail
        go_roundw
        case rel => exact ⟨i + 1, by omega, by go_num, HE⟩
        case measure => simp [intOf]; omega
      | true =>
        cases xi with
        | true =>
          have HE := Lib.hid (HNO.out (by rw [q1]; rfl))
          clear HNO HNX hr5 hb5 hf5
          go_wp2_with fail
          go_roundw
          case rel => exact ⟨i + 1, by omega, by go_num, HE⟩
          case measure => simp [intOf]; omega
        | false =>
          have HYE : Hid ((waitW k (l.take (i + 1))).map hd = (waitW k (l.take i)).map hd ++ [⟨xo, xm⟩]) := Lib.hid (by rw [HNX.out, q1]; simp [hd])
          clear HNO HNX
          have hS2 := NewRow.below (w := w) ⟨a5, c5, rfl, hr5, hb5, hf5⟩ (bel_new w1 (.cells #[.string xk, .int .i64 xo, .int .i64 xm, .bool false, .bool xu] 80))
          obtain ⟨b6, c6, w6, hrun, hnr⟩ := NewRow.app (P := Try.prog) (t := 32) Try.underlying32 infoHd (by rfl) (by decide) hS2 [.int .i64 xo, .int .i64 xm] (by rfl) (by simp [Value.oneCell']) (by omega) (by decide) 32
          rw [show (w1.alloc (.cells #[.string xk, .int .i64 xo, .int .i64 xm, .bool false, .bool xu] 80)).heap.size = w1.heap.size + 1 by simp only [World.size_alloc]] at hrun
          have HRUN := Lib.hid hrun
          have HNR := Lib.hid hnr
          clear hrun hnr hS2 hr5 hb5 hf5
          go_wp2_with ((at_builtin; refine wpList_appendR _ rfl (.tmp 26) (.tmp 32) 32 32 rfl (.slice a5 m c5) (.slice (some ⟨w1.heap.size + 1, 0, none⟩) 1 1) rfl rfl HRUN.out ?_))
          go_roundw
          case rel => exact ⟨i + 1, by omega, by go_num, Lib.hid ⟨m + 1, by rw [HYE.out, List.length_append, ← HMM.out]; rfl, by rw [HYE.out, hdFlat_append]; exact HNR.out⟩⟩
          case measure => simp [intOf]; omega
    · obtain rfl : i = l.length := by omega
      rw [List.take_length] at *
      have HF : Hid (Mem w [] w1 [RowH ⟨a5, m, c5⟩ ((waitW k l).map hd)]) := Lib.hid ((Mem.nil w).new hb5 (As := [RowH ⟨a5, m, c5⟩ ((waitW k l).map hd)]) (all_one ⟨rfl, hr5⟩) hf5)
      clear hr5 hb5 hf5 hmm HMM
      go_wp2_with fail
      go_ret
      exact ⟨_, _, _, rfl, HF.out⟩
set_option maxRecDepth 100000 in
set_option maxHeartbeats 4000000 in
theorem rholders_any (p : Nat) (l : List Wn) (k : ByteArray) (w : World) (h : RfAt w p l) (hn : l.length ≤ 100000) : Calls Try.prog 53 #[.pointer (some ⟨p, 0, none⟩), .string k] w (NewH w ((riseI ((inW k l).map (·.owner))).map fun o => (⟨o, hasR l o k true⟩ : Hd))) := by
  have HRF := Lib.hid h
  obtain ⟨a, n, c, hc, hl⟩ := h
  obtain rfl := hl.1
  have HL := Lib.hid hl
  clear hl
  go_enter Try.func53, Try.ntmps53
  go_wp2_with fail
  go_loopw [5, 16] (fun v jv wr => ∃ i : Nat, i ≤ l.length ∧ jv = .int .i64 (i : Nat) ∧ Hid (∃ m, m = ((inW k (l.take i)).map (·.owner)).length ∧ NewRow 3 1 w (intsV ((inW k (l.take i)).map (·.owner))) m v wr)) (fun _ jv _ => l.length - (intOf jv).toNat)
  case atStart => exact ⟨0, Nat.zero_le _, rfl, Lib.hid ⟨0, rfl, NewRow.nil 3 1 w⟩⟩
  case round =>
    obtain ⟨w1, rfl⟩ : ∃ w1, w1 = wr := ⟨_, rfl⟩
    obtain ⟨i, hi, rfl, hS⟩ := hrel
    obtain ⟨m, hmm, a5, c5, rfl, hr5, hb5, hf5⟩ := hS.out
    have HMM := Lib.hid hmm
    clear hS
    by_cases hlt : i < l.length
    · obtain ⟨g, o', rfl, hx⟩ := (HL.out.below hb5).2 i hlt
      obtain ⟨k0, k1, k2, k3, k4⟩ := hx
      have hnx := inW_next (k := k) hlt
      rw [isH_eq] at hnx
      have HNX := Lib.hid hnx
      have hli : m ≤ 1000000 := by
        rw [hmm, List.length_map]
        have : (inW k (l.take i)).length ≤ (l.take i).length := List.length_filter_le _ _
        rw [List.length_take] at this; omega
      clear hnx hmm
      generalize l[i] = x at *
      obtain ⟨xk, xo, xm, xi, xu⟩ := x
      simp only at k0 k1 k2 k3 k4 HNX
      have HNO : Hid ((xk.toList == k.toList && xi) = false → ∃ m', m' = ((inW k (l.take (i + 1))).map (·.owner)).length ∧ NewRow 3 1 w (intsV ((inW k (l.take (i + 1))).map (·.owner))) m' (.slice a5 m c5) (w1.alloc (.cells #[.string xk, .int .i64 xo, .int .i64 xm, .bool xi, .bool xu] 80))) := Lib.hid fun hf => by
        rw [HNX.out, hf]
        simp only [Bool.false_eq_true, if_false, List.append_nil]
        exact ⟨m, HMM.out, NewRow.below (w := w) ⟨a5, c5, rfl, hr5, hb5, hf5⟩ (bel_new w1 _)⟩
      cases q1 : (xk.toList == k.toList) with
      | false =>
        have HE := Lib.hid (HNO.out (by rw [q1]; rfl))
        clear HNO HNX hr5 hb5 hf5
        go_wp2_with fail
        go_roundw
        case rel => exact ⟨i + 1, by omega, by go_num, HE⟩
        case measure => simp [intOf]; omega
      | true =>
        cases xi with
        | false =>
          have HE := Lib.hid (HNO.out (by rw [q1]; rfl))
          clear HNO HNX hr5 hb5 hf5
          go_wp2_with fail
          go_roundw
          case rel => exact ⟨i + 1, by omega, by go_num, HE⟩
          case measure => simp [intOf]; omega
        | true =>
          have HYE : Hid ((inW k (l.take (i + 1))).map (·.owner) = (inW k (l.take i)).map (·.owner) ++ [xo]) := Lib.hid (by rw [HNX.out, q1]; simp)
          clear HNO HNX
          have hS2 := NewRow.below (w := w) ⟨a5, c5, rfl, hr5, hb5, hf5⟩ (bel_new w1 (.cells #[.string xk, .int .i64 xo, .int .i64 xm, .bool true, .bool xu] 80))
          obtain ⟨b6, c6, w6, hrun, hnr⟩ := NewRow.app (P := Try.prog) (t := 43) Try.underlying43 infoInt (by rfl) (by decide) hS2 [.int .i64 xo] (by rfl) (by simp [Value.oneCell']) (by omega) (by decide) 43
          rw [show (w1.alloc (.cells #[.string xk, .int .i64 xo, .int .i64 xm, .bool true, .bool xu] 80)).heap.size = w1.heap.size + 1 by simp only [World.size_alloc]] at hrun
          have HRUN := Lib.hid hrun
          have HNR := Lib.hid hnr
          clear hrun hnr hS2 hr5 hb5 hf5
          go_wp2_with ((at_builtin; refine wpList_appendR _ rfl (.tmp 28) (.tmp 31) 43 43 rfl (.slice a5 m c5) (.slice (some ⟨w1.heap.size + 1, 0, none⟩) 1 1) rfl rfl HRUN.out ?_))
          go_roundw
          case rel => exact ⟨i + 1, by omega, by go_num, Lib.hid ⟨m + 1, by rw [HYE.out, List.length_append, ← HMM.out]; rfl, by rw [HYE.out]; unfold intsV; rw [List.map_append]; exact HNR.out⟩⟩
          case measure => simp [intOf]; omega
    · obtain rfl : i = l.length := by omega
      rw [List.take_length] at *
      have hml : m ≤ 100000 := by
        rw [hmm, List.length_map]
        have : (inW k l).length ≤ l.length := List.length_filter_le _ _
        omega
      have HR := Lib.hid (rising_any a5 m c5 ((inW k l).map (·.owner)) w1 (IntsAt.row hr5) hml)
      rw [risI_rise] at HR
      have hRl : (riseI ((inW k l).map (·.owner))).length ≤ 100000 := by
        have h1 := Lib.compact_length_le (sortI ((inW k l).map (·.owner)))
        rw [sortI_len] at h1
        rw [← hmm] at h1
        unfold riseI; omega
      have HB := Lib.hid hb5
      clear hr5 hb5 hf5 hml hmm HMM
      generalize hRR : riseI ((inW k l).map (·.owner)) = R at *
      have HRR := Lib.hid hRR
      clear hRR
      go_wp2_with fail
      refine HR.out.mono ?_
      rintro e w2 ⟨a8, c8, rfl, hm⟩
      have hm1 := (Step.of_below HB.out []).mem hm
      have HM : Hid (Mem w [] w2 [RowH ⟨none, 0, 0⟩ [], RowI a8 c8 R]) := Lib.hid (hm1.new (Below.refl _ _) (As := [RowH ⟨none, 0, 0⟩ []]) (all_one ⟨rfl, Row.nil _ _ _⟩) (by simp [blkOf]))
      clear hm hm1 HR HB
      go_wp2_with fail
      go_loopw [8, 37] (fun v jv wr => ∃ j : Nat, j ≤ R.length ∧ jv = .int .i64 (j : Nat) ∧ Hid (∃ sa sc, v = .slice sa j sc ∧ Mem w [] wr [RowH ⟨sa, j, sc⟩ ((R.take j).map fun o => (⟨o, hasR l o k true⟩ : Hd)), RowI a8 c8 R])) (fun _ jv _ => R.length - (intOf jv).toNat)
      case atStart => exact ⟨0, Nat.zero_le _, rfl, Lib.hid ⟨none, 0, rfl, HM.out⟩⟩
      case round =>
        obtain ⟨w3, rfl⟩ : ∃ w3, w3 = wr := ⟨_, rfl⟩
        obtain ⟨j, hj, rfl, hS⟩ := hrel
        obtain ⟨sa, sc, rfl, hm⟩ := hS.out
        clear hS HM
        by_cases hltj : j < R.length
        · obtain ⟨gk, rfl, hck⟩ := (Mem.rowAt [RowH ⟨sa, j, sc⟩ ((R.take j).map fun o => (⟨o, hasR l o k true⟩ : Hd))] (r := []) hm).cellAt j (by simpa [intsV] using hltj)
          rw [show (intsV R)[j]'(by simpa [intsV] using hltj) = .int .i64 R[j] by simp [intsV]] at hck
          have HHS := Lib.hid (has_any p l R[j] k true w3 (HRF.out.below hm.bel) (by omega))
          have HTK : Hid (((R.take (j + 1)).map fun o => (⟨o, hasR l o k true⟩ : Hd)) = ((R.take j).map fun o => (⟨o, hasR l o k true⟩ : Hd)) ++ [⟨R[j], hasR l R[j] k true⟩]) := Lib.hid (by rw [List.take_succ_eq_append_getElem hltj, List.map_append]; rfl)
          have HM3 := Lib.hid hm
          clear hm
          generalize R[j] = z at *
          generalize hasR l z k true = v at *
          generalize ((R.take j).map fun o => (⟨o, hasR l o k true⟩ : Hd)) = Hs at *
          go_wp2_with fail
          refine HHS.out.mono ?_
          rintro e w4 ⟨rfl, hb⟩
          obtain ⟨b6, c6, w6, hrun, hm6⟩ := Mem.app1 (P := Try.prog) (t := 32) (ty := 32) [] (r := [RowI (some ⟨gk, 0, none⟩) c8 R]) Try.underlying32 infoHd (by rfl) (by decide) (HM3.out.below hb) [.int .i64 z, .int .i64 v] (by rfl) (by simp [Value.oneCell']) (show j ≤ 1000000 by omega) (by decide)
          have HRUN := Lib.hid hrun
          have HM6 := Lib.hid hm6
          clear hrun hm6 hb HM3 HHS hck
          go_wp2_with ((at_builtin; refine wpList_appendR _ rfl (.tmp 41) (.tmp 48) 32 32 rfl (.slice sa j sc) (.slice (some ⟨w4.heap.size, 0, none⟩) 1 1) rfl rfl HRUN.out ?_))
          go_roundw
          case rel => exact ⟨j + 1, by omega, by go_num, Lib.hid ⟨b6, c6, rfl, by rw [HTK.out]; unfold RowH; rw [hdFlat_append]; exact HM6.out⟩⟩
          case measure => simp [intOf]; omega
        · obtain rfl : j = R.length := by omega
          rw [List.take_length] at hm
          have HF := Lib.hid (Mem.cutTo [RowH ⟨sa, R.length, sc⟩ (R.map fun o => (⟨o, hasR l o k true⟩ : Hd))] (r := [RowI a8 c8 R]) hm)
          clear hm
          go_wp2_with fail
          go_ret
          exact ⟨_, _, _, rfl, by rw [HRR.out]; exact HF.out⟩
end Go.Proofs.Ytnemgmlhcjhdhaa
/- The document's row: Blockers, walked. -/
namespace Go.Proofs.Ytnemgmlhcjhdhaa
open Go.RowKit
theorem blkAtR_next {l : List Wn} {o : Int} {i : Nat} {w : Wn} {j : Nat} (h : j < l.length) : blkAtR l o i w (j + 1) = blkAtR l o i w j ++ (if cndR o i w j l[j] = true then [l[j].owner] else []) := by
  rw [blkAtR, List.getElem?_eq_getElem h]
theorem blkUpR_next {l : List Wn} {o : Int} {i : Nat} (h : i < l.length) : blkUpR l o (i + 1) = blkUpR l o i ++ (if (!(l[i].owner == o) || l[i].isin) = true then [] else blkAtR l o i l[i] l.length) := by
  rw [blkUpR, List.getElem?_eq_getElem h]
theorem blkAtR_len (l : List Wn) (o : Int) (i : Nat) (w : Wn) : ∀ j, (blkAtR l o i w j).length ≤ j
  | 0 => by simp [blkAtR]
  | j + 1 => by
    have ih := blkAtR_len l o i w j
    rw [blkAtR, List.length_append]
    split
    · split
      · rw [List.length_singleton]; omega
      · rw [List.length_nil]; omega
    · rw [List.length_nil]; omega
theorem blkUpR_len (l : List Wn) (o : Int) : ∀ i, (blkUpR l o i).length ≤ i * l.length
  | 0 => by simp [blkUpR]
  | i + 1 => by
    have ih := blkUpR_len l o i
    rw [blkUpR, List.length_append, Nat.succ_mul]
    split
    · rename_i z _
      split
      · rw [List.length_nil]; omega
      · have := blkAtR_len l o i z l.length; omega
    · rw [List.length_nil]; omega
theorem cndR_eq (o : Int) (i : Nat) (w : Wn) (j : Nat) (x : Wn) : cndR o i w j x = ((x.key.toList == w.key.toList) && (x.owner != o) && (x.isin || decide ((j : Int) < (i : Int))) && (x.mode == 2 || w.mode == 2)) := by
  unfold cndR
  rw [keyEq]
  simp [bne]
set_option maxRecDepth 100000 in
set_option maxHeartbeats 16000000 in
theorem rblockers_any (p : Nat) (l : List Wn) (o : Int) (w : World) (h : RfAt w p l) (hn : l.length ≤ 300) : Calls Try.prog 55 #[.pointer (some ⟨p, 0, none⟩), .int .i64 o] w (NewI w (riseI (blkUpR l o l.length))) := by
  obtain ⟨a, n, c, hc, hl⟩ := h
  obtain rfl := hl.1
  have HL := Lib.hid hl
  have HC := Lib.hid fun W (hb : Below w.heap.size w W) => (hb.cell (World.block_lt_of_cell? w _ hc)).trans hc
  have M0 := Lib.hid ((Mem.nil w).new (Below.refl _ _) (As := [RowI none 0 []]) (all_one ⟨rfl, Row.nil _ _ _⟩) (by simp [blkOf]))
  clear hl
  go_enter Try.func55, Try.ntmps55
  go_wp2_with fail
  go_loopw [5, 15] (fun v jv wr => ∃ i : Nat, i ≤ l.length ∧ jv = .int .i64 (i : Nat) ∧ Hid (∃ a ca, v = .slice a (blkUpR l o i).length ca ∧ Mem w [] wr [RowI a ca (blkUpR l o i)])) (fun _ jv _ => l.length - (intOf jv).toNat)
  case atStart => exact ⟨0, Nat.zero_le _, rfl, Lib.hid ⟨none, 0, rfl, M0.out⟩⟩
  case round =>
    obtain ⟨w1, rfl⟩ : ∃ w1, w1 = wr := ⟨_, rfl⟩
    obtain ⟨i, hi, rfl, hS⟩ := hrel
    clear M0
    obtain ⟨aI, ca, rfl, hm⟩ := hS.out
    clear hS
    by_cases hlt : i < l.length
    · obtain ⟨g, o', rfl, hx⟩ := HL.out.2 i hlt
      obtain ⟨c0, c1, c2, c3, c4⟩ := hx.below hm.bel
      have HNX := Lib.hid (blkUpR_next (o := o) hlt)
      have HLI := Lib.hid (blkUpR_len l o i)
      have HLA := Lib.hid fun j => blkAtR_len l o i l[i] j
      have HAN := Lib.hid fun j (hj : j < l.length) => blkAtR_next (o := o) (i := i) (w := l[i]) hj
      clear hx
      generalize l[i] = x at *
      obtain ⟨xk, xo, xm, xi, xu⟩ := x
      simp only at c0 c1 c2 c3 c4 HNX
      generalize hI : blkUpR l o i = I at *
      clear hI
      have M1 := Lib.hid (hm.block #[.string xk, .int .i64 xo, .int .i64 xm, .bool xi, .bool xu] 80)
      clear hm
      have hcc := HC.out
      have hc1 := hcc (w1.alloc (.cells #[.string xk, .int .i64 xo, .int .i64 xm, .bool xi, .bool xu] 80)) (Mem.bel M1.out)
      clear hcc
      cases q1 : (xo == o) with
      | false =>
        have q2 : (xo != o) = true := by simp only [bne, q1, Bool.not_false]
        have HE : Hid (blkUpR l o (i + 1) = I) := Lib.hid (by rw [HNX.out, q1]; simp)
        have HM := Lib.hid (Mem.drop [] (r := [RowI aI ca I]) M1.out)
        clear HNX M1 hc1
        go_wp2_with fail
        go_roundw
        case rel => exact ⟨i + 1, by omega, by go_num, Lib.hid ⟨aI, ca, by rw [HE.out], by rw [HE.out]; exact HM.out⟩⟩
        case measure => simp [intOf]; omega
      | true =>
        have q2 : (xo != o) = false := by simp only [bne, q1, Bool.not_true]
        cases xi with
        | true =>
          have HE : Hid (blkUpR l o (i + 1) = I) := Lib.hid (by rw [HNX.out, q1]; simp)
          have HM := Lib.hid (Mem.drop [] (r := [RowI aI ca I]) M1.out)
          clear HNX M1 hc1
          go_wp2_with fail
          go_roundw
          case rel => exact ⟨i + 1, by omega, by go_num, Lib.hid ⟨aI, ca, by rw [HE.out], by rw [HE.out]; exact HM.out⟩⟩
          case measure => simp [intOf]; omega
        | false =>
          have HE : Hid (blkUpR l o (i + 1) = I ++ blkAtR l o i ⟨xk, xo, xm, false, xu⟩ l.length) := Lib.hid (by rw [HNX.out, q1]; simp)
          clear HNX
          generalize hwd : (⟨xk, xo, xm, false, xu⟩ : Wn) = wd at *
          have HWD := Lib.hid hwd
          clear hwd
          go_wp2_with fail
          obtain ⟨w2, hw2⟩ : ∃ w2, w2 = w1.alloc (.cells #[.string xk, .int .i64 xo, .int .i64 xm, .bool false, .bool xu] 80) := ⟨_, rfl⟩
          rw [← hw2] at M1 ⊢
          clear hw2 c0 c1 c2 c3 c4 hc1
          generalize w1.heap.size = b7 at *
          have hM2 := M1.out.perm (l' := [RowI aI ca I, BlockA b7 #[.string xk, .int .i64 xo, .int .i64 xm, .bool false, .bool xu] 80]) (List.Perm.swap _ _ _)
          have M2 := Lib.hid hM2
          clear hM2 M1
          go_loopw [5, 33] (fun v jv wr => ∃ j : Nat, j ≤ l.length ∧ jv = .int .i64 (j : Nat) ∧ Hid (∃ a ca, v = .slice a (I ++ blkAtR l o i wd j).length ca ∧ Mem w [] wr [RowI a ca (I ++ blkAtR l o i wd j), BlockA b7 #[.string xk, .int .i64 xo, .int .i64 xm, .bool false, .bool xu] 80])) (fun _ jv _ => l.length - (intOf jv).toNat)
          case atStart => exact ⟨0, Nat.zero_le _, rfl, Lib.hid ⟨aI, ca, by simp [blkAtR], by simpa [blkAtR] using M2.out⟩⟩
          case round =>
            obtain ⟨w3, rfl⟩ : ∃ w3, w3 = wr := ⟨_, rfl⟩
            obtain ⟨j, hj, rfl, hS⟩ := hrel
            clear M2
            obtain ⟨aJ, cj, rfl, hm⟩ := hS.out
            clear hS
            by_cases hltj : j < l.length
            · obtain ⟨g2, o2, e2, hy⟩ := HL.out.2 j hltj
              simp only [Option.some.injEq, Addr.mk.injEq, and_true] at e2
              obtain ⟨rfl, rfl⟩ := e2
              obtain ⟨d0, d1, d2, d3, d4⟩ := hy.below hm.bel
              have HAJ := HAN.out j hltj
              rw [cndR_eq] at HAJ
              have HAJ2 := Lib.hid HAJ
              have hlb : (I ++ blkAtR l o i wd j).length ≤ 1000000 := by
                have h1 := HLI.out
                have h2 := HLA.out j
                have h3 : i * l.length ≤ 300 * 300 := Nat.mul_le_mul (by omega) hn
                rw [List.length_append]; omega
              clear hy HAJ
              generalize l[j] = y at *
              obtain ⟨yk, yo, ym, yi, yu⟩ := y
              simp only at d0 d1 d2 d3 d4 HAJ2
              have hwk : wd.key = xk ∧ wd.mode = xm := by rw [← HWD.out]; exact ⟨rfl, rfl⟩
              rw [hwk.1, hwk.2] at HAJ2
              have M3 := hm.block #[.string yk, .int .i64 yo, .int .i64 ym, .bool yi, .bool yu] 80
              have M3' := Lib.hid M3
              have HMD := Lib.hid (Mem.drop [] (r := [RowI aJ cj (I ++ blkAtR l o i wd j), BlockA b7 #[.string xk, .int .i64 xo, .int .i64 xm, .bool false, .bool xu] 80]) M3)
              obtain ⟨e0, -⟩ := cell_of_heap (i := 0) (v := .string xk) (Mem.blk M3 (g := b7) (cur := #[.string xk, .int .i64 xo, .int .i64 xm, .bool false, .bool xu]) (T := 80) (by simp)) rfl
              obtain ⟨e2, -⟩ := cell_of_heap (i := 2) (v := .int .i64 xm) (Mem.blk M3 (g := b7) (cur := #[.string xk, .int .i64 xo, .int .i64 xm, .bool false, .bool xu]) (T := 80) (by simp)) rfl
              clear M3 hwk hm
              generalize hJ : I ++ blkAtR l o i wd j = J at *
              have HNO : Hid (((yk.toList == xk.toList) && (yo != o) && (yi || decide ((j : Int) < (i : Int))) && (ym == 2 || xm == 2)) = false → I ++ blkAtR l o i wd (j + 1) = J) := Lib.hid fun hf => by
                rw [HAJ2.out, hf, ← hJ]; simp
              have HYE : Hid (((yk.toList == xk.toList) && (yo != o) && (yi || decide ((j : Int) < (i : Int))) && (ym == 2 || xm == 2)) = true → I ++ blkAtR l o i wd (j + 1) = J ++ [yo]) := Lib.hid fun hf => by
                rw [HAJ2.out, hf, ← hJ]; simp
              clear hJ HAJ2
              generalize hgd : decide ((j : Int) < (i : Int)) = dji at *
              have hgn : decide (j < i) = dji := by rw [← hgd]; simp
              go_upto_region 9 with (fail)
              go_cut [67] from 38 to 67 (fun v wx => v = .bool ((yk.toList == xk.toList) && (yo != o) && (yi || dji) && (ym == 2 || xm == 2)) ∧ wx = w3.alloc (.cells #[.string yk, .int .i64 yo, .int .i64 ym, .bool yi, .bool yu] 80))
              case first =>
                clear HNO HYE HL HC HAN HLI HLA HE HWD HMD M3'
                cases p1 : (yk.toList == xk.toList) with
                | false =>
                  go_wp2_with fail
                  go_meet
                  case rel => exact ⟨by rw [p1]; rfl, rfl⟩
                | true =>
                  cases p2 : (yo != o) with
                  | false =>
                    go_wp2_with fail
                    go_meet
                    case rel => exact ⟨by rw [p1, p2]; rfl, rfl⟩
                  | true =>
                    cases yi with
                    | true =>
                      cases p3 : (ym == 2) with
                      | true =>
                        go_wp2_with fail
                        go_meet
                        case rel => exact ⟨by rw [p1, p2, p3]; rfl, rfl⟩
                      | false =>
                        go_wp2_with fail
                        go_meet
                        case rel => exact ⟨by rw [p1, p2, p3]; rfl, rfl⟩
                    | false =>
                      cases dji with
                      | false =>
                        go_wp2_with fail
                        go_meet
                        case rel => exact ⟨by rw [p1, p2]; rfl, rfl⟩
                      | true =>
                        cases p3 : (ym == 2) with
                        | true =>
                          go_wp2_with fail
                          go_meet
                          case rel => exact ⟨by rw [p1, p2, p3]; rfl, rfl⟩
                        | false =>
                          go_wp2_with fail
                          go_meet
                          case rel => exact ⟨by rw [p1, p2, p3]; rfl, rfl⟩
              case rest =>
                obtain ⟨rfl, rfl⟩ := hcut
                generalize hcd : ((yk.toList == xk.toList) && (yo != o) && (yi || dji) && (ym == 2 || xm == 2)) = cd at *
                cases cd with
                | false =>
                  have HE2 := Lib.hid (HNO.out rfl)
                  clear HNO HYE M3'
                  go_wp2_with fail
                  go_roundw
                  case rel => exact ⟨j + 1, by omega, by go_num, Lib.hid ⟨aJ, cj, by rw [HE2.out], by rw [HE2.out]; exact HMD.out⟩⟩
                  case measure => simp [intOf]; omega
                | true =>
                  have HE2 := Lib.hid (HYE.out rfl)
                  clear HNO HYE
                  obtain ⟨b6, c6, w6, hrun, hnr⟩ := RowI.app [BlockA w3.heap.size #[.string yk, .int .i64 yo, .int .i64 ym, .bool yi, .bool yu] 80] M3'.out yo hlb
                  rw [show (w3.alloc (.cells #[.string yk, .int .i64 yo, .int .i64 ym, .bool yi, .bool yu] 80)).heap.size = w3.heap.size + 1 by simp only [World.size_alloc]] at hrun
                  have HRUN := Lib.hid hrun
                  have HF := Lib.hid (Mem.drop [] (r := [RowI b6 c6 (J ++ [yo]), BlockA b7 #[.string xk, .int .i64 xo, .int .i64 xm, .bool false, .bool xu] 80]) hnr)
                  clear hrun hnr M3' HMD
                  go_wp2_with ((at_builtin; refine wpList_appendR _ rfl (.tmp 68) (.tmp 71) 43 43 rfl (.slice aJ J.length cj) (.slice (some ⟨w3.heap.size + 1, 0, none⟩) 1 1) rfl rfl HRUN.out ?_))
                  go_roundw
                  case rel => exact ⟨j + 1, by omega, by go_num, Lib.hid ⟨b6, c6, by rw [HE2.out, List.length_append]; rfl, by rw [HE2.out]; exact HF.out⟩⟩
                  case measure => simp [intOf]; omega
            · obtain rfl : j = l.length := by omega
              have HF : Hid (Mem w [] w3 [RowI aJ cj (blkUpR l o (i + 1))]) := Lib.hid (by rw [HE.out]; exact Mem.drop [RowI aJ cj (I ++ blkAtR l o i wd l.length)] (r := []) hm)
              have he := HE.out
              clear hm
              rw [← he]
              go_wp2_with fail
              go_roundw
              case rel => exact ⟨i + 1, by omega, by go_num, Lib.hid ⟨aJ, cj, rfl, HF.out⟩⟩
              case measure => simp [intOf]; omega
    · obtain rfl : i = l.length := by omega
      have hbl := blkUpR_len l o l.length
      have h3 : l.length * l.length ≤ 300 * 300 := Nat.mul_le_mul hn hn
      have HR := Lib.hid (rising_any aI (blkUpR l o l.length).length ca (blkUpR l o l.length) w1 (IntsAt.row (Mem.rowAt [] (r := []) hm)) (by omega))
      rw [risI_rise] at HR
      have HB := Lib.hid hm.bel
      clear hm hbl h3
      go_wp2_with fail
      refine HR.out.mono ?_
      rintro e w2 ⟨a8, c8, rfl, hm⟩
      have HF := Lib.hid ((Step.of_below HB.out []).mem hm)
      clear hm
      go_wp2_with fail
      go_ret
      exact ⟨a8, c8, rfl, HF.out⟩
end Go.Proofs.Ytnemgmlhcjhdhaa
/- The document's row: Keys, walked; SameTexts. -/
namespace Go.Proofs.Ytnemgmlhcjhdhaa
open Go.RowKit Go.Sort
set_option maxRecDepth 100000 in
set_option maxHeartbeats 1600000 in
theorem same_s (a b : Option Addr) (n m c d : Nat) (l : List ByteArray) (w : World) (hn : n = l.length) (hm : m = l.length) (hr : Row w 9 1 a n c (strsV l)) (hs : Row w 9 1 b m d (strsV l)) (hbig : n ≤ 1000000) :
    Calls Try.prog 29 #[.slice a n c, .slice b m d] w fun e w' => e = .returned (.bool true) ∧ Below w.heap.size w w' := by
  subst hn
  subst hm
  have HR := Lib.hid hr
  have HS := Lib.hid hs
  clear hr hs
  go_enter Try.func29, Try.ntmps29
  go_wp2_with fail
  go_loopw [13] (fun jv wr => ∃ q : Nat, q ≤ l.length ∧ jv = .int .i64 q ∧ Hid (Below w.heap.size w wr)) (fun jv _ => l.length - (intOf jv).toNat)
  case atStart => exact ⟨0, Nat.zero_le _, rfl, Lib.hid (Below.refl _ _)⟩
  case round =>
    obtain ⟨W1, rfl⟩ : ∃ W1, W1 = wr := ⟨_, rfl⟩
    obtain ⟨q, hq, rfl, HB⟩ := hrel
    by_cases hlt : q < l.length
    · obtain ⟨g, rfl, hx⟩ := (HR.out.below HB.out).cellAt q (by simpa [strsV] using hlt)
      obtain ⟨g2, rfl, hy⟩ := (HS.out.below HB.out).cellAt q (by simpa [strsV] using hlt)
      rw [show (strsV l)[q]'(by simpa [strsV] using hlt) = .string l[q] by simp [strsV]] at hx hy
      generalize l[q] = x at *
      have HB2 := Lib.hid (HB.out.drew)
      clear HB
      have hqn : (q : Int) < (l.length : Int) := by omega
      have hqz : (0 : Int) ≤ (q : Int) := by omega
      go_wp2_with fail
      go_region
      all_goals
        go_wp2_with fail
        go_roundw
        case rel => exact ⟨q + 1, by omega, by go_num, HB2⟩
        case measure => simp [intOf]; omega
    · obtain rfl : q = l.length := by omega
      go_wp2_with fail
      go_ret
      exact ⟨rfl, HB.out⟩
set_option maxRecDepth 100000 in
set_option maxHeartbeats 16000000 in
theorem rkeys_any (p : Nat) (l : List Wn) (w : World) (h : RfAt w p l) (hn : l.length ≤ 100000) : Calls Try.prog 30 #[.pointer (some ⟨p, 0, none⟩)] w (NewS w (risS (l.map (·.key)))) := by
  obtain ⟨a, n, c, hc, hl⟩ := h
  obtain rfl := hl.1
  have HL := Lib.hid hl
  have hmix : Try.prog.follows .mixedOrders = true := by kernel_rfl
  clear hl
  go_enter Try.func30, Try.ntmps30
  go_wp2_with fail
  go_loopw [3, 12] (fun v jv wr => ∃ i : Nat, i ≤ l.length ∧ jv = .int .i64 i ∧ Hid (∃ m, m = (risS ((l.take i).map (·.key))).length ∧ NewRow 9 1 w (strsV (risS ((l.take i).map (·.key)))) m v wr)) (fun _ jv _ => l.length - (intOf jv).toNat)
  case atStart => exact ⟨0, Nat.zero_le _, rfl, Lib.hid ⟨0, rfl, NewRow.nil 9 1 w⟩⟩
  case round =>
    obtain ⟨W1, rfl⟩ : ∃ W1, W1 = wr := ⟨_, rfl⟩
    obtain ⟨i, hi, rfl, hS⟩ := hrel
    obtain ⟨m, rfl, aO, c, rfl, hrow, hb, hf⟩ := hS.out
    clear hS
    by_cases hlt : i < l.length
    · obtain ⟨gi, oi, rfl, hx⟩ := (HL.out.below hb).2 i hlt
      obtain ⟨c0, c1, c2, c3, c4⟩ := hx
      have hnx : risS ((l.take (i + 1)).map (·.key)) = insG ltS l[i].key (risS ((l.take i).map (·.key))) := by
        rw [List.take_succ_eq_append_getElem hlt, List.map_append]
        unfold risS
        rw [List.foldl_append]; rfl
      have HNX := Lib.hid hnx
      have hOl : (risS ((l.take i).map (·.key))).length ≤ 100000 := by
        have := risN_len ltS ((l.take i).map (·.key)) []
        rw [List.length_map, List.length_take] at this
        unfold risS; simp only [List.length_nil] at this; omega
      have ROW0 := Lib.hid hrow
      have NB := Lib.hid hf
      have HBo := Lib.hid hb
      clear hnx hrow hb hf
      generalize risS ((l.take i).map (·.key)) = O at *
      generalize l[i] = x at *
      obtain ⟨xk, xo, xm, xi, xu⟩ := x
      simp only at c0 c1 c2 c3 c4 HNX
      go_wp2_with fail
      obtain ⟨w2, hw2⟩ : ∃ w2, w2 = W1.alloc (.cells #[.string xk, .int .i64 xo, .int .i64 xm, .bool xi, .bool xu] 80) := ⟨_, rfl⟩
      have HKC : Hid (w2.cell? ⟨W1.heap.size, 0, none⟩ = some (.string xk)) := Lib.hid (by rw [hw2]; simp [go_sem])
      have HBW2 : Hid (Below w.heap.size w w2) := Lib.hid (by rw [hw2]; exact bel_one HBo.out _)
      have ROW2 : Hid (Row w2 9 1 aO O.length c (strsV O)) := Lib.hid (by rw [hw2]; exact ROW0.out.below (bel_new _ _))
      rw [← hw2]
      clear hw2 c0 c1 c2 c3 c4 ROW0 HBo
      generalize W1.heap.size = b5 at *
      go_loopw [6] (fun jv wr => ∃ q : Nat, q ≤ O.length ∧ jv = .int .i64 q ∧ Hid (Below w2.heap.size w2 wr) ∧ Hid (∀ t (ht : t < O.length), t < q → ltS O[t] xk = true)) (fun jv _ => O.length - (intOf jv).toNat)
      case atStart => exact ⟨0, Nat.zero_le _, rfl, Lib.hid (Below.refl _ _), Lib.hid fun t ht h => absurd h (Nat.not_lt_zero _)⟩
      case round =>
        obtain ⟨Wa, rfl⟩ : ∃ Wa, Wa = wr := ⟨_, rfl⟩
        obtain ⟨q, hq, rfl, HBa, HALL⟩ := hrel
        have hB2 := HBa.out
        have hkc := (hB2.cell (World.block_lt_of_cell? w2 _ HKC.out)).trans HKC.out
        have ROW := Lib.hid (ROW2.out.below hB2)
        have hBW := HBW2.out.trans (hB2.mono HBW2.out.size)
        clear HBa
        by_cases hlq : q < O.length
        · obtain ⟨gs, rfl, hcx⟩ := ROW.out.cellAt q (by simpa [strsV] using hlq)
          rw [show (strsV O)[q]'(by simpa [strsV] using hlq) = .string O[q] by simp [strsV]] at hcx
          have hqn : (q : Int) < (O.length : Int) := by omega
          have hqz : (0 : Int) ≤ (q : Int) := by omega
          have HGI := Lib.hid fun (h2 : ltS O[q] xk = false) => insG_is ltS xk O q hq HALL.out (fun _ => h2)
          have HN2 : Hid (ltS O[q] xk = true → ∀ t (ht : t < O.length), t < q + 1 → ltS O[t] xk = true) := Lib.hid fun h t ht htq => by
            by_cases e : t = q
            · subst e; exact h
            · exact HALL.out t ht (by omega)
          have HEQ : Hid (O[q] = xk → ∃ h : q < O.length, O[q] = xk) := Lib.hid fun e => ⟨hlq, e⟩
          have HNQ : Hid (O[q] ≠ xk → ∀ h : q < O.length, O[q] ≠ xk) := Lib.hid fun e _ => e
          generalize hy : O[q] = y at *
          clear hy
          cases hyx : ltS y xk with
          | true =>
            have hd : Op.bytesLess y.toList xk.toList = true := hyx
            have HN3 := Lib.hid (HN2.out hyx)
            clear HN2 HGI HEQ HNQ HALL hyx
            go_upto_region 6 with (fail)
            have q1 := cell_regrown hkc
            have q2 := cell_regrown hcx
            have HGR : Hid (∀ d os, Below Wa.heap.size Wa (grow (redrawn Wa d) os)) := Lib.hid fun d os => below_regrown Wa d os
            refine wp_region_quiet_below hmix (by kernel_rfl) ?_
            repeat (go_big_quiet_step (fail))
            refine wpQuiet_nil ?_
            intro _ hw'
            obtain ⟨⟨dq, osq⟩, hw'⟩ := hw'
            subst hw'
            clear q1 q2
            obtain ⟨Wb, hWn⟩ : ∃ Wb, Wb = grow (redrawn Wa dq) osq := ⟨_, rfl⟩
            have hbn : Below Wa.heap.size Wa Wb := by rw [hWn]; exact HGR.out dq osq
            rw [← hWn]
            clear hWn HGR
            have hkc' := (hbn.cell (World.block_lt_of_cell? Wa _ hkc)).trans hkc
            have hcx' := (hbn.cell (World.block_lt_of_cell? Wa _ hcx)).trans hcx
            have ROW' := Lib.hid (ROW.out.below hbn)
            have hBW' := hBW.trans (hbn.mono hBW.size)
            have hB2' := hB2.trans (hbn.mono hB2.size)
            clear hkc hBW hB2 ROW hbn hcx
            have hkc := hkc'
            have ROW := ROW'
            have hBW := hBW'
            have hB2 := hB2'
            clear hkc' hBW' hB2' ROW'
            have hcx := hcx'
            clear hcx'
            have HBb := Lib.hid hB2
            clear hB2 hBW ROW hkc hcx
            go_wp2_with fail
            go_roundw
            case rel => exact ⟨q + 1, by omega, by go_num, HBb, HN3⟩
            case measure => simp [intOf]; omega
          | false =>
            have hd : Op.bytesLess y.toList xk.toList = false := hyx
            go_upto_region 6 with (fail)
            have q1 := cell_regrown hkc
            have q2 := cell_regrown hcx
            have HGR : Hid (∀ d os, Below Wa.heap.size Wa (grow (redrawn Wa d) os)) := Lib.hid fun d os => below_regrown Wa d os
            refine wp_region_quiet_below hmix (by kernel_rfl) ?_
            repeat (go_big_quiet_step (fail))
            refine wpQuiet_nil ?_
            intro _ hw'
            obtain ⟨⟨dq, osq⟩, hw'⟩ := hw'
            subst hw'
            clear q1 q2
            obtain ⟨Wb, hWn⟩ : ∃ Wb, Wb = grow (redrawn Wa dq) osq := ⟨_, rfl⟩
            have hbn : Below Wa.heap.size Wa Wb := by rw [hWn]; exact HGR.out dq osq
            rw [← hWn]
            clear hWn HGR
            have hkc' := (hbn.cell (World.block_lt_of_cell? Wa _ hkc)).trans hkc
            have hcx' := (hbn.cell (World.block_lt_of_cell? Wa _ hcx)).trans hcx
            have ROW' := Lib.hid (ROW.out.below hbn)
            have hBW' := hBW.trans (hbn.mono hBW.size)
            have hB2' := hB2.trans (hbn.mono hB2.size)
            clear hkc hBW hB2 ROW hbn hcx
            have hkc := hkc'
            have ROW := ROW'
            have hBW := hBW'
            have hB2 := hB2'
            clear hkc' hBW' hB2' ROW'
            have hcx := hcx'
            clear hcx'
            cases hyx2 : (y.toList == xk.toList) with
            | true =>
              go_upto_region 8 with (fail)
              have q1 := cell_regrown hkc
              have q2 := cell_regrown hcx
              have HGR : Hid (∀ d os, Below Wb.heap.size Wb (grow (redrawn Wb d) os)) := Lib.hid fun d os => below_regrown Wb d os
              refine wp_region_quiet_below hmix (by kernel_rfl) ?_
              repeat (go_big_quiet_step (fail))
              refine wpQuiet_nil ?_
              intro _ hw'
              obtain ⟨⟨dq, osq⟩, hw'⟩ := hw'
              subst hw'
              clear q1 q2
              obtain ⟨Wc, hWn⟩ : ∃ Wc, Wc = grow (redrawn Wb dq) osq := ⟨_, rfl⟩
              have hbn : Below Wb.heap.size Wb Wc := by rw [hWn]; exact HGR.out dq osq
              rw [← hWn]
              clear hWn HGR
              have hkc' := (hbn.cell (World.block_lt_of_cell? Wb _ hkc)).trans hkc
              have hcx' := (hbn.cell (World.block_lt_of_cell? Wb _ hcx)).trans hcx
              have ROW' := Lib.hid (ROW.out.below hbn)
              have hBW' := hBW.trans (hbn.mono hBW.size)
              have hB2' := hB2.trans (hbn.mono hB2.size)
              clear hkc hBW hB2 ROW hbn hcx
              have hkc := hkc'
              have ROW := ROW'
              have hBW := hBW'
              have hB2 := hB2'
              clear hkc' hBW' hB2' ROW'
              have hcx := hcx'
              clear hcx'
              have hyq : y = xk := by rw [keyEq] at hyx2; exact of_decide_eq_true hyx2
              have HE : Hid (insG ltS xk O = O) := Lib.hid ((HGI.out hyx).1 (HEQ.out hyq))
              have HF : Hid (NewRow 9 1 w (strsV O) O.length (.slice (some ⟨gs, 0, none⟩) O.length c) Wc) := Lib.hid ⟨_, _, rfl, ROW.out, hBW, NB.out⟩
              clear HN2 HGI HEQ HNQ HALL hyx2 hyx hyq hB2 hBW ROW hkc hcx hd
              go_wp2_with fail
              go_roundw
              case rel => exact ⟨i + 1, by omega, by go_num, Lib.hid ⟨_, by rw [HNX.out, HE.out], by rw [HNX.out, HE.out]; exact HF.out⟩⟩
              case measure => simp [intOf]; omega
            | false =>
              go_upto_region 8 with (fail)
              have q1 := cell_regrown hkc
              have q2 := cell_regrown hcx
              have HGR : Hid (∀ d os, Below Wb.heap.size Wb (grow (redrawn Wb d) os)) := Lib.hid fun d os => below_regrown Wb d os
              refine wp_region_quiet_below hmix (by kernel_rfl) ?_
              repeat (go_big_quiet_step (fail))
              refine wpQuiet_nil ?_
              intro _ hw'
              obtain ⟨⟨dq, osq⟩, hw'⟩ := hw'
              subst hw'
              clear q1 q2
              obtain ⟨Wc, hWn⟩ : ∃ Wc, Wc = grow (redrawn Wb dq) osq := ⟨_, rfl⟩
              have hbn : Below Wb.heap.size Wb Wc := by rw [hWn]; exact HGR.out dq osq
              rw [← hWn]
              clear hWn HGR
              have hkc' := (hbn.cell (World.block_lt_of_cell? Wb _ hkc)).trans hkc
              have hcx' := (hbn.cell (World.block_lt_of_cell? Wb _ hcx)).trans hcx
              have ROW' := Lib.hid (ROW.out.below hbn)
              have hBW' := hBW.trans (hbn.mono hBW.size)
              have hB2' := hB2.trans (hbn.mono hB2.size)
              clear hkc hBW hB2 ROW hbn hcx
              have hkc := hkc'
              have ROW := ROW'
              have hBW := hBW'
              have hB2 := hB2'
              clear hkc' hBW' hB2' ROW'
              have hcx := hcx'
              clear hcx'
              have hyq : y ≠ xk := by rw [keyEq] at hyx2; exact of_decide_eq_false hyx2
              have HINS : Hid (insG ltS xk O = O.take q ++ xk :: O.drop q) := Lib.hid ((HGI.out hyx).2 (HNQ.out hyq))
              clear HN2 HGI HEQ HNQ hyx2 hyx hyq hB2 hcx hd
              have hlc : (q : Int) < (c : Int) := by
                rcases ROW.out.out with ⟨e, _⟩ | ⟨_, _, _, _, h1, _⟩
                · cases e
                · omega
              have hqc : (q : Int) ≤ (c : Int) := by omega
              have hql : (q : Int) ≤ (O.length : Int) := by omega
              have hne : ¬ q = c := by omega
              have hne2 : ¬ c = q := by omega
              have HSC := Lib.hid fun W (hW : Below Wc.heap.size Wc W) => And.intro hW ((hW.cell (World.block_lt_of_cell? Wc _ hkc)).trans hkc)
              have SUB1 : Hid (SubV Wc 1 (.slice (some ⟨gs, 0, none⟩) q c) q ((strsV O).take (q * 1))) := Lib.hid (SubV.upto ROW.out (by simp [strsV, Value.oneCell']) (by omega))
              have SUB2 : Hid (SubV Wc 1 (.slice (some ⟨gs, q * 1, none⟩) (O.length - q) (c - q)) (O.length - q) ((strsV O).drop (q * 1))) := Lib.hid (SubV.behind ROW.out (by simp [strsV, Value.oneCell']) (by omega) _)
              have HW3 : Hid (∀ b3 c3 V3, Row V3 9 1 b3 (q + 1 + (O.length - q)) c3 ([] ++ (strsV O).take (q * 1) ++ [.string xk] ++ (strsV O).drop (q * 1)) → NewB Wc b3 → Below Wc.heap.size Wc V3 → NewRow 9 1 w (strsV (insG ltS xk O)) (insG ltS xk O).length (.slice b3 (q + 1 + (O.length - q)) c3) V3) := Lib.hid fun b3 c3 V3 hr3 hn3 hV3 => by
                have e0 : insG ltS xk O = O.take (q) ++ xk :: O.drop (q) := HINS.out
                have e1 : q + 1 + (O.length - q) = (insG ltS xk O).length := by rw [e0]; simp <;> omega
                rw [e1] at hr3 ⊢
                refine ⟨b3, c3, rfl, ?_, hBW.trans (hV3.mono hBW.size), fun x hx => Nat.le_trans hBW.size (hn3 x hx)⟩
                have e2 : ([] ++ (strsV O).take (q * 1) ++ [.string xk] ++ (strsV O).drop (q * 1)) = strsV (insG ltS xk O) := by rw [e0]; simp [strsV]
                rw [e2] at hr3
                exact hr3
              have HLE := Lib.hid HNX.out
              clear HINS HNX HALL ROW hBW
              go_wp2_with fail
              go_region_held3 (fun W => Below Wc.heap.size Wc W ∧ W.cell? ⟨b5, 0, none⟩ = some (.string xk))
                ((exact HSC.out _ (by (try go_split_ands); repeat (first | assumption | exact Below.refl _ _ | refine bel_one ?_ _ | refine bel_two ?_))))
                (first
                  | (refine step_chain (P := Try.prog) (t := 48) (e := 9) (k := 1) (by' := 16) Try.underlying48 infoStr rfl (Nat.succ_pos 0) (Nat.le_of_ble_eq_true rfl) rfl (.tmp 44) (.tmp 47) rfl (b := some ⟨Wc.heap.size, 0, none⟩) (n := 0) (c := 0) (m := q) (xs := []) (ys := (strsV O).take (q * 1)) (sv := .slice (some ⟨gs, 0, none⟩) q c) ?_ ?_ ?_ ?_ ?_ ?_
                     · simp [Act.eval]
                     · simp [Act.eval]
                     · exact row_empty (by first | exact heap_new _ _ | exact hp_old _ _ _ _ (by simp) (heap_new _ _) | exact heap_alloc_at _ _ _ (by simp))
                     · exact SUB1.out.below (by (try go_split_ands); repeat (first | assumption | exact Below.refl _ _ | refine bel_one ?_ _ | refine bel_two ?_))
                     · omega
                     intro b1 c1 V1 hr1 ht1 hf1
                     have hn1 : NewB Wc b1 := (NewB.lit (wr := Wc) (g := Wc.heap.size) (by omega)).next (_w' := V1) (by (try go_split_ands); repeat (first | assumption | exact Below.refl _ _ | refine bel_one ?_ _ | refine bel_two ?_)) hf1
                     have hV1 : Below Wc.heap.size Wc V1 := (NewB.lit (wr := Wc) (g := Wc.heap.size) (by omega)).bel (by (try go_split_ands); repeat (first | assumption | exact Below.refl _ _ | refine bel_one ?_ _ | refine bel_two ?_)) ht1)
                  | (refine step_chain (P := Try.prog) (t := 48) (e := 9) (k := 1) (by' := 16) Try.underlying48 infoStr rfl (Nat.succ_pos 0) (Nat.le_of_ble_eq_true rfl) rfl (.tmp 44) (.tmp 47) rfl (b := some ⟨Wc.heap.size + 1, 0, none⟩) (n := 0) (c := 0) (m := q) (xs := []) (ys := (strsV O).take (q * 1)) (sv := .slice (some ⟨gs, 0, none⟩) q c) ?_ ?_ ?_ ?_ ?_ ?_
                     · simp [Act.eval]
                     · simp [Act.eval]
                     · exact row_empty (by first | exact heap_new _ _ | exact hp_old _ _ _ _ (by simp) (heap_new _ _) | exact heap_alloc_at _ _ _ (by simp))
                     · exact SUB1.out.below (by (try go_split_ands); repeat (first | assumption | exact Below.refl _ _ | refine bel_one ?_ _ | refine bel_two ?_))
                     · omega
                     intro b1 c1 V1 hr1 ht1 hf1
                     have hn1 : NewB Wc b1 := (NewB.lit (wr := Wc) (g := Wc.heap.size + 1) (by omega)).next (_w' := V1) (by (try go_split_ands); repeat (first | assumption | exact Below.refl _ _ | refine bel_one ?_ _ | refine bel_two ?_)) hf1
                     have hV1 : Below Wc.heap.size Wc V1 := (NewB.lit (wr := Wc) (g := Wc.heap.size + 1) (by omega)).bel (by (try go_split_ands); repeat (first | assumption | exact Below.refl _ _ | refine bel_one ?_ _ | refine bel_two ?_)) ht1)
                  | (refine step_chain (P := Try.prog) (t := 48) (e := 9) (k := 1) (by' := 16) Try.underlying48 infoStr rfl (Nat.succ_pos 0) (Nat.le_of_ble_eq_true rfl) rfl (.tmp 48) (.tmp 51) rfl (b := b1) (n := 0 + q) (c := c1) (m := 1) (xs := [] ++ (strsV O).take (q * 1)) (ys := [.string xk]) (sv := .slice (some ⟨V1.heap.size, 0, none⟩) 1 1) ?_ ?_ ?_ ?_ ?_ ?_
                     · simp [Act.eval]
                     · simp [Act.eval]
                     · exact hr1.below (bel_new _ _)
                     · exact SubV.one (T := 9) (vs := [.string xk]) (by first | exact heap_new _ _ | exact hp_old _ _ _ _ (by simp) (heap_new _ _) | exact heap_alloc_at _ _ _ (by simp)) rfl (by simp [Value.oneCell'])
                     · omega
                     intro b2 c2 V2 hr2 ht2 hf2
                     have hn2 : NewB Wc b2 := hn1.next (_w' := V2) (by (try go_split_ands); repeat (first | assumption | exact Below.refl _ _ | refine bel_one ?_ _ | refine bel_two ?_)) hf2
                     have hV2 : Below Wc.heap.size Wc V2 := hn1.bel (by (try go_split_ands); repeat (first | assumption | exact Below.refl _ _ | refine bel_one ?_ _ | refine bel_two ?_)) ht2)
                  | (refine step_chain (P := Try.prog) (t := 48) (e := 9) (k := 1) (by' := 16) Try.underlying48 infoStr rfl (Nat.succ_pos 0) (Nat.le_of_ble_eq_true rfl) rfl (.tmp 48) (.tmp 51) rfl (b := b1) (n := 0 + q) (c := c1) (m := 1) (xs := [] ++ (strsV O).take (q * 1)) (ys := [.string xk]) (sv := .slice (some ⟨Wc.heap.size + 1, 0, none⟩) 1 1) ?_ ?_ ?_ ?_ ?_ ?_
                     · simp [Act.eval]
                     · simp [Act.eval]
                     · exact hr1
                     · exact SubV.one (T := 9) (vs := [.string xk]) (ht1.heap (by first | exact heap_new _ _ | exact hp_old _ _ _ _ (by simp) (heap_new _ _) | exact heap_alloc_at _ _ _ (by simp)) (by simp [blkOf])) rfl (by simp [Value.oneCell'])
                     · omega
                     intro b2 c2 V2 hr2 ht2 hf2
                     have hn2 : NewB Wc b2 := hn1.next (_w' := V2) (by (try go_split_ands); repeat (first | assumption | exact Below.refl _ _ | refine bel_one ?_ _ | refine bel_two ?_)) hf2
                     have hV2 : Below Wc.heap.size Wc V2 := hn1.bel (by (try go_split_ands); repeat (first | assumption | exact Below.refl _ _ | refine bel_one ?_ _ | refine bel_two ?_)) ht2)
                  | (refine step_chain (P := Try.prog) (t := 48) (e := 9) (k := 1) (by' := 16) Try.underlying48 infoStr rfl (Nat.succ_pos 0) (Nat.le_of_ble_eq_true rfl) rfl (.tmp 48) (.tmp 51) rfl (b := b1) (n := 0 + q) (c := c1) (m := 1) (xs := [] ++ (strsV O).take (q * 1)) (ys := [.string xk]) (sv := .slice (some ⟨Wc.heap.size, 0, none⟩) 1 1) ?_ ?_ ?_ ?_ ?_ ?_
                     · simp [Act.eval]
                     · simp [Act.eval]
                     · exact hr1
                     · exact SubV.one (T := 9) (vs := [.string xk]) (ht1.heap (by first | exact heap_new _ _ | exact hp_old _ _ _ _ (by simp) (heap_new _ _) | exact heap_alloc_at _ _ _ (by simp)) (by simp [blkOf])) rfl (by simp [Value.oneCell'])
                     · omega
                     intro b2 c2 V2 hr2 ht2 hf2
                     have hn2 : NewB Wc b2 := hn1.next (_w' := V2) (by (try go_split_ands); repeat (first | assumption | exact Below.refl _ _ | refine bel_one ?_ _ | refine bel_two ?_)) hf2
                     have hV2 : Below Wc.heap.size Wc V2 := hn1.bel (by (try go_split_ands); repeat (first | assumption | exact Below.refl _ _ | refine bel_one ?_ _ | refine bel_two ?_)) ht2)
                  | (refine step_chain (P := Try.prog) (t := 48) (e := 9) (k := 1) (by' := 16) Try.underlying48 infoStr rfl (Nat.succ_pos 0) (Nat.le_of_ble_eq_true rfl) rfl (.tmp 52) (.tmp 55) rfl (b := b2) (n := 0 + q + 1) (c := c2) (m := (O.length - q)) (xs := [] ++ (strsV O).take (q * 1) ++ [.string xk]) (ys := (strsV O).drop (q * 1)) (sv := .slice (some ⟨gs, q * 1, none⟩) (O.length - q) (c - q)) ?_ ?_ ?_ ?_ ?_ ?_
                     · simp [Act.eval]
                     · simp [Act.eval]
                     · exact hr2
                     · exact SUB2.out.below (by (try go_split_ands); repeat (first | assumption | exact Below.refl _ _ | refine bel_one ?_ _ | refine bel_two ?_))
                     · omega
                     intro b3 c3 V3 hr3 ht3 hf3
                     have hn3 : NewB Wc b3 := hn2.next (_w' := V3) (by (try go_split_ands); repeat (first | assumption | exact Below.refl _ _ | refine bel_one ?_ _ | refine bel_two ?_)) hf3
                     have hV3 : Below Wc.heap.size Wc V3 := hn2.bel (by (try go_split_ands); repeat (first | assumption | exact Below.refl _ _ | refine bel_one ?_ _ | refine bel_two ?_)) ht3))
              all_goals
                have HFF := Lib.hid (HW3.out b3 c3 V3 (by simpa only [Nat.zero_add, Nat.add_zero] using hr3) hn3 hV3)
                clear hr3 hn3 hV3
                go_wp2_with fail
                go_roundw
                case rel => exact ⟨i + 1, by omega, by go_num, Lib.hid (by rw [HLE.out]; exact ⟨_, rfl, HFF.out⟩)⟩
                case measure => simp [intOf]; omega
        · obtain rfl : q = O.length := by omega
          have HINS : Hid (insG ltS xk O = O.take O.length ++ xk :: O.drop O.length) := Lib.hid ((insG_is ltS xk O O.length hq HALL.out (fun h => absurd h (Nat.lt_irrefl _))).2 (fun h => absurd h (Nat.lt_irrefl _)))
          have hd : decide ((O.length : Int) < (O.length : Int)) = false := by simp
          go_upto_region 6 with (fail)
          have q1 := cell_regrown hkc
          have HGR : Hid (∀ d os, Below Wa.heap.size Wa (grow (redrawn Wa d) os)) := Lib.hid fun d os => below_regrown Wa d os
          refine wp_region_quiet_below hmix (by kernel_rfl) ?_
          repeat (go_big_quiet_step (fail))
          refine wpQuiet_nil ?_
          intro _ hw'
          obtain ⟨⟨dq, osq⟩, hw'⟩ := hw'
          subst hw'
          clear q1
          obtain ⟨Wb, hWn⟩ : ∃ Wb, Wb = grow (redrawn Wa dq) osq := ⟨_, rfl⟩
          have hbn : Below Wa.heap.size Wa Wb := by rw [hWn]; exact HGR.out dq osq
          rw [← hWn]
          clear hWn HGR
          have hkc' := (hbn.cell (World.block_lt_of_cell? Wa _ hkc)).trans hkc
          have ROW' := Lib.hid (ROW.out.below hbn)
          have hBW' := hBW.trans (hbn.mono hBW.size)
          have hB2' := hB2.trans (hbn.mono hB2.size)
          clear hkc hBW hB2 ROW hbn
          have hkc := hkc'
          have ROW := ROW'
          have hBW := hBW'
          have hB2 := hB2'
          clear hkc' hBW' hB2' ROW'
          go_upto_region 8 with (fail)
          have q1 := cell_regrown hkc
          have HGR : Hid (∀ d os, Below Wb.heap.size Wb (grow (redrawn Wb d) os)) := Lib.hid fun d os => below_regrown Wb d os
          refine wp_region_quiet_below hmix (by kernel_rfl) ?_
          repeat (go_big_quiet_step (fail))
          refine wpQuiet_nil ?_
          intro _ hw'
          obtain ⟨⟨dq, osq⟩, hw'⟩ := hw'
          subst hw'
          clear q1
          obtain ⟨Wc, hWn⟩ : ∃ Wc, Wc = grow (redrawn Wb dq) osq := ⟨_, rfl⟩
          have hbn : Below Wb.heap.size Wb Wc := by rw [hWn]; exact HGR.out dq osq
          rw [← hWn]
          clear hWn HGR
          have hkc' := (hbn.cell (World.block_lt_of_cell? Wb _ hkc)).trans hkc
          have ROW' := Lib.hid (ROW.out.below hbn)
          have hBW' := hBW.trans (hbn.mono hBW.size)
          have hB2' := hB2.trans (hbn.mono hB2.size)
          clear hkc hBW hB2 ROW hbn
          have hkc := hkc'
          have ROW := ROW'
          have hBW := hBW'
          have hB2 := hB2'
          clear hkc' hBW' hB2' ROW'
          clear hB2
          have hrr := ROW.out.out
          rcases hrr with ⟨rfl, hz, rfl, -⟩ | ⟨gs, cur, rfl, -, hsc, -⟩
          · obtain rfl : O = [] := List.eq_nil_of_length_eq_zero hz
            clear hz
            simp only [List.length_nil] at *
            have HSC := Lib.hid fun W (hW : Below Wc.heap.size Wc W) => And.intro hW ((hW.cell (World.block_lt_of_cell? Wc _ hkc)).trans hkc)
            have SUB1 : Hid (SubV Wc 1 (.slice none 0 0) 0 ([])) := Lib.hid (SubV.nil)
            have SUB2 : Hid (SubV Wc 1 (.slice none 0 0) 0 ([])) := Lib.hid (SubV.nil)
            have HW3 : Hid (∀ b3 c3 V3, Row V3 9 1 b3 (1) c3 ([] ++ [] ++ [.string xk] ++ []) → NewB Wc b3 → Below Wc.heap.size Wc V3 → NewRow 9 1 w (strsV (insG ltS xk ([] : List ByteArray))) (insG ltS xk ([] : List ByteArray)).length (.slice b3 (1) c3) V3) := Lib.hid fun b3 c3 V3 hr3 hn3 hV3 => by
              have e0 : insG ltS xk ([] : List ByteArray) = ([] : List ByteArray).take (0) ++ xk :: ([] : List ByteArray).drop (0) := HINS.out
              have e1 : 1 = (insG ltS xk ([] : List ByteArray)).length := by rw [e0]; simp <;> omega
              rw [e1] at hr3 ⊢
              refine ⟨b3, c3, rfl, ?_, hBW.trans (hV3.mono hBW.size), fun x hx => Nat.le_trans hBW.size (hn3 x hx)⟩
              have e2 : ([] ++ [] ++ [.string xk] ++ []) = strsV (insG ltS xk ([] : List ByteArray)) := by rw [e0]; simp [strsV, List.take_of_length_le]
              rw [e2] at hr3
              exact hr3
            have HLE := Lib.hid HNX.out
            clear HINS HNX HALL ROW hBW
            go_wp2_with fail
            go_region_held3 (fun W => Below Wc.heap.size Wc W ∧ W.cell? ⟨b5, 0, none⟩ = some (.string xk))
              ((exact HSC.out _ (by (try go_split_ands); repeat (first | assumption | exact Below.refl _ _ | refine bel_one ?_ _ | refine bel_two ?_))))
              (first
                | (refine step_chain (P := Try.prog) (t := 48) (e := 9) (k := 1) (by' := 16) Try.underlying48 infoStr rfl (Nat.succ_pos 0) (Nat.le_of_ble_eq_true rfl) rfl (.tmp 44) (.tmp 47) rfl (b := some ⟨Wc.heap.size, 0, none⟩) (n := 0) (c := 0) (m := 0) (xs := []) (ys := []) (sv := .slice none 0 0) ?_ ?_ ?_ ?_ ?_ ?_
                   · simp [Act.eval]
                   · simp [Act.eval]
                   · exact row_empty (by first | exact heap_new _ _ | exact hp_old _ _ _ _ (by simp) (heap_new _ _) | exact heap_alloc_at _ _ _ (by simp))
                   · exact SUB1.out.below (by (try go_split_ands); repeat (first | assumption | exact Below.refl _ _ | refine bel_one ?_ _ | refine bel_two ?_))
                   · omega
                   intro b1 c1 V1 hr1 ht1 hf1
                   have hn1 : NewB Wc b1 := (NewB.lit (wr := Wc) (g := Wc.heap.size) (by omega)).next (_w' := V1) (by (try go_split_ands); repeat (first | assumption | exact Below.refl _ _ | refine bel_one ?_ _ | refine bel_two ?_)) hf1
                   have hV1 : Below Wc.heap.size Wc V1 := (NewB.lit (wr := Wc) (g := Wc.heap.size) (by omega)).bel (by (try go_split_ands); repeat (first | assumption | exact Below.refl _ _ | refine bel_one ?_ _ | refine bel_two ?_)) ht1)
                | (refine step_chain (P := Try.prog) (t := 48) (e := 9) (k := 1) (by' := 16) Try.underlying48 infoStr rfl (Nat.succ_pos 0) (Nat.le_of_ble_eq_true rfl) rfl (.tmp 44) (.tmp 47) rfl (b := some ⟨Wc.heap.size + 1, 0, none⟩) (n := 0) (c := 0) (m := 0) (xs := []) (ys := []) (sv := .slice none 0 0) ?_ ?_ ?_ ?_ ?_ ?_
                   · simp [Act.eval]
                   · simp [Act.eval]
                   · exact row_empty (by first | exact heap_new _ _ | exact hp_old _ _ _ _ (by simp) (heap_new _ _) | exact heap_alloc_at _ _ _ (by simp))
                   · exact SUB1.out.below (by (try go_split_ands); repeat (first | assumption | exact Below.refl _ _ | refine bel_one ?_ _ | refine bel_two ?_))
                   · omega
                   intro b1 c1 V1 hr1 ht1 hf1
                   have hn1 : NewB Wc b1 := (NewB.lit (wr := Wc) (g := Wc.heap.size + 1) (by omega)).next (_w' := V1) (by (try go_split_ands); repeat (first | assumption | exact Below.refl _ _ | refine bel_one ?_ _ | refine bel_two ?_)) hf1
                   have hV1 : Below Wc.heap.size Wc V1 := (NewB.lit (wr := Wc) (g := Wc.heap.size + 1) (by omega)).bel (by (try go_split_ands); repeat (first | assumption | exact Below.refl _ _ | refine bel_one ?_ _ | refine bel_two ?_)) ht1)
                | (refine step_chain (P := Try.prog) (t := 48) (e := 9) (k := 1) (by' := 16) Try.underlying48 infoStr rfl (Nat.succ_pos 0) (Nat.le_of_ble_eq_true rfl) rfl (.tmp 48) (.tmp 51) rfl (b := b1) (n := 0 + 0) (c := c1) (m := 1) (xs := [] ++ []) (ys := [.string xk]) (sv := .slice (some ⟨V1.heap.size, 0, none⟩) 1 1) ?_ ?_ ?_ ?_ ?_ ?_
                   · simp [Act.eval]
                   · simp [Act.eval]
                   · exact hr1.below (bel_new _ _)
                   · exact SubV.one (T := 9) (vs := [.string xk]) (by first | exact heap_new _ _ | exact hp_old _ _ _ _ (by simp) (heap_new _ _) | exact heap_alloc_at _ _ _ (by simp)) rfl (by simp [Value.oneCell'])
                   · omega
                   intro b2 c2 V2 hr2 ht2 hf2
                   have hn2 : NewB Wc b2 := hn1.next (_w' := V2) (by (try go_split_ands); repeat (first | assumption | exact Below.refl _ _ | refine bel_one ?_ _ | refine bel_two ?_)) hf2
                   have hV2 : Below Wc.heap.size Wc V2 := hn1.bel (by (try go_split_ands); repeat (first | assumption | exact Below.refl _ _ | refine bel_one ?_ _ | refine bel_two ?_)) ht2)
                | (refine step_chain (P := Try.prog) (t := 48) (e := 9) (k := 1) (by' := 16) Try.underlying48 infoStr rfl (Nat.succ_pos 0) (Nat.le_of_ble_eq_true rfl) rfl (.tmp 48) (.tmp 51) rfl (b := b1) (n := 0 + 0) (c := c1) (m := 1) (xs := [] ++ []) (ys := [.string xk]) (sv := .slice (some ⟨Wc.heap.size + 1, 0, none⟩) 1 1) ?_ ?_ ?_ ?_ ?_ ?_
                   · simp [Act.eval]
                   · simp [Act.eval]
                   · exact hr1
                   · exact SubV.one (T := 9) (vs := [.string xk]) (ht1.heap (by first | exact heap_new _ _ | exact hp_old _ _ _ _ (by simp) (heap_new _ _) | exact heap_alloc_at _ _ _ (by simp)) (by simp [blkOf])) rfl (by simp [Value.oneCell'])
                   · omega
                   intro b2 c2 V2 hr2 ht2 hf2
                   have hn2 : NewB Wc b2 := hn1.next (_w' := V2) (by (try go_split_ands); repeat (first | assumption | exact Below.refl _ _ | refine bel_one ?_ _ | refine bel_two ?_)) hf2
                   have hV2 : Below Wc.heap.size Wc V2 := hn1.bel (by (try go_split_ands); repeat (first | assumption | exact Below.refl _ _ | refine bel_one ?_ _ | refine bel_two ?_)) ht2)
                | (refine step_chain (P := Try.prog) (t := 48) (e := 9) (k := 1) (by' := 16) Try.underlying48 infoStr rfl (Nat.succ_pos 0) (Nat.le_of_ble_eq_true rfl) rfl (.tmp 48) (.tmp 51) rfl (b := b1) (n := 0 + 0) (c := c1) (m := 1) (xs := [] ++ []) (ys := [.string xk]) (sv := .slice (some ⟨Wc.heap.size, 0, none⟩) 1 1) ?_ ?_ ?_ ?_ ?_ ?_
                   · simp [Act.eval]
                   · simp [Act.eval]
                   · exact hr1
                   · exact SubV.one (T := 9) (vs := [.string xk]) (ht1.heap (by first | exact heap_new _ _ | exact hp_old _ _ _ _ (by simp) (heap_new _ _) | exact heap_alloc_at _ _ _ (by simp)) (by simp [blkOf])) rfl (by simp [Value.oneCell'])
                   · omega
                   intro b2 c2 V2 hr2 ht2 hf2
                   have hn2 : NewB Wc b2 := hn1.next (_w' := V2) (by (try go_split_ands); repeat (first | assumption | exact Below.refl _ _ | refine bel_one ?_ _ | refine bel_two ?_)) hf2
                   have hV2 : Below Wc.heap.size Wc V2 := hn1.bel (by (try go_split_ands); repeat (first | assumption | exact Below.refl _ _ | refine bel_one ?_ _ | refine bel_two ?_)) ht2)
                | (refine step_chain (P := Try.prog) (t := 48) (e := 9) (k := 1) (by' := 16) Try.underlying48 infoStr rfl (Nat.succ_pos 0) (Nat.le_of_ble_eq_true rfl) rfl (.tmp 52) (.tmp 55) rfl (b := b2) (n := 0 + 0 + 1) (c := c2) (m := 0) (xs := [] ++ [] ++ [.string xk]) (ys := []) (sv := .slice none 0 0) ?_ ?_ ?_ ?_ ?_ ?_
                   · simp [Act.eval]
                   · simp [Act.eval]
                   · exact hr2
                   · exact SUB2.out.below (by (try go_split_ands); repeat (first | assumption | exact Below.refl _ _ | refine bel_one ?_ _ | refine bel_two ?_))
                   · omega
                   intro b3 c3 V3 hr3 ht3 hf3
                   have hn3 : NewB Wc b3 := hn2.next (_w' := V3) (by (try go_split_ands); repeat (first | assumption | exact Below.refl _ _ | refine bel_one ?_ _ | refine bel_two ?_)) hf3
                   have hV3 : Below Wc.heap.size Wc V3 := hn2.bel (by (try go_split_ands); repeat (first | assumption | exact Below.refl _ _ | refine bel_one ?_ _ | refine bel_two ?_)) ht3))
            all_goals
              have HFF := Lib.hid (HW3.out b3 c3 V3 (by simpa only [Nat.zero_add, Nat.add_zero] using hr3) hn3 hV3)
              clear hr3 hn3 hV3
              go_wp2_with fail
              go_roundw
              case rel => exact ⟨i + 1, by omega, by go_num, Lib.hid (by rw [HLE.out]; exact ⟨_, rfl, HFF.out⟩)⟩
              case measure => simp [intOf]; omega
          · by_cases hcc : c = O.length
            · subst hcc
              have HSC := Lib.hid fun W (hW : Below Wc.heap.size Wc W) => And.intro hW ((hW.cell (World.block_lt_of_cell? Wc _ hkc)).trans hkc)
              have SUB1 : Hid (SubV Wc 1 (.slice (some ⟨gs, 0, none⟩) O.length O.length) O.length ((strsV O).take (O.length * 1))) := Lib.hid (SubV.upto ROW.out (by simp [strsV, Value.oneCell']) (by omega))
              have SUB2 : Hid (SubV Wc 1 (.slice (some ⟨gs, 0, none⟩) 0 0) 0 ([])) := Lib.hid (SubV.zero)
              have HW3 : Hid (∀ b3 c3 V3, Row V3 9 1 b3 (O.length + 1) c3 ([] ++ (strsV O).take (O.length * 1) ++ [.string xk] ++ []) → NewB Wc b3 → Below Wc.heap.size Wc V3 → NewRow 9 1 w (strsV (insG ltS xk O)) (insG ltS xk O).length (.slice b3 (O.length + 1) c3) V3) := Lib.hid fun b3 c3 V3 hr3 hn3 hV3 => by
                have e0 : insG ltS xk O = O.take (O.length) ++ xk :: O.drop (O.length) := HINS.out
                have e1 : O.length + 1 = (insG ltS xk O).length := by rw [e0]; simp <;> omega
                rw [e1] at hr3 ⊢
                refine ⟨b3, c3, rfl, ?_, hBW.trans (hV3.mono hBW.size), fun x hx => Nat.le_trans hBW.size (hn3 x hx)⟩
                have e2 : ([] ++ (strsV O).take (O.length * 1) ++ [.string xk] ++ []) = strsV (insG ltS xk O) := by rw [e0]; simp [strsV, List.take_of_length_le]
                rw [e2] at hr3
                exact hr3
              have HLE := Lib.hid HNX.out
              clear HINS HNX HALL ROW hBW
              go_wp2_with fail
              go_region_held3 (fun W => Below Wc.heap.size Wc W ∧ W.cell? ⟨b5, 0, none⟩ = some (.string xk))
                ((exact HSC.out _ (by (try go_split_ands); repeat (first | assumption | exact Below.refl _ _ | refine bel_one ?_ _ | refine bel_two ?_))))
                (first
                  | (refine step_chain (P := Try.prog) (t := 48) (e := 9) (k := 1) (by' := 16) Try.underlying48 infoStr rfl (Nat.succ_pos 0) (Nat.le_of_ble_eq_true rfl) rfl (.tmp 44) (.tmp 47) rfl (b := some ⟨Wc.heap.size, 0, none⟩) (n := 0) (c := 0) (m := O.length) (xs := []) (ys := (strsV O).take (O.length * 1)) (sv := .slice (some ⟨gs, 0, none⟩) O.length O.length) ?_ ?_ ?_ ?_ ?_ ?_
                     · simp [Act.eval]
                     · simp [Act.eval]
                     · exact row_empty (by first | exact heap_new _ _ | exact hp_old _ _ _ _ (by simp) (heap_new _ _) | exact heap_alloc_at _ _ _ (by simp))
                     · exact SUB1.out.below (by (try go_split_ands); repeat (first | assumption | exact Below.refl _ _ | refine bel_one ?_ _ | refine bel_two ?_))
                     · omega
                     intro b1 c1 V1 hr1 ht1 hf1
                     have hn1 : NewB Wc b1 := (NewB.lit (wr := Wc) (g := Wc.heap.size) (by omega)).next (_w' := V1) (by (try go_split_ands); repeat (first | assumption | exact Below.refl _ _ | refine bel_one ?_ _ | refine bel_two ?_)) hf1
                     have hV1 : Below Wc.heap.size Wc V1 := (NewB.lit (wr := Wc) (g := Wc.heap.size) (by omega)).bel (by (try go_split_ands); repeat (first | assumption | exact Below.refl _ _ | refine bel_one ?_ _ | refine bel_two ?_)) ht1)
                  | (refine step_chain (P := Try.prog) (t := 48) (e := 9) (k := 1) (by' := 16) Try.underlying48 infoStr rfl (Nat.succ_pos 0) (Nat.le_of_ble_eq_true rfl) rfl (.tmp 44) (.tmp 47) rfl (b := some ⟨Wc.heap.size + 1, 0, none⟩) (n := 0) (c := 0) (m := O.length) (xs := []) (ys := (strsV O).take (O.length * 1)) (sv := .slice (some ⟨gs, 0, none⟩) O.length O.length) ?_ ?_ ?_ ?_ ?_ ?_
                     · simp [Act.eval]
                     · simp [Act.eval]
                     · exact row_empty (by first | exact heap_new _ _ | exact hp_old _ _ _ _ (by simp) (heap_new _ _) | exact heap_alloc_at _ _ _ (by simp))
                     · exact SUB1.out.below (by (try go_split_ands); repeat (first | assumption | exact Below.refl _ _ | refine bel_one ?_ _ | refine bel_two ?_))
                     · omega
                     intro b1 c1 V1 hr1 ht1 hf1
                     have hn1 : NewB Wc b1 := (NewB.lit (wr := Wc) (g := Wc.heap.size + 1) (by omega)).next (_w' := V1) (by (try go_split_ands); repeat (first | assumption | exact Below.refl _ _ | refine bel_one ?_ _ | refine bel_two ?_)) hf1
                     have hV1 : Below Wc.heap.size Wc V1 := (NewB.lit (wr := Wc) (g := Wc.heap.size + 1) (by omega)).bel (by (try go_split_ands); repeat (first | assumption | exact Below.refl _ _ | refine bel_one ?_ _ | refine bel_two ?_)) ht1)
                  | (refine step_chain (P := Try.prog) (t := 48) (e := 9) (k := 1) (by' := 16) Try.underlying48 infoStr rfl (Nat.succ_pos 0) (Nat.le_of_ble_eq_true rfl) rfl (.tmp 48) (.tmp 51) rfl (b := b1) (n := 0 + O.length) (c := c1) (m := 1) (xs := [] ++ (strsV O).take (O.length * 1)) (ys := [.string xk]) (sv := .slice (some ⟨V1.heap.size, 0, none⟩) 1 1) ?_ ?_ ?_ ?_ ?_ ?_
                     · simp [Act.eval]
                     · simp [Act.eval]
                     · exact hr1.below (bel_new _ _)
                     · exact SubV.one (T := 9) (vs := [.string xk]) (by first | exact heap_new _ _ | exact hp_old _ _ _ _ (by simp) (heap_new _ _) | exact heap_alloc_at _ _ _ (by simp)) rfl (by simp [Value.oneCell'])
                     · omega
                     intro b2 c2 V2 hr2 ht2 hf2
                     have hn2 : NewB Wc b2 := hn1.next (_w' := V2) (by (try go_split_ands); repeat (first | assumption | exact Below.refl _ _ | refine bel_one ?_ _ | refine bel_two ?_)) hf2
                     have hV2 : Below Wc.heap.size Wc V2 := hn1.bel (by (try go_split_ands); repeat (first | assumption | exact Below.refl _ _ | refine bel_one ?_ _ | refine bel_two ?_)) ht2)
                  | (refine step_chain (P := Try.prog) (t := 48) (e := 9) (k := 1) (by' := 16) Try.underlying48 infoStr rfl (Nat.succ_pos 0) (Nat.le_of_ble_eq_true rfl) rfl (.tmp 48) (.tmp 51) rfl (b := b1) (n := 0 + O.length) (c := c1) (m := 1) (xs := [] ++ (strsV O).take (O.length * 1)) (ys := [.string xk]) (sv := .slice (some ⟨Wc.heap.size + 1, 0, none⟩) 1 1) ?_ ?_ ?_ ?_ ?_ ?_
                     · simp [Act.eval]
                     · simp [Act.eval]
                     · exact hr1
                     · exact SubV.one (T := 9) (vs := [.string xk]) (ht1.heap (by first | exact heap_new _ _ | exact hp_old _ _ _ _ (by simp) (heap_new _ _) | exact heap_alloc_at _ _ _ (by simp)) (by simp [blkOf])) rfl (by simp [Value.oneCell'])
                     · omega
                     intro b2 c2 V2 hr2 ht2 hf2
                     have hn2 : NewB Wc b2 := hn1.next (_w' := V2) (by (try go_split_ands); repeat (first | assumption | exact Below.refl _ _ | refine bel_one ?_ _ | refine bel_two ?_)) hf2
                     have hV2 : Below Wc.heap.size Wc V2 := hn1.bel (by (try go_split_ands); repeat (first | assumption | exact Below.refl _ _ | refine bel_one ?_ _ | refine bel_two ?_)) ht2)
                  | (refine step_chain (P := Try.prog) (t := 48) (e := 9) (k := 1) (by' := 16) Try.underlying48 infoStr rfl (Nat.succ_pos 0) (Nat.le_of_ble_eq_true rfl) rfl (.tmp 48) (.tmp 51) rfl (b := b1) (n := 0 + O.length) (c := c1) (m := 1) (xs := [] ++ (strsV O).take (O.length * 1)) (ys := [.string xk]) (sv := .slice (some ⟨Wc.heap.size, 0, none⟩) 1 1) ?_ ?_ ?_ ?_ ?_ ?_
                     · simp [Act.eval]
                     · simp [Act.eval]
                     · exact hr1
                     · exact SubV.one (T := 9) (vs := [.string xk]) (ht1.heap (by first | exact heap_new _ _ | exact hp_old _ _ _ _ (by simp) (heap_new _ _) | exact heap_alloc_at _ _ _ (by simp)) (by simp [blkOf])) rfl (by simp [Value.oneCell'])
                     · omega
                     intro b2 c2 V2 hr2 ht2 hf2
                     have hn2 : NewB Wc b2 := hn1.next (_w' := V2) (by (try go_split_ands); repeat (first | assumption | exact Below.refl _ _ | refine bel_one ?_ _ | refine bel_two ?_)) hf2
                     have hV2 : Below Wc.heap.size Wc V2 := hn1.bel (by (try go_split_ands); repeat (first | assumption | exact Below.refl _ _ | refine bel_one ?_ _ | refine bel_two ?_)) ht2)
                  | (refine step_chain (P := Try.prog) (t := 48) (e := 9) (k := 1) (by' := 16) Try.underlying48 infoStr rfl (Nat.succ_pos 0) (Nat.le_of_ble_eq_true rfl) rfl (.tmp 52) (.tmp 55) rfl (b := b2) (n := 0 + O.length + 1) (c := c2) (m := 0) (xs := [] ++ (strsV O).take (O.length * 1) ++ [.string xk]) (ys := []) (sv := .slice (some ⟨gs, 0, none⟩) 0 0) ?_ ?_ ?_ ?_ ?_ ?_
                     · simp [Act.eval]
                     · simp [Act.eval]
                     · exact hr2
                     · exact SUB2.out.below (by (try go_split_ands); repeat (first | assumption | exact Below.refl _ _ | refine bel_one ?_ _ | refine bel_two ?_))
                     · omega
                     intro b3 c3 V3 hr3 ht3 hf3
                     have hn3 : NewB Wc b3 := hn2.next (_w' := V3) (by (try go_split_ands); repeat (first | assumption | exact Below.refl _ _ | refine bel_one ?_ _ | refine bel_two ?_)) hf3
                     have hV3 : Below Wc.heap.size Wc V3 := hn2.bel (by (try go_split_ands); repeat (first | assumption | exact Below.refl _ _ | refine bel_one ?_ _ | refine bel_two ?_)) ht3))
              all_goals
                have HFF := Lib.hid (HW3.out b3 c3 V3 (by simpa only [Nat.zero_add, Nat.add_zero] using hr3) hn3 hV3)
                clear hr3 hn3 hV3
                go_wp2_with fail
                go_roundw
                case rel => exact ⟨i + 1, by omega, by go_num, Lib.hid (by rw [HLE.out]; exact ⟨_, rfl, HFF.out⟩)⟩
                case measure => simp [intOf]; omega
            · have hqc : (O.length : Int) ≤ (c : Int) := by omega
              have hne : ¬ O.length = c := by omega
              have HSC := Lib.hid fun W (hW : Below Wc.heap.size Wc W) => And.intro hW ((hW.cell (World.block_lt_of_cell? Wc _ hkc)).trans hkc)
              have SUB1 : Hid (SubV Wc 1 (.slice (some ⟨gs, 0, none⟩) O.length c) O.length ((strsV O).take (O.length * 1))) := Lib.hid (SubV.upto ROW.out (by simp [strsV, Value.oneCell']) (by omega))
              have SUB2 : Hid (SubV Wc 1 (.slice (some ⟨gs, O.length * 1, none⟩) 0 (c - O.length)) 0 ([])) := Lib.hid (SubV.zero)
              have HW3 : Hid (∀ b3 c3 V3, Row V3 9 1 b3 (O.length + 1) c3 ([] ++ (strsV O).take (O.length * 1) ++ [.string xk] ++ []) → NewB Wc b3 → Below Wc.heap.size Wc V3 → NewRow 9 1 w (strsV (insG ltS xk O)) (insG ltS xk O).length (.slice b3 (O.length + 1) c3) V3) := Lib.hid fun b3 c3 V3 hr3 hn3 hV3 => by
                have e0 : insG ltS xk O = O.take (O.length) ++ xk :: O.drop (O.length) := HINS.out
                have e1 : O.length + 1 = (insG ltS xk O).length := by rw [e0]; simp <;> omega
                rw [e1] at hr3 ⊢
                refine ⟨b3, c3, rfl, ?_, hBW.trans (hV3.mono hBW.size), fun x hx => Nat.le_trans hBW.size (hn3 x hx)⟩
                have e2 : ([] ++ (strsV O).take (O.length * 1) ++ [.string xk] ++ []) = strsV (insG ltS xk O) := by rw [e0]; simp [strsV, List.take_of_length_le]
                rw [e2] at hr3
                exact hr3
              have HLE := Lib.hid HNX.out
              clear HINS HNX HALL ROW hBW
              go_wp2_with fail
              go_region_held3 (fun W => Below Wc.heap.size Wc W ∧ W.cell? ⟨b5, 0, none⟩ = some (.string xk))
                ((exact HSC.out _ (by (try go_split_ands); repeat (first | assumption | exact Below.refl _ _ | refine bel_one ?_ _ | refine bel_two ?_))))
                (first
                  | (refine step_chain (P := Try.prog) (t := 48) (e := 9) (k := 1) (by' := 16) Try.underlying48 infoStr rfl (Nat.succ_pos 0) (Nat.le_of_ble_eq_true rfl) rfl (.tmp 44) (.tmp 47) rfl (b := some ⟨Wc.heap.size, 0, none⟩) (n := 0) (c := 0) (m := O.length) (xs := []) (ys := (strsV O).take (O.length * 1)) (sv := .slice (some ⟨gs, 0, none⟩) O.length c) ?_ ?_ ?_ ?_ ?_ ?_
                     · simp [Act.eval]
                     · simp [Act.eval]
                     · exact row_empty (by first | exact heap_new _ _ | exact hp_old _ _ _ _ (by simp) (heap_new _ _) | exact heap_alloc_at _ _ _ (by simp))
                     · exact SUB1.out.below (by (try go_split_ands); repeat (first | assumption | exact Below.refl _ _ | refine bel_one ?_ _ | refine bel_two ?_))
                     · omega
                     intro b1 c1 V1 hr1 ht1 hf1
                     have hn1 : NewB Wc b1 := (NewB.lit (wr := Wc) (g := Wc.heap.size) (by omega)).next (_w' := V1) (by (try go_split_ands); repeat (first | assumption | exact Below.refl _ _ | refine bel_one ?_ _ | refine bel_two ?_)) hf1
                     have hV1 : Below Wc.heap.size Wc V1 := (NewB.lit (wr := Wc) (g := Wc.heap.size) (by omega)).bel (by (try go_split_ands); repeat (first | assumption | exact Below.refl _ _ | refine bel_one ?_ _ | refine bel_two ?_)) ht1)
                  | (refine step_chain (P := Try.prog) (t := 48) (e := 9) (k := 1) (by' := 16) Try.underlying48 infoStr rfl (Nat.succ_pos 0) (Nat.le_of_ble_eq_true rfl) rfl (.tmp 44) (.tmp 47) rfl (b := some ⟨Wc.heap.size + 1, 0, none⟩) (n := 0) (c := 0) (m := O.length) (xs := []) (ys := (strsV O).take (O.length * 1)) (sv := .slice (some ⟨gs, 0, none⟩) O.length c) ?_ ?_ ?_ ?_ ?_ ?_
                     · simp [Act.eval]
                     · simp [Act.eval]
                     · exact row_empty (by first | exact heap_new _ _ | exact hp_old _ _ _ _ (by simp) (heap_new _ _) | exact heap_alloc_at _ _ _ (by simp))
                     · exact SUB1.out.below (by (try go_split_ands); repeat (first | assumption | exact Below.refl _ _ | refine bel_one ?_ _ | refine bel_two ?_))
                     · omega
                     intro b1 c1 V1 hr1 ht1 hf1
                     have hn1 : NewB Wc b1 := (NewB.lit (wr := Wc) (g := Wc.heap.size + 1) (by omega)).next (_w' := V1) (by (try go_split_ands); repeat (first | assumption | exact Below.refl _ _ | refine bel_one ?_ _ | refine bel_two ?_)) hf1
                     have hV1 : Below Wc.heap.size Wc V1 := (NewB.lit (wr := Wc) (g := Wc.heap.size + 1) (by omega)).bel (by (try go_split_ands); repeat (first | assumption | exact Below.refl _ _ | refine bel_one ?_ _ | refine bel_two ?_)) ht1)
                  | (refine step_chain (P := Try.prog) (t := 48) (e := 9) (k := 1) (by' := 16) Try.underlying48 infoStr rfl (Nat.succ_pos 0) (Nat.le_of_ble_eq_true rfl) rfl (.tmp 48) (.tmp 51) rfl (b := b1) (n := 0 + O.length) (c := c1) (m := 1) (xs := [] ++ (strsV O).take (O.length * 1)) (ys := [.string xk]) (sv := .slice (some ⟨V1.heap.size, 0, none⟩) 1 1) ?_ ?_ ?_ ?_ ?_ ?_
                     · simp [Act.eval]
                     · simp [Act.eval]
                     · exact hr1.below (bel_new _ _)
                     · exact SubV.one (T := 9) (vs := [.string xk]) (by first | exact heap_new _ _ | exact hp_old _ _ _ _ (by simp) (heap_new _ _) | exact heap_alloc_at _ _ _ (by simp)) rfl (by simp [Value.oneCell'])
                     · omega
                     intro b2 c2 V2 hr2 ht2 hf2
                     have hn2 : NewB Wc b2 := hn1.next (_w' := V2) (by (try go_split_ands); repeat (first | assumption | exact Below.refl _ _ | refine bel_one ?_ _ | refine bel_two ?_)) hf2
                     have hV2 : Below Wc.heap.size Wc V2 := hn1.bel (by (try go_split_ands); repeat (first | assumption | exact Below.refl _ _ | refine bel_one ?_ _ | refine bel_two ?_)) ht2)
                  | (refine step_chain (P := Try.prog) (t := 48) (e := 9) (k := 1) (by' := 16) Try.underlying48 infoStr rfl (Nat.succ_pos 0) (Nat.le_of_ble_eq_true rfl) rfl (.tmp 48) (.tmp 51) rfl (b := b1) (n := 0 + O.length) (c := c1) (m := 1) (xs := [] ++ (strsV O).take (O.length * 1)) (ys := [.string xk]) (sv := .slice (some ⟨Wc.heap.size + 1, 0, none⟩) 1 1) ?_ ?_ ?_ ?_ ?_ ?_
                     · simp [Act.eval]
                     · simp [Act.eval]
                     · exact hr1
                     · exact SubV.one (T := 9) (vs := [.string xk]) (ht1.heap (by first | exact heap_new _ _ | exact hp_old _ _ _ _ (by simp) (heap_new _ _) | exact heap_alloc_at _ _ _ (by simp)) (by simp [blkOf])) rfl (by simp [Value.oneCell'])
                     · omega
                     intro b2 c2 V2 hr2 ht2 hf2
                     have hn2 : NewB Wc b2 := hn1.next (_w' := V2) (by (try go_split_ands); repeat (first | assumption | exact Below.refl _ _ | refine bel_one ?_ _ | refine bel_two ?_)) hf2
                     have hV2 : Below Wc.heap.size Wc V2 := hn1.bel (by (try go_split_ands); repeat (first | assumption | exact Below.refl _ _ | refine bel_one ?_ _ | refine bel_two ?_)) ht2)
                  | (refine step_chain (P := Try.prog) (t := 48) (e := 9) (k := 1) (by' := 16) Try.underlying48 infoStr rfl (Nat.succ_pos 0) (Nat.le_of_ble_eq_true rfl) rfl (.tmp 48) (.tmp 51) rfl (b := b1) (n := 0 + O.length) (c := c1) (m := 1) (xs := [] ++ (strsV O).take (O.length * 1)) (ys := [.string xk]) (sv := .slice (some ⟨Wc.heap.size, 0, none⟩) 1 1) ?_ ?_ ?_ ?_ ?_ ?_
                     · simp [Act.eval]
                     · simp [Act.eval]
                     · exact hr1
                     · exact SubV.one (T := 9) (vs := [.string xk]) (ht1.heap (by first | exact heap_new _ _ | exact hp_old _ _ _ _ (by simp) (heap_new _ _) | exact heap_alloc_at _ _ _ (by simp)) (by simp [blkOf])) rfl (by simp [Value.oneCell'])
                     · omega
                     intro b2 c2 V2 hr2 ht2 hf2
                     have hn2 : NewB Wc b2 := hn1.next (_w' := V2) (by (try go_split_ands); repeat (first | assumption | exact Below.refl _ _ | refine bel_one ?_ _ | refine bel_two ?_)) hf2
                     have hV2 : Below Wc.heap.size Wc V2 := hn1.bel (by (try go_split_ands); repeat (first | assumption | exact Below.refl _ _ | refine bel_one ?_ _ | refine bel_two ?_)) ht2)
                  | (refine step_chain (P := Try.prog) (t := 48) (e := 9) (k := 1) (by' := 16) Try.underlying48 infoStr rfl (Nat.succ_pos 0) (Nat.le_of_ble_eq_true rfl) rfl (.tmp 52) (.tmp 55) rfl (b := b2) (n := 0 + O.length + 1) (c := c2) (m := 0) (xs := [] ++ (strsV O).take (O.length * 1) ++ [.string xk]) (ys := []) (sv := .slice (some ⟨gs, O.length * 1, none⟩) 0 (c - O.length)) ?_ ?_ ?_ ?_ ?_ ?_
                     · simp [Act.eval]
                     · simp [Act.eval]
                     · exact hr2
                     · exact SUB2.out.below (by (try go_split_ands); repeat (first | assumption | exact Below.refl _ _ | refine bel_one ?_ _ | refine bel_two ?_))
                     · omega
                     intro b3 c3 V3 hr3 ht3 hf3
                     have hn3 : NewB Wc b3 := hn2.next (_w' := V3) (by (try go_split_ands); repeat (first | assumption | exact Below.refl _ _ | refine bel_one ?_ _ | refine bel_two ?_)) hf3
                     have hV3 : Below Wc.heap.size Wc V3 := hn2.bel (by (try go_split_ands); repeat (first | assumption | exact Below.refl _ _ | refine bel_one ?_ _ | refine bel_two ?_)) ht3))
              all_goals
                have HFF := Lib.hid (HW3.out b3 c3 V3 (by simpa only [Nat.zero_add, Nat.add_zero] using hr3) hn3 hV3)
                clear hr3 hn3 hV3
                go_wp2_with fail
                go_roundw
                case rel => exact ⟨i + 1, by omega, by go_num, Lib.hid (by rw [HLE.out]; exact ⟨_, rfl, HFF.out⟩)⟩
                case measure => simp [intOf]; omega
    · obtain rfl : i = l.length := by omega
      rw [List.take_length] at *
      have HF : Hid (Mem w [] W1 [RowS aO c (risS (l.map (·.key)))]) := Lib.hid (by
        have h0 := (Mem.nil w).new hb (As := [RowA 9 1 aO (risS (l.map fun x : Wn => x.key)).length c (strsV (risS (l.map fun x : Wn => x.key)))]) (all_one ⟨rfl, hrow⟩) hf
        exact h0)
      clear hrow hb hf
      go_wp2_with fail
      go_ret
      exact ⟨aO, c, rfl, HF.out⟩
end Go.Proofs.Ytnemgmlhcjhdhaa
