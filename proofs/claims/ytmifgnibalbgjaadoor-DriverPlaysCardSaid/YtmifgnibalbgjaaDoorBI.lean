/- The document's driver is told an answer. -/
import Derived.Test.YtmifgnibalbgjaaDoorBH
namespace Go.Proofs.YtmifgnibalbgjaaDoor
open Go.RowKit
section
variable {w0 w : World} {g : Nat} {r : Rd} {q : List Asn} [Stables q] {sa pa : Option Addr} {sn sc pn pc : Nat} {ss : List ByteArray} {l : List Opp}
theorem Mem.rdFz {w0 w : World} {D0 : List Nat} {g : Nat} {S P : Value} {r : Rd} {q : List Asn} (M : Mem w0 D0 w (RefA g S P r :: q)) : w.frozen? ⟨g, 6, none⟩ = false ∧ w.frozen? ⟨g, 7, none⟩ = false ∧ w.frozen? ⟨g, 12, none⟩ = false := by
  obtain ⟨ra, rc, hg⟩ := Mem.refAt M
  exact ⟨(rdC_cell hg 6 _ rfl).2, (rdC_cell hg 7 _ rfl).2, (rdC_cell hg 12 _ rfl).2⟩
set_option maxRecDepth 100000 in
set_option maxHeartbeats 16000000 in
theorem rtell1 (p : Rep) (M : Mem w0 [] w (RefA g (.slice sa sn sc) (.slice pa pn pc) r :: q)) (hs : StrsAt w0 sa sn ss) (hl : OpsAt w0 pa pn l) (h7 : sn ≤ 7) (hn : pn ≤ 1000) (ha : -1 ≤ r.attempt ∧ r.attempt ≤ 1048576) (hk : r.asks = 1) :
    Calls Tryd.prog 16 #[.pointer (some ⟨g, 0, none⟩), Rep.val p] w fun e w' => e = .returned (.tuple #[]) ∧ Mem w0 [] w' (RefA g (.slice sa sn sc) (.slice pa pn pc) (tellR ss l r p) :: q) := by
  obtain ⟨pcode, pt, pv, ph⟩ := p
  unfold Rep.val
  simp only
  obtain ⟨R, hR⟩ : ∃ R, R = tellR ss l r ⟨pcode, pt, pv, ph⟩ := ⟨_, rfl⟩
  rw [← hR]
  obtain ⟨W1, hW1⟩ : ∃ W1, W1 = w.alloc (.cells #[.int .i64 pcode, .int .i64 pt, .string pv, .bool ph] 36) := ⟨_, rfl⟩
  have M1 : Mem w0 [] W1 (RefA g (.slice sa sn sc) (.slice pa pn pc) r :: q) := by rw [hW1]; exact M.below (bel_new _ _)
  obtain ⟨t0, t1, t3, t4, t5, t6, t7, t8, t9, t11, t12, tg⟩ := Mem.rdAt M1
  obtain ⟨f6, f7, f12⟩ := Mem.rdFz M1
  have hh : W1.heap[w.heap.size]? = some (.cells #[.int .i64 pcode, .int .i64 pt, .string pv, .bool ph] 36 (0, 0)) := by rw [hW1]; exact heap_new _ _
  have x0 := (cell_of_heap (i := 0) (v := .int .i64 pcode) hh rfl).1
  have x1 := (cell_of_heap (i := 1) (v := .int .i64 pt) hh rfl).1
  rw [hk] at t6
  have HM := Lib.hid M1
  by_cases k9 : pcode = 9
  · subst k9
    have HE : Hid (R = endR ss l r 3) := Lib.hid (by rw [hR]; simp [tellR, hk])
    clear hR
    clear hh t0 t1 t3 t4 t5 t8 t9 t11 tg M
    go_enter Tryd.func16, Tryd.ntmps16
    go_upto_region 1 with (fail)
    rw [← hW1]
    clear hW1
    have H1 := Lib.hid (rend_any 3 M1 hs hl h7 hn ha)
    clear M1 hs hl HM
    go_wp2_with fail
    refine H1.out.mono ?_
    rintro e w1 ⟨rfl, hm⟩
    have HF := Lib.hid hm
    clear hm H1
    go_wp2_with fail
    first
      | (refine bodyPost_ret (v := .tuple #[]) (by simp [results, Tryd.results16, go_sem]) rfl ⟨rfl, ?_⟩)
      | (go_end0; refine ⟨rfl, ?_⟩)
    rw [HE.out]
    exact HF.out
  have b9 : (pcode == 9) = false := by simpa using k9
  by_cases k0 : pcode = 0
  · subst k0
    by_cases s1 : pt = 1
    · subst s1
      have HE : Hid (R = opR l { r with i := -1 } 0) := Lib.hid (by rw [hR]; simp [tellR, hk])
      clear hR
      clear hh t0 t1 t3 t4 t5 t8 t9 t11 tg M
      go_enter Tryd.func16, Tryd.ntmps16
      go_upto_region 1 with (fail)
      rw [← hW1]
      clear hW1
      have H1 := Lib.hid (rop_any 0 (Mem.rI M1 (-1)) hl (by decide) (by omega))
      rw [show ((0 : Nat) : Int) = 0 from rfl] at H1
      clear M1 hs hl HM
      go_wp2_with fail
      refine H1.out.mono ?_
      rintro e w1 ⟨rfl, hm⟩
      have HF := Lib.hid hm
      clear hm H1
      go_wp2_with fail
      first
        | (refine bodyPost_ret (v := .tuple #[]) (by simp [results, Tryd.results16, go_sem]) rfl ⟨rfl, ?_⟩)
        | (go_end0; refine ⟨rfl, ?_⟩)
      rw [HE.out]
      exact HF.out
    have c1 : (pt == 1) = false := by simpa using s1
    have HE : Hid (R = r) := Lib.hid (by rw [hR]; simp [tellR, hk, s1])
    clear hR
    clear hh t0 t1 t3 t4 t5 t8 t9 t11 tg M
    go_enter Tryd.func16, Tryd.ntmps16
    go_upto_region 1 with (fail)
    rw [← hW1]
    clear hW1
    clear M1 hs hl
    go_wp2_with fail
    first
      | (refine bodyPost_ret (v := .tuple #[]) (by simp [results, Tryd.results16, go_sem]) rfl ⟨rfl, ?_⟩)
      | (go_end0; refine ⟨rfl, ?_⟩)
    rw [HE.out]
    exact HM.out
  have b0 : (pcode == 0) = false := by simpa using k0
  have HE : Hid (R = r) := Lib.hid (by rw [hR]; simp [tellR, hk, k0, k9])
  clear hR
  clear hh t0 t1 t3 t4 t5 t8 t9 t11 tg M
  go_enter Tryd.func16, Tryd.ntmps16
  go_upto_region 1 with (fail)
  rw [← hW1]
  clear hW1
  clear M1 hs hl
  go_wp2_with fail
  first
    | (refine bodyPost_ret (v := .tuple #[]) (by simp [results, Tryd.results16, go_sem]) rfl ⟨rfl, ?_⟩)
    | (go_end0; refine ⟨rfl, ?_⟩)
  rw [HE.out]
  exact HM.out
set_option maxRecDepth 100000 in
set_option maxHeartbeats 16000000 in
theorem rtell2 (p : Rep) (M : Mem w0 [] w (RefA g (.slice sa sn sc) (.slice pa pn pc) r :: q)) (hs : StrsAt w0 sa sn ss) (hl : OpsAt w0 pa pn l) (h7 : sn ≤ 7) (hn : pn ≤ 1000) (ha : -1 ≤ r.attempt ∧ r.attempt ≤ 1048576) (hk : r.asks = 2) :
    Calls Tryd.prog 16 #[.pointer (some ⟨g, 0, none⟩), Rep.val p] w fun e w' => e = .returned (.tuple #[]) ∧ Mem w0 [] w' (RefA g (.slice sa sn sc) (.slice pa pn pc) (tellR ss l r p) :: q) := by
  obtain ⟨pcode, pt, pv, ph⟩ := p
  unfold Rep.val
  simp only
  obtain ⟨R, hR⟩ : ∃ R, R = tellR ss l r ⟨pcode, pt, pv, ph⟩ := ⟨_, rfl⟩
  rw [← hR]
  obtain ⟨W1, hW1⟩ : ∃ W1, W1 = w.alloc (.cells #[.int .i64 pcode, .int .i64 pt, .string pv, .bool ph] 36) := ⟨_, rfl⟩
  have M1 : Mem w0 [] W1 (RefA g (.slice sa sn sc) (.slice pa pn pc) r :: q) := by rw [hW1]; exact M.below (bel_new _ _)
  obtain ⟨t0, t1, t3, t4, t5, t6, t7, t8, t9, t11, t12, tg⟩ := Mem.rdAt M1
  obtain ⟨f6, f7, f12⟩ := Mem.rdFz M1
  have hh : W1.heap[w.heap.size]? = some (.cells #[.int .i64 pcode, .int .i64 pt, .string pv, .bool ph] 36 (0, 0)) := by rw [hW1]; exact heap_new _ _
  have x0 := (cell_of_heap (i := 0) (v := .int .i64 pcode) hh rfl).1
  have x1 := (cell_of_heap (i := 1) (v := .int .i64 pt) hh rfl).1
  rw [hk] at t6
  have HM := Lib.hid M1
  by_cases k9 : pcode = 9
  · subst k9
    have HE : Hid (R = { r with asks := 6 }) := Lib.hid (by rw [hR]; simp [tellR, hk])
    clear hR
    clear hh t0 t1 t3 t4 t5 t8 t9 t11 tg M
    go_enter Tryd.func16, Tryd.ntmps16
    go_upto_region 1 with (fail)
    rw [← hW1]
    clear hW1
    clear M1 hs hl
    go_wp2_with fail
    first
      | (refine bodyPost_ret (v := .tuple #[]) (by simp [results, Tryd.results16, go_sem]) rfl ⟨rfl, ?_⟩)
      | (go_end0; refine ⟨rfl, ?_⟩)
    rw [HE.out]
    exact Mem.rAsk HM.out 6
  have b9 : (pcode == 9) = false := by simpa using k9
  by_cases k8 : pcode = 8
  · subst k8
    have HE : Hid (R = { r with asks := 6 }) := Lib.hid (by rw [hR]; simp [tellR, hk])
    clear hR
    clear hh t0 t1 t3 t4 t5 t8 t9 t11 tg M
    go_enter Tryd.func16, Tryd.ntmps16
    go_upto_region 1 with (fail)
    rw [← hW1]
    clear hW1
    clear M1 hs hl
    go_wp2_with fail
    first
      | (refine bodyPost_ret (v := .tuple #[]) (by simp [results, Tryd.results16, go_sem]) rfl ⟨rfl, ?_⟩)
      | (go_end0; refine ⟨rfl, ?_⟩)
    rw [HE.out]
    exact Mem.rAsk HM.out 6
  have b8 : (pcode == 8) = false := by simpa using k8
  by_cases k10 : pcode = 10
  · subst k10
    have HE : Hid (R = { r with asks := 8 }) := Lib.hid (by rw [hR]; simp [tellR, hk])
    clear hR
    clear hh t0 t1 t3 t4 t5 t8 t9 t11 tg M
    go_enter Tryd.func16, Tryd.ntmps16
    go_upto_region 1 with (fail)
    rw [← hW1]
    clear hW1
    clear M1 hs hl
    go_wp2_with fail
    first
      | (refine bodyPost_ret (v := .tuple #[]) (by simp [results, Tryd.results16, go_sem]) rfl ⟨rfl, ?_⟩)
      | (go_end0; refine ⟨rfl, ?_⟩)
    rw [HE.out]
    exact Mem.rAsk HM.out 8
  have b10 : (pcode == 10) = false := by simpa using k10
  by_cases k0 : pcode = 0
  · subst k0
    have HE : Hid (R = { r with asks := 3 }) := Lib.hid (by rw [hR]; simp [tellR, hk])
    clear hR
    clear hh t0 t1 t3 t4 t5 t8 t9 t11 tg M
    go_enter Tryd.func16, Tryd.ntmps16
    go_upto_region 1 with (fail)
    rw [← hW1]
    clear hW1
    clear M1 hs hl
    go_wp2_with fail
    first
      | (refine bodyPost_ret (v := .tuple #[]) (by simp [results, Tryd.results16, go_sem]) rfl ⟨rfl, ?_⟩)
      | (go_end0; refine ⟨rfl, ?_⟩)
    rw [HE.out]
    exact Mem.rAsk HM.out 3
  have b0 : (pcode == 0) = false := by simpa using k0
  have HE : Hid (R = r) := Lib.hid (by rw [hR]; simp [tellR, hk, k9, k8, k10, k0])
  clear hR
  clear hh t0 t1 t3 t4 t5 t8 t9 t11 tg M
  go_enter Tryd.func16, Tryd.ntmps16
  go_upto_region 1 with (fail)
  rw [← hW1]
  clear hW1
  clear M1 hs hl
  go_wp2_with fail
  first
    | (refine bodyPost_ret (v := .tuple #[]) (by simp [results, Tryd.results16, go_sem]) rfl ⟨rfl, ?_⟩)
    | (go_end0; refine ⟨rfl, ?_⟩)
  rw [HE.out]
  exact HM.out
set_option maxRecDepth 100000 in
set_option maxHeartbeats 16000000 in
theorem rtell8 (p : Rep) (M : Mem w0 [] w (RefA g (.slice sa sn sc) (.slice pa pn pc) r :: q)) (hs : StrsAt w0 sa sn ss) (hl : OpsAt w0 pa pn l) (h7 : sn ≤ 7) (hn : pn ≤ 1000) (ha : -1 ≤ r.attempt ∧ r.attempt ≤ 1048576) (hk : r.asks = 8) :
    Calls Tryd.prog 16 #[.pointer (some ⟨g, 0, none⟩), Rep.val p] w fun e w' => e = .returned (.tuple #[]) ∧ Mem w0 [] w' (RefA g (.slice sa sn sc) (.slice pa pn pc) (tellR ss l r p) :: q) := by
  obtain ⟨pcode, pt, pv, ph⟩ := p
  unfold Rep.val
  simp only
  obtain ⟨R, hR⟩ : ∃ R, R = tellR ss l r ⟨pcode, pt, pv, ph⟩ := ⟨_, rfl⟩
  rw [← hR]
  obtain ⟨W1, hW1⟩ : ∃ W1, W1 = w.alloc (.cells #[.int .i64 pcode, .int .i64 pt, .string pv, .bool ph] 36) := ⟨_, rfl⟩
  have M1 : Mem w0 [] W1 (RefA g (.slice sa sn sc) (.slice pa pn pc) r :: q) := by rw [hW1]; exact M.below (bel_new _ _)
  obtain ⟨t0, t1, t3, t4, t5, t6, t7, t8, t9, t11, t12, tg⟩ := Mem.rdAt M1
  obtain ⟨f6, f7, f12⟩ := Mem.rdFz M1
  have hh : W1.heap[w.heap.size]? = some (.cells #[.int .i64 pcode, .int .i64 pt, .string pv, .bool ph] 36 (0, 0)) := by rw [hW1]; exact heap_new _ _
  have x0 := (cell_of_heap (i := 0) (v := .int .i64 pcode) hh rfl).1
  have x1 := (cell_of_heap (i := 1) (v := .int .i64 pt) hh rfl).1
  rw [hk] at t6
  have HM := Lib.hid M1
  by_cases k0 : pcode = 0
  · subst k0
    by_cases s3 : pt = 3
    · subst s3
      have HE : Hid (R = endR ss l r 3) := Lib.hid (by rw [hR]; simp [tellR, hk])
      clear hR
      clear hh t0 t1 t3 t4 t5 t8 t9 t11 tg M
      go_enter Tryd.func16, Tryd.ntmps16
      go_upto_region 1 with (fail)
      rw [← hW1]
      clear hW1
      have H1 := Lib.hid (rend_any 3 M1 hs hl h7 hn ha)
      clear M1 hs hl HM
      go_wp2_with fail
      refine H1.out.mono ?_
      rintro e w1 ⟨rfl, hm⟩
      have HF := Lib.hid hm
      clear hm H1
      go_wp2_with fail
      first
        | (refine bodyPost_ret (v := .tuple #[]) (by simp [results, Tryd.results16, go_sem]) rfl ⟨rfl, ?_⟩)
        | (go_end0; refine ⟨rfl, ?_⟩)
      rw [HE.out]
      exact HF.out
    have c3 : (pt == 3) = false := by simpa using s3
    have HE : Hid (R = { r with asks := 2 }) := Lib.hid (by rw [hR]; simp [tellR, hk, s3])
    clear hR
    clear hh t0 t1 t3 t4 t5 t8 t9 t11 tg M
    go_enter Tryd.func16, Tryd.ntmps16
    go_upto_region 1 with (fail)
    rw [← hW1]
    clear hW1
    clear M1 hs hl
    go_wp2_with fail
    first
      | (refine bodyPost_ret (v := .tuple #[]) (by simp [results, Tryd.results16, go_sem]) rfl ⟨rfl, ?_⟩)
      | (go_end0; refine ⟨rfl, ?_⟩)
    rw [HE.out]
    exact Mem.rAsk HM.out 2
  have b0 : (pcode == 0) = false := by simpa using k0
  have HE : Hid (R = { r with asks := 2 }) := Lib.hid (by rw [hR]; simp [tellR, hk, k0])
  clear hR
  clear hh t0 t1 t3 t4 t5 t8 t9 t11 tg M
  go_enter Tryd.func16, Tryd.ntmps16
  go_upto_region 1 with (fail)
  rw [← hW1]
  clear hW1
  clear M1 hs hl
  go_wp2_with fail
  first
    | (refine bodyPost_ret (v := .tuple #[]) (by simp [results, Tryd.results16, go_sem]) rfl ⟨rfl, ?_⟩)
    | (go_end0; refine ⟨rfl, ?_⟩)
  rw [HE.out]
  exact Mem.rAsk HM.out 2
set_option maxRecDepth 100000 in
set_option maxHeartbeats 16000000 in
theorem rtell3 (p : Rep) (M : Mem w0 [] w (RefA g (.slice sa sn sc) (.slice pa pn pc) r :: q)) (hs : StrsAt w0 sa sn ss) (hl : OpsAt w0 pa pn l) (h7 : sn ≤ 7) (hn : pn ≤ 1000) (ha : -1 ≤ r.attempt ∧ r.attempt ≤ 1048576) (hk : r.asks = 3) (h0 : p.code ≠ 0) :
    Calls Tryd.prog 16 #[.pointer (some ⟨g, 0, none⟩), Rep.val p] w fun e w' => e = .returned (.tuple #[]) ∧ Mem w0 [] w' (RefA g (.slice sa sn sc) (.slice pa pn pc) (tellR ss l r p) :: q) := by
  obtain ⟨pcode, pt, pv, ph⟩ := p
  unfold Rep.val
  simp only
  obtain ⟨R, hR⟩ : ∃ R, R = tellR ss l r ⟨pcode, pt, pv, ph⟩ := ⟨_, rfl⟩
  rw [← hR]
  obtain ⟨W1, hW1⟩ : ∃ W1, W1 = w.alloc (.cells #[.int .i64 pcode, .int .i64 pt, .string pv, .bool ph] 36) := ⟨_, rfl⟩
  have M1 : Mem w0 [] W1 (RefA g (.slice sa sn sc) (.slice pa pn pc) r :: q) := by rw [hW1]; exact M.below (bel_new _ _)
  obtain ⟨t0, t1, t3, t4, t5, t6, t7, t8, t9, t11, t12, tg⟩ := Mem.rdAt M1
  obtain ⟨f6, f7, f12⟩ := Mem.rdFz M1
  have hh : W1.heap[w.heap.size]? = some (.cells #[.int .i64 pcode, .int .i64 pt, .string pv, .bool ph] 36 (0, 0)) := by rw [hW1]; exact heap_new _ _
  have x0 := (cell_of_heap (i := 0) (v := .int .i64 pcode) hh rfl).1
  have x1 := (cell_of_heap (i := 1) (v := .int .i64 pt) hh rfl).1
  rw [hk] at t6
  have HM := Lib.hid M1
  simp only at h0
  by_cases k9 : pcode = 9
  · subst k9
    have HE : Hid (R = { r with asks := 6 }) := Lib.hid (by rw [hR]; simp [tellR, hk])
    clear hR
    clear hh t0 t1 t3 t4 t5 t8 t9 t11 tg M
    go_enter Tryd.func16, Tryd.ntmps16
    go_upto_region 1 with (fail)
    rw [← hW1]
    clear hW1
    clear M1 hs hl
    go_wp2_with fail
    first
      | (refine bodyPost_ret (v := .tuple #[]) (by simp [results, Tryd.results16, go_sem]) rfl ⟨rfl, ?_⟩)
      | (go_end0; refine ⟨rfl, ?_⟩)
    rw [HE.out]
    exact Mem.rAsk HM.out 6
  have b9 : (pcode == 9) = false := by simpa using k9
  by_cases k8 : pcode = 8
  · subst k8
    have HE : Hid (R = { r with asks := 6 }) := Lib.hid (by rw [hR]; simp [tellR, hk])
    clear hR
    clear hh t0 t1 t3 t4 t5 t8 t9 t11 tg M
    go_enter Tryd.func16, Tryd.ntmps16
    go_upto_region 1 with (fail)
    rw [← hW1]
    clear hW1
    clear M1 hs hl
    go_wp2_with fail
    first
      | (refine bodyPost_ret (v := .tuple #[]) (by simp [results, Tryd.results16, go_sem]) rfl ⟨rfl, ?_⟩)
      | (go_end0; refine ⟨rfl, ?_⟩)
    rw [HE.out]
    exact Mem.rAsk HM.out 6
  have b8 : (pcode == 8) = false := by simpa using k8
  by_cases k0 : pcode = 0
  · subst k0
    exact absurd rfl h0
  have b0 : (pcode == 0) = false := by simpa using k0
  have HE : Hid (R = r) := Lib.hid (by rw [hR]; simp [tellR, hk, k9, k8, k0])
  clear hR
  clear hh t0 t1 t3 t4 t5 t8 t9 t11 tg M
  go_enter Tryd.func16, Tryd.ntmps16
  go_upto_region 1 with (fail)
  rw [← hW1]
  clear hW1
  clear M1 hs hl
  go_wp2_with fail
  first
    | (refine bodyPost_ret (v := .tuple #[]) (by simp [results, Tryd.results16, go_sem]) rfl ⟨rfl, ?_⟩)
    | (go_end0; refine ⟨rfl, ?_⟩)
  rw [HE.out]
  exact HM.out
set_option maxRecDepth 100000 in
set_option maxHeartbeats 16000000 in
theorem rtell4 (p : Rep) (M : Mem w0 [] w (RefA g (.slice sa sn sc) (.slice pa pn pc) r :: q)) (hs : StrsAt w0 sa sn ss) (hl : OpsAt w0 pa pn l) (h7 : sn ≤ 7) (hn : pn ≤ 1000) (ha : -1 ≤ r.attempt ∧ r.attempt ≤ 1048576) (hk : r.asks = 4) (hi0 : 0 ≤ r.i) (hil : r.i < l.length) :
    Calls Tryd.prog 16 #[.pointer (some ⟨g, 0, none⟩), Rep.val p] w fun e w' => e = .returned (.tuple #[]) ∧ Mem w0 [] w' (RefA g (.slice sa sn sc) (.slice pa pn pc) (tellR ss l r p) :: q) := by
  obtain ⟨pcode, pt, pv, ph⟩ := p
  unfold Rep.val
  simp only
  obtain ⟨R, hR⟩ : ∃ R, R = tellR ss l r ⟨pcode, pt, pv, ph⟩ := ⟨_, rfl⟩
  rw [← hR]
  obtain ⟨W1, hW1⟩ : ∃ W1, W1 = w.alloc (.cells #[.int .i64 pcode, .int .i64 pt, .string pv, .bool ph] 36) := ⟨_, rfl⟩
  have M1 : Mem w0 [] W1 (RefA g (.slice sa sn sc) (.slice pa pn pc) r :: q) := by rw [hW1]; exact M.below (bel_new _ _)
  obtain ⟨t0, t1, t3, t4, t5, t6, t7, t8, t9, t11, t12, tg⟩ := Mem.rdAt M1
  obtain ⟨f6, f7, f12⟩ := Mem.rdFz M1
  have hh : W1.heap[w.heap.size]? = some (.cells #[.int .i64 pcode, .int .i64 pt, .string pv, .bool ph] 36 (0, 0)) := by rw [hW1]; exact heap_new _ _
  have x0 := (cell_of_heap (i := 0) (v := .int .i64 pcode) hh rfl).1
  have x1 := (cell_of_heap (i := 1) (v := .int .i64 pt) hh rfl).1
  rw [hk] at t6
  have HM := Lib.hid M1
  by_cases k9 : pcode = 9
  · subst k9
    have HE : Hid (R = { r with asks := 6 }) := Lib.hid (by rw [hR]; simp [tellR, hk])
    clear hR
    clear hh t0 t1 t3 t4 t5 t8 t9 t11 tg M
    go_enter Tryd.func16, Tryd.ntmps16
    go_upto_region 1 with (fail)
    rw [← hW1]
    clear hW1
    clear M1 hs hl
    go_wp2_with fail
    first
      | (refine bodyPost_ret (v := .tuple #[]) (by simp [results, Tryd.results16, go_sem]) rfl ⟨rfl, ?_⟩)
      | (go_end0; refine ⟨rfl, ?_⟩)
    rw [HE.out]
    exact Mem.rAsk HM.out 6
  have b9 : (pcode == 9) = false := by simpa using k9
  by_cases k8 : pcode = 8
  · subst k8
    have HE : Hid (R = { r with asks := 6 }) := Lib.hid (by rw [hR]; simp [tellR, hk])
    clear hR
    clear hh t0 t1 t3 t4 t5 t8 t9 t11 tg M
    go_enter Tryd.func16, Tryd.ntmps16
    go_upto_region 1 with (fail)
    rw [← hW1]
    clear hW1
    clear M1 hs hl
    go_wp2_with fail
    first
      | (refine bodyPost_ret (v := .tuple #[]) (by simp [results, Tryd.results16, go_sem]) rfl ⟨rfl, ?_⟩)
      | (go_end0; refine ⟨rfl, ?_⟩)
    rw [HE.out]
    exact Mem.rAsk HM.out 6
  have b8 : (pcode == 8) = false := by simpa using k8
  by_cases k0 : pcode = 0
  · subst k0
    obtain ⟨j, hj⟩ : ∃ j : Nat, r.i = (j : Int) := ⟨r.i.toNat, by omega⟩
    have hjn : j ≤ 1000 := by have := hl.1; omega
    have hw := IntWalk.i64_in ((j : Int) + 1) (by omega)
    have HE : Hid (R = opR l r (j + 1)) := Lib.hid (by rw [hR]; simp [tellR, hk, show r.i.toNat = j by omega])
    clear hR
    clear hh t0 t1 t3 t4 t5 t8 t9 t11 tg M
    go_enter Tryd.func16, Tryd.ntmps16
    go_upto_region 1 with (fail)
    rw [← hW1]
    clear hW1
    have H1 := Lib.hid (rop_any (j + 1) M1 hl (by omega) (by omega))
    rw [show ((j + 1 : Nat) : Int) = (j : Int) + 1 from by omega] at H1
    rw [hj] at t7
    clear M1 hs hl HM
    go_wp2_with fail
    refine H1.out.mono ?_
    rintro e w1 ⟨rfl, hm⟩
    have HF := Lib.hid hm
    clear hm H1
    go_wp2_with fail
    first
      | (refine bodyPost_ret (v := .tuple #[]) (by simp [results, Tryd.results16, go_sem]) rfl ⟨rfl, ?_⟩)
      | (go_end0; refine ⟨rfl, ?_⟩)
    rw [HE.out]
    exact HF.out
  have b0 : (pcode == 0) = false := by simpa using k0
  have HE : Hid (R = r) := Lib.hid (by rw [hR]; simp [tellR, hk, k9, k8, k0])
  clear hR
  clear hh t0 t1 t3 t4 t5 t8 t9 t11 tg M
  go_enter Tryd.func16, Tryd.ntmps16
  go_upto_region 1 with (fail)
  rw [← hW1]
  clear hW1
  clear M1 hs hl
  go_wp2_with fail
  first
    | (refine bodyPost_ret (v := .tuple #[]) (by simp [results, Tryd.results16, go_sem]) rfl ⟨rfl, ?_⟩)
    | (go_end0; refine ⟨rfl, ?_⟩)
  rw [HE.out]
  exact HM.out
set_option maxRecDepth 100000 in
set_option maxHeartbeats 16000000 in
theorem rtell5 (p : Rep) (M : Mem w0 [] w (RefA g (.slice sa sn sc) (.slice pa pn pc) r :: q)) (hs : StrsAt w0 sa sn ss) (hl : OpsAt w0 pa pn l) (h7 : sn ≤ 7) (hn : pn ≤ 1000) (ha : -1 ≤ r.attempt ∧ r.attempt ≤ 1048576) (hk : r.asks = 5) :
    Calls Tryd.prog 16 #[.pointer (some ⟨g, 0, none⟩), Rep.val p] w fun e w' => e = .returned (.tuple #[]) ∧ Mem w0 [] w' (RefA g (.slice sa sn sc) (.slice pa pn pc) (tellR ss l r p) :: q) := by
  obtain ⟨pcode, pt, pv, ph⟩ := p
  unfold Rep.val
  simp only
  obtain ⟨R, hR⟩ : ∃ R, R = tellR ss l r ⟨pcode, pt, pv, ph⟩ := ⟨_, rfl⟩
  rw [← hR]
  obtain ⟨W1, hW1⟩ : ∃ W1, W1 = w.alloc (.cells #[.int .i64 pcode, .int .i64 pt, .string pv, .bool ph] 36) := ⟨_, rfl⟩
  have M1 : Mem w0 [] W1 (RefA g (.slice sa sn sc) (.slice pa pn pc) r :: q) := by rw [hW1]; exact M.below (bel_new _ _)
  obtain ⟨t0, t1, t3, t4, t5, t6, t7, t8, t9, t11, t12, tg⟩ := Mem.rdAt M1
  obtain ⟨f6, f7, f12⟩ := Mem.rdFz M1
  have hh : W1.heap[w.heap.size]? = some (.cells #[.int .i64 pcode, .int .i64 pt, .string pv, .bool ph] 36 (0, 0)) := by rw [hW1]; exact heap_new _ _
  have x0 := (cell_of_heap (i := 0) (v := .int .i64 pcode) hh rfl).1
  have x1 := (cell_of_heap (i := 1) (v := .int .i64 pt) hh rfl).1
  rw [hk] at t6
  have HM := Lib.hid M1
  by_cases k0 : pcode = 0
  · subst k0
    by_cases s2 : pt = 2
    · subst s2
      have HE : Hid (R = endR ss l r 2) := Lib.hid (by rw [hR]; simp [tellR, hk])
      clear hR
      clear hh t0 t1 t3 t4 t5 t8 t9 t11 tg M
      go_enter Tryd.func16, Tryd.ntmps16
      go_upto_region 1 with (fail)
      rw [← hW1]
      clear hW1
      have H1 := Lib.hid (rend_any 2 M1 hs hl h7 hn ha)
      clear M1 hs hl HM
      go_wp2_with fail
      refine H1.out.mono ?_
      rintro e w1 ⟨rfl, hm⟩
      have HF := Lib.hid hm
      clear hm H1
      go_wp2_with fail
      first
        | (refine bodyPost_ret (v := .tuple #[]) (by simp [results, Tryd.results16, go_sem]) rfl ⟨rfl, ?_⟩)
        | (go_end0; refine ⟨rfl, ?_⟩)
      rw [HE.out]
      exact HF.out
    have c2 : (pt == 2) = false := by simpa using s2
    by_cases s3 : pt = 3
    · subst s3
      have HE : Hid (R = endR ss l r 3) := Lib.hid (by rw [hR]; simp [tellR, hk])
      clear hR
      clear hh t0 t1 t3 t4 t5 t8 t9 t11 tg M
      go_enter Tryd.func16, Tryd.ntmps16
      go_upto_region 1 with (fail)
      rw [← hW1]
      clear hW1
      have H1 := Lib.hid (rend_any 3 M1 hs hl h7 hn ha)
      clear M1 hs hl HM
      go_wp2_with fail
      refine H1.out.mono ?_
      rintro e w1 ⟨rfl, hm⟩
      have HF := Lib.hid hm
      clear hm H1
      go_wp2_with fail
      first
        | (refine bodyPost_ret (v := .tuple #[]) (by simp [results, Tryd.results16, go_sem]) rfl ⟨rfl, ?_⟩)
        | (go_end0; refine ⟨rfl, ?_⟩)
      rw [HE.out]
      exact HF.out
    have c3 : (pt == 3) = false := by simpa using s3
    have HE : Hid (R = r) := Lib.hid (by rw [hR]; simp [tellR, hk, s2, s3])
    clear hR
    clear hh t0 t1 t3 t4 t5 t8 t9 t11 tg M
    go_enter Tryd.func16, Tryd.ntmps16
    go_upto_region 1 with (fail)
    rw [← hW1]
    clear hW1
    clear M1 hs hl
    go_wp2_with fail
    first
      | (refine bodyPost_ret (v := .tuple #[]) (by simp [results, Tryd.results16, go_sem]) rfl ⟨rfl, ?_⟩)
      | (go_end0; refine ⟨rfl, ?_⟩)
    rw [HE.out]
    exact HM.out
  have b0 : (pcode == 0) = false := by simpa using k0
  have HE : Hid (R = r) := Lib.hid (by rw [hR]; simp [tellR, hk, k0])
  clear hR
  clear hh t0 t1 t3 t4 t5 t8 t9 t11 tg M
  go_enter Tryd.func16, Tryd.ntmps16
  go_upto_region 1 with (fail)
  rw [← hW1]
  clear hW1
  clear M1 hs hl
  go_wp2_with fail
  first
    | (refine bodyPost_ret (v := .tuple #[]) (by simp [results, Tryd.results16, go_sem]) rfl ⟨rfl, ?_⟩)
    | (go_end0; refine ⟨rfl, ?_⟩)
  rw [HE.out]
  exact HM.out
set_option maxRecDepth 100000 in
set_option maxHeartbeats 16000000 in
theorem rtell6 (p : Rep) (M : Mem w0 [] w (RefA g (.slice sa sn sc) (.slice pa pn pc) r :: q)) (hs : StrsAt w0 sa sn ss) (hl : OpsAt w0 pa pn l) (h7 : sn ≤ 7) (hn : pn ≤ 1000) (ha : -1 ≤ r.attempt ∧ r.attempt ≤ 1048576) (hk : r.asks = 6) :
    Calls Tryd.prog 16 #[.pointer (some ⟨g, 0, none⟩), Rep.val p] w fun e w' => e = .returned (.tuple #[]) ∧ Mem w0 [] w' (RefA g (.slice sa sn sc) (.slice pa pn pc) (tellR ss l r p) :: q) := by
  obtain ⟨pcode, pt, pv, ph⟩ := p
  unfold Rep.val
  simp only
  obtain ⟨R, hR⟩ : ∃ R, R = tellR ss l r ⟨pcode, pt, pv, ph⟩ := ⟨_, rfl⟩
  rw [← hR]
  obtain ⟨W1, hW1⟩ : ∃ W1, W1 = w.alloc (.cells #[.int .i64 pcode, .int .i64 pt, .string pv, .bool ph] 36) := ⟨_, rfl⟩
  have M1 : Mem w0 [] W1 (RefA g (.slice sa sn sc) (.slice pa pn pc) r :: q) := by rw [hW1]; exact M.below (bel_new _ _)
  obtain ⟨t0, t1, t3, t4, t5, t6, t7, t8, t9, t11, t12, tg⟩ := Mem.rdAt M1
  obtain ⟨f6, f7, f12⟩ := Mem.rdFz M1
  have hh : W1.heap[w.heap.size]? = some (.cells #[.int .i64 pcode, .int .i64 pt, .string pv, .bool ph] 36 (0, 0)) := by rw [hW1]; exact heap_new _ _
  have x0 := (cell_of_heap (i := 0) (v := .int .i64 pcode) hh rfl).1
  have x1 := (cell_of_heap (i := 1) (v := .int .i64 pt) hh rfl).1
  rw [hk] at t6
  have HM := Lib.hid M1
  by_cases k0 : pcode = 0
  · subst k0
    by_cases s2 : pt = 2
    · subst s2
      have HE : Hid (R = endR ss l r 2) := Lib.hid (by rw [hR]; simp [tellR, hk])
      clear hR
      clear hh t0 t1 t3 t4 t5 t8 t9 t11 tg M
      go_enter Tryd.func16, Tryd.ntmps16
      go_upto_region 1 with (fail)
      rw [← hW1]
      clear hW1
      have H1 := Lib.hid (rend_any 2 M1 hs hl h7 hn ha)
      clear M1 hs hl HM
      go_wp2_with fail
      refine H1.out.mono ?_
      rintro e w1 ⟨rfl, hm⟩
      have HF := Lib.hid hm
      clear hm H1
      go_wp2_with fail
      first
        | (refine bodyPost_ret (v := .tuple #[]) (by simp [results, Tryd.results16, go_sem]) rfl ⟨rfl, ?_⟩)
        | (go_end0; refine ⟨rfl, ?_⟩)
      rw [HE.out]
      exact HF.out
    have c2 : (pt == 2) = false := by simpa using s2
    by_cases s3 : pt = 3
    · subst s3
      have HE : Hid (R = endR ss l r 3) := Lib.hid (by rw [hR]; simp [tellR, hk])
      clear hR
      clear hh t0 t1 t3 t4 t5 t8 t9 t11 tg M
      go_enter Tryd.func16, Tryd.ntmps16
      go_upto_region 1 with (fail)
      rw [← hW1]
      clear hW1
      have H1 := Lib.hid (rend_any 3 M1 hs hl h7 hn ha)
      clear M1 hs hl HM
      go_wp2_with fail
      refine H1.out.mono ?_
      rintro e w1 ⟨rfl, hm⟩
      have HF := Lib.hid hm
      clear hm H1
      go_wp2_with fail
      first
        | (refine bodyPost_ret (v := .tuple #[]) (by simp [results, Tryd.results16, go_sem]) rfl ⟨rfl, ?_⟩)
        | (go_end0; refine ⟨rfl, ?_⟩)
      rw [HE.out]
      exact HF.out
    have c3 : (pt == 3) = false := by simpa using s3
    have HE : Hid (R = r) := Lib.hid (by rw [hR]; simp [tellR, hk, s2, s3])
    clear hR
    clear hh t0 t1 t3 t4 t5 t8 t9 t11 tg M
    go_enter Tryd.func16, Tryd.ntmps16
    go_upto_region 1 with (fail)
    rw [← hW1]
    clear hW1
    clear M1 hs hl
    go_wp2_with fail
    first
      | (refine bodyPost_ret (v := .tuple #[]) (by simp [results, Tryd.results16, go_sem]) rfl ⟨rfl, ?_⟩)
      | (go_end0; refine ⟨rfl, ?_⟩)
    rw [HE.out]
    exact HM.out
  have b0 : (pcode == 0) = false := by simpa using k0
  have HE : Hid (R = r) := Lib.hid (by rw [hR]; simp [tellR, hk, k0])
  clear hR
  clear hh t0 t1 t3 t4 t5 t8 t9 t11 tg M
  go_enter Tryd.func16, Tryd.ntmps16
  go_upto_region 1 with (fail)
  rw [← hW1]
  clear hW1
  clear M1 hs hl
  go_wp2_with fail
  first
    | (refine bodyPost_ret (v := .tuple #[]) (by simp [results, Tryd.results16, go_sem]) rfl ⟨rfl, ?_⟩)
    | (go_end0; refine ⟨rfl, ?_⟩)
  rw [HE.out]
  exact HM.out
set_option maxRecDepth 100000 in
set_option maxHeartbeats 16000000 in
theorem rtell7 (p : Rep) (M : Mem w0 [] w (RefA g (.slice sa sn sc) (.slice pa pn pc) r :: q)) (hs : StrsAt w0 sa sn ss) (hl : OpsAt w0 pa pn l) (h7 : sn ≤ 7) (hn : pn ≤ 1000) (ha : -1 ≤ r.attempt ∧ r.attempt ≤ 1048576) (hk : r.asks = 7) (hto : 0 ≤ r.told) (htl : r.told ≤ 100) :
    Calls Tryd.prog 16 #[.pointer (some ⟨g, 0, none⟩), Rep.val p] w fun e w' => e = .returned (.tuple #[]) ∧ Mem w0 [] w' (RefA g (.slice sa sn sc) (.slice pa pn pc) (tellR ss l r p) :: q) := by
  obtain ⟨pcode, pt, pv, ph⟩ := p
  unfold Rep.val
  simp only
  obtain ⟨R, hR⟩ : ∃ R, R = tellR ss l r ⟨pcode, pt, pv, ph⟩ := ⟨_, rfl⟩
  rw [← hR]
  obtain ⟨W1, hW1⟩ : ∃ W1, W1 = w.alloc (.cells #[.int .i64 pcode, .int .i64 pt, .string pv, .bool ph] 36) := ⟨_, rfl⟩
  have M1 : Mem w0 [] W1 (RefA g (.slice sa sn sc) (.slice pa pn pc) r :: q) := by rw [hW1]; exact M.below (bel_new _ _)
  obtain ⟨t0, t1, t3, t4, t5, t6, t7, t8, t9, t11, t12, tg⟩ := Mem.rdAt M1
  obtain ⟨f6, f7, f12⟩ := Mem.rdFz M1
  have hh : W1.heap[w.heap.size]? = some (.cells #[.int .i64 pcode, .int .i64 pt, .string pv, .bool ph] 36 (0, 0)) := by rw [hW1]; exact heap_new _ _
  have x0 := (cell_of_heap (i := 0) (v := .int .i64 pcode) hh rfl).1
  have x1 := (cell_of_heap (i := 1) (v := .int .i64 pt) hh rfl).1
  rw [hk] at t6
  have HM := Lib.hid M1
  by_cases k0 : pcode = 0
  · subst k0
    have hw := IntWalk.i64_in (r.told + 1) (by omega)
    have HE : Hid (R = restR ss l { r with told := r.told + 1 }) := Lib.hid (by rw [hR]; simp [tellR, hk])
    clear hR
    clear hh t0 t1 t3 t4 t5 t8 t9 t11 tg M
    go_enter Tryd.func16, Tryd.ntmps16
    go_upto_region 1 with (fail)
    rw [← hW1]
    clear hW1
    have H1 := Lib.hid (rrest_any (r := { r with told := r.told + 1 }) (Mem.rTold M1 (r.told + 1)) hs hl h7 hn ha)
    generalize restR ss l { r with told := r.told + 1 } = r2 at *
    clear M1 hs hl HM
    go_wp2_with fail
    refine H1.out.mono ?_
    rintro e w1 ⟨rfl, hm⟩
    have HF := Lib.hid hm
    clear hm H1
    go_wp2_with fail
    first
      | (refine bodyPost_ret (v := .tuple #[]) (by simp [results, Tryd.results16, go_sem]) rfl ⟨rfl, ?_⟩)
      | (go_end0; refine ⟨rfl, ?_⟩)
    rw [HE.out]
    exact HF.out
  have b0 : (pcode == 0) = false := by simpa using k0
  have HE : Hid (R = r) := Lib.hid (by rw [hR]; simp [tellR, hk, k0])
  clear hR
  clear hh t0 t1 t3 t4 t5 t8 t9 t11 tg M
  go_enter Tryd.func16, Tryd.ntmps16
  go_upto_region 1 with (fail)
  rw [← hW1]
  clear hW1
  clear M1 hs hl
  go_wp2_with fail
  first
    | (refine bodyPost_ret (v := .tuple #[]) (by simp [results, Tryd.results16, go_sem]) rfl ⟨rfl, ?_⟩)
    | (go_end0; refine ⟨rfl, ?_⟩)
  rw [HE.out]
  exact HM.out
end
end Go.Proofs.YtmifgnibalbgjaaDoor
