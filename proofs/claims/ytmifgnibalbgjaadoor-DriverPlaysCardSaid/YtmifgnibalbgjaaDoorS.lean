/- What was read is taken. -/
import Derived.Test.YtmifgnibalbgjaaDoorR
import Derived.Test.YtmifgnibalbgjaaDoorTill
namespace Go.Proofs.YtmifgnibalbgjaaDoor
open Go.RowKit
def gotM (ss : List ByteArray) (l : List Opp) (d : Dr) (p : Rep) : Dr := match l[d.nth]? with
  | none => d
  | some o =>
    let d1 : Dr := { d with write := stepW o ⟨p.v, p.h⟩ d.last, last := stepR o ⟨p.v, p.h⟩, res := d.res ++ [stepR o ⟨p.v, p.h⟩] }
    if wrB o.kind then { d1 with phase := 4 } else beginsM ss l d1 (d.nth + 1)
theorem infoRs : (Tryd.prog.info? 52).map (fun i => (i.zero, i.size, i.bytes)) = some (some (.agg #[.string ⟨#[]⟩, .bool false]), 2, 24) := by kernel_rfl
theorem rsFlat_snoc (l : List Rs) (x : Rs) : rsFlat (l ++ [x]) = rsFlat l ++ [.string x.v, .bool x.h] := by rw [rsFlat_append]; rfl
section
variable {w0 w : World} {D0 : List Nat} {g mg : Nat} {l : List Opp} {d : Dr} {ss : List ByteArray} {r : List Asn} [Stables r]
set_option maxRecDepth 100000 in
set_option maxHeartbeats 16000000 in
theorem got_any (p : Rep) (M : Mem w0 D0 w (DrA g mg l d :: MapA mg ss :: r)) (hp : d.phase < 7) (hk : d.nth < l.length) (hr : rightL ss = 0) (hs : d.tl.Pairwise (· ≤ ·)) (hl : l.length ≤ 1000) (ht : d.tl.length ≤ 100000) (hrs : d.res.length ≤ 100000) (hpv : p.v.size ≤ 140737488355328) (hv : LibV w) :
    Calls Tryd.prog 45 #[.pointer (some ⟨g, 0, none⟩), Rep.val p] w fun e w' => e = .returned (.tuple #[]) ∧ Mem w0 D0 w' (DrA g mg l (gotM ss l d p) :: MapA mg ss :: r) := by
  obtain ⟨pa, pc, ra, rc, ta, tc, MW⟩ := Mem.openW M hp
  have hg := Mem.heapAt [] MW
  have HM := Lib.hid MW
  obtain ⟨tx, stamp, tries, attempt, phase, nth, last, write, res, tl, outcome, quits⟩ := d
  obtain ⟨lastv, lasth⟩ := last
  obtain ⟨writev, writeh⟩ := write
  simp only at hk hs ht hrs hp
  have hro := Mem.rowAt [BlockA g #[.int .i64 tx, .int .i64 stamp, .int .i64 tries, .pointer (some ⟨mg, 0, none⟩), .slice pa l.length pc, .int .i64 attempt, .int .i64 phase, .int .i64 nth, .string lastv, .bool lasth, .string writev, .bool writeh, .slice ra res.length rc, .slice ta tl.length tc, .slice none 0 0, .int .i64 outcome, .bool quits] 69] (r := [RowA 52 2 ra res.length rc (rsFlat res), RowA 3 1 ta tl.length tc (intsV tl)] ++ MapA mg ss :: r) MW
  obtain ⟨pg, rfl, ho0, ho1, ho2, ho3⟩ := opAt_row hro nth hk
  obtain ⟨c4, -⟩ := drC_cell hg 4 (.slice (some ⟨pg, 0, none⟩) l.length pc) rfl
  obtain ⟨c7, -⟩ := drC_cell hg 7 (.int .i64 nth) rfl
  have HG : Hid (gotM ss l ⟨tx, stamp, tries, attempt, phase, nth, ⟨lastv, lasth⟩, ⟨writev, writeh⟩, res, tl, outcome, quits⟩ p = if wrB l[nth].kind then ⟨tx, stamp, tries, attempt, 4, nth, stepR l[nth] ⟨p.v, p.h⟩, stepW l[nth] ⟨p.v, p.h⟩ ⟨lastv, lasth⟩, res ++ [stepR l[nth] ⟨p.v, p.h⟩], tl, outcome, quits⟩ else beginsM ss l ⟨tx, stamp, tries, attempt, phase, nth, stepR l[nth] ⟨p.v, p.h⟩, stepW l[nth] ⟨p.v, p.h⟩ ⟨lastv, lasth⟩, res ++ [stepR l[nth] ⟨p.v, p.h⟩], tl, outcome, quits⟩ (nth + 1)) := Lib.hid (by unfold gotM; simp only; rw [List.getElem?_eq_getElem hk])
  have HM : Hid (Mem w0 D0 w (BlockA g #[.int .i64 tx, .int .i64 stamp, .int .i64 tries, .pointer (some ⟨mg, 0, none⟩), .slice (some ⟨pg, 0, none⟩) l.length pc, .int .i64 attempt, .int .i64 phase, .int .i64 nth, .string lastv, .bool lasth, .string writev, .bool writeh, .slice ra res.length rc, .slice ta tl.length tc, .slice none 0 0, .int .i64 outcome, .bool quits] 69 :: [RowA 60 4 (some ⟨pg, 0, none⟩) l.length pc (opFlat l), RowA 52 2 ra res.length rc (rsFlat res), RowA 3 1 ta tl.length tc (intsV tl)] ++ MapA mg ss :: r)) := Lib.hid HM.out
  clear M MW hro hg
  have hlp := World.block_lt_of_cell? w _ ho0
  have hlg := World.block_lt_of_cell? w _ c7
  simp only at hlp hlg
  obtain ⟨rc0, rs0, rv, rh⟩ := p
  simp only at HG hpv
  unfold Rep.val
  simp only
  have HST := Lib.hid fun W (hb : LibV W) => step_any l[nth] ⟨rv, rh⟩ ⟨lastv, lasth⟩ W hpv hb
  have HV := Lib.hid hv
  have HWR := Lib.hid fun W => writes_any l[nth] W
  unfold stE opV rsV at HST
  unfold opV at HWR
  simp only at HST HWR
  generalize stepW l[nth] ⟨rv, rh⟩ ⟨lastv, lasth⟩ = sw at *
  generalize stepR l[nth] ⟨rv, rh⟩ = sr at *
  obtain ⟨swv, swh⟩ := sw
  obtain ⟨srv, srh⟩ := sr
  simp only at HST
  generalize l[nth] = o at *
  obtain ⟨ok, oy, ov, on⟩ := o
  simp only at ho0 ho1 ho2 ho3 HG HST HWR
  have hnm : nth + 1 ≤ l.length := hk
  have HL := Lib.hid hl
  have HHS := Lib.hid hs
  generalize hnl : l.length = n at *
  have HN := Lib.hid hnl
  clear hnl hv hpv hs hl
  have hi0 : (0 : Int) ≤ (nth : Int) := by omega
  have hil : (nth : Int) < (n : Int) := by omega
  have HM1 : Hid (Mem w0 D0 (((w.alloc (.cells #[.int .i64 rc0, .int .i64 rs0, .string rv, .bool rh] 36)).alloc (.cells #[.int .i64 ok, .string oy, .string ov, .int .i64 on] 60)).drew) (BlockA (w.heap.size + 1) #[.int .i64 ok, .string oy, .string ov, .int .i64 on] 60 :: BlockA w.heap.size #[.int .i64 rc0, .int .i64 rs0, .string rv, .bool rh] 36 :: BlockA g #[.int .i64 tx, .int .i64 stamp, .int .i64 tries, .pointer (some ⟨mg, 0, none⟩), .slice (some ⟨pg, 0, none⟩) n pc, .int .i64 attempt, .int .i64 phase, .int .i64 nth, .string lastv, .bool lasth, .string writev, .bool writeh, .slice ra res.length rc, .slice ta tl.length tc, .slice none 0 0, .int .i64 outcome, .bool quits] 69 :: [RowA 60 4 (some ⟨pg, 0, none⟩) n pc (opFlat l), RowA 52 2 ra res.length rc (rsFlat res), RowA 3 1 ta tl.length tc (intsV tl)] ++ MapA mg ss :: r)) := Lib.hid (by
    have m := ((HM.out.block #[.int .i64 rc0, .int .i64 rs0, .string rv, .bool rh] 36).block #[.int .i64 ok, .string oy, .string ov, .int .i64 on] 60).below (bel_drew _)
    simpa using m)
  have HVB : Hid (∀ W, Below w.heap.size w W → LibV W) := Lib.hid fun W hb => HV.out.below hb
  go_enter Tryd.func45, Tryd.ntmps45
  go_wp2_with fail
  go_region
  all_goals
    go_upto_region 2 with (fail)
    have HV2 : Hid (LibV ((((w.alloc (.cells #[.int .i64 rc0, .int .i64 rs0, .string rv, .bool rh] 36)).alloc (.cells #[.int .i64 ok, .string oy, .string ov, .int .i64 on] 60)).drew))) := Lib.hid (HV.out.below (below_drew (Joins.below_alloc2 _ _ _)))
    clear HV HVB HM
    generalize (((w.alloc (.cells #[.int .i64 rc0, .int .i64 rs0, .string rv, .bool rh] 36)).alloc (.cells #[.int .i64 ok, .string oy, .string ov, .int .i64 on] 60)).drew) = w2 at *
    have hh := Mem.heapAt [] HM1.out
    have o0 := (cell_of_heap (i := 0) (v := .int .i64 ok) hh rfl).1
    have o1 := (cell_of_heap (i := 1) (v := .string oy) hh rfl).1
    have o2 := (cell_of_heap (i := 2) (v := .string ov) hh rfl).1
    have o3 := (cell_of_heap (i := 3) (v := .int .i64 on) hh rfl).1
    have hh2 := Mem.heapAt [BlockA (w.heap.size + 1) #[.int .i64 ok, .string oy, .string ov, .int .i64 on] 60] (r := BlockA g #[.int .i64 tx, .int .i64 stamp, .int .i64 tries, .pointer (some ⟨mg, 0, none⟩), .slice (some ⟨pg, 0, none⟩) n pc, .int .i64 attempt, .int .i64 phase, .int .i64 nth, .string lastv, .bool lasth, .string writev, .bool writeh, .slice ra res.length rc, .slice ta tl.length tc, .slice none 0 0, .int .i64 outcome, .bool quits] 69 :: ([RowA 60 4 (some ⟨pg, 0, none⟩) n pc (opFlat l), RowA 52 2 ra res.length rc (rsFlat res), RowA 3 1 ta tl.length tc (intsV tl)] ++ MapA mg ss :: r)) HM1.out
    have q2 := (cell_of_heap (i := 2) (v := .string rv) hh2 rfl).1
    have q3 := (cell_of_heap (i := 3) (v := .bool rh) hh2 rfl).1
    have hh3 := Mem.heapAt [BlockA (w.heap.size + 1) #[.int .i64 ok, .string oy, .string ov, .int .i64 on] 60, BlockA w.heap.size #[.int .i64 rc0, .int .i64 rs0, .string rv, .bool rh] 36] (r := [RowA 60 4 (some ⟨pg, 0, none⟩) n pc (opFlat l), RowA 52 2 ra res.length rc (rsFlat res), RowA 3 1 ta tl.length tc (intsV tl)] ++ MapA mg ss :: r) HM1.out
    have s8 := (cell_of_heap (i := 8) (v := .string lastv) hh3 rfl).1
    have s9 := (cell_of_heap (i := 9) (v := .bool lasth) hh3 rfl).1
    clear hh hh2 hh3 c4 c7 ho0 ho1 ho2 ho3 hlp
    go_cut [] from 15 to 34 (fun wx => Hid (Mem w0 D0 wx (BlockA (w.heap.size + 1) #[.int .i64 ok, .string oy, .string ov, .int .i64 on] 60 :: BlockA w.heap.size #[.int .i64 rc0, .int .i64 rs0, .string rv, .bool rh] 36 :: BlockA g #[.int .i64 tx, .int .i64 stamp, .int .i64 tries, .pointer (some ⟨mg, 0, none⟩), .slice (some ⟨pg, 0, none⟩) n pc, .int .i64 attempt, .int .i64 phase, .int .i64 nth, .string srv, .bool srh, .string swv, .bool swh, .slice ra res.length rc, .slice ta tl.length tc, .slice none 0 0, .int .i64 outcome, .bool quits] 69 :: [RowA 60 4 (some ⟨pg, 0, none⟩) n pc (opFlat l), RowA 52 2 ra res.length rc (rsFlat res), RowA 3 1 ta tl.length tc (intsV tl)] ++ MapA mg ss :: r)))
    case first =>
      have HSM : Hid (∀ W (wv : ByteArray) (wh : Bool), Mem w0 D0 (W) (BlockA (w.heap.size + 1) #[.int .i64 ok, .string oy, .string ov, .int .i64 on] 60 :: BlockA w.heap.size #[.int .i64 rc0, .int .i64 rs0, .string rv, .bool rh] 36 :: BlockA g #[.int .i64 tx, .int .i64 stamp, .int .i64 tries, .pointer (some ⟨mg, 0, none⟩), .slice (some ⟨pg, 0, none⟩) n pc, .int .i64 attempt, .int .i64 phase, .int .i64 nth, .string lastv, .bool lasth, .string wv, .bool wh, .slice ra res.length rc, .slice ta tl.length tc, .slice none 0 0, .int .i64 outcome, .bool quits] 69 :: [RowA 60 4 (some ⟨pg, 0, none⟩) n pc (opFlat l), RowA 52 2 ra res.length rc (rsFlat res), RowA 3 1 ta tl.length tc (intsV tl)] ++ MapA mg ss :: r) → (W.cell? ⟨w.heap.size + 1, 0, none⟩ = some (.int .i64 ok) ∧ W.cell? ⟨w.heap.size + 1, 1, none⟩ = some (.string oy) ∧ W.cell? ⟨w.heap.size + 1, 2, none⟩ = some (.string ov) ∧ W.cell? ⟨w.heap.size + 1, 3, none⟩ = some (.int .i64 on)) ∧ (W.cell? ⟨w.heap.size, 2, none⟩ = some (.string rv) ∧ W.cell? ⟨w.heap.size, 3, none⟩ = some (.bool rh)) ∧ W.cell? ⟨g, 8, none⟩ = some (.string lastv) ∧ W.cell? ⟨g, 9, none⟩ = some (.bool lasth)) := Lib.hid fun W wv wh h => by
        have h1 := Mem.heapAt [] h
        have h2 := Mem.heapAt [BlockA (w.heap.size + 1) #[.int .i64 ok, .string oy, .string ov, .int .i64 on] 60] (r := BlockA g #[.int .i64 tx, .int .i64 stamp, .int .i64 tries, .pointer (some ⟨mg, 0, none⟩), .slice (some ⟨pg, 0, none⟩) n pc, .int .i64 attempt, .int .i64 phase, .int .i64 nth, .string lastv, .bool lasth, .string wv, .bool wh, .slice ra res.length rc, .slice ta tl.length tc, .slice none 0 0, .int .i64 outcome, .bool quits] 69 :: ([RowA 60 4 (some ⟨pg, 0, none⟩) n pc (opFlat l), RowA 52 2 ra res.length rc (rsFlat res), RowA 3 1 ta tl.length tc (intsV tl)] ++ MapA mg ss :: r)) h
        have h3 := Mem.heapAt [BlockA (w.heap.size + 1) #[.int .i64 ok, .string oy, .string ov, .int .i64 on] 60, BlockA w.heap.size #[.int .i64 rc0, .int .i64 rs0, .string rv, .bool rh] 36] (r := [RowA 60 4 (some ⟨pg, 0, none⟩) n pc (opFlat l), RowA 52 2 ra res.length rc (rsFlat res), RowA 3 1 ta tl.length tc (intsV tl)] ++ MapA mg ss :: r) h
        exact ⟨⟨(cell_of_heap h1 rfl).1, (cell_of_heap h1 rfl).1, (cell_of_heap h1 rfl).1, (cell_of_heap h1 rfl).1⟩, ⟨(cell_of_heap h2 rfl).1, (cell_of_heap h2 rfl).1⟩, (cell_of_heap h3 rfl).1, (cell_of_heap h3 rfl).1⟩
      have HSS : Hid (∀ W, Below w2.heap.size w2 W → (W.cell? ⟨w.heap.size + 1, 0, none⟩ = some (.int .i64 ok) ∧ W.cell? ⟨w.heap.size + 1, 1, none⟩ = some (.string oy) ∧ W.cell? ⟨w.heap.size + 1, 2, none⟩ = some (.string ov) ∧ W.cell? ⟨w.heap.size + 1, 3, none⟩ = some (.int .i64 on)) ∧ (W.cell? ⟨w.heap.size, 2, none⟩ = some (.string rv) ∧ W.cell? ⟨w.heap.size, 3, none⟩ = some (.bool rh)) ∧ W.cell? ⟨g, 8, none⟩ = some (.string lastv) ∧ W.cell? ⟨g, 9, none⟩ = some (.bool lasth)) := Lib.hid fun W hb => by
        have k := fun {q : Addr} {v : Value} (h : w2.cell? q = some v) => (hb.cell (World.block_lt_of_cell? w2 q h)).trans h
        exact ⟨⟨k o0, k o1, k o2, k o3⟩, ⟨k q2, k q3⟩, k s8, k s9⟩
      refine wp_region_till (fun W => (W.cell? ⟨w.heap.size + 1, 0, none⟩ = some (.int .i64 ok) ∧ W.cell? ⟨w.heap.size + 1, 1, none⟩ = some (.string oy) ∧ W.cell? ⟨w.heap.size + 1, 2, none⟩ = some (.string ov) ∧ W.cell? ⟨w.heap.size + 1, 3, none⟩ = some (.int .i64 on)) ∧ (W.cell? ⟨w.heap.size, 2, none⟩ = some (.string rv) ∧ W.cell? ⟨w.heap.size, 3, none⟩ = some (.bool rh)) ∧ W.cell? ⟨g, 8, none⟩ = some (.string lastv) ∧ W.cell? ⟨g, 9, none⟩ = some (.bool lasth)) 21 (by kernel_rfl) (HSS.out _ (below_drew (Below.refl _ _))) (fun hM hS => ?_)
      refine till_op (v := ?_) 0 [16, 17, 18] hM rfl (by kernel_rfl) (by kernel_rfl) (by kernel_rfl) (by kernel_rfl) rfl (fun _ _ _ h => h) (Or.inl ⟨by rfl, ?_⟩) hS (fun hM => ?_)
      rotate_left
      · intro W hSw
        (try dsimp only at hSw)
        go_simp
        try with_reducible rfl
      try simp only [Act.put, List.setIfInBounds_toArray, List.set_cons_zero, List.set_cons_succ]
      refine till_op (v := ?_) 1 [19, 20] hM rfl (by kernel_rfl) (by kernel_rfl) (by kernel_rfl) (by kernel_rfl) rfl (fun _ _ _ h => h) (Or.inl ⟨by rfl, ?_⟩) hS (fun hM => ?_)
      rotate_left
      · intro W hSw
        (try dsimp only at hSw)
        go_simp
        try with_reducible rfl
      try simp only [Act.put, List.setIfInBounds_toArray, List.set_cons_zero, List.set_cons_succ]
      refine till_op (v := ?_) 2 [12, 13, 15] hM rfl (by kernel_rfl) (by kernel_rfl) (by kernel_rfl) (by kernel_rfl) rfl (fun _ _ _ h => h) (Or.inl ⟨by rfl, ?_⟩) hS (fun hM => ?_)
      rotate_left
      · intro W hSw
        (try dsimp only at hSw)
        go_simp
        try with_reducible rfl
      try simp only [Act.put, List.setIfInBounds_toArray, List.set_cons_zero, List.set_cons_succ]
      refine till_op (v := ?_) 3 [4, 7, 12, 13, 15] hM rfl (by kernel_rfl) (by kernel_rfl) (by kernel_rfl) (by kernel_rfl) rfl (fun _ _ _ h => h) (Or.inl ⟨by rfl, ?_⟩) hS (fun hM => ?_)
      rotate_left
      · intro W hSw
        (try dsimp only at hSw)
        go_simp
        try with_reducible rfl
      try simp only [Act.put, List.setIfInBounds_toArray, List.set_cons_zero, List.set_cons_succ]
      refine till_op (v := ?_) 4 [7, 12, 13, 15] hM rfl (by kernel_rfl) (by kernel_rfl) (by kernel_rfl) (by kernel_rfl) rfl (fun _ _ _ h => h) (Or.inl ⟨by rfl, ?_⟩) hS (fun hM => ?_)
      rotate_left
      · intro W hSw
        (try dsimp only at hSw)
        go_simp
        try with_reducible rfl
      try simp only [Act.put, List.setIfInBounds_toArray, List.set_cons_zero, List.set_cons_succ]
      refine till_op (v := ?_) 5 [6, 7, 12, 13, 15] hM rfl (by kernel_rfl) (by kernel_rfl) (by kernel_rfl) (by kernel_rfl) rfl (fun _ _ _ h => h) (Or.inl ⟨by rfl, ?_⟩) hS (fun hM => ?_)
      rotate_left
      · intro W hSw
        (try dsimp only at hSw)
        go_simp
        try with_reducible rfl
      try simp only [Act.put, List.setIfInBounds_toArray, List.set_cons_zero, List.set_cons_succ]
      refine till_op (v := ?_) 6 [7, 12, 13, 15] hM rfl (by kernel_rfl) (by kernel_rfl) (by kernel_rfl) (by kernel_rfl) rfl (fun _ _ _ h => h) (Or.inl ⟨by rfl, ?_⟩) hS (fun hM => ?_)
      rotate_left
      · intro W hSw
        (try dsimp only at hSw)
        go_simp
        try with_reducible rfl
      try simp only [Act.put, List.setIfInBounds_toArray, List.set_cons_zero, List.set_cons_succ]
      refine till_op (v := ?_) 7 [12, 13, 15] hM rfl (by kernel_rfl) (by kernel_rfl) (by kernel_rfl) (by kernel_rfl) rfl (fun _ _ _ h => h) (Or.inl ⟨by rfl, ?_⟩) hS (fun hM => ?_)
      rotate_left
      · intro W hSw
        (try dsimp only at hSw)
        go_simp
        try with_reducible rfl
      try simp only [Act.put, List.setIfInBounds_toArray, List.set_cons_zero, List.set_cons_succ]
      refine till_op (v := ?_) 8 [9, 10, 11, 12, 13, 15] hM rfl (by kernel_rfl) (by kernel_rfl) (by kernel_rfl) (by kernel_rfl) rfl (fun _ _ _ h => h) (Or.inl ⟨by rfl, ?_⟩) hS (fun hM => ?_)
      rotate_left
      · intro W hSw
        (try dsimp only at hSw)
        go_simp
        try with_reducible rfl
      try simp only [Act.put, List.setIfInBounds_toArray, List.set_cons_zero, List.set_cons_succ]
      refine till_op (v := ?_) 9 [10, 11, 12, 13, 15] hM rfl (by kernel_rfl) (by kernel_rfl) (by kernel_rfl) (by kernel_rfl) rfl (fun _ _ _ h => h) (Or.inl ⟨by rfl, ?_⟩) hS (fun hM => ?_)
      rotate_left
      · intro W hSw
        (try dsimp only at hSw)
        go_simp
        try with_reducible rfl
      try simp only [Act.put, List.setIfInBounds_toArray, List.set_cons_zero, List.set_cons_succ]
      refine till_op (v := ?_) 10 [11, 12, 13, 15] hM rfl (by kernel_rfl) (by kernel_rfl) (by kernel_rfl) (by kernel_rfl) rfl (fun _ _ _ h => h) (Or.inl ⟨by rfl, ?_⟩) hS (fun hM => ?_)
      rotate_left
      · intro W hSw
        (try dsimp only at hSw)
        go_simp
        try with_reducible rfl
      try simp only [Act.put, List.setIfInBounds_toArray, List.set_cons_zero, List.set_cons_succ]
      refine till_op (v := ?_) 11 [12, 13, 15] hM rfl (by kernel_rfl) (by kernel_rfl) (by kernel_rfl) (by kernel_rfl) rfl (fun _ _ _ h => h) (Or.inl ⟨by rfl, ?_⟩) hS (fun hM => ?_)
      rotate_left
      · intro W hSw
        (try dsimp only at hSw)
        go_simp
        try with_reducible rfl
      try simp only [Act.put, List.setIfInBounds_toArray, List.set_cons_zero, List.set_cons_succ]
      refine till_one 12 hM rfl (by kernel_rfl) (fun K hK => ?_)
      go_simp
      go_at_call 53
      refine (HST.out _ (HV2.out.below (bel_drew _))).mono ?_
      rintro e w3 ⟨rfl, hb3⟩
      have hb23 := (below_drew (Below.refl w2.heap.size w2)).trans hb3
      have HM3 := Lib.hid (Mem.below (Mem.below HM1.out (bel_drew _)) hb3)
      refine hK _ _ (fun _ => HSS.out _ hb23) (fun hM => ?_)
      have hS := HSS.out _ hb23
      clear hK K
      try simp only [Act.put, List.setIfInBounds_toArray, List.set_cons_zero, List.set_cons_succ]
      refine till_op (v := ?_) 13 [15] hM rfl (by kernel_rfl) (by kernel_rfl) (by kernel_rfl) (by kernel_rfl) rfl (fun _ _ _ h => h) (Or.inl ⟨by rfl, ?_⟩) hS (fun hM => ?_)
      rotate_left
      · intro W hSw
        (try dsimp only at hSw)
        go_simp
        try with_reducible rfl
      try simp only [Act.put, List.setIfInBounds_toArray, List.set_cons_zero, List.set_cons_succ]
      refine till_op (v := ?_) 14 [18] hM rfl (by kernel_rfl) (by kernel_rfl) (by kernel_rfl) (by kernel_rfl) rfl (fun _ _ _ h => h) (Or.inl ⟨by rfl, ?_⟩) hS (fun hM => ?_)
      rotate_left
      · intro W hSw
        (try dsimp only at hSw)
        go_simp
        try with_reducible rfl
      try simp only [Act.put, List.setIfInBounds_toArray, List.set_cons_zero, List.set_cons_succ]
      refine till_op (v := ?_) 15 [] hM rfl (by kernel_rfl) (by kernel_rfl) (by kernel_rfl) (by kernel_rfl) rfl (fun _ _ _ h => h) (Or.inl ⟨by rfl, ?_⟩) hS (fun hM => ?_)
      rotate_left
      · intro W hSw
        (try dsimp only at hSw)
        go_simp
        try with_reducible rfl
      try simp only [Act.put, List.setIfInBounds_toArray, List.set_cons_zero, List.set_cons_succ]
      refine till_op (v := ?_) 16 [17, 18] hM rfl (by kernel_rfl) (by kernel_rfl) (by kernel_rfl) (by kernel_rfl) rfl (fun _ _ _ h => h) (Or.inl ⟨by rfl, ?_⟩) hS (fun hM => ?_)
      rotate_left
      · intro W hSw
        (try dsimp only at hSw)
        go_simp
        try with_reducible rfl
      try simp only [Act.put, List.setIfInBounds_toArray, List.set_cons_zero, List.set_cons_succ]
      refine till_op (v := ?_) 17 [18] hM rfl (by kernel_rfl) (by kernel_rfl) (by kernel_rfl) (by kernel_rfl) rfl (fun _ _ _ h => h) (Or.inl ⟨by rfl, ?_⟩) hS (fun hM => ?_)
      rotate_left
      · intro W hSw
        (try dsimp only at hSw)
        go_simp
        try with_reducible rfl
      try simp only [Act.put, List.setIfInBounds_toArray, List.set_cons_zero, List.set_cons_succ]
      have hh4 := Mem.heapAt [BlockA (w.heap.size + 1) #[.int .i64 ok, .string oy, .string ov, .int .i64 on] 60, BlockA w.heap.size #[.int .i64 rc0, .int .i64 rs0, .string rv, .bool rh] 36] (r := [RowA 60 4 (some ⟨pg, 0, none⟩) n pc (opFlat l), RowA 52 2 ra res.length rc (rsFlat res), RowA 3 1 ta tl.length tc (intsV tl)] ++ MapA mg ss :: r) HM3.out
      obtain ⟨z10, zf10⟩ := cell_of_heap (i := 10) (v := .string writev) hh4 rfl
      obtain ⟨z11, zf11⟩ := cell_of_heap (i := 11) (v := .bool writeh) hh4 rfl
      have HM4 : Hid (Mem w0 D0 (w3.setCell ⟨g, 10, none⟩ (.string swv)) (BlockA (w.heap.size + 1) #[.int .i64 ok, .string oy, .string ov, .int .i64 on] 60 :: BlockA w.heap.size #[.int .i64 rc0, .int .i64 rs0, .string rv, .bool rh] 36 :: BlockA g #[.int .i64 tx, .int .i64 stamp, .int .i64 tries, .pointer (some ⟨mg, 0, none⟩), .slice (some ⟨pg, 0, none⟩) n pc, .int .i64 attempt, .int .i64 phase, .int .i64 nth, .string lastv, .bool lasth, .string swv, .bool writeh, .slice ra res.length rc, .slice ta tl.length tc, .slice none 0 0, .int .i64 outcome, .bool quits] 69 :: [RowA 60 4 (some ⟨pg, 0, none⟩) n pc (opFlat l), RowA 52 2 ra res.length rc (rsFlat res), RowA 3 1 ta tl.length tc (intsV tl)] ++ MapA mg ss :: r)) := Lib.hid (Mem.setAt [BlockA (w.heap.size + 1) #[.int .i64 ok, .string oy, .string ov, .int .i64 on] 60, BlockA w.heap.size #[.int .i64 rc0, .int .i64 rs0, .string rv, .bool rh] 36] (r := [RowA 60 4 (some ⟨pg, 0, none⟩) n pc (opFlat l), RowA 52 2 ra res.length rc (rsFlat res), RowA 3 1 ta tl.length tc (intsV tl)] ++ MapA mg ss :: r) (i := 10) HM3.out (.string swv))
      have HM5 : Hid (Mem w0 D0 ((w3.setCell ⟨g, 10, none⟩ (.string swv)).setCell ⟨g, 11, none⟩ (.bool swh)) (BlockA (w.heap.size + 1) #[.int .i64 ok, .string oy, .string ov, .int .i64 on] 60 :: BlockA w.heap.size #[.int .i64 rc0, .int .i64 rs0, .string rv, .bool rh] 36 :: BlockA g #[.int .i64 tx, .int .i64 stamp, .int .i64 tries, .pointer (some ⟨mg, 0, none⟩), .slice (some ⟨pg, 0, none⟩) n pc, .int .i64 attempt, .int .i64 phase, .int .i64 nth, .string lastv, .bool lasth, .string swv, .bool swh, .slice ra res.length rc, .slice ta tl.length tc, .slice none 0 0, .int .i64 outcome, .bool quits] 69 :: [RowA 60 4 (some ⟨pg, 0, none⟩) n pc (opFlat l), RowA 52 2 ra res.length rc (rsFlat res), RowA 3 1 ta tl.length tc (intsV tl)] ++ MapA mg ss :: r)) := Lib.hid (Mem.setAt [BlockA (w.heap.size + 1) #[.int .i64 ok, .string oy, .string ov, .int .i64 on] 60, BlockA w.heap.size #[.int .i64 rc0, .int .i64 rs0, .string rv, .bool rh] 36] (r := [RowA 60 4 (some ⟨pg, 0, none⟩) n pc (opFlat l), RowA 52 2 ra res.length rc (rsFlat res), RowA 3 1 ta tl.length tc (intsV tl)] ++ MapA mg ss :: r) (i := 11) HM4.out (.bool swh))
      clear hh4 HM4 hb3
      refine till_one 18 hM rfl (by kernel_rfl) (fun K hK => ?_)
      go_simp
      refine hK _ _ (fun _ => HSM.out _ _ _ HM5.out) (fun hM => ?_)
      have hS := HSM.out _ _ _ HM5.out
      clear hK K
      try simp only [Act.put, List.setIfInBounds_toArray, List.set_cons_zero, List.set_cons_succ]
      refine till_op (v := ?_) 19 [20] hM rfl (by kernel_rfl) (by kernel_rfl) (by kernel_rfl) (by kernel_rfl) rfl (fun _ _ _ h => h) (Or.inl ⟨by rfl, ?_⟩) hS (fun hM => ?_)
      rotate_left
      · intro W hSw
        (try dsimp only at hSw)
        go_simp
        try with_reducible rfl
      try simp only [Act.put, List.setIfInBounds_toArray, List.set_cons_zero, List.set_cons_succ]
      refine till_op (v := ?_) 20 [] hM rfl (by kernel_rfl) (by kernel_rfl) (by kernel_rfl) (by kernel_rfl) rfl (fun _ _ _ h => h) (Or.inl ⟨by rfl, ?_⟩) hS (fun hM => ?_)
      rotate_left
      · intro W hSw
        (try dsimp only at hSw)
        go_simp
        try with_reducible rfl
      try simp only [Act.put, List.setIfInBounds_toArray, List.set_cons_zero, List.set_cons_succ]
      have hh5 := Mem.heapAt [BlockA (w.heap.size + 1) #[.int .i64 ok, .string oy, .string ov, .int .i64 on] 60, BlockA w.heap.size #[.int .i64 rc0, .int .i64 rs0, .string rv, .bool rh] 36] (r := [RowA 60 4 (some ⟨pg, 0, none⟩) n pc (opFlat l), RowA 52 2 ra res.length rc (rsFlat res), RowA 3 1 ta tl.length tc (intsV tl)] ++ MapA mg ss :: r) HM5.out
      obtain ⟨z8, zf8⟩ := cell_of_heap (i := 8) (v := .string lastv) hh5 rfl
      obtain ⟨z9, zf9⟩ := cell_of_heap (i := 9) (v := .bool lasth) hh5 rfl
      have HM6 : Hid (Mem w0 D0 (((w3.setCell ⟨g, 10, none⟩ (.string swv)).setCell ⟨g, 11, none⟩ (.bool swh)).setCell ⟨g, 8, none⟩ (.string srv)) (BlockA (w.heap.size + 1) #[.int .i64 ok, .string oy, .string ov, .int .i64 on] 60 :: BlockA w.heap.size #[.int .i64 rc0, .int .i64 rs0, .string rv, .bool rh] 36 :: BlockA g #[.int .i64 tx, .int .i64 stamp, .int .i64 tries, .pointer (some ⟨mg, 0, none⟩), .slice (some ⟨pg, 0, none⟩) n pc, .int .i64 attempt, .int .i64 phase, .int .i64 nth, .string srv, .bool lasth, .string swv, .bool swh, .slice ra res.length rc, .slice ta tl.length tc, .slice none 0 0, .int .i64 outcome, .bool quits] 69 :: [RowA 60 4 (some ⟨pg, 0, none⟩) n pc (opFlat l), RowA 52 2 ra res.length rc (rsFlat res), RowA 3 1 ta tl.length tc (intsV tl)] ++ MapA mg ss :: r)) := Lib.hid (Mem.setAt [BlockA (w.heap.size + 1) #[.int .i64 ok, .string oy, .string ov, .int .i64 on] 60, BlockA w.heap.size #[.int .i64 rc0, .int .i64 rs0, .string rv, .bool rh] 36] (r := [RowA 60 4 (some ⟨pg, 0, none⟩) n pc (opFlat l), RowA 52 2 ra res.length rc (rsFlat res), RowA 3 1 ta tl.length tc (intsV tl)] ++ MapA mg ss :: r) (i := 8) HM5.out (.string srv))
      have HM7 : Hid (Mem w0 D0 ((((w3.setCell ⟨g, 10, none⟩ (.string swv)).setCell ⟨g, 11, none⟩ (.bool swh)).setCell ⟨g, 8, none⟩ (.string srv)).setCell ⟨g, 9, none⟩ (.bool srh)) (BlockA (w.heap.size + 1) #[.int .i64 ok, .string oy, .string ov, .int .i64 on] 60 :: BlockA w.heap.size #[.int .i64 rc0, .int .i64 rs0, .string rv, .bool rh] 36 :: BlockA g #[.int .i64 tx, .int .i64 stamp, .int .i64 tries, .pointer (some ⟨mg, 0, none⟩), .slice (some ⟨pg, 0, none⟩) n pc, .int .i64 attempt, .int .i64 phase, .int .i64 nth, .string srv, .bool srh, .string swv, .bool swh, .slice ra res.length rc, .slice ta tl.length tc, .slice none 0 0, .int .i64 outcome, .bool quits] 69 :: [RowA 60 4 (some ⟨pg, 0, none⟩) n pc (opFlat l), RowA 52 2 ra res.length rc (rsFlat res), RowA 3 1 ta tl.length tc (intsV tl)] ++ MapA mg ss :: r)) := Lib.hid (Mem.setAt [BlockA (w.heap.size + 1) #[.int .i64 ok, .string oy, .string ov, .int .i64 on] 60, BlockA w.heap.size #[.int .i64 rc0, .int .i64 rs0, .string rv, .bool rh] 36] (r := [RowA 60 4 (some ⟨pg, 0, none⟩) n pc (opFlat l), RowA 52 2 ra res.length rc (rsFlat res), RowA 3 1 ta tl.length tc (intsV tl)] ++ MapA mg ss :: r) (i := 9) HM6.out (.bool srh))
      clear HM3 HM5 HM6 hh5
      refine till_one 21 hM rfl (by kernel_rfl) (fun K hK => ?_)
      go_simp
      refine hK _ _ (fun h => absurd rfl h) (fun hM => ?_)
      clear hK K
      try simp only [Act.put, List.setIfInBounds_toArray, List.set_cons_zero, List.set_cons_succ]
      refine till_done (by kernel_rfl) ?_ _
      go_wp2_with fail
      go_meet
      case rel => exact HM7
    case rest =>
      have HC := Lib.hid hcut.out
      clear hcut HST 
      have hh6 := Mem.heapAt [BlockA (w.heap.size + 1) #[.int .i64 ok, .string oy, .string ov, .int .i64 on] 60, BlockA w.heap.size #[.int .i64 rc0, .int .i64 rs0, .string rv, .bool rh] 36] (r := [RowA 60 4 (some ⟨pg, 0, none⟩) n pc (opFlat l), RowA 52 2 ra res.length rc (rsFlat res), RowA 3 1 ta tl.length tc (intsV tl)] ++ MapA mg ss :: r) HC.out
      obtain ⟨s12, sf12⟩ := cell_of_heap (i := 12) (v := .slice ra res.length rc) hh6 rfl
      obtain ⟨s8, -⟩ := cell_of_heap (i := 8) (v := .string srv) hh6 rfl
      obtain ⟨s9, -⟩ := cell_of_heap (i := 9) (v := .bool srh) hh6 rfl
      have HSS : Hid (∀ W, Below wc.heap.size wc W → W.cell? ⟨g, 12, none⟩ = some (.slice ra res.length rc) ∧ W.cell? ⟨g, 8, none⟩ = some (.string srv) ∧ W.cell? ⟨g, 9, none⟩ = some (.bool srh)) := Lib.hid fun W hb => by
        have k := fun {q : Addr} {v : Value} (h : wc.cell? q = some v) => (hb.cell (World.block_lt_of_cell? wc q h)).trans h
        exact ⟨k s12, k s8, k s9⟩
      have hg0 : g < wc.heap.size := World.block_lt_of_cell? wc _ s8
      clear hh6
      obtain ⟨b4, d4, w4, hrun4, mB⟩ := Mem.app1 (P := Tryd.prog) (t := 53) (ty := 53) [BlockA (w.heap.size + 1) #[.int .i64 ok, .string oy, .string ov, .int .i64 on] 60, BlockA w.heap.size #[.int .i64 rc0, .int .i64 rs0, .string rv, .bool rh] 36, BlockA g #[.int .i64 tx, .int .i64 stamp, .int .i64 tries, .pointer (some ⟨mg, 0, none⟩), .slice (some ⟨pg, 0, none⟩) n pc, .int .i64 attempt, .int .i64 phase, .int .i64 nth, .string srv, .bool srh, .string swv, .bool swh, .slice ra res.length rc, .slice ta tl.length tc, .slice none 0 0, .int .i64 outcome, .bool quits] 69, RowA 60 4 (some ⟨pg, 0, none⟩) n pc (opFlat l)] (r := RowA 3 1 ta tl.length tc (intsV tl) :: MapA mg ss :: r) Tryd.underlying53 infoRs (by rfl) (by decide) (Mem.below HC.out (bel_drew wc)) [.string srv, .bool srh] (by rfl) (by simp [Value.oneCell']) (by omega) (by decide)
      have HR4 := Lib.hid hrun4
      have HM8 : Hid (Mem w0 D0 (w4) (BlockA (w.heap.size + 1) #[.int .i64 ok, .string oy, .string ov, .int .i64 on] 60 :: BlockA w.heap.size #[.int .i64 rc0, .int .i64 rs0, .string rv, .bool rh] 36 :: BlockA g #[.int .i64 tx, .int .i64 stamp, .int .i64 tries, .pointer (some ⟨mg, 0, none⟩), .slice (some ⟨pg, 0, none⟩) n pc, .int .i64 attempt, .int .i64 phase, .int .i64 nth, .string srv, .bool srh, .string swv, .bool swh, .slice ra res.length rc, .slice ta tl.length tc, .slice none 0 0, .int .i64 outcome, .bool quits] 69 :: [RowA 60 4 (some ⟨pg, 0, none⟩) n pc (opFlat l), RowA 52 2 b4 (res.length + 1) d4 (rsFlat res ++ [.string srv, .bool srh]), RowA 3 1 ta tl.length tc (intsV tl)] ++ MapA mg ss :: r)) := Lib.hid mB
      clear hrun4 mB
      have hh7 := Mem.heapAt [BlockA (w.heap.size + 1) #[.int .i64 ok, .string oy, .string ov, .int .i64 on] 60, BlockA w.heap.size #[.int .i64 rc0, .int .i64 rs0, .string rv, .bool rh] 36] (r := [RowA 60 4 (some ⟨pg, 0, none⟩) n pc (opFlat l), RowA 52 2 b4 (res.length + 1) d4 (rsFlat res ++ [.string srv, .bool srh]), RowA 3 1 ta tl.length tc (intsV tl)] ++ MapA mg ss :: r) HM8.out
      obtain ⟨y12, yf12⟩ := cell_of_heap (i := 12) (v := .slice ra res.length rc) hh7 rfl
      obtain ⟨y8, -⟩ := cell_of_heap (i := 8) (v := .string srv) hh7 rfl
      obtain ⟨y9, -⟩ := cell_of_heap (i := 9) (v := .bool srh) hh7 rfl
      clear hh7
      go_upto_region 3 with (fail)
      refine wp_region_till (fun W => W.cell? ⟨g, 12, none⟩ = some (.slice ra res.length rc) ∧ W.cell? ⟨g, 8, none⟩ = some (.string srv) ∧ W.cell? ⟨g, 9, none⟩ = some (.bool srh)) 13 (by kernel_rfl) (HSS.out _ (below_drew (Below.refl _ _))) (fun hM hS => ?_)
      refine till_op (v := ?_) 0 [11, 12] hM rfl (by kernel_rfl) (by kernel_rfl) (by kernel_rfl) (by kernel_rfl) rfl (fun _ _ _ h => h) (Or.inl ⟨by rfl, ?_⟩) hS (fun hM => ?_)
      rotate_left
      · intro W hSw
        (try dsimp only at hSw)
        go_simp
        try with_reducible rfl
      try simp only [Act.put, List.setIfInBounds_toArray, List.set_cons_zero, List.set_cons_succ]
      refine till_op (v := ?_) 1 [2, 3, 4, 10] hM rfl (by kernel_rfl) (by kernel_rfl) (by kernel_rfl) (by kernel_rfl) rfl (fun _ _ _ h => h) (Or.inl ⟨by rfl, ?_⟩) hS (fun hM => ?_)
      rotate_left
      · intro W hSw
        (try dsimp only at hSw)
        go_simp
        try with_reducible rfl
      try simp only [Act.put, List.setIfInBounds_toArray, List.set_cons_zero, List.set_cons_succ]
      refine till_op (v := ?_) 2 [3, 4, 10] hM rfl (by kernel_rfl) (by kernel_rfl) (by kernel_rfl) (by kernel_rfl) rfl (fun _ _ _ h => h) (Or.inl ⟨by rfl, ?_⟩) hS (fun hM => ?_)
      rotate_left
      · intro W hSw
        (try dsimp only at hSw)
        go_simp
        try with_reducible rfl
      try simp only [Act.put, List.setIfInBounds_toArray, List.set_cons_zero, List.set_cons_succ]
      refine till_op (v := ?_) 3 [4, 10] hM rfl (by kernel_rfl) (by kernel_rfl) (by kernel_rfl) (by kernel_rfl) rfl (fun _ _ _ h => h) (Or.inl ⟨by rfl, ?_⟩) hS (fun hM => ?_)
      rotate_left
      · intro W hSw
        (try dsimp only at hSw)
        go_simp
        try with_reducible rfl
      try simp only [Act.put, List.setIfInBounds_toArray, List.set_cons_zero, List.set_cons_succ]
      refine till_op (v := ?_) 4 [10] hM rfl (by kernel_rfl) (by kernel_rfl) (by kernel_rfl) (by kernel_rfl) rfl (fun _ _ _ h => h) (Or.inl ⟨by rfl, ?_⟩) hS (fun hM => ?_)
      rotate_left
      · intro W hSw
        (try dsimp only at hSw)
        go_simp
        try with_reducible rfl
      try simp only [Act.put, List.setIfInBounds_toArray, List.set_cons_zero, List.set_cons_succ]
      refine till_op (v := ?_) 5 [6, 7, 8, 9, 10] hM rfl (by kernel_rfl) (by kernel_rfl) (by kernel_rfl) (by kernel_rfl) rfl (fun _ _ _ h => h) (Or.inl ⟨by rfl, ?_⟩) hS (fun hM => ?_)
      rotate_left
      · intro W hSw
        (try dsimp only at hSw)
        go_simp
        try with_reducible rfl
      try simp only [Act.put, List.setIfInBounds_toArray, List.set_cons_zero, List.set_cons_succ]
      refine till_op (v := ?_) 6 [7, 8, 9, 10] hM rfl (by kernel_rfl) (by kernel_rfl) (by kernel_rfl) (by kernel_rfl) rfl (fun _ _ _ h => h) (Or.inl ⟨by rfl, ?_⟩) hS (fun hM => ?_)
      rotate_left
      · intro W hSw
        (try dsimp only at hSw)
        go_simp
        try with_reducible rfl
      try simp only [Act.put, List.setIfInBounds_toArray, List.set_cons_zero, List.set_cons_succ]
      refine till_op (v := ?_) 7 [8, 9, 10] hM rfl (by kernel_rfl) (by kernel_rfl) (by kernel_rfl) (by kernel_rfl) rfl (fun _ _ _ h => h) (Or.inl ⟨by rfl, ?_⟩) hS (fun hM => ?_)
      rotate_left
      · intro W hSw
        (try dsimp only at hSw)
        go_simp
        try with_reducible rfl
      try simp only [Act.put, List.setIfInBounds_toArray, List.set_cons_zero, List.set_cons_succ]
      refine till_op (v := ?_) 8 [9, 10] hM rfl (by kernel_rfl) (by kernel_rfl) (by kernel_rfl) (by kernel_rfl) rfl (fun _ _ _ h => h) (Or.inl ⟨by rfl, ?_⟩) hS (fun hM => ?_)
      rotate_left
      · intro W hSw
        (try dsimp only at hSw)
        go_simp
        try with_reducible rfl
      try simp only [Act.put, List.setIfInBounds_toArray, List.set_cons_zero, List.set_cons_succ]
      refine till_one 9 hM rfl (by kernel_rfl) (fun K hK => ?_)
      go_simp
      refine hK _ _ (fun _ => HSS.out ((wc.alloc (.cells #[.string srv, .bool srh] 52)).drew) (below_drew ((Below.refl _ _).alloc (Nat.le_refl _) _))) (fun hM => ?_)
      have hS := HSS.out ((wc.alloc (.cells #[.string srv, .bool srh] 52)).drew) (below_drew ((Below.refl _ _).alloc (Nat.le_refl _) _))
      clear hK K
      try simp only [Act.put, List.setIfInBounds_toArray, List.set_cons_zero, List.set_cons_succ]
      refine till_one 10 hM rfl (by kernel_rfl) (fun K hK => ?_)
      refine step_appendR rfl (.tmp 39) (.tmp 44) 53 53 rfl (.slice ra res.length rc) (.slice (some ⟨wc.drew.heap.size, 0, none⟩) 1 1) (by rfl) (by rfl) HR4.out ?_
      refine hK _ _ (fun _ => (And.intro y12 (And.intro y8 y9))) (fun hM => ?_)
      have hS := (And.intro y12 (And.intro y8 y9))
      clear hK K
      try simp only [Act.put, List.setIfInBounds_toArray, List.set_cons_zero, List.set_cons_succ]
      refine till_op (v := ?_) 11 [12] hM rfl (by kernel_rfl) (by kernel_rfl) (by kernel_rfl) (by kernel_rfl) rfl (fun _ _ _ h => h) (Or.inl ⟨by rfl, ?_⟩) hS (fun hM => ?_)
      rotate_left
      · intro W hSw
        (try dsimp only at hSw)
        go_simp
        try with_reducible rfl
      try simp only [Act.put, List.setIfInBounds_toArray, List.set_cons_zero, List.set_cons_succ]
      refine till_op (v := ?_) 12 [] hM rfl (by kernel_rfl) (by kernel_rfl) (by kernel_rfl) (by kernel_rfl) rfl (fun _ _ _ h => h) (Or.inl ⟨by rfl, ?_⟩) hS (fun hM => ?_)
      rotate_left
      · intro W hSw
        (try dsimp only at hSw)
        go_simp
        try with_reducible rfl
      try simp only [Act.put, List.setIfInBounds_toArray, List.set_cons_zero, List.set_cons_succ]
      have HM9 : Hid (Mem w0 D0 (w4.setCell ⟨g, 12, none⟩ (.slice b4 (res.length + 1) d4)) (BlockA (w.heap.size + 1) #[.int .i64 ok, .string oy, .string ov, .int .i64 on] 60 :: BlockA w.heap.size #[.int .i64 rc0, .int .i64 rs0, .string rv, .bool rh] 36 :: BlockA g #[.int .i64 tx, .int .i64 stamp, .int .i64 tries, .pointer (some ⟨mg, 0, none⟩), .slice (some ⟨pg, 0, none⟩) n pc, .int .i64 attempt, .int .i64 phase, .int .i64 nth, .string srv, .bool srh, .string swv, .bool swh, .slice b4 (res.length + 1) d4, .slice ta tl.length tc, .slice none 0 0, .int .i64 outcome, .bool quits] 69 :: [RowA 60 4 (some ⟨pg, 0, none⟩) n pc (opFlat l), RowA 52 2 b4 (res.length + 1) d4 (rsFlat res ++ [.string srv, .bool srh]), RowA 3 1 ta tl.length tc (intsV tl)] ++ MapA mg ss :: r)) := Lib.hid (Mem.setAt [BlockA (w.heap.size + 1) #[.int .i64 ok, .string oy, .string ov, .int .i64 on] 60, BlockA w.heap.size #[.int .i64 rc0, .int .i64 rs0, .string rv, .bool rh] 36] (r := [RowA 60 4 (some ⟨pg, 0, none⟩) n pc (opFlat l), RowA 52 2 b4 (res.length + 1) d4 (rsFlat res ++ [.string srv, .bool srh]), RowA 3 1 ta tl.length tc (intsV tl)] ++ MapA mg ss :: r) (i := 12) HM8.out (.slice b4 (res.length + 1) d4))
      refine till_one 13 hM rfl (by kernel_rfl) (fun K hK => ?_)
      go_simp
      refine hK _ _ (fun h => absurd rfl h) (fun hM => ?_)
      clear hK K
      try simp only [Act.put, List.setIfInBounds_toArray, List.set_cons_zero, List.set_cons_succ]
      refine till_done (by kernel_rfl) ?_ _
      generalize w4.setCell ⟨g, 12, none⟩ (.slice b4 (res.length + 1) d4) = w5 at *
      clear HM8 HC HSS HR4 y12 y8 y9 yf12 s12 s8 s9 sf12 hS hM
      have hh8 := Mem.heapAt [] HM9.out
      have v0 := (cell_of_heap (i := 0) (v := .int .i64 ok) hh8 rfl).1
      have v1 := (cell_of_heap (i := 1) (v := .string oy) hh8 rfl).1
      have v2 := (cell_of_heap (i := 2) (v := .string ov) hh8 rfl).1
      have v3 := (cell_of_heap (i := 3) (v := .int .i64 on) hh8 rfl).1
      have HFIN : Hid (∀ W ph, ph < 7 → Mem w0 D0 (W) (BlockA (w.heap.size + 1) #[.int .i64 ok, .string oy, .string ov, .int .i64 on] 60 :: BlockA w.heap.size #[.int .i64 rc0, .int .i64 rs0, .string rv, .bool rh] 36 :: BlockA g #[.int .i64 tx, .int .i64 stamp, .int .i64 tries, .pointer (some ⟨mg, 0, none⟩), .slice (some ⟨pg, 0, none⟩) n pc, .int .i64 attempt, .int .i64 ph, .int .i64 nth, .string srv, .bool srh, .string swv, .bool swh, .slice b4 (res.length + 1) d4, .slice ta tl.length tc, .slice none 0 0, .int .i64 outcome, .bool quits] 69 :: [RowA 60 4 (some ⟨pg, 0, none⟩) n pc (opFlat l), RowA 52 2 b4 (res.length + 1) d4 (rsFlat res ++ [.string srv, .bool srh]), RowA 3 1 ta tl.length tc (intsV tl)] ++ MapA mg ss :: r) → Mem w0 D0 W (DrA g mg l ⟨tx, stamp, tries, attempt, ph, nth, ⟨srv, srh⟩, ⟨swv, swh⟩, (res ++ [⟨srv, srh⟩]), tl, outcome, quits⟩ :: MapA mg ss :: r)) := Lib.hid fun W ph hph h => by
        have h1 := Mem.drop [] (A := BlockA (w.heap.size + 1) #[.int .i64 ok, .string oy, .string ov, .int .i64 on] 60) (r := BlockA w.heap.size #[.int .i64 rc0, .int .i64 rs0, .string rv, .bool rh] 36 :: BlockA g #[.int .i64 tx, .int .i64 stamp, .int .i64 tries, .pointer (some ⟨mg, 0, none⟩), .slice (some ⟨pg, 0, none⟩) n pc, .int .i64 attempt, .int .i64 ph, .int .i64 nth, .string srv, .bool srh, .string swv, .bool swh, .slice b4 (res.length + 1) d4, .slice ta tl.length tc, .slice none 0 0, .int .i64 outcome, .bool quits] 69 :: ([RowA 60 4 (some ⟨pg, 0, none⟩) n pc (opFlat l), RowA 52 2 b4 (res.length + 1) d4 (rsFlat res ++ [.string srv, .bool srh]), RowA 3 1 ta tl.length tc (intsV tl)] ++ MapA mg ss :: r)) h
        have h2 := Mem.drop [] (A := BlockA w.heap.size #[.int .i64 rc0, .int .i64 rs0, .string rv, .bool rh] 36) (r := BlockA g #[.int .i64 tx, .int .i64 stamp, .int .i64 tries, .pointer (some ⟨mg, 0, none⟩), .slice (some ⟨pg, 0, none⟩) n pc, .int .i64 attempt, .int .i64 ph, .int .i64 nth, .string srv, .bool srh, .string swv, .bool swh, .slice b4 (res.length + 1) d4, .slice ta tl.length tc, .slice none 0 0, .int .i64 outcome, .bool quits] 69 :: ([RowA 60 4 (some ⟨pg, 0, none⟩) n pc (opFlat l), RowA 52 2 b4 (res.length + 1) d4 (rsFlat res ++ [.string srv, .bool srh]), RowA 3 1 ta tl.length tc (intsV tl)] ++ MapA mg ss :: r)) h1
        refine Mem.closeW (d := ⟨tx, stamp, tries, attempt, ph, nth, ⟨srv, srh⟩, ⟨swv, swh⟩, (res ++ [⟨srv, srh⟩]), tl, outcome, quits⟩) (pa := (some ⟨pg, 0, none⟩)) (pc := pc) (ra := b4) (rc := d4) (ta := ta) (tc := tc) ?_ hph
        have e1 : (res ++ [(⟨srv, srh⟩ : Rs)]).length = res.length + 1 := by simp
        have e2 := rsFlat_snoc res ⟨srv, srh⟩
        simp only at e2
        rw [← e1, ← e2, ← HN.out] at h2
        exact h2
      clear hh8
      go_wp2_with fail
      refine (HWR.out _).mono ?_
      rintro e w6 ⟨rfl, hb6⟩
      have HM10 := Lib.hid (Mem.below HM9.out hb6)
      have hh9 := Mem.heapAt [BlockA (w.heap.size + 1) #[.int .i64 ok, .string oy, .string ov, .int .i64 on] 60, BlockA w.heap.size #[.int .i64 rc0, .int .i64 rs0, .string rv, .bool rh] 36] (r := [RowA 60 4 (some ⟨pg, 0, none⟩) n pc (opFlat l), RowA 52 2 b4 (res.length + 1) d4 (rsFlat res ++ [.string srv, .bool srh]), RowA 3 1 ta tl.length tc (intsV tl)] ++ MapA mg ss :: r) HM10.out
      obtain ⟨x6, xf6⟩ := cell_of_heap (i := 6) (v := .int .i64 phase) hh9 rfl
      obtain ⟨x7, -⟩ := cell_of_heap (i := 7) (v := .int .i64 nth) hh9 rfl
      clear hb6 HM9 hh9 v0 v1 v2 v3 HWR
      cases hwr : wrB ok with
      | true =>
        rw [hwr, if_pos rfl] at HG
        clear hwr
        go_wp2_with fail
        refine bodyPost_ret (v := .tuple #[]) (by simp [results, Tryd.results45, go_sem]) rfl ⟨rfl, ?_⟩
        rw [HG.out]
        exact HFIN.out _ 4 (by decide) (Mem.setAt [BlockA (w.heap.size + 1) #[.int .i64 ok, .string oy, .string ov, .int .i64 on] 60, BlockA w.heap.size #[.int .i64 rc0, .int .i64 rs0, .string rv, .bool rh] 36] (r := [RowA 60 4 (some ⟨pg, 0, none⟩) n pc (opFlat l), RowA 52 2 b4 (res.length + 1) d4 (rsFlat res ++ [.string srv, .bool srh]), RowA 3 1 ta tl.length tc (intsV tl)] ++ MapA mg ss :: r) (i := 6) HM10.out (.int .i64 4))
      | false =>
        rw [hwr, if_neg (by decide)] at HG
        clear hwr
        have hn9 : n ≤ 1000 := HL.out
        have MD := Lib.hid (HFIN.out _ phase hp HM10.out)
        have HBE := Lib.hid (begins_any (nth + 1) MD.out hp (by omega) hr HHS.out (by rw [HN.out]; exact HL.out) ht)
        clear HFIN HM10 MD
        have hw := IntWalk.i64_in ((nth : Int) + 1) (by omega)
        have hce : ((nth + 1 : Nat) : Int) = (nth : Int) + 1 := by omega
        rw [hce] at HBE
        clear hce
        go_wp2_with fail
        refine HBE.out.mono ?_
        rintro e w7 ⟨rfl, hm⟩
        have HF := Lib.hid hm
        clear hm HBE
        go_wp2_with fail
        go_end0
        refine ⟨rfl, ?_⟩
        rw [HG.out]
        exact HF.out
end
end Go.Proofs.YtmifgnibalbgjaaDoor

