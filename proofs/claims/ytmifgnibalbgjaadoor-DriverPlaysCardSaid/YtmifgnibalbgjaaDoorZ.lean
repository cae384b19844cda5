/- A driver's results; an answer to what it doesn't ask for; the fixed calls. -/
import Derived.Test.YtmifgnibalbgjaaDoorY
namespace Go.Proofs.YtmifgnibalbgjaaDoor
open Go.RowKit
theorem Mem.blockB {w0 w : World} {D0 : List Nat} {A B : Asn} {r : List Asn} [Stable A] [Stable B] [Stables r] (h : Mem w0 D0 w (A :: B :: r)) (C : Array Value) (T : TypeId) : Mem w0 D0 (w.alloc (.cells C T)) (A :: B :: BlockA w.heap.size C T :: r) :=
  Mem.swap [A] (Mem.swap [] (h.block C T))
theorem results_no {w0 w : World} {D0 : List Nat} {g mg : Nat} {l : List Opp} {d : Dr} {ss : List ByteArray} {r : List Asn} (M : Mem w0 D0 w (DrA g mg l d :: MapA mg ss :: r)) (hp : d.phase ≠ 8) :
    Calls Tryd.prog 20 #[.pointer (some ⟨g, 0, none⟩)] w fun e w' => e = .returned (.slice none 0 0) ∧ w = w' := by
  obtain ⟨pa, pc, ra, rc, tv, lv, hg⟩ := Mem.drAt M
  obtain ⟨c6, -⟩ := drC_cell hg 6 (.int .i64 d.phase) rfl
  generalize d.phase = ph at *
  have h1 : (ph == 8) = false := by simpa using hp
  have h2 : (ph != 8) = true := by simpa using hp
  clear hg M hp
  go_enter Tryd.func20, Tryd.ntmps20
  go_wp2_with fail
  go_ret
  exact ⟨rfl, rfl⟩
section
variable {w0 w : World} {D0 : List Nat} {g mg : Nat} {l : List Opp} {d : Dr} {ss : List ByteArray} {r : List Asn} [Stables r]
set_option maxRecDepth 100000 in
set_option maxHeartbeats 8000000 in
theorem results_any (M : Mem w0 D0 w (DrA g mg l d :: MapA mg ss :: r)) (hp : d.phase = 8) (hn : d.res.length ≤ 100000) :
    Calls Tryd.prog 20 #[.pointer (some ⟨g, 0, none⟩)] w fun e w' => ∃ a c, e = .returned (.slice a d.res.length c) ∧ Mem w0 D0 w' (DrA g mg l d :: MapA mg ss :: RowA 52 2 a d.res.length c (rsFlat d.res) :: r) := by
  obtain ⟨pa, pc, ra, rc, tv, lv, MD⟩ := Mem.openD M
  have hg := Mem.heapAt [] MD
  obtain ⟨c6, -⟩ := drC_cell hg 6 (.int .i64 d.phase) rfl
  obtain ⟨c12, -⟩ := drC_cell hg 12 (.slice ra d.res.length rc) rfl
  rw [hp] at c6
  have hrow := Mem.rowAt [BlockA g (drC d mg pa l.length pc ra d.res.length rc tv lv) 69, RowA 60 4 pa l.length pc (opFlat l)] (r := TlA d.phase tv lv d.tl :: MapA mg ss :: r) MD
  have HCL := Lib.hid (cloneRs_row ra d.res.length rc d.res w rfl hn fun j hj => by
    obtain ⟨b, ha, h0, h1⟩ := rsAt_row hrow j hj
    exact ⟨b, 0, ha, by rw [Nat.zero_add]; exact h0, by rw [Nat.zero_add]; exact h1⟩)
  have HM := Lib.hid M
  clear hg MD hrow M hp
  generalize hrl : d.res.length = rl at *
  clear hrl
  go_enter Tryd.func20, Tryd.ntmps20
  go_wp2_with fail
  refine HCL.out.mono ?_
  rintro e w1 ⟨a, c, rfl, hm⟩
  have HM2 : Hid (Mem w0 D0 w1 (DrA g mg l d :: MapA mg ss :: RowA 52 2 a rl c (rsFlat d.res) :: r)) := Lib.hid (by
    obtain ⟨D, hA, hD⟩ := hm.out
    exact Mem.swap [DrA g mg l d] (Mem.swap [] (HM.out.new hm.bel (As := [RowA 52 2 a rl c (rsFlat d.res)]) hA fun x hx => by
      rcases hD.fresh x hx with h | h
      · cases h
      · exact h)))
  clear hm HCL HM
  go_wp2_with fail
  go_ret
  exact ⟨a, c, rfl, HM2.out⟩
set_option maxRecDepth 100000 in
set_option maxHeartbeats 8000000 in
theorem told_nk (q : Cmd) (p : Rep) (M : Mem w0 D0 w (DrA g mg l d :: MapA mg ss :: r)) (ok : DOk ss l d) (hp : d.phase ≠ 8) (hq : q.kind ≠ (nextC l d).kind) :
    Calls Tryd.prog 12 #[.pointer (some ⟨g, 0, none⟩), Cmd.val q, Rep.val p] w fun e w' => e = .returned (.bool false) ∧ Mem w0 D0 w' (DrA g mg l d :: MapA mg ss :: r) := by
  obtain ⟨pc0, ps0, pv, ph0⟩ := p
  have HNX0 := Lib.hid fun W (hW : Mem w0 D0 W (DrA g mg l d :: MapA mg ss :: r)) => next_any hW ok
  unfold nextE Cmd.val at HNX0
  rw [show decide (d.phase ≠ 8) = true by simpa using hp] at HNX0
  generalize nextC l d = c at *
  generalize nextS ss l d = ns at *
  have HM2 : Hid (Mem w0 D0 ((w.alloc (.cells #[.int .i64 q.kind, .int .i64 q.tx, .int .i64 q.attempt, .int .i64 q.stamp, .int .i64 q.op, .string q.key, .string q.value, .int .i64 q.mode, .bool q.yes] 38)).alloc (.cells #[.int .i64 pc0, .int .i64 ps0, .string pv, .bool ph0] 36)) (BlockA (w.heap.size + 1) #[.int .i64 pc0, .int .i64 ps0, .string pv, .bool ph0] 36 :: BlockA w.heap.size #[.int .i64 q.kind, .int .i64 q.tx, .int .i64 q.attempt, .int .i64 q.stamp, .int .i64 q.op, .string q.key, .string q.value, .int .i64 q.mode, .bool q.yes] 38 :: DrA g mg l d :: MapA mg ss :: r)) := Lib.hid (by
    have m := (M.block #[.int .i64 q.kind, .int .i64 q.tx, .int .i64 q.attempt, .int .i64 q.stamp, .int .i64 q.op, .string q.key, .string q.value, .int .i64 q.mode, .bool q.yes] 38).block #[.int .i64 pc0, .int .i64 ps0, .string pv, .bool ph0] 36
    simpa using m)
  have HDR : Hid (∀ W B1 B2, Stable B1 → Stable B2 → Mem w0 D0 W (B1 :: B2 :: DrA g mg l d :: MapA mg ss :: r) → Mem w0 D0 W (DrA g mg l d :: MapA mg ss :: r)) := Lib.hid fun W B1 B2 s1 s2 h => Mem.drop [] (A := B2) (Mem.drop [] (A := B1) (r := B2 :: DrA g mg l d :: MapA mg ss :: r) h)
  have HNX := Lib.hid (HNX0.out _ (HDR.out _ _ _ inferInstance inferInstance HM2.out))
  have bq : (q.kind == c.kind) = false := by simpa using hq
  unfold Cmd.val Rep.val
  simp only
  clear M ok HNX0 hp hq
  go_enter Tryd.func12, Tryd.ntmps12
  go_wp2_with fail
  refine HNX.out.mono ?_
  rintro e w1 ⟨rfl, hb⟩
  have HM3 := Lib.hid (Mem.below HM2.out hb)
  have hh2 := Mem.heapAt [BlockA (w.heap.size + 1) #[.int .i64 pc0, .int .i64 ps0, .string pv, .bool ph0] 36] (r := DrA g mg l d :: MapA mg ss :: r) HM3.out
  have u0 := (cell_of_heap (i := 0) (v := .int .i64 q.kind) hh2 rfl).1
  have u1 := (cell_of_heap (i := 1) (v := .int .i64 q.tx) hh2 rfl).1
  have u2 := (cell_of_heap (i := 2) (v := .int .i64 q.attempt) hh2 rfl).1
  have u3 := (cell_of_heap (i := 3) (v := .int .i64 q.stamp) hh2 rfl).1
  have u4 := (cell_of_heap (i := 4) (v := .int .i64 q.op) hh2 rfl).1
  have u5 := (cell_of_heap (i := 5) (v := .string q.key) hh2 rfl).1
  have u6 := (cell_of_heap (i := 6) (v := .string q.value) hh2 rfl).1
  have u7 := (cell_of_heap (i := 7) (v := .int .i64 q.mode) hh2 rfl).1
  have u8 := (cell_of_heap (i := 8) (v := .bool q.yes) hh2 rfl).1
  have M6 := HDR.out _ _ _ inferInstance inferInstance HM3.out
  have HD := Lib.hid (M6.below (bel_new w1 (.cells #[.int .i64 c.kind, .int .i64 c.tx, .int .i64 c.attempt, .int .i64 c.stamp, .int .i64 c.op, .string c.key, .string c.value, .int .i64 c.mode, .bool c.yes] 38)))
  have hl0 := World.block_lt_of_cell? w1 _ u0
  simp only at hl0
  clear hb hh2 M6 HM2 HNX HM3 HDR
  go_wp2_with fail
  go_ret
  exact ⟨rfl, HD.out⟩
end
theorem newNil (w : World) : Calls Tryd.prog 8 #[.int .i64 1, .int .i64 5, .pointer none, .slice none 0 0, .int .i64 3] w fun e w' => e = .returned (.tuple #[.pointer none, .int .i64 1]) ∧ w = w' := by
  go_enter Tryd.func8, Tryd.ntmps8
  go_wp2_with fail
  go_ret2
  exact ⟨rfl, rfl⟩
def sA : ByteArray := ⟨#[97]⟩
def sV : ByteArray := ⟨#[118]⟩
def pl1 : List Opp := [⟨1, ⟨#[97]⟩, ⟨#[]⟩, 0⟩]
def fd0 : Dr := ⟨1, 5, 3, 0, 0, 0, rs0, rs0, [], [], 1, false⟩
def fd1 : Dr := ⟨1, 5, 3, 0, 1, 0, rs0, rs0, [], [0], 1, false⟩
def fd2 : Dr := ⟨1, 5, 3, 0, 3, 0, rs0, rs0, [], [0], 1, false⟩
def fd3 : Dr := ⟨1, 5, 3, 0, 5, 1, ⟨⟨#[118]⟩, true⟩, rs0, [⟨⟨#[118]⟩, true⟩], [0], 1, false⟩
def fd4 : Dr := ⟨1, 5, 3, 0, 7, 1, ⟨⟨#[118]⟩, true⟩, rs0, [⟨⟨#[118]⟩, true⟩], [0], 2, false⟩
def fd5 : Dr := ⟨1, 5, 3, 0, 8, 1, ⟨⟨#[118]⟩, true⟩, rs0, [⟨⟨#[118]⟩, true⟩], [], 2, false⟩
theorem fok0 : DOk [] pl1 fd0 := ⟨by decide, by decide, by decide, by decide, by decide, by decide, by decide, by decide, by decide, by decide, by decide, by decide⟩
theorem fnx0 : nextE [] pl1 fd0 = .returned (.tuple #[.int .i64 0, .agg #[.int .i64 1, .int .i64 1, .int .i64 0, .int .i64 5, .int .i64 0, .string ⟨#[]⟩, .string ⟨#[]⟩, .int .i64 0, .bool false], .bool true]) := by rfl
theorem fnc0 : Cmd.val (nextC pl1 fd0) = .agg #[.int .i64 1, .int .i64 1, .int .i64 0, .int .i64 5, .int .i64 0, .string ⟨#[]⟩, .string ⟨#[]⟩, .int .i64 0, .bool false] := by rfl
theorem ftl0 : toldM [] pl1 fd0 ⟨0, 1, ⟨#[]⟩, false⟩ = fd1 := by rfl
theorem fok1 : DOk [] pl1 fd1 := ⟨by decide, by decide, by decide, by decide, by decide, by decide, by decide, by decide, by decide, by decide, by decide, by decide⟩
theorem fnx1 : nextE [] pl1 fd1 = .returned (.tuple #[.int .i64 0, .agg #[.int .i64 2, .int .i64 1, .int .i64 0, .int .i64 0, .int .i64 0, .string ⟨#[97]⟩, .string ⟨#[]⟩, .int .i64 1, .bool false], .bool true]) := by rfl
theorem fnc1 : Cmd.val (nextC pl1 fd1) = .agg #[.int .i64 2, .int .i64 1, .int .i64 0, .int .i64 0, .int .i64 0, .string ⟨#[97]⟩, .string ⟨#[]⟩, .int .i64 1, .bool false] := by rfl
theorem ftl1 : toldM [] pl1 fd1 ⟨0, 0, ⟨#[]⟩, false⟩ = fd2 := by rfl
theorem fok2 : DOk [] pl1 fd2 := ⟨by decide, by decide, by decide, by decide, by decide, by decide, by decide, by decide, by decide, by decide, by decide, by decide⟩
theorem fnx2 : nextE [] pl1 fd2 = .returned (.tuple #[.int .i64 0, .agg #[.int .i64 3, .int .i64 1, .int .i64 0, .int .i64 0, .int .i64 1, .string ⟨#[97]⟩, .string ⟨#[]⟩, .int .i64 0, .bool false], .bool true]) := by rfl
theorem fnc2 : Cmd.val (nextC pl1 fd2) = .agg #[.int .i64 3, .int .i64 1, .int .i64 0, .int .i64 0, .int .i64 1, .string ⟨#[97]⟩, .string ⟨#[]⟩, .int .i64 0, .bool false] := by rfl
theorem ftl2 : toldM [] pl1 fd2 ⟨0, 0, ⟨#[118]⟩, true⟩ = fd3 := by rfl
theorem fok3 : DOk [] pl1 fd3 := ⟨by decide, by decide, by decide, by decide, by decide, by decide, by decide, by decide, by decide, by decide, by decide, by decide⟩
theorem fnx3 : nextE [] pl1 fd3 = .returned (.tuple #[.int .i64 0, .agg #[.int .i64 5, .int .i64 1, .int .i64 0, .int .i64 0, .int .i64 0, .string ⟨#[]⟩, .string ⟨#[]⟩, .int .i64 0, .bool false], .bool true]) := by rfl
theorem fnc3 : Cmd.val (nextC pl1 fd3) = .agg #[.int .i64 5, .int .i64 1, .int .i64 0, .int .i64 0, .int .i64 0, .string ⟨#[]⟩, .string ⟨#[]⟩, .int .i64 0, .bool false] := by rfl
theorem ftl3 : toldM [] pl1 fd3 ⟨0, 2, ⟨#[]⟩, false⟩ = fd4 := by rfl
theorem fok4 : DOk [] pl1 fd4 := ⟨by decide, by decide, by decide, by decide, by decide, by decide, by decide, by decide, by decide, by decide, by decide, by decide⟩
theorem fnx4 : nextE [] pl1 fd4 = .returned (.tuple #[.int .i64 0, .agg #[.int .i64 7, .int .i64 1, .int .i64 0, .int .i64 0, .int .i64 0, .string ⟨#[]⟩, .string ⟨#[]⟩, .int .i64 0, .bool true], .bool true]) := by rfl
theorem fnc4 : Cmd.val (nextC pl1 fd4) = .agg #[.int .i64 7, .int .i64 1, .int .i64 0, .int .i64 0, .int .i64 0, .string ⟨#[]⟩, .string ⟨#[]⟩, .int .i64 0, .bool true] := by rfl
theorem ftl4 : toldM [] pl1 fd4 ⟨0, 0, ⟨#[]⟩, false⟩ = fd5 := by rfl
theorem fok5 : DOk [] pl1 fd5 := ⟨by decide, by decide, by decide, by decide, by decide, by decide, by decide, by decide, by decide, by decide, by decide, by decide⟩
theorem fnx5 : nextE [] pl1 fd5 = .returned (.tuple #[.int .i64 0, .agg #[.int .i64 0, .int .i64 0, .int .i64 0, .int .i64 0, .int .i64 0, .string ⟨#[]⟩, .string ⟨#[]⟩, .int .i64 0, .bool false], .bool false]) := by rfl
theorem opsAt_one (w : World) : OpsAt (w.alloc (.cells #[.int .i64 1, .string ⟨#[97]⟩, .string ⟨#[]⟩, .int .i64 0] 60)) (some ⟨w.heap.size, 0, none⟩) 1 pl1 := ⟨rfl, fun j hj => by
  have hj0 : j = 0 := by simp [pl1] at hj; exact hj
  subst hj0
  obtain ⟨h0, h1, h2, h3⟩ := opAt_new w ⟨1, ⟨#[97]⟩, ⟨#[]⟩, 0⟩ 60
  exact ⟨w.heap.size, 0, rfl, ⟨h0, h1, h2, h3⟩, by show (-9223372036854775808 : Int) ≤ 1; decide, by show (1 : Int) ≤ 9223372036854775807; decide, by show 1 ≤ maxLen; decide, by show 0 ≤ maxLen; decide, by show (-9223372036854775808 : Int) ≤ 0; decide, by show (0 : Int) ≤ 9223372036854775807; decide⟩⟩
set_option maxRecDepth 100000 in
set_option maxHeartbeats 16000000 in
theorem fixed_any (w : World) (hv : LibV w) : Calls Tryd.prog 5 #[] w fun e w' => e = .returned (.bool true) ∧ Below w.heap.size w w' := by
  have HV := Lib.hid hv
  have HMN := Lib.hid (mapNew none 0 0 [] w (Nat.zero_le _) ⟨rfl, fun j hj => by omega⟩ (by decide) (by decide))
  clear hv
  go_enter Tryd.func5, Tryd.ntmps5
  go_wp2_with fail
  refine HMN.out.mono ?_
  rintro e w1 ⟨mg, rfl, hm⟩
  have HM1 : Hid (Mem w [] (w1.alloc (.cells #[.int .i64 1, .string ⟨#[97]⟩, .string ⟨#[]⟩, .int .i64 0] 60)) [MapA mg []]) := Lib.hid (Mem.below hm (bel_new _ _))
  have HDN := Lib.hid (drvNew (mg := mg) (w0 := w) (D0 := []) (r := [MapA mg []]) (l := pl1) 1 5 3 (some ⟨w1.heap.size, 0, none⟩) 1 1 HM1.out (opsAt_one w1) (by decide))
  clear hm HMN HM1
  go_wp2_with fail
  refine HDN.out.mono ?_
  rintro e w2 hnp
  have HNP : Hid (∃ g, e = .returned (.tuple #[.pointer (some ⟨g, 0, none⟩), .int .i64 0]) ∧ Mem w [] w2 (DrA g mg pl1 fd0 :: MapA mg [] :: [])) := Lib.hid (by
    rcases hnp with ⟨h, _⟩ | ⟨_, g, h1, h2⟩
    · exact absurd (by decide +kernel) h
    · exact ⟨g, h1, h2⟩)
  clear hnp HDN
  obtain ⟨g, rfl, hm⟩ := HNP.out
  have HM2 := Lib.hid hm
  clear hm HNP
  have HN := Lib.hid (next_any HM2.out fok0)
  rw [fnx0] at HN
  go_wp2_with fail
  refine HN.out.mono ?_
  rintro e w3 ⟨rfl, hb⟩
  have HM3 : Hid (Mem w [] (w3.alloc (.cells #[.int .i64 1, .int .i64 1, .int .i64 0, .int .i64 5, .int .i64 0, .string ⟨#[]⟩, .string ⟨#[]⟩, .int .i64 0, .bool false] 38)) (DrA g mg pl1 fd0 :: MapA mg [] :: BlockA w3.heap.size #[.int .i64 1, .int .i64 1, .int .i64 0, .int .i64 5, .int .i64 0, .string ⟨#[]⟩, .string ⟨#[]⟩, .int .i64 0, .bool false] 38 :: [])) := Lib.hid (Mem.blockB (Mem.below HM2.out hb) #[.int .i64 1, .int .i64 1, .int .i64 0, .int .i64 5, .int .i64 0, .string ⟨#[]⟩, .string ⟨#[]⟩, .int .i64 0, .bool false] 38)
  clear hb HN HM2
  have HT := Lib.hid (told_nk ⟨0, 0, 0, 0, 0, ⟨#[]⟩, ⟨#[]⟩, 0, false⟩ ⟨0, 0, ⟨#[]⟩, false⟩ HM3.out fok0 (by decide) (by decide))
  unfold Cmd.val Rep.val at HT
  simp only at HT
  go_wp2_with fail
  refine HT.out.mono ?_
  rintro e w4 ⟨rfl, hm⟩
  have HM4 := Lib.hid hm
  clear hm HT HM3
  have hh := Mem.heapAt [DrA g mg pl1 fd0, MapA mg []] (r := []) HM4.out
  have f0 := (cell_of_heap (i := 0) (v := .int .i64 1) hh rfl).1
  have f1 := (cell_of_heap (i := 1) (v := .int .i64 1) hh rfl).1
  have f2 := (cell_of_heap (i := 2) (v := .int .i64 0) hh rfl).1
  have f3 := (cell_of_heap (i := 3) (v := .int .i64 5) hh rfl).1
  have f4 := (cell_of_heap (i := 4) (v := .int .i64 0) hh rfl).1
  have f5 := (cell_of_heap (i := 5) (v := .string ⟨#[]⟩) hh rfl).1
  have f6 := (cell_of_heap (i := 6) (v := .string ⟨#[]⟩) hh rfl).1
  have f7 := (cell_of_heap (i := 7) (v := .int .i64 0) hh rfl).1
  have f8 := (cell_of_heap (i := 8) (v := .bool false) hh rfl).1
  clear hh
  have HT := Lib.hid (told_any ⟨0, 1, ⟨#[]⟩, false⟩ HM4.out fok0 (by decide) (by decide) (HV.out.below HM4.out.bel))
  rw [ftl0, fnc0] at HT
  unfold Rep.val at HT
  simp only at HT
  go_wp2_with fail
  refine HT.out.mono ?_
  rintro e w5 ⟨rfl, hm⟩
  have HM5 := Lib.hid hm
  clear hm HT HM4 f0 f1 f2 f3 f4 f5 f6 f7 f8
  have HN := Lib.hid (next_any HM5.out fok1)
  rw [fnx1] at HN
  go_wp2_with fail
  refine HN.out.mono ?_
  rintro e w6 ⟨rfl, hb⟩
  have HM6 : Hid (Mem w [] (w6.alloc (.cells #[.int .i64 2, .int .i64 1, .int .i64 0, .int .i64 0, .int .i64 0, .string ⟨#[97]⟩, .string ⟨#[]⟩, .int .i64 1, .bool false] 38)) (DrA g mg pl1 fd1 :: MapA mg [] :: BlockA w6.heap.size #[.int .i64 2, .int .i64 1, .int .i64 0, .int .i64 0, .int .i64 0, .string ⟨#[97]⟩, .string ⟨#[]⟩, .int .i64 1, .bool false] 38 :: BlockA w3.heap.size #[.int .i64 1, .int .i64 1, .int .i64 0, .int .i64 5, .int .i64 0, .string ⟨#[]⟩, .string ⟨#[]⟩, .int .i64 0, .bool false] 38 :: [])) := Lib.hid (Mem.blockB (Mem.below HM5.out hb) #[.int .i64 2, .int .i64 1, .int .i64 0, .int .i64 0, .int .i64 0, .string ⟨#[97]⟩, .string ⟨#[]⟩, .int .i64 1, .bool false] 38)
  clear hb HN HM5
  have hh := Mem.heapAt [DrA g mg pl1 fd1, MapA mg []] (r := [BlockA w3.heap.size #[.int .i64 1, .int .i64 1, .int .i64 0, .int .i64 5, .int .i64 0, .string ⟨#[]⟩, .string ⟨#[]⟩, .int .i64 0, .bool false] 38]) HM6.out
  have f0 := (cell_of_heap (i := 0) (v := .int .i64 2) hh rfl).1
  have f1 := (cell_of_heap (i := 1) (v := .int .i64 1) hh rfl).1
  have f2 := (cell_of_heap (i := 2) (v := .int .i64 0) hh rfl).1
  have f3 := (cell_of_heap (i := 3) (v := .int .i64 0) hh rfl).1
  have f4 := (cell_of_heap (i := 4) (v := .int .i64 0) hh rfl).1
  have f5 := (cell_of_heap (i := 5) (v := .string ⟨#[97]⟩) hh rfl).1
  have f6 := (cell_of_heap (i := 6) (v := .string ⟨#[]⟩) hh rfl).1
  have f7 := (cell_of_heap (i := 7) (v := .int .i64 1) hh rfl).1
  have f8 := (cell_of_heap (i := 8) (v := .bool false) hh rfl).1
  clear hh
  have HT := Lib.hid (told_any ⟨0, 0, ⟨#[]⟩, false⟩ HM6.out fok1 (by decide) (by decide) (HV.out.below HM6.out.bel))
  rw [ftl1, fnc1] at HT
  unfold Rep.val at HT
  simp only at HT
  go_wp2_with fail
  refine HT.out.mono ?_
  rintro e w7 ⟨rfl, hm⟩
  have HM7 := Lib.hid hm
  clear hm HT HM6 f0 f1 f2 f3 f4 f5 f6 f7 f8
  have HN := Lib.hid (next_any HM7.out fok2)
  rw [fnx2] at HN
  go_wp2_with fail
  refine HN.out.mono ?_
  rintro e w8 ⟨rfl, hb⟩
  have HM8 : Hid (Mem w [] (w8.alloc (.cells #[.int .i64 3, .int .i64 1, .int .i64 0, .int .i64 0, .int .i64 1, .string ⟨#[97]⟩, .string ⟨#[]⟩, .int .i64 0, .bool false] 38)) (DrA g mg pl1 fd2 :: MapA mg [] :: BlockA w8.heap.size #[.int .i64 3, .int .i64 1, .int .i64 0, .int .i64 0, .int .i64 1, .string ⟨#[97]⟩, .string ⟨#[]⟩, .int .i64 0, .bool false] 38 :: BlockA w6.heap.size #[.int .i64 2, .int .i64 1, .int .i64 0, .int .i64 0, .int .i64 0, .string ⟨#[97]⟩, .string ⟨#[]⟩, .int .i64 1, .bool false] 38 :: BlockA w3.heap.size #[.int .i64 1, .int .i64 1, .int .i64 0, .int .i64 5, .int .i64 0, .string ⟨#[]⟩, .string ⟨#[]⟩, .int .i64 0, .bool false] 38 :: [])) := Lib.hid (Mem.blockB (Mem.below HM7.out hb) #[.int .i64 3, .int .i64 1, .int .i64 0, .int .i64 0, .int .i64 1, .string ⟨#[97]⟩, .string ⟨#[]⟩, .int .i64 0, .bool false] 38)
  clear hb HN HM7
  have hh := Mem.heapAt [DrA g mg pl1 fd2, MapA mg []] (r := [BlockA w6.heap.size #[.int .i64 2, .int .i64 1, .int .i64 0, .int .i64 0, .int .i64 0, .string ⟨#[97]⟩, .string ⟨#[]⟩, .int .i64 1, .bool false] 38, BlockA w3.heap.size #[.int .i64 1, .int .i64 1, .int .i64 0, .int .i64 5, .int .i64 0, .string ⟨#[]⟩, .string ⟨#[]⟩, .int .i64 0, .bool false] 38]) HM8.out
  have f0 := (cell_of_heap (i := 0) (v := .int .i64 3) hh rfl).1
  have f1 := (cell_of_heap (i := 1) (v := .int .i64 1) hh rfl).1
  have f2 := (cell_of_heap (i := 2) (v := .int .i64 0) hh rfl).1
  have f3 := (cell_of_heap (i := 3) (v := .int .i64 0) hh rfl).1
  have f4 := (cell_of_heap (i := 4) (v := .int .i64 1) hh rfl).1
  have f5 := (cell_of_heap (i := 5) (v := .string ⟨#[97]⟩) hh rfl).1
  have f6 := (cell_of_heap (i := 6) (v := .string ⟨#[]⟩) hh rfl).1
  have f7 := (cell_of_heap (i := 7) (v := .int .i64 0) hh rfl).1
  have f8 := (cell_of_heap (i := 8) (v := .bool false) hh rfl).1
  clear hh
  have HT := Lib.hid (told_any ⟨0, 0, ⟨#[118]⟩, true⟩ HM8.out fok2 (by decide) (by decide) (HV.out.below HM8.out.bel))
  rw [ftl2, fnc2] at HT
  unfold Rep.val at HT
  simp only at HT
  go_wp2_with fail
  refine HT.out.mono ?_
  rintro e w9 ⟨rfl, hm⟩
  have HM9 := Lib.hid hm
  clear hm HT HM8 f0 f1 f2 f3 f4 f5 f6 f7 f8
  have HN := Lib.hid (next_any HM9.out fok3)
  rw [fnx3] at HN
  go_wp2_with fail
  refine HN.out.mono ?_
  rintro e w10 ⟨rfl, hb⟩
  have HM10 : Hid (Mem w [] (w10.alloc (.cells #[.int .i64 5, .int .i64 1, .int .i64 0, .int .i64 0, .int .i64 0, .string ⟨#[]⟩, .string ⟨#[]⟩, .int .i64 0, .bool false] 38)) (DrA g mg pl1 fd3 :: MapA mg [] :: BlockA w10.heap.size #[.int .i64 5, .int .i64 1, .int .i64 0, .int .i64 0, .int .i64 0, .string ⟨#[]⟩, .string ⟨#[]⟩, .int .i64 0, .bool false] 38 :: BlockA w8.heap.size #[.int .i64 3, .int .i64 1, .int .i64 0, .int .i64 0, .int .i64 1, .string ⟨#[97]⟩, .string ⟨#[]⟩, .int .i64 0, .bool false] 38 :: BlockA w6.heap.size #[.int .i64 2, .int .i64 1, .int .i64 0, .int .i64 0, .int .i64 0, .string ⟨#[97]⟩, .string ⟨#[]⟩, .int .i64 1, .bool false] 38 :: BlockA w3.heap.size #[.int .i64 1, .int .i64 1, .int .i64 0, .int .i64 5, .int .i64 0, .string ⟨#[]⟩, .string ⟨#[]⟩, .int .i64 0, .bool false] 38 :: [])) := Lib.hid (Mem.blockB (Mem.below HM9.out hb) #[.int .i64 5, .int .i64 1, .int .i64 0, .int .i64 0, .int .i64 0, .string ⟨#[]⟩, .string ⟨#[]⟩, .int .i64 0, .bool false] 38)
  clear hb HN HM9
  have hh := Mem.heapAt [DrA g mg pl1 fd3, MapA mg []] (r := [BlockA w8.heap.size #[.int .i64 3, .int .i64 1, .int .i64 0, .int .i64 0, .int .i64 1, .string ⟨#[97]⟩, .string ⟨#[]⟩, .int .i64 0, .bool false] 38, BlockA w6.heap.size #[.int .i64 2, .int .i64 1, .int .i64 0, .int .i64 0, .int .i64 0, .string ⟨#[97]⟩, .string ⟨#[]⟩, .int .i64 1, .bool false] 38, BlockA w3.heap.size #[.int .i64 1, .int .i64 1, .int .i64 0, .int .i64 5, .int .i64 0, .string ⟨#[]⟩, .string ⟨#[]⟩, .int .i64 0, .bool false] 38]) HM10.out
  have f0 := (cell_of_heap (i := 0) (v := .int .i64 5) hh rfl).1
  have f1 := (cell_of_heap (i := 1) (v := .int .i64 1) hh rfl).1
  have f2 := (cell_of_heap (i := 2) (v := .int .i64 0) hh rfl).1
  have f3 := (cell_of_heap (i := 3) (v := .int .i64 0) hh rfl).1
  have f4 := (cell_of_heap (i := 4) (v := .int .i64 0) hh rfl).1
  have f5 := (cell_of_heap (i := 5) (v := .string ⟨#[]⟩) hh rfl).1
  have f6 := (cell_of_heap (i := 6) (v := .string ⟨#[]⟩) hh rfl).1
  have f7 := (cell_of_heap (i := 7) (v := .int .i64 0) hh rfl).1
  have f8 := (cell_of_heap (i := 8) (v := .bool false) hh rfl).1
  clear hh
  have HT := Lib.hid (told_any ⟨0, 2, ⟨#[]⟩, false⟩ HM10.out fok3 (by decide) (by decide) (HV.out.below HM10.out.bel))
  rw [ftl3, fnc3] at HT
  unfold Rep.val at HT
  simp only at HT
  go_wp2_with fail
  refine HT.out.mono ?_
  rintro e w11 ⟨rfl, hm⟩
  have HM11 := Lib.hid hm
  clear hm HT HM10 f0 f1 f2 f3 f4 f5 f6 f7 f8
  have HN := Lib.hid (next_any HM11.out fok4)
  rw [fnx4] at HN
  go_wp2_with fail
  refine HN.out.mono ?_
  rintro e w12 ⟨rfl, hb⟩
  have HM12 : Hid (Mem w [] (w12.alloc (.cells #[.int .i64 7, .int .i64 1, .int .i64 0, .int .i64 0, .int .i64 0, .string ⟨#[]⟩, .string ⟨#[]⟩, .int .i64 0, .bool true] 38)) (DrA g mg pl1 fd4 :: MapA mg [] :: BlockA w12.heap.size #[.int .i64 7, .int .i64 1, .int .i64 0, .int .i64 0, .int .i64 0, .string ⟨#[]⟩, .string ⟨#[]⟩, .int .i64 0, .bool true] 38 :: BlockA w10.heap.size #[.int .i64 5, .int .i64 1, .int .i64 0, .int .i64 0, .int .i64 0, .string ⟨#[]⟩, .string ⟨#[]⟩, .int .i64 0, .bool false] 38 :: BlockA w8.heap.size #[.int .i64 3, .int .i64 1, .int .i64 0, .int .i64 0, .int .i64 1, .string ⟨#[97]⟩, .string ⟨#[]⟩, .int .i64 0, .bool false] 38 :: BlockA w6.heap.size #[.int .i64 2, .int .i64 1, .int .i64 0, .int .i64 0, .int .i64 0, .string ⟨#[97]⟩, .string ⟨#[]⟩, .int .i64 1, .bool false] 38 :: BlockA w3.heap.size #[.int .i64 1, .int .i64 1, .int .i64 0, .int .i64 5, .int .i64 0, .string ⟨#[]⟩, .string ⟨#[]⟩, .int .i64 0, .bool false] 38 :: [])) := Lib.hid (Mem.blockB (Mem.below HM11.out hb) #[.int .i64 7, .int .i64 1, .int .i64 0, .int .i64 0, .int .i64 0, .string ⟨#[]⟩, .string ⟨#[]⟩, .int .i64 0, .bool true] 38)
  clear hb HN HM11
  have HST : Hid (Calls Tryd.prog 11 #[.pointer (some ⟨g, 0, none⟩)] (w12.alloc (.cells #[.int .i64 7, .int .i64 1, .int .i64 0, .int .i64 0, .int .i64 0, .string ⟨#[]⟩, .string ⟨#[]⟩, .int .i64 0, .bool true] 38)) fun e w' => e = .returned (.int .i64 1) ∧ (w12.alloc (.cells #[.int .i64 7, .int .i64 1, .int .i64 0, .int .i64 0, .int .i64 0, .string ⟨#[]⟩, .string ⟨#[]⟩, .int .i64 0, .bool true] 38)) = w') := Lib.hid (state_any HM12.out)
  go_wp2_with fail
  refine HST.out.mono ?_
  rintro e wg ⟨rfl, rfl⟩
  clear HST
  have hh := Mem.heapAt [DrA g mg pl1 fd4, MapA mg []] (r := [BlockA w10.heap.size #[.int .i64 5, .int .i64 1, .int .i64 0, .int .i64 0, .int .i64 0, .string ⟨#[]⟩, .string ⟨#[]⟩, .int .i64 0, .bool false] 38, BlockA w8.heap.size #[.int .i64 3, .int .i64 1, .int .i64 0, .int .i64 0, .int .i64 1, .string ⟨#[97]⟩, .string ⟨#[]⟩, .int .i64 0, .bool false] 38, BlockA w6.heap.size #[.int .i64 2, .int .i64 1, .int .i64 0, .int .i64 0, .int .i64 0, .string ⟨#[97]⟩, .string ⟨#[]⟩, .int .i64 1, .bool false] 38, BlockA w3.heap.size #[.int .i64 1, .int .i64 1, .int .i64 0, .int .i64 5, .int .i64 0, .string ⟨#[]⟩, .string ⟨#[]⟩, .int .i64 0, .bool false] 38]) HM12.out
  have f0 := (cell_of_heap (i := 0) (v := .int .i64 7) hh rfl).1
  have f1 := (cell_of_heap (i := 1) (v := .int .i64 1) hh rfl).1
  have f2 := (cell_of_heap (i := 2) (v := .int .i64 0) hh rfl).1
  have f3 := (cell_of_heap (i := 3) (v := .int .i64 0) hh rfl).1
  have f4 := (cell_of_heap (i := 4) (v := .int .i64 0) hh rfl).1
  have f5 := (cell_of_heap (i := 5) (v := .string ⟨#[]⟩) hh rfl).1
  have f6 := (cell_of_heap (i := 6) (v := .string ⟨#[]⟩) hh rfl).1
  have f7 := (cell_of_heap (i := 7) (v := .int .i64 0) hh rfl).1
  have f8 := (cell_of_heap (i := 8) (v := .bool true) hh rfl).1
  clear hh
  have HT := Lib.hid (told_any ⟨0, 0, ⟨#[]⟩, false⟩ HM12.out fok4 (by decide) (by decide) (HV.out.below HM12.out.bel))
  rw [ftl4, fnc4] at HT
  unfold Rep.val at HT
  simp only at HT
  go_wp2_with fail
  refine HT.out.mono ?_
  rintro e w13 ⟨rfl, hm⟩
  have HM13 := Lib.hid hm
  clear hm HT HM12 f0 f1 f2 f3 f4 f5 f6 f7 f8
  have HN := Lib.hid (next_any HM13.out fok5)
  rw [fnx5] at HN
  go_wp2_with fail
  refine HN.out.mono ?_
  rintro e w14 ⟨rfl, hb⟩
  have HM14 : Hid (Mem w [] (w14.alloc (.cells #[.int .i64 0, .int .i64 0, .int .i64 0, .int .i64 0, .int .i64 0, .string ⟨#[]⟩, .string ⟨#[]⟩, .int .i64 0, .bool false] 38)) (DrA g mg pl1 fd5 :: MapA mg [] :: BlockA w14.heap.size #[.int .i64 0, .int .i64 0, .int .i64 0, .int .i64 0, .int .i64 0, .string ⟨#[]⟩, .string ⟨#[]⟩, .int .i64 0, .bool false] 38 :: BlockA w12.heap.size #[.int .i64 7, .int .i64 1, .int .i64 0, .int .i64 0, .int .i64 0, .string ⟨#[]⟩, .string ⟨#[]⟩, .int .i64 0, .bool true] 38 :: BlockA w10.heap.size #[.int .i64 5, .int .i64 1, .int .i64 0, .int .i64 0, .int .i64 0, .string ⟨#[]⟩, .string ⟨#[]⟩, .int .i64 0, .bool false] 38 :: BlockA w8.heap.size #[.int .i64 3, .int .i64 1, .int .i64 0, .int .i64 0, .int .i64 1, .string ⟨#[97]⟩, .string ⟨#[]⟩, .int .i64 0, .bool false] 38 :: BlockA w6.heap.size #[.int .i64 2, .int .i64 1, .int .i64 0, .int .i64 0, .int .i64 0, .string ⟨#[97]⟩, .string ⟨#[]⟩, .int .i64 1, .bool false] 38 :: BlockA w3.heap.size #[.int .i64 1, .int .i64 1, .int .i64 0, .int .i64 5, .int .i64 0, .string ⟨#[]⟩, .string ⟨#[]⟩, .int .i64 0, .bool false] 38 :: [])) := Lib.hid (Mem.blockB (Mem.below HM13.out hb) #[.int .i64 0, .int .i64 0, .int .i64 0, .int .i64 0, .int .i64 0, .string ⟨#[]⟩, .string ⟨#[]⟩, .int .i64 0, .bool false] 38)
  clear hb HN HM13
  have HRS : Hid (Calls Tryd.prog 20 #[.pointer (some ⟨g, 0, none⟩)] (w14.alloc (.cells #[.int .i64 0, .int .i64 0, .int .i64 0, .int .i64 0, .int .i64 0, .string ⟨#[]⟩, .string ⟨#[]⟩, .int .i64 0, .bool false] 38)) fun e w' => ∃ a c, e = .returned (.slice a 1 c) ∧ Mem w [] w' (DrA g mg pl1 fd5 :: MapA mg [] :: RowA 52 2 a 1 c (rsFlat fd5.res) :: BlockA w14.heap.size #[.int .i64 0, .int .i64 0, .int .i64 0, .int .i64 0, .int .i64 0, .string ⟨#[]⟩, .string ⟨#[]⟩, .int .i64 0, .bool false] 38 :: BlockA w12.heap.size #[.int .i64 7, .int .i64 1, .int .i64 0, .int .i64 0, .int .i64 0, .string ⟨#[]⟩, .string ⟨#[]⟩, .int .i64 0, .bool true] 38 :: BlockA w10.heap.size #[.int .i64 5, .int .i64 1, .int .i64 0, .int .i64 0, .int .i64 0, .string ⟨#[]⟩, .string ⟨#[]⟩, .int .i64 0, .bool false] 38 :: BlockA w8.heap.size #[.int .i64 3, .int .i64 1, .int .i64 0, .int .i64 0, .int .i64 1, .string ⟨#[97]⟩, .string ⟨#[]⟩, .int .i64 0, .bool false] 38 :: BlockA w6.heap.size #[.int .i64 2, .int .i64 1, .int .i64 0, .int .i64 0, .int .i64 0, .string ⟨#[97]⟩, .string ⟨#[]⟩, .int .i64 1, .bool false] 38 :: BlockA w3.heap.size #[.int .i64 1, .int .i64 1, .int .i64 0, .int .i64 5, .int .i64 0, .string ⟨#[]⟩, .string ⟨#[]⟩, .int .i64 0, .bool false] 38 :: [])) := Lib.hid (results_any HM14.out (by rfl) (by decide))
  go_wp2_with fail
  refine HRS.out.mono ?_
  rintro e w15 ⟨ra, rc, rfl, hm⟩
  have HR15 := Lib.hid hm
  clear hm HRS HM14
  go_wp2_with fail
  refine (newNil _).mono ?_
  rintro e wg2 ⟨rfl, rfl⟩
  have hh := Mem.heapAt [DrA g mg pl1 fd5, MapA mg [], RowA 52 2 ra 1 rc (rsFlat fd5.res), BlockA w14.heap.size #[.int .i64 0, .int .i64 0, .int .i64 0, .int .i64 0, .int .i64 0, .string ⟨#[]⟩, .string ⟨#[]⟩, .int .i64 0, .bool false] 38, BlockA w12.heap.size #[.int .i64 7, .int .i64 1, .int .i64 0, .int .i64 0, .int .i64 0, .string ⟨#[]⟩, .string ⟨#[]⟩, .int .i64 0, .bool true] 38, BlockA w10.heap.size #[.int .i64 5, .int .i64 1, .int .i64 0, .int .i64 0, .int .i64 0, .string ⟨#[]⟩, .string ⟨#[]⟩, .int .i64 0, .bool false] 38, BlockA w8.heap.size #[.int .i64 3, .int .i64 1, .int .i64 0, .int .i64 0, .int .i64 1, .string ⟨#[97]⟩, .string ⟨#[]⟩, .int .i64 0, .bool false] 38, BlockA w6.heap.size #[.int .i64 2, .int .i64 1, .int .i64 0, .int .i64 0, .int .i64 0, .string ⟨#[97]⟩, .string ⟨#[]⟩, .int .i64 1, .bool false] 38] (r := []) HR15.out
  have ba0 := (cell_of_heap (i := 0) (v := .int .i64 1) hh rfl).1
  have ba1 := (cell_of_heap (i := 1) (v := .int .i64 1) hh rfl).1
  have ba3 := (cell_of_heap (i := 3) (v := .int .i64 5) hh rfl).1
  clear hh
  have hh := Mem.heapAt [DrA g mg pl1 fd5, MapA mg [], RowA 52 2 ra 1 rc (rsFlat fd5.res), BlockA w14.heap.size #[.int .i64 0, .int .i64 0, .int .i64 0, .int .i64 0, .int .i64 0, .string ⟨#[]⟩, .string ⟨#[]⟩, .int .i64 0, .bool false] 38, BlockA w12.heap.size #[.int .i64 7, .int .i64 1, .int .i64 0, .int .i64 0, .int .i64 0, .string ⟨#[]⟩, .string ⟨#[]⟩, .int .i64 0, .bool true] 38, BlockA w10.heap.size #[.int .i64 5, .int .i64 1, .int .i64 0, .int .i64 0, .int .i64 0, .string ⟨#[]⟩, .string ⟨#[]⟩, .int .i64 0, .bool false] 38, BlockA w8.heap.size #[.int .i64 3, .int .i64 1, .int .i64 0, .int .i64 0, .int .i64 1, .string ⟨#[97]⟩, .string ⟨#[]⟩, .int .i64 0, .bool false] 38] (r := [BlockA w3.heap.size #[.int .i64 1, .int .i64 1, .int .i64 0, .int .i64 5, .int .i64 0, .string ⟨#[]⟩, .string ⟨#[]⟩, .int .i64 0, .bool false] 38]) HR15.out
  have bb0 := (cell_of_heap (i := 0) (v := .int .i64 2) hh rfl).1
  have bb5 := (cell_of_heap (i := 5) (v := .string ⟨#[97]⟩) hh rfl).1
  have bb7 := (cell_of_heap (i := 7) (v := .int .i64 1) hh rfl).1
  clear hh
  have hh := Mem.heapAt [DrA g mg pl1 fd5, MapA mg [], RowA 52 2 ra 1 rc (rsFlat fd5.res), BlockA w14.heap.size #[.int .i64 0, .int .i64 0, .int .i64 0, .int .i64 0, .int .i64 0, .string ⟨#[]⟩, .string ⟨#[]⟩, .int .i64 0, .bool false] 38, BlockA w12.heap.size #[.int .i64 7, .int .i64 1, .int .i64 0, .int .i64 0, .int .i64 0, .string ⟨#[]⟩, .string ⟨#[]⟩, .int .i64 0, .bool true] 38, BlockA w10.heap.size #[.int .i64 5, .int .i64 1, .int .i64 0, .int .i64 0, .int .i64 0, .string ⟨#[]⟩, .string ⟨#[]⟩, .int .i64 0, .bool false] 38] (r := [BlockA w6.heap.size #[.int .i64 2, .int .i64 1, .int .i64 0, .int .i64 0, .int .i64 0, .string ⟨#[97]⟩, .string ⟨#[]⟩, .int .i64 1, .bool false] 38, BlockA w3.heap.size #[.int .i64 1, .int .i64 1, .int .i64 0, .int .i64 5, .int .i64 0, .string ⟨#[]⟩, .string ⟨#[]⟩, .int .i64 0, .bool false] 38]) HR15.out
  have bc0 := (cell_of_heap (i := 0) (v := .int .i64 3) hh rfl).1
  have bc4 := (cell_of_heap (i := 4) (v := .int .i64 1) hh rfl).1
  clear hh
  have hh := Mem.heapAt [DrA g mg pl1 fd5, MapA mg [], RowA 52 2 ra 1 rc (rsFlat fd5.res), BlockA w14.heap.size #[.int .i64 0, .int .i64 0, .int .i64 0, .int .i64 0, .int .i64 0, .string ⟨#[]⟩, .string ⟨#[]⟩, .int .i64 0, .bool false] 38, BlockA w12.heap.size #[.int .i64 7, .int .i64 1, .int .i64 0, .int .i64 0, .int .i64 0, .string ⟨#[]⟩, .string ⟨#[]⟩, .int .i64 0, .bool true] 38] (r := [BlockA w8.heap.size #[.int .i64 3, .int .i64 1, .int .i64 0, .int .i64 0, .int .i64 1, .string ⟨#[97]⟩, .string ⟨#[]⟩, .int .i64 0, .bool false] 38, BlockA w6.heap.size #[.int .i64 2, .int .i64 1, .int .i64 0, .int .i64 0, .int .i64 0, .string ⟨#[97]⟩, .string ⟨#[]⟩, .int .i64 1, .bool false] 38, BlockA w3.heap.size #[.int .i64 1, .int .i64 1, .int .i64 0, .int .i64 5, .int .i64 0, .string ⟨#[]⟩, .string ⟨#[]⟩, .int .i64 0, .bool false] 38]) HR15.out
  have bd0 := (cell_of_heap (i := 0) (v := .int .i64 5) hh rfl).1
  clear hh
  have hh := Mem.heapAt [DrA g mg pl1 fd5, MapA mg [], RowA 52 2 ra 1 rc (rsFlat fd5.res), BlockA w14.heap.size #[.int .i64 0, .int .i64 0, .int .i64 0, .int .i64 0, .int .i64 0, .string ⟨#[]⟩, .string ⟨#[]⟩, .int .i64 0, .bool false] 38] (r := [BlockA w10.heap.size #[.int .i64 5, .int .i64 1, .int .i64 0, .int .i64 0, .int .i64 0, .string ⟨#[]⟩, .string ⟨#[]⟩, .int .i64 0, .bool false] 38, BlockA w8.heap.size #[.int .i64 3, .int .i64 1, .int .i64 0, .int .i64 0, .int .i64 1, .string ⟨#[97]⟩, .string ⟨#[]⟩, .int .i64 0, .bool false] 38, BlockA w6.heap.size #[.int .i64 2, .int .i64 1, .int .i64 0, .int .i64 0, .int .i64 0, .string ⟨#[97]⟩, .string ⟨#[]⟩, .int .i64 1, .bool false] 38, BlockA w3.heap.size #[.int .i64 1, .int .i64 1, .int .i64 0, .int .i64 5, .int .i64 0, .string ⟨#[]⟩, .string ⟨#[]⟩, .int .i64 0, .bool false] 38]) HR15.out
  have be0 := (cell_of_heap (i := 0) (v := .int .i64 7) hh rfl).1
  have be8 := (cell_of_heap (i := 8) (v := .bool true) hh rfl).1
  clear hh
  obtain ⟨rg, rfl, r0, r1⟩ := rsAt_row (l := fd5.res) (Mem.rowAt [DrA g mg pl1 fd5, MapA mg []] HR15.out) 0 (by decide)
  have r0' : w15.cell? ⟨rg, 0, none⟩ = some (.string ⟨#[118]⟩) := r0
  clear r0 r1
  have HST : Hid (Calls Tryd.prog 11 #[.pointer (some ⟨g, 0, none⟩)] w15 fun e w' => e = .returned (.int .i64 2) ∧ w15 = w') := Lib.hid (state_any HR15.out)
  have HB := Lib.hid HR15.out.bel
  clear HR15
  go_wp2_with (first | (go_at_call_of 11 (Value.pointer (some ⟨g, 0, none⟩)); refine HST.out.mono ?_; rintro e wg3 ⟨rfl, rfl⟩) | (go_at_call_of 11 (Value.pointer none); refine (state_nil _).mono ?_; rintro e wg4 ⟨rfl, rfl⟩) | (fail "none"))
  go_ret
  exact ⟨rfl, HB.out⟩
end Go.Proofs.YtmifgnibalbgjaaDoor

