/- The answers to accesses, and of the home. -/
import Derived.Test.YtmifgnibalbgjaaDoorS
namespace Go.Proofs.YtmifgnibalbgjaaDoor
open Go.RowKit
def accessedM (ss : List ByteArray) (l : List Opp) (d : Dr) (p : Rep) : Dr :=
  if p.code = 9 ∨ p.code = 8 then { d with phase := 6 }
  else if d.phase = 1 ∧ p.code = 10 then { d with phase := 2 }
  else if p.code ≠ 0 then d
  else if d.phase = 1 then { d with phase := 3 }
  else if d.phase = 3 then gotM ss l d p
  else beginsM ss l d (d.nth + 1)
def homedM (ss : List ByteArray) (l : List Opp) (d : Dr) (p : Rep) : Dr :=
  if d.phase = 0 ∧ p.code = 9 then endsM d 3
  else if d.phase = 0 ∧ p.code = 0 ∧ p.state = 1 then beginsM ss l d 0
  else if d.phase = 2 ∧ p.code = 0 ∧ p.state = 3 then endsM d 3
  else if d.phase = 2 then { d with phase := 1 }
  else if (d.phase = 5 ∨ d.phase = 6) ∧ p.code = 0 ∧ (p.state = 2 ∨ p.state = 3) then endsM d p.state
  else d
section
variable {w0 w : World} {D0 : List Nat} {g mg : Nat} {l : List Opp} {d : Dr} {ss : List ByteArray} {r : List Asn} [Stables r]
theorem Mem.setPh (M : Mem w0 D0 w (DrA g mg l d :: r)) (hp : d.phase < 7) (ph : Int) (hph : ph < 7) : Mem w0 D0 (w.setCell ⟨g, 6, none⟩ (.int .i64 ph)) (DrA g mg l { d with phase := ph } :: r) := by
  obtain ⟨pa, pc, ra, rc, ta, tc, MW⟩ := Mem.openW M hp
  have h := Mem.setAt [] (r := [RowA 60 4 pa l.length pc (opFlat l), RowA 52 2 ra d.res.length rc (rsFlat d.res)] ++ RowA 3 1 ta d.tl.length tc (intsV d.tl) :: r) (i := 6) MW (.int .i64 ph)
  exact Mem.closeW (d := { d with phase := ph }) (pa := pa) (pc := pc) (ra := ra) (rc := rc) (ta := ta) (tc := tc) h hph
/-- What a driver's calls ask. -/
structure DIn (ss : List ByteArray) (l : List Opp) (d : Dr) : Prop where
  right : rightL ss = 0
  len : l.length ≤ 1000
  nth : d.phase = 1 ∨ d.phase = 3 ∨ d.phase = 4 → d.nth < l.length
  rise : d.phase < 7 → d.tl.Pairwise (· ≤ ·)
  tl : d.tl.length ≤ 100000
  res : d.res.length ≤ 100000
  att : -1 ≤ d.attempt ∧ d.attempt ≤ 1048576
set_option maxRecDepth 100000 in
set_option maxHeartbeats 8000000 in
theorem accessed1 (p : Rep) (M : Mem w0 D0 w (DrA g mg l d :: MapA mg ss :: r)) (ok : DIn ss l d) (hp : d.phase = 1) :
    Calls Tryd.prog 31 #[.pointer (some ⟨g, 0, none⟩), Rep.val p] w fun e w' => e = .returned (.tuple #[]) ∧ Mem w0 D0 w' (DrA g mg l (accessedM ss l d p) :: MapA mg ss :: r) := by
  have HM0 := Lib.hid M
  have HM := Lib.hid (M.below (bel_new w (.cells #[.int .i64 p.code, .int .i64 p.state, .string p.v, .bool p.h] 36)))
  obtain ⟨pa, pc, ra, rc, tv, lv, hg⟩ := Mem.drAt M
  obtain ⟨c6, cf6⟩ := drC_cell hg 6 (.int .i64 d.phase) rfl
  obtain ⟨c7, -⟩ := drC_cell hg 7 (.int .i64 d.nth) rfl
  rw [hp] at c6
  have hlg := World.block_lt_of_cell? w _ c6
  simp only at hlg
  have hk := ok.nth (by omega)
  have hl := ok.len
  obtain ⟨pc0, ps0, pv, ph0⟩ := p
  unfold Rep.val
  simp only
  by_cases k9 : pc0 = 9
  · have HE : Hid (accessedM ss l d ⟨pc0, ps0, pv, ph0⟩ = { d with phase := 6 }) := Lib.hid (by unfold accessedM; rw [if_pos (.inl k9)])
    subst k9
    clear hg M ok
    go_enter Tryd.func31, Tryd.ntmps31
    go_wp2_with fail
    go_end0
    refine ⟨rfl, ?_⟩
    rw [HE.out]
    exact Mem.below (Mem.setPh HM0.out (by rw [hp]; decide) 6 (by decide)) (bel_new _ _)
  have b9 : (pc0 == 9) = false := by simpa using k9
  by_cases k8 : pc0 = 8
  · have HE : Hid (accessedM ss l d ⟨pc0, ps0, pv, ph0⟩ = { d with phase := 6 }) := Lib.hid (by unfold accessedM; rw [if_pos (.inr k8)])
    subst k8
    clear hg M ok
    go_enter Tryd.func31, Tryd.ntmps31
    go_wp2_with fail
    go_end0
    refine ⟨rfl, ?_⟩
    rw [HE.out]
    exact Mem.below (Mem.setPh HM0.out (by rw [hp]; decide) 6 (by decide)) (bel_new _ _)
  have b8 : (pc0 == 8) = false := by simpa using k8
  by_cases k10 : pc0 = 10
  · have HE : Hid (accessedM ss l d ⟨pc0, ps0, pv, ph0⟩ = { d with phase := 2 }) := Lib.hid (by unfold accessedM; simp only; rw [if_neg (show ¬ (pc0 = 9 ∨ pc0 = 8) by omega), if_pos ⟨hp, k10⟩])
    subst k10
    clear hg M ok k9 k8
    go_enter Tryd.func31, Tryd.ntmps31
    go_wp2_with fail
    go_end0
    refine ⟨rfl, ?_⟩
    rw [HE.out]
    exact Mem.below (Mem.setPh HM0.out (by rw [hp]; decide) 2 (by decide)) (bel_new _ _)
  have b10 : (pc0 == 10) = false := by simpa using k10
  by_cases k0 : pc0 = 0
  · have HE : Hid (accessedM ss l d ⟨pc0, ps0, pv, ph0⟩ = { d with phase := 3 }) := Lib.hid (by unfold accessedM; simp only; rw [if_neg (show ¬ (pc0 = 9 ∨ pc0 = 8) by omega), if_neg (show ¬ (d.phase = 1 ∧ pc0 = 10) by omega), if_neg (show ¬ pc0 ≠ 0 by omega), if_pos hp])
    subst k0
    clear hg M ok
    go_enter Tryd.func31, Tryd.ntmps31
    go_wp2_with fail
    go_end0
    refine ⟨rfl, ?_⟩
    rw [HE.out]
    exact Mem.below (Mem.setPh HM0.out (by rw [hp]; decide) 3 (by decide)) (bel_new _ _)
  have b0 : (pc0 == 0) = false := by simpa using k0
  have b0' : (pc0 != 0) = true := by simpa using k0
  have HE : Hid (accessedM ss l d ⟨pc0, ps0, pv, ph0⟩ = d) := Lib.hid (by unfold accessedM; simp only; rw [if_neg (show ¬ (pc0 = 9 ∨ pc0 = 8) by omega), if_neg (show ¬ (d.phase = 1 ∧ pc0 = 10) by omega), if_pos k0])
  clear hg M ok k9 k8 k0 k10
  go_enter Tryd.func31, Tryd.ntmps31
  go_wp2_with fail
  go_end0
  refine ⟨rfl, ?_⟩
  rw [HE.out]
  exact HM.out
set_option maxRecDepth 100000 in
set_option maxHeartbeats 8000000 in
theorem accessed3 (p : Rep) (M : Mem w0 D0 w (DrA g mg l d :: MapA mg ss :: r)) (ok : DIn ss l d) (hp : d.phase = 3) (hpv : p.v.size ≤ 140737488355328) (hv : LibV w) :
    Calls Tryd.prog 31 #[.pointer (some ⟨g, 0, none⟩), Rep.val p] w fun e w' => e = .returned (.tuple #[]) ∧ Mem w0 D0 w' (DrA g mg l (accessedM ss l d p) :: MapA mg ss :: r) := by
  have HM0 := Lib.hid M
  have HM := Lib.hid (M.below (bel_new w (.cells #[.int .i64 p.code, .int .i64 p.state, .string p.v, .bool p.h] 36)))
  obtain ⟨pa, pc, ra, rc, tv, lv, hg⟩ := Mem.drAt M
  obtain ⟨c6, cf6⟩ := drC_cell hg 6 (.int .i64 d.phase) rfl
  obtain ⟨c7, -⟩ := drC_cell hg 7 (.int .i64 d.nth) rfl
  rw [hp] at c6
  have hlg := World.block_lt_of_cell? w _ c6
  simp only at hlg
  have hk := ok.nth (by omega)
  have hl := ok.len
  have HGOT := Lib.hid (got_any p HM.out (by rw [hp]; decide) hk ok.right (ok.rise (by rw [hp]; decide)) ok.len ok.tl ok.res hpv (hv.below (bel_new w _)))
  obtain ⟨pc0, ps0, pv, ph0⟩ := p
  unfold Rep.val at *
  simp only at *
  by_cases k9 : pc0 = 9
  · have HE : Hid (accessedM ss l d ⟨pc0, ps0, pv, ph0⟩ = { d with phase := 6 }) := Lib.hid (by unfold accessedM; rw [if_pos (.inl k9)])
    subst k9
    clear hg M ok
    go_enter Tryd.func31, Tryd.ntmps31
    go_wp2_with fail
    go_end0
    refine ⟨rfl, ?_⟩
    rw [HE.out]
    exact Mem.below (Mem.setPh HM0.out (by rw [hp]; decide) 6 (by decide)) (bel_new _ _)
  have b9 : (pc0 == 9) = false := by simpa using k9
  by_cases k8 : pc0 = 8
  · have HE : Hid (accessedM ss l d ⟨pc0, ps0, pv, ph0⟩ = { d with phase := 6 }) := Lib.hid (by unfold accessedM; rw [if_pos (.inr k8)])
    subst k8
    clear hg M ok
    go_enter Tryd.func31, Tryd.ntmps31
    go_wp2_with fail
    go_end0
    refine ⟨rfl, ?_⟩
    rw [HE.out]
    exact Mem.below (Mem.setPh HM0.out (by rw [hp]; decide) 6 (by decide)) (bel_new _ _)
  have b8 : (pc0 == 8) = false := by simpa using k8
  by_cases k0 : pc0 = 0
  · have HE : Hid (accessedM ss l d ⟨pc0, ps0, pv, ph0⟩ = gotM ss l d ⟨pc0, ps0, pv, ph0⟩) := Lib.hid (by unfold accessedM; simp only; rw [if_neg (show ¬ (pc0 = 9 ∨ pc0 = 8) by omega), if_neg (show ¬ (d.phase = 1 ∧ pc0 = 10) by omega), if_neg (show ¬ pc0 ≠ 0 by omega), if_neg (show ¬ d.phase = 1 by omega), if_pos hp])
    subst k0
    clear hg M ok
    go_enter Tryd.func31, Tryd.ntmps31
    go_wp2_with fail
    refine HGOT.out.mono ?_
    rintro e w7 ⟨rfl, hm⟩
    have HF := Lib.hid hm
    clear hm HGOT
    go_wp2_with fail
    go_end0
    refine ⟨rfl, ?_⟩
    rw [HE.out]
    exact HF.out
  have b0 : (pc0 == 0) = false := by simpa using k0
  have b0' : (pc0 != 0) = true := by simpa using k0
  have HE : Hid (accessedM ss l d ⟨pc0, ps0, pv, ph0⟩ = d) := Lib.hid (by unfold accessedM; simp only; rw [if_neg (show ¬ (pc0 = 9 ∨ pc0 = 8) by omega), if_neg (show ¬ (d.phase = 1 ∧ pc0 = 10) by omega), if_pos k0])
  clear hg M ok k9 k8 k0
  go_enter Tryd.func31, Tryd.ntmps31
  go_wp2_with fail
  go_end0
  refine ⟨rfl, ?_⟩
  rw [HE.out]
  exact HM.out
set_option maxRecDepth 100000 in
set_option maxHeartbeats 8000000 in
theorem accessed4 (p : Rep) (M : Mem w0 D0 w (DrA g mg l d :: MapA mg ss :: r)) (ok : DIn ss l d) (hp : d.phase = 4) :
    Calls Tryd.prog 31 #[.pointer (some ⟨g, 0, none⟩), Rep.val p] w fun e w' => e = .returned (.tuple #[]) ∧ Mem w0 D0 w' (DrA g mg l (accessedM ss l d p) :: MapA mg ss :: r) := by
  have HM0 := Lib.hid M
  have HM := Lib.hid (M.below (bel_new w (.cells #[.int .i64 p.code, .int .i64 p.state, .string p.v, .bool p.h] 36)))
  obtain ⟨pa, pc, ra, rc, tv, lv, hg⟩ := Mem.drAt M
  obtain ⟨c6, cf6⟩ := drC_cell hg 6 (.int .i64 d.phase) rfl
  obtain ⟨c7, -⟩ := drC_cell hg 7 (.int .i64 d.nth) rfl
  rw [hp] at c6
  have hlg := World.block_lt_of_cell? w _ c6
  simp only at hlg
  have hk := ok.nth (by omega)
  have hl := ok.len
  have HBEG := Lib.hid (begins_any (d.nth + 1) HM.out (by rw [hp]; decide) (by omega) ok.right (ok.rise (by rw [hp]; decide)) ok.len ok.tl)
  have hw := IntWalk.i64_in ((d.nth : Int) + 1) (by omega)
  have hce : ((d.nth + 1 : Nat) : Int) = (d.nth : Int) + 1 := by omega
  rw [hce] at HBEG
  obtain ⟨pc0, ps0, pv, ph0⟩ := p
  unfold Rep.val
  simp only
  by_cases k9 : pc0 = 9
  · have HE : Hid (accessedM ss l d ⟨pc0, ps0, pv, ph0⟩ = { d with phase := 6 }) := Lib.hid (by unfold accessedM; rw [if_pos (.inl k9)])
    subst k9
    clear hg M ok
    go_enter Tryd.func31, Tryd.ntmps31
    go_wp2_with fail
    go_end0
    refine ⟨rfl, ?_⟩
    rw [HE.out]
    exact Mem.below (Mem.setPh HM0.out (by rw [hp]; decide) 6 (by decide)) (bel_new _ _)
  have b9 : (pc0 == 9) = false := by simpa using k9
  by_cases k8 : pc0 = 8
  · have HE : Hid (accessedM ss l d ⟨pc0, ps0, pv, ph0⟩ = { d with phase := 6 }) := Lib.hid (by unfold accessedM; rw [if_pos (.inr k8)])
    subst k8
    clear hg M ok
    go_enter Tryd.func31, Tryd.ntmps31
    go_wp2_with fail
    go_end0
    refine ⟨rfl, ?_⟩
    rw [HE.out]
    exact Mem.below (Mem.setPh HM0.out (by rw [hp]; decide) 6 (by decide)) (bel_new _ _)
  have b8 : (pc0 == 8) = false := by simpa using k8
  by_cases k0 : pc0 = 0
  · have HE : Hid (accessedM ss l d ⟨pc0, ps0, pv, ph0⟩ = beginsM ss l d (d.nth + 1)) := Lib.hid (by unfold accessedM; simp only; rw [if_neg (show ¬ (pc0 = 9 ∨ pc0 = 8) by omega), if_neg (show ¬ (d.phase = 1 ∧ pc0 = 10) by omega), if_neg (show ¬ pc0 ≠ 0 by omega), if_neg (show ¬ d.phase = 1 by omega), if_neg (show ¬ d.phase = 3 by omega)])
    subst k0
    clear hg M ok
    go_enter Tryd.func31, Tryd.ntmps31
    go_wp2_with fail
    refine HBEG.out.mono ?_
    rintro e w7 ⟨rfl, hm⟩
    have HF := Lib.hid hm
    clear hm HBEG
    go_wp2_with fail
    go_end0
    refine ⟨rfl, ?_⟩
    rw [HE.out]
    exact HF.out
  have b0 : (pc0 == 0) = false := by simpa using k0
  have b0' : (pc0 != 0) = true := by simpa using k0
  have HE : Hid (accessedM ss l d ⟨pc0, ps0, pv, ph0⟩ = d) := Lib.hid (by unfold accessedM; simp only; rw [if_neg (show ¬ (pc0 = 9 ∨ pc0 = 8) by omega), if_neg (show ¬ (d.phase = 1 ∧ pc0 = 10) by omega), if_pos k0])
  clear hg M ok k9 k8 k0
  go_enter Tryd.func31, Tryd.ntmps31
  go_wp2_with fail
  go_end0
  refine ⟨rfl, ?_⟩
  rw [HE.out]
  exact HM.out
set_option maxRecDepth 100000 in
set_option maxHeartbeats 8000000 in
theorem homed0 (p : Rep) (M : Mem w0 D0 w (DrA g mg l d :: MapA mg ss :: r)) (ok : DIn ss l d) (hp : d.phase = 0) :
    Calls Tryd.prog 33 #[.pointer (some ⟨g, 0, none⟩), Rep.val p] w fun e w' => e = .returned (.tuple #[]) ∧ Mem w0 D0 w' (DrA g mg l (homedM ss l d p) :: MapA mg ss :: r) := by
  have HM0 := Lib.hid M
  have HM := Lib.hid (M.below (bel_new w (.cells #[.int .i64 p.code, .int .i64 p.state, .string p.v, .bool p.h] 36)))
  obtain ⟨pa, pc, ra, rc, tv, lv, hg⟩ := Mem.drAt M
  obtain ⟨c6, cf6⟩ := drC_cell hg 6 (.int .i64 d.phase) rfl
  rw [hp] at c6
  have hlg := World.block_lt_of_cell? w _ c6
  simp only at hlg
  have HEND := Lib.hid fun s => ends_any s HM.out (by rw [hp]; decide) ok.att ok.tl
  have HBEG := Lib.hid (begins_any 0 HM.out (by rw [hp]; decide) (by omega) ok.right (ok.rise (by rw [hp]; decide)) ok.len ok.tl)
  obtain ⟨pc0, ps0, pv, ph0⟩ := p
  unfold Rep.val
  simp only
  by_cases k9 : pc0 = 9
  · skip
    have HE : Hid (homedM ss l d ⟨pc0, ps0, pv, ph0⟩ = endsM d 3) := Lib.hid (by unfold homedM; simp only; rw [if_pos (show (d.phase = 0 ∧ pc0 = 9) by omega)])
    subst k9
    clear hg M ok
    have H7 := Lib.hid (HEND.out 3)
    clear HEND
    go_enter Tryd.func33, Tryd.ntmps33
    go_wp2_with fail
    refine H7.out.mono ?_
    rintro e w7 ⟨rfl, hm⟩
    have HF := Lib.hid hm
    clear hm H7
    go_wp2_with fail
    go_end0
    refine ⟨rfl, ?_⟩
    rw [HE.out]
    exact HF.out
  have b9 : (pc0 == 9) = false := by simpa using k9
  by_cases k0 : pc0 = 0
  · by_cases s1 : ps0 = 1
    · skip
      have HE : Hid (homedM ss l d ⟨pc0, ps0, pv, ph0⟩ = beginsM ss l d 0) := Lib.hid (by unfold homedM; simp only; rw [if_neg (show ¬ (d.phase = 0 ∧ pc0 = 9) by omega), if_pos (show (d.phase = 0 ∧ pc0 = 0 ∧ ps0 = 1) by omega)])
      subst k0 s1
      clear hg M ok HEND
      go_enter Tryd.func33, Tryd.ntmps33
      go_wp2_with fail
      refine HBEG.out.mono ?_
      rintro e w7 ⟨rfl, hm⟩
      have HF := Lib.hid hm
      clear hm HBEG
      go_wp2_with fail
      go_end0
      refine ⟨rfl, ?_⟩
      rw [HE.out]
      exact HF.out
    have t1 : (ps0 == 1) = false := by simpa using s1
    have HE : Hid (homedM ss l d ⟨pc0, ps0, pv, ph0⟩ = d) := Lib.hid (by unfold homedM; simp only; rw [if_neg (show ¬ (d.phase = 0 ∧ pc0 = 9) by omega), if_neg (show ¬ (d.phase = 0 ∧ pc0 = 0 ∧ ps0 = 1) by omega), if_neg (show ¬ (d.phase = 2 ∧ pc0 = 0 ∧ ps0 = 3) by omega), if_neg (show ¬ (d.phase = 2) by omega), if_neg (show ¬ ((d.phase = 5 ∨ d.phase = 6) ∧ pc0 = 0 ∧ (ps0 = 2 ∨ ps0 = 3)) by omega)])
    subst k0
    clear hg M ok HEND HBEG
    cases t2 : (ps0 == 2) <;> cases t3 : (ps0 == 3)
    all_goals
      go_enter Tryd.func33, Tryd.ntmps33
      go_wp2_with fail
      go_end0
      refine ⟨rfl, ?_⟩
      rw [HE.out]
      exact HM.out
  have b0 : (pc0 == 0) = false := by simpa using k0
  have HE : Hid (homedM ss l d ⟨pc0, ps0, pv, ph0⟩ = d) := Lib.hid (by unfold homedM; simp only; rw [if_neg (show ¬ (d.phase = 0 ∧ pc0 = 9) by omega), if_neg (show ¬ (d.phase = 0 ∧ pc0 = 0 ∧ ps0 = 1) by omega), if_neg (show ¬ (d.phase = 2 ∧ pc0 = 0 ∧ ps0 = 3) by omega), if_neg (show ¬ (d.phase = 2) by omega), if_neg (show ¬ ((d.phase = 5 ∨ d.phase = 6) ∧ pc0 = 0 ∧ (ps0 = 2 ∨ ps0 = 3)) by omega)])
  clear hg M ok HEND HBEG k9 k0
  go_enter Tryd.func33, Tryd.ntmps33
  go_wp2_with fail
  go_end0
  refine ⟨rfl, ?_⟩
  rw [HE.out]
  exact HM.out
set_option maxRecDepth 100000 in
set_option maxHeartbeats 8000000 in
theorem homed2 (p : Rep) (M : Mem w0 D0 w (DrA g mg l d :: MapA mg ss :: r)) (ok : DIn ss l d) (hp : d.phase = 2) :
    Calls Tryd.prog 33 #[.pointer (some ⟨g, 0, none⟩), Rep.val p] w fun e w' => e = .returned (.tuple #[]) ∧ Mem w0 D0 w' (DrA g mg l (homedM ss l d p) :: MapA mg ss :: r) := by
  have HM0 := Lib.hid M
  have HM := Lib.hid (M.below (bel_new w (.cells #[.int .i64 p.code, .int .i64 p.state, .string p.v, .bool p.h] 36)))
  obtain ⟨pa, pc, ra, rc, tv, lv, hg⟩ := Mem.drAt M
  obtain ⟨c6, cf6⟩ := drC_cell hg 6 (.int .i64 d.phase) rfl
  rw [hp] at c6
  have hlg := World.block_lt_of_cell? w _ c6
  simp only at hlg
  have HEND := Lib.hid fun s => ends_any s HM.out (by rw [hp]; decide) ok.att ok.tl
  obtain ⟨pc0, ps0, pv, ph0⟩ := p
  unfold Rep.val
  simp only
  by_cases k0 : pc0 = 0
  · by_cases s3 : ps0 = 3
    · skip
      have HE : Hid (homedM ss l d ⟨pc0, ps0, pv, ph0⟩ = endsM d 3) := Lib.hid (by unfold homedM; simp only; rw [if_neg (show ¬ (d.phase = 0 ∧ pc0 = 9) by omega), if_neg (show ¬ (d.phase = 0 ∧ pc0 = 0 ∧ ps0 = 1) by omega), if_pos (show (d.phase = 2 ∧ pc0 = 0 ∧ ps0 = 3) by omega)])
      subst k0 s3
      clear hg M ok
      have H7 := Lib.hid (HEND.out 3)
      clear HEND
      go_enter Tryd.func33, Tryd.ntmps33
      go_wp2_with fail
      refine H7.out.mono ?_
      rintro e w7 ⟨rfl, hm⟩
      have HF := Lib.hid hm
      clear hm H7
      go_wp2_with fail
      go_end0
      refine ⟨rfl, ?_⟩
      rw [HE.out]
      exact HF.out
    have t3 : (ps0 == 3) = false := by simpa using s3
    have HE : Hid (homedM ss l d ⟨pc0, ps0, pv, ph0⟩ = { d with phase := 1 }) := Lib.hid (by unfold homedM; simp only; rw [if_neg (show ¬ (d.phase = 0 ∧ pc0 = 9) by omega), if_neg (show ¬ (d.phase = 0 ∧ pc0 = 0 ∧ ps0 = 1) by omega), if_neg (show ¬ (d.phase = 2 ∧ pc0 = 0 ∧ ps0 = 3) by omega), if_pos (show (d.phase = 2) by omega)])
    subst k0
    clear hg M ok HEND
    cases t2 : (ps0 == 2) <;> cases t1 : (ps0 == 1)
    all_goals
      go_enter Tryd.func33, Tryd.ntmps33
      go_wp2_with fail
      go_end0
      refine ⟨rfl, ?_⟩
      rw [HE.out]
      exact Mem.below (Mem.setPh HM0.out (by rw [hp]; decide) 1 (by decide)) (bel_new _ _)
  have b0 : (pc0 == 0) = false := by simpa using k0
  have HE : Hid (homedM ss l d ⟨pc0, ps0, pv, ph0⟩ = { d with phase := 1 }) := Lib.hid (by unfold homedM; simp only; rw [if_neg (show ¬ (d.phase = 0 ∧ pc0 = 9) by omega), if_neg (show ¬ (d.phase = 0 ∧ pc0 = 0 ∧ ps0 = 1) by omega), if_neg (show ¬ (d.phase = 2 ∧ pc0 = 0 ∧ ps0 = 3) by omega), if_pos (show (d.phase = 2) by omega)])
  clear hg M ok HEND k0
  go_enter Tryd.func33, Tryd.ntmps33
  go_wp2_with fail
  go_end0
  refine ⟨rfl, ?_⟩
  rw [HE.out]
  exact Mem.below (Mem.setPh HM0.out (by rw [hp]; decide) 1 (by decide)) (bel_new _ _)
set_option maxRecDepth 100000 in
set_option maxHeartbeats 8000000 in
theorem homed5 (p : Rep) (M : Mem w0 D0 w (DrA g mg l d :: MapA mg ss :: r)) (ok : DIn ss l d) (hp : d.phase = 5) :
    Calls Tryd.prog 33 #[.pointer (some ⟨g, 0, none⟩), Rep.val p] w fun e w' => e = .returned (.tuple #[]) ∧ Mem w0 D0 w' (DrA g mg l (homedM ss l d p) :: MapA mg ss :: r) := by
  have HM0 := Lib.hid M
  have HM := Lib.hid (M.below (bel_new w (.cells #[.int .i64 p.code, .int .i64 p.state, .string p.v, .bool p.h] 36)))
  obtain ⟨pa, pc, ra, rc, tv, lv, hg⟩ := Mem.drAt M
  obtain ⟨c6, cf6⟩ := drC_cell hg 6 (.int .i64 d.phase) rfl
  rw [hp] at c6
  have hlg := World.block_lt_of_cell? w _ c6
  simp only at hlg
  have HEND := Lib.hid fun s => ends_any s HM.out (by rw [hp]; decide) ok.att ok.tl
  obtain ⟨pc0, ps0, pv, ph0⟩ := p
  unfold Rep.val
  simp only
  by_cases k0 : pc0 = 0
  · skip
    by_cases s2 : ps0 = 2
    · skip
      have HE : Hid (homedM ss l d ⟨pc0, ps0, pv, ph0⟩ = endsM d ps0) := Lib.hid (by unfold homedM; simp only; rw [if_neg (show ¬ (d.phase = 0 ∧ pc0 = 9) by omega), if_neg (show ¬ (d.phase = 0 ∧ pc0 = 0 ∧ ps0 = 1) by omega), if_neg (show ¬ (d.phase = 2 ∧ pc0 = 0 ∧ ps0 = 3) by omega), if_neg (show ¬ (d.phase = 2) by omega), if_pos (show ((d.phase = 5 ∨ d.phase = 6) ∧ pc0 = 0 ∧ (ps0 = 2 ∨ ps0 = 3)) by omega)])
      subst k0 s2
      clear hg M ok
      have H7 := Lib.hid (HEND.out 2)
      clear HEND
      go_enter Tryd.func33, Tryd.ntmps33
      go_wp2_with fail
      refine H7.out.mono ?_
      rintro e w7 ⟨rfl, hm⟩
      have HF := Lib.hid hm
      clear hm H7
      go_wp2_with fail
      go_end0
      refine ⟨rfl, ?_⟩
      rw [HE.out]
      exact HF.out
    have t2 : (ps0 == 2) = false := by simpa using s2
    by_cases s3 : ps0 = 3
    · skip
      have HE : Hid (homedM ss l d ⟨pc0, ps0, pv, ph0⟩ = endsM d ps0) := Lib.hid (by unfold homedM; simp only; rw [if_neg (show ¬ (d.phase = 0 ∧ pc0 = 9) by omega), if_neg (show ¬ (d.phase = 0 ∧ pc0 = 0 ∧ ps0 = 1) by omega), if_neg (show ¬ (d.phase = 2 ∧ pc0 = 0 ∧ ps0 = 3) by omega), if_neg (show ¬ (d.phase = 2) by omega), if_pos (show ((d.phase = 5 ∨ d.phase = 6) ∧ pc0 = 0 ∧ (ps0 = 2 ∨ ps0 = 3)) by omega)])
      subst k0 s3
      clear hg M ok
      have H7 := Lib.hid (HEND.out 3)
      clear HEND
      go_enter Tryd.func33, Tryd.ntmps33
      go_wp2_with fail
      refine H7.out.mono ?_
      rintro e w7 ⟨rfl, hm⟩
      have HF := Lib.hid hm
      clear hm H7
      go_wp2_with fail
      go_end0
      refine ⟨rfl, ?_⟩
      rw [HE.out]
      exact HF.out
    have t3 : (ps0 == 3) = false := by simpa using s3
    have HE : Hid (homedM ss l d ⟨pc0, ps0, pv, ph0⟩ = d) := Lib.hid (by unfold homedM; simp only; rw [if_neg (show ¬ (d.phase = 0 ∧ pc0 = 9) by omega), if_neg (show ¬ (d.phase = 0 ∧ pc0 = 0 ∧ ps0 = 1) by omega), if_neg (show ¬ (d.phase = 2 ∧ pc0 = 0 ∧ ps0 = 3) by omega), if_neg (show ¬ (d.phase = 2) by omega), if_neg (show ¬ ((d.phase = 5 ∨ d.phase = 6) ∧ pc0 = 0 ∧ (ps0 = 2 ∨ ps0 = 3)) by omega)])
    subst k0
    clear hg M ok HEND
    cases t1 : (ps0 == 1)
    all_goals
      go_enter Tryd.func33, Tryd.ntmps33
      go_wp2_with fail
      go_end0
      refine ⟨rfl, ?_⟩
      rw [HE.out]
      exact HM.out
  have b0 : (pc0 == 0) = false := by simpa using k0
  have HE : Hid (homedM ss l d ⟨pc0, ps0, pv, ph0⟩ = d) := Lib.hid (by unfold homedM; simp only; rw [if_neg (show ¬ (d.phase = 0 ∧ pc0 = 9) by omega), if_neg (show ¬ (d.phase = 0 ∧ pc0 = 0 ∧ ps0 = 1) by omega), if_neg (show ¬ (d.phase = 2 ∧ pc0 = 0 ∧ ps0 = 3) by omega), if_neg (show ¬ (d.phase = 2) by omega), if_neg (show ¬ ((d.phase = 5 ∨ d.phase = 6) ∧ pc0 = 0 ∧ (ps0 = 2 ∨ ps0 = 3)) by omega)])
  clear hg M ok HEND k0
  go_enter Tryd.func33, Tryd.ntmps33
  go_wp2_with fail
  go_end0
  refine ⟨rfl, ?_⟩
  rw [HE.out]
  exact HM.out
set_option maxRecDepth 100000 in
set_option maxHeartbeats 8000000 in
theorem homed6 (p : Rep) (M : Mem w0 D0 w (DrA g mg l d :: MapA mg ss :: r)) (ok : DIn ss l d) (hp : d.phase = 6) :
    Calls Tryd.prog 33 #[.pointer (some ⟨g, 0, none⟩), Rep.val p] w fun e w' => e = .returned (.tuple #[]) ∧ Mem w0 D0 w' (DrA g mg l (homedM ss l d p) :: MapA mg ss :: r) := by
  have HM0 := Lib.hid M
  have HM := Lib.hid (M.below (bel_new w (.cells #[.int .i64 p.code, .int .i64 p.state, .string p.v, .bool p.h] 36)))
  obtain ⟨pa, pc, ra, rc, tv, lv, hg⟩ := Mem.drAt M
  obtain ⟨c6, cf6⟩ := drC_cell hg 6 (.int .i64 d.phase) rfl
  rw [hp] at c6
  have hlg := World.block_lt_of_cell? w _ c6
  simp only at hlg
  have HEND := Lib.hid fun s => ends_any s HM.out (by rw [hp]; decide) ok.att ok.tl
  obtain ⟨pc0, ps0, pv, ph0⟩ := p
  unfold Rep.val
  simp only
  by_cases k0 : pc0 = 0
  · skip
    by_cases s2 : ps0 = 2
    · skip
      have HE : Hid (homedM ss l d ⟨pc0, ps0, pv, ph0⟩ = endsM d ps0) := Lib.hid (by unfold homedM; simp only; rw [if_neg (show ¬ (d.phase = 0 ∧ pc0 = 9) by omega), if_neg (show ¬ (d.phase = 0 ∧ pc0 = 0 ∧ ps0 = 1) by omega), if_neg (show ¬ (d.phase = 2 ∧ pc0 = 0 ∧ ps0 = 3) by omega), if_neg (show ¬ (d.phase = 2) by omega), if_pos (show ((d.phase = 5 ∨ d.phase = 6) ∧ pc0 = 0 ∧ (ps0 = 2 ∨ ps0 = 3)) by omega)])
      subst k0 s2
      clear hg M ok
      have H7 := Lib.hid (HEND.out 2)
      clear HEND
      go_enter Tryd.func33, Tryd.ntmps33
      go_wp2_with fail
      refine H7.out.mono ?_
      rintro e w7 ⟨rfl, hm⟩
      have HF := Lib.hid hm
      clear hm H7
      go_wp2_with fail
      go_end0
      refine ⟨rfl, ?_⟩
      rw [HE.out]
      exact HF.out
    have t2 : (ps0 == 2) = false := by simpa using s2
    by_cases s3 : ps0 = 3
    · skip
      have HE : Hid (homedM ss l d ⟨pc0, ps0, pv, ph0⟩ = endsM d ps0) := Lib.hid (by unfold homedM; simp only; rw [if_neg (show ¬ (d.phase = 0 ∧ pc0 = 9) by omega), if_neg (show ¬ (d.phase = 0 ∧ pc0 = 0 ∧ ps0 = 1) by omega), if_neg (show ¬ (d.phase = 2 ∧ pc0 = 0 ∧ ps0 = 3) by omega), if_neg (show ¬ (d.phase = 2) by omega), if_pos (show ((d.phase = 5 ∨ d.phase = 6) ∧ pc0 = 0 ∧ (ps0 = 2 ∨ ps0 = 3)) by omega)])
      subst k0 s3
      clear hg M ok
      have H7 := Lib.hid (HEND.out 3)
      clear HEND
      go_enter Tryd.func33, Tryd.ntmps33
      go_wp2_with fail
      refine H7.out.mono ?_
      rintro e w7 ⟨rfl, hm⟩
      have HF := Lib.hid hm
      clear hm H7
      go_wp2_with fail
      go_end0
      refine ⟨rfl, ?_⟩
      rw [HE.out]
      exact HF.out
    have t3 : (ps0 == 3) = false := by simpa using s3
    have HE : Hid (homedM ss l d ⟨pc0, ps0, pv, ph0⟩ = d) := Lib.hid (by unfold homedM; simp only; rw [if_neg (show ¬ (d.phase = 0 ∧ pc0 = 9) by omega), if_neg (show ¬ (d.phase = 0 ∧ pc0 = 0 ∧ ps0 = 1) by omega), if_neg (show ¬ (d.phase = 2 ∧ pc0 = 0 ∧ ps0 = 3) by omega), if_neg (show ¬ (d.phase = 2) by omega), if_neg (show ¬ ((d.phase = 5 ∨ d.phase = 6) ∧ pc0 = 0 ∧ (ps0 = 2 ∨ ps0 = 3)) by omega)])
    subst k0
    clear hg M ok HEND
    cases t1 : (ps0 == 1)
    all_goals
      go_enter Tryd.func33, Tryd.ntmps33
      go_wp2_with fail
      go_end0
      refine ⟨rfl, ?_⟩
      rw [HE.out]
      exact HM.out
  have b0 : (pc0 == 0) = false := by simpa using k0
  have HE : Hid (homedM ss l d ⟨pc0, ps0, pv, ph0⟩ = d) := Lib.hid (by unfold homedM; simp only; rw [if_neg (show ¬ (d.phase = 0 ∧ pc0 = 9) by omega), if_neg (show ¬ (d.phase = 0 ∧ pc0 = 0 ∧ ps0 = 1) by omega), if_neg (show ¬ (d.phase = 2 ∧ pc0 = 0 ∧ ps0 = 3) by omega), if_neg (show ¬ (d.phase = 2) by omega), if_neg (show ¬ ((d.phase = 5 ∨ d.phase = 6) ∧ pc0 = 0 ∧ (ps0 = 2 ∨ ps0 = 3)) by omega)])
  clear hg M ok HEND k0
  go_enter Tryd.func33, Tryd.ntmps33
  go_wp2_with fail
  go_end0
  refine ⟨rfl, ?_⟩
  rw [HE.out]
  exact HM.out
end
end Go.Proofs.YtmifgnibalbgjaaDoor

