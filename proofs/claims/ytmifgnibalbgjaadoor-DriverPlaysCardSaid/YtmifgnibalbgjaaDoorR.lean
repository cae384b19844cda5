/- An operation begins, or what is behind the last one. -/
import Derived.Test.YtmifgnibalbgjaaDoorP
import Derived.Test.YtmifgnibalbgjaaDoorQ
namespace Go.Proofs.YtmifgnibalbgjaaDoor
open Go.RowKit
def insS (x : Int) (tl : List Int) : List Int := if tl.contains x then tl else tl.take (tl.countP (· < x)) ++ x :: tl.drop (tl.countP (· < x))
def beginsM (ss : List ByteArray) (l : List Opp) (d : Dr) (i : Nat) : Dr := match l[i]? with
  | none => { d with nth := i, phase := 5 }
  | some o => if o.kind = 6 then { d with nth := i, phase := 6, quits := true } else { d with nth := i, phase := 1, tl := insS (ofL ss o.key) d.tl }
theorem intsV_one : ∀ l : List Int, ∀ u ∈ intsV l, u.oneCell' = true := fun l u hu => by
  unfold intsV at hu
  obtain ⟨x, _, rfl⟩ := List.mem_map.1 hu
  rfl
theorem intsV_len (l : List Int) : (intsV l).length = l.length := by simp [intsV]
section
variable {w0 w : World} {D0 : List Nat}
/-- a number is put into a row. -/
theorem Mem.insI (L : List Asn) {a : Option Addr} {n c : Nat} {tl : List Int} {r : List Asn} [Stables L] [Stables r] (M : Mem w0 D0 w (L ++ RowA 3 1 a n c (intsV tl) :: r)) (hn : n = tl.length) (x : Int) (i : Nat) (hi : i ≤ n) (hb : n ≤ 100000) :
    Calls Tryd.prog 55 #[.slice a n c, .int .i64 i, .slice (some ⟨w.heap.size, 0, none⟩) 1 1] (w.alloc (.cells #[.int .i64 x] 3)) fun e w' => ∃ a' c', e = .returned (.slice a' (n + 1) c') ∧ Mem w0 D0 w' (L ++ RowA 3 1 a' (n + 1) c' (intsV (tl.take i ++ x :: tl.drop i)) :: r) := by
  have hb1 := bel_new w (.cells #[.int .i64 x] 3)
  obtain ⟨D, ⟨rfl, hr⟩, kk⟩ := Mem.focus L M
  have hvb : w.heap.size ∉ blkOf a := fun hm => by
    obtain ⟨y, hy, e⟩ := mem_blkOf.1 hm
    have := hr.lt y hy
    omega
  refine (insI_any a n c i w.heap.size (intsV tl) [.int .i64 x] (w.alloc (.cells #[.int .i64 x] 3)) (hr.below hb1) (heap_new w _) rfl hvb (intsV_one tl) (by simp [Value.oneCell']) hi (by omega)).mono ?_
  rintro e w' ⟨a', c', rfl, h1, h2, h3⟩
  refine ⟨a', c', rfl, kk [RowA 3 1 a' (n + 1) c' (intsV (tl.take i ++ x :: tl.drop i))] w' (blkOf a') (all_one ⟨rfl, ?_⟩) ⟨(Touch.of_below hb1 _).andThen h2, fun y hy => ?_⟩⟩
  · have e : intsV (tl.take i ++ x :: tl.drop i) = (intsV tl).take (i * 1) ++ [.int .i64 x] ++ (intsV tl).drop (i * 1) := by
      simp [intsV, List.map_take, List.map_drop]
    rw [e]; exact h1
  · obtain ⟨z, hz, rfl⟩ := mem_blkOf.1 hy
    rcases h3 z hz with h | h
    · exact .inl h
    · exact .inr (Nat.le_trans hb1.size h)
/-- where a number stands in a row that rises. -/
theorem Mem.srchI (L : List Asn) {a : Option Addr} {n c : Nat} {tl : List Int} {r : List Asn} [Stables L] [Stables r] (M : Mem w0 D0 w (L ++ RowA 3 1 a n c (intsV tl) :: r)) (hn : n = tl.length) (hs : tl.Pairwise (· ≤ ·)) (hb : n ≤ 100000) (x : Int) :
    Calls Tryd.prog 54 #[.slice a n c, .int .i64 x] w fun e w' => e = .returned (.tuple #[.int .i64 (tl.countP (· < x) : Nat), .bool (tl.contains x)]) ∧ ∃ q, w' = w.drewN q := by
  have hr := Mem.rowAt L M
  cases tl with
  | nil =>
    simp only [List.length_nil] at hn
    subst hn
    exact (Tryd.slices_BinarySearch_int_empty a c x w).mono fun e w' h => ⟨h.1, 0, h.2⟩
  | cons y ys =>
    rcases hr.out with ⟨_, h, _⟩ | ⟨g, cur, rfl, _⟩
    · rw [hn] at h; simp at h
    · have h := Tryd.slices_BinarySearch_int g 0 n c (y :: ys) x w (by omega) (by omega) (fun j hj => by
        obtain ⟨g', e, hc⟩ := hr.cellAt j (by rw [intsV_len]; exact hj)
        simp only [Option.some.injEq, Addr.mk.injEq, and_true] at e
        subst e
        rw [Nat.zero_add, hc]
        unfold intsV
        rw [List.getElem_map, List.getD_eq_getElem?_getD, List.getElem?_eq_getElem hj]
        rfl) (by rw [List.take_of_length_le (by omega)]; exact hs)
      rw [List.take_of_length_le (by omega)] at h
      exact h
end
theorem Mem.mapAt4 {w0 w : World} {D0 : List Nat} {mg : Nat} {ss : List ByteArray} {r : List Asn} {A B C E : Asn} (h : Mem w0 D0 w (A :: B :: C :: E :: MapA mg ss :: r)) : MapAt w mg ss := by
  obtain ⟨D, ⟨_, _, _, _, _, _, _, _, _, _, _, _, _, _, _, _, _, _, _, _, _, _, _, _, h2, _⟩, _⟩ := h.out
  exact h2.at
section
variable {w0 w : World} {D0 : List Nat} {g mg : Nat} {l : List Opp} {d : Dr} {ss : List ByteArray} {r : List Asn} [Stables r]
set_option maxRecDepth 100000 in
set_option maxHeartbeats 8000000 in
theorem begins_any (i : Nat) (M : Mem w0 D0 w (DrA g mg l d :: MapA mg ss :: r)) (hp : d.phase < 7) (hi : i ≤ 100000) (hr : rightL ss = 0) (hs : d.tl.Pairwise (· ≤ ·)) (hl : l.length ≤ 1000) (ht : d.tl.length ≤ 100000) :
    Calls Tryd.prog 46 #[.pointer (some ⟨g, 0, none⟩), .int .i64 i] w fun e w' => e = .returned (.tuple #[]) ∧ Mem w0 D0 w' (DrA g mg l (beginsM ss l d i) :: MapA mg ss :: r) := by
  obtain ⟨pa, pc, ra, rc, ta, tc, MW⟩ := Mem.openW M hp
  have hg := Mem.heapAt [] MW
  obtain ⟨c7, cf7⟩ := drC_cell hg 7 (.int .i64 d.nth) rfl
  obtain ⟨c6, cf6⟩ := drC_cell hg 6 (.int .i64 d.phase) rfl
  obtain ⟨c4, -⟩ := drC_cell hg 4 (.slice pa l.length pc) rfl
  have HM := Lib.hid MW
  obtain ⟨tx, stamp, tries, attempt, phase, nth, last, write, res, tl, outcome, quits⟩ := d
  obtain ⟨lastv, lasth⟩ := last
  obtain ⟨writev, writeh⟩ := write
  simp only at c7 cf7 c6 cf6 hs ht
  by_cases hlt : i < l.length
  · have hro := Mem.rowAt [BlockA g #[.int .i64 tx, .int .i64 stamp, .int .i64 tries, .pointer (some ⟨mg, 0, none⟩), .slice pa l.length pc, .int .i64 attempt, .int .i64 phase, .int .i64 nth, .string lastv, .bool lasth, .string writev, .bool writeh, .slice ra res.length rc, .slice ta tl.length tc, .slice none 0 0, .int .i64 outcome, .bool quits] 69] (r := [RowA 52 2 ra res.length rc (rsFlat res), RowA 3 1 ta tl.length tc (intsV tl)] ++ MapA mg ss :: r) MW
    obtain ⟨pg, rfl, ho0, ho1, ho2, ho3⟩ := opAt_row hro i hlt
    have HB : Hid (beginsM ss l ⟨tx, stamp, tries, attempt, phase, nth, ⟨lastv, lasth⟩, ⟨writev, writeh⟩, res, tl, outcome, quits⟩ i = if l[i].kind = 6 then ⟨tx, stamp, tries, attempt, 6, i, ⟨lastv, lasth⟩, ⟨writev, writeh⟩, res, tl, outcome, true⟩ else ⟨tx, stamp, tries, attempt, 1, i, ⟨lastv, lasth⟩, ⟨writev, writeh⟩, res, (insS (ofL ss l[i].key) tl), outcome, quits⟩) := Lib.hid (by unfold beginsM; rw [List.getElem?_eq_getElem hlt])
    clear M MW hro hp
    have hlp := World.block_lt_of_cell? w _ ho0
    have hlg := World.block_lt_of_cell? w _ c7
    simp only at hlp hlg
    have hpg : pg ≠ g := fun e => by
      subst e
      have h1 := HM.out.out
      obtain ⟨D, ⟨D1, D2, _, hd, ⟨rfl, _⟩, E1, E2, rfl, _, ⟨rfl, _⟩, _⟩, _⟩ := h1
      exact hd pg (by simp) (by simp [blkOf])
    have hpg2 : ¬ g = pg := fun e => hpg e.symm
    have HMX : Hid (Mem w0 D0 w (BlockA g #[.int .i64 tx, .int .i64 stamp, .int .i64 tries, .pointer (some ⟨mg, 0, none⟩), .slice (some ⟨pg, 0, none⟩) l.length pc, .int .i64 attempt, .int .i64 phase, .int .i64 nth, .string lastv, .bool lasth, .string writev, .bool writeh, .slice ra res.length rc, .slice ta tl.length tc, .slice none 0 0, .int .i64 outcome, .bool quits] 69 :: ([RowA 60 4 (some ⟨pg, 0, none⟩) l.length pc (opFlat l), RowA 52 2 ra res.length rc (rsFlat res), RowA 3 1 ta tl.length tc (intsV tl)] ++ MapA mg ss :: r))) := Lib.hid HM.out
    clear HM
    have HM := HMX
    clear HMX
    generalize l[i] = o at *
    generalize hnl : l.length = n at *
    have HN := Lib.hid hnl
    clear hnl
    obtain ⟨ok, oy, ov, on⟩ := o
    simp only at ho0 ho1 ho2 ho3 HB
    have hi0 : (0 : Int) ≤ (i : Int) := by omega
    have hil : (i : Int) < (n : Int) := by omega
    have hd : decide ((n : Int) ≤ (i : Int)) = false := by simp; omega
    have hd2 : decide (n ≤ i) = false := by simp; omega
    by_cases h6 : ok = 6
    · subst h6
      rw [if_pos rfl] at HB
      obtain ⟨c16, cf16⟩ := drC_cell hg 16 (.bool quits) rfl
      clear hg hs
      go_enter Tryd.func46, Tryd.ntmps46
      go_wp2_with fail
      go_end0
      refine ⟨rfl, ?_⟩
      rw [HB.out]
      have m0 : Mem w0 D0 (w.setCell ⟨g, 7, none⟩ (.int .i64 i)) (BlockA g #[.int .i64 tx, .int .i64 stamp, .int .i64 tries, .pointer (some ⟨mg, 0, none⟩), .slice (some ⟨pg, 0, none⟩) n pc, .int .i64 attempt, .int .i64 phase, .int .i64 i, .string lastv, .bool lasth, .string writev, .bool writeh, .slice ra res.length rc, .slice ta tl.length tc, .slice none 0 0, .int .i64 outcome, .bool quits] 69 :: ([RowA 60 4 (some ⟨pg, 0, none⟩) n pc (opFlat l), RowA 52 2 ra res.length rc (rsFlat res), RowA 3 1 ta tl.length tc (intsV tl)] ++ MapA mg ss :: r)) := Mem.setAt [] (r := ([RowA 60 4 (some ⟨pg, 0, none⟩) n pc (opFlat l), RowA 52 2 ra res.length rc (rsFlat res), RowA 3 1 ta tl.length tc (intsV tl)] ++ MapA mg ss :: r)) (i := 7) HM.out (.int .i64 i)
      have m1 : Mem w0 D0 ((w.setCell ⟨g, 7, none⟩ (.int .i64 i)).setCell ⟨g, 6, none⟩ (.int .i64 6)) (BlockA g #[.int .i64 tx, .int .i64 stamp, .int .i64 tries, .pointer (some ⟨mg, 0, none⟩), .slice (some ⟨pg, 0, none⟩) n pc, .int .i64 attempt, .int .i64 6, .int .i64 i, .string lastv, .bool lasth, .string writev, .bool writeh, .slice ra res.length rc, .slice ta tl.length tc, .slice none 0 0, .int .i64 outcome, .bool quits] 69 :: ([RowA 60 4 (some ⟨pg, 0, none⟩) n pc (opFlat l), RowA 52 2 ra res.length rc (rsFlat res), RowA 3 1 ta tl.length tc (intsV tl)] ++ MapA mg ss :: r)) := Mem.setAt [] (r := ([RowA 60 4 (some ⟨pg, 0, none⟩) n pc (opFlat l), RowA 52 2 ra res.length rc (rsFlat res), RowA 3 1 ta tl.length tc (intsV tl)] ++ MapA mg ss :: r)) (i := 6) m0 (.int .i64 6)
      have m2 : Mem w0 D0 (((w.setCell ⟨g, 7, none⟩ (.int .i64 i)).setCell ⟨g, 6, none⟩ (.int .i64 6)).setCell ⟨g, 16, none⟩ (.bool true)) (BlockA g #[.int .i64 tx, .int .i64 stamp, .int .i64 tries, .pointer (some ⟨mg, 0, none⟩), .slice (some ⟨pg, 0, none⟩) n pc, .int .i64 attempt, .int .i64 6, .int .i64 i, .string lastv, .bool lasth, .string writev, .bool writeh, .slice ra res.length rc, .slice ta tl.length tc, .slice none 0 0, .int .i64 outcome, .bool true] 69 :: ([RowA 60 4 (some ⟨pg, 0, none⟩) n pc (opFlat l), RowA 52 2 ra res.length rc (rsFlat res), RowA 3 1 ta tl.length tc (intsV tl)] ++ MapA mg ss :: r)) := Mem.setAt [] (r := ([RowA 60 4 (some ⟨pg, 0, none⟩) n pc (opFlat l), RowA 52 2 ra res.length rc (rsFlat res), RowA 3 1 ta tl.length tc (intsV tl)] ++ MapA mg ss :: r)) (i := 16) m1 (.bool true)
      refine Mem.closeW (d := ⟨tx, stamp, tries, attempt, 6, i, ⟨lastv, lasth⟩, ⟨writev, writeh⟩, res, tl, outcome, true⟩) (pa := some ⟨pg, 0, none⟩) (pc := pc) (ra := ra) (rc := rc) (ta := ta) (tc := tc) ?_ (by simp)
      have h := m2
      rw [← HN.out] at h
      exact h
    · have b6 : (ok == 6) = false := by simpa using h6
      rw [if_neg h6] at HB
      obtain ⟨c3, -⟩ := drC_cell hg 3 (.pointer (some ⟨mg, 0, none⟩)) rfl
      obtain ⟨c13, -⟩ := drC_cell hg 13 (.slice ta tl.length tc) rfl
      clear hg h6
      have m0 : Mem w0 D0 (w.setCell ⟨g, 7, none⟩ (.int .i64 i)) (BlockA g #[.int .i64 tx, .int .i64 stamp, .int .i64 tries, .pointer (some ⟨mg, 0, none⟩), .slice (some ⟨pg, 0, none⟩) n pc, .int .i64 attempt, .int .i64 phase, .int .i64 i, .string lastv, .bool lasth, .string writev, .bool writeh, .slice ra res.length rc, .slice ta tl.length tc, .slice none 0 0, .int .i64 outcome, .bool quits] 69 :: ([RowA 60 4 (some ⟨pg, 0, none⟩) n pc (opFlat l), RowA 52 2 ra res.length rc (rsFlat res), RowA 3 1 ta tl.length tc (intsV tl)] ++ MapA mg ss :: r)) := Mem.setAt [] (r := ([RowA 60 4 (some ⟨pg, 0, none⟩) n pc (opFlat l), RowA 52 2 ra res.length rc (rsFlat res), RowA 3 1 ta tl.length tc (intsV tl)] ++ MapA mg ss :: r)) (i := 7) HM.out (.int .i64 i)
      have m1 : Mem w0 D0 ((w.setCell ⟨g, 7, none⟩ (.int .i64 i)).setCell ⟨g, 6, none⟩ (.int .i64 1)) (BlockA g #[.int .i64 tx, .int .i64 stamp, .int .i64 tries, .pointer (some ⟨mg, 0, none⟩), .slice (some ⟨pg, 0, none⟩) n pc, .int .i64 attempt, .int .i64 1, .int .i64 i, .string lastv, .bool lasth, .string writev, .bool writeh, .slice ra res.length rc, .slice ta tl.length tc, .slice none 0 0, .int .i64 outcome, .bool quits] 69 :: ([RowA 60 4 (some ⟨pg, 0, none⟩) n pc (opFlat l), RowA 52 2 ra res.length rc (rsFlat res), RowA 3 1 ta tl.length tc (intsV tl)] ++ MapA mg ss :: r)) := Mem.setAt [] (r := ([RowA 60 4 (some ⟨pg, 0, none⟩) n pc (opFlat l), RowA 52 2 ra res.length rc (rsFlat res), RowA 3 1 ta tl.length tc (intsV tl)] ++ MapA mg ss :: r)) (i := 6) m0 (.int .i64 1)
      have HA := Lib.hid m1
      clear m0 m1
      have hga := Mem.heapAt [] HA.out
      obtain ⟨a3, -⟩ := drC_cell hga 3 (.pointer (some ⟨mg, 0, none⟩)) rfl
      obtain ⟨a4, -⟩ := drC_cell hga 4 (.slice (some ⟨pg, 0, none⟩) n pc) rfl
      have ay : ((w.setCell ⟨g, 7, none⟩ (.int .i64 i)).setCell ⟨g, 6, none⟩ (.int .i64 1)).cell? ⟨pg, i * 4 + 1, none⟩ = some (.string oy) := by simp [go_sem, hpg, hpg2, ho1]
      clear hga
      go_enter Tryd.func46, Tryd.ntmps46
      go_upto_region 2 with (fail)
      generalize ((w.setCell ⟨g, 7, none⟩ (.int .i64 i)).setCell ⟨g, 6, none⟩ (.int .i64 1)) = wa at *
      have hmap := Mem.mapAt4 HA.out
      have HOF : Hid (∀ W, Below wa.heap.size wa W → Calls Tryd.prog 44 #[.pointer (some ⟨mg, 0, none⟩), .string oy] W fun e w' => e = .returned (.int .i64 (ofL ss oy)) ∧ Below wa.heap.size wa w') := Lib.hid fun W hb =>
        (of_any mg ss oy W (hmap.keep hb) (rises_of ss hr)).mono fun e w' h => ⟨h.1, hb.trans (Below.mono h.2 hb.size)⟩
      have KS : Hid (∀ W, Below wa.heap.size wa W → W.cell? ⟨g, 3, none⟩ = some (.pointer (some ⟨mg, 0, none⟩)) ∧ W.cell? ⟨g, 4, none⟩ = some (.slice (some ⟨pg, 0, none⟩) n pc) ∧ W.cell? ⟨pg, i * 4 + 1, none⟩ = some (.string oy)) := Lib.hid fun W hb =>
        ⟨(hb.cell (World.block_lt_of_cell? wa _ a3)).trans a3, (hb.cell (World.block_lt_of_cell? wa _ a4)).trans a4, (hb.cell (World.block_lt_of_cell? wa _ ay)).trans ay⟩
      clear hmap hr
      generalize ofL ss oy = os at *
      have m0 := below_drew (Below.refl wa.heap.size wa)
      go_region_held3 (fun W => W.cell? ⟨g, 3, none⟩ = some (.pointer (some ⟨mg, 0, none⟩)) ∧ W.cell? ⟨g, 4, none⟩ = some (.slice (some ⟨pg, 0, none⟩) n pc) ∧ W.cell? ⟨pg, i * 4 + 1, none⟩ = some (.string oy)) (exact KS.out _ (by first | exact m1 | exact m0 | exact Below.refl _ _))
        (first
          | ((go_at_call 44; refine (HOF.out _ m0).mono ?_; rintro e w1 ⟨rfl, m1⟩))
          | (fail "none"))
      all_goals
        have HA1 := Lib.hid (Mem.below HA.out m1)
        have hg1 := Mem.heapAt [] HA1.out
        obtain ⟨c13', cf13'⟩ := drC_cell hg1 13 (.slice ta tl.length tc) rfl
        have HSR := Lib.hid (Mem.srchI [BlockA g #[.int .i64 tx, .int .i64 stamp, .int .i64 tries, .pointer (some ⟨mg, 0, none⟩), .slice (some ⟨pg, 0, none⟩) n pc, .int .i64 attempt, .int .i64 1, .int .i64 i, .string lastv, .bool lasth, .string writev, .bool writeh, .slice ra res.length rc, .slice ta tl.length tc, .slice none 0 0, .int .i64 outcome, .bool quits] 69, RowA 60 4 (some ⟨pg, 0, none⟩) n pc (opFlat l), RowA 52 2 ra res.length rc (rsFlat res)] (r := MapA mg ss :: r) HA1.out rfl hs ht os)
        clear m0 m1 hg1 KS HOF HA a3 a4 ay
        cases hco : tl.contains os with
        | true =>
          rw [hco] at HSR
          have HI : Hid (insS os tl = tl) := Lib.hid (by unfold insS; rw [hco]; rfl)
          rw [HI.out] at HB
          clear hco HI
          go_wp2_with fail
          refine HSR.out.mono ?_
          rintro e w2 ⟨rfl, q, rfl⟩
          have HA2 := Lib.hid (Mem.below HA1.out (bel_drewN _ q))
          clear HA1 HSR
          go_wp2_with fail
          go_end0
          refine ⟨rfl, ?_⟩
          rw [HB.out]
          refine Mem.closeW (d := ⟨tx, stamp, tries, attempt, 1, i, ⟨lastv, lasth⟩, ⟨writev, writeh⟩, res, tl, outcome, quits⟩) (pa := some ⟨pg, 0, none⟩) (pc := pc) (ra := ra) (rc := rc) (ta := ta) (tc := tc) ?_ (by simp)
          have h := HA2.out
          rw [← HN.out] at h
          exact h
        | false =>
          rw [hco] at HSR
          have HI : Hid (insS os tl = tl.take (tl.countP (· < (os : Int))) ++ (os : Int) :: tl.drop (tl.countP (· < (os : Int)))) := Lib.hid (by unfold insS; rw [hco]; rfl)
          rw [HI.out] at HB
          have hcl : tl.countP (· < (os : Int)) ≤ tl.length := List.countP_le_length
          have HL2 : Hid ((tl.take (tl.countP (· < (os : Int))) ++ (os : Int) :: tl.drop (tl.countP (· < (os : Int)))).length = tl.length + 1) := Lib.hid (by
            rw [List.length_append, List.length_cons, List.length_take, List.length_drop]; omega)
          clear hco HI
          go_wp2_with fail
          refine HSR.out.mono ?_
          rintro e w2 ⟨rfl, q, rfl⟩
          have HA2 := Lib.hid (Mem.below HA1.out (bel_drewN _ q))
          have HIN := Lib.hid (Mem.insI [BlockA g #[.int .i64 tx, .int .i64 stamp, .int .i64 tries, .pointer (some ⟨mg, 0, none⟩), .slice (some ⟨pg, 0, none⟩) n pc, .int .i64 attempt, .int .i64 1, .int .i64 i, .string lastv, .bool lasth, .string writev, .bool writeh, .slice ra res.length rc, .slice ta tl.length tc, .slice none 0 0, .int .i64 outcome, .bool quits] 69, RowA 60 4 (some ⟨pg, 0, none⟩) n pc (opFlat l), RowA 52 2 ra res.length rc (rsFlat res)] (r := MapA mg ss :: r) HA2.out rfl os (tl.countP (· < (os : Int))) hcl ht)
          clear HA1 HSR HA2
          generalize tl.countP (· < (os : Int)) = kk at *
          generalize tl.take kk ++ (os : Int) :: tl.drop kk = TL at *
          generalize htn : tl.length = tn at *
          clear htn
          have hz : w1.heap.size = (w1.drewN q).heap.size := rfl
          go_wp2_with fail
          refine HIN.out.mono ?_
          rintro e w3 ⟨a', c', rfl, hm⟩
          have HA3 := Lib.hid hm
          have hg3 := Mem.heapAt [] HA3.out
          obtain ⟨d13, df13⟩ := drC_cell hg3 13 (.slice ta tn tc) rfl
          clear hm HIN hg3
          go_wp2_with fail
          go_end0
          refine ⟨rfl, ?_⟩
          rw [HB.out]
          have m0 : Mem w0 D0 (w3.setCell ⟨g, 13, none⟩ (.slice a' (tn + 1) c')) (BlockA g #[.int .i64 tx, .int .i64 stamp, .int .i64 tries, .pointer (some ⟨mg, 0, none⟩), .slice (some ⟨pg, 0, none⟩) n pc, .int .i64 attempt, .int .i64 1, .int .i64 i, .string lastv, .bool lasth, .string writev, .bool writeh, .slice ra res.length rc, .slice a' (tn + 1) c', .slice none 0 0, .int .i64 outcome, .bool quits] 69 :: ([RowA 60 4 (some ⟨pg, 0, none⟩) n pc (opFlat l), RowA 52 2 ra res.length rc (rsFlat res), RowA 3 1 a' (tn + 1) c' (intsV TL)] ++ MapA mg ss :: r)) := Mem.setAt [] (r := ([RowA 60 4 (some ⟨pg, 0, none⟩) n pc (opFlat l), RowA 52 2 ra res.length rc (rsFlat res), RowA 3 1 a' (tn + 1) c' (intsV TL)] ++ MapA mg ss :: r)) (i := 13) HA3.out (.slice a' (tn + 1) c')
          refine Mem.closeW (d := ⟨tx, stamp, tries, attempt, 1, i, ⟨lastv, lasth⟩, ⟨writev, writeh⟩, res, TL, outcome, quits⟩) (pa := some ⟨pg, 0, none⟩) (pc := pc) (ra := ra) (rc := rc) (ta := a') (tc := c') ?_ (by simp)
          have h := m0
          rw [← HN.out, ← HL2.out] at h
          rw [← HL2.out]
          exact h
  · have HB : Hid (beginsM ss l ⟨tx, stamp, tries, attempt, phase, nth, ⟨lastv, lasth⟩, ⟨writev, writeh⟩, res, tl, outcome, quits⟩ i = ⟨tx, stamp, tries, attempt, 5, i, ⟨lastv, lasth⟩, ⟨writev, writeh⟩, res, tl, outcome, quits⟩) := Lib.hid (by unfold beginsM; rw [List.getElem?_eq_none (by omega)])
    clear hg M MW hp hs
    have HMX : Hid (Mem w0 D0 w (BlockA g #[.int .i64 tx, .int .i64 stamp, .int .i64 tries, .pointer (some ⟨mg, 0, none⟩), .slice pa l.length pc, .int .i64 attempt, .int .i64 phase, .int .i64 nth, .string lastv, .bool lasth, .string writev, .bool writeh, .slice ra res.length rc, .slice ta tl.length tc, .slice none 0 0, .int .i64 outcome, .bool quits] 69 :: ([RowA 60 4 pa l.length pc (opFlat l), RowA 52 2 ra res.length rc (rsFlat res), RowA 3 1 ta tl.length tc (intsV tl)] ++ MapA mg ss :: r))) := Lib.hid HM.out
    clear HM
    generalize hnl : l.length = n at *
    have HN := Lib.hid hnl
    clear hnl
    have hd : decide ((n : Int) ≤ (i : Int)) = true := by simp; omega
    have hd2 : decide (n ≤ i) = true := by simp; omega
    go_enter Tryd.func46, Tryd.ntmps46
    go_wp2_with fail
    go_end0
    refine ⟨rfl, ?_⟩
    rw [HB.out]
    have m0 : Mem w0 D0 (w.setCell ⟨g, 7, none⟩ (.int .i64 i)) (BlockA g #[.int .i64 tx, .int .i64 stamp, .int .i64 tries, .pointer (some ⟨mg, 0, none⟩), .slice pa n pc, .int .i64 attempt, .int .i64 phase, .int .i64 i, .string lastv, .bool lasth, .string writev, .bool writeh, .slice ra res.length rc, .slice ta tl.length tc, .slice none 0 0, .int .i64 outcome, .bool quits] 69 :: ([RowA 60 4 pa n pc (opFlat l), RowA 52 2 ra res.length rc (rsFlat res), RowA 3 1 ta tl.length tc (intsV tl)] ++ MapA mg ss :: r)) := Mem.setAt [] (r := ([RowA 60 4 pa n pc (opFlat l), RowA 52 2 ra res.length rc (rsFlat res), RowA 3 1 ta tl.length tc (intsV tl)] ++ MapA mg ss :: r)) (i := 7) HMX.out (.int .i64 i)
    have m1 : Mem w0 D0 ((w.setCell ⟨g, 7, none⟩ (.int .i64 i)).setCell ⟨g, 6, none⟩ (.int .i64 5)) (BlockA g #[.int .i64 tx, .int .i64 stamp, .int .i64 tries, .pointer (some ⟨mg, 0, none⟩), .slice pa n pc, .int .i64 attempt, .int .i64 5, .int .i64 i, .string lastv, .bool lasth, .string writev, .bool writeh, .slice ra res.length rc, .slice ta tl.length tc, .slice none 0 0, .int .i64 outcome, .bool quits] 69 :: ([RowA 60 4 pa n pc (opFlat l), RowA 52 2 ra res.length rc (rsFlat res), RowA 3 1 ta tl.length tc (intsV tl)] ++ MapA mg ss :: r)) := Mem.setAt [] (r := ([RowA 60 4 pa n pc (opFlat l), RowA 52 2 ra res.length rc (rsFlat res), RowA 3 1 ta tl.length tc (intsV tl)] ++ MapA mg ss :: r)) (i := 6) m0 (.int .i64 5)
    refine Mem.closeW (d := ⟨tx, stamp, tries, attempt, 5, i, ⟨lastv, lasth⟩, ⟨writev, writeh⟩, res, tl, outcome, quits⟩) (pa := pa) (pc := pc) (ra := ra) (rc := rc) (ta := ta) (tc := tc) ?_ (by simp)
    have h := m1
    rw [← HN.out] at h
    exact h
end
end Go.Proofs.YtmifgnibalbgjaaDoor

