/- What the driver asks for: an access. -/
import Derived.Test.YtmifgnibalbgjaaDoorI
namespace Go.Proofs.YtmifgnibalbgjaaDoor
open Go.RowKit
def accC (l : List Opp) (d : Dr) (k : Int) (q : Nat) : Cmd := match l[d.nth]? with
  | none => cmd0 d k
  | some o => ⟨k, d.tx, d.attempt, 0, ((3 * d.nth + q : Nat) : Int), o.key, if k = 4 then d.write.v else ⟨#[]⟩, if k = 2 then modeN o.kind else 0, if k = 4 then d.write.h else false⟩
def accS (ss : List ByteArray) (l : List Opp) (d : Dr) : Int := match l[d.nth]? with
  | none => 0
  | some o => ofL ss o.key
def accE (ss : List ByteArray) (l : List Opp) (d : Dr) (k : Int) (q : Nat) : Ending := .returned (.tuple #[.int .i64 (accS ss l d), Cmd.val (accC l d k q), .bool true])
section
variable {w0 w : World} {D0 : List Nat} {g mg : Nat} {l : List Opp} {d : Dr} {ss : List ByteArray} {r : List Asn}
theorem Mem.planAt (M : Mem w0 D0 w (DrA g mg l d :: r)) (hk : d.nth < l.length) : ∃ pg pc ra rc tv lv, w.heap[g]? = some (.cells (drC d mg (some ⟨pg, 0, none⟩) l.length pc ra d.res.length rc tv lv) 69 (0, 0)) ∧ opAt w pg (d.nth * 4) l[d.nth] := by
  obtain ⟨pa, pc, ra, rc, tv, lv, h1⟩ := Mem.openD M
  obtain ⟨D, ⟨D1, D2, _, _, ⟨_, h2⟩, E1, E2, _, _, ⟨_, h3⟩, _⟩, _⟩ := h1.out
  obtain ⟨pg, rfl, h4⟩ := opAt_row h3 d.nth hk
  exact ⟨pg, pc, ra, rc, tv, lv, h2, h4⟩
theorem Mem.heapAt {w0 w : World} {D0 : List Nat} (L : List Asn) {x : Nat} {C : Array Value} {T : TypeId} {r : List Asn} (h : Mem w0 D0 w (L ++ BlockA x C T :: r)) : w.heap[x]? = some (.cells C T (0, 0)) := by
  obtain ⟨D, h1, _⟩ := h.out
  obtain ⟨_, _, _, _, _, _, _, _, _, ⟨_, k⟩, _⟩ := all_append L (BlockA x C T :: r) h1
  exact k
variable [Stables r]
set_option maxRecDepth 100000 in
set_option maxHeartbeats 4000000 in
theorem access2 (M : Mem w0 D0 w (DrA g mg l d :: MapA mg ss :: r)) (hk : d.nth < l.length) (hl : l.length ≤ 1000) (hr : rightL ss = 0) :
    Calls Tryd.prog 30 #[.pointer (some ⟨g, 0, none⟩), .int .i64 2, .int .i64 0] w fun e w' => e = accE ss l d 2 0 ∧ Below w.heap.size w w' := by
  have hmap := Mem.mapAt M
  have HOF := Lib.hid fun key W (hb : Below w.heap.size w W) => of_any mg ss key W (hmap.keep hb) (rises_of ss hr)
  have HCMD := Lib.hid fun W (hb : Below w.heap.size w W) => command_any 2 (M.below hb)
  obtain ⟨pg, pc, ra, rc, tv, lv, hg, ho0, ho1, ho2, ho3⟩ := Mem.planAt M hk
  obtain ⟨c3, -⟩ := drC_cell hg 3 (.pointer (some ⟨mg, 0, none⟩)) rfl
  obtain ⟨c4, -⟩ := drC_cell hg 4 (.slice (some ⟨pg, 0, none⟩) l.length pc) rfl
  obtain ⟨c7, -⟩ := drC_cell hg 7 (.int .i64 d.nth) rfl
  have HE : Hid (accE ss l d 2 0 = .returned (.tuple #[.int .i64 (ofL ss l[d.nth].key), Cmd.val ⟨2, d.tx, d.attempt, 0, ((3 * d.nth + 0 : Nat) : Int), l[d.nth].key, ⟨#[]⟩, modeN l[d.nth].kind, false⟩, .bool true])) := Lib.hid (by
    unfold accE accS accC; rw [List.getElem?_eq_getElem hk]; rfl)
  generalize accE ss l d 2 0 = ae at *
  clear hg M hmap hr
  unfold Cmd.val cmd0 at HCMD
  unfold Cmd.val at HE
  simp only at HCMD HE
  generalize l[d.nth] = o at *
  obtain ⟨ok, oy, ov, on⟩ := o
  simp only at ho0 ho1 ho2 ho3 HE
  have HO1 := Lib.hid (HOF.out oy)
  clear HOF
  generalize hof : ofL ss oy = os at *
  generalize l.length = n at *
  generalize d.nth = nt at *
  generalize d.tx = tx at *
  generalize d.attempt = at_ at *
  have HMD := Lib.hid fun W => mode_any ⟨ok, oy, ov, on⟩ W
  unfold opV at HMD
  simp only at HMD
  generalize modeN ok = mo at *
  have HB := Lib.hid (Below.refl w.heap.size w)
  have hi0 : (0 : Int) ≤ (nt : Int) := by omega
  have hlg := World.block_lt_of_cell? w _ c3
  have hlp := World.block_lt_of_cell? w _ ho0
  simp only at hlg hlp
  clear hof
  have HM0 : Hid (Mem w [] (((w.alloc (.cells #[.int .i64 0, .int .i64 0, .int .i64 0, .int .i64 0, .int .i64 0, .string ⟨#[]⟩, .string ⟨#[]⟩, .int .i64 0, .bool false] 38)).drew).alloc (.cells #[.int .i64 ok, .string oy, .string ov, .int .i64 on] 60)) [BlockA (w.heap.size + 1) #[.int .i64 ok, .string oy, .string ov, .int .i64 on] 60, BlockA w.heap.size #[.int .i64 0, .int .i64 0, .int .i64 0, .int .i64 0, .int .i64 0, .string ⟨#[]⟩, .string ⟨#[]⟩, .int .i64 0, .bool false] 38]) := Lib.hid (by
    have m := (((Mem.nil w).block #[.int .i64 0, .int .i64 0, .int .i64 0, .int .i64 0, .int .i64 0, .string ⟨#[]⟩, .string ⟨#[]⟩, .int .i64 0, .bool false] 38).below (bel_drew _)).block #[.int .i64 ok, .string oy, .string ov, .int .i64 on] 60
    simpa using m)
  have HM0' : Hid (Mem w [] (((w.alloc (.cells #[.int .i64 0, .int .i64 0, .int .i64 0, .int .i64 0, .int .i64 0, .string ⟨#[]⟩, .string ⟨#[]⟩, .int .i64 0, .bool false] 38)).alloc (.cells #[.int .i64 ok, .string oy, .string ov, .int .i64 on] 60)).drew) [BlockA (w.heap.size + 1) #[.int .i64 ok, .string oy, .string ov, .int .i64 on] 60, BlockA w.heap.size #[.int .i64 0, .int .i64 0, .int .i64 0, .int .i64 0, .int .i64 0, .string ⟨#[]⟩, .string ⟨#[]⟩, .int .i64 0, .bool false] 38]) := Lib.hid (by
    have m := ((((Mem.nil w).block #[.int .i64 0, .int .i64 0, .int .i64 0, .int .i64 0, .int .i64 0, .string ⟨#[]⟩, .string ⟨#[]⟩, .int .i64 0, .bool false] 38)).block #[.int .i64 ok, .string oy, .string ov, .int .i64 on] 60).below (bel_drew _)
    simpa using m)
  go_enter Tryd.func30, Tryd.ntmps30
  go_wp2_with fail
  go_region
  all_goals
    go_wp2_with fail
    refine (HCMD.out _ (by first | exact HM0.out.bel | exact HM0'.out.bel)).mono ?_
    rintro e w1 ⟨rfl, hb⟩
    have HM1 : Hid (Mem w [] w1 [BlockA (w.heap.size + 1) #[.int .i64 ok, .string oy, .string ov, .int .i64 on] 60, BlockA w.heap.size #[.int .i64 0, .int .i64 0, .int .i64 0, .int .i64 0, .int .i64 0, .string ⟨#[]⟩, .string ⟨#[]⟩, .int .i64 0, .bool false] 38]) := Lib.hid (by first | exact HM0.out.below hb | exact HM0'.out.below hb)
    have hh := Mem.heapAt [] HM1.out
    have o0 := (cell_of_heap (i := 0) (v := .int .i64 ok) hh rfl).1
    have o1 := (cell_of_heap (i := 1) (v := .string oy) hh rfl).1
    have o2 := (cell_of_heap (i := 2) (v := .string ov) hh rfl).1
    have o3 := (cell_of_heap (i := 3) (v := .int .i64 on) hh rfl).1
    have d7 := (HM1.out.bel.cell hlg).trans c7
    have hzg := World.block_lt_of_cell? w1 _ d7
    have hzb := World.block_lt_of_cell? w1 _ o1
    simp only at hzg hzb
    clear hb hh HM0 HM0' HCMD
    have e3 := (HM1.out.bel.cell hlg).trans c3
    go_wp2_with fail
    go_region
    all_goals
      go_wp2_with fail
      have HM2 : Hid (Mem w [] (w1.alloc (.cells #[.int .i64 2, .int .i64 tx, .int .i64 at_, .int .i64 0, .int .i64 (3 * (nt : Int)), .string oy, .string ⟨#[]⟩, .int .i64 0, .bool false] 38)).drew [BlockA w1.heap.size #[.int .i64 2, .int .i64 tx, .int .i64 at_, .int .i64 0, .int .i64 (3 * (nt : Int)), .string oy, .string ⟨#[]⟩, .int .i64 0, .bool false] 38, BlockA (w.heap.size + 1) #[.int .i64 ok, .string oy, .string ov, .int .i64 on] 60, BlockA w.heap.size #[.int .i64 0, .int .i64 0, .int .i64 0, .int .i64 0, .int .i64 0, .string ⟨#[]⟩, .string ⟨#[]⟩, .int .i64 0, .bool false] 38]) := Lib.hid ((HM1.out.block #[.int .i64 2, .int .i64 tx, .int .i64 at_, .int .i64 0, .int .i64 (3 * (nt : Int)), .string oy, .string ⟨#[]⟩, .int .i64 0, .bool false] 38).below (bel_drew _))
      refine (HMD.out _).mono ?_
      rintro e w2 ⟨rfl, hb2⟩
      have HM3 := Lib.hid (HM2.out.below hb2)
      clear hb2 HM2 HMD
      generalize w1.heap.size = b10 at *
      have hh := Mem.heapAt [] HM3.out
      obtain ⟨t0, tf0⟩ := cell_of_heap (i := 0) (v := .int .i64 2) hh rfl
      obtain ⟨t1, tf1⟩ := cell_of_heap (i := 1) (v := .int .i64 tx) hh rfl
      obtain ⟨t2, tf2⟩ := cell_of_heap (i := 2) (v := .int .i64 at_) hh rfl
      obtain ⟨t3, tf3⟩ := cell_of_heap (i := 3) (v := .int .i64 0) hh rfl
      obtain ⟨t4, tf4⟩ := cell_of_heap (i := 4) (v := .int .i64 (3 * (nt : Int))) hh rfl
      obtain ⟨t5, tf5⟩ := cell_of_heap (i := 5) (v := .string oy) hh rfl
      obtain ⟨t6, tf6⟩ := cell_of_heap (i := 6) (v := .string ⟨#[]⟩) hh rfl
      obtain ⟨t7, tf7⟩ := cell_of_heap (i := 7) (v := .int .i64 0) hh rfl
      obtain ⟨t8, tf8⟩ := cell_of_heap (i := 8) (v := .bool false) hh rfl
      have hh2 := Mem.heapAt [BlockA b10 #[.int .i64 2, .int .i64 tx, .int .i64 at_, .int .i64 0, .int .i64 (3 * (nt : Int)), .string oy, .string ⟨#[]⟩, .int .i64 0, .bool false] 38] HM3.out
      have p1 := (cell_of_heap (i := 1) (v := .string oy) hh2 rfl).1
      have e3' := (HM3.out.bel.cell hlg).trans c3
      clear hh hh2 o0 o1 o2 o3 d7 e3 hzg hzb
      have HM4 : Hid (Mem w [] (w2.setCell ⟨b10, 7, none⟩ (.int .i64 mo)) [BlockA b10 #[.int .i64 2, .int .i64 tx, .int .i64 at_, .int .i64 0, .int .i64 (3 * (nt : Int)), .string oy, .string ⟨#[]⟩, .int .i64 mo, .bool false] 38, BlockA (w.heap.size + 1) #[.int .i64 ok, .string oy, .string ov, .int .i64 on] 60, BlockA w.heap.size #[.int .i64 0, .int .i64 0, .int .i64 0, .int .i64 0, .int .i64 0, .string ⟨#[]⟩, .string ⟨#[]⟩, .int .i64 0, .bool false] 38]) := Lib.hid (Mem.setAt [] HM3.out _)
      go_wp2_with fail
      generalize w2.setCell ⟨b10, 7, none⟩ (.int .i64 mo) = w5 at *
      have hh := Mem.heapAt [] HM4.out
      have u0 := (cell_of_heap (i := 0) (v := .int .i64 2) hh rfl).1
      have u1 := (cell_of_heap (i := 1) (v := .int .i64 tx) hh rfl).1
      have u2 := (cell_of_heap (i := 2) (v := .int .i64 at_) hh rfl).1
      have u3 := (cell_of_heap (i := 3) (v := .int .i64 0) hh rfl).1
      have u4 := (cell_of_heap (i := 4) (v := .int .i64 (3 * (nt : Int))) hh rfl).1
      have u5 := (cell_of_heap (i := 5) (v := .string oy) hh rfl).1
      have u6 := (cell_of_heap (i := 6) (v := .string ⟨#[]⟩) hh rfl).1
      have u7 := (cell_of_heap (i := 7) (v := .int .i64 mo) hh rfl).1
      have u8 := (cell_of_heap (i := 8) (v := .bool false) hh rfl).1
      have hh2 := Mem.heapAt [BlockA b10 #[.int .i64 2, .int .i64 tx, .int .i64 at_, .int .i64 0, .int .i64 (3 * (nt : Int)), .string oy, .string ⟨#[]⟩, .int .i64 mo, .bool false] 38] HM4.out
      have v1 := (cell_of_heap (i := 1) (v := .string oy) hh2 rfl).1
      have e5 := (HM4.out.bel.cell hlg).trans c3
      clear hh hh2
      go_region_with (go_at_call 44; refine (HO1.out _ (HM4.out.below (bel_drew _)).bel).mono ?_; rintro e w6 ⟨rfl, hb6⟩; have HM6 := Lib.hid ((HM4.out.below (bel_drew _)).below hb6); have hh := Mem.heapAt [] HM6.out; have x0 := (cell_of_heap (i := 0) (v := .int .i64 2) hh rfl).1; have x1 := (cell_of_heap (i := 1) (v := .int .i64 tx) hh rfl).1; have x2 := (cell_of_heap (i := 2) (v := .int .i64 at_) hh rfl).1; have x3 := (cell_of_heap (i := 3) (v := .int .i64 0) hh rfl).1; have x4 := (cell_of_heap (i := 4) (v := .int .i64 (3 * (nt : Int))) hh rfl).1; have x5 := (cell_of_heap (i := 5) (v := .string oy) hh rfl).1; have x6 := (cell_of_heap (i := 6) (v := .string ⟨#[]⟩) hh rfl).1; have x7 := (cell_of_heap (i := 7) (v := .int .i64 mo) hh rfl).1; have x8 := (cell_of_heap (i := 8) (v := .bool false) hh rfl).1; have hh2 := Mem.heapAt [BlockA b10 #[.int .i64 2, .int .i64 tx, .int .i64 at_, .int .i64 0, .int .i64 (3 * (nt : Int)), .string oy, .string ⟨#[]⟩, .int .i64 mo, .bool false] 38, BlockA (w.heap.size + 1) #[.int .i64 ok, .string oy, .string ov, .int .i64 on] 60] HM6.out; obtain ⟨z0, zf0⟩ := cell_of_heap (i := 0) (v := .int .i64 0) hh2 rfl; obtain ⟨z1, zf1⟩ := cell_of_heap (i := 1) (v := .int .i64 0) hh2 rfl; obtain ⟨z2, zf2⟩ := cell_of_heap (i := 2) (v := .int .i64 0) hh2 rfl; obtain ⟨z3, zf3⟩ := cell_of_heap (i := 3) (v := .int .i64 0) hh2 rfl; obtain ⟨z4, zf4⟩ := cell_of_heap (i := 4) (v := .int .i64 0) hh2 rfl; obtain ⟨z5, zf5⟩ := cell_of_heap (i := 5) (v := .string ⟨#[]⟩) hh2 rfl; obtain ⟨z6, zf6⟩ := cell_of_heap (i := 6) (v := .string ⟨#[]⟩) hh2 rfl; obtain ⟨z7, zf7⟩ := cell_of_heap (i := 7) (v := .int .i64 0) hh2 rfl; obtain ⟨z8, zf8⟩ := cell_of_heap (i := 8) (v := .bool false) hh2 rfl; clear hh hh2 hb6)
      all_goals
        have HMF := Lib.hid (Mem.set9 [BlockA b10 #[.int .i64 2, .int .i64 tx, .int .i64 at_, .int .i64 0, .int .i64 (3 * (nt : Int)), .string oy, .string ⟨#[]⟩, .int .i64 mo, .bool false] 38, BlockA (w.heap.size + 1) #[.int .i64 ok, .string oy, .string ov, .int .i64 on] 60] (r := []) HM6.out (.int .i64 2) (.int .i64 tx) (.int .i64 at_) (.int .i64 0) (.int .i64 (3 * (nt : Int))) (.string oy) (.string ⟨#[]⟩) (.int .i64 mo) (.bool false))
        clear HM6 HM4
        go_wp2_with fail
        generalize (((((((((w6.setCell ⟨w.heap.size, 0, none⟩ (.int .i64 2)).setCell ⟨w.heap.size, 1, none⟩ (.int .i64 tx)).setCell ⟨w.heap.size, 2, none⟩ (.int .i64 at_)).setCell ⟨w.heap.size, 3, none⟩ (.int .i64 0)).setCell ⟨w.heap.size, 4, none⟩ (.int .i64 (3 * (nt : Int)))).setCell ⟨w.heap.size, 5, none⟩ (.string oy)).setCell ⟨w.heap.size, 6, none⟩ (.string ⟨#[]⟩)).setCell ⟨w.heap.size, 7, none⟩ (.int .i64 mo)).setCell ⟨w.heap.size, 8, none⟩ (.bool false)) = w9 at *
        have hh := Mem.heapAt [BlockA b10 #[.int .i64 2, .int .i64 tx, .int .i64 at_, .int .i64 0, .int .i64 (3 * (nt : Int)), .string oy, .string ⟨#[]⟩, .int .i64 mo, .bool false] 38, BlockA (w.heap.size + 1) #[.int .i64 ok, .string oy, .string ov, .int .i64 on] 60] HMF.out
        have y0 := (cell_of_heap (i := 0) (v := .int .i64 2) hh rfl).1
        have y1 := (cell_of_heap (i := 1) (v := .int .i64 tx) hh rfl).1
        have y2 := (cell_of_heap (i := 2) (v := .int .i64 at_) hh rfl).1
        have y3 := (cell_of_heap (i := 3) (v := .int .i64 0) hh rfl).1
        have y4 := (cell_of_heap (i := 4) (v := .int .i64 (3 * (nt : Int))) hh rfl).1
        have y5 := (cell_of_heap (i := 5) (v := .string oy) hh rfl).1
        have y6 := (cell_of_heap (i := 6) (v := .string ⟨#[]⟩) hh rfl).1
        have y7 := (cell_of_heap (i := 7) (v := .int .i64 mo) hh rfl).1
        have y8 := (cell_of_heap (i := 8) (v := .bool false) hh rfl).1
        exact bodyPost_ret (v := .tuple #[.int .i64 os, .agg #[.int .i64 2, .int .i64 tx, .int .i64 at_, .int .i64 0, .int .i64 (3 * (nt : Int)), .string oy, .string ⟨#[]⟩, .int .i64 mo, .bool false], .bool true]) (by simp [results, Tryd.results30, go_sem, y0, y1, y2, y3, y4, y5, y6, y7, y8]) rfl
          ⟨by rw [HE.out, show (((3 * nt + 0 : Nat) : Int)) = (3 * (nt : Int)) by omega], HMF.out.bel⟩
end
end Go.Proofs.YtmifgnibalbgjaaDoor

