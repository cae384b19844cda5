/- What the driver asks for: an access. -/
import Derived.Test.YtmifgnibalbgjaaDoorJ
namespace Go.Proofs.YtmifgnibalbgjaaDoor
open Go.RowKit
section
variable {w0 w : World} {D0 : List Nat} {g mg : Nat} {l : List Opp} {d : Dr} {ss : List ByteArray} {r : List Asn}
variable [Stables r]
set_option maxRecDepth 100000 in
set_option maxHeartbeats 4000000 in
theorem access4 (M : Mem w0 D0 w (DrA g mg l d :: MapA mg ss :: r)) (hk : d.nth < l.length) (hl : l.length ≤ 1000) (hr : rightL ss = 0) :
    Calls Tryd.prog 30 #[.pointer (some ⟨g, 0, none⟩), .int .i64 4, .int .i64 2] w fun e w' => e = accE ss l d 4 2 ∧ Below w.heap.size w w' := by
  have hmap := Mem.mapAt M
  have HOF := Lib.hid fun key W (hb : Below w.heap.size w W) => of_any mg ss key W (hmap.keep hb) (rises_of ss hr)
  have HCMD := Lib.hid fun W (hb : Below w.heap.size w W) => command_any 4 (M.below hb)
  obtain ⟨pg, pc, ra, rc, tv, lv, hg, ho0, ho1, ho2, ho3⟩ := Mem.planAt M hk
  obtain ⟨c3, -⟩ := drC_cell hg 3 (.pointer (some ⟨mg, 0, none⟩)) rfl
  obtain ⟨c4, -⟩ := drC_cell hg 4 (.slice (some ⟨pg, 0, none⟩) l.length pc) rfl
  obtain ⟨c7, -⟩ := drC_cell hg 7 (.int .i64 d.nth) rfl
  obtain ⟨c10, -⟩ := drC_cell hg 10 (.string d.write.v) rfl
  obtain ⟨c11, -⟩ := drC_cell hg 11 (.bool d.write.h) rfl
  have HE : Hid (accE ss l d 4 2 = .returned (.tuple #[.int .i64 (ofL ss l[d.nth].key), Cmd.val ⟨4, d.tx, d.attempt, 0, ((3 * d.nth + 2 : Nat) : Int), l[d.nth].key, d.write.v, 0, d.write.h⟩, .bool true])) := Lib.hid (by
    unfold accE accS accC; rw [List.getElem?_eq_getElem hk]; rfl)
  generalize accE ss l d 4 2 = ae at *
  clear hg M hmap hr
  unfold Cmd.val cmd0 at HCMD
  unfold Cmd.val at HE
  simp only at HCMD HE
  generalize l[d.nth] = o at *
  obtain ⟨ok, oy, ov, on⟩ := o
  simp only at ho0 ho1 ho2 ho3 HE
  have HO1 := Lib.hid (HOF.out oy)
  clear HOF
  generalize hof : ofL ss oy = os at *
  generalize l.length = n at *
  generalize d.nth = nt at *
  generalize d.tx = tx at *
  generalize d.attempt = at_ at *
  generalize d.write.v = wv at *
  generalize d.write.h = wh at *
  have HMD := Lib.hid fun W => mode_any ⟨ok, oy, ov, on⟩ W
  unfold opV at HMD
  simp only at HMD
  generalize modeN ok = mo at *
  have HB := Lib.hid (Below.refl w.heap.size w)
  have hi0 : (0 : Int) ≤ (nt : Int) := by omega
  have hlg := World.block_lt_of_cell? w _ c3
  have hlp := World.block_lt_of_cell? w _ ho0
  simp only at hlg hlp
  clear hof
  have HM0 : Hid (Mem w [] (((w.alloc (.cells #[.int .i64 0, .int .i64 0, .int .i64 0, .int .i64 0, .int .i64 0, .string ⟨#[]⟩, .string ⟨#[]⟩, .int .i64 0, .bool false] 38)).drew).alloc (.cells #[.int .i64 ok, .string oy, .string ov, .int .i64 on] 60)) [BlockA (w.heap.size + 1) #[.int .i64 ok, .string oy, .string ov, .int .i64 on] 60, BlockA w.heap.size #[.int .i64 0, .int .i64 0, .int .i64 0, .int .i64 0, .int .i64 0, .string ⟨#[]⟩, .string ⟨#[]⟩, .int .i64 0, .bool false] 38]) := Lib.hid (by
    have m := (((Mem.nil w).block #[.int .i64 0, .int .i64 0, .int .i64 0, .int .i64 0, .int .i64 0, .string ⟨#[]⟩, .string ⟨#[]⟩, .int .i64 0, .bool false] 38).below (bel_drew _)).block #[.int .i64 ok, .string oy, .string ov, .int .i64 on] 60
    simpa using m)
  have HM0' : Hid (Mem w [] (((w.alloc (.cells #[.int .i64 0, .int .i64 0, .int .i64 0, .int .i64 0, .int .i64 0, .string ⟨#[]⟩, .string ⟨#[]⟩, .int .i64 0, .bool false] 38)).alloc (.cells #[.int .i64 ok, .string oy, .string ov, .int .i64 on] 60)).drew) [BlockA (w.heap.size + 1) #[.int .i64 ok, .string oy, .string ov, .int .i64 on] 60, BlockA w.heap.size #[.int .i64 0, .int .i64 0, .int .i64 0, .int .i64 0, .int .i64 0, .string ⟨#[]⟩, .string ⟨#[]⟩, .int .i64 0, .bool false] 38]) := Lib.hid (by
    have m := ((((Mem.nil w).block #[.int .i64 0, .int .i64 0, .int .i64 0, .int .i64 0, .int .i64 0, .string ⟨#[]⟩, .string ⟨#[]⟩, .int .i64 0, .bool false] 38)).block #[.int .i64 ok, .string oy, .string ov, .int .i64 on] 60).below (bel_drew _)
    simpa using m)
  go_enter Tryd.func30, Tryd.ntmps30
  go_wp2_with fail
  go_region
  all_goals
    go_wp2_with fail
    refine (HCMD.out _ (by first | exact HM0.out.bel | exact HM0'.out.bel)).mono ?_
    rintro e w1 ⟨rfl, hb⟩
    have HM1 : Hid (Mem w [] w1 [BlockA (w.heap.size + 1) #[.int .i64 ok, .string oy, .string ov, .int .i64 on] 60, BlockA w.heap.size #[.int .i64 0, .int .i64 0, .int .i64 0, .int .i64 0, .int .i64 0, .string ⟨#[]⟩, .string ⟨#[]⟩, .int .i64 0, .bool false] 38]) := Lib.hid (by first | exact HM0.out.below hb | exact HM0'.out.below hb)
    have hh := Mem.heapAt [] HM1.out
    have o0 := (cell_of_heap (i := 0) (v := .int .i64 ok) hh rfl).1
    have o1 := (cell_of_heap (i := 1) (v := .string oy) hh rfl).1
    have o2 := (cell_of_heap (i := 2) (v := .string ov) hh rfl).1
    have o3 := (cell_of_heap (i := 3) (v := .int .i64 on) hh rfl).1
    have d7 := (HM1.out.bel.cell hlg).trans c7
    have hzg := World.block_lt_of_cell? w1 _ d7
    have hzb := World.block_lt_of_cell? w1 _ o1
    simp only at hzg hzb
    clear hb hh HM0 HM0' HCMD
    have e3 := (HM1.out.bel.cell hlg).trans c3
    have d10 := (HM1.out.bel.cell hlg).trans c10
    have d11 := (HM1.out.bel.cell hlg).trans c11
    go_wp2_with fail
    go_region
    all_goals
      go_wp2_with fail
      go_region
      all_goals go_wp2_with fail
      have HM4 : Hid (Mem w [] ((w1.alloc (.cells #[.int .i64 4, .int .i64 tx, .int .i64 at_, .int .i64 0, .int .i64 (3 * (nt : Int) + 2), .string oy, .string wv, .int .i64 0, .bool wh] 38)).drew.drew) [BlockA w1.heap.size #[.int .i64 4, .int .i64 tx, .int .i64 at_, .int .i64 0, .int .i64 (3 * (nt : Int) + 2), .string oy, .string wv, .int .i64 0, .bool wh] 38, BlockA (w.heap.size + 1) #[.int .i64 ok, .string oy, .string ov, .int .i64 on] 60, BlockA w.heap.size #[.int .i64 0, .int .i64 0, .int .i64 0, .int .i64 0, .int .i64 0, .string ⟨#[]⟩, .string ⟨#[]⟩, .int .i64 0, .bool false] 38]) := Lib.hid (((HM1.out.block #[.int .i64 4, .int .i64 tx, .int .i64 at_, .int .i64 0, .int .i64 (3 * (nt : Int) + 2), .string oy, .string wv, .int .i64 0, .bool wh] 38).below (bel_drew _)).below (bel_drew _))
      generalize w1.heap.size = b10 at *
      clear o0 o1 o2 o3 d7 e3 hzg hzb
      generalize (w1.alloc (.cells #[.int .i64 4, .int .i64 tx, .int .i64 at_, .int .i64 0, .int .i64 (3 * (nt : Int) + 2), .string oy, .string wv, .int .i64 0, .bool wh] 38)).drew.drew = w5 at *
      have hh := Mem.heapAt [] HM4.out
      have u0 := (cell_of_heap (i := 0) (v := .int .i64 4) hh rfl).1
      have u1 := (cell_of_heap (i := 1) (v := .int .i64 tx) hh rfl).1
      have u2 := (cell_of_heap (i := 2) (v := .int .i64 at_) hh rfl).1
      have u3 := (cell_of_heap (i := 3) (v := .int .i64 0) hh rfl).1
      have u4 := (cell_of_heap (i := 4) (v := .int .i64 (3 * (nt : Int) + 2)) hh rfl).1
      have u5 := (cell_of_heap (i := 5) (v := .string oy) hh rfl).1
      have u6 := (cell_of_heap (i := 6) (v := .string wv) hh rfl).1
      have u7 := (cell_of_heap (i := 7) (v := .int .i64 0) hh rfl).1
      have u8 := (cell_of_heap (i := 8) (v := .bool wh) hh rfl).1
      have hh2 := Mem.heapAt [BlockA b10 #[.int .i64 4, .int .i64 tx, .int .i64 at_, .int .i64 0, .int .i64 (3 * (nt : Int) + 2), .string oy, .string wv, .int .i64 0, .bool wh] 38] HM4.out
      have v1 := (cell_of_heap (i := 1) (v := .string oy) hh2 rfl).1
      have e5 := (HM4.out.bel.cell hlg).trans c3
      clear hh hh2
      go_region_with (go_at_call 44; refine (HO1.out _ (HM4.out.below (bel_drew _)).bel).mono ?_; rintro e w6 ⟨rfl, hb6⟩; have HM6 := Lib.hid ((HM4.out.below (bel_drew _)).below hb6); have hh := Mem.heapAt [] HM6.out; have x0 := (cell_of_heap (i := 0) (v := .int .i64 4) hh rfl).1; have x1 := (cell_of_heap (i := 1) (v := .int .i64 tx) hh rfl).1; have x2 := (cell_of_heap (i := 2) (v := .int .i64 at_) hh rfl).1; have x3 := (cell_of_heap (i := 3) (v := .int .i64 0) hh rfl).1; have x4 := (cell_of_heap (i := 4) (v := .int .i64 (3 * (nt : Int) + 2)) hh rfl).1; have x5 := (cell_of_heap (i := 5) (v := .string oy) hh rfl).1; have x6 := (cell_of_heap (i := 6) (v := .string wv) hh rfl).1; have x7 := (cell_of_heap (i := 7) (v := .int .i64 0) hh rfl).1; have x8 := (cell_of_heap (i := 8) (v := .bool wh) hh rfl).1; have hh2 := Mem.heapAt [BlockA b10 #[.int .i64 4, .int .i64 tx, .int .i64 at_, .int .i64 0, .int .i64 (3 * (nt : Int) + 2), .string oy, .string wv, .int .i64 0, .bool wh] 38, BlockA (w.heap.size + 1) #[.int .i64 ok, .string oy, .string ov, .int .i64 on] 60] HM6.out; obtain ⟨z0, zf0⟩ := cell_of_heap (i := 0) (v := .int .i64 0) hh2 rfl; obtain ⟨z1, zf1⟩ := cell_of_heap (i := 1) (v := .int .i64 0) hh2 rfl; obtain ⟨z2, zf2⟩ := cell_of_heap (i := 2) (v := .int .i64 0) hh2 rfl; obtain ⟨z3, zf3⟩ := cell_of_heap (i := 3) (v := .int .i64 0) hh2 rfl; obtain ⟨z4, zf4⟩ := cell_of_heap (i := 4) (v := .int .i64 0) hh2 rfl; obtain ⟨z5, zf5⟩ := cell_of_heap (i := 5) (v := .string ⟨#[]⟩) hh2 rfl; obtain ⟨z6, zf6⟩ := cell_of_heap (i := 6) (v := .string ⟨#[]⟩) hh2 rfl; obtain ⟨z7, zf7⟩ := cell_of_heap (i := 7) (v := .int .i64 0) hh2 rfl; obtain ⟨z8, zf8⟩ := cell_of_heap (i := 8) (v := .bool false) hh2 rfl; clear hh hh2 hb6)
      all_goals
        have HMF := Lib.hid (Mem.set9 [BlockA b10 #[.int .i64 4, .int .i64 tx, .int .i64 at_, .int .i64 0, .int .i64 (3 * (nt : Int) + 2), .string oy, .string wv, .int .i64 0, .bool wh] 38, BlockA (w.heap.size + 1) #[.int .i64 ok, .string oy, .string ov, .int .i64 on] 60] (r := []) HM6.out (.int .i64 4) (.int .i64 tx) (.int .i64 at_) (.int .i64 0) (.int .i64 (3 * (nt : Int) + 2)) (.string oy) (.string wv) (.int .i64 0) (.bool wh))
        clear HM6 HM4
        go_wp2_with fail
        generalize (((((((((w6.setCell ⟨w.heap.size, 0, none⟩ (.int .i64 4)).setCell ⟨w.heap.size, 1, none⟩ (.int .i64 tx)).setCell ⟨w.heap.size, 2, none⟩ (.int .i64 at_)).setCell ⟨w.heap.size, 3, none⟩ (.int .i64 0)).setCell ⟨w.heap.size, 4, none⟩ (.int .i64 (3 * (nt : Int) + 2))).setCell ⟨w.heap.size, 5, none⟩ (.string oy)).setCell ⟨w.heap.size, 6, none⟩ (.string wv)).setCell ⟨w.heap.size, 7, none⟩ (.int .i64 0)).setCell ⟨w.heap.size, 8, none⟩ (.bool wh)) = w9 at *
        have hh := Mem.heapAt [BlockA b10 #[.int .i64 4, .int .i64 tx, .int .i64 at_, .int .i64 0, .int .i64 (3 * (nt : Int) + 2), .string oy, .string wv, .int .i64 0, .bool wh] 38, BlockA (w.heap.size + 1) #[.int .i64 ok, .string oy, .string ov, .int .i64 on] 60] HMF.out
        have y0 := (cell_of_heap (i := 0) (v := .int .i64 4) hh rfl).1
        have y1 := (cell_of_heap (i := 1) (v := .int .i64 tx) hh rfl).1
        have y2 := (cell_of_heap (i := 2) (v := .int .i64 at_) hh rfl).1
        have y3 := (cell_of_heap (i := 3) (v := .int .i64 0) hh rfl).1
        have y4 := (cell_of_heap (i := 4) (v := .int .i64 (3 * (nt : Int) + 2)) hh rfl).1
        have y5 := (cell_of_heap (i := 5) (v := .string oy) hh rfl).1
        have y6 := (cell_of_heap (i := 6) (v := .string wv) hh rfl).1
        have y7 := (cell_of_heap (i := 7) (v := .int .i64 0) hh rfl).1
        have y8 := (cell_of_heap (i := 8) (v := .bool wh) hh rfl).1
        exact bodyPost_ret (v := .tuple #[.int .i64 os, .agg #[.int .i64 4, .int .i64 tx, .int .i64 at_, .int .i64 0, .int .i64 (3 * (nt : Int) + 2), .string oy, .string wv, .int .i64 0, .bool wh], .bool true]) (by simp [results, Tryd.results30, go_sem, y0, y1, y2, y3, y4, y5, y6, y7, y8]) rfl
          ⟨by rw [HE.out, show (((3 * nt + 2 : Nat) : Int)) = (3 * (nt : Int) + 2) by omega], HMF.out.bel⟩
end
end Go.Proofs.YtmifgnibalbgjaaDoor

