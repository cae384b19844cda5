/- The fixed calls walked. -/
import Derived.Test.YtbgabdofnmijnaaZ
namespace Go.Proofs.Ytbgabdofnmijnaa
open Go.RowKit
abbrev FLc : Array Value := #[.int .i64 2, .int .i64 0, .string kX, .int .i64 1, .int .i64 1, .string kX, .int .i64 3, .int .i64 1, .string kN, .int .i64 3, .int .i64 0, .string kN]
theorem fl_at {w : World} {g : Nat} (h : w.heap[g]? = some (.cells FLc 36 (0, 0))) : MksAt w (some ⟨g, 0, none⟩) 4 FL :=
  MksAt.row (c := 4) (Row.mk (cur := FLc) h (by decide) (by decide) rfl rfl) (by decide)
theorem f8_at {w : World} {g : Nat} (h : w.heap[g]? = some (.cells #[.int .i64 3, .int .i64 0, .string kN, .int .i64 3, .int .i64 0, .string kN] 36 (0, 0))) : MksAt w (some ⟨g, 0, none⟩) 2 [⟨3, 0, kN⟩, ⟨3, 0, kN⟩] :=
  MksAt.row (c := 2) (Row.mk (cur := #[.int .i64 3, .int .i64 0, .string kN, .int .i64 3, .int .i64 0, .string kN]) h (by decide) (by decide) rfl rfl) (by decide)
theorem fA_at {w : World} {g : Nat} (h : w.heap[g]? = some (.cells #[.int .i64 0, .int .i64 0, .string kN] 36 (0, 0))) : MksAt w (some ⟨g, 0, none⟩) 1 [⟨0, 0, kN⟩] :=
  MksAt.row (c := 1) (Row.mk (cur := #[.int .i64 0, .int .i64 0, .string kN]) h (by decide) (by decide) rfl rfl) (by decide)
theorem f101_row {w : World} {g : Nat} (h : w.heap[g]? = some (.cells #[.int .i64 1, .int .i64 0, .int .i64 1] 3 (0, 0))) : Row w 3 1 (some ⟨g, 0, none⟩) 3 3 (intsV [1, 0, 1]) :=
  Row.mk (cur := #[.int .i64 1, .int .i64 0, .int .i64 1]) h (by decide) (by decide) rfl rfl
theorem Mem.blkHd {w0 w : World} {D0 : List Nat} {l : List Asn} [Stables l] {g : Nat} {cur : Array Value} {T : TypeId} (h : Mem w0 D0 w (BlockA g cur T :: l)) : w.heap[g]? = some (.cells cur T (0, 0)) := by
  obtain ⟨D, hD⟩ := Mem.get (A := BlockA g cur T) [] h
  exact hD.2
theorem Mem.blkAt {w0 w : World} {D0 : List Nat} (l : List Asn) {r : List Asn} [Stables l] [Stables r] {g : Nat} {cur : Array Value} {T : TypeId} (h : Mem w0 D0 w (l ++ BlockA g cur T :: r)) : w.heap[g]? = some (.cells cur T (0, 0)) := by
  obtain ⟨D, hD⟩ := Mem.get l h
  exact hD.2
set_option maxRecDepth 100000 in
set_option maxHeartbeats 8000000 in
theorem fixed_any (w : World) : Calls Try.prog 7 #[] w fun e w' => e = .returned (.bool true) ∧ Below w.heap.size w w' := by
  have M0 := Lib.hid ((Mem.nil w).block FLc 36)
  have HED := Lib.hid fun W (h : MksAt W (some ⟨w.heap.size, 0, none⟩) 4 FL) => edges_any (some ⟨w.heap.size, 0, none⟩) 4 4 FL W h (by decide) (by decide)
  have HOR := Lib.hid fun W (h : MksAt W (some ⟨w.heap.size, 0, none⟩) 4 FL) => order_any (some ⟨w.heap.size, 0, none⟩) 4 4 FL W h (by decide) (by decide)
  have HSO := Lib.hid fun W (h : MksAt W (some ⟨w.heap.size, 0, none⟩) 4 FL) => sources_any (some ⟨w.heap.size, 0, none⟩) 4 4 FL W h (by decide)
  have HRI := Lib.hid fun W (h : MksAt W (some ⟨w.heap.size, 0, none⟩) 4 FL) => right_any (some ⟨w.heap.size, 0, none⟩) 4 4 FL W h (by decide)
  have HRC := Lib.hid fun W (h : MksAt W (some ⟨w.heap.size, 0, none⟩) 4 FL) => recov_any (some ⟨w.heap.size, 0, none⟩) 4 4 FL W h (by decide)
  have HST := Lib.hid fun W (h : MksAt W (some ⟨w.heap.size, 0, none⟩) 4 FL) => strict_any (some ⟨w.heap.size, 0, none⟩) 4 4 FL W h (by decide) (by decide)
  have HRG := Lib.hid fun W (h : MksAt W (some ⟨w.heap.size, 0, none⟩) 4 FL) => rigor_any (some ⟨w.heap.size, 0, none⟩) 1 4 FL1 W (h.take 1 (by decide)) (by decide) (by decide)
  have HCA := Lib.hid fun W (h : MksAt W (some ⟨w.heap.size, 0, none⟩) 4 FL) => casc_any (some ⟨w.heap.size, 0, none⟩) 1 4 FL1 W (h.take 1 (by decide)) (by decide)
  have HRV := Lib.hid fun W (h : MksAt W (some ⟨w.heap.size, 0, none⟩) 4 FL) => recov_any (some ⟨w.heap.size, 0, none⟩) 1 4 FL1 W (h.take 1 (by decide)) (by decide)
  rw [fx_right] at HRI
  rw [fx_rec] at HRC
  rw [fx_str] at HST
  rw [fx_rig1] at HRG
  rw [fx_cas1] at HCA
  rw [fx_rec1] at HRV
  have HSE := Lib.hid fun W g2 (h : MksAt W (some ⟨w.heap.size, 0, none⟩) 4 FL) (h2 : Row W 3 1 (some ⟨g2, 0, none⟩) 3 3 (intsV [1, 0, 1])) => serial_any (some ⟨w.heap.size, 0, none⟩) 4 4 FL (some ⟨g2, 0, none⟩) 3 [1, 0, 1] W h (by decide) h2 (by decide)
  rw [fx_serial] at HSE
  go_enter Try.func7, Try.ntmps7
  go_wp2_with fail
  refine (HED.out _ (fl_at M0.out.blkHd)).mono ?_
  rintro e w1 ⟨eb, ed, E, rfl, hE, hm⟩
  obtain rfl := fx_edges hE
  have M1 := Lib.hid (M0.out.made hm)
  clear hE hm M0 HED
  generalize w.heap.size = g at *
  go_wp2_with fail
  refine (HOR.out _ (fl_at (Mem.blkAt [RowE eb ed [⟨0, 1⟩]] M1.out))).mono ?_
  rintro e w2 ⟨ob, od, O, ok, rfl, hO, hm⟩
  obtain ⟨rfl, rfl⟩ := fx_order hO
  have M2 := Lib.hid (M1.out.made hm)
  clear hO hm M1 HOR
  go_wp2_with fail
  refine (HSO.out _ (fl_at (Mem.blkAt [RowI ob od [0, 1], RowE eb ed [⟨0, 1⟩]] M2.out))).mono ?_
  rintro e w3 ⟨sb, sd, rfl, hm⟩
  rw [fx_sources] at hm
  have M3 := Lib.hid (M2.out.made hm)
  have hsl : (sourcesM FL).length = 1 := by rw [fx_sources]; rfl
  rw [hsl]
  clear hm M2 HSO hsl
  have M4 := Lib.hid (M3.out.block #[.int .i64 1, .int .i64 0, .int .i64 1] 3)
  go_wp2_with fail
  refine (HSE.out _ _ (fl_at (Mem.blkAt [BlockA w3.heap.size #[.int .i64 1, .int .i64 0, .int .i64 1] 3, RowS sb sd [⟨1, 0⟩], RowI ob od [0, 1], RowE eb ed [⟨0, 1⟩]] M4.out)) (f101_row M4.out.blkHd)).mono ?_
  rintro e w4 ⟨mb, md, rfl, hm⟩
  have M5 := Lib.hid (Mem.drop [RowM mb md FM] (A := BlockA w3.heap.size #[.int .i64 1, .int .i64 0, .int .i64 1] 3) (r := [RowS sb sd [⟨1, 0⟩], RowI ob od [0, 1], RowE eb ed [⟨0, 1⟩], BlockA g FLc 36]) (M4.out.made hm))
  rw [show FM.length = 4 from rfl]
  clear hm M3 M4 HSE
  go_wp2_with fail
  refine (HRI.out _ (fl_at (Mem.blkAt [RowM mb md FM, RowS sb sd [⟨1, 0⟩], RowI ob od [0, 1], RowE eb ed [⟨0, 1⟩]] M5.out))).mono ?_
  rintro e w5 ⟨rfl, hb⟩
  have M6 := Lib.hid (M5.out.below hb)
  clear hb M5 HRI
  obtain ⟨ge, rfl, -⟩ := egAt_row (Mem.rowAt [RowM mb md FM, RowS sb sd [⟨1, 0⟩], RowI ob od [0, 1]] M6.out) 0 (by decide)
  obtain ⟨gs, rfl, -⟩ := srAt_row (Mem.rowAt [RowM mb md FM] M6.out) 0 (by decide)
  obtain ⟨gm, rfl, -⟩ := mkAt_row (Mem.rowAt [] (r := [RowS (some ⟨gs, 0, none⟩) sd [⟨1, 0⟩], RowI ob od [0, 1], RowE (some ⟨ge, 0, none⟩) ed [⟨0, 1⟩], BlockA g FLc 36]) M6.out) 0 (by decide)
  obtain ⟨go, rfl, -⟩ := (Mem.rowAt [RowM (some ⟨gm, 0, none⟩) md FM, RowS (some ⟨gs, 0, none⟩) sd [⟨1, 0⟩]] M6.out).cellAt 0 (by decide)
  obtain ⟨e0, -⟩ := row_cell (j := 0) (v := .int .i64 0) (Mem.rowAt [RowM (some ⟨gm, 0, none⟩) md FM, RowS (some ⟨gs, 0, none⟩) sd [⟨1, 0⟩], RowI (some ⟨go, 0, none⟩) od [0, 1]] M6.out) rfl
  obtain ⟨e1, -⟩ := row_cell (j := 1) (v := .int .i64 1) (Mem.rowAt [RowM (some ⟨gm, 0, none⟩) md FM, RowS (some ⟨gs, 0, none⟩) sd [⟨1, 0⟩], RowI (some ⟨go, 0, none⟩) od [0, 1]] M6.out) rfl
  obtain ⟨s0, -⟩ := row_cell (j := 0) (v := .int .i64 1) (Mem.rowAt [RowM (some ⟨gm, 0, none⟩) md FM] M6.out) rfl
  obtain ⟨s1, -⟩ := row_cell (j := 1) (v := .int .i64 0) (Mem.rowAt [RowM (some ⟨gm, 0, none⟩) md FM] M6.out) rfl
  obtain ⟨o0, -⟩ := row_cell (j := 0) (v := .int .i64 0) (Mem.rowAt [RowM (some ⟨gm, 0, none⟩) md FM, RowS (some ⟨gs, 0, none⟩) sd [⟨1, 0⟩]] M6.out) rfl
  go_wp2_with fail
  refine (HRC.out _ (fl_at (Mem.blkAt [RowM (some ⟨gm, 0, none⟩) md FM, RowS (some ⟨gs, 0, none⟩) sd [⟨1, 0⟩], RowI (some ⟨go, 0, none⟩) od [0, 1], RowE (some ⟨ge, 0, none⟩) ed [⟨0, 1⟩]] M6.out))).mono ?_
  rintro e w6 ⟨rfl, hb⟩
  have M7 := Lib.hid (M6.out.below hb)
  clear hb M6 HRC e0 e1 s0 s1 o0
  go_wp2_with fail
  refine (HST.out _ (fl_at (Mem.blkAt [RowM (some ⟨gm, 0, none⟩) md FM, RowS (some ⟨gs, 0, none⟩) sd [⟨1, 0⟩], RowI (some ⟨go, 0, none⟩) od [0, 1], RowE (some ⟨ge, 0, none⟩) ed [⟨0, 1⟩]] M7.out))).mono ?_
  rintro e w7 ⟨rfl, hb⟩
  have M8 := Lib.hid (M7.out.below hb)
  clear hb M7 HST
  go_wp2_with fail
  refine (HRG.out _ (fl_at (Mem.blkAt [RowM (some ⟨gm, 0, none⟩) md FM, RowS (some ⟨gs, 0, none⟩) sd [⟨1, 0⟩], RowI (some ⟨go, 0, none⟩) od [0, 1], RowE (some ⟨ge, 0, none⟩) ed [⟨0, 1⟩]] M8.out))).mono ?_
  rintro e w8 ⟨rfl, hb⟩
  have M9 := Lib.hid (M8.out.below hb)
  clear hb M8 HRG
  go_wp2_with fail
  refine (HCA.out _ (fl_at (Mem.blkAt [RowM (some ⟨gm, 0, none⟩) md FM, RowS (some ⟨gs, 0, none⟩) sd [⟨1, 0⟩], RowI (some ⟨go, 0, none⟩) od [0, 1], RowE (some ⟨ge, 0, none⟩) ed [⟨0, 1⟩]] M9.out))).mono ?_
  rintro e w9 ⟨rfl, hb⟩
  have M10 := Lib.hid (M9.out.below hb)
  clear hb M9 HCA
  go_wp2_with fail
  refine (HRV.out _ (fl_at (Mem.blkAt [RowM (some ⟨gm, 0, none⟩) md FM, RowS (some ⟨gs, 0, none⟩) sd [⟨1, 0⟩], RowI (some ⟨go, 0, none⟩) od [0, 1], RowE (some ⟨ge, 0, none⟩) ed [⟨0, 1⟩]] M10.out))).mono ?_
  rintro e w10 ⟨rfl, hb⟩
  have M11 := Lib.hid (M10.out.below hb)
  clear hb M10 HRV
  obtain ⟨m1, -⟩ := row_cell (j := 1) (v := .int .i64 1) (Mem.rowAt [] (r := [RowS (some ⟨gs, 0, none⟩) sd [⟨1, 0⟩], RowI (some ⟨go, 0, none⟩) od [0, 1], RowE (some ⟨ge, 0, none⟩) ed [⟨0, 1⟩], BlockA g FLc 36]) M11.out) rfl
  obtain ⟨m10, -⟩ := row_cell (j := 10) (v := .int .i64 0) (Mem.rowAt [] (r := [RowS (some ⟨gs, 0, none⟩) sd [⟨1, 0⟩], RowI (some ⟨go, 0, none⟩) od [0, 1], RowE (some ⟨ge, 0, none⟩) ed [⟨0, 1⟩], BlockA g FLc 36]) M11.out) rfl
  have M12 := Lib.hid (M11.out.block #[.int .i64 3, .int .i64 0, .string kN, .int .i64 3, .int .i64 0, .string kN] 36)
  have HR8 := Lib.hid (right_any (some ⟨w10.heap.size, 0, none⟩) 2 2 [⟨3, 0, kN⟩, ⟨3, 0, kN⟩] _ (f8_at M12.out.blkHd) (by decide))
  rw [fx_right8] at HR8
  clear M11
  go_wp2_with fail
  refine HR8.out.mono ?_
  rintro e w11 ⟨rfl, hb⟩
  have M13 := Lib.hid ((M12.out.below hb).block #[.int .i64 0, .int .i64 0, .string kN] 36)
  clear hb M12 HR8 m1 m10
  have HRA := Lib.hid (right_any (some ⟨w11.heap.size, 0, none⟩) 1 1 [⟨0, 0, kN⟩] _ (fA_at M13.out.blkHd) (by decide))
  rw [fx_rightA] at HRA
  go_wp2_with fail
  refine HRA.out.mono ?_
  rintro e w12 ⟨rfl, hb⟩
  have HB := Lib.hid (M13.out.below hb).bel
  clear hb M13 HRA
  go_wp2_with fail
  go_ret
  exact ⟨rfl, HB.out⟩
end Go.Proofs.Ytbgabdofnmijnaa
