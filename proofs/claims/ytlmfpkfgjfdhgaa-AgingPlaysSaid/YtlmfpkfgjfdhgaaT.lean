/- Ask: one waits. -/
import Derived.Test.YtlmfpkfgjfdhgaaS
namespace Go.Proofs.Ytlmfpkfgjfdhgaa
open Go.RowKit
section
variable (p : Nat) (wd : Bool) (M : List Mb) (K : List Lk) (id hd : Int) (key : ByteArray) (w : World) (D : List Nat)
set_option maxRecDepth 100000 in
set_option maxHeartbeats 8000000 in
theorem tb_ask_wait_die (hok : TOk M K) (h : TbA p wd M K w D) (hz : ¬ (16 : Int) < (key.size : Int)) (hh : hasM M id = true) (hl : posM M id < M.length) (hw : M[posM M id].waits = false) (hk : hasK K key = true) (hlk : posK K key < K.length) (hhd : K[posK K key].holder = hd) (hne : ¬ hd = id) (hh2 : hasM M hd = true) (hl2 : posM M hd < M.length) (hwd : wd = false) (hag0 : ageC M[posM M id] M[posM M hd] < 0) :
    Calls Try.prog 12 #[.pointer (some ⟨p, 0, none⟩), .int .i64 id, .string key] w (TPost w D p wd (two (-1) 10) (M.set (posM M id) ⟨M[posM M id].id, M[posM M id].stamp, true, key⟩) K) := by
  obtain ⟨la, lc, ka, kc, rfl, ht⟩ := h
  have HP := Lib.hid (tb_find p wd la lc M ka kc K id w ht hok.sm hok.fm)
  rw [hh] at HP
  have HK := Lib.hid fun w1 (hb : Below w.heap.size w w1) => tb_place p wd la lc M ka kc K key w1 (ht.below hb) hok.sk hok.fk
  rw [hk] at HK
  have HF := Lib.hid fun w1 (hb : Below w.heap.size w w1) => tb_find p wd la lc M ka kc K hd w1 (ht.below hb) hok.sm hok.fm
  rw [hh2] at HF
  obtain ⟨g, rfl, hcs⟩ := mbAt_row ht.rm (posM M id) hl
  obtain ⟨gk, rfl, hck⟩ := lkAt_row ht.rk (posK K key) hlk
  have HCS := Lib.hid hcs.2.2.1
  rw [hw] at HCS
  have HX := Lib.hid fun w1 (hb : Below w.heap.size w w1) => (hb.cell (p := ⟨g, posM M id * 4 + 2, none⟩) (ht.rm.lt ⟨g, 0, none⟩ rfl)).trans HCS.out
  have HCK := Lib.hid hck.2
  rw [hhd] at HCK
  have HXK := Lib.hid fun w1 (hb : Below w.heap.size w w1) => (hb.cell (p := ⟨gk, posK K key * 2 + 1, none⟩) (ht.rk.lt ⟨gk, 0, none⟩ rfl)).trans HCK.out
  have HT := Lib.hid ht
  have hqn : (posM M id : Int) < (M.length : Int) := by omega
  have hqm : (M.length : Int) ≤ 1000 := by have := hok.fm; omega
  have hkn : (posK K key : Int) < (K.length : Int) := by omega
  have hkm : (K.length : Int) ≤ 100000 := by have := hok.fk; omega
  obtain ⟨g2, e2, hcs2⟩ := mbAt_row ht.rm (posM M hd) hl2
  obtain rfl : g = g2 := by simpa using e2
  clear e2
  have hp0 := ht.lt p (by simp [tbD])
  have hg0 : g < w.heap.size := ht.rm.lt ⟨g, 0, none⟩ rfl
  have hpg : ¬ p = g := by have := ht.nm; simpa [blkOf] using this
  have hgp : ¬ g = p := fun e => hpg e.symm
  have HAGE := Lib.hid fun W (hW : Below w.heap.size w W) => ((age_any M[posM M id] M[posM M hd] W).mono fun e W' h => (⟨h.1, hW.trans (h.2.mono hW.size)⟩ : e = .returned (.int .i64 (ageC M[posM M id] M[posM M hd])) ∧ Below w.heap.size w W'))
  have hc0 := ht.cell0
  have hc1 := ht.cell1.1
  have K8 := Lib.hid fun W (hW : Below w.heap.size w W) => (⟨hW, (hW.cell (p := ⟨p, 1, none⟩) hp0).trans hc1,
    (hW.cell (p := ⟨g, posM M id * 4, none⟩) hg0).trans hcs.1, (hW.cell (p := ⟨g, posM M id * 4 + 1, none⟩) hg0).trans hcs.2.1, (hW.cell (p := ⟨g, posM M id * 4 + 2, none⟩) hg0).trans hcs.2.2.1, (hW.cell (p := ⟨g, posM M id * 4 + 3, none⟩) hg0).trans hcs.2.2.2,
    (hW.cell (p := ⟨g, posM M hd * 4, none⟩) hg0).trans hcs2.1, (hW.cell (p := ⟨g, posM M hd * 4 + 1, none⟩) hg0).trans hcs2.2.1, (hW.cell (p := ⟨g, posM M hd * 4 + 2, none⟩) hg0).trans hcs2.2.2.1, (hW.cell (p := ⟨g, posM M hd * 4 + 3, none⟩) hg0).trans hcs2.2.2.2⟩ :
    Below w.heap.size w W ∧ W.cell? ⟨p, 1, none⟩ = some (.slice (some ⟨g, 0, none⟩) M.length lc) ∧ W.cell? ⟨g, posM M id * 4, none⟩ = some (.int .i64 M[posM M id].id) ∧ W.cell? ⟨g, posM M id * 4 + 1, none⟩ = some (.int .i64 M[posM M id].stamp) ∧ W.cell? ⟨g, posM M id * 4 + 2, none⟩ = some (.bool M[posM M id].waits) ∧ W.cell? ⟨g, posM M id * 4 + 3, none⟩ = some (.string M[posM M id].key)
      ∧ W.cell? ⟨g, posM M hd * 4, none⟩ = some (.int .i64 M[posM M hd].id) ∧ W.cell? ⟨g, posM M hd * 4 + 1, none⟩ = some (.int .i64 M[posM M hd].stamp) ∧ W.cell? ⟨g, posM M hd * 4 + 2, none⟩ = some (.bool M[posM M hd].waits) ∧ W.cell? ⟨g, posM M hd * 4 + 3, none⟩ = some (.string M[posM M hd].key))
  have K0 := Lib.hid fun W (hW : Below w.heap.size w W) => (hW.cell (p := ⟨p, 0, none⟩) hp0).trans hc0
  clear hc0 hc1 hcs2
  have hqn2 : (posM M hd : Int) < (M.length : Int) := by omega
  have HFIN := Lib.hid fun w1 (hb : Below w.heap.size w w1) W (hW : Below ((w1.setCell ⟨g, posM M id * 4 + 2, none⟩ (.bool true)).setCell ⟨g, posM M id * 4 + 3, none⟩ (.string key)).heap.size ((w1.setCell ⟨g, posM M id * 4 + 2, none⟩ (.bool true)).setCell ⟨g, posM M id * 4 + 3, none⟩ (.string key)) W) => (show TPost w (tbD p (some ⟨g, 0, none⟩) (some ⟨gk, 0, none⟩)) p wd (two (-1) 10) (M.set (posM M id) ⟨M[posM M id].id, M[posM M id].stamp, true, key⟩) K (two (-1) 10) W from by
    have h1 := ht.below hb
    have hr := (Row.setCell (Row.setCell h1.rm (posM M id * 4 + 2) (.bool true)) (posM M id * 4 + 3) (.string key))
    rw [mbFlat_set M _ hl] at hr
    obtain ⟨k1, k2⟩ := h1.inM (M' := (M.set (posM M id) ⟨M[posM M id].id, M[posM M id].stamp, true, key⟩)) (by simp) (by simpa using hr) ((Touch.setCell (bs := blkOf (some ⟨g, 0, none⟩)) w1 ⟨g, posM M id * 4 + 2, none⟩ (.bool true) (by simp [blkOf])).andThen (Touch.setCell _ _ _ (by simp [blkOf])))
    exact ⟨rfl, _, ⟨_, _, _, _, rfl, k1.below hW⟩, ((Step.of_below hb _).trans k2).trans (Step.of_below hW _)⟩)
  have HFIN2 := Lib.hid fun w1 (hb : Below w.heap.size w w1) W (hW : Below ((w1.setCell ⟨g, posM M id * 4 + 3, none⟩ (.string key)).setCell ⟨g, posM M id * 4 + 2, none⟩ (.bool true)).heap.size ((w1.setCell ⟨g, posM M id * 4 + 3, none⟩ (.string key)).setCell ⟨g, posM M id * 4 + 2, none⟩ (.bool true)) W) => (show TPost w (tbD p (some ⟨g, 0, none⟩) (some ⟨gk, 0, none⟩)) p wd (two (-1) 10) (M.set (posM M id) ⟨M[posM M id].id, M[posM M id].stamp, true, key⟩) K (two (-1) 10) W from by
    have h1 := ht.below hb
    have hr := (Row.setCell (Row.setCell h1.rm (posM M id * 4 + 3) (.string key)) (posM M id * 4 + 2) (.bool true))
    rw [mbFlat_set' M _ hl] at hr
    obtain ⟨k1, k2⟩ := h1.inM (M' := (M.set (posM M id) ⟨M[posM M id].id, M[posM M id].stamp, true, key⟩)) (by simp) (by simpa using hr) ((Touch.setCell (bs := blkOf (some ⟨g, 0, none⟩)) w1 ⟨g, posM M id * 4 + 3, none⟩ (.string key) (by simp [blkOf])).andThen (Touch.setCell _ _ _ (by simp [blkOf])))
    exact ⟨rfl, _, ⟨_, _, _, _, rfl, k1.below hW⟩, ((Step.of_below hb _).trans k2).trans (Step.of_below hW _)⟩)
  have HFZ := Lib.hid fun w1 (hb : Below w.heap.size w w1) j (hj : j < 4) => (show (∃ v, w1.cell? ⟨g, posM M id * 4 + j, none⟩ = some v) ∧ w1.frozen? ⟨g, posM M id * 4 + j, none⟩ = false from by
    rcases (ht.below hb).rm.out with ⟨e, _⟩ | ⟨g', cur, e, hg, h1, h2, h3, h4, h5⟩
    · cases e
    · obtain rfl : g = g' := by simpa using e
      have hlt : posM M id * 4 + j < cur.size := by omega
      obtain ⟨c1, c2⟩ := cell_of_heap (i := posM M id * 4 + j) (v := cur[posM M id * 4 + j]) hg (by simp [hlt])
      exact ⟨⟨_, c1⟩, c2⟩)
  generalize TPost w (tbD p (some ⟨g, 0, none⟩) (some ⟨gk, 0, none⟩)) p wd (two (-1) 10) (M.set (posM M id) ⟨M[posM M id].id, M[posM M id].stamp, true, key⟩) K = R at *
  subst hwd
  generalize M[posM M id] = z1 at *
  generalize M[posM M hd] = z2 at *
  obtain ⟨zi, zs, zw, zk⟩ := z1
  obtain ⟨yi, ys, yw, yk⟩ := z2
  simp only at HAGE K8 hw
  subst hw
  generalize hag : ageC _ _ = ag at *
  clear hag
  clear ht hok hcs HCS hck HCK hh hk hhd hh2 hl hl2 hlk
  generalize posM M id = q at *
  generalize posM M hd = q2 at *
  have hdec : decide (ag < 0) = true := decide_eq_true hag0
  clear hag0
  go_enter Try.func12, Try.ntmps12
  go_wp2_with fail
  refine HP.out.mono ?_
  rintro e w1 ⟨rfl, hb⟩
  have hc := (HT.out.below hb).cell1.1
  have hx := HX.out _ hb
  have HB := Lib.hid hb
  clear hb
  go_wp2_with fail
  refine (HK.out _ HB.out).mono ?_
  rintro e w2 ⟨rfl, hb2⟩
  have hb := HB.out.trans (hb2.mono HB.out.size)
  clear hc hx HX HB hb2
  have hc := (HT.out.below hb).cell2.1
  have hxk := HXK.out _ hb
  have HB := Lib.hid hb
  clear hb
  go_wp2_with fail
  refine (HF.out _ HB.out).mono ?_
  rintro e w3 ⟨rfl, hb3⟩
  have hb1 := (HB.out.trans (hb3.mono HB.out.size)).drew
  clear hxk hc HB hb3
  go_wp2_with fail
  have HS := K8.out _ hb1
  go_region_held3 (fun w' => Below w.heap.size w w' ∧ w'.cell? ⟨p, 1, none⟩ = some (.slice (some ⟨g, 0, none⟩) M.length lc) ∧ w'.cell? ⟨g, q * 4, none⟩ = some (.int .i64 zi) ∧ w'.cell? ⟨g, q * 4 + 1, none⟩ = some (.int .i64 zs) ∧ w'.cell? ⟨g, q * 4 + 2, none⟩ = some (.bool false) ∧ w'.cell? ⟨g, q * 4 + 3, none⟩ = some (.string zk)
      ∧ w'.cell? ⟨g, q2 * 4, none⟩ = some (.int .i64 yi) ∧ w'.cell? ⟨g, q2 * 4 + 1, none⟩ = some (.int .i64 ys) ∧ w'.cell? ⟨g, q2 * 4 + 2, none⟩ = some (.bool yw) ∧ w'.cell? ⟨g, q2 * 4 + 3, none⟩ = some (.string yk)) (exact K8.out _ (by first | assumption | (go_split_ands; assumption)))
    ((go_at_call 40; refine (HAGE.out _ (by first | assumption | (go_split_ands; assumption))).mono ?_; rintro e w4 ⟨rfl, hb4⟩))
  have hc0 := K0.out _ hb4
  have HB := Lib.hid hb4
  have hp1 := (K8.out _ hb4).2.1
  obtain ⟨⟨v2, z2⟩, f2⟩ := HFZ.out _ hb4 2 (by omega)
  obtain ⟨⟨v3, z3⟩, f3⟩ := HFZ.out _ hb4 3 (by omega)
  clear hb4 HS hb1
  go_wp2_with fail
  go_region
  all_goals
    go_wp2_with fail
    first
      | exact HFIN.out _ HB.out _ (bel_drew _)
      | exact HFIN2.out _ HB.out _ (bel_drew _)
set_option maxRecDepth 100000 in
set_option maxHeartbeats 8000000 in
theorem tb_ask_wait_wound (hok : TOk M K) (h : TbA p wd M K w D) (hz : ¬ (16 : Int) < (key.size : Int)) (hh : hasM M id = true) (hl : posM M id < M.length) (hw : M[posM M id].waits = false) (hk : hasK K key = true) (hlk : posK K key < K.length) (hhd : K[posK K key].holder = hd) (hne : ¬ hd = id) (hh2 : hasM M hd = true) (hl2 : posM M hd < M.length) (hwd : wd = true) (hag0 : ¬ ageC M[posM M id] M[posM M hd] < 0) :
    Calls Try.prog 12 #[.pointer (some ⟨p, 0, none⟩), .int .i64 id, .string key] w (TPost w D p wd (two (-1) 10) (M.set (posM M id) ⟨M[posM M id].id, M[posM M id].stamp, true, key⟩) K) := by
  obtain ⟨la, lc, ka, kc, rfl, ht⟩ := h
  have HP := Lib.hid (tb_find p wd la lc M ka kc K id w ht hok.sm hok.fm)
  rw [hh] at HP
  have HK := Lib.hid fun w1 (hb : Below w.heap.size w w1) => tb_place p wd la lc M ka kc K key w1 (ht.below hb) hok.sk hok.fk
  rw [hk] at HK
  have HF := Lib.hid fun w1 (hb : Below w.heap.size w w1) => tb_find p wd la lc M ka kc K hd w1 (ht.below hb) hok.sm hok.fm
  rw [hh2] at HF
  obtain ⟨g, rfl, hcs⟩ := mbAt_row ht.rm (posM M id) hl
  obtain ⟨gk, rfl, hck⟩ := lkAt_row ht.rk (posK K key) hlk
  have HCS := Lib.hid hcs.2.2.1
  rw [hw] at HCS
  have HX := Lib.hid fun w1 (hb : Below w.heap.size w w1) => (hb.cell (p := ⟨g, posM M id * 4 + 2, none⟩) (ht.rm.lt ⟨g, 0, none⟩ rfl)).trans HCS.out
  have HCK := Lib.hid hck.2
  rw [hhd] at HCK
  have HXK := Lib.hid fun w1 (hb : Below w.heap.size w w1) => (hb.cell (p := ⟨gk, posK K key * 2 + 1, none⟩) (ht.rk.lt ⟨gk, 0, none⟩ rfl)).trans HCK.out
  have HT := Lib.hid ht
  have hqn : (posM M id : Int) < (M.length : Int) := by omega
  have hqm : (M.length : Int) ≤ 1000 := by have := hok.fm; omega
  have hkn : (posK K key : Int) < (K.length : Int) := by omega
  have hkm : (K.length : Int) ≤ 100000 := by have := hok.fk; omega
  obtain ⟨g2, e2, hcs2⟩ := mbAt_row ht.rm (posM M hd) hl2
  obtain rfl : g = g2 := by simpa using e2
  clear e2
  have hp0 := ht.lt p (by simp [tbD])
  have hg0 : g < w.heap.size := ht.rm.lt ⟨g, 0, none⟩ rfl
  have hpg : ¬ p = g := by have := ht.nm; simpa [blkOf] using this
  have hgp : ¬ g = p := fun e => hpg e.symm
  have HAGE := Lib.hid fun W (hW : Below w.heap.size w W) => ((age_any M[posM M id] M[posM M hd] W).mono fun e W' h => (⟨h.1, hW.trans (h.2.mono hW.size)⟩ : e = .returned (.int .i64 (ageC M[posM M id] M[posM M hd])) ∧ Below w.heap.size w W'))
  have hc0 := ht.cell0
  have hc1 := ht.cell1.1
  have K8 := Lib.hid fun W (hW : Below w.heap.size w W) => (⟨hW, (hW.cell (p := ⟨p, 1, none⟩) hp0).trans hc1,
    (hW.cell (p := ⟨g, posM M id * 4, none⟩) hg0).trans hcs.1, (hW.cell (p := ⟨g, posM M id * 4 + 1, none⟩) hg0).trans hcs.2.1, (hW.cell (p := ⟨g, posM M id * 4 + 2, none⟩) hg0).trans hcs.2.2.1, (hW.cell (p := ⟨g, posM M id * 4 + 3, none⟩) hg0).trans hcs.2.2.2,
    (hW.cell (p := ⟨g, posM M hd * 4, none⟩) hg0).trans hcs2.1, (hW.cell (p := ⟨g, posM M hd * 4 + 1, none⟩) hg0).trans hcs2.2.1, (hW.cell (p := ⟨g, posM M hd * 4 + 2, none⟩) hg0).trans hcs2.2.2.1, (hW.cell (p := ⟨g, posM M hd * 4 + 3, none⟩) hg0).trans hcs2.2.2.2⟩ :
    Below w.heap.size w W ∧ W.cell? ⟨p, 1, none⟩ = some (.slice (some ⟨g, 0, none⟩) M.length lc) ∧ W.cell? ⟨g, posM M id * 4, none⟩ = some (.int .i64 M[posM M id].id) ∧ W.cell? ⟨g, posM M id * 4 + 1, none⟩ = some (.int .i64 M[posM M id].stamp) ∧ W.cell? ⟨g, posM M id * 4 + 2, none⟩ = some (.bool M[posM M id].waits) ∧ W.cell? ⟨g, posM M id * 4 + 3, none⟩ = some (.string M[posM M id].key)
      ∧ W.cell? ⟨g, posM M hd * 4, none⟩ = some (.int .i64 M[posM M hd].id) ∧ W.cell? ⟨g, posM M hd * 4 + 1, none⟩ = some (.int .i64 M[posM M hd].stamp) ∧ W.cell? ⟨g, posM M hd * 4 + 2, none⟩ = some (.bool M[posM M hd].waits) ∧ W.cell? ⟨g, posM M hd * 4 + 3, none⟩ = some (.string M[posM M hd].key))
  have K0 := Lib.hid fun W (hW : Below w.heap.size w W) => (hW.cell (p := ⟨p, 0, none⟩) hp0).trans hc0
  clear hc0 hc1 hcs2
  have hqn2 : (posM M hd : Int) < (M.length : Int) := by omega
  have HFIN := Lib.hid fun w1 (hb : Below w.heap.size w w1) W (hW : Below ((w1.setCell ⟨g, posM M id * 4 + 2, none⟩ (.bool true)).setCell ⟨g, posM M id * 4 + 3, none⟩ (.string key)).heap.size ((w1.setCell ⟨g, posM M id * 4 + 2, none⟩ (.bool true)).setCell ⟨g, posM M id * 4 + 3, none⟩ (.string key)) W) => (show TPost w (tbD p (some ⟨g, 0, none⟩) (some ⟨gk, 0, none⟩)) p wd (two (-1) 10) (M.set (posM M id) ⟨M[posM M id].id, M[posM M id].stamp, true, key⟩) K (two (-1) 10) W from by
    have h1 := ht.below hb
    have hr := (Row.setCell (Row.setCell h1.rm (posM M id * 4 + 2) (.bool true)) (posM M id * 4 + 3) (.string key))
    rw [mbFlat_set M _ hl] at hr
    obtain ⟨k1, k2⟩ := h1.inM (M' := (M.set (posM M id) ⟨M[posM M id].id, M[posM M id].stamp, true, key⟩)) (by simp) (by simpa using hr) ((Touch.setCell (bs := blkOf (some ⟨g, 0, none⟩)) w1 ⟨g, posM M id * 4 + 2, none⟩ (.bool true) (by simp [blkOf])).andThen (Touch.setCell _ _ _ (by simp [blkOf])))
    exact ⟨rfl, _, ⟨_, _, _, _, rfl, k1.below hW⟩, ((Step.of_below hb _).trans k2).trans (Step.of_below hW _)⟩)
  have HFIN2 := Lib.hid fun w1 (hb : Below w.heap.size w w1) W (hW : Below ((w1.setCell ⟨g, posM M id * 4 + 3, none⟩ (.string key)).setCell ⟨g, posM M id * 4 + 2, none⟩ (.bool true)).heap.size ((w1.setCell ⟨g, posM M id * 4 + 3, none⟩ (.string key)).setCell ⟨g, posM M id * 4 + 2, none⟩ (.bool true)) W) => (show TPost w (tbD p (some ⟨g, 0, none⟩) (some ⟨gk, 0, none⟩)) p wd (two (-1) 10) (M.set (posM M id) ⟨M[posM M id].id, M[posM M id].stamp, true, key⟩) K (two (-1) 10) W from by
    have h1 := ht.below hb
    have hr := (Row.setCell (Row.setCell h1.rm (posM M id * 4 + 3) (.string key)) (posM M id * 4 + 2) (.bool true))
    rw [mbFlat_set' M _ hl] at hr
    obtain ⟨k1, k2⟩ := h1.inM (M' := (M.set (posM M id) ⟨M[posM M id].id, M[posM M id].stamp, true, key⟩)) (by simp) (by simpa using hr) ((Touch.setCell (bs := blkOf (some ⟨g, 0, none⟩)) w1 ⟨g, posM M id * 4 + 3, none⟩ (.string key) (by simp [blkOf])).andThen (Touch.setCell _ _ _ (by simp [blkOf])))
    exact ⟨rfl, _, ⟨_, _, _, _, rfl, k1.below hW⟩, ((Step.of_below hb _).trans k2).trans (Step.of_below hW _)⟩)
  have HFZ := Lib.hid fun w1 (hb : Below w.heap.size w w1) j (hj : j < 4) => (show (∃ v, w1.cell? ⟨g, posM M id * 4 + j, none⟩ = some v) ∧ w1.frozen? ⟨g, posM M id * 4 + j, none⟩ = false from by
    rcases (ht.below hb).rm.out with ⟨e, _⟩ | ⟨g', cur, e, hg, h1, h2, h3, h4, h5⟩
    · cases e
    · obtain rfl : g = g' := by simpa using e
      have hlt : posM M id * 4 + j < cur.size := by omega
      obtain ⟨c1, c2⟩ := cell_of_heap (i := posM M id * 4 + j) (v := cur[posM M id * 4 + j]) hg (by simp [hlt])
      exact ⟨⟨_, c1⟩, c2⟩)
  generalize TPost w (tbD p (some ⟨g, 0, none⟩) (some ⟨gk, 0, none⟩)) p wd (two (-1) 10) (M.set (posM M id) ⟨M[posM M id].id, M[posM M id].stamp, true, key⟩) K = R at *
  subst hwd
  generalize M[posM M id] = z1 at *
  generalize M[posM M hd] = z2 at *
  obtain ⟨zi, zs, zw, zk⟩ := z1
  obtain ⟨yi, ys, yw, yk⟩ := z2
  simp only at HAGE K8 hw
  subst hw
  generalize hag : ageC _ _ = ag at *
  clear hag
  clear ht hok hcs HCS hck HCK hh hk hhd hh2 hl hl2 hlk
  generalize posM M id = q at *
  generalize posM M hd = q2 at *
  have hdec : decide (ag < 0) = false := decide_eq_false hag0
  clear hag0
  go_enter Try.func12, Try.ntmps12
  go_wp2_with fail
  refine HP.out.mono ?_
  rintro e w1 ⟨rfl, hb⟩
  have hc := (HT.out.below hb).cell1.1
  have hx := HX.out _ hb
  have HB := Lib.hid hb
  clear hb
  go_wp2_with fail
  refine (HK.out _ HB.out).mono ?_
  rintro e w2 ⟨rfl, hb2⟩
  have hb := HB.out.trans (hb2.mono HB.out.size)
  clear hc hx HX HB hb2
  have hc := (HT.out.below hb).cell2.1
  have hxk := HXK.out _ hb
  have HB := Lib.hid hb
  clear hb
  go_wp2_with fail
  refine (HF.out _ HB.out).mono ?_
  rintro e w3 ⟨rfl, hb3⟩
  have hb1 := (HB.out.trans (hb3.mono HB.out.size)).drew
  clear hxk hc HB hb3
  go_wp2_with fail
  have HS := K8.out _ hb1
  go_region_held3 (fun w' => Below w.heap.size w w' ∧ w'.cell? ⟨p, 1, none⟩ = some (.slice (some ⟨g, 0, none⟩) M.length lc) ∧ w'.cell? ⟨g, q * 4, none⟩ = some (.int .i64 zi) ∧ w'.cell? ⟨g, q * 4 + 1, none⟩ = some (.int .i64 zs) ∧ w'.cell? ⟨g, q * 4 + 2, none⟩ = some (.bool false) ∧ w'.cell? ⟨g, q * 4 + 3, none⟩ = some (.string zk)
      ∧ w'.cell? ⟨g, q2 * 4, none⟩ = some (.int .i64 yi) ∧ w'.cell? ⟨g, q2 * 4 + 1, none⟩ = some (.int .i64 ys) ∧ w'.cell? ⟨g, q2 * 4 + 2, none⟩ = some (.bool yw) ∧ w'.cell? ⟨g, q2 * 4 + 3, none⟩ = some (.string yk)) (exact K8.out _ (by first | assumption | (go_split_ands; assumption)))
    ((go_at_call 40; refine (HAGE.out _ (by first | assumption | (go_split_ands; assumption))).mono ?_; rintro e w4 ⟨rfl, hb4⟩))
  have hc0 := K0.out _ hb4
  have HB := Lib.hid hb4
  have hp1 := (K8.out _ hb4).2.1
  obtain ⟨⟨v2, z2⟩, f2⟩ := HFZ.out _ hb4 2 (by omega)
  obtain ⟨⟨v3, z3⟩, f3⟩ := HFZ.out _ hb4 3 (by omega)
  clear hb4 HS hb1
  go_wp2_with fail
  go_region
  all_goals
    go_wp2_with fail
    first
      | exact HFIN.out _ HB.out _ (bel_drew _)
      | exact HFIN2.out _ HB.out _ (bel_drew _)
end
end Go.Proofs.Ytlmfpkfgjfdhgaa
