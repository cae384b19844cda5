/- Ask: a line that is there. -/
import Derived.Test.YtmifgnibalbgjaaGreatZLC
import Derived.Deep.Cut
import Derived.Deep.CutRange
import Derived.Deep.RegionLaw
import Derived.Deep.CutBlock
namespace Go.Proofs.YtmifgnibalbgjaaGreat
open Go.RowKit
theorem mem_let {w0 w : World} {D0 : List Nat} {r : List Asn} [Stables r] {g n lc i : Nat} {X : List Ln} (hi : i < X.length) {x : Ln} {H Q : List Hd} (h : Mem w0 D0 w ([RowL g n lc (X.set i x), RowH x.hs H, RowH x.qs Q] ++ r)) (hW : LiW H Q) (hb : H.length + Q.length ≤ 1000) :
    Calls Tryz.prog 121 #[.pointer (some ⟨g, i * 3, none⟩)] w fun e w' => ∃ a c x', e = .returned (.slice a (letH H Q).1.length c) ∧ x'.key = x.key ∧
      Mem w0 D0 w' ([RowI a c (letH H Q).1, RowL g n lc (X.set i x'), RowH x'.hs (letH H Q).2.1, RowH x'.qs (letH H Q).2.2] ++ r) := by
  have hi' : i < (X.set i x).length := by rw [List.length_set]; exact hi
  refine (Mem.frame [RowL g n lc (X.set i x), RowH x.hs H, RowH x.qs Q] (r := r) (Q := fun e As => ∃ a c x', e = .returned (.slice a (letH H Q).1.length c) ∧ x'.key = x.key ∧ As = [RowI a c (letH H Q).1, RowL g n lc (X.set i x'), RowH x'.hs (letH H Q).2.1, RowH x'.qs (letH H Q).2.2]) h fun D hD => ?_).mono ?_
  · have h1 := let_any g n lc (X.set i x) i hi' H Q w D
    rw [List.getElem_set_self] at h1
    refine (h1 hD hW hb).mono ?_
    rintro e w' ⟨a, c, x', h2, h3, h4⟩
    rw [List.set_set] at h4
    exact ⟨_, ⟨a, c, x', h2, h3, rfl⟩, h4⟩
  · rintro e w' ⟨As, ⟨a, c, x', h2, h3, rfl⟩, h4⟩
    exact ⟨a, c, x', h2, h3, h4⟩
set_option maxRecDepth 100000 in
set_option maxHeartbeats 8000000 in
theorem tab_ask_plain (p : Nat) (L : List Li) (o : Int) (k : ByteArray) (m : Int) (w : World) (D : List Nat) (h : TabA p L w D) (hok : LOk L) (hb : Sm 400 L) (h1 : ¬ o < 0) (h2 : ¬ 16 < k.size) (h3 : modeM m = true) (hh : hasL L k = true) (hi : posL L k < L.length) (hcc : ¬ 0 < ofH (L[posL L k]'hi).hs o) :
    Calls Tryz.prog 88 #[.pointer (some ⟨p, 0, none⟩), .int .i64 o, .string k, .int .i64 m] w (AskPost w D p ((askLi L[posL L k] ⟨o, m⟩).1, L.set (posL L k) (askLi L[posL L k] ⟨o, m⟩).2)) := by
  obtain ⟨la, n, lc, X, hk, hm⟩ := Mem.table (Mem.start h)
  obtain ⟨k1, k2⟩ := keys_at hk
  have hlX := lnrow_len (Mem.rowAt [BlockA p #[.slice la n lc] 144] (r := rowsOf X L ++ []) hm)
  have hx : posL L k < X.length := by omega
  obtain ⟨g, rfl, -⟩ := lnAt_row (Mem.rowAt [BlockA p #[.slice la n lc] 144] (r := rowsOf X L ++ []) hm) (posL L k) hx
  obtain ⟨hc, -⟩ := Mem.cellAt (i := 0) (v := .slice (some ⟨g, 0, none⟩) n lc) [] (r := RowA 66 3 (some ⟨g, 0, none⟩) n lc (lnFlat X) :: (rowsOf X L ++ [])) hm rfl
  have HC := Lib.hid fun W (hb : Below w.heap.size w W) => (hb.cell (World.block_lt_of_cell? w _ hc)).trans hc
  have HF := Lib.hid (tab_find p (some ⟨g, 0, none⟩) n lc X L k w hc (Mem.rowAt [BlockA p #[.slice (some ⟨g, 0, none⟩) n lc] 144] (r := rowsOf X L ++ []) hm) hk hok.s (by have := hb.1; omega))
  rw [hh] at HF
  have h2' : ¬ (16 : Int) < (k.size : Int) := by omega
  have HM := Lib.hid (mode_any m w)
  rw [h3] at HM
  have hm2 := Mem.lineOut hx hi hm
  have HFIN : Hid (∀ W x' (l' : Li) e0, x'.key = X[posL L k].key → l'.key = L[posL L k].key → Mem w D W ([RowL g n lc (X.set (posL L k) x'), RowH x'.hs l'.hs, RowH x'.qs l'.qs] ++ (BlockA p #[.slice (some ⟨g, 0, none⟩) n lc] 144 :: (rowsOf (X.take (posL L k)) (L.take (posL L k)) ++ (rowsOf (X.drop (posL L k + 1)) (L.drop (posL L k + 1)) ++ [])))) → AskPost w D p (e0, L.set (posL L k) l') (.returned (.int .i64 e0)) W) :=
    Lib.hid fun W x' l' e0 e1 e2 hW => ⟨rfl, Mem.lineIn hk hx hi e1 e2 hW⟩
  have HOK := Lib.hid (hok.ok _ (List.getElem_mem hi))
  have HCC := Lib.hid hcc
  clear hcc
  have HSM := Lib.hid (hb.2 _ (List.getElem_mem hi))
  have hqn : posL L k < n := by omega
  have hnn : n ≤ 1000 := by have := hb.1; omega
  have hS : Stables (BlockA p #[.slice (some ⟨g, 0, none⟩) n lc] 144 :: (rowsOf (X.take (posL L k)) (L.take (posL L k)) ++ (rowsOf (X.drop (posL L k + 1)) (L.drop (posL L k + 1)) ++ []))) := inferInstance
  generalize (BlockA p #[.slice (some ⟨g, 0, none⟩) n lc] 144 :: (rowsOf (X.take (posL L k)) (L.take (posL L k)) ++ (rowsOf (X.drop (posL L k + 1)) (L.drop (posL L k + 1)) ++ []))) = r at *
  clear hm hb hok hh k2 h
  generalize hR : (fun q => AskPost w D p (q.1, L.set (posL L k) q.2) : Int × Li → Ending → World → Prop) = R
  have HFIN2 : Hid (∀ W x' (l' : Li) e0, x'.key = X[posL L k].key → l'.key = L[posL L k].key → Mem w D W ([RowL g n lc (X.set (posL L k) x'), RowH x'.hs l'.hs, RowH x'.qs l'.qs] ++ r) → R (e0, l') (.returned (.int .i64 e0)) W) := Lib.hid fun W x' l' e0 e1 e2 hW => by
    subst hR
    exact HFIN.out W x' l' e0 e1 e2 hW
  have hgoal : ∀ q, AskPost w D p (q.1, L.set (posL L k) q.2) = R q := fun q => by rw [← hR]
  rw [hgoal]
  clear hgoal HFIN hR
  have hset : X.set (posL L k) X[posL L k] = X := List.set_getElem_self ..
  have hcs := lnFlat_get X (posL L k) hx
  generalize L[posL L k] = li at *
  generalize X[posL L k] = x at *
  have HSET := Lib.hid hset
  have HCS := Lib.hid hcs
  have HXL := Lib.hid hx
  clear hk k1 hlX hset hi hcs
  generalize posL L k = i at *
  obtain ⟨lk, H, Q⟩ := li
  obtain ⟨xk, ⟨ha, hn, hcp⟩, ⟨qa, qn, qc⟩⟩ := x
  simp only at hm2 HFIN2 HSM HCS HCC
  have M0 := Lib.hid hm2
  clear hm2 hx
  go_enter Tryz.func88, Tryz.ntmps88
  go_wp2_with fail
  refine HM.out.mono ?_
  rintro e w1 ⟨rfl, rfl⟩
  go_wp2_with fail
  refine HF.out.mono ?_
  rintro e w1 ⟨rfl, hb⟩
  have hc1 := HC.out w1 hb
  have M1 := Lib.hid (M0.out.below hb)
  clear hb hc M0 HM HF HC
  go_upto_region 8 with (fail)
  have hn1 := Mem.sl_len [RowL g n lc X] (r := RowH ⟨qa, qn, qc⟩ Q :: r) M1.out
  have hn2 := Mem.sl_len [RowL g n lc X, RowH ⟨ha, hn, hcp⟩ H] (r := r) M1.out
  simp only at hn1 hn2
  have HN := Lib.hid (And.intro hn1 hn2)
  clear hn1 hn2
  go_cut [12, 13] from 61 to 72 (fun a b wx => a = .int .i64 (ofH H o) ∧ b = .int .i64 (ofH Q o) ∧ Hid (Mem w D wx ([RowL g n lc X, RowH ⟨ha, hn, hcp⟩ H, RowH ⟨qa, qn, qc⟩ Q] ++ r)))
  case first =>
    have hsc := row_cell (Mem.rowAt [] (r := RowH ⟨ha, hn, hcp⟩ H :: RowH ⟨qa, qn, qc⟩ Q :: r) M1.out) HCS.out.2.1
    have hsq := row_cell (Mem.rowAt [] (r := RowH ⟨ha, hn, hcp⟩ H :: RowH ⟨qa, qn, qc⟩ Q :: r) M1.out) HCS.out.2.2
    have HA := Lib.hid (HdsAt.row (Mem.rowAt [RowL g n lc X] (r := RowH ⟨qa, qn, qc⟩ Q :: r) M1.out))
    have HB := Lib.hid (HdsAt.row (Mem.rowAt [RowL g n lc X, RowH ⟨ha, hn, hcp⟩ H] (r := r) M1.out))
    have HO1 := Lib.hid fun W (hb : Below w1.heap.size w1 W) => (of_any ha hn hcp H o W (HA.out.below hb) (by have := HN.out; have := HSM.out; unfold maxLen; omega)).mono fun e w' (h : _ ∧ _) => (⟨h.1, hb.trans (h.2.mono hb.size)⟩ : _ ∧ Below w1.heap.size w1 w')
    have HO2 := Lib.hid fun W (hb : Below w1.heap.size w1 W) => (of_any qa qn qc Q o W (HB.out.below hb) (by have := HN.out; have := HSM.out; unfold maxLen; omega)).mono fun e w' (h : _ ∧ _) => (⟨h.1, hb.trans (h.2.mono hb.size)⟩ : _ ∧ Below w1.heap.size w1 w')
    have hbd := (Below.refl w1.heap.size w1).drew
    have K8 : Hid (∀ W, Below w1.heap.size w1 W → Below w1.heap.size w1 W ∧ W.cell? ⟨g, i * 3 + 1, none⟩ = some (.slice ha hn hcp) ∧ W.cell? ⟨g, i * 3 + 2, none⟩ = some (.slice qa qn qc)) :=
      Lib.hid fun W hb => ⟨hb, (hb.cell (World.block_lt_of_cell? w1 _ hsc.1)).trans hsc.1, (hb.cell (World.block_lt_of_cell? w1 _ hsq.1)).trans hsq.1⟩
    obtain ⟨hsc1, -⟩ := hsc
    obtain ⟨hsq1, -⟩ := hsq
    have HFF := Lib.hid fun W (hb : Below w1.heap.size w1 W) => M1.out.below hb
    generalize ofH H o = vh at *
    generalize ofH Q o = vq at *
    clear hc1 HFIN2
    go_region_held3 (fun W => Below w1.heap.size w1 W ∧ W.cell? ⟨g, i * 3 + 1, none⟩ = some (.slice ha hn hcp) ∧ W.cell? ⟨g, i * 3 + 2, none⟩ = some (.slice qa qn qc)) (exact K8.out _ (by first | assumption | (go_split_ands; assumption)))
      (first
        | ((go_at_call_of 129 (Value.slice ha hn hcp); refine (HO1.out _ (by first | assumption | (go_split_ands; assumption))).mono ?_; rintro e w2 ⟨rfl, hb2⟩))
        | ((go_at_call_of 129 (Value.slice qa qn qc); refine (HO2.out _ (by first | assumption | (go_split_ands; assumption))).mono ?_; rintro e w2 ⟨rfl, hb2⟩)))
    all_goals
      go_wp2_with fail
      go_meet
      case rel => exact ⟨rfl, rfl, Lib.hid (HFF.out _ (by first | assumption | (go_split_ands; assumption)))⟩
  case rest =>
    obtain ⟨rfl, rfl, M2⟩ := hcut
    clear M1 hc1
    have M3 := Lib.hid (M2.out.block #[.int .i64 o, .int .i64 m] 32)
    have HG0 := Lib.hid (And.intro h1 h3)
    clear M2
    go_upto_block 0 with (fail)
    obtain ⟨w3, hw3⟩ : ∃ w3, w3 = wc.alloc (.cells #[.int .i64 o, .int .i64 m] 32) := ⟨_, rfl⟩
    rw [← hw3] at M3 ⊢
    have MD : Hid (Mem w D w3 (RowL g n lc X :: RowH ⟨ha, hn, hcp⟩ H :: RowH ⟨qa, qn, qc⟩ Q :: r)) := Lib.hid (Mem.drop [] (r := RowL g n lc X :: RowH ⟨ha, hn, hcp⟩ H :: RowH ⟨qa, qn, qc⟩ Q :: r) M3.out)
    clear hw3
    generalize wc.heap.size = gb at *
    go_cut [] from 76 to 109 (fun wx => Hid (¬ m ≤ ofH H o ∧ ¬ 0 < ofH Q o) ∧ ∃ s7 : Sl, Hid (Mem w D wx (BlockA gb #[.int .i64 o, .int .i64 m] 32 :: RowL g n lc (X.set i ⟨xk, ⟨ha, hn, hcp⟩, s7⟩) :: RowH ⟨ha, hn, hcp⟩ H :: RowH s7 (if 0 < ofH H o then Q.take (upsH H Q) ++ ⟨o, m⟩ :: Q.drop (upsH H Q) else Q ++ [⟨o, m⟩]) :: r)))
    case first =>
      by_cases hA : m ≤ ofH H o
      · have HASK : Hid (askLi ⟨lk, H, Q⟩ ⟨o, m⟩ = (0, ⟨lk, H, Q⟩)) := Lib.hid (by unfold askLi; simp only; rw [if_pos hA])
        have HFA := Lib.hid (HFIN2.out w3 _ ⟨lk, H, Q⟩ 0 rfl rfl (by rw [HSET.out]; exact MD.out))
        clear M3 HFIN2 HSET MD
        generalize ofH H o = vh at *
        generalize ofH Q o = vq at *
        go_wp2_with fail
        rw [HASK.out]
        exact HFA.out
      · by_cases hB : 0 < ofH Q o
        · have HASK : Hid (askLi ⟨lk, H, Q⟩ ⟨o, m⟩ = (10, ⟨lk, H, Q⟩)) := Lib.hid (by unfold askLi; simp only; rw [if_neg hA, if_pos hB])
          have HFA := Lib.hid (HFIN2.out w3 _ ⟨lk, H, Q⟩ 10 rfl rfl (by rw [HSET.out]; exact MD.out))
          clear M3 HFIN2 HSET MD
          generalize ofH H o = vh at *
          generalize ofH Q o = vq at *
          go_wp2_with fail
          rw [HASK.out]
          exact HFA.out
        · have HG1 := Lib.hid (And.intro hA hB)
          have z1 := row_cell (Mem.rowAt [BlockA gb #[.int .i64 o, .int .i64 m] 32] (r := RowH ⟨ha, hn, hcp⟩ H :: RowH ⟨qa, qn, qc⟩ Q :: r) M3.out) HCS.out.2.2
          obtain ⟨z2, -⟩ := Mem.cellAt (i := 0) (v := .int .i64 o) [] (r := RowL g n lc X :: RowH ⟨ha, hn, hcp⟩ H :: RowH ⟨qa, qn, qc⟩ Q :: r) M3.out rfl
          obtain ⟨z3, -⟩ := Mem.cellAt (i := 1) (v := .int .i64 m) [] (r := RowL g n lc X :: RowH ⟨ha, hn, hcp⟩ H :: RowH ⟨qa, qn, qc⟩ Q :: r) M3.out rfl
          obtain ⟨z4, z5⟩ := z1
          clear MD
          have hC := HCC.out
          clear HCC
          generalize hvh : ofH H o = vh at *
          have HVH := Lib.hid hvh
          clear hvh
          generalize ofH Q o = vq at *
          go_upto_region 10 with (fail)
          obtain ⟨b6, c6, w6, hrun, hm6⟩ := Mem.app1 (P := Tryz.prog) (t := 29) (ty := 29) [BlockA gb #[.int .i64 o, .int .i64 m] 32, RowL g n lc X, RowH ⟨ha, hn, hcp⟩ H] (r := r) Tryz.underlying29 infoHd (by rfl) (by decide) (M3.out.below (bel_drew w3)) [.int .i64 o, .int .i64 m] (by rfl) (by simp [Value.oneCell']) (by have := HN.out; have := HSM.out; show qn ≤ 1000000; omega) (by decide)
          have HRUN := Lib.hid hrun
          simp only at hm6
          rw [show hdFlat Q ++ [.int .i64 o, .int .i64 m] = hdFlat (Q ++ [⟨o, m⟩]) by rw [hdFlat_append]; rfl] at hm6
          obtain ⟨y4, y5⟩ := row_cell (Mem.rowAt [BlockA gb #[.int .i64 o, .int .i64 m] 32] (r := RowH ⟨ha, hn, hcp⟩ H :: RowH ⟨b6, qn + 1, c6⟩ (Q ++ [⟨o, m⟩]) :: r) hm6) HCS.out.2.2
          have hm7 := Mem.rowSet [BlockA gb #[.int .i64 o, .int .i64 m] 32] (r := RowH ⟨ha, hn, hcp⟩ H :: RowH ⟨b6, qn + 1, c6⟩ (Q ++ [⟨o, m⟩]) :: r) hm6 (i * 3 + 2) (slv ⟨b6, qn + 1, c6⟩)
          rw [← HSET.out, lnFlat_set2 HXL.out] at hm7
          have M7 := Lib.hid (show Mem w D (w6.setCell ⟨g, i * 3 + 2, none⟩ (.slice b6 (qn + 1) c6)) (BlockA gb #[.int .i64 o, .int .i64 m] 32 :: RowL g n lc (X.set i ⟨xk, ⟨ha, hn, hcp⟩, ⟨b6, qn + 1, c6⟩⟩) :: RowH ⟨ha, hn, hcp⟩ H :: RowH ⟨b6, qn + 1, c6⟩ (Q ++ [⟨o, m⟩]) :: r) from hm7)
          clear hrun hm6 hm7 M3
          have z4a := fun oo => ((bel_new w3 oo).cell (World.block_lt_of_cell? w3 _ z4)).trans z4
          go_region_law (refine step_appendR rfl (.tmp 80) (.tmp 82) 29 29 rfl (.slice qa qn qc) (.slice (some ⟨w3.heap.size, 0, none⟩) 1 1) (by simp [Act.eval]) (by simp [Act.eval]) HRUN.out ?_)
          all_goals
            go_wp2_with fail
            go_meet
            case rel => exact ⟨HG1, ⟨b6, qn + 1, c6⟩, by rw [if_neg (by omega)]; exact M7⟩
    case rest =>
      obtain ⟨HG1, s7, M7⟩ := hcut
      have HLW : Hid (LiW H (if 0 < ofH H o then Q.take (upsH H Q) ++ ⟨o, m⟩ :: Q.drop (upsH H Q) else Q ++ [⟨o, m⟩])) := Lib.hid (HOK.out.w.ask (w := ⟨o, m⟩) (by have := HG0.out.1; show 0 ≤ o; omega) HG0.out.2 (by have := HG1.out.1; show ofH H o < m; omega) HG1.out.2)
      have HASK : Hid (askLi ⟨lk, H, Q⟩ ⟨o, m⟩ = (if m ≤ ofH (letH H (if 0 < ofH H o then Q.take (upsH H Q) ++ ⟨o, m⟩ :: Q.drop (upsH H Q) else Q ++ [⟨o, m⟩])).2.1 o then 0 else 10, ⟨lk, (letH H (if 0 < ofH H o then Q.take (upsH H Q) ++ ⟨o, m⟩ :: Q.drop (upsH H Q) else Q ++ [⟨o, m⟩])).2.1, (letH H (if 0 < ofH H o then Q.take (upsH H Q) ++ ⟨o, m⟩ :: Q.drop (upsH H Q) else Q ++ [⟨o, m⟩])).2.2⟩)) := Lib.hid (by
        unfold askLi
        simp only
        rw [if_neg HG1.out.1, if_neg HG1.out.2])
      have hlen : H.length + ((if 0 < ofH H o then Q.take (upsH H Q) ++ ⟨o, m⟩ :: Q.drop (upsH H Q) else Q ++ [⟨o, m⟩]) : List Hd).length ≤ 1000 := by
        have := HSM.out
        split
        · rw [List.length_append, List.length_cons, List.length_take, List.length_drop]; omega
        · rw [List.length_append]; simp; omega
      have HLEN := Lib.hid hlen
      clear M3 MD hlen HG0 HG1 HOK
      generalize (if 0 < ofH H o then Q.take (upsH H Q) ++ ⟨o, m⟩ :: Q.drop (upsH H Q) else Q ++ [⟨o, m⟩]) = NQ at *
      have M8 := Lib.hid (show Mem w D wc ([RowL g n lc (X.set i ⟨xk, ⟨ha, hn, hcp⟩, s7⟩), RowH ⟨ha, hn, hcp⟩ H, RowH s7 NQ] ++ r) from Mem.drop [] (A := BlockA gb #[.int .i64 o, .int .i64 m] 32) (r := [RowL g n lc (X.set i ⟨xk, ⟨ha, hn, hcp⟩, s7⟩), RowH ⟨ha, hn, hcp⟩ H, RowH s7 NQ] ++ r) M7.out)
      have HLET := Lib.hid (mem_let (x := ⟨xk, ⟨ha, hn, hcp⟩, s7⟩) HXL.out M8.out HLW.out (HLEN.out))
      clear M7 M8
      go_wp2_with fail
      refine HLET.out.mono ?_
      rintro e w8 ⟨aI, cI, ⟨xk', ⟨sa, sn, sc⟩, sq⟩, rfl, hxk', hm8⟩
      have M9 := Lib.hid (Mem.drop [] (r := [RowL g n lc (X.set i ⟨xk', ⟨sa, sn, sc⟩, sq⟩), RowH ⟨sa, sn, sc⟩ (letH H NQ).2.1, RowH sq (letH H NQ).2.2] ++ r) hm8)
      have hcs9 := lnFlat_get (X.set i ⟨xk', ⟨sa, sn, sc⟩, sq⟩) i (by rw [List.length_set]; exact HXL.out)
      rw [List.getElem_set_self] at hcs9
      obtain ⟨z1, -⟩ := row_cell (Mem.rowAt [] (r := [RowH ⟨sa, sn, sc⟩ (letH H NQ).2.1, RowH sq (letH H NQ).2.2] ++ r) M9.out) hcs9.2.1
      have hrr := Mem.rowAt [RowL g n lc (X.set i ⟨xk', ⟨sa, sn, sc⟩, sq⟩)] (r := [RowH sq (letH H NQ).2.2] ++ r) M9.out
      have HO9 := Lib.hid (of_any sa sn sc (letH H NQ).2.1 o w8 (HdsAt.row hrr) (row_max hrr))
      have HFA := Lib.hid fun W hb e0 => HFIN2.out W ⟨xk', ⟨sa, sn, sc⟩, sq⟩ ⟨lk, (letH H NQ).2.1, (letH H NQ).2.2⟩ e0 hxk' rfl (M9.out.below hb)
      clear hm8 M9 hcs9 hrr HLET HFIN2
      generalize (letH H NQ).1.length = nI at *
      generalize hHO : ofH (letH H NQ).2.1 o = ov at *
      clear hHO
      generalize (⟨lk, (letH H NQ).2.1, (letH H NQ).2.2⟩ : Li) = lf at *
      go_wp2_with fail
      refine HO9.out.mono ?_
      rintro e w9 ⟨rfl, hb9⟩
      have HFB := Lib.hid (HFA.out w9 hb9)
      clear hb9 HFA HO9
      by_cases hT : m ≤ ov
      · have HA2 : Hid (askLi ⟨lk, H, Q⟩ ⟨o, m⟩ = (0, lf)) := Lib.hid (by rw [HASK.out, if_pos hT])
        have hTd : decide (m ≤ ov) = true := decide_eq_true hT
        clear hT HASK
        go_wp2_with fail
        rw [HA2.out]
        exact HFB.out 0
      · have HA2 : Hid (askLi ⟨lk, H, Q⟩ ⟨o, m⟩ = (10, lf)) := Lib.hid (by rw [HASK.out, if_neg hT])
        have hTd : decide (m ≤ ov) = false := decide_eq_false hT
        clear hT HASK
        go_wp2_with fail
        rw [HA2.out]
        exact HFB.out 10
end Go.Proofs.YtmifgnibalbgjaaGreat
