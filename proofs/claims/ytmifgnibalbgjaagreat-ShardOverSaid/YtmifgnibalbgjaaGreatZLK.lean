/- let. -/
import Derived.Test.YtmifgnibalbgjaaGreatZLG
import Derived.Test.YtmifgnibalbgjaaGreatZOwn
import Derived.Deep.LoopGhost
namespace Go.Proofs.YtmifgnibalbgjaaGreat
open Go.RowKit
abbrev RowH (s : Sl) (l : List Hd) : Asn := RowA 32 2 s.a s.n s.c (hdFlat l)
abbrev slv (s : Sl) : Value := .slice s.a s.n s.c
section
variable {w0 w : World} {D0 : List Nat} (l : List Asn) {r : List Asn} [Stables l] [Stables r]
theorem Mem.sl_len {s : Sl} {H : List Hd} (h : Mem w0 D0 w (l ++ RowH s H :: r)) : s.n = H.length := row_len (Mem.rowAt l h)
theorem mem_put {s : Sl} {H : List Hd} (h : Mem w0 D0 w (l ++ RowH s H :: r)) (hs : SortH H) (hn : H.length ≤ 1000000) (x : Hd) :
    Calls Tryz.prog 155 #[slv s, .agg #[.int .i64 x.owner, .int .i64 x.mode]] w fun e w' => ∃ s', e = .returned (slv s') ∧ Mem w0 D0 w' (l ++ RowH s' (putH H x) :: r) := by
  have hl := Mem.sl_len l h
  refine (put_any s.a s.n s.c H x w (Mem.rowAt l h) hs (by omega)).mono ?_
  rintro e w' ⟨a', n', c', rfl, rfl, hr, ht, hf⟩
  exact ⟨⟨a', _, c'⟩, rfl, Mem.rowTurn l h hr ht hf⟩
theorem mem_del0 {s : Sl} {x : Hd} {H : List Hd} (h : Mem w0 D0 w (l ++ RowH s (x :: H) :: r)) :
    Calls Tryz.prog 154 #[slv s, .int .i64 0, .int .i64 1] w fun e w' => ∃ s', e = .returned (slv s') ∧ Mem w0 D0 w' (l ++ RowH s' H :: r) := by
  have hl := Mem.sl_len l h
  have hr := Mem.rowAt l h
  rcases hr.out with ⟨_, _, h0, _⟩ | ⟨g, cur, ha, hg, h1, h2, h3, h4, h5⟩
  · rename_i h00 _
    rw [h00] at hl; cases hl
  · obtain ⟨sa, sn, sc⟩ := s
    simp only at ha hl hg h1 h2 h3 h4 h5 hr ⊢
    subst ha
    have := delH_any g sn sc 0 cur (hdFlat (x :: H)) w hg h3 h1 h2 h4 (hdFlat_one _) (by rw [hl]; simp)
    refine this.mono ?_
    rintro e w' ⟨rfl, hr', ht⟩
    refine ⟨⟨some ⟨g, 0, none⟩, sn - 1, sc⟩, rfl, Mem.rowTurn l h (by simpa [hdFlat] using hr') (by simpa [blkOf] using ht) (Fresh.refl _ _)⟩
end
theorem lnFlat_set : ∀ (M : List Ln) (q : Nat) (h : q < M.length), (∀ s, (lnFlat M).set (q * 3 + 1) (slv s) = lnFlat (M.set q ⟨M[q].key, s, M[q].qs⟩)) ∧ (∀ s, (lnFlat M).set (q * 3 + 2) (slv s) = lnFlat (M.set q ⟨M[q].key, M[q].hs, s⟩))
  | [], _, h => by cases h
  | x :: r, 0, _ => by simp [lnFlat, slv]
  | x :: r, q + 1, h => by
    obtain ⟨h1, h2⟩ := lnFlat_set r q (by simpa using h)
    rw [show (q + 1) * 3 + 1 = (q * 3 + 1) + 1 + 1 + 1 by omega, show (q + 1) * 3 + 2 = (q * 3 + 2) + 1 + 1 + 1 by omega]
    simp only [lnFlat, List.set_cons_succ, List.getElem_cons_succ]
    exact ⟨fun s => by rw [h1 s], fun s => by rw [h2 s]⟩
theorem lnFlat_set1 {X : List Ln} {i : Nat} (hi : i < X.length) (x : Ln) (s : Sl) : (lnFlat (X.set i x)).set (i * 3 + 1) (slv s) = lnFlat (X.set i ⟨x.key, s, x.qs⟩) := by
  rw [(lnFlat_set (X.set i x) i (by simpa using hi)).1 s, List.getElem_set_self, List.set_set]
theorem lnFlat_set2 {X : List Ln} {i : Nat} (hi : i < X.length) (x : Ln) (s : Sl) : (lnFlat (X.set i x)).set (i * 3 + 2) (slv s) = lnFlat (X.set i ⟨x.key, x.hs, s⟩) := by
  rw [(lnFlat_set (X.set i x) i (by simpa using hi)).2 s, List.getElem_set_self, List.set_set]
theorem infoInt : (Tryz.prog.info? 3).map (fun i => (i.zero, i.size, i.bytes)) = some (some (.int .i64 0), 1, 8) := by kernel_rfl
def intsV (l : List Int) : List Value := l.map fun i => .int .i64 i
abbrev RowI (a : Option Addr) (c : Nat) (l : List Int) : Asn := RowA 3 1 a l.length c (intsV l)
abbrev RowL (g n c : Nat) (X : List Ln) : Asn := RowA 66 3 (some ⟨g, 0, none⟩) n c (lnFlat X)
theorem rowI_app (b : Option Addr) (c : Nat) (I : List Int) (y : Int) : RowA 3 1 b (I.length + 1) c (intsV I ++ [.int .i64 y]) = RowI b c (I ++ [y]) := by
  unfold RowI intsV
  rw [List.length_append, List.map_append]; rfl
theorem letH_cons (H Q : List Hd) (x : Hd) : letH H (x :: Q) = if mayH H (x :: Q) then (x.owner :: (letH (putH H x) Q).1, (letH (putH H x) Q).2) else ([], H, x :: Q) := by
  rw [letH]
theorem putH_len (H : List Hd) (x : Hd) : (putH H x).length ≤ H.length + 1 := by
  unfold putH; split
  · simp
  · have := posBy_le (fun m : Hd => decide (m.owner < x.owner)) H
    simp; unfold posH; omega
/-- what holds at the loop's head. -/
def LetAt (w : World) (D : List Nat) (g n lc i : Nat) (X : List Ln) (H Q : List Hd) (k : Nat) (v : Value) (wr : World) : Prop :=
  ∃ (a : Option Addr) (c : Nat) (I : List Int) (x : Ln) (H' Q' : List Hd), v = .slice a I.length c ∧ k = Q'.length ∧ LiW H' Q' ∧ H'.length + Q'.length ≤ H.length + Q.length ∧ I.length + Q'.length ≤ Q.length ∧ (letH H Q).1 = I ++ (letH H' Q').1 ∧ (letH H Q).2 = (letH H' Q').2 ∧ x.key = (X[i]?.map (·.key)).getD ⟨#[]⟩ ∧
    Mem w D wr [RowI a c I, RowL g n lc (X.set i x), RowH x.hs H', RowH x.qs Q']
set_option maxRecDepth 100000 in
set_option maxHeartbeats 4000000 in
theorem let_any (g n lc : Nat) (X : List Ln) (i : Nat) (hi : i < X.length) (H Q : List Hd) (w : World) (D : List Nat) (hm : All [RowL g n lc X, RowH X[i].hs H, RowH X[i].qs Q] w D) (hW : LiW H Q) (hb : H.length + Q.length ≤ 1000) :
    Calls Tryz.prog 121 #[.pointer (some ⟨g, i * 3, none⟩)] w fun e w' => ∃ a c x, e = .returned (.slice a (letH H Q).1.length c) ∧ x.key = X[i].key ∧
      Mem w D w' [RowI a c (letH H Q).1, RowL g n lc (X.set i x), RowH x.hs (letH H Q).2.1, RowH x.qs (letH H Q).2.2] := by
  have h0 : LetAt w D g n lc i X H Q Q.length (.slice none 0 0) w := by
    refine ⟨none, 0, [], X[i], H, Q, rfl, rfl, hW, Nat.le_refl _, Nat.le_of_eq (Nat.zero_add _), rfl, rfl, by simp [hi], ?_⟩
    rw [List.set_getElem_self]
    exact (Mem.ofAll hm).new (Below.refl _ _) (As := [RowI none 0 []]) (all_one ⟨rfl, Row.nil _ _ _⟩) (by simp [blkOf])
  have H0 := Lib.hid h0
  clear h0 hm hW
  have HHI := Lib.hid hi
  go_enter Tryz.func121, Tryz.ntmps121
  go_wp2_with fail
  go_loopg [3] Q.length (fun k v wr => Hid (LetAt w D g n lc i X H Q k v wr))
  case atStart => exact H0
  case round =>
    obtain ⟨a, c, I, ⟨xk, ⟨ha, hn, hc⟩, ⟨qa, qn, qc⟩⟩, H', Q', rfl, rfl, hW, hb1, hb2, hI, hS, hk, hm⟩ := hrel.out
    have hi' : i < (X.set i ⟨xk, ⟨ha, hn, hc⟩, ⟨qa, qn, qc⟩⟩).length := by rw [List.length_set]; exact HHI.out
    have hsl1 := Mem.sl_len [RowI a c I, RowL g n lc (X.set i ⟨xk, ⟨ha, hn, hc⟩, ⟨qa, qn, qc⟩⟩)] (r := [RowH ⟨qa, qn, qc⟩ Q']) hm
    have hsl2 := Mem.sl_len [RowI a c I, RowL g n lc (X.set i ⟨xk, ⟨ha, hn, hc⟩, ⟨qa, qn, qc⟩⟩), RowH ⟨ha, hn, hc⟩ H'] (r := []) hm
    simp only at hsl1 hsl2 hk hm
    have hcs := lnFlat_get _ i hi'
    rw [List.getElem_set_self] at hcs
    simp only at hcs
    obtain ⟨k0, -⟩ := row_cell (Mem.rowAt [RowI a c I] hm) hcs.1
    obtain ⟨k1, f1⟩ := row_cell (Mem.rowAt [RowI a c I] hm) hcs.2.1
    obtain ⟨k2, f2⟩ := row_cell (Mem.rowAt [RowI a c I] hm) hcs.2.2
    have HMAY := Lib.hid (may_any ⟨xk, ⟨ha, hn, hc⟩, ⟨qa, qn, qc⟩⟩ H' Q' wr (HdsAt.row (Mem.rowAt [RowI a c I, RowL g n lc (X.set i ⟨xk, ⟨ha, hn, hc⟩, ⟨qa, qn, qc⟩⟩)] hm)) (HdsAt.row (Mem.rowAt [RowI a c I, RowL g n lc (X.set i ⟨xk, ⟨ha, hn, hc⟩, ⟨qa, qn, qc⟩⟩), RowH ⟨ha, hn, hc⟩ H'] (r := []) hm)) (by show hn ≤ maxLen; unfold maxLen; omega) (by show qn ≤ maxLen; unfold maxLen; omega))
    simp only at HMAY
    have M1 := Lib.hid hm
    have HLW := Lib.hid hW
    have HII := Lib.hid hI
    have HSS := Lib.hid hS
    have HKK := Lib.hid hk
    have HCS := Lib.hid hcs
    have HBB := Lib.hid (And.intro hb1 hb2)
    have HL1 := Lib.hid hsl1
    have HL2 := Lib.hid hsl2
    clear hm hW hI hS hk H0 hcs hb1 hb2 hrel hsl1 hsl2
    go_wp2_with fail
    refine HMAY.out.mono ?_
    rintro e w1 ⟨rfl, hb⟩
    have M2 := Lib.hid (M1.out.below hb)
    clear hb HMAY
    cases hmay : mayH H' Q' with
    | false =>
      have hl : letH H' Q' = ([], H', Q') := by
        match Q', hmay with
        | [], _ => rfl
        | y :: R, hmay => rw [letH_cons, hmay]; rfl
      have h1 := HII.out
      have h2 := HSS.out
      rw [hl] at h1 h2
      simp only [List.append_nil] at h1
      have HF : Hid (xk = X[i].key ∧ Mem w D w1 [RowI a c (letH H Q).1, RowL g n lc (X.set i ⟨xk, ⟨ha, hn, hc⟩, ⟨qa, qn, qc⟩⟩), RowH ⟨ha, hn, hc⟩ (letH H Q).2.1, RowH ⟨qa, qn, qc⟩ (letH H Q).2.2]) := Lib.hid (by
        rw [h2, h1]
        exact ⟨by rw [HKK.out, List.getElem?_eq_getElem HHI.out]; rfl, M2.out⟩)
      have hlen : I.length = (letH H Q).1.length := by rw [h1]
      clear h1 h2 hl hmay M1 M2 HII HSS
      go_wp2_with fail
      go_ret
      exact ⟨a, c, _, by first | rfl | (rw [hlen]; rfl), HF.out.1, HF.out.2⟩
    | true =>
      match Q', hmay with
      | y :: R, hmay =>
        obtain ⟨yo, ym⟩ := y
        have hq0 : 0 < qn := by have := HL2.out; simp at this; omega
        have hqb : qn ≤ 1000 := by have := HL2.out; have := HBB.out; simp at *; omega
        have hqh := hdFlat_get (⟨yo, ym⟩ :: R) 0 (by simp)
        simp only [Nat.zero_mul, Nat.zero_add, List.getElem_cons_zero] at hqh
        obtain ⟨gq, rfl, -⟩ := hdAt_row (Mem.rowAt [RowI a c I, RowL g n lc (X.set i ⟨xk, ⟨ha, hn, hc⟩, ⟨qa, qn, qc⟩⟩), RowH ⟨ha, hn, hc⟩ H'] (r := []) M2.out) 0 (by simp)
        obtain ⟨e0, -⟩ := row_cell (Mem.rowAt [RowI a c I, RowL g n lc (X.set i ⟨xk, ⟨ha, hn, hc⟩, ⟨some ⟨gq, 0, none⟩, qn, qc⟩⟩), RowH ⟨ha, hn, hc⟩ H'] (r := []) M2.out) hqh.1
        obtain ⟨e1, -⟩ := row_cell (Mem.rowAt [RowI a c I, RowL g n lc (X.set i ⟨xk, ⟨ha, hn, hc⟩, ⟨some ⟨gq, 0, none⟩, qn, qc⟩⟩), RowH ⟨ha, hn, hc⟩ H'] (r := []) M2.out) hqh.2
        obtain ⟨k0, -⟩ := row_cell (Mem.rowAt [RowI a c I] M2.out) HCS.out.1
        obtain ⟨k1, f1⟩ := row_cell (Mem.rowAt [RowI a c I] M2.out) HCS.out.2.1
        obtain ⟨k2, f2⟩ := row_cell (Mem.rowAt [RowI a c I] M2.out) HCS.out.2.2
        have M3 := Lib.hid (M2.out.block #[.int .i64 yo, .int .i64 ym] 32)
        have HDEL := Lib.hid (mem_del0 [BlockA w1.heap.size #[.int .i64 yo, .int .i64 ym] 32, RowI a c I, RowL g n lc (X.set i ⟨xk, ⟨ha, hn, hc⟩, ⟨some ⟨gq, 0, none⟩, qn, qc⟩⟩), RowH ⟨ha, hn, hc⟩ H'] (r := []) M3.out)
        have hk2 := fun o => ((bel_new w1 o).cell (World.block_lt_of_cell? w1 _ k2)).trans k2
        clear M1 M2 hqh
        simp only [slv] at HDEL
        go_wp2_with fail
        refine HDEL.out.mono ?_
        rintro e w2 ⟨⟨sa, sn, sc⟩, rfl, hm⟩
        simp only [List.cons_append, List.nil_append] at hm
        obtain ⟨k2', f2'⟩ := row_cell (Mem.rowAt [BlockA w1.heap.size #[.int .i64 yo, .int .i64 ym] 32, RowI a c I] hm) HCS.out.2.2
        have hm4 := Mem.rowSet [BlockA w1.heap.size #[.int .i64 yo, .int .i64 ym] 32, RowI a c I] hm (i * 3 + 2) (slv ⟨sa, sn, sc⟩)
        rw [lnFlat_set2 HHI.out] at hm4
        have M4 := Lib.hid (show Mem w D (w2.setCell ⟨g, i * 3 + 2, none⟩ (.slice sa sn sc)) [BlockA w1.heap.size #[.int .i64 yo, .int .i64 ym] 32, RowI a c I, RowL g n lc (X.set i ⟨xk, ⟨ha, hn, hc⟩, ⟨sa, sn, sc⟩⟩), RowH ⟨ha, hn, hc⟩ H', RowH ⟨sa, sn, sc⟩ R] from hm4)
        clear hm hm4 HDEL hk2 M3 k0 k1 k2 f1 f2 e0 e1
        simp only
        go_wp2_with fail
        obtain ⟨w4, hw4⟩ : ∃ w4, w4 = w2.setCell ⟨g, i * 3 + 2, none⟩ (.slice sa sn sc) := ⟨_, rfl⟩
        rw [← hw4] at M4 ⊢
        clear hw4 k2' f2'
        obtain ⟨z0, -⟩ := Mem.cellAt (i := 0) [] (r := [RowI a c I, RowL g n lc (X.set i ⟨xk, ⟨ha, hn, hc⟩, ⟨sa, sn, sc⟩⟩), RowH ⟨ha, hn, hc⟩ H', RowH ⟨sa, sn, sc⟩ R]) M4.out rfl
        obtain ⟨z1, -⟩ := Mem.cellAt (i := 1) [] (r := [RowI a c I, RowL g n lc (X.set i ⟨xk, ⟨ha, hn, hc⟩, ⟨sa, sn, sc⟩⟩), RowH ⟨ha, hn, hc⟩ H', RowH ⟨sa, sn, sc⟩ R]) M4.out rfl
        have hc4 := lnFlat_get (X.set i ⟨xk, ⟨ha, hn, hc⟩, ⟨sa, sn, sc⟩⟩) i (by rw [List.length_set]; exact HHI.out)
        rw [List.getElem_set_self] at hc4
        obtain ⟨k1, f1⟩ := row_cell (Mem.rowAt [BlockA w1.heap.size #[.int .i64 yo, .int .i64 ym] 32, RowI a c I] M4.out) hc4.2.1
        have HI := Lib.hid fun W (hb : Below w4.heap.size w4 W) => (mem_put [BlockA w1.heap.size #[.int .i64 yo, .int .i64 ym] 32, RowI a c I, RowL g n lc (X.set i ⟨xk, ⟨ha, hn, hc⟩, ⟨sa, sn, sc⟩⟩)] (r := [RowH ⟨sa, sn, sc⟩ R]) (M4.out.below hb) HLW.out.sh (by have := HBB.out.1; omega) ⟨yo, ym⟩).mono fun e W' (h : ∃ s', e = .returned (slv s') ∧ Mem w D W' ([BlockA w1.heap.size #[.int .i64 yo, .int .i64 ym] 32, RowI a c I, RowL g n lc (X.set i ⟨xk, ⟨ha, hn, hc⟩, ⟨sa, sn, sc⟩⟩)] ++ RowH s' (putH H' ⟨yo, ym⟩) :: [RowH ⟨sa, sn, sc⟩ R])) => (by
          obtain ⟨s', he, hm'⟩ := h
          have hm : Mem w D W' [BlockA w1.heap.size #[.int .i64 yo, .int .i64 ym] 32, RowI a c I, RowL g n lc (X.set i ⟨xk, ⟨ha, hn, hc⟩, ⟨sa, sn, sc⟩⟩), RowH s' (putH H' ⟨yo, ym⟩), RowH ⟨sa, sn, sc⟩ R] := hm'
          have h1 := row_cell (Mem.rowAt [BlockA w1.heap.size #[.int .i64 yo, .int .i64 ym] 32, RowI a c I] (r := [RowH s' (putH H' ⟨yo, ym⟩), RowH ⟨sa, sn, sc⟩ R]) hm) hc4.2.1
          have h2 := Mem.rowSet [BlockA w1.heap.size #[.int .i64 yo, .int .i64 ym] 32, RowI a c I] (r := [RowH s' (putH H' ⟨yo, ym⟩), RowH ⟨sa, sn, sc⟩ R]) hm (i * 3 + 1) (slv s')
          rw [lnFlat_set1 HHI.out] at h2
          exact ⟨s', he, ⟨_, h1.1⟩, h1.2, h2⟩ : ∃ s', e = .returned (slv s') ∧ (∃ v, W'.cell? ⟨g, i * 3 + 1, none⟩ = some v) ∧ W'.frozen? ⟨g, i * 3 + 1, none⟩ = false ∧ Mem w D (W'.setCell ⟨g, i * 3 + 1, none⟩ (slv s')) [BlockA w1.heap.size #[.int .i64 yo, .int .i64 ym] 32, RowI a c I, RowL g n lc (X.set i ⟨xk, s', ⟨sa, sn, sc⟩⟩), RowH s' (putH H' ⟨yo, ym⟩), RowH ⟨sa, sn, sc⟩ R])
        have HI2 := Lib.hid (HI.out w4.drew (bel_drew w4))
        clear HI
        go_region_with (go_at_call 155; refine HI2.out.mono ?_; rintro e w5 ⟨s2, rfl, ⟨v5, hc5⟩, hf5, hfin⟩)
        all_goals
          obtain ⟨w6, hw6⟩ : ∃ w6, w6 = w5.setCell ⟨g, i * 3 + 1, none⟩ (.slice s2.a s2.n s2.c) := ⟨_, rfl⟩
          have M6 : Hid (Mem w D w6 (BlockA w1.heap.size #[.int .i64 yo, .int .i64 ym] 32 :: RowI a c I :: [RowL g n lc (X.set i ⟨xk, s2, ⟨sa, sn, sc⟩⟩), RowH s2 (putH H' ⟨yo, ym⟩), RowH ⟨sa, sn, sc⟩ R])) := Lib.hid (by rw [hw6]; exact hfin)
          rw [← hw6]
          clear hw6 hfin hc5 hf5 HI2 M4 z0 z1 k1 f1
          obtain ⟨z0, -⟩ := Mem.cellAt (i := 0) [] (r := RowI a c I :: [RowL g n lc (X.set i ⟨xk, s2, ⟨sa, sn, sc⟩⟩), RowH s2 (putH H' ⟨yo, ym⟩), RowH ⟨sa, sn, sc⟩ R]) M6.out rfl
          obtain ⟨b6, c6, w7, hrun, hm7⟩ := Mem.app1 (P := Tryz.prog) (t := 102) (ty := 102) [BlockA w1.heap.size #[.int .i64 yo, .int .i64 ym] 32] (r := [RowL g n lc (X.set i ⟨xk, s2, ⟨sa, sn, sc⟩⟩), RowH s2 (putH H' ⟨yo, ym⟩), RowH ⟨sa, sn, sc⟩ R]) Tryz.underlying102 infoInt (by rfl) (by decide) M6.out [.int .i64 yo] (by rfl) (by simp [Value.oneCell']) (by have := HBB.out.2; omega) (by decide)
          have HRUN := Lib.hid hrun
          have M7 := Lib.hid (show Mem w D w7 (BlockA w1.heap.size #[.int .i64 yo, .int .i64 ym] 32 :: RowA 3 1 b6 (I.length + 1) c6 (intsV I ++ [.int .i64 yo]) :: [RowL g n lc (X.set i ⟨xk, s2, ⟨sa, sn, sc⟩⟩), RowH s2 (putH H' ⟨yo, ym⟩), RowH ⟨sa, sn, sc⟩ R]) from hm7)
          have HF : Hid (LetAt w D g n lc i X H Q R.length (.slice b6 (I.length + 1) c6) w7) := Lib.hid (by
            have h1 := HII.out
            have h2 := HSS.out
            rw [letH_cons, if_pos hmay] at h1 h2
            have h3 := Mem.drop [] (r := RowA 3 1 b6 (I.length + 1) c6 (intsV I ++ [.int .i64 yo]) :: [RowL g n lc (X.set i ⟨xk, s2, ⟨sa, sn, sc⟩⟩), RowH s2 (putH H' ⟨yo, ym⟩), RowH ⟨sa, sn, sc⟩ R]) M7.out
            have h4 := HBB.out
            have h5 := putH_len H' ⟨yo, ym⟩
            simp only [List.length_cons] at h4
            refine ⟨b6, c6, I ++ [yo], ⟨xk, s2, ⟨sa, sn, sc⟩⟩, putH H' ⟨yo, ym⟩, R, by simp, rfl, HLW.out.put hmay, by omega, by rw [List.length_append]; simp; omega, by rw [h1]; simp, h2, HKK.out, ?_⟩
            rw [rowI_app] at h3
            exact h3)
          clear hrun hm7 M6 M7 hmay HII HSS HLW HKK HBB
          go_wp2_with ((at_builtin; refine wpList_appendR _ rfl (.tmp 32) (.tmp 35) 102 102 rfl (.slice a I.length c) (.slice (some ⟨w6.heap.size, 0, none⟩) 1 1) rfl rfl HRUN.out ?_))
          go_roundg R.length
          case rel => exact HF
          case measure => simp
end Go.Proofs.YtmifgnibalbgjaaGreat
/- The table in memory. -/
namespace Go.Proofs.YtmifgnibalbgjaaGreat
open Go.RowKit
/-- the order in which things are named is of no account. -/
theorem All.perm {l l' : List Asn} (p : l.Perm l') : ∀ {w : World} {D : List Nat}, All l w D → ∃ D', All l' w D' ∧ ∀ x, x ∈ D' ↔ x ∈ D := by
  induction p with
  | nil => exact fun h => ⟨_, h, fun _ => Iff.rfl⟩
  | cons A _ ih =>
    rintro w D ⟨D1, D2, rfl, hd, h1, h2⟩
    obtain ⟨D', h3, h4⟩ := ih h2
    exact ⟨D1 ++ D', ⟨D1, D', rfl, fun x hx hm => hd x hx ((h4 x).1 hm), h1, h3⟩, fun x => by rw [List.mem_append, List.mem_append, h4]⟩
  | swap A B l =>
    rintro w D ⟨D1, D2, rfl, hd, h1, D3, D4, rfl, hd2, h3, h4⟩
    refine ⟨D3 ++ (D1 ++ D4), ⟨D3, D1 ++ D4, rfl, fun x hx hm => ?_, h3, D1, D4, rfl, fun x hx hm => hd x hx (List.mem_append_right _ hm), h1, h4⟩, fun x => by simp only [List.mem_append]; constructor <;> (rintro (h | h | h) <;> simp [h])⟩
    rcases List.mem_append.1 hm with hm | hm
    · exact hd x hm (List.mem_append_left _ hx)
    · exact hd2 x hx hm
  | trans _ _ ih1 ih2 =>
    intro w D h
    obtain ⟨D1, h1, e1⟩ := ih1 h
    obtain ⟨D2, h2, e2⟩ := ih2 h1
    exact ⟨D2, h2, fun x => (e2 x).trans (e1 x)⟩
theorem Mem.perm {w0 w : World} {D0 : List Nat} {l l' : List Asn} (h : Mem w0 D0 w l) (p : l.Perm l') : Mem w0 D0 w l' := by
  obtain ⟨D, hA, hD⟩ := h.out
  obtain ⟨D', hA', e⟩ := All.perm p hA
  exact ⟨D', hA', hD.touch, fun x hx => hD.fresh x ((e x).1 hx)⟩
theorem Mem.lpack {w0 w : World} {D0 : List Nat} (l : List Asn) {r : List Asn} (h : Mem w0 D0 w (l ++ r)) : Mem w0 D0 w (All l :: r) := by
  obtain ⟨D, hA, hD⟩ := h.out
  obtain ⟨D1, D2, rfl, hd, h1, h2⟩ := all_append l r hA
  exact ⟨_, ⟨D1, D2, rfl, hd, h1, h2⟩, hD⟩
theorem Mem.lunpack {w0 w : World} {D0 : List Nat} {l r : List Asn} (h : Mem w0 D0 w (All l :: r)) : Mem w0 D0 w (l ++ r) := by
  obtain ⟨D, ⟨D1, D2, rfl, hd, h1, h2⟩, hD⟩ := h.out
  exact ⟨_, all_mk h1 h2 hd, hD⟩
/-- a thing is some other things. -/
theorem Mem.open {w0 w : World} {D0 : List Nat} {A : Asn} {r : List Asn} (h : Mem w0 D0 w (A :: r)) {Q : List Asn → Prop} (ha : ∀ D, A w D → ∃ l, Q l ∧ All l w D) : ∃ l, Q l ∧ Mem w0 D0 w (l ++ r) := by
  obtain ⟨D, ⟨D1, D2, rfl, hd, h1, h2⟩, hD⟩ := h.out
  obtain ⟨l, hq, hl⟩ := ha D1 h1
  exact ⟨l, hq, _, all_mk hl h2 hd, hD⟩
theorem Mem.weak {w0 w : World} {D0 : List Nat} {A B : Asn} {r : List Asn} (h : Mem w0 D0 w (A :: r)) (ha : ∀ D, A w D → B w D) : Mem w0 D0 w (B :: r) := by
  obtain ⟨D, ⟨D1, D2, rfl, hd, h1, h2⟩, hD⟩ := h.out
  exact ⟨_, ⟨D1, D2, rfl, hd, ha _ h1, h2⟩, hD⟩
theorem Step.mem {w0 w w' : World} {D0 D : List Nat} (h : Step w0 D0 w D) {l : List Asn} (m : Mem w D w' l) : Mem w0 D0 w' l := by
  obtain ⟨D', hA, hD⟩ := m.out
  exact ⟨D', hA, h.trans hD⟩
/-- the frame rule: a contract of some things, beside others. -/
theorem Mem.frame {P : Program} {w0 w : World} {D0 : List Nat} (l : List Asn) {r : List Asn} [Stables l] [Stables r] (h : Mem w0 D0 w (l ++ r)) {f : Nat} {args : Array Value} {Q : Ending → List Asn → Prop}
    (hc : ∀ D, All l w D → Calls P f args w fun e w' => ∃ As, Q e As ∧ Mem w D w' As) : Calls P f args w fun e w' => ∃ As, Q e As ∧ Mem w0 D0 w' (As ++ r) := by
  obtain ⟨D, hA, k⟩ := Mem.focus [] (Mem.lpack l h)
  refine (hc D hA).mono ?_
  rintro e w' ⟨As, hq, hm⟩
  obtain ⟨D', h1, h2⟩ := hm.out
  exact ⟨As, hq, k As w' D' h1 h2⟩
/-- the rows of lines. -/
def rowsOf : List Ln → List Li → List Asn
  | x :: X, l :: L => RowH x.hs l.hs :: RowH x.qs l.qs :: rowsOf X L
  | _, _ => []
theorem rowsOf_stable : ∀ (X : List Ln) (L : List Li), ∀ A ∈ rowsOf X L, Stable A
  | [], _, A, h => by simp [rowsOf] at h
  | x :: X, [], A, h => by simp [rowsOf] at h
  | x :: X, l :: L, A, h => by
    rcases List.mem_cons.1 h with rfl | h
    · infer_instance
    · rcases List.mem_cons.1 h with rfl | h
      · infer_instance
      · exact rowsOf_stable X L A h
instance {X : List Ln} {L : List Li} : Stables (rowsOf X L) := ⟨rowsOf_stable X L⟩
theorem rowsOf_append : ∀ (X1 : List Ln) (L1 : List Li) (X2 : List Ln) (L2 : List Li), X1.length = L1.length → rowsOf (X1 ++ X2) (L1 ++ L2) = rowsOf X1 L1 ++ rowsOf X2 L2
  | [], [], _, _, _ => rfl
  | [], _ :: _, _, _, h => by cases h
  | _ :: _, [], _, _, h => by cases h
  | x :: X1, l :: L1, X2, L2, h => by
    simp only [List.cons_append, rowsOf]
    rw [rowsOf_append X1 L1 X2 L2 (by simpa using h)]
theorem rowsOf_at {X : List Ln} {L : List Li} {i : Nat} (hx : i < X.length) (hl : i < L.length) : rowsOf X L = rowsOf (X.take i) (L.take i) ++ (RowH X[i].hs L[i].hs :: RowH X[i].qs L[i].qs :: rowsOf (X.drop (i + 1)) (L.drop (i + 1))) := by
  conv => lhs; rw [← List.take_append_drop i X, ← List.take_append_drop i L, List.drop_eq_getElem_cons hx, List.drop_eq_getElem_cons hl]
  rw [rowsOf_append _ _ _ _ (by simp; omega)]
  rfl
theorem rowsOf_set {X : List Ln} {L : List Li} {i : Nat} (hx : i < X.length) (hl : i < L.length) (x : Ln) (l : Li) : rowsOf (X.set i x) (L.set i l) = rowsOf (X.take i) (L.take i) ++ (RowH x.hs l.hs :: RowH x.qs l.qs :: rowsOf (X.drop (i + 1)) (L.drop (i + 1))) := by
  rw [rowsOf_at (i := i) (by simpa using hx) (by simpa using hl)]
  simp [List.take_set_of_le, List.drop_set_of_lt]
/-- a table. -/
def TabA (p : Nat) (L : List Li) : Asn := fun w D => ∃ la n c X, X.map (·.key) = L.map (·.key) ∧ All (BlockA p #[.slice la n c] 144 :: RowA 66 3 la n c (lnFlat X) :: rowsOf X L) w D
instance {p : Nat} {L : List Li} : Stable (TabA p L) where
  lt := fun ⟨_la, _n, _c, _X, _hk, h⟩ x hx => Stable.lt h x hx
  keep := fun ⟨la, n, c, X, hk, h⟩ hk' => ⟨la, n, c, X, hk, Stable.keep h hk'⟩
theorem Mem.table {w0 w : World} {D0 : List Nat} {p : Nat} {L : List Li} {r : List Asn} (h : Mem w0 D0 w (TabA p L :: r)) : ∃ la n c X, X.map (·.key) = L.map (·.key) ∧ Mem w0 D0 w (BlockA p #[.slice la n c] 144 :: RowA 66 3 la n c (lnFlat X) :: (rowsOf X L ++ r)) := by
  obtain ⟨D, ⟨D1, D2, rfl, hd, ⟨la, n, c, X, hk, h1⟩, h2⟩, hD⟩ := h.out
  exact ⟨la, n, c, X, hk, _, all_mk (l := _ :: _ :: _) h1 h2 hd, hD⟩
theorem Mem.shut {w0 w : World} {D0 : List Nat} {p : Nat} {L : List Li} {r : List Asn} {la : Option Addr} {n c : Nat} {X : List Ln} (hk : X.map (·.key) = L.map (·.key)) (h : Mem w0 D0 w (BlockA p #[.slice la n c] 144 :: RowA 66 3 la n c (lnFlat X) :: (rowsOf X L ++ r))) : Mem w0 D0 w (TabA p L :: r) :=
  (Mem.lpack (BlockA p #[.slice la n c] 144 :: RowA 66 3 la n c (lnFlat X) :: rowsOf X L) (r := r) h).weak fun _D hD => ⟨la, n, c, X, hk, hD⟩
theorem lnrow_len {w : World} {a : Option Addr} {n c : Nat} {l : List Ln} (h : Row w 66 3 a n c (lnFlat l)) : n = l.length := by
  have := h.len; rw [lnFlat_len] at this; omega
theorem keys_at {X : List Ln} {L : List Li} (h : X.map (·.key) = L.map (·.key)) : X.length = L.length ∧ ∀ j (hx : j < X.length) (hl : j < L.length), X[j].key = L[j].key := by
  have h1 := congrArg List.length h
  rw [List.length_map, List.length_map] at h1
  refine ⟨h1, fun j hx hl => ?_⟩
  have h2 := congrArg (fun l : List ByteArray => l[j]?) h
  simpa [hx, hl] using h2
set_option maxHeartbeats 800000 in
theorem tab_find (p : Nat) (la : Option Addr) (n c : Nat) (X : List Ln) (L : List Li) (k : ByteArray) (w : World) (hc : w.cell? ⟨p, 0, none⟩ = some (.slice la n c)) (hr : Row w 66 3 la n c (lnFlat X)) (hk : X.map (·.key) = L.map (·.key)) (hs : SortL L) (hb : L.length ≤ 1000000) :
    Calls Tryz.prog 118 #[.pointer (some ⟨p, 0, none⟩), .string k] w fun e w' => e = .returned (.tuple #[.int .i64 (posL L k), .bool (hasL L k)]) ∧ Below w.heap.size w w' := by
  obtain ⟨k1, k2⟩ := keys_at hk
  have hl := lnrow_len hr
  have hpl : posL L k ≤ L.length := posBy_le _ _
  have HB := Lib.hid (line_bsf (fun (x : Ln) (t : ByteArray) => cmpS x.key t) line1_any la n c X k (posL L k) w hr (by omega) (by omega) (fun j hj hl => by
      rw [k2 j hj (by omega)]; exact (cmpS_neg _ _).2 (posL_lt k j (by omega) hl)) (fun j hj hl => by
    rw [k2 j hj (by omega)]
    have h1 := posL_ge hs k j (by omega) hl
    rcases Int.lt_or_le (cmpS (L[j]'(by omega)).key k) 0 with h2 | h2
    · rw [(cmpS_neg _ _).1 h2] at h1; cases h1
    · exact h2))
  have hf : foundAt (fun (x : Ln) (t : ByteArray) => cmpS x.key t) X k (posL L k) = hasL L k := by
    rw [← foundL hs, Bool.eq_iff_iff]
    unfold foundAt
    simp only [decide_eq_true_eq]
    constructor
    · rintro ⟨_, h, e⟩; exact ⟨by omega, by omega, by rw [← k2 _ h (by omega)]; exact e⟩
    · rintro ⟨_, h, e⟩; exact ⟨by omega, by omega, by rw [k2 _ (by omega) h]; exact e⟩
  rw [hf] at HB
  clear hr hs hk k1 k2 hl hpl hf hb
  generalize posL L k = q at *
  generalize hasL L k = b at *
  go_enter Tryz.func118, Tryz.ntmps118
  go_wp2_with fail
  refine HB.out.mono ?_
  rintro e w1 ⟨rfl, hb⟩
  have HB1 := Lib.hid hb
  clear hb
  go_wp2_with fail
  go_ret2
  exact ⟨rfl, HB1.out⟩
end Go.Proofs.YtmifgnibalbgjaaGreat
