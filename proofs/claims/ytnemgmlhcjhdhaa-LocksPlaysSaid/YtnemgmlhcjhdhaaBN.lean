import Derived.Test.YtnemgmlhcjhdhaaBMA
import Derived.Test.YtnemgmlhcjhdhaaBMB
import Derived.Test.YtnemgmlhcjhdhaaBMC
import Derived.Test.YtnemgmlhcjhdhaaBG
import Derived.Test.YtnemgmlhcjhdhaaAK
import Derived.Deep.RegionHeld3
/- The document's row: Ask, whole; its calls beside other things. -/
namespace Go.Proofs.Ytnemgmlhcjhdhaa
open Go.RowKit
set_option maxRecDepth 100000 in
set_option maxHeartbeats 4000000 in
theorem rask_any (p : Nat) (l : List Wn) (o : Int) (k : ByteArray) (m : Int) (w : World) (D : List Nat) (h : RefA p l w D) (hml : l.length ≤ 150) :
    Calls Try.prog 27 #[.pointer (some ⟨p, 0, none⟩), .int .i64 o, .string k, .int .i64 m] w fun e w' => e = .returned (.int .i64 (askR l o k m).1) ∧ Mem w D w' [RefA p (askR l o k m).2] := by
  have hrf : RfAt w p l := RfAt.mem (r := []) (Mem.start h)
  have HM := Lib.hid (Mem.start h)
  have HH1 := Lib.hid (has_any p l o k true w hrf (by omega))
  have HH2 := Lib.hid fun W (hb : Below w.heap.size w W) => has_any p l o k false W (hrf.below hb) (by omega)
  by_cases h0 : o < 0
  · have he : askR l o k m = (1, l) := by unfold askR; rw [if_pos (.inl h0)]
    rw [he]
    have d0 : decide (o < 0) = true := decide_eq_true h0
    clear h hrf HH1 HH2 he h0
    go_enter Try.func27, Try.ntmps27
    go_wp2_with fail
    go_ret
    exact ⟨rfl, HM.out⟩
  · have d0 : decide (o < 0) = false := decide_eq_false h0
    by_cases h1 : 16 < k.size
    · have he : askR l o k m = (1, l) := by unfold askR; rw [if_pos (.inr (.inl h1))]
      rw [he]
      have d1 : decide ((16 : Int) < (k.size : Int)) = true := decide_eq_true (by omega)
      have d1n : decide (16 < k.size) = true := decide_eq_true h1
      clear h hrf HH1 HH2 he h0 h1
      go_enter Try.func27, Try.ntmps27
      go_wp2_with fail
      go_ret
      exact ⟨rfl, HM.out⟩
    · have hks : k.size ≤ 16 := by omega
      have d1 : decide ((16 : Int) < (k.size : Int)) = false := decide_eq_false (by omega)
      by_cases h2 : m < 1
      · have he : askR l o k m = (1, l) := by unfold askR; rw [if_pos (.inr (.inr (.inl h2)))]
        rw [he]
        have d2 : decide (m < 1) = true := decide_eq_true h2
        clear h hrf HH1 HH2 he h0
        go_enter Try.func27, Try.ntmps27
        go_wp2_with fail
        go_ret
        exact ⟨rfl, HM.out⟩
      · have d2 : decide (m < 1) = false := decide_eq_false h2
        by_cases h3 : 2 < m
        · have he : askR l o k m = (1, l) := by unfold askR; rw [if_pos (.inr (.inr (.inr h3)))]
          rw [he]
          have d3 : decide (2 < m) = true := decide_eq_true h3
          clear h hrf HH1 HH2 he h0
          go_enter Try.func27, Try.ntmps27
          go_wp2_with fail
          go_ret
          exact ⟨rfl, HM.out⟩
        · have d3 : decide (2 < m) = false := decide_eq_false h3
          have hn : ¬ (o < 0 ∨ 16 < k.size ∨ m < 1 ∨ 2 < m) := by simp only [not_or]; exact ⟨h0, h1, h2, h3⟩
          by_cases h4 : m ≤ hasR l o k true
          · have he : askR l o k m = (0, l) := by unfold askR; rw [if_neg hn, if_pos h4]
            rw [he]
            generalize hasR l o k true = v at *
            have d4 : decide (m ≤ v) = true := decide_eq_true h4
            clear h hrf HH2 he h0 hn h4
            go_enter Try.func27, Try.ntmps27
            go_wp2_with fail
            refine HH1.out.mono ?_
            rintro e w1 ⟨rfl, hb⟩
            have HF := Lib.hid (HM.out.below hb)
            clear hb HH1
            go_wp2_with fail
            go_ret
            exact ⟨rfl, HF.out⟩
          · by_cases h5 : 0 < hasR l o k false
            · have he : askR l o k m = (10, l) := by unfold askR; rw [if_neg hn, if_neg h4, if_pos h5]
              rw [he]
              generalize hasR l o k true = v at *
              generalize hasR l o k false = u at *
              have d4 : decide (m ≤ v) = false := decide_eq_false h4
              have d5 : decide (0 < u) = true := decide_eq_true h5
              clear h hrf he h0 hn h4 h5
              go_enter Try.func27, Try.ntmps27
              go_wp2_with fail
              refine HH1.out.mono ?_
              rintro e w1 ⟨rfl, hb⟩
              have HB1 := Lib.hid hb
              have HM1 := Lib.hid (HM.out.below hb)
              clear hb HH1
              go_wp2_with fail
              refine (HH2.out w1 HB1.out).mono ?_
              rintro e w2 ⟨rfl, hb⟩
              have HF := Lib.hid (HM1.out.below hb)
              clear hb HH2 HM1 HB1
              go_wp2_with fail
              go_ret
              exact ⟨rfl, HF.out⟩
            · obtain ⟨la, lc, hc, -, hr⟩ := h.parts
              rcases hr.out with ⟨rfl, hz, rfl, -⟩ | ⟨g, cur, rfl, -⟩
              · obtain rfl : l = [] := List.eq_nil_of_length_eq_zero hz
                exact rask_C p o k m w D h hml h0 h1 h2 h3 h4 h5 hc
              · have hle : l.length ≤ lc := row_cap hr
                have hq : atR l o k ≤ l.length := by unfold atR; split; exact posBy_le _ _; exact Nat.le_refl _
                by_cases hqc : atR l o k < lc
                · exact rask_A p l o k m w D h hml h0 h1 h2 h3 h4 h5 lc g hc hr hqc
                · have e1 : lc = l.length := by omega
                  subst e1
                  exact rask_B p l o k m w D h hml h0 h1 h2 h3 h4 h5 g hc hr (by omega)
section
variable {w0 w : World} {D0 : List Nat} {p : Nat} {l : List Wn} {r : List Asn} [Stables r]
theorem mem_rask (h : Mem w0 D0 w (RefA p l :: r)) (hml : l.length ≤ 150) (o : Int) (k : ByteArray) (m : Int) :
    Calls Try.prog 27 #[.pointer (some ⟨p, 0, none⟩), .int .i64 o, .string k, .int .i64 m] w fun e w' => e = .returned (.int .i64 (askR l o k m).1) ∧ Mem w0 D0 w' (RefA p (askR l o k m).2 :: r) := by
  obtain ⟨D, hA, kk⟩ := Mem.focus [] h
  refine (rask_any p l o k m w D hA hml).mono ?_
  rintro e w' ⟨rfl, hm⟩
  obtain ⟨D', h1, h2⟩ := hm.out
  exact ⟨rfl, kk _ w' D' h1 h2⟩
theorem mem_rleave (h : Mem w0 D0 w (RefA p l :: r)) (hml : l.length ≤ 200) (o : Int) :
    Calls Try.prog 26 #[.pointer (some ⟨p, 0, none⟩), .int .i64 o] w fun e w' => ∃ a c, e = .returned (.slice a (riseI (leaveR l o).1).length c) ∧ Mem w0 D0 w' (RowI a c (riseI (leaveR l o).1) :: RefA p (leaveR l o).2 :: r) := by
  obtain ⟨D, hA, kk⟩ := Mem.focus [] h
  refine (rleave_any p l o w D hA hml).mono ?_
  rintro e w' ⟨a, c, rfl, hm⟩
  obtain ⟨D', h1, h2⟩ := hm.out
  exact ⟨a, c, rfl, kk _ w' D' h1 h2⟩
theorem mem_rholders (h : Mem w0 D0 w (RefA p l :: r)) (hml : l.length ≤ 100000) (k : ByteArray) :
    Calls Try.prog 53 #[.pointer (some ⟨p, 0, none⟩), .string k] w fun e w' => ∃ sa sn sc, e = .returned (.slice sa sn sc) ∧ Mem w0 D0 w' (RowH ⟨sa, sn, sc⟩ ((riseI ((inW k l).map (·.owner))).map fun o => (⟨o, hasR l o k true⟩ : Hd)) :: RefA p l :: r) := by
  refine (rholders_any p l k w (RfAt.mem h) hml).mono ?_
  rintro e w' ⟨sa, sn, sc, rfl, hm⟩
  exact ⟨sa, sn, sc, rfl, h.join hm⟩
theorem mem_rqueue (h : Mem w0 D0 w (RefA p l :: r)) (hml : l.length ≤ 100000) (k : ByteArray) :
    Calls Try.prog 54 #[.pointer (some ⟨p, 0, none⟩), .string k] w fun e w' => ∃ sa sn sc, e = .returned (.slice sa sn sc) ∧ Mem w0 D0 w' (RowH ⟨sa, sn, sc⟩ ((waitW k l).map hd) :: RefA p l :: r) := by
  refine (rqueue_any p l k w (RfAt.mem h) hml).mono ?_
  rintro e w' ⟨sa, sn, sc, rfl, hm⟩
  exact ⟨sa, sn, sc, rfl, h.join hm⟩
theorem mem_rblockers (h : Mem w0 D0 w (RefA p l :: r)) (hml : l.length ≤ 300) (o : Int) :
    Calls Try.prog 55 #[.pointer (some ⟨p, 0, none⟩), .int .i64 o] w fun e w' => ∃ a c, e = .returned (.slice a (riseI (blkUpR l o l.length)).length c) ∧ Mem w0 D0 w' (RowI a c (riseI (blkUpR l o l.length)) :: RefA p l :: r) := by
  refine (rblockers_any p l o w (RfAt.mem h) hml).mono ?_
  rintro e w' ⟨a, c, rfl, hm⟩
  exact ⟨a, c, rfl, h.join hm⟩
theorem mem_rkeys (h : Mem w0 D0 w (RefA p l :: r)) (hml : l.length ≤ 100000) :
    Calls Try.prog 30 #[.pointer (some ⟨p, 0, none⟩)] w fun e w' => ∃ a c, e = .returned (.slice a (risS (l.map (·.key))).length c) ∧ Mem w0 D0 w' (RowS a c (risS (l.map (·.key))) :: RefA p l :: r) := by
  refine (rkeys_any p l w (RfAt.mem h) hml).mono ?_
  rintro e w' ⟨a, c, rfl, hm⟩
  exact ⟨a, c, rfl, h.join hm⟩
theorem mem_rowners (h : Mem w0 D0 w (RefA p l :: r)) (hml : l.length ≤ 100000) :
    Calls Try.prog 31 #[.pointer (some ⟨p, 0, none⟩)] w fun e w' => ∃ a c, e = .returned (.slice a (riseI (l.map (·.owner))).length c) ∧ Mem w0 D0 w' (RowI a c (riseI (l.map (·.owner))) :: RefA p l :: r) := by
  refine (rowners_any p l w (RfAt.mem h) hml).mono ?_
  rintro e w' ⟨a, c, rfl, hm⟩
  exact ⟨a, c, rfl, h.join hm⟩
theorem mem_rhas (h : Mem w0 D0 w (RefA p l :: r)) (hml : l.length ≤ 1000000) (o : Int) (k : ByteArray) (b : Bool) :
    Calls Try.prog 52 #[.pointer (some ⟨p, 0, none⟩), .int .i64 o, .string k, .bool b] w fun e w' => e = .returned (.int .i64 (hasR l o k b)) ∧ Mem w0 D0 w' (RefA p l :: r) := by
  refine (has_any p l o k b w (RfAt.mem h) hml).mono ?_
  rintro e w' ⟨rfl, hb⟩
  exact ⟨rfl, h.below hb⟩
end
end Go.Proofs.Ytnemgmlhcjhdhaa
/- alike: the table and the document's row. -/
namespace Go.Proofs.Ytnemgmlhcjhdhaa
open Go.RowKit
theorem cutRef {w0 w : World} {D0 : List Nat} {A B C E F : Asn} {r : List Asn} [Stable A] [Stable B] [Stable C] [Stable E] [Stable F] [Stables r] (h : Mem w0 D0 w (A :: B :: C :: E :: F :: r)) : Mem w0 D0 w (C :: E :: F :: r) :=
  Mem.drop [] (r := C :: E :: F :: r) (Mem.drop [] (r := B :: C :: E :: F :: r) h)
set_option maxRecDepth 100000 in
set_option maxHeartbeats 16000000 in
theorem alike_any {w0 w : World} {D0 : List Nat} {p q : Nat} {L : List Li} {l : List Wn} {r : List Asn} [Stables r] (h : Mem w0 D0 w (TabA p L :: RefA q l :: r)) (hi : RInv L l) (ok : LOk L) (sm : Sm 64 L) (hl : l.length ≤ 150) (a : Ac) :
    Calls Try.prog 28 #[.pointer (some ⟨p, 0, none⟩), .pointer (some ⟨q, 0, none⟩), .agg #[.int .i64 a.owner, .string a.key, .int .i64 a.mode, .bool a.leave]] w fun e w' => e = .returned (.bool true) ∧ Mem w0 D0 w' (TabA p L :: RefA q l :: r) := by
  obtain ⟨xo, xk, xm, xl⟩ := a
  simp only
  have M1 := Lib.hid ((h.block #[.int .i64 xo, .string xk, .int .i64 xm, .bool xl] 28).perm (l' := TabA p L :: RefA q l :: BlockA w.heap.size #[.int .i64 xo, .string xk, .int .i64 xm, .bool xl] 28 :: r) (perm_ct fun x => by simp only [cnt_cons]; omega))
  have sm4 : Sm 400 L := sm.mono (by decide)
  have HCH := Lib.hid fun W r (_ : Stables r) (hW : Mem w0 D0 W (TabA p L :: r)) => (mem_tholders hW ok sm4 xk).mono fun e w' (h : ∃ s, e = .returned (slv s) ∧ Mem w0 D0 w' (RowH s (lineL L xk).hs :: TabA p L :: r)) => (by obtain ⟨⟨sa, sn, sc⟩, he, hm⟩ := h; exact ⟨sa, sn, sc, he, hm⟩ : ∃ sa sn sc, e = .returned (.slice sa sn sc) ∧ Mem w0 D0 w' (RowH ⟨sa, sn, sc⟩ (lineL L xk).hs :: TabA p L :: r))
  have HCQ := Lib.hid fun W r (_ : Stables r) (hW : Mem w0 D0 W (TabA p L :: r)) => (mem_tqueue hW ok sm4 xk).mono fun e w' (h : ∃ s, e = .returned (slv s) ∧ Mem w0 D0 w' (RowH s (lineL L xk).qs :: TabA p L :: r)) => (by obtain ⟨⟨sa, sn, sc⟩, he, hm⟩ := h; exact ⟨sa, sn, sc, he, hm⟩ : ∃ sa sn sc, e = .returned (.slice sa sn sc) ∧ Mem w0 D0 w' (RowH ⟨sa, sn, sc⟩ (lineL L xk).qs :: TabA p L :: r))
  have HCB := Lib.hid fun W r (_ : Stables r) (hW : Mem w0 D0 W (TabA p L :: r)) => mem_tblockers hW sm xo
  have HCO := Lib.hid fun W r (_ : Stables r) (hW : Mem w0 D0 W (TabA p L :: r)) => mem_tholds hW ok sm4 xo xk
  have HCW := Lib.hid fun W r (_ : Stables r) (hW : Mem w0 D0 W (TabA p L :: r)) => mem_twaits hW ok sm4 xo xk
  have HRH := Lib.hid fun W r (_ : Stables r) (hW : Mem w0 D0 W (RefA q l :: r)) => mem_rholders hW (by omega) xk
  have HRQ := Lib.hid fun W r (_ : Stables r) (hW : Mem w0 D0 W (RefA q l :: r)) => mem_rqueue hW (by omega) xk
  have HRB := Lib.hid fun W r (_ : Stables r) (hW : Mem w0 D0 W (RefA q l :: r)) => mem_rblockers hW (by omega) xo
  have HRO := Lib.hid fun W r (_ : Stables r) (hW : Mem w0 D0 W (RefA q l :: r)) => mem_rhas hW (by omega) xo xk true
  have HRW := Lib.hid fun W r (_ : Stables r) (hW : Mem w0 D0 W (RefA q l :: r)) => mem_rhas hW (by omega) xo xk false
  rw [holders_row hi ok xk] at HRH
  rw [(hi xk).q] at HRQ
  rw [blockers_row hi ok xo] at HRB
  rw [(hi xk).has (ok.line xk).1.sh xo] at HRO
  rw [(hi xk).wait xo] at HRW
  have hlb := sm.line xk
  have hIn : (riseI (blkL L xo)).length ≤ 1000000 := by
    have h1 := Lib.compact_length_le (sortI (blkL L xo))
    rw [sortI_len] at h1
    have h2 := midB_len sm xo L.length (Nat.le_refl _)
    rw [show midB L xo L.length = blkL L xo by unfold midB blkL; rw [List.take_length]] at h2
    have h3 : L.length * 4096 ≤ 64 * 4096 := Nat.mul_le_mul (by have := sm.1; omega) (Nat.le_refl _)
    unfold riseI
    omega
  clear h hi ok sm sm4 hl
  generalize ofH (lineL L xk).hs xo = vh at *
  generalize ofH (lineL L xk).qs xo = vq at *
  generalize riseI (blkL L xo) = I at *
  generalize (lineL L xk).hs = H at *
  generalize (lineL L xk).qs = Q at *
  have HSI := Lib.hid fun W a1 c1 a2 c2 r (_ : Stables r) (hW : Mem w0 D0 W (RowI a2 c2 I :: RowI a1 c1 I :: r)) => same_i a1 a2 I.length I.length c1 c2 I W (IntsAt.row (Mem.rowAt [RowI a2 c2 I] hW)) (IntsAt.row (Mem.rowAt [] hW)) hIn
  have HSH := Lib.hid fun (l : List Hd) (hl : l.length ≤ 1000) W (x1 x2 : Option Addr) (n1 n2 c1 c2 : Nat) r (_ : Stables r) (hW : Mem w0 D0 W (RowH ⟨x2, n2, c2⟩ l :: RowH ⟨x1, n1, c1⟩ l :: r)) => same_h x1 x2 n1 n2 c1 c2 l W (HdsAt.row (Mem.rowAt [RowH ⟨x2, n2, c2⟩ l] hW)) (HdsAt.row (Mem.rowAt [] hW)) (by have h := Mem.sl_len [RowH ⟨x2, n2, c2⟩ l] hW; have h : n1 = l.length := h; omega)
  have HHL : Hid (H.length ≤ 1000) := Lib.hid (by omega)
  have HQL : Hid (Q.length ≤ 1000) := Lib.hid (by omega)
  clear hlb hIn
  go_enter Try.func28, Try.ntmps28
  go_upto_region 1 with (fail)
  obtain ⟨w5, hw5⟩ : ∃ w5, w5 = w.alloc (.cells #[.int .i64 xo, .string xk, .int .i64 xm, .bool xl] 28) := ⟨_, rfl⟩
  rw [← hw5] at M1 ⊢
  clear hw5
  generalize w.heap.size = b5 at *
  have m0 := M1.out.below (bel_drew w5)
  have K8 : Hid (∀ W l, Mem w0 D0 W l → BlockA b5 #[.int .i64 xo, .string xk, .int .i64 xm, .bool xl] 28 ∈ l → W.cell? ⟨b5, 0, none⟩ = some (.int .i64 xo) ∧ W.cell? ⟨b5, 1, none⟩ = some (.string xk)) := Lib.hid fun W l h h7 => ⟨(cell_of_heap (Mem.blk h h7) rfl).1, (cell_of_heap (Mem.blk h h7) rfl).1⟩
  clear M1
  obtain ⟨z0, z1⟩ := K8.out _ _ m0 (by simp)
  go_region_held3 (fun W => W.cell? ⟨b5, 0, none⟩ = some (.int .i64 xo) ∧ W.cell? ⟨b5, 1, none⟩ = some (.string xk)) (first | exact K8.out _ _ (by assumption) (by simp))
    (first
      | ((go_at_call 16; refine (HCH.out _ _ inferInstance m0).mono ?_; rintro e w9 ⟨s1a, s1n, s1c, rfl, m1⟩; have m2 := Mem.perm m1 (l' := RefA q l :: RowH ⟨s1a, s1n, s1c⟩ H :: TabA p L :: BlockA b5 #[.int .i64 xo, .string xk, .int .i64 xm, .bool xl] 28 :: r) (perm_ct fun x => by simp only [cnt_cons]; omega); clear m0))
      | ((go_at_call 53; refine (HRH.out _ _ inferInstance m2).mono ?_; rintro e w10 ⟨s2a, s2n, s2c, rfl, m3⟩; have m4 := Mem.perm m3 (l' := RowH ⟨s2a, s2n, s2c⟩ H :: RowH ⟨s1a, s1n, s1c⟩ H :: TabA p L :: RefA q l :: BlockA b5 #[.int .i64 xo, .string xk, .int .i64 xm, .bool xl] 28 :: r) (perm_ct fun x => by simp only [cnt_cons]; omega); clear m1 m2 m3))
      | ((go_at_call 21; refine (HSH.out H HHL.out _ s1a s2a s1n s2n s1c s2c _ inferInstance m4).mono ?_; rintro e w11 ⟨rfl, hb⟩; have m5 := cutRef (Mem.below m4 hb); clear hb m4))
      | ((go_at_call 22; refine (HCQ.out _ _ inferInstance m5).mono ?_; rintro e w12 ⟨s3a, s3n, s3c, rfl, m6⟩; have m7 := Mem.perm m6 (l' := RefA q l :: RowH ⟨s3a, s3n, s3c⟩ Q :: TabA p L :: BlockA b5 #[.int .i64 xo, .string xk, .int .i64 xm, .bool xl] 28 :: r) (perm_ct fun x => by simp only [cnt_cons]; omega); clear m5))
      | ((go_at_call 54; refine (HRQ.out _ _ inferInstance m7).mono ?_; rintro e w13 ⟨s4a, s4n, s4c, rfl, m8⟩; have m9 := Mem.perm m8 (l' := RowH ⟨s4a, s4n, s4c⟩ Q :: RowH ⟨s3a, s3n, s3c⟩ Q :: TabA p L :: RefA q l :: BlockA b5 #[.int .i64 xo, .string xk, .int .i64 xm, .bool xl] 28 :: r) (perm_ct fun x => by simp only [cnt_cons]; omega); clear m6 m7 m8))
      | ((go_at_call 21; refine (HSH.out Q HQL.out _ s3a s4a s3n s4n s3c s4c _ inferInstance m9).mono ?_; rintro e w14 ⟨rfl, hb⟩; have m10 := cutRef (Mem.below m9 hb); clear hb m9))
      | ((go_at_call 25; refine (HCB.out _ _ inferInstance m10).mono ?_; rintro e w15 ⟨i1, c1, rfl, m11⟩; have m12 := Mem.perm m11 (l' := RefA q l :: RowI i1 c1 I :: TabA p L :: BlockA b5 #[.int .i64 xo, .string xk, .int .i64 xm, .bool xl] 28 :: r) (perm_ct fun x => by simp only [cnt_cons]; omega); clear m10))
      | ((go_at_call 55; refine (HRB.out _ _ inferInstance m12).mono ?_; rintro e w16 ⟨i2, c2, rfl, m13⟩; have m14 := Mem.perm m13 (l' := RowI i2 c2 I :: RowI i1 c1 I :: TabA p L :: RefA q l :: BlockA b5 #[.int .i64 xo, .string xk, .int .i64 xm, .bool xl] 28 :: r) (perm_ct fun x => by simp only [cnt_cons]; omega); clear m11 m12 m13))
      | ((go_at_call 18; refine (HSI.out _ i1 c1 i2 c2 _ inferInstance m14).mono ?_; rintro e w17 ⟨rfl, hb⟩; have m15 := cutRef (Mem.below m14 hb); clear hb m14))
      | ((go_at_call 15; refine (HCO.out _ _ inferInstance m15).mono ?_; rintro e w18 ⟨rfl, m16⟩; have m17 := Mem.swap [] (r := BlockA b5 #[.int .i64 xo, .string xk, .int .i64 xm, .bool xl] 28 :: r) m16; clear m15))
      | ((go_at_call 52; refine (HRO.out _ _ inferInstance m17).mono ?_; rintro e w19 ⟨rfl, m18⟩; have m19 := Mem.swap [] (r := BlockA b5 #[.int .i64 xo, .string xk, .int .i64 xm, .bool xl] 28 :: r) m18; clear m16 m17 m18))
      | ((go_at_call 14; refine (HCW.out _ _ inferInstance m19).mono ?_; rintro e w20 ⟨rfl, m20⟩; have m21 := Mem.swap [] (r := BlockA b5 #[.int .i64 xo, .string xk, .int .i64 xm, .bool xl] 28 :: r) m20; clear m19))
      | ((go_at_call 52; refine (HRW.out _ _ inferInstance m21).mono ?_; rintro e w21 ⟨rfl, m22⟩; have m23 := Mem.swap [] (r := BlockA b5 #[.int .i64 xo, .string xk, .int .i64 xm, .bool xl] 28 :: r) m22; clear m20 m21 m22))
      | (fail "none"))
  all_goals
    have HF := Lib.hid (Mem.drop [TabA p L, RefA q l] (r := r) m23)
    clear m23 K8 HCH HCQ HCB HCO HCW HRH HRQ HRB HRO HRW HSI HSH
    go_wp2_with fail
    go_ret
    exact ⟨by simp, HF.out⟩
end Go.Proofs.Ytnemgmlhcjhdhaa
