/- The document's driver: what is left to be told; the end of an attempt. -/
import Derived.Test.YtmifgnibalbgjaaDoorBD
namespace Go.Proofs.YtmifgnibalbgjaaDoor
open Go.RowKit
section
variable {w0 w : World} {g : Nat} {r : Rd} {q : List Asn} [Stables q] {sa pa : Option Addr} {sn sc pn pc : Nat} {ss : List ByteArray} {l : List Opp}
set_option maxRecDepth 100000 in
set_option maxHeartbeats 16000000 in
theorem rrest_any (M : Mem w0 [] w (RefA g (.slice sa sn sc) (.slice pa pn pc) r :: q)) (hs : StrsAt w0 sa sn ss) (hl : OpsAt w0 pa pn l) (h7 : sn ≤ 7) (hn : pn ≤ 1000) (ha : -1 ≤ r.attempt ∧ r.attempt ≤ 1048576) :
    Calls Tryd.prog 39 #[.pointer (some ⟨g, 0, none⟩)] w fun e w' => e = .returned (.tuple #[]) ∧ Mem w0 [] w' (RefA g (.slice sa sn sc) (.slice pa pn pc) (restR ss l r) :: q) := by
  have HT : Hid (∀ W, Below w.heap.size w W → Calls Tryd.prog 34 #[.pointer (some ⟨g, 0, none⟩)] W fun e w' => ∃ b c, e = .returned (.slice b (touchR ss l r.i).length c) ∧ Below w.heap.size w w') := Lib.hid fun W hb => (rtouched_any (M.below hb) hs hl h7 hn).mono fun e w' ⟨v, he, b, c, hv, _, hb', _⟩ => ⟨b, c, by rw [he, hv], hb.trans (hb'.mono hb.size)⟩
  have HM := Lib.hid M
  have KS : Hid (∀ W, Below w.heap.size w W → Below w.heap.size w W ∧ W.cell? ⟨g, 12, none⟩ = some (.int .i64 r.told)) := Lib.hid fun W hb => by
    obtain ⟨ra, rc, hg⟩ := Mem.refAt (M.below hb)
    exact ⟨hb, (rdC_cell hg 12 (.int .i64 r.told) rfl).1⟩
  have HCL : Hid (∀ W, Below w.heap.size w W → ∃ ra rc, W.heap[g]? = some (.cells (rdC r (.slice sa sn sc) (.slice pa pn pc) ra rc) 55 (0, 0))) := Lib.hid fun W hb => Mem.refAt (M.below hb)
  have HE := Lib.hid (show restR ss l r = _ from by unfold restR; rfl)
  clear hs hl M
  generalize (touchR ss l r.i).length = tn at *
  obtain ⟨tx, stamp, tries, attempt, asks, i, write, res, fin, told, quit⟩ := r
  obtain ⟨wv, wh⟩ := write
  simp only at HE KS ha
  by_cases h1 : told < tn
  · have b1 : decide (told < (tn : Int)) = true := decide_eq_true h1
    rw [if_pos h1] at HE
    clear h1 ha
    have m0 := below_drew (Below.refl w.heap.size w)
    have hq0 := KS.out w (Below.refl _ _)
    go_enter Tryd.func39, Tryd.ntmps39
    go_wp2_with fail
    go_region_held3 (fun W => Below w.heap.size w W ∧ W.cell? ⟨g, 12, none⟩ = some (.int .i64 told)) (first | assumption | exact KS.out _ (by first | assumption | (go_split_ands; assumption)))
      (first
        | ((go_at_call 34; refine (HT.out _ (by first | assumption | (go_split_ands; assumption))).mono ?_; rintro e w5 ⟨b5, d5, rfl, m5⟩))
        | (fail "none"))
    all_goals
      go_wp2_with fail
      refine bodyPost_ret (v := .tuple #[]) (by simp [results, Tryd.results39, go_sem]) rfl ⟨rfl, ?_⟩
      rw [HE.out]
      exact HM.out.below m5
  · have b1 : decide (told < (tn : Int)) = false := decide_eq_false h1
    rw [if_neg h1] at HE
    clear h1
    have m0 := below_drew (Below.refl w.heap.size w)
    have hq0 := KS.out w (Below.refl _ _)
    by_cases h2 : fin = 2
    · subst h2
      rw [if_pos rfl] at HE
      go_enter Tryd.func39, Tryd.ntmps39
      go_wp2_with fail
      go_region_held3 (fun W => Below w.heap.size w W ∧ W.cell? ⟨g, 12, none⟩ = some (.int .i64 told)) (first | assumption | exact KS.out _ (by first | assumption | (go_split_ands; assumption)))
        (first
          | ((go_at_call 34; refine (HT.out _ (by first | assumption | (go_split_ands; assumption))).mono ?_; rintro e w5 ⟨b5, d5, rfl, m5⟩))
          | (fail "none"))
      all_goals
        have M5 := Lib.hid (HM.out.below m5)
        obtain ⟨ra, rc, hg⟩ := HCL.out _ m5
        obtain ⟨c11, -⟩ := rdC_cell hg 11 (.int .i64 2) rfl
        obtain ⟨c6, cf6⟩ := rdC_cell hg 6 (.int .i64 asks) rfl
        clear hg HT KS HCL HM m5 m0 hq0 ha
        go_wp2_with fail
        refine bodyPost_ret (v := .tuple #[]) (by simp [results, Tryd.results39, go_sem]) rfl ⟨rfl, ?_⟩
        rw [HE.out]
        exact Mem.rAsk M5.out 0
    · have b2 : (fin == 2) = false := by simpa using h2
      rw [if_neg h2] at HE
      cases quit with
      | true =>
        rw [if_pos (.inl rfl)] at HE
        go_enter Tryd.func39, Tryd.ntmps39
        go_wp2_with fail
        go_region_held3 (fun W => Below w.heap.size w W ∧ W.cell? ⟨g, 12, none⟩ = some (.int .i64 told)) (first | assumption | exact KS.out _ (by first | assumption | (go_split_ands; assumption)))
          (first
            | ((go_at_call 34; refine (HT.out _ (by first | assumption | (go_split_ands; assumption))).mono ?_; rintro e w5 ⟨b5, d5, rfl, m5⟩))
            | (fail "none"))
        all_goals
          have M5 := Lib.hid (HM.out.below m5)
          obtain ⟨ra, rc, hg⟩ := HCL.out _ m5
          obtain ⟨c11, -⟩ := rdC_cell hg 11 (.int .i64 fin) rfl
          obtain ⟨c6, cf6⟩ := rdC_cell hg 6 (.int .i64 asks) rfl
          obtain ⟨c10, cf10⟩ := rdC_cell hg 10 (.slice ra res.length rc) rfl
          obtain ⟨c13, -⟩ := rdC_cell hg 13 (.bool true) rfl
          clear hg HT KS HCL HM m5 m0 hq0 ha h2
          go_wp2_with fail
          go_quiet (fail)
          go_wp2_with fail
          refine bodyPost_ret (v := .tuple #[]) (by simp [results, Tryd.results39, go_sem]) rfl ⟨rfl, ?_⟩
          rw [HE.out]
          exact Mem.rAsk ((Mem.rNil M5.out).below (bel_drewN _ _)) 0
      | false =>
        have hw := IntWalk.i64_in (attempt + 1) (by omega)
        by_cases h3 : tries ≤ attempt + 1
        · have b3 : decide (tries ≤ attempt + 1) = true := decide_eq_true h3
          rw [if_pos (.inr h3)] at HE
          go_enter Tryd.func39, Tryd.ntmps39
          go_wp2_with fail
          go_region_held3 (fun W => Below w.heap.size w W ∧ W.cell? ⟨g, 12, none⟩ = some (.int .i64 told)) (first | assumption | exact KS.out _ (by first | assumption | (go_split_ands; assumption)))
            (first
              | ((go_at_call 34; refine (HT.out _ (by first | assumption | (go_split_ands; assumption))).mono ?_; rintro e w5 ⟨b5, d5, rfl, m5⟩))
              | (fail "none"))
          all_goals
            have M5 := Lib.hid (HM.out.below m5)
            obtain ⟨ra, rc, hg⟩ := HCL.out _ m5
            obtain ⟨c11, -⟩ := rdC_cell hg 11 (.int .i64 fin) rfl
            obtain ⟨c6, cf6⟩ := rdC_cell hg 6 (.int .i64 asks) rfl
            obtain ⟨c10, cf10⟩ := rdC_cell hg 10 (.slice ra res.length rc) rfl
            obtain ⟨c13, -⟩ := rdC_cell hg 13 (.bool false) rfl
            obtain ⟨c5, -⟩ := rdC_cell hg 5 (.int .i64 attempt) rfl
            obtain ⟨c2, -⟩ := rdC_cell hg 2 (.int .i64 tries) rfl
            clear hg HT KS HCL HM m5 m0 hq0 ha h2 h3
            go_wp2_with fail
            go_quiet (fail)
            go_wp2_with fail
            refine bodyPost_ret (v := .tuple #[]) (by simp [results, Tryd.results39, go_sem]) rfl ⟨rfl, ?_⟩
            rw [HE.out]
            exact Mem.rAsk ((Mem.rNil M5.out).below (bel_drewN _ _)) 0
        · have b3 : decide (tries ≤ attempt + 1) = false := decide_eq_false h3
          rw [if_neg (by simp [h3])] at HE
          go_enter Tryd.func39, Tryd.ntmps39
          go_wp2_with fail
          go_region_held3 (fun W => Below w.heap.size w W ∧ W.cell? ⟨g, 12, none⟩ = some (.int .i64 told)) (first | assumption | exact KS.out _ (by first | assumption | (go_split_ands; assumption)))
            (first
              | ((go_at_call 34; refine (HT.out _ (by first | assumption | (go_split_ands; assumption))).mono ?_; rintro e w5 ⟨b5, d5, rfl, m5⟩))
              | (fail "none"))
          all_goals
            have M5 := Lib.hid (HM.out.below m5)
            obtain ⟨ra, rc, hg⟩ := HCL.out _ m5
            obtain ⟨c11, cf11⟩ := rdC_cell hg 11 (.int .i64 fin) rfl
            obtain ⟨c6, cf6⟩ := rdC_cell hg 6 (.int .i64 asks) rfl
            obtain ⟨c7, cf7⟩ := rdC_cell hg 7 (.int .i64 i) rfl
            obtain ⟨c10, cf10⟩ := rdC_cell hg 10 (.slice ra res.length rc) rfl
            obtain ⟨c13, -⟩ := rdC_cell hg 13 (.bool false) rfl
            obtain ⟨c5, cf5⟩ := rdC_cell hg 5 (.int .i64 attempt) rfl
            obtain ⟨c2, -⟩ := rdC_cell hg 2 (.int .i64 tries) rfl
            clear hg HT KS HCL HM m5 m0 hq0 ha h2 h3
            go_wp2_with fail
            go_quiet (fail)
            go_wp2_with fail
            go_end0
            refine ⟨rfl, ?_⟩
            rw [HE.out]
            exact Mem.rFin (Mem.rI (Mem.rAsk (Mem.rAtt ((Mem.rNil M5.out).below (bel_drewN _ _)) (attempt + 1)) 1) (-1)) 0
set_option maxRecDepth 100000 in
set_option maxHeartbeats 4000000 in
theorem rend_any (s : Int) (M : Mem w0 [] w (RefA g (.slice sa sn sc) (.slice pa pn pc) r :: q)) (hs : StrsAt w0 sa sn ss) (hl : OpsAt w0 pa pn l) (h7 : sn ≤ 7) (hn : pn ≤ 1000) (ha : -1 ≤ r.attempt ∧ r.attempt ≤ 1048576) :
    Calls Tryd.prog 36 #[.pointer (some ⟨g, 0, none⟩), .int .i64 s] w fun e w' => e = .returned (.tuple #[]) ∧ Mem w0 [] w' (RefA g (.slice sa sn sc) (.slice pa pn pc) (endR ss l r s) :: q) := by
  obtain ⟨ra, rc, hg⟩ := Mem.refAt M
  obtain ⟨c11, cf11⟩ := rdC_cell hg 11 (.int .i64 r.fin) rfl
  obtain ⟨c12, cf12⟩ := rdC_cell hg 12 (.int .i64 r.told) rfl
  obtain ⟨c6, cf6⟩ := rdC_cell hg 6 (.int .i64 r.asks) rfl
  have H1 := Lib.hid (rrest_any (r := { r with fin := s, told := 0, asks := 7 }) (Mem.rAsk (Mem.rTold (Mem.rFin M s) 0) 7) hs hl h7 hn ha)
  have HE : Hid (endR ss l r s = restR ss l { r with fin := s, told := 0, asks := 7 }) := Lib.hid rfl
  generalize restR ss l { r with fin := s, told := 0, asks := 7 } = r2 at *
  rw [HE.out]
  clear hg M hs hl ha HE
  generalize r.fin = a at *
  generalize r.told = b at *
  generalize r.asks = c at *
  go_enter Tryd.func36, Tryd.ntmps36
  go_wp2_with fail
  refine H1.out.mono ?_
  rintro e w1 ⟨rfl, hm⟩
  have HF := Lib.hid hm
  clear hm H1
  go_wp2_with fail
  go_end0
  exact ⟨rfl, HF.out⟩
end
end Go.Proofs.YtmifgnibalbgjaaDoor
