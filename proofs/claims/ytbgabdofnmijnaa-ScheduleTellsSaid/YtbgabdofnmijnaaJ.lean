/- Sources walked. -/
import Derived.Test.YtbgabdofnmijnaaI
import Derived.Deep.RegionHeld3
namespace Go.Proofs.Ytbgabdofnmijnaa
open Go.RowKit
def srcsUp (l : List Mk) (k : Nat) : List Sr := ((List.range k).filter fun i => l[i]!.kind == 1).map fun i => ⟨l[i]!.tx, sourceM l i⟩
theorem srcsUp_succ (l : List Mk) (k : Nat) (hk : k < l.length) : srcsUp l (k + 1) = srcsUp l k ++ if l[k].kind == 1 then [⟨l[k].tx, sourceM l k⟩] else [] := by
  unfold srcsUp
  have hg : l[k]! = l[k] := getElem!_pos l k hk
  rw [List.range_succ, List.filter_append, List.map_append, List.filter_cons, hg]
  cases l[k].kind == 1
  · rfl
  · simp only [if_true, List.filter_nil, List.map_cons, List.map_nil, hg]
theorem srcsUp_len (l : List Mk) (k : Nat) : (srcsUp l k).length ≤ k := by
  unfold srcsUp
  rw [List.length_map]
  exact Nat.le_trans (List.length_filter_le _ _) (by simp)
def sourcesM (l : List Mk) : List Sr := if rightM l = 0 then srcsUp l l.length else []
theorem infoSr : (Try.prog.info? 39).map (fun i => (i.zero, i.size, i.bytes)) = some (some (.agg #[.int .i64 0, .int .i64 0]), 2, 16) := by kernel_rfl
abbrev RowS (b : Option Addr) (d : Nat) (S : List Sr) : Asn := RowA 39 2 b S.length d (srFlat S)
set_option maxRecDepth 100000 in
set_option maxHeartbeats 4000000 in
theorem sources_any (a : Option Addr) (n c : Nat) (l : List Mk) (w : World) (hr : MksAt w a n l) (hn : n ≤ 1000) :
    Calls Try.prog 10 #[.slice a n c] w fun e w' => ∃ b d, e = .returned (.slice b (sourcesM l).length d) ∧ Made w (RowS b d (sourcesM l)) w' := by
  have HRT := Lib.hid (right_any a n c l w hr (by omega))
  have HL := Lib.hid hr.1
  have HR := Lib.hid hr
  clear hr
  by_cases h0 : rightM l = 0
  · have HF : Hid (∀ b d w' n', n' = (srcsUp l l.length).length → Made w (RowS b d (srcsUp l l.length)) w' → ∃ b' d', Ending.returned (.slice b n' d) = .returned (.slice b' (sourcesM l).length d') ∧ Made w (RowS b' d' (sourcesM l)) w') := Lib.hid fun b d w' n' hn' h => by
      subst hn'
      unfold sourcesM; rw [if_pos h0]; exact ⟨b, d, rfl, h⟩
    have HP : Hid (∀ k (hk : k < l.length) W, Below w.heap.size w W → Calls Try.prog 36 #[.slice a n c, .int .i64 k] W fun e w' => e = .returned (.int .i64 (sourceM l k)) ∧ Below W.heap.size W w') := Lib.hid fun k hk W hb => source_any a n c l k W (HR.out.below hb) (by omega) (by rw [HL.out]; exact hk)
    rw [h0] at HRT
    clear h0
    go_enter Try.func10, Try.ntmps10
    go_wp2_with fail
    refine HRT.out.mono ?_
    rintro e w1 ⟨rfl, hb⟩
    have M0 := Lib.hid (show Mem w [] w1 [RowS none 0 (srcsUp l 0)] from ((Mem.nil w).below hb).new (Below.refl _ _) (As := [RowS none 0 []]) (all_one ⟨rfl, Row.nil _ _ _⟩) (by simp [blkOf]))
    clear hb HRT
    go_wp2_with fail
    go_loopw [3, 4, 5, 11] (fun v _ _ j wr => ∃ k b d m, k ≤ n ∧ m ≤ k ∧ v = .slice b m d ∧ j = .int .i64 (k : Nat) ∧ Hid (m = (srcsUp l k).length ∧ Mem w [] wr [RowS b d (srcsUp l k)])) (fun _ _ _ j _ => n - (intOf j).toNat)
    case atStart => exact ⟨0, none, 0, 0, Nat.zero_le _, Nat.le_refl _, rfl, rfl, Lib.hid ⟨rfl, M0.out⟩⟩
    case round =>
      obtain ⟨k, b, d, m, hk, hmk, rfl, rfl, HS⟩ := hrel
      clear M0
      have HM := Lib.hid HS.out.1
      have M2 := Lib.hid HS.out.2
      clear HS
      by_cases hlt : k < n
      · have hlt' : k < l.length := by rw [← HL.out]; exact hlt
        obtain ⟨g, off, rfl, hcA, hcB, hcD⟩ := (HR.out.below M2.out.bel).at k hlt'
        have HSRC := Lib.hid fun W (hb : Below w.heap.size w W) => HP.out k hlt' W hb
        have HU := Lib.hid (srcsUp_succ l k hlt')
        have M3 := Lib.hid (M2.out.block #[.int .i64 l[k].kind, .int .i64 l[k].tx, .string l[k].key] 36)
        clear M2
        generalize l[k] = x at *
        obtain ⟨xk, xt, xy⟩ := x
        simp only at hcA hcB hcD M3 HU
        have HFIN : Hid (∀ w9 b9 d9, xk = 1 → Mem w [] w9 [RowA 39 2 b9 (m + 1) d9 (srFlat (srcsUp l k) ++ [.int .i64 xt, .int .i64 (sourceM l k)])] → (m + 1) = (srcsUp l (k + 1)).length ∧ Mem w [] w9 [RowS b9 d9 (srcsUp l (k + 1))]) := Lib.hid fun w9 b9 d9 h1 h => by
          have hU := HU.out
          rw [if_pos (by simp [h1])] at hU
          have hl : (srcsUp l (k + 1)).length = m + 1 := by rw [hU, HM.out]; simp
          refine ⟨hl.symm, ?_⟩
          show Mem w [] w9 [RowA 39 2 b9 (srcsUp l (k + 1)).length d9 (srFlat (srcsUp l (k + 1)))]
          rw [hl, hU, srFlat_append]
          exact h
        rw [show RowS b d (srcsUp l k) = RowA 39 2 b m d (srFlat (srcsUp l k)) by unfold RowS; rw [HM.out]] at M3
        by_cases h1 : xk = 1
        · subst h1
          obtain ⟨k0, k1, k2⟩ := box_cells M3.out
          have HS1 := Lib.hid fun W (hW : Mem w [] W [BlockA wr.heap.size #[.int .i64 1, .int .i64 xt, .string xy] 36, RowA 39 2 b m d (srFlat (srcsUp l k))]) => (HSRC.out W hW.bel).mono fun e W' (h : e = .returned (.int .i64 (sourceM l k)) ∧ Below W.heap.size W W') => (⟨h.1, hW.below h.2⟩ : e = .returned (.int .i64 (sourceM l k)) ∧ Mem w [] W' [BlockA wr.heap.size #[.int .i64 1, .int .i64 xt, .string xy] 36, RowA 39 2 b m d (srFlat (srcsUp l k))])
          clear HSRC HU
          have HFN2 := Lib.hid fun w9 b9 d9 => HFIN.out w9 b9 d9 rfl
          clear HFIN
          generalize sourceM l k = sv at *
          generalize srFlat (srcsUp l k) = SF at *
          go_wp2_with fail
          obtain ⟨w5, hw5⟩ : ∃ w5, w5 = wr.alloc (.cells #[.int .i64 1, .int .i64 xt, .string xy] 36) := ⟨_, rfl⟩
          rw [← hw5] at M3 k0 k1 k2 ⊢
          clear hw5 hcA hcB hcD
          generalize wr.heap.size = b5 at *
          have m0 := M3.out.below (bel_drew w5)
          have K8 : Hid (∀ W A, Stable A → Mem w [] W [BlockA b5 #[.int .i64 1, .int .i64 xt, .string xy] 36, A] → W.cell? ⟨b5, 1, none⟩ = some (.int .i64 xt)) := Lib.hid fun W A sA h => (box_cells h).2.1
          go_region_held3 (fun W => W.cell? ⟨b5, 1, none⟩ = some (.int .i64 xt)) (first | exact K8.out _ _ inferInstance (by assumption) | exact K8.out _ _ inferInstance (Mem.below (by assumption) (bel_drew _)) | exact K8.out _ _ inferInstance (Mem.below (by assumption) (bel_new _ _)))
            (first
              | ((go_at_call 36; refine (HS1.out _ (by assumption)).mono ?_; rintro e w2 ⟨rfl, m1⟩))
              | ((obtain ⟨b4, d4, w4, hrun4, mB⟩ := Mem.app1 (P := Try.prog) (t := 27) (ty := 27) [BlockA b5 #[.int .i64 1, .int .i64 xt, .string xy] 36] (r := []) Try.underlying27 infoSr (by rfl) (by decide) m1 [.int .i64 xt, .int .i64 sv] (by rfl) (by simp [Value.oneCell']) (by omega) (by decide); have HR4 := Lib.hid hrun4; clear hrun4; refine step_appendR rfl (.tmp 19) (.tmp 26) 27 27 rfl (.slice b m d) (.slice (some ⟨w2.heap.size, 0, none⟩) 1 1) (by simp [Act.eval]) (by simp [Act.eval]) HR4.out ?_))
              | (fail "none"))
          all_goals
            have HF2 := Lib.hid (HFN2.out w4 b4 d4 (Mem.drop [] (A := BlockA b5 #[.int .i64 1, .int .i64 xt, .string xy] 36) (r := [RowA 39 2 b4 (m + 1) d4 (SF ++ [.int .i64 xt, .int .i64 sv])]) mB))
            clear m0 M3 K8 mB m1 HFN2 HS1
            go_wp2_with fail
            go_roundw
            case rel => exact ⟨k + 1, b4, d4, m + 1, by omega, by omega, rfl, by go_num, HF2⟩
            case measure => simp [intOf]; omega
        · have h1' : (xk == 1) = false := by simpa using h1
          obtain ⟨k0, k1, k2⟩ := box_cells M3.out
          have HF2 : Hid (m = (srcsUp l (k + 1)).length ∧ Mem w [] (wr.alloc (.cells #[.int .i64 xk, .int .i64 xt, .string xy] 36)) [RowS b d (srcsUp l (k + 1))]) := Lib.hid (by
            have hU := HU.out
            rw [if_neg (by simpa using h1), List.append_nil] at hU
            rw [hU]
            refine ⟨HM.out, ?_⟩
            rw [show RowS b d (srcsUp l k) = RowA 39 2 b m d (srFlat (srcsUp l k)) by unfold RowS; rw [HM.out]]
            exact Mem.drop [] (A := BlockA wr.heap.size #[.int .i64 xk, .int .i64 xt, .string xy] 36) (r := [RowA 39 2 b m d (srFlat (srcsUp l k))]) M3.out)
          clear HFIN HU M3 h1 HSRC
          go_wp2_with fail
          go_roundw
          case rel => exact ⟨k + 1, b, d, m, by omega, by omega, rfl, by go_num, HF2⟩
          case measure => simp [intOf]; omega
      · obtain rfl : k = n := by omega
        have HFN : Hid (m = (srcsUp l l.length).length ∧ Made w (RowS b d (srcsUp l l.length)) wr) := Lib.hid (by
          rw [← HL.out]
          exact ⟨HM.out, M2.out.toMade⟩)
        clear M2 HP HM
        go_wp2_with fail
        go_ret
        exact HF.out _ _ _ _ HFN.out.1 HFN.out.2
  · have hq : (rightM l == 0) = false := by simpa using h0
    have hq2 : (rightM l != 0) = true := by simpa using h0
    have HF : Hid (∀ w', Below w.heap.size w w' → ∃ b d, Ending.returned (.slice none 0 0) = .returned (.slice b (sourcesM l).length d) ∧ Made w (RowS b d (sourcesM l)) w') := Lib.hid fun w' hb => by
      unfold sourcesM; rw [if_neg h0]; exact ⟨none, 0, rfl, [], ⟨rfl, Row.nil _ _ _⟩, by simp, hb⟩
    clear h0
    generalize rightM l = q at *
    go_enter Try.func10, Try.ntmps10
    go_wp2_with fail
    refine HRT.out.mono ?_
    rintro e w1 ⟨rfl, hb⟩
    have HB := Lib.hid (HF.out _ hb)
    clear hb
    go_wp2_with fail
    go_ret
    exact HB.out
end Go.Proofs.Ytbgabdofnmijnaa
