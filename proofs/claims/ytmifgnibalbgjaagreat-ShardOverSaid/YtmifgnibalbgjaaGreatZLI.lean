/- fits, may, upgrades. -/
import Derived.Test.YtmifgnibalbgjaaGreatZLA
import Derived.Deep.RegionHeld3
import Derived.Deep.RegionWith
import Derived.BigRegion
import Derived.Deep.QuietTactic
import Derived.BigQuiet
namespace Go.Proofs.YtmifgnibalbgjaaGreat
open Go.RowKit
theorem posBy_at {α : Type} (q : α → Bool) : ∀ (l : List α) (h : posBy q l < l.length), q l[posBy q l] = false
  | [], h => by cases h
  | x :: r, h => by
    unfold posBy at h
    cases hx : q x with
    | false =>
      have e : posBy q (x :: r) = 0 := by unfold posBy; rw [hx]; rfl
      simp only [e, List.getElem_cons_zero, hx]
    | true =>
      have e : posBy q (x :: r) = posBy q r + 1 := by rw [posBy, if_pos hx]
      rw [if_pos hx] at h
      simp only [e, List.getElem_cons_succ]
      exact posBy_at q r (by simpa using h)
set_option maxRecDepth 100000 in
set_option maxHeartbeats 800000 in
theorem fits_any (a : Option Addr) (n c : Nat) (l : List Hd) (m : Int) (w : World) (h : HdsAt w a n l) (hn : n ≤ maxLen) :
    Calls Tryz.prog 185 #[.slice a n c, .int .i64 m] w fun e w' => e = .returned (.bool (fitsH l m)) ∧ Below w.heap.size w w' := by
  obtain rfl := h.1
  have HR := Lib.hid h
  unfold maxLen at hn
  clear h
  generalize hr : fitsH l m = r
  have HV := Lib.hid hr
  clear hr
  go_enter Tryz.func185, Tryz.ntmps185
  go_wp2_with fail
  go_loopw [9] (fun jv wr => ∃ i : Nat, i ≤ l.length ∧ jv = .int .i64 i ∧ Hid (fitsH (l.drop i) m = r) ∧ Hid (Below w.heap.size w wr)) (fun jv _ => l.length - (intOf jv).toNat)
  case atStart => exact ⟨0, Nat.zero_le _, rfl, HV, Lib.hid (Below.refl _ _)⟩
  case round =>
    obtain ⟨i, hi, rfl, he, HB⟩ := hrel
    by_cases hlt : i < l.length
    · obtain ⟨g, off, rfl, hx⟩ := HR.out.2 i hlt
      obtain ⟨hc0, hc1⟩ := hx.below HB.out
      have he2 := he.out
      rw [List.drop_eq_getElem_cons hlt] at he2
      generalize l[i] = z at *
      obtain ⟨zo, zm⟩ := z
      simp only at hc0 hc1
      unfold fitsH at he2
      simp only at he2
      clear hx he HV
      go_wp2_with fail
      refine (clash_any _ _ _).mono ?_
      rintro e w1 ⟨rfl, rfl⟩
      cases hq : clashM zm m with
      | true =>
        rw [hq] at he2
        simp only [Bool.not_true, Bool.false_and] at he2
        subst he2
        go_wp2_with fail
        go_ret
        exact ⟨rfl, bel_one HB.out _⟩
      | false =>
        rw [hq] at he2
        simp only [Bool.not_false, Bool.true_and] at he2
        have HE := Lib.hid he2
        clear hq he2
        go_wp2_with fail
        go_roundw
        case rel => exact ⟨i + 1, by omega, by go_num, HE, Lib.hid (bel_one HB.out _)⟩
        case measure => simp [intOf]; omega
    · obtain rfl : i = l.length := by omega
      have he2 := he.out
      rw [List.drop_length] at he2
      subst he2
      go_wp2_with fail
      go_ret
      exact ⟨rfl, HB.out⟩
set_option maxRecDepth 100000 in
set_option maxHeartbeats 800000 in
theorem may_any (x : Ln) (hs qs : List Hd) (w : World) (h1 : HdsAt w x.hs.a x.hs.n hs) (h2 : HdsAt w x.qs.a x.qs.n qs) (n1 : x.hs.n ≤ maxLen) (n2 : x.qs.n ≤ maxLen) :
    Calls Tryz.prog 153 #[.agg #[.string x.key, .slice x.hs.a x.hs.n x.hs.c, .slice x.qs.a x.qs.n x.qs.c]] w fun e w' => e = .returned (.bool (mayH hs qs)) ∧ Below w.heap.size w w' := by
  obtain ⟨xk, ⟨ha, hn, hc⟩, ⟨qa, qn, qc⟩⟩ := x
  simp only at h1 h2 n1 n2 ⊢
  match qs, h2 with
  | [], h2 =>
    obtain rfl : qn = 0 := h2.1
    go_enter Tryz.func153, Tryz.ntmps153
    go_wp2_with fail
    go_ret
    exact ⟨rfl, bel_new _ _⟩
  | z :: r, h2 =>
    obtain ⟨g, off, rfl, hx⟩ := h2.2 0 (by simp)
    have hqn : qn = r.length + 1 := h2.1
    have hhn : hn = hs.length := h1.1
    have HOF := Lib.hid fun W (hb : Below w.heap.size w W) => of_any ha hn hc hs z.owner W (h1.below hb) n1
    have HFI := Lib.hid fun W (hb : Below w.heap.size w W) => fits_any ha hn hc hs z.mode W (h1.below hb) n1
    have hmay : mayH hs (z :: r) = if 0 < ofH hs z.owner then hs.length == 1 else fitsH hs z.mode := rfl
    rw [hmay]
    obtain ⟨hc0, hc1⟩ := hx
    simp only [List.getElem_cons_zero] at hc0 hc1
    clear h1 h2 hmay
    generalize fitsH hs z.mode = fv at *
    generalize ofH hs z.owner = ov at *
    obtain ⟨zo, zm⟩ := z
    simp only [Nat.zero_mul, Nat.add_zero] at hc0 hc1 HOF HFI
    unfold maxLen at n1 n2
    have hc2 := fun o => ((bel_new w o).cell (World.block_lt_of_cell? w _ hc0)).trans hc0
    have hc3 := fun o => ((bel_new w o).cell (World.block_lt_of_cell? w _ hc1)).trans hc1
    clear hc0 hc1
    have HX : Hid (∀ W, Below ((w.alloc (.cells #[.string xk, .slice ha hn hc, .slice (some ⟨g, off, none⟩) qn qc] 66)).alloc (.cells #[.int .i64 zo, .int .i64 zm] 32)).heap.size ((w.alloc (.cells #[.string xk, .slice ha hn hc, .slice (some ⟨g, off, none⟩) qn qc] 66)).alloc (.cells #[.int .i64 zo, .int .i64 zm] 32)) W →
        W.cell? ⟨w.heap.size, 1, none⟩ = some (.slice ha hn hc) ∧ W.cell? ⟨w.heap.size + 1, 1, none⟩ = some (.int .i64 zm)) := Lib.hid fun W hb =>
      ⟨(hb.cell (by simp only [World.size_alloc]; omega)).trans (by simp [go_sem, World.cell?_alloc_past]), (hb.cell (by simp only [World.size_alloc]; omega)).trans (by simp [go_sem])⟩
    have hq0 : ((qn : Int) == 0) = false := by simp only [beq_eq_false_iff_ne, ne_eq]; omega
    have hq1 : 0 < qn := by omega
    clear hqn
    cases hd : decide (0 < ov) with
    | true =>
      rw [if_pos (of_decide_eq_true hd), ← hhn]
      clear hhn
      go_enter Tryz.func153, Tryz.ntmps153
      go_wp2_with fail
      go_wp2_with fail
      refine (HOF.out _ (bel_one (bel_new _ _) _)).mono ?_
      rintro e w1 ⟨rfl, hb⟩
      obtain ⟨hx1, hx2⟩ := HX.out _ hb
      have HB := Lib.hid hb
      clear hb
      go_wp2_with fail
      go_ret
      have hnb : ((hn : Int) == 1) = (hn == 1) := by rw [Bool.eq_iff_iff, beq_iff_eq, beq_iff_eq]; omega
      exact ⟨by rw [← hnb]; rfl, (bel_one (bel_new _ _) _).trans (HB.out.mono (by simp only [World.size_alloc]; omega))⟩
    | false =>
      rw [if_neg (of_decide_eq_false hd)]
      clear hhn
      go_enter Tryz.func153, Tryz.ntmps153
      go_wp2_with fail
      refine (HOF.out _ (bel_one (bel_new _ _) _)).mono ?_
      rintro e w1 ⟨rfl, hb⟩
      obtain ⟨hx1, hx2⟩ := HX.out _ hb
      have hb2 := (bel_one (bel_new w (.cells #[.string xk, .slice ha hn hc, .slice (some ⟨g, off, none⟩) qn qc] 66)) (.cells #[.int .i64 zo, .int .i64 zm] 32)).trans (hb.mono (by simp only [World.size_alloc]; omega))
      have HF2 := Lib.hid (HFI.out _ hb2)
      have HB := Lib.hid hb2
      clear hb hb2
      go_wp2_with fail
      refine HF2.out.mono ?_
      rintro e w2 ⟨rfl, hb⟩
      have HB2 := Lib.hid (HB.out.trans (hb.mono HB.out.size))
      clear hb
      go_wp2_with fail
      go_ret
      exact ⟨rfl, HB2.out⟩
set_option maxRecDepth 100000 in
set_option maxHeartbeats 2000000 in
theorem ups_any (x : Ln) (hs qs : List Hd) (w : World) (h1 : HdsAt w x.hs.a x.hs.n hs) (h2 : HdsAt w x.qs.a x.qs.n qs) (n1 : x.hs.n ≤ maxLen) (n2 : x.qs.n ≤ maxLen) :
    Calls Tryz.prog 131 #[.agg #[.string x.key, .slice x.hs.a x.hs.n x.hs.c, .slice x.qs.a x.qs.n x.qs.c]] w fun e w' => e = .returned (.int .i64 (upsH hs qs : Nat)) ∧ Below w.heap.size w w' := by
  obtain ⟨xk, ⟨ha, hn, hc⟩, ⟨qa, qn, qc⟩⟩ := x
  simp only at h1 h2 n1 n2 ⊢
  obtain rfl : qn = qs.length := h2.1
  have HU := Lib.hid fun h => posBy_at (fun z : Hd => decide (0 < ofH hs z.owner)) qs h
  have HL := Lib.hid fun j h hj => posBy_lt (fun z : Hd => decide (0 < ofH hs z.owner)) qs j h hj
  have hle := posBy_le (fun z : Hd => decide (0 < ofH hs z.owner)) qs
  change Hid (∀ h : upsH hs qs < qs.length, decide (0 < ofH hs qs[upsH hs qs].owner) = false) at HU
  change Hid (∀ j (h : j < qs.length), j < upsH hs qs → decide (0 < ofH hs qs[j].owner) = true) at HL
  change upsH hs qs ≤ _ at hle
  generalize upsH hs qs = u at *
  have H1 := Lib.hid h1
  have H2 := Lib.hid h2
  unfold maxLen at n1 n2
  have HN := Lib.hid n1
  clear h1 h2 n1
  go_enter Tryz.func131, Tryz.ntmps131
  go_wp2_with fail
  obtain ⟨w0, hw0⟩ : ∃ w0, w0 = w.alloc (.cells #[.string xk, .slice ha hn hc, .slice qa qs.length qc] 66) := ⟨_, rfl⟩
  have hB0 : Below w.heap.size w w0 := by rw [hw0]; exact bel_new _ _
  have HX : Hid (∀ W, Below w0.heap.size w0 W → W.cell? ⟨w.heap.size, 1, none⟩ = some (.slice ha hn hc) ∧ W.cell? ⟨w.heap.size, 2, none⟩ = some (.slice qa qs.length qc)) := Lib.hid fun W hb => by
    subst hw0
    exact ⟨(hb.cell (by simp only [World.size_alloc]; omega)).trans (by simp [go_sem]), (hb.cell (by simp only [World.size_alloc]; omega)).trans (by simp [go_sem])⟩
  have HB0 := Lib.hid hB0
  rw [← hw0]
  clear hw0 hB0
  go_loopw [3] (fun jv wr => ∃ i : Nat, i ≤ u ∧ jv = .int .i64 i ∧ Hid (Below w0.heap.size w0 wr)) (fun jv _ => u - (intOf jv).toNat)
  case atStart => exact ⟨0, Nat.zero_le _, rfl, Lib.hid (Below.refl _ _)⟩
  case round =>
    obtain ⟨i, hi, rfl, HB⟩ := hrel
    have hx := HX.out wr HB.out
    by_cases hlt : i < qs.length
    · obtain ⟨g, off, rfl, hq⟩ := H2.out.2 i hlt
      have hcell := fun W (hb : Below w0.heap.size w0 W) => (hq.below (HB0.out.trans (hb.mono HB0.out.size))).1
      have HOF := Lib.hid fun W (hb : Below w0.heap.size w0 W) => (of_any ha hn hc hs qs[i].owner W (H1.out.below (HB0.out.trans (hb.mono HB0.out.size))) HN.out).mono fun e w' (h : _ ∧ _) => (⟨h.1, hb.trans (h.2.mono hb.size)⟩ : _ ∧ Below w0.heap.size w0 w')
      have hd : decide (0 < ofH hs qs[i].owner) = decide (i < u) := by
        by_cases h : i < u
        · rw [HL.out i hlt h, decide_eq_true h]
        · obtain rfl : i = u := by omega
          rw [HU.out hlt, decide_eq_false h]
      generalize ofH hs qs[i].owner = ov at *
      generalize qs[i].owner = zo at *
      clear hq
      have K8 : Hid (∀ W, Below w0.heap.size w0 W → Below w0.heap.size w0 W ∧ W.cell? ⟨w.heap.size, 1, none⟩ = some (.slice ha hn hc) ∧ W.cell? ⟨w.heap.size, 2, none⟩ = some (.slice (some ⟨g, off, none⟩) qs.length qc) ∧ W.cell? ⟨g, off + i * 2, none⟩ = some (.int .i64 zo)) :=
        Lib.hid fun W hb => ⟨hb, (HX.out W hb).1, (HX.out W hb).2, hcell W hb⟩
      have hK := K8.out wr HB.out
      clear hcell hx
      have hlt2 : decide ((i : Int) < (qs.length : Int)) = true := decide_eq_true (by omega)
      have hbd := HB.out.drew
      by_cases hu : i < u
      · have hud : decide (i < u) = true := decide_eq_true hu
        rw [hud] at hd
        clear hud
        go_wp2_with fail
        go_region_held3 (fun W => Below w0.heap.size w0 W ∧ W.cell? ⟨w.heap.size, 1, none⟩ = some (.slice ha hn hc) ∧ W.cell? ⟨w.heap.size, 2, none⟩ = some (.slice (some ⟨g, off, none⟩) qs.length qc) ∧ W.cell? ⟨g, off + i * 2, none⟩ = some (.int .i64 zo)) (exact K8.out _ (by first | assumption | (go_split_ands; assumption)))
          ((go_at_call 129; refine (HOF.out _ (by first | assumption | (go_split_ands; assumption))).mono ?_; rintro e w2 ⟨rfl, hb2⟩))
        all_goals
          go_wp2_with fail
          go_roundw
          case rel => exact ⟨i + 1, by omega, by go_num, Lib.hid (by first | assumption | (go_split_ands; assumption))⟩
          case measure => simp [intOf]; omega
      · have hud : decide (i < u) = false := decide_eq_false hu
        rw [hud] at hd
        obtain rfl : i = u := by omega
        clear hud
        go_wp2_with fail
        go_region_held3 (fun W => Below w0.heap.size w0 W ∧ W.cell? ⟨w.heap.size, 1, none⟩ = some (.slice ha hn hc) ∧ W.cell? ⟨w.heap.size, 2, none⟩ = some (.slice (some ⟨g, off, none⟩) qs.length qc) ∧ W.cell? ⟨g, off + i * 2, none⟩ = some (.int .i64 zo)) (exact K8.out _ (by first | assumption | (go_split_ands; assumption)))
          ((go_at_call 129; refine (HOF.out _ (by first | assumption | (go_split_ands; assumption))).mono ?_; rintro e w2 ⟨rfl, hb2⟩))
        all_goals
          go_wp2_with fail
          go_ret
          exact ⟨rfl, HB0.out.trans (Below.mono (by first | assumption | (go_split_ands; assumption)) HB0.out.size)⟩
    · obtain rfl : i = qs.length := by omega
      obtain rfl : u = qs.length := by omega
      have hlt2 : decide ((qs.length : Int) < (qs.length : Int)) = false := decide_eq_false (by omega)
      obtain ⟨hx1, hx2⟩ := hx
      have hbd := HB.out.drew
      go_wp2_with fail
      go_quiet (fail)
      go_wp2_with fail
      go_ret
      exact ⟨rfl, HB0.out.trans ((HB.out.trans ((bel_drewN _ _).mono HB.out.size)).mono HB0.out.size)⟩
end Go.Proofs.YtmifgnibalbgjaaGreat
