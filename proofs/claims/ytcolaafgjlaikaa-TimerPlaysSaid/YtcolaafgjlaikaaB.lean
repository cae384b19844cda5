/- The search for a timer's place. -/
import Derived.Test.YtcolaafgjlaikaaA
import Derived.StillTailTactics
import Derived.Deep.QuietTactic
import Derived.BigQuiet
import Derived.Deep.RegionHeld3
import Derived.Deep.RegionWith
import Derived.BigRegion
namespace Go.Proofs.Ytcolaafgjlaikaa
open Go.RowKit

def foundAt {α β : Type} (cmpf : α → β → Int) (l : List α) (t : β) (k : Nat) : Bool := decide (k < l.length ∧ ∃ h : k < l.length, cmpf l[k] t = 0)
theorem foundAt_none {α β : Type} (cmpf : α → β → Int) (l : List α) (t : β) (k : Nat) (h : ¬ k < l.length) : foundAt cmpf l t k = false := decide_eq_false fun h' => h h'.1
theorem foundAt_some {α β : Type} (cmpf : α → β → Int) (l : List α) (t : β) (k : Nat) (h : k < l.length) : foundAt cmpf l t k = (cmpf l[k] t == 0) := by
  unfold foundAt
  rw [Bool.eq_iff_iff]
  simp [h]
theorem _root_.Go.RowKit.Below.size' {B : Nat} {o : Obj} {w wr : World} (h : Below B (w.alloc o) wr) : w.heap.size + 1 ≤ wr.drew.heap.size := by have := h.size; simpa using this
theorem flat_keepB {w w' : World} {B : Nat} {g o : Nat} {t : Tm} (hb : Below B w w') (h : CellsOf w g o t) (hB : w.heap.size = B) : CellsOf w' g o t := flat_keep hb h (by omega)

set_option maxRecDepth 100000 in
set_option maxHeartbeats 2000000 in
theorem pt_bsf (cmpf : Tm → Tm → Int) (hcmp : ∀ (x : Tm) (t : Tm) W, Calls Try.prog 33 #[.agg #[.int .i64 x.id, .int .i64 x.due, .int .i64 x.every], .agg #[.int .i64 t.id, .int .i64 t.due, .int .i64 t.every]] W fun e W' => e = .returned (.int .i64 (cmpf x t)) ∧ Below W.heap.size W W')
    (a : Option Addr) (n c : Nat) (l : List Tm) (t : Tm) (k : Nat) (w : World) (hr : Row w 61 3 a n c (flat l)) (hn : n ≤ 1099511627776) (hk : k ≤ l.length)
    (hlo : ∀ j (h : j < l.length), j < k → cmpf l[j] t < 0) (hhi : ∀ j (h : j < l.length), k ≤ j → 0 ≤ cmpf l[j] t) :
    Calls Try.prog 32 #[.slice a n c, .agg #[.int .i64 t.id, .int .i64 t.due, .int .i64 t.every], .func (.func 33) #[] #[]] w fun e w' => e = .returned (.tuple #[.int .i64 k, .bool (foundAt cmpf l t k)]) ∧ Below w.heap.size w w' := by
  have hl : n = l.length := by have := hr.len; rw [flat_len] at this; omega
  subst hl
  have HR := Lib.hid hr
  have HC := Lib.hid fun x => hcmp x t
  have HLo := Lib.hid hlo
  have HHi := Lib.hid hhi
  clear hr hcmp hlo hhi
  have HB0 := Lib.hid (Below.alloc (Below.refl w.heap.size w) (Nat.le_refl _) (.cells #[.int .i64 t.id, .int .i64 t.due, .int .i64 t.every] 61))
  have HT0 := Lib.hid (flat_new w t 61)
  have hfo : Hid (foundAt cmpf l t k = decide (k < l.length ∧ ∃ h : k < l.length, cmpf l[k] t = 0)) := Lib.hid rfl
  have hfn : Hid (¬ k < l.length → foundAt cmpf l t k = false) := Lib.hid fun h => foundAt_none cmpf l t k h
  have hfs : Hid (∀ h : k < l.length, foundAt cmpf l t k = (cmpf l[k] t == 0)) := Lib.hid fun h => foundAt_some cmpf l t k h
  generalize hfd : foundAt cmpf l t k = fd at *
  clear hfd hfo
  obtain ⟨tid, tdue, tevery⟩ := t
  go_enter Try.func32, Try.ntmps32
  go_wp2_with fail
  go_loopw [9, 10, 11] (fun i j _ wr => ∃ x y : Nat, x ≤ k ∧ k ≤ y ∧ y ≤ l.length ∧ i = .int .i64 x ∧ j = .int .i64 y ∧ Hid (Below (w.heap.size + 1) (w.alloc (.cells #[.int .i64 tid, .int .i64 tdue, .int .i64 tevery] 61)) wr)) (fun i j _ _ => ((intOf j) - (intOf i)).toNat)
  case atStart => exact ⟨0, l.length, by omega, hk, Nat.le_refl _, rfl, rfl, Lib.hid (Below.refl _ _)⟩
  case round =>
    obtain ⟨x, y, hx, hy, hyn, rfl, rfl, HB⟩ := hrel
    have HBw := Lib.hid (HB0.out.trans (HB.out.mono (Nat.le_succ _)))
    have htb := flat_keepB HB.out HT0.out (by simp)
    obtain ⟨ht1, ht2, ht3⟩ := htb; simp only at ht1 ht2 ht3
    by_cases hlt : x < y
    · have hm : (((x : Int) + (y : Int)) / 2).toNat = (x + y) / 2 := by omega
      have hml : (x + y) / 2 < l.length := by omega
      obtain ⟨g, rfl, hcs0⟩ := flat_cells HR.out ((x + y) / 2) hml
      have hcs := flat_keep HBw.out hcs0
      clear hcs0
      have hC := HC.out l[(x + y) / 2]
      cases hle : decide (cmpf l[(x + y) / 2] ⟨tid, tdue, tevery⟩ < 0) with
      | true =>
        have hneg : cmpf l[(x + y) / 2] ⟨tid, tdue, tevery⟩ < 0 := of_decide_eq_true hle
        have hin : (x + y) / 2 < k := by
          rcases Nat.lt_or_ge ((x + y) / 2) k with h | h
          · exact h
          · have := HHi.out _ hml h; omega
        generalize cmpf l[(x + y) / 2] ⟨tid, tdue, tevery⟩ = r at *
        generalize l[(x + y) / 2] = z at *
        have HCC := Lib.hid hC
        obtain ⟨id, due, every⟩ := z; obtain ⟨hc1, hc2, hc3⟩ := hcs; simp only at hc1 hc2 hc3
        clear hC hle
        go_wp2_with fail
        have hi1 : (0 : Int) ≤ ((x : Int) + (y : Int)) / 2 := by omega
        have hi2 : ((x : Int) + (y : Int)) / 2 < (l.length : Int) := by omega
        go_still_tail 6, (by kernel_rfl)
        clear hi1 hi2 hm
        go_wp2_with fail
        refine (HCC.out _).mono ?_
        rintro e w2 ⟨rfl, hb2⟩
        have HB2 := Lib.hid (HB.out.trans (Below.trans (Below.drew (Below.refl _ wr)) (hb2.mono HB.out.size')))
        clear hb2
        go_wp2_with fail
        go_roundw
        case rel => exact ⟨(x + y) / 2 + 1, y, by omega, hy, hyn, by congr 1, rfl, HB2⟩
        case measure => simp [intOf]; omega
      | false =>
        have hneg : ¬ cmpf l[(x + y) / 2] ⟨tid, tdue, tevery⟩ < 0 := of_decide_eq_false hle
        have hin : k ≤ (x + y) / 2 := by
          rcases Nat.lt_or_ge ((x + y) / 2) k with h | h
          · have := HLo.out _ hml h; omega
          · exact h
        generalize cmpf l[(x + y) / 2] ⟨tid, tdue, tevery⟩ = r at *
        generalize l[(x + y) / 2] = z at *
        have HCC := Lib.hid hC
        obtain ⟨id, due, every⟩ := z; obtain ⟨hc1, hc2, hc3⟩ := hcs; simp only at hc1 hc2 hc3
        clear hC hle
        go_wp2_with fail
        have hi1 : (0 : Int) ≤ ((x : Int) + (y : Int)) / 2 := by omega
        have hi2 : ((x : Int) + (y : Int)) / 2 < (l.length : Int) := by omega
        go_still_tail 6, (by kernel_rfl)
        clear hi1 hi2 hm
        go_wp2_with fail
        refine (HCC.out _).mono ?_
        rintro e w2 ⟨rfl, hb2⟩
        have HB2 := Lib.hid (HB.out.trans (Below.trans (Below.drew (Below.refl _ wr)) (hb2.mono HB.out.size')))
        clear hb2
        go_wp2_with fail
        go_roundw
        case rel => exact ⟨x, (x + y) / 2, hx, hin, by omega, rfl, by congr 1, HB2⟩
        case measure => simp [intOf]; omega
    · obtain rfl : x = k := by omega
      by_cases hkl : x < l.length
      · obtain ⟨g, rfl, hcs0⟩ := flat_cells HR.out x hkl
        have hF := Lib.hid (hfs.out hkl)
        have HCC := Lib.hid fun W (hW : Below (w.heap.size + 1) (w.alloc (.cells #[.int .i64 tid, .int .i64 tdue, .int .i64 tevery] 61)) W) => ((HC.out l[x] W).mono fun e W' h => (⟨h.1, hW.trans (h.2.mono (by have := hW.size; simpa using this))⟩ : e = .returned (.int .i64 (cmpf l[x] ⟨tid, tdue, tevery⟩)) ∧ Below (w.heap.size + 1) (w.alloc (.cells #[.int .i64 tid, .int .i64 tdue, .int .i64 tevery] 61)) W'))
        have K8 := Lib.hid fun W (hW : Below (w.heap.size + 1) (w.alloc (.cells #[.int .i64 tid, .int .i64 tdue, .int .i64 tevery] 61)) W) => (⟨hW, flat_keep (HB0.out.trans (hW.mono (Nat.le_succ _))) hcs0, flat_keepB hW HT0.out (by simp)⟩ : Below (w.heap.size + 1) (w.alloc (.cells #[.int .i64 tid, .int .i64 tdue, .int .i64 tevery] 61)) W ∧ CellsOf W g (x * 3) l[x] ∧ CellsOf W w.heap.size 0 ⟨tid, tdue, tevery⟩)
        clear hcs0 ht1 ht2 ht3
        generalize cmpf l[x] ⟨tid, tdue, tevery⟩ = r at *
        generalize l[x] = z at *
        obtain ⟨id, due, every⟩ := z
        simp only [CellsOf] at K8
        have hb0 := HB.out.drew
        go_wp2_with fail
        have hd : decide ((x : Int) < (l.length : Int)) = true := decide_eq_true (by omega)
        by_cases hr0 : r = 0
        · subst hr0
          go_region_held3 (fun w' => Below (w.heap.size + 1) (w.alloc (.cells #[.int .i64 tid, .int .i64 tdue, .int .i64 tevery] 61)) w' ∧ (w'.cell? ⟨g, x * 3, none⟩ = some (.int .i64 id) ∧ w'.cell? ⟨g, x * 3 + 1, none⟩ = some (.int .i64 due) ∧ w'.cell? ⟨g, x * 3 + 2, none⟩ = some (.int .i64 every)) ∧ (w'.cell? ⟨w.heap.size, 0, none⟩ = some (.int .i64 tid) ∧ w'.cell? ⟨w.heap.size, 1, none⟩ = some (.int .i64 tdue) ∧ w'.cell? ⟨w.heap.size, 2, none⟩ = some (.int .i64 tevery)))
            (exact K8.out _ (by first | assumption | (go_split_ands; assumption)))
            ((go_at_call 33; refine (HCC.out _ (by first | assumption | (go_split_ands; assumption))).mono ?_; rintro e w2 ⟨rfl, hb2⟩))
          all_goals
            go_wp2_with fail
            go_ret2
            exact ⟨by rw [hF.out]; rfl, HB0.out.trans (Below.mono (by first | assumption | (go_split_ands; assumption)) (Nat.le_succ _))⟩
        · have hr1 : (r == (0:Int)) = false := beq_eq_false_iff_ne.mpr hr0
          go_region_held3 (fun w' => Below (w.heap.size + 1) (w.alloc (.cells #[.int .i64 tid, .int .i64 tdue, .int .i64 tevery] 61)) w' ∧ (w'.cell? ⟨g, x * 3, none⟩ = some (.int .i64 id) ∧ w'.cell? ⟨g, x * 3 + 1, none⟩ = some (.int .i64 due) ∧ w'.cell? ⟨g, x * 3 + 2, none⟩ = some (.int .i64 every)) ∧ (w'.cell? ⟨w.heap.size, 0, none⟩ = some (.int .i64 tid) ∧ w'.cell? ⟨w.heap.size, 1, none⟩ = some (.int .i64 tdue) ∧ w'.cell? ⟨w.heap.size, 2, none⟩ = some (.int .i64 tevery)))
            (exact K8.out _ (by first | assumption | (go_split_ands; assumption)))
            ((go_at_call 33; refine (HCC.out _ (by first | assumption | (go_split_ands; assumption))).mono ?_; rintro e w2 ⟨rfl, hb2⟩))
          all_goals
            go_wp2_with fail
            go_ret2
            exact ⟨by rw [hF.out]; simp [hr0], HB0.out.trans (Below.mono (by first | assumption | (go_split_ands; assumption)) (Nat.le_succ _))⟩
      · have hF := Lib.hid (hfn.out hkl)
        have hd : decide ((x : Int) < (l.length : Int)) = false := decide_eq_false (by omega)
        go_wp2_with fail
        go_quiet (fail)
        go_wp2_with fail
        go_ret2
        exact ⟨by rw [hF.out]; rfl, HBw.out.trans (below_drewN (Below.refl _ _) _)⟩

end Go.Proofs.Ytcolaafgjlaikaa
