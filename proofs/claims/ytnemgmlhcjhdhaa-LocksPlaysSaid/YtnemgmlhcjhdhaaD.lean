/- The search for a hold, and for a line. -/
import Derived.Test.YtnemgmlhcjhdhaaA
import Derived.StillTailTactics
import Derived.Deep.QuietTactic
import Derived.BigQuiet
import Derived.Deep.RegionHeld3
import Derived.Deep.RegionWith
import Derived.BigRegion
namespace Go.Proofs.Ytnemgmlhcjhdhaa
open Go.RowKit
def foundAt {α β : Type} (cmpf : α → β → Int) (l : List α) (t : β) (k : Nat) : Bool := decide (k < l.length ∧ ∃ h : k < l.length, cmpf l[k] t = 0)
theorem foundAt_none {α β : Type} (cmpf : α → β → Int) (l : List α) (t : β) (k : Nat) (h : ¬ k < l.length) : foundAt cmpf l t k = false := decide_eq_false fun h' => h h'.1
theorem foundAt_some {α β : Type} (cmpf : α → β → Int) (l : List α) (t : β) (k : Nat) (h : k < l.length) : foundAt cmpf l t k = (cmpf l[k] t == 0) := by
  unfold foundAt
  rw [Bool.eq_iff_iff]
  simp [h]

set_option maxRecDepth 100000 in
set_option maxHeartbeats 2000000 in
theorem put_bsf (cmpf : Hd → Int → Int) (hcmp : ∀ (x : Hd) (t : Int) W, Calls Try.prog 78 #[.agg #[.int .i64 x.owner, .int .i64 x.mode], .int .i64 t] W fun e W' => e = .returned (.int .i64 (cmpf x t)) ∧ Below W.heap.size W W')
    (a : Option Addr) (n c : Nat) (l : List Hd) (t : Int) (k : Nat) (w : World) (hr : Row w 36 2 a n c (hdFlat l)) (hn : n ≤ 1099511627776) (hk : k ≤ l.length)
    (hlo : ∀ j (h : j < l.length), j < k → cmpf l[j] t < 0) (hhi : ∀ j (h : j < l.length), k ≤ j → 0 ≤ cmpf l[j] t) :
    Calls Try.prog 77 #[.slice a n c, .int .i64 t, .func (.func 78) #[] #[]] w fun e w' => e = .returned (.tuple #[.int .i64 k, .bool (foundAt cmpf l t k)]) ∧ Below w.heap.size w w' := by
  have hl : n = l.length := by have := hr.len; rw [hdFlat_len] at this; omega
  subst hl
  have HR := Lib.hid hr
  have HC := Lib.hid fun x => hcmp x t
  have HLo := Lib.hid hlo
  have HHi := Lib.hid hhi
  clear hr hcmp hlo hhi
  have hfo : Hid (foundAt cmpf l t k = decide (k < l.length ∧ ∃ h : k < l.length, cmpf l[k] t = 0)) := Lib.hid rfl
  have hfn : Hid (¬ k < l.length → foundAt cmpf l t k = false) := Lib.hid fun h => foundAt_none cmpf l t k h
  have hfs : Hid (∀ h : k < l.length, foundAt cmpf l t k = (cmpf l[k] t == 0)) := Lib.hid fun h => foundAt_some cmpf l t k h
  generalize hfd : foundAt cmpf l t k = fd at *
  clear hfd hfo
  go_enter Try.func77, Try.ntmps77
  go_wp2_with fail
  go_loopw [9, 10, 11] (fun i j _ wr => ∃ x y : Nat, x ≤ k ∧ k ≤ y ∧ y ≤ l.length ∧ i = .int .i64 x ∧ j = .int .i64 y ∧ Hid (Below w.heap.size w wr)) (fun i j _ _ => ((intOf j) - (intOf i)).toNat)
  case atStart => exact ⟨0, l.length, by omega, hk, Nat.le_refl _, rfl, rfl, Lib.hid (Below.refl _ _)⟩
  case round =>
    obtain ⟨x, y, hx, hy, hyn, rfl, rfl, HB⟩ := hrel
    by_cases hlt : x < y
    · have hm : (((x : Int) + (y : Int)) / 2).toNat = (x + y) / 2 := by omega
      have hml : (x + y) / 2 < l.length := by omega
      obtain ⟨g, rfl, hcs0⟩ := hdAt_row HR.out ((x + y) / 2) hml
      have hcs := hcs0.below HB.out
      clear hcs0
      have hC := HC.out l[(x + y) / 2]
      cases hle : decide (cmpf l[(x + y) / 2] t < 0) with
      | true =>
        have hneg : cmpf l[(x + y) / 2] t < 0 := of_decide_eq_true hle
        have hin : (x + y) / 2 < k := by
          rcases Nat.lt_or_ge ((x + y) / 2) k with h | h
          · exact h
          · have := HHi.out _ hml h; omega
        generalize cmpf l[(x + y) / 2] t = r at *
        generalize l[(x + y) / 2] = z at *
        have HCC := Lib.hid hC
        obtain ⟨zowner, zmode⟩ := z
        obtain ⟨hc0, hc1⟩ := hcs
        simp only at hc0 hc1
        clear hC hle
        go_wp2_with fail
        refine (HCC.out _).mono ?_
        rintro e w2 ⟨rfl, hb2⟩
        have HB2 := Lib.hid (HB.out.trans (hb2.mono HB.out.size))
        clear hb2
        go_wp2_with fail
        go_roundw
        case rel => exact ⟨(x + y) / 2 + 1, y, by omega, hy, hyn, by congr 1, rfl, HB2⟩
        case measure => simp [intOf]; omega
      | false =>
        have hneg : ¬ cmpf l[(x + y) / 2] t < 0 := of_decide_eq_false hle
        have hin : k ≤ (x + y) / 2 := by
          rcases Nat.lt_or_ge ((x + y) / 2) k with h | h
          · have := HLo.out _ hml h; omega
          · exact h
        generalize cmpf l[(x + y) / 2] t = r at *
        generalize l[(x + y) / 2] = z at *
        have HCC := Lib.hid hC
        obtain ⟨zowner, zmode⟩ := z
        obtain ⟨hc0, hc1⟩ := hcs
        simp only at hc0 hc1
        clear hC hle
        go_wp2_with fail
        refine (HCC.out _).mono ?_
        rintro e w2 ⟨rfl, hb2⟩
        have HB2 := Lib.hid (HB.out.trans (hb2.mono HB.out.size))
        clear hb2
        go_wp2_with fail
        go_roundw
        case rel => exact ⟨x, (x + y) / 2, hx, hin, by omega, rfl, by congr 1, HB2⟩
        case measure => simp [intOf]; omega
    · obtain rfl : x = k := by omega
      by_cases hkl : x < l.length
      · obtain ⟨g, rfl, hcs0⟩ := hdAt_row HR.out x hkl
        have hF := Lib.hid (hfs.out hkl)
        have hcs := hcs0.below HB.out
        have hC := HC.out l[x]
        clear hcs0
        generalize cmpf l[x] t = r at *
        generalize l[x] = z at *
        have HCC := Lib.hid hC
        obtain ⟨zowner, zmode⟩ := z
        obtain ⟨hc0, hc1⟩ := hcs
        simp only at hc0 hc1
        clear hC
        have hd : decide ((x : Int) < (l.length : Int)) = true := decide_eq_true (by omega)
        go_wp2_with fail
        refine (HCC.out _).mono ?_
        rintro e w2 ⟨rfl, hb2⟩
        have HB2 := Lib.hid (HB.out.trans (hb2.mono HB.out.size))
        clear hb2
        go_wp2_with fail
        go_ret2
        exact ⟨by rw [hF.out]; first | rfl | simp, HB2.out⟩
      · have hF := Lib.hid (hfn.out hkl)
        have hd : decide ((x : Int) < (l.length : Int)) = false := decide_eq_false (by omega)
        go_wp2_with fail
        go_ret2
        exact ⟨by rw [hF.out]; rfl, HB.out⟩


set_option maxRecDepth 100000 in
set_option maxHeartbeats 2000000 in
theorem line_bsf (cmpf : Ln → ByteArray → Int) (hcmp : ∀ (x : Ln) (t : ByteArray) W, Calls Try.prog 66 #[.agg #[.string x.key, .slice x.hs.a x.hs.n x.hs.c, .slice x.qs.a x.qs.n x.qs.c], .string t] W fun e W' => e = .returned (.int .i64 (cmpf x t)) ∧ Below W.heap.size W W')
    (a : Option Addr) (n c : Nat) (l : List Ln) (t : ByteArray) (k : Nat) (w : World) (hr : Row w 34 3 a n c (lnFlat l)) (hn : n ≤ 1099511627776) (hk : k ≤ l.length)
    (hlo : ∀ j (h : j < l.length), j < k → cmpf l[j] t < 0) (hhi : ∀ j (h : j < l.length), k ≤ j → 0 ≤ cmpf l[j] t) :
    Calls Try.prog 65 #[.slice a n c, .string t, .func (.func 66) #[] #[]] w fun e w' => e = .returned (.tuple #[.int .i64 k, .bool (foundAt cmpf l t k)]) ∧ Below w.heap.size w w' := by
  have hl : n = l.length := by have := hr.len; rw [lnFlat_len] at this; omega
  subst hl
  have HR := Lib.hid hr
  have HC := Lib.hid fun x => hcmp x t
  have HLo := Lib.hid hlo
  have HHi := Lib.hid hhi
  clear hr hcmp hlo hhi
  have hfo : Hid (foundAt cmpf l t k = decide (k < l.length ∧ ∃ h : k < l.length, cmpf l[k] t = 0)) := Lib.hid rfl
  have hfn : Hid (¬ k < l.length → foundAt cmpf l t k = false) := Lib.hid fun h => foundAt_none cmpf l t k h
  have hfs : Hid (∀ h : k < l.length, foundAt cmpf l t k = (cmpf l[k] t == 0)) := Lib.hid fun h => foundAt_some cmpf l t k h
  generalize hfd : foundAt cmpf l t k = fd at *
  clear hfd hfo
  go_enter Try.func65, Try.ntmps65
  go_wp2_with fail
  go_loopw [9, 10, 11] (fun i j _ wr => ∃ x y : Nat, x ≤ k ∧ k ≤ y ∧ y ≤ l.length ∧ i = .int .i64 x ∧ j = .int .i64 y ∧ Hid (Below w.heap.size w wr)) (fun i j _ _ => ((intOf j) - (intOf i)).toNat)
  case atStart => exact ⟨0, l.length, by omega, hk, Nat.le_refl _, rfl, rfl, Lib.hid (Below.refl _ _)⟩
  case round =>
    obtain ⟨x, y, hx, hy, hyn, rfl, rfl, HB⟩ := hrel
    by_cases hlt : x < y
    · have hm : (((x : Int) + (y : Int)) / 2).toNat = (x + y) / 2 := by omega
      have hml : (x + y) / 2 < l.length := by omega
      obtain ⟨g, rfl, hcs0⟩ := lnAt_row HR.out ((x + y) / 2) hml
      have hcs := hcs0.below HB.out
      clear hcs0
      have hC := HC.out l[(x + y) / 2]
      cases hle : decide (cmpf l[(x + y) / 2] t < 0) with
      | true =>
        have hneg : cmpf l[(x + y) / 2] t < 0 := of_decide_eq_true hle
        have hin : (x + y) / 2 < k := by
          rcases Nat.lt_or_ge ((x + y) / 2) k with h | h
          · exact h
          · have := HHi.out _ hml h; omega
        generalize cmpf l[(x + y) / 2] t = r at *
        generalize l[(x + y) / 2] = z at *
        have HCC := Lib.hid hC
        obtain ⟨zkey, zhs, zqs⟩ := z
        obtain ⟨hc0, hc1, hc2⟩ := hcs
        simp only at hc0 hc1 hc2
        clear hC hle
        go_wp2_with fail
        refine (HCC.out _).mono ?_
        rintro e w2 ⟨rfl, hb2⟩
        have HB2 := Lib.hid (HB.out.trans (hb2.mono HB.out.size))
        clear hb2
        go_wp2_with fail
        go_roundw
        case rel => exact ⟨(x + y) / 2 + 1, y, by omega, hy, hyn, by congr 1, rfl, HB2⟩
        case measure => simp [intOf]; omega
      | false =>
        have hneg : ¬ cmpf l[(x + y) / 2] t < 0 := of_decide_eq_false hle
        have hin : k ≤ (x + y) / 2 := by
          rcases Nat.lt_or_ge ((x + y) / 2) k with h | h
          · have := HLo.out _ hml h; omega
          · exact h
        generalize cmpf l[(x + y) / 2] t = r at *
        generalize l[(x + y) / 2] = z at *
        have HCC := Lib.hid hC
        obtain ⟨zkey, zhs, zqs⟩ := z
        obtain ⟨hc0, hc1, hc2⟩ := hcs
        simp only at hc0 hc1 hc2
        clear hC hle
        go_wp2_with fail
        refine (HCC.out _).mono ?_
        rintro e w2 ⟨rfl, hb2⟩
        have HB2 := Lib.hid (HB.out.trans (hb2.mono HB.out.size))
        clear hb2
        go_wp2_with fail
        go_roundw
        case rel => exact ⟨x, (x + y) / 2, hx, hin, by omega, rfl, by congr 1, HB2⟩
        case measure => simp [intOf]; omega
    · obtain rfl : x = k := by omega
      by_cases hkl : x < l.length
      · obtain ⟨g, rfl, hcs0⟩ := lnAt_row HR.out x hkl
        have hF := Lib.hid (hfs.out hkl)
        have hcs := hcs0.below HB.out
        have hC := HC.out l[x]
        clear hcs0
        generalize cmpf l[x] t = r at *
        generalize l[x] = z at *
        have HCC := Lib.hid hC
        obtain ⟨zkey, zhs, zqs⟩ := z
        obtain ⟨hc0, hc1, hc2⟩ := hcs
        simp only at hc0 hc1 hc2
        clear hC
        have hd : decide ((x : Int) < (l.length : Int)) = true := decide_eq_true (by omega)
        go_wp2_with fail
        refine (HCC.out _).mono ?_
        rintro e w2 ⟨rfl, hb2⟩
        have HB2 := Lib.hid (HB.out.trans (hb2.mono HB.out.size))
        clear hb2
        go_wp2_with fail
        go_ret2
        exact ⟨by rw [hF.out]; first | rfl | simp, HB2.out⟩
      · have hF := Lib.hid (hfn.out hkl)
        have hd : decide ((x : Int) < (l.length : Int)) = false := decide_eq_false (by omega)
        go_wp2_with fail
        go_ret2
        exact ⟨by rw [hF.out]; rfl, HB.out⟩

end Go.Proofs.Ytnemgmlhcjhdhaa
