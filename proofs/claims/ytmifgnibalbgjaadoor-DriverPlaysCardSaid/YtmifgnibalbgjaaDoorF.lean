/- Whether a plan may be: the program's, and the document's. -/
import Derived.Test.YtmifgnibalbgjaaDoorD
namespace Go.Proofs.YtmifgnibalbgjaaDoor
open Go.RowKit
theorem opB_key {k n : Int} {y v : ByteArray} (h6 : k ≠ 6) (h : keyB y = false) : opB ⟨k, y, v, n⟩ = false := by
  unfold opB; simp only; rw [if_neg h6, h]; simp
theorem opB_2 (y v : ByteArray) (n : Int) : opB ⟨2, y, v, n⟩ = (!decide (32 < (v.size : Int)) && keyB y) := rfl
theorem opB_5 (y v : ByteArray) (n : Int) : opB ⟨5, y, v, n⟩ = (!(decide (n < -1125899906842624) || decide (1125899906842624 < n)) && keyB y) := rfl
theorem isEmpty_size {s : ByteArray} (h : s.toList.isEmpty = true) : s.size = 0 := by
  have e : s.toList.length = s.size := by rw [ByteArray.toList_eq]; exact Array.length_toList
  rw [List.isEmpty_iff] at h
  rw [h] at e
  simpa using e.symm
theorem isEmpty_size_ne {s : ByteArray} (h : s.toList.isEmpty = false) : s.size ≠ 0 := fun h0 => by
  have e : s.toList.length = s.size := by rw [ByteArray.toList_eq]; exact Array.length_toList
  rw [h0] at e
  have : s.toList = [] := List.eq_nil_of_length_eq_zero e
  rw [this] at h
  cases h
def planErr (l : List Opp) : Int := if 16 < l.length then 4 else if l.all opB then 0 else 1
theorem planErr_bad {l : List Opp} {k : Nat} (h16 : ¬ 16 < l.length) (hk : k < l.length) (h : opB l[k] = false) : planErr l = 1 := by
  unfold planErr
  rw [if_neg h16, if_neg]
  intro hall
  rw [List.all_eq_true] at hall
  have := hall _ (List.getElem_mem hk)
  rw [h] at this
  cases this
theorem planErr_ok {l : List Opp} (h16 : ¬ 16 < l.length) (h : ∀ k (hk : k < l.length), opB l[k] = true) : planErr l = 0 := by
  unfold planErr
  rw [if_neg h16, if_pos]
  rw [List.all_eq_true]
  intro x hx
  obtain ⟨k, hk, rfl⟩ := List.getElem_of_mem hx
  exact h k hk
theorem OpsAt.at {w : World} {a : Option Addr} {n : Nat} {l : List Opp} (h : OpsAt w a n l) (j : Nat) (hj : j < l.length) : ∃ b off, a = some ⟨b, off, none⟩ ∧ (w.cell? ⟨b, off + j * 4, none⟩ = some (.int .i64 l[j].kind) ∧ w.cell? ⟨b, off + j * 4 + 1, none⟩ = some (.string l[j].key) ∧ w.cell? ⟨b, off + j * 4 + 2, none⟩ = some (.string l[j].value) ∧ w.cell? ⟨b, off + j * 4 + 3, none⟩ = some (.int .i64 l[j].n)) ∧
    -9223372036854775808 ≤ l[j].kind ∧ l[j].kind ≤ 9223372036854775807 ∧ l[j].key.size ≤ maxLen ∧ l[j].value.size ≤ maxLen ∧ -9223372036854775808 ≤ l[j].n ∧ l[j].n ≤ 9223372036854775807 := by
  obtain ⟨b, off, ha, hc, hr⟩ := h.2 j hj
  exact ⟨b, off, ha, hc, hr⟩
set_option maxRecDepth 100000 in
set_option maxHeartbeats 8000000 in
theorem plan_right (a : Option Addr) (n c : Nat) (l : List Opp) (w : World) (hn : n ≤ maxLen) (h : OpsAt w a n l) :
    Calls Tryd.prog 25 #[.slice a n c] w fun e w' => e = .returned (.int .i64 (planErr l)) ∧ Below w.heap.size w w' := by
  unfold maxLen at hn
  have HA := Lib.hid h
  have HL := Lib.hid h.1
  clear h
  by_cases h16 : 16 < n
  · have HE : Hid (planErr l = 4) := Lib.hid (by unfold planErr; rw [if_pos (by rw [← HL.out]; exact h16)])
    go_enter Tryd.func25, Tryd.ntmps25
    go_wp2_with fail
    go_ret
    exact ⟨by rw [HE.out]; rfl, Below.refl _ _⟩
  have HBAD : Hid (∀ k (hk : k < l.length), opB l[k] = false → planErr l = 1) := Lib.hid fun k hk h => planErr_bad (by rw [← HL.out]; exact h16) hk h
  have HGOOD : Hid ((∀ k (hk : k < l.length), opB l[k] = true) → planErr l = 0) := Lib.hid fun h => planErr_ok (by rw [← HL.out]; exact h16) h
  generalize planErr l = pe at *
  go_enter Tryd.func25, Tryd.ntmps25
  go_wp2_with fail
  go_loopw [10] (fun j wr => ∃ k : Nat, k ≤ n ∧ j = .int .i64 k ∧ Hid (Below w.heap.size w wr ∧ ∀ i (hi : i < l.length), i < k → opB l[i] = true)) (fun j _ => n - (intOf j).toNat)
  case atStart => exact ⟨0, Nat.zero_le _, rfl, Lib.hid ⟨Below.refl _ _, fun _ _ h => by omega⟩⟩
  case round =>
    obtain ⟨k, hk, rfl, HS⟩ := hrel
    have HB := Lib.hid HS.out.1
    have HALL := Lib.hid HS.out.2
    clear HS
    by_cases hlt : k < n
    · have hk2 : k < l.length := by rw [← HL.out]; exact hlt
      obtain ⟨g, off, rfl, ⟨hx0, hx1, hx2, hx3⟩, hb0, hb1, hb2, hb3, hb4, hb5⟩ := (HA.out.below HB.out).at k hk2
      have HB2 := Lib.hid (HB.out.trans ((bel_new wr (.cells #[.int .i64 l[k].kind, .string l[k].key, .string l[k].value, .int .i64 l[k].n] 60)).mono HB.out.size))
      have HX := Lib.hid (HBAD.out k hk2)
      have HNX : Hid (opB l[k] = true → ∀ i (hi : i < l.length), i < k + 1 → opB l[i] = true) := Lib.hid fun h i hi hik => by
        by_cases e : i = k
        · subst e; exact h
        · exact HALL.out i hi (by omega)
      clear HALL HBAD HGOOD
      generalize l[k] = x at *
      obtain ⟨xk, xy, xv, xn⟩ := x
      simp only at hx0 hx1 hx2 hx3 hb0 hb1 hb2 hb3 hb4 hb5 HB2 HX HNX
      unfold maxLen at hb2 hb3
      have HO := Lib.hid (op_any ⟨xk, xy, xv, xn⟩ (wr.alloc (.cells #[.int .i64 xk, .string xy, .string xv, .int .i64 xn] 60)))
      unfold opV at HO
      simp only at HO
      cases hq : opB ⟨xk, xy, xv, xn⟩ with
      | true =>
        rw [hq] at HO
        have HN2 := Lib.hid (HNX.out hq)
        clear hq HX HNX
        go_wp2_with fail
        refine HO.out.mono ?_
        rintro e w2 ⟨rfl, hb⟩
        have HB3 := Lib.hid (HB2.out.trans (hb.mono HB2.out.size))
        clear hb HO
        go_wp2_with fail
        go_roundw
        case rel => exact ⟨k + 1, by omega, by go_num, Lib.hid ⟨HB3.out, HN2.out⟩⟩
        case measure => simp [intOf]; omega
      | false =>
        rw [hq] at HO
        have H1 := Lib.hid (HX.out hq)
        clear hq HX HNX
        go_wp2_with fail
        refine HO.out.mono ?_
        rintro e w2 ⟨rfl, hb⟩
        have HB3 := Lib.hid (HB2.out.trans (hb.mono HB2.out.size))
        clear hb HO
        go_wp2_with fail
        go_ret
        exact ⟨by rw [H1.out]; rfl, HB3.out⟩
    · have H1 := Lib.hid (HGOOD.out fun i hi => HALL.out i hi (by have := HL.out; omega))
      clear HGOOD HBAD HALL
      go_wp2_with fail
      go_ret
      exact ⟨by rw [H1.out]; rfl, HB.out⟩
set_option maxRecDepth 100000 in
set_option maxHeartbeats 8000000 in
theorem ref_right (a : Option Addr) (n c : Nat) (l : List Opp) (w : World) (hn : n ≤ maxLen) (h : OpsAt w a n l) :
    Calls Tryd.prog 27 #[.slice a n c] w fun e w' => e = .returned (.int .i64 (planErr l)) ∧ Below w.heap.size w w' := by
  unfold maxLen at hn
  have HA := Lib.hid h
  have HL := Lib.hid h.1
  clear h
  by_cases h16 : 16 < n
  · have HE : Hid (planErr l = 4) := Lib.hid (by unfold planErr; rw [if_pos (by rw [← HL.out]; exact h16)])
    go_enter Tryd.func27, Tryd.ntmps27
    go_wp2_with fail
    go_ret
    exact ⟨by rw [HE.out]; rfl, Below.refl _ _⟩
  have HBAD : Hid (∀ k (hk : k < l.length), opB l[k] = false → planErr l = 1) := Lib.hid fun k hk h => planErr_bad (by rw [← HL.out]; exact h16) hk h
  have HGOOD : Hid ((∀ k (hk : k < l.length), opB l[k] = true) → planErr l = 0) := Lib.hid fun h => planErr_ok (by rw [← HL.out]; exact h16) h
  generalize planErr l = pe at *
  go_enter Tryd.func27, Tryd.ntmps27
  go_wp2_with fail
  go_loopw [10] (fun j wr => ∃ k : Nat, k ≤ n ∧ j = .int .i64 k ∧ Hid (Below w.heap.size w wr ∧ ∀ i (hi : i < l.length), i < k → opB l[i] = true)) (fun j _ => n - (intOf j).toNat)
  case atStart => exact ⟨0, Nat.zero_le _, rfl, Lib.hid ⟨Below.refl _ _, fun _ _ h => by omega⟩⟩
  case round =>
    obtain ⟨k, hk, rfl, HS⟩ := hrel
    have HB := Lib.hid HS.out.1
    have HALL := Lib.hid HS.out.2
    clear HS
    by_cases hlt : k < n
    · have hk2 : k < l.length := by rw [← HL.out]; exact hlt
      obtain ⟨g, off, rfl, ⟨hx0, hx1, hx2, hx3⟩, hb0, hb1, hb2, hb3, hb4, hb5⟩ := (HA.out.below HB.out).at k hk2
      have HB2 := Lib.hid (HB.out.trans ((bel_new wr (.cells #[.int .i64 l[k].kind, .string l[k].key, .string l[k].value, .int .i64 l[k].n] 60)).mono HB.out.size))
      have HX := Lib.hid (HBAD.out k hk2)
      have HNX : Hid (opB l[k] = true → ∀ i (hi : i < l.length), i < k + 1 → opB l[i] = true) := Lib.hid fun h i hi hik => by
        by_cases e : i = k
        · subst e; exact h
        · exact HALL.out i hi (by omega)
      clear HALL HBAD HGOOD
      generalize l[k] = x at *
      obtain ⟨xk, xy, xv, xn⟩ := x
      simp only at hx0 hx1 hx2 hx3 hb0 hb1 hb2 hb3 hb4 hb5 HB2 HX HNX
      unfold maxLen at hb2 hb3
      by_cases k6 : xk = 6
      · subst k6
        have HN2 := Lib.hid (HNX.out rfl)
        clear HX HNX
        go_wp2_with fail
        go_roundw
        case rel => exact ⟨k + 1, by omega, by go_num, Lib.hid ⟨HB2.out, HN2.out⟩⟩
        case measure => simp [intOf]; omega
      have b6 : (xk == 6) = false := by simpa using k6
      by_cases c1 : xk < 1
      · skip
        have H1 := Lib.hid (HX.out (by unfold opB; simp only; rw [if_neg k6, if_neg (by omega), if_neg (by omega), show (xk == 1) = false by simp; omega, show (xk == 3) = false by simp; omega, show (xk == 4) = false by simp; omega]; rfl))
        clear HX HNX
        go_wp2_with fail
        go_ret
        exact ⟨by rw [H1.out]; rfl, HB2.out⟩
      by_cases c2 : 6 < xk
      · skip
        have H1 := Lib.hid (HX.out (by unfold opB; simp only; rw [if_neg k6, if_neg (by omega), if_neg (by omega), show (xk == 1) = false by simp; omega, show (xk == 3) = false by simp; omega, show (xk == 4) = false by simp; omega]; rfl))
        clear HX HNX
        go_wp2_with fail
        go_ret
        exact ⟨by rw [H1.out]; rfl, HB2.out⟩
      cases hy : xy.toList.isEmpty with
      | true =>
        have hz : xy.size = 0 := isEmpty_size hy
        have hz2 : ((xy.size : Int) == 0) = true := by simp [hz]
        have H1 := Lib.hid (HX.out (opB_key k6 (by unfold keyB; rw [hy]; rfl)))
        clear hy HX HNX
        go_wp2_with fail
        go_ret
        exact ⟨by rw [H1.out]; rfl, HB2.out⟩
      | false =>
        have hz : xy.size ≠ 0 := isEmpty_size_ne hy
        have hz2 : ((xy.size : Int) == 0) = false := by simp [hz]
        by_cases hl : 16 < (xy.size : Int)
        · skip
          have H1 := Lib.hid (HX.out (opB_key k6 (by unfold keyB; rw [hy, decide_eq_false (show ¬ (xy.size : Int) ≤ 16 by omega)]; rfl)))
          clear hy HX HNX
          go_wp2_with fail
          go_ret
          exact ⟨by rw [H1.out]; rfl, HB2.out⟩
        have hkb : keyB xy = true := by unfold keyB; rw [hy, decide_eq_true (show (xy.size : Int) ≤ 16 by omega)]; rfl
        by_cases k2 : xk = 2
        · subst k2
          by_cases hv : 32 < (xv.size : Int)
          · skip
            have H1 := Lib.hid (HX.out (by rw [opB_2, decide_eq_true hv]; rfl))
            clear hy hkb HX HNX
            go_wp2_with fail
            go_ret
            exact ⟨by rw [H1.out]; rfl, HB2.out⟩
          have HG : Hid (opB ⟨2, xy, xv, xn⟩ = true) := Lib.hid (by rw [opB_2, decide_eq_false hv, hkb]; rfl)
          have HN2 := Lib.hid (HNX.out HG.out)
          clear hy hkb HX HNX
          go_wp2_with fail
          go_roundw
          case rel => exact ⟨k + 1, by omega, by go_num, Lib.hid ⟨HB2.out, HN2.out⟩⟩
          case measure => simp [intOf]; omega
        have b2 : (xk == 2) = false := by simpa using k2
        by_cases k5 : xk = 5
        · subst k5
          by_cases hl1 : xn < -1125899906842624
          · skip
            have H1 := Lib.hid (HX.out (by rw [opB_5, decide_eq_true hl1]; rfl))
            clear hy hkb HX HNX
            go_wp2_with fail
            go_ret
            exact ⟨by rw [H1.out]; rfl, HB2.out⟩
          by_cases hl2 : 1125899906842624 < xn
          · skip
            have H1 := Lib.hid (HX.out (by rw [opB_5, decide_eq_false hl1, decide_eq_true hl2]; rfl))
            clear hy hkb HX HNX
            go_wp2_with fail
            go_ret
            exact ⟨by rw [H1.out]; rfl, HB2.out⟩
          have HG : Hid (opB ⟨5, xy, xv, xn⟩ = true) := Lib.hid (by rw [opB_5, decide_eq_false hl1, decide_eq_false hl2, hkb]; rfl)
          have HN2 := Lib.hid (HNX.out HG.out)
          clear hy hkb HX HNX
          go_wp2_with fail
          go_roundw
          case rel => exact ⟨k + 1, by omega, by go_num, Lib.hid ⟨HB2.out, HN2.out⟩⟩
          case measure => simp [intOf]; omega
        have b5 : (xk == 5) = false := by simpa using k5
        have HG : Hid (opB ⟨xk, xy, xv, xn⟩ = true) := Lib.hid (by
          unfold opB; simp only; rw [if_neg k6, if_neg k2, if_neg k5, hkb, Bool.and_true]
          rcases (show xk = 1 ∨ xk = 3 ∨ xk = 4 by omega) with rfl | rfl | rfl <;> rfl)
        have HN2 := Lib.hid (HNX.out HG.out)
        clear hy hkb k2 k5 k6 HX HNX
        go_wp2_with fail
        go_roundw
        case rel => exact ⟨k + 1, by omega, by go_num, Lib.hid ⟨HB2.out, HN2.out⟩⟩
        case measure => simp [intOf]; omega
    · have H1 := Lib.hid (HGOOD.out fun i hi => HALL.out i hi (by have := HL.out; omega))
      clear HGOOD HBAD HALL
      go_wp2_with fail
      go_ret
      exact ⟨by rw [H1.out]; rfl, HB.out⟩
end Go.Proofs.YtmifgnibalbgjaaDoor

