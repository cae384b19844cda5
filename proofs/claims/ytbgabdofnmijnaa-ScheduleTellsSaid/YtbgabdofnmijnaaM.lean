/- slices.Compact of edges. -/
import Derived.Test.YtbgabdofnmijnaaL
import Derived.Laws.StructEq
namespace Go.Proofs.Ytbgabdofnmijnaa
open Go.RowKit
def eqE (x y : Eg) : Bool := x.a == y.a && x.b == y.b
/-- each once, where alike ones stand side by side. -/
def cptUp (l : List Eg) : Nat → List Eg
  | 0 => []
  | j + 1 => cptUp l j ++ if j = 0 ∨ eqE l[j]! l[j - 1]! = false then [l[j]!] else []
theorem cptUp_step (l : List Eg) (j : Nat) (hj : j < l.length) (h0 : 0 < j) : cptUp l (j + 1) = cptUp l j ++ if eqE l[j] l[j - 1] = false then [l[j]] else [] := by
  rw [cptUp, getElem!_pos l j hj, getElem!_pos l (j - 1) (by omega)]
  by_cases h : eqE l[j] l[j - 1] = false
  · rw [if_pos (.inr h), if_pos h]
  · rw [if_neg h, if_neg]
    rintro (h' | h')
    · omega
    · exact h h'
theorem cptUp_one (l : List Eg) (h : 0 < l.length) : cptUp l 1 = l.take 1 := by
  rw [cptUp, cptUp, if_pos (.inl rfl), getElem!_pos l 0 h]
  rw [List.take_succ_eq_append_getElem h]; rfl
theorem cptUp_len (l : List Eg) : ∀ j, (cptUp l j).length ≤ j
  | 0 => by simp [cptUp]
  | j + 1 => by
    have := cptUp_len l j
    rw [cptUp, List.length_append]
    split <;> simp <;> omega
def cptE (l : List Eg) : List Eg := cptUp l l.length
set_option maxRecDepth 100000 in
set_option maxHeartbeats 4000000 in
theorem compact_some (g n c : Nat) (l : List Eg) (w : World) (hr : Row w 42 2 (some ⟨g, 0, none⟩) n c (egFlat l)) (hn : n ≤ 100000) :
    Calls Try.prog 35 #[.slice (some ⟨g, 0, none⟩) n c] w fun e w' => e = .returned (.slice (some ⟨g, 0, none⟩) (cptE l).length c) ∧ Row w' 42 2 (some ⟨g, 0, none⟩) (cptE l).length c (egFlat (cptE l)) ∧ Touch [g] w w' := by
  have hl : n = l.length := by have := hr.len; rw [egFlat_len] at this; omega
  subst hl
  rcases hr.out with ⟨h0, _⟩ | ⟨g', cur, hg', hg, hnc, hcm, hcs, htk, hxl⟩
  · cases h0
  obtain rfl : g = g' := by simpa using hg'
  clear hg'
  unfold maxLen at hcm
  have HG0 := Lib.hid hg
  have HTK := Lib.hid htk
  have HR := Lib.hid hr
  clear hg htk hr hxl
  by_cases h2 : (l.length : Int) < 2
  · have HF : Hid (cptE l = l) := Lib.hid (by
      unfold cptE
      match l, h2 with
      | [], _ => rfl
      | [x], _ => rfl
      | x :: y :: r, h2 => simp at h2; omega)
    go_enter Try.func35, Try.ntmps35
    go_wp2_with fail
    go_ret
    rw [HF.out]
    exact ⟨rfl, HR.out, Touch.refl _ _⟩
  · go_enter Try.func35, Try.ntmps35
    go_wp2_with fail
    go_loopw [3] (fun j wr => ∃ k : Nat, 0 < k ∧ k ≤ l.length ∧ j = .int .i64 (k : Nat) ∧ Hid (cptUp l k = l.take k) ∧ Hid (Below w.heap.size w wr)) (fun j _ => l.length - (intOf j).toNat)
    case atStart => exact ⟨1, by omega, by omega, rfl, Lib.hid (cptUp_one l (by omega)), Lib.hid (Below.refl _ _)⟩
    case round =>
      obtain ⟨k, hk0, hk, rfl, HU, HB⟩ := hrel
      by_cases hlt : k < l.length
      · obtain ⟨ga, he, a1, a2⟩ := egAt_row (HR.out.below HB.out) k hlt
        obtain ⟨gb, he2, b1, b2⟩ := egAt_row (HR.out.below HB.out) (k - 1) (by omega)
        obtain rfl : g = ga := by simpa using he
        obtain rfl : g = gb := by simpa using he2
        clear he he2
        have HST := Lib.hid (cptUp_step l k hlt hk0)
        have HTS : Hid (l.take (k + 1) = l.take k ++ [l[k]]) := Lib.hid (by rw [List.take_succ_eq_append_getElem hlt])
        generalize l[k] = x at *
        generalize l[k - 1] = y at *
        obtain ⟨xa, xb⟩ := x
        obtain ⟨ya, yb⟩ := y
        simp only at a1 a2 b1 b2
        cases hq : eqE ⟨xa, xb⟩ ⟨ya, yb⟩ with
        | true =>
          obtain ⟨e1, e2⟩ : xa = ya ∧ xb = yb := by simpa [eqE] using hq
          subst e1 e2
          go_wp2_with fail
          go_quiet (fail)
          go_wp2_with fail
          generalize hnq : wr.drewN _ = w4
          have HT4 : Hid (Touch [g] w w4) := Lib.hid (by rw [← hnq]; exact Touch.of_below (HB.out.trans ((bel_drewN wr _).mono HB.out.size)) _)
          have HU2 : Hid (cptUp l (k + 1) = l.take k) := Lib.hid (by rw [HST.out, hq, HU.out]; simp)
          have HC4 : Hid (w4.heap[g]? = some (.cells cur 42 (0, 0))) := Lib.hid (by rw [← hnq]; exact (HB.out.block g (lt_of_heap HG0.out)).trans HG0.out)
          clear hnq a1 a2 b1 b2 hq HST HTS HU HB
          go_loopw [3, 5] (fun s3 s5 wi => ∃ (i m : Nat) (cur' : Array Value), 0 < m ∧ k + m ≤ l.length ∧ i < k + m ∧ s3 = .int .i64 i ∧ s5 = .int .i64 m ∧
            Hid (wi.heap[g]? = some (.cells cur' 42 (0, 0)) ∧ cur'.size = c * 2 ∧ cur'.toList.take (i * 2) = egFlat (cptUp l (k + m)) ∧ (cur'.toList.take (l.length * 2)).drop ((k + m - 1) * 2) = egFlat (l.drop (k + m - 1))) ∧
            Hid ((cptUp l (k + m)).length = i) ∧ Hid (Touch [g] w wi)) (fun _ s5 _ => l.length - (intOf s5).toNat)
          case atStart =>
            refine ⟨k, 1, cur, by omega, by omega, by omega, rfl, rfl, Lib.hid ⟨HC4.out, hcs, ?_, ?_⟩, Lib.hid ?_, HT4⟩
            · rw [HU2.out, ← egFlat_take, ← HTK.out, List.take_take, Nat.min_eq_left (Nat.mul_le_mul_right _ (by omega))]
            · rw [HTK.out, show k + 1 - 1 = k by omega, egFlat_drop]
            · rw [HU2.out, List.length_take]; omega
          case round =>
            obtain ⟨i, m, cur', hm0, hm, hij, rfl, rfl, HG, HLn, HT⟩ := hrel
            clear HC4 HT4 HU2
            by_cases hlt2 : k + m < l.length
            · have hy := egAt_at HG.out.1 HG.out.2.2.2 (by omega)
              have hdr : Hid ((cur'.toList.take (l.length * 2)).drop ((k + (m + 1) - 1) * 2) = egFlat (l.drop (k + (m + 1) - 1))) := Lib.hid (by
                have h := HG.out.2.2.2
                have e : k + (m + 1) - 1 = (k + m - 1) + 1 := by omega
                rw [e, Nat.succ_mul, ← List.drop_drop, h, show 2 = 1 * 2 from rfl, egFlat_drop, List.drop_drop])
              have hx := egAt_at (j := k + m) HG.out.1 (by have := hdr.out; rwa [show k + (m + 1) - 1 = k + m by omega] at this) hlt2
              have HST := Lib.hid (cptUp_step l (k + m) hlt2 (by omega))
              generalize l[k + m] = x at *
              generalize l[k + m - 1] = y at *
              obtain ⟨xa, xb⟩ := x
              obtain ⟨ya, yb⟩ := y
              obtain ⟨a1, a2⟩ := hx
              obtain ⟨b1, b2⟩ := hy
              simp only at a1 a2 b1 b2
              rw [show (k + m) * 2 = k * 2 + m * 2 by omega] at a1 a2
              rw [show (k + m - 1) * 2 = k * 2 + (m - 1) * 2 by omega] at b1 b2
              cases hq : eqE ⟨xa, xb⟩ ⟨ya, yb⟩ with
              | true =>
                have HE : Hid (cptUp l (k + (m + 1)) = cptUp l (k + m)) := Lib.hid (by
                  have := HST.out
                  rw [hq, if_neg (by simp), List.append_nil] at this
                  exact this)
                obtain ⟨e1, e2⟩ : xa = ya ∧ xb = yb := by simpa [eqE] using hq
                subst e1 e2
                clear hq HST
                go_wp2_with fail
                go_quiet (fail)
                generalize hnq : wr.drewN _ = w5
                have HG2 : Hid (w5.heap[g]? = some (.cells cur' 42 (0, 0)) ∧ cur'.size = c * 2 ∧ cur'.toList.take (i * 2) = egFlat (cptUp l (k + (m + 1))) ∧ (cur'.toList.take (l.length * 2)).drop ((k + (m + 1) - 1) * 2) = egFlat (l.drop (k + (m + 1) - 1))) := Lib.hid (by
                  rw [← hnq, HE.out]; exact ⟨HG.out.1, HG.out.2.1, HG.out.2.2.1, hdr.out⟩)
                have HT2 : Hid (Touch [g] w w5) := Lib.hid (by rw [← hnq]; exact HT.out.andThen (Touch.drewN _ _ _))
                have HL2 : Hid ((cptUp l (k + (m + 1))).length = i) := Lib.hid (by rw [HE.out]; exact HLn.out)
                clear hnq a1 a2 b1 b2 HG HE HT hdr HLn
                go_wp2_with fail
                go_roundw
                case rel => exact ⟨i, m + 1, cur', by omega, by omega, by omega, rfl, by go_num, HG2, HL2, HT2⟩
                case measure => simp [intOf]; omega
              | false =>
                have HE : Hid (cptUp l (k + (m + 1)) = cptUp l (k + m) ++ [⟨xa, xb⟩]) := Lib.hid (by
                  have := HST.out
                  rw [if_pos hq] at this
                  exact this)
                have hne : xa ≠ ya ∨ (xa = ya ∧ xb ≠ yb) := by
                  unfold eqE at hq
                  simp only at hq
                  by_cases h : xa = ya
                  · subst h; right; simpa using hq
                  · exact .inl h
                clear hq HST
                have HFIN : Hid (∀ w5, wr.heap.size ≤ w5.heap.size → w5.heap[g]? = some (.cells cur' 42 (0, 0)) → Touch [g] w w5 → ∃ C2, (Instr.storeAt 42 (.pointer (some ⟨g, i * 2, none⟩)) (.agg #[.int .i64 xa, .int .i64 xb])).run Try.prog w5 = .ok () (w5.setRow g C2) ∧
                    Hid ((w5.setRow g C2).heap[g]? = some (.cells C2 42 (0, 0)) ∧ C2.size = c * 2 ∧ C2.toList.take ((i + 1) * 2) = egFlat (cptUp l (k + (m + 1))) ∧ (C2.toList.take (l.length * 2)).drop ((k + (m + 1) - 1) * 2) = egFlat (l.drop (k + (m + 1) - 1))) ∧ Hid (Touch [g] w (w5.setRow g C2))) := Lib.hid fun w5 _ hg2 ht => by
                  have hik : (i + 1) * 2 ≤ l.length * 2 := Nat.mul_le_mul_right _ (by omega)
                  have hck : l.length * 2 ≤ c * 2 := Nat.mul_le_mul_right _ hnc
                  have hik2 : i * 2 + 2 ≤ cur'.toList.length := by rw [Array.length_toList, HG.out.2.1]; omega
                  have hrun := run_storeAt_k (P := Try.prog) w5 42 42 g (i * 2) 2 cur' (.agg #[.int .i64 xa, .int .i64 xb]) delE_size rfl hg2 (by rw [← Array.length_toList]; exact hik2) (by simp [Value.cells, Value.oneCell'])
                  refine ⟨_, hrun, Lib.hid ⟨setRow_heap _ g cur' _ 42 _ hg2, ?_, ?_, ?_⟩, Lib.hid (ht.andThen (Touch.setRow _ g _ (by simp)))⟩
                  · rw [← Array.length_toList, List.toList_toArray, set_len cur'.toList (Value.cells (.agg #[.int .i64 xa, .int .i64 xb])).toList i 2 rfl hik2, Array.length_toList]; exact HG.out.2.1
                  · rw [List.toList_toArray, set_take cur'.toList (Value.cells (.agg #[.int .i64 xa, .int .i64 xb])).toList i 2 rfl hik2, HE.out, egFlat_append, HG.out.2.2.1]; rfl
                  · rw [List.toList_toArray, set_drop cur'.toList (Value.cells (.agg #[.int .i64 xa, .int .i64 xb])).toList i (k + (m + 1) - 1) l.length 2 rfl hik2 (by omega)]; exact hdr.out
                have HL2 : Hid ((cptUp l (k + (m + 1))).length = i + 1) := Lib.hid (by rw [HE.out, List.length_append, HLn.out]; rfl)
                have hil : i < l.length := by omega
                rcases hne with hne | ⟨rfl, hne⟩
                · have h1 : (xa == ya) = false := by simpa using hne
                  go_wp2_with fail
                  go_quiet (fail)
                  generalize hnq : wr.drewN _ = w5
                  obtain ⟨C2, hrun, HG2, HT2⟩ := HFIN.out w5 (by rw [← hnq]; exact Nat.le_refl _) (by rw [← hnq]; exact HG.out.1) (by rw [← hnq]; exact HT.out.andThen (Touch.drewN _ _ _))
                  have HRun := Lib.hid hrun
                  have c1 : w5.cell? ⟨g, k * 2 + m * 2, none⟩ = some (.int .i64 xa) := by rw [← hnq]; exact a1
                  have c2 : w5.cell? ⟨g, k * 2 + m * 2 + 1, none⟩ = some (.int .i64 xb) := by rw [← hnq]; exact a2
                  clear hnq a1 a2 b1 b2 HG HE HT hdr HLn HFIN hrun
                  go_wp2_with (refine wpList_storeR _ rfl _ _ _ rfl _ _ rfl rfl HRun.out ?_)
                  go_roundw
                  case rel => exact ⟨i + 1, m + 1, C2, by omega, by omega, by omega, by go_num, by go_num, HG2, HL2, HT2⟩
                  case measure => simp [intOf]; omega
                · have h1 : (xb == yb) = false := by simpa using hne
                  go_wp2_with fail
                  go_quiet (fail)
                  generalize hnq : wr.drewN _ = w5
                  obtain ⟨C2, hrun, HG2, HT2⟩ := HFIN.out w5 (by rw [← hnq]; exact Nat.le_refl _) (by rw [← hnq]; exact HG.out.1) (by rw [← hnq]; exact HT.out.andThen (Touch.drewN _ _ _))
                  have HRun := Lib.hid hrun
                  have c1 : w5.cell? ⟨g, k * 2 + m * 2, none⟩ = some (.int .i64 xa) := by rw [← hnq]; exact a1
                  have c2 : w5.cell? ⟨g, k * 2 + m * 2 + 1, none⟩ = some (.int .i64 xb) := by rw [← hnq]; exact a2
                  clear hnq a1 a2 b1 b2 HG HE HT hdr HLn HFIN hrun
                  go_wp2_with (refine wpList_storeR _ rfl _ _ _ rfl _ _ rfl rfl HRun.out ?_)
                  go_roundw
                  case rel => exact ⟨i + 1, m + 1, C2, by omega, by omega, by omega, by go_num, by go_num, HG2, HL2, HT2⟩
                  case measure => simp [intOf]; omega
            · have hkm : k + m = l.length := by omega
              have hcl := run_clear_k (P := Try.prog) wr 25 42 0 (.agg #[.int .i64 0, .int .i64 0]) Try.underlying25 (delE_zero _) (by decide) g (i * 2) (l.length - i) (c - i) cur' 42 (by omega) HG.out.1 (by
                rw [HG.out.2.1, show (Value.cells (.agg #[.int .i64 0, .int .i64 0])).size = 2 from rfl, ← Nat.add_mul]; exact Nat.mul_le_mul_right _ (by omega))
              obtain ⟨C3, hC3⟩ : ∃ C3 : Array Value, (cur'.toList.take (i * 2) ++ (Builtin.zeroCells (Value.cells (.agg #[.int .i64 0, .int .i64 0])) (l.length - i)).toList ++ cur'.toList.drop (i * 2 + (l.length - i) * (Value.cells (.agg #[.int .i64 0, .int .i64 0])).size)).toArray = C3 := ⟨_, rfl⟩
              rw [hC3] at hcl
              have hzl : (Builtin.zeroCells (Value.cells (.agg #[.int .i64 0, .int .i64 0])) (l.length - i)).toList.length = (l.length - i) * 2 := by rw [Array.length_toList, size_zeroCells]; rfl
              have hadd : i * 2 + (l.length - i) * 2 = l.length * 2 := by rw [← Nat.add_mul]; congr 1; omega
              have hck : l.length * 2 ≤ c * 2 := Nat.mul_le_mul_right _ hnc
              have HE : Hid (cptE l = cptUp l (k + m)) := Lib.hid (by unfold cptE; rw [hkm])
              have HFin : Hid (Row (wr.setRow g C3) 42 2 (some ⟨g, 0, none⟩) i c (egFlat (cptE l)) ∧ Touch [g] w (wr.setRow g C3)) := Lib.hid (by
                refine ⟨Row.mk (cur := C3) (setRow_heap _ g cur' C3 42 _ HG.out.1) (by omega) (by unfold maxLen; omega) ?_ ?_, HT.out.andThen (Touch.setRow _ g C3 (by simp))⟩
                · rw [← Array.length_toList, ← hC3, List.toList_toArray]
                  simp only [List.length_append, List.length_take, List.length_drop, hzl, Array.length_toList, HG.out.2.1, show (Value.cells (.agg #[.int .i64 0, .int .i64 0])).size = 2 from rfl]
                  omega
                · have h3 := HG.out.2.2.1
                  rw [HE.out, ← hC3, List.toList_toArray, List.append_assoc, List.take_append_of_le_length (by rw [List.length_take, Array.length_toList, HG.out.2.1]; omega), List.take_take, Nat.min_self]
                  exact h3)
              have HEL : Hid ((cptE l).length = i) := Lib.hid (by rw [HE.out]; exact HLn.out)
              have hq := hcl
              have hii : i < l.length := by omega
              have hcm2 : (m : Int) = ((l.length - k : Nat) : Int) := by omega
              clear hcl hC3 hzl hadd hck HE HG HT HLn
              go_wp2_with fail
              go_ret
              rw [HEL.out]
              exact ⟨rfl, HFin.out⟩
        | false =>
          have HU2 : Hid (cptUp l (k + 1) = l.take (k + 1)) := Lib.hid (by rw [HST.out, if_pos hq, HTS.out, HU.out])
          have hne : xa ≠ ya ∨ (xa = ya ∧ xb ≠ yb) := by
            unfold eqE at hq
            simp only at hq
            by_cases h : xa = ya
            · subst h; right; simpa using hq
            · exact .inl h
          rcases hne with hne | ⟨rfl, hne⟩
          · have h1 : (xa == ya) = false := by simpa using hne
            clear hq HST HTS
            go_wp2_with fail
            go_quiet (fail)
            generalize hnq : wr.drewN _ = w4
            have HB4 : Hid (Below w.heap.size w w4) := Lib.hid (by rw [← hnq]; exact HB.out.trans ((bel_drewN wr _).mono HB.out.size))
            clear hnq a1 a2 b1 b2
            go_wp2_with fail
            go_roundw
            case rel => exact ⟨k + 1, by omega, by omega, by go_num, HU2, HB4⟩
            case measure => simp [intOf]; omega
          · have h1 : (xb == yb) = false := by simpa using hne
            clear hq HST HTS
            go_wp2_with fail
            go_quiet (fail)
            generalize hnq : wr.drewN _ = w4
            have HB4 : Hid (Below w.heap.size w w4) := Lib.hid (by rw [← hnq]; exact HB.out.trans ((bel_drewN wr _).mono HB.out.size))
            clear hnq a1 a2 b1 b2
            go_wp2_with fail
            go_roundw
            case rel => exact ⟨k + 1, by omega, by omega, by go_num, HU2, HB4⟩
            case measure => simp [intOf]; omega
      · obtain rfl : k = l.length := by omega
        have HF : Hid (cptE l = l) := Lib.hid (by unfold cptE; rw [HU.out, List.take_length])
        clear HU
        go_wp2_with fail
        go_ret
        rw [HF.out]
        exact ⟨rfl, HR.out.touch (Touch.of_below HB.out []) (by simp), Touch.of_below HB.out _⟩
end Go.Proofs.Ytbgabdofnmijnaa
