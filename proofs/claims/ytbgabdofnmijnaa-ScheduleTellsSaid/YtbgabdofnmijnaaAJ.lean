/- The document's Source, Cascadeless, Recoverable, walked. -/
import Derived.Test.YtbgabdofnmijnaaX
import Derived.Test.YtbgabdofnmijnaaAB
import Derived.Deep.RegionHeld3
namespace Go.Proofs.Ytbgabdofnmijnaa
open Go.RowKit
theorem isR_iff (l : List Mk) (kind tx : Int) (k : Nat) : isR l kind tx k = true ↔ ∃ j, ∃ (hj : j < l.length), j < k ∧ l[j].tx = tx ∧ l[j].kind = kind := by
  unfold isR
  rw [List.any_eq_true]
  constructor
  · rintro ⟨m, hm, h⟩
    obtain ⟨j, hj, rfl⟩ := List.mem_iff_getElem.1 hm
    rw [List.length_take] at hj
    rw [List.getElem_take] at h
    simp only [Bool.and_eq_true, beq_iff_eq] at h
    exact ⟨j, by omega, by omega, h⟩
  · rintro ⟨j, hj, hjk, h1, h2⟩
    exact ⟨l[j], List.mem_iff_getElem.2 ⟨j, by rw [List.length_take]; omega, by rw [List.getElem_take]⟩, by rw [h1, h2]; simp⟩
def hitR (l : List Mk) (p : Nat) (key : ByteArray) (m : Mk) : Bool := m.kind == 2 && m.key.toList == key.toList && !isR l 4 m.tx p
def srcRU (l : List Mk) (p : Nat) (key : ByteArray) : Nat → Int
  | 0 => -1
  | k + 1 => if hitR l p key l[k]! then l[k]!.tx else srcRU l p key k
theorem srcRU_succ (l : List Mk) (p : Nat) (key : ByteArray) (k : Nat) (hk : k < l.length) : srcRU l p key (k + 1) = if hitR l p key l[k] then l[k].tx else srcRU l p key k := by
  rw [srcRU, getElem!_pos l k hk]
theorem hitR_iff (l : List Mk) (p : Nat) (key : ByteArray) (j : Nat) (m : Mk) : hitR l p key m = true ↔ Wr l p key j m := by
  unfold hitR Wr
  simp only [Bool.and_eq_true, beq_iff_eq, Bool.not_eq_true', and_assoc]
  refine and_congr_right fun _ => and_congr_right fun _ => ?_
  rw [← Bool.not_eq_true, isR_iff]
  constructor
  · intro hn i hi hip h1 h2; exact hn ⟨i, hi, hip, h1, h2⟩
  · rintro hn ⟨i, hi, hip, h1, h2⟩; exact hn i hi hip h1 h2
theorem srcRU_eq {l : List Mk} (h : RightP l) (p : Nat) (hp : p < l.length) : srcRU l p l[p].key p = sourceM l p := by
  have key : ∀ k, k ≤ l.length → srcRU l p l[p].key k = srcGo l p l[p].key k := fun k => by
    induction k with
    | zero => intro _; rfl
    | succ k ih =>
      intro hk
      rw [srcRU_succ l p _ k (by omega), srcGo_succ l p _ k (by omega), ih (by omega)]
      have e : hitR l p l[p].key l[k] = hitB l p l[p].key k l[k] := by
        rw [Bool.eq_iff_iff, hitR_iff l p _ k, hit_iff h p _ k (by omega)]
      rw [e]
  rw [key p (by omega)]
  unfold sourceM
  rw [getElem!_pos l p hp]
set_option maxRecDepth 100000 in
set_option maxHeartbeats 8000000 in
theorem rsource_any (a : Option Addr) (n c : Nat) (l : List Mk) (p : Nat) (w : World) (hr : MksAt w a n l) (hn : n ≤ 1000) (hnc : n ≤ c) (hp : p < n) (hR : RightP l) :
    Calls Try.prog 20 #[.slice a n c, .int .i64 p] w fun e w' => e = .returned (.int .i64 (sourceM l p)) ∧ Below w.heap.size w w' := by
  have HIS := Lib.hid fun tx W (hb : Below w.heap.size w W) => is_any a n c l 4 tx p W (hr.below hb) hn hnc (by omega)
  have HL := Lib.hid hr.1
  have HR := Lib.hid hr
  have hpl : p < l.length := by rw [← hr.1]; exact hp
  have HEQ := Lib.hid (srcRU_eq hR p hpl)
  clear hr hR
  generalize sourceM l p = rb at *
  have hpc : p ≤ c := by omega
  go_enter Try.func20, Try.ntmps20
  obtain ⟨g, off, rfl, hpA, hpB, hpD⟩ := HR.out.at p hpl
  clear hpA hpB
  generalize hpy : l[p].key = py at *
  go_wp2_with fail
  go_loopw [5, 12] (fun v j wr => ∃ q : Nat, q ≤ p ∧ v = .int .i64 (srcRU l p py q) ∧ j = .int .i64 q ∧ Hid (Mem w [] wr [])) (fun _ j _ => p - (intOf j).toNat)
  case atStart => exact ⟨0, Nat.zero_le _, rfl, rfl, Lib.hid (Mem.nil w)⟩
  case round =>
    obtain ⟨W1, rfl⟩ : ∃ W1, W1 = wr := ⟨_, rfl⟩
    obtain ⟨q, hq, rfl, rfl, M1⟩ := hrel
    by_cases hlt : q < p
    · have hlt' : q < l.length := by omega
      obtain ⟨g', off', he, hcA, hcB, hcD⟩ := (HR.out.below M1.out.bel).at q hlt'
      obtain ⟨rfl, rfl⟩ : g = g' ∧ off = off' := by simpa using he
      clear he
      have HU := Lib.hid (srcRU_succ l p py q hlt')
      have hpD1 := (M1.out.bel.cell (World.block_lt_of_cell? w _ hpD)).trans hpD
      have hpD2 := ((bel_new W1 (.cells #[.int .i64 l[q].kind, .int .i64 l[q].tx, .string l[q].key] 36)).cell (World.block_lt_of_cell? W1 _ hpD1)).trans hpD1
      have M2 := Lib.hid (M1.out.block #[.int .i64 l[q].kind, .int .i64 l[q].tx, .string l[q].key] 36)
      clear M1
      unfold hitR at HU
      generalize l[q] = x at *
      obtain ⟨xk, xt, xy⟩ := x
      simp only at hcA hcB hcD M2 HU hpD2
      obtain ⟨k0, k1, k2⟩ := box_cells M2.out
      by_cases h2 : xk = 2
      · subst h2
        cases hky : (xy.toList == py.toList) with
        | false =>
          have HX : Hid (srcRU l p py q = srcRU l p py (q + 1)) := Lib.hid (by rw [HU.out, hky]; rfl)
          clear HU
          go_wp2_with fail
          go_quiet (fail)
          generalize hnq : (W1.alloc (.cells #[.int .i64 2, .int .i64 xt, .string xy] 36)).drewN _ = W2
          have M3 := Lib.hid (show Mem w [] W2 [] from by
            rw [← hnq]
            exact Mem.drop [] (A := BlockA W1.heap.size #[.int .i64 2, .int .i64 xt, .string xy] 36) (r := []) (M2.out.below (bel_drewN _ _)))
          clear hnq M2 k0 k1 k2
          go_wp2_with fail
          go_roundw
          case rel => exact ⟨q + 1, by omega, by rw [HX.out], by go_num, M3⟩
          case measure => simp [intOf]; omega
        | true =>
          have HC := Lib.hid (HIS.out xt)
          go_wp2_with fail
          obtain ⟨W2, hW2⟩ : ∃ W2, W2 = W1.alloc (.cells #[.int .i64 2, .int .i64 xt, .string xy] 36) := ⟨_, rfl⟩
          rw [← hW2] at M2 k0 k1 k2 hpD2 ⊢
          clear hW2 hcA hcB hcD hpD1
          generalize W1.heap.size = b7 at *
          have m0 := M2.out.below (bel_drew W2)
          have K8 : Hid (∀ W, Mem w [] W [BlockA b7 #[.int .i64 2, .int .i64 xt, .string xy] 36] → W.cell? ⟨b7, 0, none⟩ = some (.int .i64 2) ∧ W.cell? ⟨b7, 1, none⟩ = some (.int .i64 xt) ∧ W.cell? ⟨b7, 2, none⟩ = some (.string xy) ∧ W.cell? ⟨g, off + p * 3 + 2, none⟩ = some (.string py)) := Lib.hid fun W h => ⟨(box_cells h).1, (box_cells h).2.1, (box_cells h).2.2, (h.bel.cell (World.block_lt_of_cell? w _ hpD)).trans hpD⟩
          have HC1 := Lib.hid fun W (hW : Mem w [] W [BlockA b7 #[.int .i64 2, .int .i64 xt, .string xy] 36]) => (HC.out W hW.bel).mono fun e W' (h : e = .returned (.bool (isR l 4 xt p)) ∧ Below W.heap.size W W') => (⟨h.1, hW.below h.2⟩ : e = .returned (.bool (isR l 4 xt p)) ∧ Mem w [] W' [BlockA b7 #[.int .i64 2, .int .i64 xt, .string xy] 36])
          rw [hky] at HU
          clear HC hpD2 k0 k1 k2
          generalize isR l 4 xt p = ab at *
          first
            | (go_region_held3 (fun W => W.cell? ⟨b7, 0, none⟩ = some (.int .i64 2) ∧ W.cell? ⟨b7, 1, none⟩ = some (.int .i64 xt) ∧ W.cell? ⟨b7, 2, none⟩ = some (.string xy) ∧ W.cell? ⟨g, off + p * 3 + 2, none⟩ = some (.string py)) (first | exact K8.out _ (by assumption) | exact K8.out _ (Mem.below (by assumption) (bel_drew _)))
                (first
                  | ((go_at_call 56; refine (HC1.out _ (by assumption)).mono ?_; rintro e w2 ⟨rfl, m1⟩))
                  | (fail "none")))
            | (fail "none")
          all_goals
            obtain ⟨k0, k1, k2⟩ := box_cells m1
            cases ab with
            | true =>
              have HX : Hid (srcRU l p py q = srcRU l p py (q + 1)) := Lib.hid (by rw [HU.out]; simp)
              have M3 := Lib.hid (Mem.drop [] (A := BlockA b7 #[.int .i64 2, .int .i64 xt, .string xy] 36) (r := []) m1)
              clear HU M2 m0 m1 K8 HC1
              go_wp2_with fail
              go_roundw
              case rel => exact ⟨q + 1, by omega, by rw [HX.out], by go_num, M3⟩
              case measure => simp [intOf]; omega
            | false =>
              have HX : Hid (xt = srcRU l p py (q + 1)) := Lib.hid (by rw [HU.out]; simp)
              have M3 := Lib.hid (Mem.drop [] (A := BlockA b7 #[.int .i64 2, .int .i64 xt, .string xy] 36) (r := []) m1)
              clear HU M2 m0 m1 K8 HC1
              go_wp2_with fail
              go_roundw
              case rel => exact ⟨q + 1, by omega, by rw [HX.out], by go_num, M3⟩
              case measure => simp [intOf]; omega
      · have h2' : (xk == 2) = false := by simpa using h2
        have HX : Hid (srcRU l p py q = srcRU l p py (q + 1)) := Lib.hid (by rw [HU.out, h2']; rfl)
        clear HU h2
        go_wp2_with fail
        go_quiet (fail)
        generalize hnq : (W1.alloc (.cells #[.int .i64 xk, .int .i64 xt, .string xy] 36)).drewN _ = W2
        have M3 := Lib.hid (show Mem w [] W2 [] from by
          rw [← hnq]
          exact Mem.drop [] (A := BlockA W1.heap.size #[.int .i64 xk, .int .i64 xt, .string xy] 36) (r := []) (M2.out.below (bel_drewN _ _)))
        clear hnq M2 k0 k1 k2
        go_wp2_with fail
        go_roundw
        case rel => exact ⟨q + 1, by omega, by rw [HX.out], by go_num, M3⟩
        case measure => simp [intOf]; omega
    · obtain rfl : q = p := by omega
      have HBE := Lib.hid M1.out.bel
      clear M1
      go_wp2_with fail
      go_ret
      exact ⟨by rw [← HEQ.out]; rfl, HBE.out⟩
end Go.Proofs.Ytbgabdofnmijnaa
