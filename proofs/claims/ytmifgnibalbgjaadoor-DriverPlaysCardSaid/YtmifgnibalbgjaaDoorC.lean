/- What one operation is: whether it may be, whether it writes, the lock that it needs; whether a plan may be (the program's, and the document's). -/
import Derived.Test.YtmifgnibalbgjaaDoorB
import Derived.Test.YtmifgnibalbgjaaDoorRA
namespace Go.Proofs.YtmifgnibalbgjaaDoor
open Go.RowKit
theorem bcell {W w1 : World} (hb : Below W.heap.size W w1) : (∀ b o, b < W.heap.size → w1.cell? ⟨b, o, none⟩ = W.cell? ⟨b, o, none⟩) ∧ (∀ b o, b < W.heap.size → w1.frozen? ⟨b, o, none⟩ = W.frozen? ⟨b, o, none⟩) :=
  ⟨fun b o h => hb.cell (p := ⟨b, o, none⟩) h, fun b o h => hb.frozen (p := ⟨b, o, none⟩) h⟩
def opV (x : Opp) : Value := .agg #[.int .i64 x.kind, .string x.key, .string x.value, .int .i64 x.n]
def rsV (r : Rs) : Value := .agg #[.string r.v, .bool r.h]
/-- may an operation be? -/
def keyB (s : ByteArray) : Bool := !s.toList.isEmpty && decide ((s.size : Int) ≤ 16)
def opB (o : Opp) : Bool :=
  if o.kind = 6 then true
  else if o.kind = 2 then !decide (32 < (o.value.size : Int)) && keyB o.key
  else if o.kind = 5 then !(decide (o.n < -1125899906842624) || decide (1125899906842624 < o.n)) && keyB o.key
  else (o.kind == 1 || o.kind == 3 || o.kind == 4) && keyB o.key
def wrB (k : Int) : Bool := decide (2 ≤ k) && decide (k ≤ 5)
def modeN (k : Int) : Int := if wrB k then 2 else if k = 1 then 1 else 0
theorem keyB_iff (s : ByteArray) : keyB s = !badStr s := by
  unfold keyB badStr
  rw [Bool.not_or]
  congr 1
  rw [← decide_not]
  exact decide_eq_decide.2 (by omega)
set_option maxRecDepth 100000 in
set_option maxHeartbeats 1600000 in
theorem op_any (x : Opp) (w : World) : Calls Tryd.prog 41 #[opV x] w fun e w' => e = .returned (.bool (opB x)) ∧ Below w.heap.size w w' := by
  obtain ⟨k, y, v, n⟩ := x
  unfold opB opV keyB
  simp only
  by_cases h6 : k = 6
  · subst h6
    rw [if_pos rfl]
    go_enter Tryd.func41, Tryd.ntmps41
    go_wp2_with fail
    go_ret
    exact ⟨rfl, bel_new _ _⟩
  rw [if_neg h6]
  have b6 : (k == 6) = false := by simpa using h6
  by_cases h2 : k = 2
  · subst h2
    rw [if_pos rfl]
    clear b6 h6
    by_cases hv : 32 < (v.size : Int)
    · have hd : decide (32 < (v.size : Int)) = true := by simpa using hv
      rw [hd]
      clear hd
      go_enter Tryd.func41, Tryd.ntmps41
      go_wp2_with fail
      go_ret
      exact ⟨rfl, bel_new _ _⟩
    · have hd : decide (32 < (v.size : Int)) = false := by simpa using hv
      rw [hd]
      clear hd
      cases hy : y.toList.isEmpty
      all_goals
        go_enter Tryd.func41, Tryd.ntmps41
        go_wp2_with fail
        go_ret
        exact ⟨rfl, bel_new _ _⟩
  rw [if_neg h2]
  have b2 : (k == 2) = false := by simpa using h2
  by_cases h5 : k = 5
  · subst h5
    rw [if_pos rfl]
    clear b2 h2 b6 h6
    by_cases hl : n < -1125899906842624
    · have hd : decide (n < -1125899906842624) = true := by simpa using hl
      rw [hd]
      clear hd
      go_enter Tryd.func41, Tryd.ntmps41
      go_wp2_with fail
      go_ret
      exact ⟨rfl, bel_new _ _⟩
    · have hd : decide (n < -1125899906842624) = false := by simpa using hl
      rw [hd]
      clear hd
      by_cases hg : 1125899906842624 < n
      · have hd : decide (1125899906842624 < n) = true := by simpa using hg
        rw [hd]
        clear hd
        go_enter Tryd.func41, Tryd.ntmps41
        go_wp2_with fail
        go_ret
        exact ⟨rfl, bel_new _ _⟩
      · have hd : decide (1125899906842624 < n) = false := by simpa using hg
        rw [hd]
        clear hd
        cases hy : y.toList.isEmpty
        all_goals
          go_enter Tryd.func41, Tryd.ntmps41
          go_wp2_with fail
          go_ret
          exact ⟨rfl, bel_new _ _⟩
  rw [if_neg h5]
  have b5 : (k == 5) = false := by simpa using h5
  by_cases h1 : k = 1
  · subst h1
    clear b2 h2 b6 h6 b5 h5
    cases hy : y.toList.isEmpty
    all_goals
      go_enter Tryd.func41, Tryd.ntmps41
      go_wp2_with fail
      go_ret
      exact ⟨rfl, bel_new _ _⟩
  have b1 : (k == 1) = false := by simpa using h1
  by_cases h3 : k = 3
  · subst h3
    clear b2 h2 b6 h6 b5 h5 b1 h1
    cases hy : y.toList.isEmpty
    all_goals
      go_enter Tryd.func41, Tryd.ntmps41
      go_wp2_with fail
      go_ret
      exact ⟨rfl, bel_new _ _⟩
  have b3 : (k == 3) = false := by simpa using h3
  by_cases h4 : k = 4
  · subst h4
    clear b2 h2 b6 h6 b5 h5 b1 h1 b3 h3
    cases hy : y.toList.isEmpty
    all_goals
      go_enter Tryd.func41, Tryd.ntmps41
      go_wp2_with fail
      go_ret
      exact ⟨rfl, bel_new _ _⟩
  have b4 : (k == 4) = false := by simpa using h4
  rw [b1, b3, b4]
  clear h1 h2 h3 h4 h5 h6
  go_enter Tryd.func41, Tryd.ntmps41
  go_wp2_with fail
  go_ret
  exact ⟨rfl, bel_new _ _⟩
set_option maxHeartbeats 800000 in
theorem writes_any (x : Opp) (w : World) : Calls Tryd.prog 50 #[opV x] w fun e w' => e = .returned (.bool (wrB x.kind)) ∧ Below w.heap.size w w' := by
  obtain ⟨k, y, v, n⟩ := x
  unfold wrB opV
  simp only
  by_cases h2 : 2 ≤ k
  · have hd : decide (2 ≤ k) = true := by simpa using h2
    rw [hd]
    clear hd
    go_enter Tryd.func50, Tryd.ntmps50
    go_wp2_with fail
    go_ret
    exact ⟨rfl, bel_new _ _⟩
  · have hd : decide (2 ≤ k) = false := by simpa using h2
    rw [hd]
    clear hd
    go_enter Tryd.func50, Tryd.ntmps50
    go_wp2_with fail
    go_ret
    exact ⟨rfl, bel_new _ _⟩
set_option maxHeartbeats 800000 in
theorem mode_any (x : Opp) (w : World) : Calls Tryd.prog 43 #[opV x] w fun e w' => e = .returned (.int .i64 (modeN x.kind)) ∧ Below w.heap.size w w' := by
  obtain ⟨k, y, v, n⟩ := x
  have HW := Lib.hid fun W => writes_any ⟨k, y, v, n⟩ W
  unfold opV at HW ⊢
  unfold modeN
  simp only at HW ⊢
  cases hw : wrB k with
  | true =>
    rw [hw] at HW
    clear hw
    go_enter Tryd.func43, Tryd.ntmps43
    go_wp2_with (go_at_call 50; refine (HW.out _).mono ?_; rintro e w1 ⟨rfl, hb⟩)
    go_ret
    exact ⟨rfl, (bel_new w _).trans (hb.mono (bel_new w _).size)⟩
  | false =>
    rw [hw] at HW
    clear hw
    by_cases h1 : k = 1
    · subst h1
      go_enter Tryd.func43, Tryd.ntmps43
      go_wp2_with fail
      refine (HW.out _).mono ?_
      rintro e w1 ⟨rfl, hb⟩
      obtain ⟨hc, hf⟩ := bcell hb
      go_wp2_with fail
      go_ret
      exact ⟨rfl, (bel_new w _).trans (hb.mono (bel_new w _).size)⟩
    · have b1 : (k == 1) = false := by simpa using h1
      rw [if_neg (by decide), if_neg h1]
      clear h1
      go_enter Tryd.func43, Tryd.ntmps43
      go_wp2_with fail
      refine (HW.out _).mono ?_
      rintro e w1 ⟨rfl, hb⟩
      obtain ⟨hc, hf⟩ := bcell hb
      go_wp2_with fail
      go_ret
      exact ⟨rfl, (bel_new w _).trans (hb.mono (bel_new w _).size)⟩
end Go.Proofs.YtmifgnibalbgjaaDoor
