/- The orders: of numbers, of texts. -/
import Derived.Test.YtnemgmlhcjhdhaaD
import Derived.Lib.SlicesS
import Derived.Sort.Walk0
namespace Go.Proofs.Ytnemgmlhcjhdhaa
open Go.RowKit

def cmpI (a b : Int) : Int := if a < b then -1 else if b < a then 1 else 0
theorem cmpI_cases (a b : Int) : (a < b ∧ cmpI a b = -1) ∨ (b < a ∧ cmpI a b = 1) ∨ (a = b ∧ cmpI a b = 0) := by
  unfold cmpI; split
  · exact Or.inl ⟨by assumption, rfl⟩
  · split
    · exact Or.inr (Or.inl ⟨by assumption, rfl⟩)
    · exact Or.inr (Or.inr ⟨by omega, rfl⟩)
set_option maxHeartbeats 400000 in
theorem isnan_int (a : Int) (w : World) : Calls Try.prog 94 #[.int .i64 a] w fun e w' => e = .returned (.bool false) ∧ w = w' := by
  go_enter Try.func94, Try.ntmps94
  go_wp2_with fail
  go_ret
  exact ⟨by simp, rfl⟩
set_option maxHeartbeats 400000 in
theorem compare_int (a b : Int) (w : World) : Calls Try.prog 79 #[.int .i64 a, .int .i64 b] w fun e w' => e = .returned (.int .i64 (cmpI a b)) ∧ w = w' := by
  have h0 := cmpI_cases a b
  generalize cmpI a b = r at *
  go_enter Try.func79, Try.ntmps79
  go_wp2_with fail
  refine (isnan_int a _).mono ?_
  rintro e w1 ⟨rfl, rfl⟩
  go_wp2_with fail
  refine (isnan_int b _).mono ?_
  rintro e w1 ⟨rfl, rfl⟩
  rcases h0 with ⟨h1, rfl⟩ | ⟨h1, rfl⟩ | ⟨rfl, rfl⟩
  · go_wp2_with fail
    go_ret
    exact ⟨rfl, rfl⟩
  · have h2 : ¬ a < b := by omega
    go_wp2_with fail
    go_ret
    exact ⟨rfl, rfl⟩
  · go_wp2_with fail
    go_ret
    exact ⟨rfl, rfl⟩

/-- texts in their order. -/
def ltS (a b : ByteArray) : Bool := Op.bytesLess a.toList b.toList
def cmpS (a b : ByteArray) : Int := if ltS a b then -1 else if ltS b a then 1 else 0
theorem ltS_iff (a b : ByteArray) : ltS a b = true ↔ a.toList < b.toList := by
  unfold ltS; rw [Go.Proofs.bytesLess_eq]; simp
theorem toList_inj {s t : ByteArray} (h : s.toList = t.toList) : s = t := (Lib.bytes_beq_iff s t).1 (beq_iff_eq.2 h)
theorem ltS_irrefl (a : ByteArray) : ltS a a = false := by
  cases h : ltS a a with
  | false => rfl
  | true => exact absurd ((ltS_iff a a).1 h) (Std.lt_irrefl)
theorem ltS_trans {a b c : ByteArray} (h : ltS a b = true) (k : ltS b c = true) : ltS a c = true := (ltS_iff a c).2 (Std.lt_trans ((ltS_iff a b).1 h) ((ltS_iff b c).1 k))
theorem ltS_asymm {a b : ByteArray} (h : ltS a b = true) : ltS b a = false := by
  cases k : ltS b a with
  | false => rfl
  | true => have := ltS_trans h k; rw [ltS_irrefl] at this; cases this
theorem ltS_total (a b : ByteArray) : ltS a b = true ∨ ltS b a = true ∨ a = b := by
  by_cases h : ltS a b = true
  · exact .inl h
  · by_cases e : a = b
    · exact .inr (.inr e)
    · refine .inr (.inl ((ltS_iff b a).2 ?_))
      have h1 : ¬ a.toList < b.toList := fun hl => h ((ltS_iff a b).2 hl)
      exact Std.lt_of_le_of_ne (List.not_lt.1 h1) fun hh => e (toList_inj hh.symm)
theorem cmpS_cases (a b : ByteArray) : (ltS a b = true ∧ cmpS a b = -1) ∨ (ltS a b = false ∧ ltS b a = true ∧ cmpS a b = 1) ∨ (ltS a b = false ∧ ltS b a = false ∧ a = b ∧ cmpS a b = 0) := by
  unfold cmpS
  cases h : ltS a b with
  | true => exact .inl ⟨rfl, rfl⟩
  | false =>
    cases k : ltS b a with
    | true => exact .inr (.inl ⟨rfl, rfl, rfl⟩)
    | false =>
      rcases ltS_total a b with h' | h' | h'
      · rw [h] at h'; cases h'
      · rw [k] at h'; cases h'
      · exact .inr (.inr ⟨rfl, rfl, h', rfl⟩)
set_option maxHeartbeats 400000 in
theorem isnan_str (a : ByteArray) (w : World) : Calls Try.prog 91 #[.string a] w fun e w' => e = .returned (.bool false) ∧ w = w' := by
  go_enter Try.func91, Try.ntmps91
  go_wp2_with fail
  go_ret
  exact ⟨by simp, rfl⟩
set_option maxHeartbeats 400000 in
theorem compare_str (a b : ByteArray) (w : World) : Calls Try.prog 67 #[.string a, .string b] w fun e w' => e = .returned (.int .i64 (cmpS a b)) ∧ w = w' := by
  have h0 := cmpS_cases a b
  generalize cmpS a b = r at *
  go_enter Try.func67, Try.ntmps67
  go_wp2_with fail
  refine (isnan_str a _).mono ?_
  rintro e w1 ⟨rfl, rfl⟩
  go_wp2_with fail
  refine (isnan_str b _).mono ?_
  rintro e w1 ⟨rfl, rfl⟩
  rcases h0 with ⟨h1, rfl⟩ | ⟨h1, h2, rfl⟩ | ⟨h1, h2, rfl, rfl⟩
  · unfold ltS at h1
    go_wp2_with fail
    go_ret
    exact ⟨rfl, rfl⟩
  · have hne : (a.toList == b.toList) = false := by
      rw [beq_eq_false_iff_ne]
      intro e
      obtain rfl := toList_inj e
      rw [ltS_irrefl] at h2; cases h2
    unfold ltS at h1 h2
    go_wp2_with fail
    go_ret
    exact ⟨rfl, rfl⟩
  · unfold ltS at h1
    go_wp2_with fail
    go_ret
    exact ⟨rfl, rfl⟩

set_option maxHeartbeats 800000 in
theorem put1_any (x : Hd) (t : Int) (w : World) : Calls Try.prog 78 #[.agg #[.int .i64 x.owner, .int .i64 x.mode], .int .i64 t] w fun e w' => e = .returned (.int .i64 (cmpI x.owner t)) ∧ Below w.heap.size w w' := by
  obtain ⟨xi, xd⟩ := x
  simp only
  go_enter Try.func78, Try.ntmps78
  go_wp2_with fail
  refine (compare_int xi t _).mono ?_
  rintro e w1 ⟨rfl, rfl⟩
  go_wp2_with fail
  go_ret
  exact ⟨rfl, Below.alloc (Below.refl _ _) (Nat.le_refl _) _⟩
set_option maxHeartbeats 800000 in
theorem line1_any (x : Ln) (t : ByteArray) (w : World) : Calls Try.prog 66 #[.agg #[.string x.key, .slice x.hs.a x.hs.n x.hs.c, .slice x.qs.a x.qs.n x.qs.c], .string t] w fun e w' => e = .returned (.int .i64 (cmpS x.key t)) ∧ Below w.heap.size w w' := by
  obtain ⟨xk, ⟨ha, hn, hc⟩, ⟨qa, qn, qc⟩⟩ := x
  simp only
  go_enter Try.func66, Try.ntmps66
  go_wp2_with fail
  refine (compare_str xk t _).mono ?_
  rintro e w1 ⟨rfl, rfl⟩
  go_wp2_with fail
  go_ret
  exact ⟨rfl, Below.alloc (Below.refl _ _) (Nat.le_refl _) _⟩
end Go.Proofs.Ytnemgmlhcjhdhaa
