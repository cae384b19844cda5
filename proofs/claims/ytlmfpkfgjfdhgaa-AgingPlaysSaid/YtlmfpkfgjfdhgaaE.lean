/- The orders: of numbers, of texts, of members by age. -/
import Derived.Test.YtlmfpkfgjfdhgaaD
import Derived.Lib.SlicesS
import Derived.Sort.Walk0
namespace Go.Proofs.Ytlmfpkfgjfdhgaa
open Go.RowKit

def cmpI (a b : Int) : Int := if a < b then -1 else if b < a then 1 else 0
theorem cmpI_cases (a b : Int) : (a < b ∧ cmpI a b = -1) ∨ (b < a ∧ cmpI a b = 1) ∨ (a = b ∧ cmpI a b = 0) := by
  unfold cmpI; split
  · exact Or.inl ⟨by assumption, rfl⟩
  · split
    · exact Or.inr (Or.inl ⟨by assumption, rfl⟩)
    · exact Or.inr (Or.inr ⟨by omega, rfl⟩)
set_option maxHeartbeats 400000 in
theorem isnan_int (a : Int) (w : World) : Calls Try.prog 67 #[.int .i64 a] w fun e w' => e = .returned (.bool false) ∧ w = w' := by
  go_enter Try.func67, Try.ntmps67
  go_wp2_with fail
  go_ret
  exact ⟨by simp, rfl⟩
set_option maxHeartbeats 400000 in
theorem compare_int (a b : Int) (w : World) : Calls Try.prog 54 #[.int .i64 a, .int .i64 b] w fun e w' => e = .returned (.int .i64 (cmpI a b)) ∧ w = w' := by
  have h0 := cmpI_cases a b
  generalize cmpI a b = r at *
  go_enter Try.func54, Try.ntmps54
  go_wp2_with fail
  refine (isnan_int a _).mono ?_
  rintro e w1 ⟨rfl, rfl⟩
  go_wp2_with fail
  refine (isnan_int b _).mono ?_
  rintro e w1 ⟨rfl, rfl⟩
  rcases h0 with ⟨h1, rfl⟩ | ⟨h1, rfl⟩ | ⟨rfl, rfl⟩
  · go_wp2_with fail
    go_ret
    exact ⟨rfl, rfl⟩
  · have h2 : ¬ a < b := by omega
    go_wp2_with fail
    go_ret
    exact ⟨rfl, rfl⟩
  · go_wp2_with fail
    go_ret
    exact ⟨rfl, rfl⟩

/-- texts in their order. -/
def ltS (a b : ByteArray) : Bool := Op.bytesLess a.toList b.toList
def cmpS (a b : ByteArray) : Int := if ltS a b then -1 else if ltS b a then 1 else 0
theorem ltS_iff (a b : ByteArray) : ltS a b = true ↔ a.toList < b.toList := by
  unfold ltS; rw [Go.Proofs.bytesLess_eq]; simp
theorem toList_inj {s t : ByteArray} (h : s.toList = t.toList) : s = t := (Lib.bytes_beq_iff s t).1 (beq_iff_eq.2 h)
theorem ltS_irrefl (a : ByteArray) : ltS a a = false := by
  cases h : ltS a a with
  | false => rfl
  | true => exact absurd ((ltS_iff a a).1 h) (Std.lt_irrefl)
theorem ltS_trans {a b c : ByteArray} (h : ltS a b = true) (k : ltS b c = true) : ltS a c = true := (ltS_iff a c).2 (Std.lt_trans ((ltS_iff a b).1 h) ((ltS_iff b c).1 k))
theorem ltS_asymm {a b : ByteArray} (h : ltS a b = true) : ltS b a = false := by
  cases k : ltS b a with
  | false => rfl
  | true => have := ltS_trans h k; rw [ltS_irrefl] at this; cases this
theorem ltS_total (a b : ByteArray) : ltS a b = true ∨ ltS b a = true ∨ a = b := by
  by_cases h : ltS a b = true
  · exact .inl h
  · by_cases e : a = b
    · exact .inr (.inr e)
    · refine .inr (.inl ((ltS_iff b a).2 ?_))
      have h1 : ¬ a.toList < b.toList := fun hl => h ((ltS_iff a b).2 hl)
      exact Std.lt_of_le_of_ne (List.not_lt.1 h1) fun hh => e (toList_inj hh.symm)
theorem cmpS_cases (a b : ByteArray) : (ltS a b = true ∧ cmpS a b = -1) ∨ (ltS a b = false ∧ ltS b a = true ∧ cmpS a b = 1) ∨ (ltS a b = false ∧ ltS b a = false ∧ a = b ∧ cmpS a b = 0) := by
  unfold cmpS
  cases h : ltS a b with
  | true => exact .inl ⟨rfl, rfl⟩
  | false =>
    cases k : ltS b a with
    | true => exact .inr (.inl ⟨rfl, rfl, rfl⟩)
    | false =>
      rcases ltS_total a b with h' | h' | h'
      · rw [h] at h'; cases h'
      · rw [k] at h'; cases h'
      · exact .inr (.inr ⟨rfl, rfl, h', rfl⟩)
set_option maxHeartbeats 400000 in
theorem isnan_str (a : ByteArray) (w : World) : Calls Try.prog 70 #[.string a] w fun e w' => e = .returned (.bool false) ∧ w = w' := by
  go_enter Try.func70, Try.ntmps70
  go_wp2_with fail
  go_ret
  exact ⟨by simp, rfl⟩
set_option maxHeartbeats 400000 in
theorem compare_str (a b : ByteArray) (w : World) : Calls Try.prog 61 #[.string a, .string b] w fun e w' => e = .returned (.int .i64 (cmpS a b)) ∧ w = w' := by
  have h0 := cmpS_cases a b
  generalize cmpS a b = r at *
  go_enter Try.func61, Try.ntmps61
  go_wp2_with fail
  refine (isnan_str a _).mono ?_
  rintro e w1 ⟨rfl, rfl⟩
  go_wp2_with fail
  refine (isnan_str b _).mono ?_
  rintro e w1 ⟨rfl, rfl⟩
  rcases h0 with ⟨h1, rfl⟩ | ⟨h1, h2, rfl⟩ | ⟨h1, h2, rfl, rfl⟩
  · unfold ltS at h1
    go_wp2_with fail
    go_ret
    exact ⟨rfl, rfl⟩
  · have hne : (a.toList == b.toList) = false := by
      rw [beq_eq_false_iff_ne]
      intro e
      obtain rfl := toList_inj e
      rw [ltS_irrefl] at h2; cases h2
    unfold ltS at h1 h2
    go_wp2_with fail
    go_ret
    exact ⟨rfl, rfl⟩
  · unfold ltS at h1
    go_wp2_with fail
    go_ret
    exact ⟨rfl, rfl⟩

def orI (a b : Int) : Int := if a = 0 then b else a
theorem orI_cases (a b : Int) : (a = 0 ∧ orI a b = b) ∨ (a ≠ 0 ∧ orI a b = a) := by
  unfold orI; split
  · exact Or.inl ⟨by assumption, rfl⟩
  · exact Or.inr ⟨by assumption, rfl⟩
set_option maxHeartbeats 800000 in
theorem or_any (g : Nat) (a b : Int) (w : World) (h0 : w.cell? ⟨g, 0, none⟩ = some (.int .i64 a)) (h1 : w.cell? ⟨g, 1, none⟩ = some (.int .i64 b)) :
    Calls Try.prog 64 #[.slice (some ⟨g, 0, none⟩) 2 2] w fun e w' => e = .returned (.int .i64 (orI a b)) ∧ w = w' := by
  have hr := orI_cases a b
  generalize orI a b = r at *
  go_enter Try.func64, Try.ntmps64
  go_wp2_with fail
  go_loopw [8] (fun i wr => w = wr ∧ (i = .int .i64 0 ∨ (i = .int .i64 1 ∧ a = 0) ∨ (i = .int .i64 2 ∧ a = 0 ∧ b = 0))) (fun i _ => (2 - intOf i).toNat)
  case atStart => exact ⟨rfl, Or.inl rfl⟩
  case round =>
    obtain ⟨rfl, ⟨rfl⟩ | ⟨rfl, rfl⟩ | ⟨rfl, rfl, rfl⟩⟩ := hrel
    · rcases hr with ⟨rfl, rfl⟩ | ⟨ha, rfl⟩
      · go_wp2_with fail
        go_roundw
        case rel => simp
        case measure => simp [intOf]
      · go_wp2_with fail
        go_ret
        exact ⟨rfl, rfl⟩
    · obtain ⟨_, rfl⟩ | ⟨h, _⟩ := hr
      · by_cases hb : r = 0
        · subst hb
          go_wp2_with fail
          go_roundw
          case rel => simp
          case measure => simp [intOf]
        · go_wp2_with fail
          go_ret
          exact ⟨rfl, rfl⟩
      · exact absurd rfl h
    · obtain ⟨_, rfl⟩ | ⟨h, _⟩ := hr
      · go_wp2_with fail
        go_ret
        exact ⟨rfl, rfl⟩
      · exact absurd rfl h

/-- by age. -/
def ageC (x y : Mb) : Int := orI (cmpI x.stamp y.stamp) (cmpI x.id y.id)
set_option maxHeartbeats 2000000 in
theorem age_any (x y : Mb) (w : World) : Calls Try.prog 40 #[.agg #[.int .i64 x.id, .int .i64 x.stamp, .bool x.waits, .string x.key], .agg #[.int .i64 y.id, .int .i64 y.stamp, .bool y.waits, .string y.key]] w
    fun e w' => e = .returned (.int .i64 (ageC x y)) ∧ Below w.heap.size w w' := by
  obtain ⟨xi, xd, xw, xk⟩ := x
  obtain ⟨yi, yd, yw, yk⟩ := y
  unfold ageC
  simp only
  go_enter Try.func40, Try.ntmps40
  go_wp2_with fail
  go_region_held3 (fun w' => w'.cell? ⟨w.heap.size, 0, none⟩ = some (.int .i64 xi) ∧ w'.cell? ⟨w.heap.size, 1, none⟩ = some (.int .i64 xd) ∧ w'.cell? ⟨w.heap.size + 1, 0, none⟩ = some (.int .i64 yi) ∧ w'.cell? ⟨w.heap.size + 1, 1, none⟩ = some (.int .i64 yd)) (simp [go_sem, World.cell?_alloc_past])
    (first
      | ((go_at_call 54; refine (compare_int _ _ _).mono ?_; rintro e w' ⟨rfl, rfl⟩))
      | ((go_at_call 64; refine (or_any _ (cmpI xd yd) (cmpI xi yi) _ (by simp [go_sem, World.cell?_alloc_past]) (by simp [go_sem, World.cell?_alloc_past])).mono ?_; rintro e w' ⟨rfl, rfl⟩)))
  all_goals
    go_wp2_with fail
    go_ret
    exact ⟨rfl, by repeat (first | exact Below.refl _ _ | refine Below.drew ?_ | refine Below.alloc ?_ (by simp <;> omega) _)⟩
set_option maxHeartbeats 800000 in
theorem find1_any (x : Mb) (t : Int) (w : World) : Calls Try.prog 53 #[.agg #[.int .i64 x.id, .int .i64 x.stamp, .bool x.waits, .string x.key], .int .i64 t] w fun e w' => e = .returned (.int .i64 (cmpI x.id t)) ∧ Below w.heap.size w w' := by
  obtain ⟨xi, xd, xw, xk⟩ := x
  simp only
  go_enter Try.func53, Try.ntmps53
  go_wp2_with fail
  refine (compare_int xi t _).mono ?_
  rintro e w1 ⟨rfl, rfl⟩
  go_wp2_with fail
  go_ret
  exact ⟨rfl, Below.alloc (Below.refl _ _) (Nat.le_refl _) _⟩
set_option maxHeartbeats 800000 in
theorem place1_any (x : Lk) (t : ByteArray) (w : World) : Calls Try.prog 60 #[.agg #[.string x.key, .int .i64 x.holder], .string t] w fun e w' => e = .returned (.int .i64 (cmpS x.key t)) ∧ Below w.heap.size w w' := by
  obtain ⟨xk, xh⟩ := x
  simp only
  go_enter Try.func60, Try.ntmps60
  go_wp2_with fail
  refine (compare_str xk t _).mono ?_
  rintro e w1 ⟨rfl, rfl⟩
  go_wp2_with fail
  go_ret
  exact ⟨rfl, Below.alloc (Below.refl _ _) (Nat.le_refl _) _⟩
end Go.Proofs.Ytlmfpkfgjfdhgaa
