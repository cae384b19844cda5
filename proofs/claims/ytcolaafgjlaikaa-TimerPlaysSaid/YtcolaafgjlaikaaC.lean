/- The order of two timers. -/
import Derived.Test.YtcolaafgjlaikaaB
namespace Go.Proofs.Ytcolaafgjlaikaa
open Go.RowKit

def cmpI (a b : Int) : Int := if a < b then -1 else if b < a then 1 else 0

set_option maxHeartbeats 400000 in
theorem pt_isnan (a : Int) (w : World) : Calls Try.prog 40 #[.int .i64 a] w fun e w' => e = .returned (.bool false) ∧ w = w' := by
  go_enter Try.func40, Try.ntmps40
  go_wp2_with fail
  go_ret
  exact ⟨by simp, rfl⟩

theorem cmpI_cases (a b : Int) : (a < b ∧ cmpI a b = -1) ∨ (b < a ∧ cmpI a b = 1) ∨ (a = b ∧ cmpI a b = 0) := by
  unfold cmpI; split
  · exact Or.inl ⟨by assumption, rfl⟩
  · split
    · exact Or.inr (Or.inl ⟨by assumption, rfl⟩)
    · exact Or.inr (Or.inr ⟨by omega, rfl⟩)

set_option maxHeartbeats 400000 in
theorem pt_compare (a b : Int) (w : World) : Calls Try.prog 35 #[.int .i64 a, .int .i64 b] w fun e w' => e = .returned (.int .i64 (cmpI a b)) ∧ w = w' := by
  have h0 := cmpI_cases a b
  generalize cmpI a b = r at *
  go_enter Try.func35, Try.ntmps35
  go_wp2_with fail
  refine (pt_isnan a _).mono ?_
  rintro e w1 ⟨rfl, rfl⟩
  go_wp2_with fail
  refine (pt_isnan b _).mono ?_
  rintro e w1 ⟨rfl, rfl⟩
  rcases h0 with ⟨h1, rfl⟩ | ⟨h1, rfl⟩ | ⟨rfl, rfl⟩
  · go_wp2_with fail
    go_ret
    exact ⟨rfl, rfl⟩
  · have h2 : ¬ a < b := by omega
    go_wp2_with fail
    go_ret
    exact ⟨rfl, rfl⟩
  · go_wp2_with fail
    go_ret
    exact ⟨rfl, rfl⟩

def orI (a b : Int) : Int := if a = 0 then b else a
theorem orI_cases (a b : Int) : (a = 0 ∧ orI a b = b) ∨ (a ≠ 0 ∧ orI a b = a) := by
  unfold orI; split
  · exact Or.inl ⟨by assumption, rfl⟩
  · exact Or.inr ⟨by assumption, rfl⟩

set_option maxHeartbeats 800000 in
theorem pt_or (g : Nat) (a b : Int) (w : World) (h0 : w.cell? ⟨g, 0, none⟩ = some (.int .i64 a)) (h1 : w.cell? ⟨g, 1, none⟩ = some (.int .i64 b)) :
    Calls Try.prog 34 #[.slice (some ⟨g, 0, none⟩) 2 2] w fun e w' => e = .returned (.int .i64 (orI a b)) ∧ w = w' := by
  have hr := orI_cases a b
  generalize orI a b = r at *
  go_enter Try.func34, Try.ntmps34
  go_wp2_with fail
  go_loopw [8] (fun i wr => w = wr ∧ (i = .int .i64 0 ∨ (i = .int .i64 1 ∧ a = 0) ∨ (i = .int .i64 2 ∧ a = 0 ∧ b = 0))) (fun i _ => (2 - intOf i).toNat)
  case atStart => exact ⟨rfl, Or.inl rfl⟩
  case round =>
    obtain ⟨rfl, ⟨rfl⟩ | ⟨rfl, rfl⟩ | ⟨rfl, rfl, rfl⟩⟩ := hrel
    · rcases hr with ⟨rfl, rfl⟩ | ⟨ha, rfl⟩
      · go_wp2_with fail
        go_roundw
        case rel => simp
        case measure => simp [intOf]
      · go_wp2_with fail
        go_ret
        exact ⟨rfl, rfl⟩
    · obtain ⟨_, rfl⟩ | ⟨h, _⟩ := hr
      · by_cases hb : r = 0
        · subst hb
          go_wp2_with fail
          go_roundw
          case rel => simp
          case measure => simp [intOf]
        · go_wp2_with fail
          go_ret
          exact ⟨rfl, rfl⟩
      · exact absurd rfl h
    · obtain ⟨_, rfl⟩ | ⟨h, _⟩ := hr
      · go_wp2_with fail
        go_ret
        exact ⟨rfl, rfl⟩
      · exact absurd rfl h

def cmpT (x y : Tm) : Int := orI (cmpI x.due y.due) (cmpI x.id y.id)

set_option maxHeartbeats 2000000 in
theorem pt_put1 (x y : Tm) (w : World) : Calls Try.prog 33 #[.agg #[.int .i64 x.id, .int .i64 x.due, .int .i64 x.every], .agg #[.int .i64 y.id, .int .i64 y.due, .int .i64 y.every]] w
    fun e w' => e = .returned (.int .i64 (cmpT x y)) ∧ Below w.heap.size w w' := by
  obtain ⟨xi, xd, xe⟩ := x
  obtain ⟨yi, yd, ye⟩ := y
  unfold cmpT
  simp only
  go_enter Try.func33, Try.ntmps33
  go_wp2_with fail
  go_region_held3 (fun w' => w'.cell? ⟨w.heap.size, 0, none⟩ = some (.int .i64 xi) ∧ w'.cell? ⟨w.heap.size, 1, none⟩ = some (.int .i64 xd) ∧ w'.cell? ⟨w.heap.size + 1, 0, none⟩ = some (.int .i64 yi) ∧ w'.cell? ⟨w.heap.size + 1, 1, none⟩ = some (.int .i64 yd)) (simp [go_sem, World.cell?_alloc_past])
    (first
      | ((go_at_call 35; refine (pt_compare _ _ _).mono ?_; rintro e w' ⟨rfl, rfl⟩))
      | ((go_at_call 34; refine (pt_or _ (cmpI xd yd) (cmpI xi yi) _ (by simp [go_sem, World.cell?_alloc_past]) (by simp [go_sem, World.cell?_alloc_past])).mono ?_; rintro e w' ⟨rfl, rfl⟩)))
  all_goals
    go_wp2_with fail
    go_ret
    exact ⟨rfl, by repeat (first | exact Below.refl _ _ | refine Below.drew ?_ | refine Below.alloc ?_ (by simp <;> omega) _)⟩
end Go.Proofs.Ytcolaafgjlaikaa
