/- New and Next. -/
import Derived.Test.YtcolaafgjlaikaaM
namespace Go.Proofs.Ytcolaafgjlaikaa
open Go.RowKit

def node0 : Nd := ⟨0, none, 0, []⟩

set_option maxHeartbeats 400000 in
theorem pt_new_bad (n : Int) (hn : n < 1 ∨ 7 < n) (w : World) : Calls Try.prog 7 #[.int .i64 n] w fun e w' => e = .returned (.pointer none) ∧ w = w' := by
  by_cases h : n < 1
  · clear hn
    go_enter Try.func7, Try.ntmps7
    go_wp2_with fail
    go_ret
    exact ⟨rfl, rfl⟩
  · have h2 : 7 < n := by omega
    clear hn
    go_enter Try.func7, Try.ntmps7
    go_wp2_with fail
    go_ret
    exact ⟨rfl, rfl⟩

/-- a new board. -/
def NewPost (n : Nat) (w : World) (e : Ending) (w' : World) : Prop := ∃ p N, e = .returned (.pointer (some ⟨p, 0, none⟩)) ∧ Bd w' p N (List.replicate n node0) ∧ Below w.heap.size w w' ∧ w.heap.size ≤ p ∧ w.heap.size ≤ N

theorem new_post (n : Nat) (w : World) (w1 w' : World) (hw1 : w1 = w.alloc (.cells (ncells (List.replicate n node0)).toArray 58)) (hw : w' = w1.alloc (.cells #[.slice (some ⟨w.heap.size, 0, none⟩) n n] 51)) :
    NewPost n w (.returned (.pointer (some ⟨w.heap.size + 1, 0, none⟩))) w' := by
  have hs : w1.heap.size = w.heap.size + 1 := by rw [hw1]; simp
  have hb1 : Below w.heap.size w w1 := by rw [hw1]; exact Below.alloc (Below.refl _ _) (Nat.le_refl _) _
  have hb2 : Below w1.heap.size w1 w' := by rw [hw]; exact Below.alloc (Below.refl _ _) (Nat.le_refl _) _
  refine ⟨_, w.heap.size, rfl, ⟨?_, ?_, by omega, ?_, ?_, ?_⟩, hb1.trans (hb2.mono (by omega)), by omega, Nat.le_refl _⟩
  · rw [List.length_replicate, hw, ← hs]
    show (w1.heap.push _)[w1.heap.size]? = _
    rw [Array.getElem?_push, if_pos rfl]
  · rw [hb2.block _ (by omega), hw1]
    show (w.heap.push _)[w.heap.size]? = _
    rw [Array.getElem?_push, if_pos rfl]
  · intro i hi
    rw [List.getElem_replicate]
    exact Row.nil _ _ _
  · intro i hi
    rw [List.getElem_replicate]
    exact ⟨fun h => (by cases h), fun h => (by cases h)⟩
  · intro i j hi hj _ g hg
    rw [List.getElem_replicate] at hg
    cases hg

set_option maxRecDepth 100000 in
set_option maxHeartbeats 800000 in
theorem pt_new1 (w : World) : Calls Try.prog 7 #[.int .i64 1] w (NewPost 1 w) := by
  have hmk : ∀ w, (Instr.makeSlice 49 (.int .i64 1) (.int .i64 1)).run Try.prog w = .ok (.slice (some ⟨w.heap.size, 0, none⟩) 1 1) (w.alloc (.cells (ncells (List.replicate 1 node0)).toArray 58)) := fun _ => by kernel_rfl
  have hfin := new_post 1 w _ _ rfl rfl
  generalize NewPost 1 w = R at *
  generalize (ncells (List.replicate 1 node0)).toArray = cs at *
  go_enter Try.func7, Try.ntmps7
  go_wp2_with fail
  exact hfin
set_option maxRecDepth 100000 in
set_option maxHeartbeats 800000 in
theorem pt_new2 (w : World) : Calls Try.prog 7 #[.int .i64 2] w (NewPost 2 w) := by
  have hmk : ∀ w, (Instr.makeSlice 49 (.int .i64 2) (.int .i64 2)).run Try.prog w = .ok (.slice (some ⟨w.heap.size, 0, none⟩) 2 2) (w.alloc (.cells (ncells (List.replicate 2 node0)).toArray 58)) := fun _ => by kernel_rfl
  have hfin := new_post 2 w _ _ rfl rfl
  generalize NewPost 2 w = R at *
  generalize (ncells (List.replicate 2 node0)).toArray = cs at *
  go_enter Try.func7, Try.ntmps7
  go_wp2_with fail
  exact hfin
set_option maxRecDepth 100000 in
set_option maxHeartbeats 800000 in
theorem pt_new3 (w : World) : Calls Try.prog 7 #[.int .i64 3] w (NewPost 3 w) := by
  have hmk : ∀ w, (Instr.makeSlice 49 (.int .i64 3) (.int .i64 3)).run Try.prog w = .ok (.slice (some ⟨w.heap.size, 0, none⟩) 3 3) (w.alloc (.cells (ncells (List.replicate 3 node0)).toArray 58)) := fun _ => by kernel_rfl
  have hfin := new_post 3 w _ _ rfl rfl
  generalize NewPost 3 w = R at *
  generalize (ncells (List.replicate 3 node0)).toArray = cs at *
  go_enter Try.func7, Try.ntmps7
  go_wp2_with fail
  exact hfin
set_option maxRecDepth 100000 in
set_option maxHeartbeats 800000 in
theorem pt_new4 (w : World) : Calls Try.prog 7 #[.int .i64 4] w (NewPost 4 w) := by
  have hmk : ∀ w, (Instr.makeSlice 49 (.int .i64 4) (.int .i64 4)).run Try.prog w = .ok (.slice (some ⟨w.heap.size, 0, none⟩) 4 4) (w.alloc (.cells (ncells (List.replicate 4 node0)).toArray 58)) := fun _ => by kernel_rfl
  have hfin := new_post 4 w _ _ rfl rfl
  generalize NewPost 4 w = R at *
  generalize (ncells (List.replicate 4 node0)).toArray = cs at *
  go_enter Try.func7, Try.ntmps7
  go_wp2_with fail
  exact hfin
set_option maxRecDepth 100000 in
set_option maxHeartbeats 800000 in
theorem pt_new5 (w : World) : Calls Try.prog 7 #[.int .i64 5] w (NewPost 5 w) := by
  have hmk : ∀ w, (Instr.makeSlice 49 (.int .i64 5) (.int .i64 5)).run Try.prog w = .ok (.slice (some ⟨w.heap.size, 0, none⟩) 5 5) (w.alloc (.cells (ncells (List.replicate 5 node0)).toArray 58)) := fun _ => by kernel_rfl
  have hfin := new_post 5 w _ _ rfl rfl
  generalize NewPost 5 w = R at *
  generalize (ncells (List.replicate 5 node0)).toArray = cs at *
  go_enter Try.func7, Try.ntmps7
  go_wp2_with fail
  exact hfin
set_option maxRecDepth 100000 in
set_option maxHeartbeats 800000 in
theorem pt_new6 (w : World) : Calls Try.prog 7 #[.int .i64 6] w (NewPost 6 w) := by
  have hmk : ∀ w, (Instr.makeSlice 49 (.int .i64 6) (.int .i64 6)).run Try.prog w = .ok (.slice (some ⟨w.heap.size, 0, none⟩) 6 6) (w.alloc (.cells (ncells (List.replicate 6 node0)).toArray 58)) := fun _ => by kernel_rfl
  have hfin := new_post 6 w _ _ rfl rfl
  generalize NewPost 6 w = R at *
  generalize (ncells (List.replicate 6 node0)).toArray = cs at *
  go_enter Try.func7, Try.ntmps7
  go_wp2_with fail
  exact hfin
set_option maxRecDepth 100000 in
set_option maxHeartbeats 800000 in
theorem pt_new7 (w : World) : Calls Try.prog 7 #[.int .i64 7] w (NewPost 7 w) := by
  have hmk : ∀ w, (Instr.makeSlice 49 (.int .i64 7) (.int .i64 7)).run Try.prog w = .ok (.slice (some ⟨w.heap.size, 0, none⟩) 7 7) (w.alloc (.cells (ncells (List.replicate 7 node0)).toArray 58)) := fun _ => by kernel_rfl
  have hfin := new_post 7 w _ _ rfl rfl
  generalize NewPost 7 w = R at *
  generalize (ncells (List.replicate 7 node0)).toArray = cs at *
  go_enter Try.func7, Try.ntmps7
  go_wp2_with fail
  exact hfin

theorem pt_new (n : Nat) (h1 : 1 ≤ n) (h7 : n ≤ 7) (w : World) : Calls Try.prog 7 #[.int .i64 n] w (NewPost n w) := by
  rcases (show n = 1 ∨ n = 2 ∨ n = 3 ∨ n = 4 ∨ n = 5 ∨ n = 6 ∨ n = 7 by omega) with rfl | rfl | rfl | rfl | rfl | rfl | rfl
  · exact pt_new1 w
  · exact pt_new2 w
  · exact pt_new3 w
  · exact pt_new4 w
  · exact pt_new5 w
  · exact pt_new6 w
  · exact pt_new7 w

end Go.Proofs.Ytcolaafgjlaikaa
