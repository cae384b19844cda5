/- slices.Delete at texts: what it answers, and what becomes of the row. -/
import Derived.Test.YteocoijkfkoddaaOwn
import Derived.Test.YteocoijkfkoddaaRows
import Derived.Deep.RegionLaw
namespace Go.Proofs.Yteocoijkfkoddaa
open Go.RowKit

theorem delS_info : (Try.prog.info? 9).map (fun i => (i.zero, i.size, i.bytes)) = some (some (.string ⟨#[]⟩), 1, 16) := by kernel_rfl
theorem delS_size : (Try.prog.info? 9).map (·.size) = some 1 := by kernel_rfl
theorem delS_zero (w : World) : (zeroValue 9).run Try.prog w = .ok (.string ⟨#[]⟩) w := by kernel_rfl
set_option maxRecDepth 100000 in
set_option maxHeartbeats 2000000 in
theorem delS_any (g n c i : Nat) (cur : Array Value) (xs : List Value) (w : World) (hg : w.heap[g]? = some (.cells cur 9 (0, 0))) (hcs : cur.size = c * 1) (hnc : n ≤ c) (hcm : c ≤ maxLen) (htk : cur.toList.take (n * 1) = xs)
    (honex : ∀ u ∈ xs, u.oneCell' = true) (hi : i < n) :
    Calls Try.prog 29 #[.slice (some ⟨g, 0, none⟩) n c, .int .i64 i, .int .i64 ((i : Int) + 1)] w fun e w' => e = .returned (.slice (some ⟨g, 0, none⟩) (n - 1) c) ∧ Row w' 9 1 (some ⟨g, 0, none⟩) (n - 1) c (xs.take (i * 1) ++ xs.drop ((i + 1) * 1)) ∧ Touch [g] w w' := by
  obtain ⟨i0, hi0, hz0, hz1, hz2⟩ := info_parts delS_info
  have hxl : xs.length = n * 1 := by rw [← htk, List.length_take, Array.length_toList, hcs]; exact Nat.min_eq_left (Nat.mul_le_mul_right _ hnc)
  obtain ⟨C1, hC1⟩ : ∃ C1 : Array Value, (cur.toList.take (i * 1) ++ xs.drop ((i + 1) * 1) ++ cur.toList.drop (i * 1 + (n - (i + 1)) * 1)).toArray = C1 := ⟨_, rfl⟩
  have hdl : (xs.drop ((i + 1) * 1)).length = (n - (i + 1)) * 1 := by rw [List.length_drop, hxl, ← Nat.sub_mul]
  have hik : i * 1 + (n - (i + 1)) * 1 = (n - 1) * 1 := by rw [← Nat.add_mul]; congr 1; omega
  have hcell : ∀ j u, xs[j]? = some u → w.cell? ⟨g, j, none⟩ = some u := fun j u hj => by
    rw [← htk, List.getElem?_take] at hj
    split at hj
    · unfold World.cell?; rw [show (⟨g, j, none⟩ : Addr).block = g from rfl, hg]; simpa using hj
    · cases hj
  have hnk : (n - 1) * 1 ≤ n * 1 := Nat.mul_le_mul_right _ (by omega)
  have hck : n * 1 ≤ c * 1 := Nat.mul_le_mul_right _ hnc
  have hins : i * 1 ≤ (n - 1) * 1 := Nat.mul_le_mul_right _ (by omega)
  have hap : ∀ p : Addr, (n ≠ i + 1 → p = ⟨g, (i + 1) * 1, none⟩) → (Builtin.append_ #[22, 22] 22 #[.slice (some ⟨g, 0, none⟩) i c, .slice (some p) (n - (i + 1)) (c - (i + 1))]).run Try.prog w.drew = .ok (.slice (some ⟨g, 0, none⟩) (n - 1) c) (w.drew.setRow g C1) := fun p hp => by
    have := run_append_room (P := Try.prog) w.drew 22 22 9 i0 Try.underlying22 hi0 g i c cur hg p (n - (i + 1)) (c - (i + 1)) (xs.drop ((i + 1) * 1)) (by rw [hdl, hz1])
      (fun j u hj => by
        have hne : n ≠ i + 1 := fun e => by
          have hl0 : (xs.drop ((i + 1) * 1)).length = 0 := by rw [hdl, e, Nat.sub_self, Nat.zero_mul]
          rw [List.eq_nil_of_length_eq_zero hl0] at hj
          simp at hj
        rw [hp hne, Addr.add_lit]; rw [List.getElem?_drop] at hj; exact hcell _ _ hj) (fun u hu => honex u (List.mem_of_mem_drop hu)) (by omega) (by rw [hz1, hdl, hik, hcs]; omega)
    rw [this, hz1, hdl, hC1, show i + (n - (i + 1)) = n - 1 by omega]
  have hC1n : (w.drew.setRow g C1).heap[g]? = some (.cells C1 9 (0, 0)) := setRow_heap _ g cur C1 9 _ hg
  have hC1l : C1.toList = xs.take (i * 1) ++ xs.drop ((i + 1) * 1) ++ cur.toList.drop ((n - 1) * 1) := by
    rw [← hC1, ← hik]
    have : cur.toList.take (i * 1) = xs.take (i * 1) := by rw [← htk, List.take_take, Nat.min_eq_left (by omega)]
    rw [this]
  have htl : (xs.take (i * 1)).length = i * 1 := by rw [List.length_take, hxl]; omega
  have hC1s : C1.size = c * 1 := by rw [← Array.length_toList, hC1l]; simp only [List.length_append, htl, hdl, List.length_drop, Array.length_toList, hcs]; omega
  obtain ⟨C2, hC2⟩ : ∃ C2 : Array Value, (C1.toList.take ((n - 1) * 1) ++ (Builtin.zeroCells (Value.cells (.string ⟨#[]⟩)) 1).toList ++ C1.toList.drop ((n - 1) * 1 + 1 * 1)).toArray = C2 := ⟨_, rfl⟩
  have hcl : (Builtin.clear_ #[22] 0 #[.slice (some ⟨g, (n - 1) * 1, none⟩) 1 (c - (n - 1))]).run Try.prog (w.drew.setRow g C1) = .ok (.tuple #[]) ((w.drew.setRow g C1).setRow g C2) := by
    have := run_clear_k (P := Try.prog) (w.drew.setRow g C1) 22 9 0 (.string ⟨#[]⟩) Try.underlying22 (delS_zero _) (by decide) g ((n - 1) * 1) 1 (c - (n - 1)) C1 9 (by omega) hC1n (by
      rw [hC1s, show (Value.cells (.string ⟨#[]⟩)).size = 1 from rfl, ← Nat.add_mul]; exact Nat.mul_le_mul_right _ (by omega))
    rw [this, ← hC2]; rfl
  have hfin : Hid (Row ((w.drew.setRow g C1).setRow g C2) 9 1 (some ⟨g, 0, none⟩) (n - 1) c (xs.take (i * 1) ++ xs.drop ((i + 1) * 1)) ∧ Touch [g] w ((w.drew.setRow g C1).setRow g C2)) := Lib.hid (by
    have hlen : (xs.take (i * 1) ++ xs.drop ((i + 1) * 1)).length = (n - 1) * 1 := by rw [List.length_append, htl, hdl, hik]
    have h1 : C1.toList.take ((n - 1) * 1) = xs.take (i * 1) ++ xs.drop ((i + 1) * 1) := by rw [hC1l, ← hlen]; exact List.take_left
    have hzl : (Builtin.zeroCells (Value.cells (.string ⟨#[]⟩)) 1).toList.length = 1 * 1 := by rw [Array.length_toList, size_zeroCells]; rfl
    have hn1 : (n - 1) * 1 + 1 * 1 ≤ c * 1 := by rw [← Nat.add_mul]; exact Nat.mul_le_mul_right _ (by omega)
    refine ⟨Row.mk (cur := C2) (setRow_heap _ g C1 C2 9 _ hC1n) (by omega) hcm ?_ ?_, ((Touch.drew _ _).andThen (Touch.setRow _ g C1 (by simp))).andThen (Touch.setRow _ g C2 (by simp))⟩
    · rw [← Array.length_toList, ← hC2]; simp only [List.length_append, h1, hlen, hzl, List.length_drop, Array.length_toList, hC1s]; omega
    · rw [← hC2, List.toList_toArray, h1, List.append_assoc, ← hlen]; exact List.take_left)
  try simp only [Nat.mul_one] at hap hcl
  have H1 := Lib.hid hap
  have H2 := Lib.hid hcl
  have hb1 : i + 1 ≤ n := by omega
  have hb2 : n ≤ c := hnc
  have hb3 : ¬ (c = i) := by omega
  have hb6 : c ≤ 9223372036854775807 := by unfold maxLen at hcm; omega
  have hbe : ((i : Int) == (i : Int) + 1) = false := beq_eq_false_iff_ne.2 (by omega)
  clear hap hcl hC2 hC1s htl hC1l hC1n hins hck hnk hcell hik hdl hC1 hxl htk hcs hg honex hcm hnc hz0 hz1 hz2 hi0
  by_cases hci : c = i + 1
  · obtain rfl : n = i + 1 := by omega
    subst hci
    have H1' : Hid ((Builtin.append_ #[22, 22] 22 #[.slice (some ⟨g, 0, none⟩) i (i + 1), .slice (some ⟨g, 0, none⟩) 0 0]).run Try.prog w.drew = .ok (.slice (some ⟨g, 0, none⟩) i (i + 1)) (w.drew.setRow g C1)) := Lib.hid (by
      have := H1.out ⟨g, 0, none⟩ (fun h => absurd rfl h)
      simpa using this)
    have H2' : Hid ((Builtin.clear_ #[22] 0 #[.slice (some ⟨g, i, none⟩) 1 1]).run Try.prog (w.drew.setRow g C1) = .ok (.tuple #[]) ((w.drew.setRow g C1).setRow g C2)) := Lib.hid (by
      have := H2.out
      simpa using this)
    have hr2 : (0 : Int) ≤ (i : Int) + 1 := by omega
    have hr3 : ((i : Int) + 1).toNat = i + 1 := by omega
    have hr7 : (i : Int) ≤ (i : Int) + 1 := by omega
    go_enter Try.func29, Try.ntmps29
    go_wp2_with fail
    go_region_law (refine step_appendR rfl (.tmp 22) (.tmp 25) 22 22 rfl (.slice (some ⟨g, 0, none⟩) i (i + 1)) (.slice (some ⟨g, 0, none⟩) 0 0) (by simp [Act.eval, Act.put]) (by simp [Act.eval, Act.put]) H1'.out ?_)
    clear hr2 hr3 hr7
    have hq2 := H2'.out
    go_wp2_with fail
    go_ret
    exact ⟨rfl, hfin.out.1, hfin.out.2⟩
  · have hr2 : (0 : Int) ≤ (i : Int) + 1 := by omega
    have hr3 : ((i : Int) + 1).toNat = i + 1 := by omega
    have hr5 : (i : Int) + 1 ≤ (n : Int) := by omega
    have hr8 : i ≤ c := by omega
    have hr9 : i + 1 ≤ n := by omega
    have H1' := Lib.hid (H1.out ⟨g, (i + 1), none⟩ (fun _ => rfl))
    go_enter Try.func29, Try.ntmps29
    go_wp2_with fail
    go_region_law (refine step_appendR rfl (.tmp 22) (.tmp 25) 22 22 rfl (.slice (some ⟨g, 0, none⟩) i c) (.slice (some ⟨g, (i + 1), none⟩) (n - (i + 1)) (c - (i + 1))) (by simp [Act.eval, Act.put]) (by simp [Act.eval, Act.put]) H1'.out ?_)
    clear hr2 hr3 hr5
    have hq2 : (Builtin.clear_ #[22] 0 #[.slice (some ⟨g, (n - 1), none⟩) (n - (n - 1)) (c - (n - 1))]).run Try.prog (w.drew.setRow g C1) = .ok (.tuple #[]) ((w.drew.setRow g C1).setRow g C2) := by
      rw [show n - (n - 1) = 1 by omega]; exact H2.out
    go_wp2_with fail
    go_ret
    exact ⟨rfl, hfin.out.1, hfin.out.2⟩

end Go.Proofs.Yteocoijkfkoddaa
