/- slices.Insert at ints: what it answers, and what becomes of the rows. -/
import Derived.Test.YtmifgnibalbgjaaDoorOwn
import Derived.Test.YtmifgnibalbgjaaDoorProg
import Derived.Laws.Externs
import Derived.Deep.RegionLaw
namespace Go.Proofs.YtmifgnibalbgjaaDoor
open Go.RowKit

/-- The element type's zero value, cells and bytes. -/
theorem insI_info : (Tryd.prog.info? 3).map (fun i => (i.zero, i.size, i.bytes)) = some (some (.int .i64 0), 1, 8) := by kernel_rfl
theorem insI_size : (Tryd.prog.info? 3).map (·.size) = some 1 := by kernel_rfl
theorem insI_over (w : World) (g vb o la ca lb cb : Nat) (cur vs : Array Value) (hne : vb ≠ g) (hv : w.heap[vb]? = some (.cells vs 3 (0, 0))) (hg : w.heap[g]? = some (.cells cur 3 (0, 0))) (hpos : 0 < cur.size) :
    (callFunc 62 #[.slice (some ⟨vb, 0, none⟩) la ca, .slice (some ⟨g, o, none⟩) lb cb]).run Tryd.prog w = .ok (.value (.bool false)) w := by
  rw [run_callFunc_extern Tryd.func62 (by kernel_rfl) (by kernel_rfl) (by kernel_rfl) (e := Extern.SlicesOverlaps.overlaps #[67, 67] #[4]) (by kernel_rfl)]
  have hsz : ∀ w, (Go.sizeOf 3).run Tryd.prog w = .ok 1 w := fun _ => by kernel_rfl
  rw [Lib.run_overlaps_apart w 67 4 3 Tryd.underlying67 1 hsz ⟨vb, 0, none⟩ ⟨g, o, none⟩ la ca lb cb hne 3 3 vs.size cur.size (by unfold World.shape?; rw [hv]) (by unfold World.shape?; rw [hg]) (by omega)
    (by unfold World.frozen?; rw [show (⟨vb, 0, none⟩ : Addr).block = vb from rfl, hv]; simp) (by unfold World.frozen?; rw [show (⟨vb, vs.size, none⟩ : Addr).block = vb from rfl, hv]; simp)]
  rfl

set_option maxRecDepth 100000 in
set_option maxHeartbeats 1000000 in
theorem insI_end (a : Option Addr) (n c vb : Nat) (xs : List Value) (vs : List Value) (w : World) (hr : Row w 3 1 a n c xs) (hv : w.heap[vb]? = some (.cells vs.toArray 3 (0, 0))) (hvl : vs.length = 1)
    (hone : ∀ u ∈ vs, u.oneCell' = true) (hbig : (n + 1) * 8 ≤ 140737488355328) :
    Calls Tryd.prog 55 #[.slice a n c, .int .i64 n, .slice (some ⟨vb, 0, none⟩) 1 1] w fun e w' => ∃ a' c', e = .returned (.slice a' (n + 1) c') ∧ Row w' 3 1 a' (n + 1) c' (xs ++ vs) ∧ Touch (blkOf a) w w' ∧ Fresh w a a' := by
  obtain ⟨i0, hi, hz0, hz1, hz2⟩ := info_parts insI_info
  have hcl : ∀ j u, vs[j]? = some u → w.cell? ((⟨vb, 0, none⟩ : Addr).add j) = some u := fun j u hj => by
    rw [Addr.add_lit]; unfold World.cell?; rw [show (⟨vb, 0 + j, none⟩ : Addr).block = vb from rfl, hv]; simpa using hj
  have hnc : n ≤ c := by rcases hr.out with ⟨_, rfl, rfl, _⟩ | ⟨g, cur, _, _, h, _⟩; exact Nat.le_refl _; exact h
  obtain ⟨a', c', w', hrun, hown, ht, hf⟩ := run_append_row (P := Tryd.prog) w 67 67 3 i0 (.int .i64 0) 1 8 Tryd.underlying67 hi hz0 hz1 hz2 rfl (by decide) a n c xs hr ⟨vb, 0, none⟩ 1 1 vs (by rw [hvl, Nat.one_mul]) hcl hone (by unfold maxLen; omega) hbig
  have hb : n < 9223372036854775807 := by omega
  have HN := Lib.hid hnc
  have HF : Hid (Row w' 3 1 a' (n + 1) c' (xs ++ vs) ∧ Touch (blkOf a) w w' ∧ Fresh w a a') := Lib.hid ⟨hown, ht, hf⟩
  have HR := Lib.hid hrun
  clear hrun hown ht hf hcl hv hr hi hz0 hz1 hz2
  by_cases hcn : c = n
  · subst hcn
    go_enter Tryd.func55, Tryd.ntmps55
    go_wp2_with (at_builtin; refine wpList_appendR _ rfl _ _ 67 67 rfl _ _ rfl rfl HR.out ?_)
    go_ret
    exact ⟨_, _, rfl, HF.out⟩
  · go_enter Tryd.func55, Tryd.ntmps55
    go_wp2_with (at_builtin; refine wpList_appendR _ rfl _ _ 67 67 rfl _ _ rfl rfl HR.out ?_)
    go_ret
    exact ⟨_, _, rfl, HF.out⟩

set_option maxRecDepth 100000 in
set_option maxHeartbeats 2000000 in
theorem insI_room (g n c i vb : Nat) (cur : Array Value) (xs vs : List Value) (w : World) (hg : w.heap[g]? = some (.cells cur 3 (0, 0))) (hcs : cur.size = c * 1) (hcm : c ≤ maxLen) (htk : cur.toList.take (n * 1) = xs)
    (hv : w.heap[vb]? = some (.cells vs.toArray 3 (0, 0))) (hvl : vs.length = 1) (hne : vb ≠ g) (honex : ∀ u ∈ xs, u.oneCell' = true) (hone : ∀ u ∈ vs, u.oneCell' = true) (hi : i < n) (hroom : n + 1 ≤ c) :
    Calls Tryd.prog 55 #[.slice (some ⟨g, 0, none⟩) n c, .int .i64 i, .slice (some ⟨vb, 0, none⟩) 1 1] w fun e w' => e = .returned (.slice (some ⟨g, 0, none⟩) (n + 1) c) ∧ Row w' 3 1 (some ⟨g, 0, none⟩) (n + 1) c (xs.take (i * 1) ++ vs ++ xs.drop (i * 1)) ∧ Touch [g] w w' := by
  have hcl0 : 0 < cur.size := by omega
  have hxl : xs.length = n * 1 := by rw [← htk, List.length_take, Array.length_toList]; omega
  obtain ⟨L1, L2, L3⟩ := ins_list cur.toList xs vs n i c 1 hi hroom (by rw [Array.length_toList]; exact hcs) htk hvl
  have hov := fun la ca o lb cb => insI_over w g vb o la ca lb cb cur vs.toArray hne hv hg hcl0
  -- the first copy: what stands from i on moves one place up
  obtain ⟨C1, hC1⟩ : ∃ C1 : Array Value, C1 = (cur.toList.take ((i + 1) * 1) ++ xs.drop (i * 1) ++ cur.toList.drop ((n + 1) * 1)).toArray := ⟨_, rfl⟩
  have hdl : (xs.drop (i * 1)).length = (n - i) * 1 := by rw [List.length_drop, hxl]; omega
  have hcp1 : ∀ ty dc sc, (Builtin.copy_ #[67, 67] ty #[.slice (some ⟨g, (i + 1) * 1, none⟩) (n - i) dc, .slice (some ⟨g, i * 1, none⟩) (n + 1 - i) sc]).run Tryd.prog w.drew = .ok (goInt (n - i : Nat)) (w.drew.setRow g C1) := fun ty dc sc => by
    have := run_copy_k (P := Tryd.prog) w.drew 67 67 ty 3 1 g ((i + 1) * 1) (n - i) dc ⟨g, i * 1, none⟩ (n + 1 - i) sc cur 3 (xs.drop (i * 1)) (n - i) Tryd.underlying67 insI_size hg (by simp only [Nat.min_def]; split <;> omega) hdl
      (fun j u hj => by
        rw [Addr.add_lit]
        rw [List.getElem?_drop, ← htk, List.getElem?_take] at hj
        split at hj
        · unfold World.cell?; rw [show (⟨g, i * 1 + j, none⟩ : Addr).block = g from rfl, show w.drew.heap[g]? = _ from hg]; simpa using hj
        · cases hj)
      (by rw [hdl]; omega) (fun u hu => honex u (List.mem_of_mem_drop hu))
    rw [this, hC1, hdl, show (i + 1) * 1 + (n - i) * 1 = (n + 1) * 1 by rw [← Nat.add_mul]; congr 1; omega]
  have hg1 : (w.drew.setRow g C1).heap[g]? = some (.cells C1 3 (0, 0)) := setRow_heap _ g cur C1 3 _ hg
  have hC1s : C1.size = c * 1 := by rw [hC1, List.size_toArray]; exact L3
  obtain ⟨C2, hC2⟩ : ∃ C2 : Array Value, C2 = (C1.toList.take (i * 1) ++ vs ++ C1.toList.drop (i * 1 + 1)).toArray := ⟨_, rfl⟩
  have hcp2 : ∀ (W : World), W.heap[g]? = some (.cells C1 3 (0, 0)) → W.heap[vb]? = some (.cells vs.toArray 3 (0, 0)) → ∀ ty dc, (Builtin.copy_ #[67, 67] ty #[.slice (some ⟨g, i * 1, none⟩) (n + 1 - i) dc, .slice (some ⟨vb, 0, none⟩) 1 1]).run Tryd.prog W = .ok (goInt (1 : Nat)) (W.setRow g C2) := fun W hW hWv ty dc => by
    have := run_copy_k (P := Tryd.prog) W 67 67 ty 3 1 g (i * 1) (n + 1 - i) dc ⟨vb, 0, none⟩ 1 1 C1 3 vs 1 Tryd.underlying67 insI_size hW (by simp only [Nat.min_def]; split <;> omega) (by rw [hvl])
      (fun j u hj => by rw [Addr.add_lit]; unfold World.cell?; rw [show (⟨vb, 0 + j, none⟩ : Addr).block = vb from rfl, hWv]; simpa using hj)
      (by rw [hvl, hC1s]; omega) hone
    rw [this, hC2, hvl]
  have hfin : Hid (Row ((w.drew.setRow g C1).setRow g C2) 3 1 (some ⟨g, 0, none⟩) (n + 1) c (xs.take (i * 1) ++ vs ++ xs.drop (i * 1)) ∧ Touch [g] w ((w.drew.setRow g C1).setRow g C2)) := Lib.hid (by
    refine ⟨Row.mk (cur := C2) (setRow_heap _ g C1 C2 3 _ hg1) hroom hcm ?_ ?_, ((Touch.drew _ _).andThen (Touch.setRow _ g C1 (by simp))).andThen (Touch.setRow _ g C2 (by simp))⟩
    · rw [hC2, List.size_toArray, hC1]; exact L2
    · rw [hC2, List.toList_toArray, hC1]; exact L1)
  have hv1 : (w.drew.setRow g C1).heap[vb]? = some (.cells vs.toArray 3 (0, 0)) := by rw [setRow_other _ g vb C1 hne]; exact hv
  have hcp3 := hcp2 _ hg1 hv1
  try simp only [Nat.mul_one] at hcp1 hcp3
  have H1 := Lib.hid hcp1
  have H2 := Lib.hid hcp3
  have HC : Hid (c = c) := Lib.hid rfl
  have hb1 : i ≤ n := by omega
  have hb2 : n + 1 ≤ 9223372036854775807 := by unfold maxLen at hcm; omega
  have hb3 : ¬ (c = i) := by omega
  have hb4 : ¬ (c = i + 1) := by omega
  clear hcp1 hcp2 hcp3 hg1 hC1s hC1 hC2 hdl hv1 L1 L2 L3 hxl hcl0 htk hcs hg hv hvl honex hone hcm
  go_enter Tryd.func55, Tryd.ntmps55
  go_wp2_with (simp only [hov])
  have hr1 : IntKind.i64.wrap ((i : Int) + 1) = (i : Int) + 1 := by rw [IntKind.wrap_i64]; omega
  have hr2 : (0 : Int) ≤ (i : Int) + 1 := by omega
  have hr3 : ((i : Int) + 1).toNat = i + 1 := by omega
  have hr4 : (i : Int) ≤ (n : Int) + 1 := by omega
  have hr5 : (i : Int) + 1 ≤ (n : Int) + 1 := by omega
  have hq := fun dc sc => H1.out 3 dc sc
  go_region
  clear hq hr1 hr2 hr3 hr4 hr5
  have hq2 := fun dc => H2.out 3 dc
  go_wp2_with fail
  go_ret
  exact ⟨rfl, hfin.out.1, hfin.out.2⟩

set_option maxRecDepth 100000 in
set_option maxHeartbeats 2000000 in
theorem insI_grow (g n i vb : Nat) (cur : Array Value) (xs vs : List Value) (w : World) (hg : w.heap[g]? = some (.cells cur 3 (0, 0))) (hcs : cur.size = n * 1) (hcm : n ≤ maxLen) (htk : cur.toList.take (n * 1) = xs)
    (hv : w.heap[vb]? = some (.cells vs.toArray 3 (0, 0))) (hvl : vs.length = 1) (honex : ∀ u ∈ xs, u.oneCell' = true) (hone : ∀ u ∈ vs, u.oneCell' = true) (hi : i < n) (hbig : (n + 1) * 8 ≤ 140737488355328) :
    Calls Tryd.prog 55 #[.slice (some ⟨g, 0, none⟩) n n, .int .i64 i, .slice (some ⟨vb, 0, none⟩) 1 1] w fun e w' => ∃ a' c', e = .returned (.slice a' (n + 1) c') ∧ Row w' 3 1 a' (n + 1) c' (xs.take (i * 1) ++ vs ++ xs.drop (i * 1)) ∧ (∀ x, a' = some x → x.block = w.heap.size) ∧ Touch [] w w' := by
  obtain ⟨i0, hi0, hz0, hz1, hz2⟩ := info_parts insI_info
  have hxl : xs.length = n * 1 := by rw [← htk, List.length_take, Array.length_toList]; omega
  have hgl : g < w.heap.size := (Array.getElem?_eq_some_iff.1 hg).1
  have hvbl : vb < w.heap.size := (Array.getElem?_eq_some_iff.1 hv).1
  have hcell : ∀ (W : World), W.heap[g]? = some (.cells cur 3 (0, 0)) → ∀ j u, xs[j]? = some u → W.cell? ⟨g, j, none⟩ = some u := fun W hW j u hj => by
    rw [← htk, List.getElem?_take] at hj
    split at hj
    · unfold World.cell?; rw [show (⟨g, j, none⟩ : Addr).block = g from rfl, hW]; simpa using hj
    · cases hj
  have hik : i * 1 ≤ n * 1 := Nat.mul_le_mul_right _ (by omega)
  have htl : (xs.take (i * 1)).length = i * 1 := by rw [List.length_take]; omega
  have hold : (Builtin.firstCells i0.size i (.slice (some ⟨g, 0, none⟩) i n)).run Tryd.prog w.drew = .ok (xs.take (i * 1)).toArray w.drew := by
    rw [hz1]
    exact run_firstCells_some w.drew 1 i ⟨g, 0, none⟩ i n (xs.take (i * 1)) (by rw [htl]) (fun j u hj => by
      rw [Addr.add_lit, Nat.zero_add]
      rw [List.getElem?_take] at hj
      split at hj
      · exact hcell w.drew hg j u hj
      · cases hj)
  have hrun := run_append_zeros_grow (P := Tryd.prog) w 67 3 67 3 i0 (.int .i64 0) .i64 .i64 Tryd.underlying67 Tryd.underlying3 hi0 hz0 (some ⟨g, 0, none⟩) i n (xs.take (i * 1)) hold (n + 1 - i) (by omega) (by rw [hz1]; decide) (by omega) (by omega) (by rw [hz2]; rw [show i + (n + 1 - i) = n + 1 by omega]; exact hbig)
  rw [show i + (n + 1 - i) = n + 1 by omega] at hrun
  obtain ⟨cc, hcc⟩ : ∃ cc, grownCap w (n + 1) n 3 = cc := ⟨_, rfl⟩
  have hccge : n + 1 ≤ cc := hcc ▸ grownCap_ge _ _ _ _
  have hccle : cc ≤ maxLen := hcc ▸ grownCap_le_maxLen _ _ _ _ (by unfold maxLen; omega)
  rw [hcc] at hrun
  obtain ⟨zs, hzs⟩ : ∃ zs, (Builtin.zeroCells (Value.cells (.int .i64 0)) (n + 1 - i)).toList = zs := ⟨_, rfl⟩
  obtain ⟨rs, hrs⟩ : ∃ rs, (Builtin.zeroCells (Value.cells (.int .i64 0)) (cc - (n + 1))).toList = rs := ⟨_, rfl⟩
  have hzl : zs.length = (n + 1 - i) * 1 := by rw [← hzs, Array.length_toList, size_zeroCells]; rfl
  have hrl : rs.length = (cc - (n + 1)) * 1 := by rw [← hrs, Array.length_toList, size_zeroCells]; rfl
  obtain ⟨C0, hC0⟩ : ∃ C0 : Array Value, (xs.take (i * 1) ++ zs ++ rs).toArray = C0 := ⟨_, rfl⟩
  have hC0' : (xs.take (i * 1)).toArray ++ Builtin.zeroCells (Value.cells (.int .i64 0)) (n + 1 - i) ++ Builtin.zeroCells (Value.cells (.int .i64 0)) (cc - (n + 1)) = C0 := by
    rw [← hC0, ← hzs, ← hrs]; simp
  rw [hC0'] at hrun
  obtain ⟨N1, N2, N3⟩ := ins_new xs vs zs rs n i 1 hi hxl hvl hzl
  have hC0s : C0.size = cc * 1 := by rw [← hC0, List.size_toArray]; rw [N3, hrl, ← Nat.add_mul]; congr 1; omega
  obtain ⟨C1, hC1⟩ : ∃ C1 : Array Value, (C0.toList.take (i * 1) ++ vs ++ C0.toList.drop (i * 1 + 1)).toArray = C1 := ⟨_, rfl⟩
  have hC0l : C0.toList = xs.take (i * 1) ++ zs ++ rs := by rw [← hC0]
  have hC1s : C1.size = cc * 1 := by rw [← hC1, List.size_toArray, hC0l, N2, ← hC0l, Array.length_toList, hC0s]
  obtain ⟨C2, hC2⟩ : ∃ C2 : Array Value, (C1.toList.take ((i + 1) * 1) ++ xs.drop (i * 1) ++ C1.toList.drop ((n + 1) * 1)).toArray = C2 := ⟨_, rfl⟩
  have hC2l : C2.toList = xs.take (i * 1) ++ vs ++ xs.drop (i * 1) ++ rs := by rw [← hC2, ← hC1, hC0l]; exact N1
  have hdl : (xs.drop (i * 1)).length = (n - i) * 1 := by rw [List.length_drop, hxl]; omega
  -- the worlds
  obtain ⟨W0, hW0⟩ : ∃ W0, w.drew.alloc (.cells C0 3) = W0 := ⟨_, rfl⟩
  have hW0n : W0.heap[w.heap.size]? = some (.cells C0 3 (0, 0)) := hW0 ▸ heap_alloc_new w.drew _
  have hW0t : Touch [] w W0 := hW0 ▸ (Touch.drew _ _).andThen (Touch.alloc _ _ _)
  rw [hW0] at hrun
  have hin1 : (i + 1) * 1 ≤ (n + 1) * 1 := Nat.mul_le_mul_right _ (by omega)
  have hnc1 : (n + 1) * 1 ≤ cc * 1 := Nat.mul_le_mul_right _ hccge
  have hcp1 : ∀ ty dc, (Builtin.copy_ #[67, 67] ty #[.slice (some ⟨w.heap.size, i * 1, none⟩) (n + 1 - i) dc, .slice (some ⟨vb, 0, none⟩) 1 1]).run Tryd.prog W0 = .ok (goInt (1 : Nat)) (W0.setRow w.heap.size C1) := fun ty dc => by
    have := run_copy_k (P := Tryd.prog) W0 67 67 ty 3 1 w.heap.size (i * 1) (n + 1 - i) dc ⟨vb, 0, none⟩ 1 1 C0 3 vs 1 Tryd.underlying67 insI_size hW0n (by simp only [Nat.min_def]; split <;> omega) (by rw [hvl])
      (fun j u hj => by rw [Addr.add_lit]; unfold World.cell?; rw [show (⟨vb, 0 + j, none⟩ : Addr).block = vb from rfl, hW0t.heap hv (by simp)]; simpa using hj)
      (by rw [hvl, hC0s]; omega) hone
    rw [this, hvl, hC1]
  have hW1n : (W0.setRow w.heap.size C1).drew.heap[w.heap.size]? = some (.cells C1 3 (0, 0)) := setRow_heap _ _ C0 C1 3 _ hW0n
  have hW1g : (W0.setRow w.heap.size C1).drew.heap[g]? = some (.cells cur 3 (0, 0)) := (setRow_other _ _ g C1 (by omega)).trans (hW0t.heap hg (by simp))
  have hcp2 : ∀ ty dc sc, (Builtin.copy_ #[67, 67] ty #[.slice (some ⟨w.heap.size, (i + 1) * 1, none⟩) (n - i) dc, .slice (some ⟨g, i * 1, none⟩) (n - i) sc]).run Tryd.prog (W0.setRow w.heap.size C1).drew = .ok (goInt (n - i : Nat)) ((W0.setRow w.heap.size C1).drew.setRow w.heap.size C2) := fun ty dc sc => by
    have := run_copy_k (P := Tryd.prog) (W0.setRow w.heap.size C1).drew 67 67 ty 3 1 w.heap.size ((i + 1) * 1) (n - i) dc ⟨g, i * 1, none⟩ (n - i) sc C1 3 (xs.drop (i * 1)) (n - i) Tryd.underlying67 insI_size hW1n (by simp only [Nat.min_def]; split <;> omega) hdl
      (fun j u hj => by
        rw [Addr.add_lit]
        rw [List.getElem?_drop] at hj
        exact hcell _ hW1g _ _ hj)
      (by rw [hdl, hC1s, ← Nat.add_mul]; exact Nat.le_trans (Nat.mul_le_mul_right _ (by omega)) hnc1) (fun u hu => honex u (List.mem_of_mem_drop hu))
    rw [this, hdl, show (i + 1) * 1 + (n - i) * 1 = (n + 1) * 1 by rw [← Nat.add_mul]; congr 1; omega, hC2]
  have hfin : Hid (Row ((W0.setRow w.heap.size C1).drew.setRow w.heap.size C2) 3 1 (some ⟨w.heap.size, 0, none⟩) (n + 1) cc (xs.take (i * 1) ++ vs ++ xs.drop (i * 1)) ∧ Touch [] w ((W0.setRow w.heap.size C1).drew.setRow w.heap.size C2)) := Lib.hid (by
    refine ⟨Row.mk (cur := C2) (setRow_heap _ _ C1 C2 3 _ hW1n) hccge hccle ?_ ?_, ?_⟩
    · rw [← Array.length_toList, hC2l]; simp only [List.length_append, htl, hdl, hvl, hrl]
      have h1 : (n - i) * 1 + i * 1 = n * 1 := by rw [← Nat.add_mul]; congr 1; omega
      have h2 : (cc - (n + 1)) * 1 + (n * 1 + 1) = cc * 1 := by rw [← Nat.succ_mul, ← Nat.add_mul]; congr 1; omega
      omega
    · rw [hC2l]
      have h1 : (n - i) * 1 + i * 1 = n * 1 := by rw [← Nat.add_mul]; congr 1; omega
      have h2 : (n + 1) * 1 = n * 1 + 1 := Nat.succ_mul _ _
      rw [List.take_append_of_le_length (by simp only [List.length_append, htl, hdl, hvl]; omega), List.take_of_length_le (by simp only [List.length_append, htl, hdl, hvl]; omega)]
    · exact (hW0t.trans (Touch.setRow (bs := [w.heap.size]) _ _ C1 (by simp)) (by simp)).trans ((Touch.drew _ _).andThen (Touch.setRow (bs := [w.heap.size]) _ _ C2 (by simp))) (by simp))
  have HA : Hid ((Builtin.append_ #[67, 3] 67 #[.slice (some ⟨g, 0, none⟩) i n, .int .i64 ((n : Int) + 1 - i)]).run Tryd.prog w = .ok (.slice (some ⟨w.heap.size, 0, none⟩) (n + 1) cc) W0) := Lib.hid (by rw [show ((n + 1 - i : Nat) : Int) = (n : Int) + 1 - i by omega] at hrun; exact hrun)
  try simp only [Nat.mul_one] at hcp1 hcp2
  have H1 := Lib.hid hcp1
  have H2 := Lib.hid hcp2
  have hb1 : i ≤ n := by omega
  have hb2 : n + 1 ≤ 9223372036854775807 := by omega
  have hb3 : ¬ (n = i) := by omega
  have hb4 : ¬ (cc = i) := by omega
  have hb5 : ¬ (cc = i + 1) := by omega
  have hb6 : cc ≤ 9223372036854775807 := by unfold maxLen at hccle; omega
  clear hrun hcp1 hcp2 hW1n hW1g hW0n hW0t hW0 hC2l hC2 hC1s hC1 hC0l hC0s hC0' hC0 hzl hrl hzs hrs hcell hold N1 N2 N3 hik htl hdl htk hcs hg hv hvl honex hone hcm hxl hz0 hz1 hz2 hi0 hbig hin1 hnc1 hccle
  clear hcc
  have hq1 := fun dc => H1.out 3 dc
  go_enter Tryd.func55, Tryd.ntmps55
  go_wp2_with (at_builtin; refine wpList_appendR _ rfl _ _ 67 3 rfl _ _ rfl rfl HA.out ?_)
  clear hq1
  have hr1 : IntKind.i64.wrap ((i : Int) + 1) = (i : Int) + 1 := by rw [IntKind.wrap_i64]; omega
  have hr2 : (0 : Int) ≤ (i : Int) + 1 := by omega
  have hr3 : ((i : Int) + 1).toNat = i + 1 := by omega
  have hr4 : (i : Int) ≤ (n : Int) + 1 := by omega
  have hr5 : (i : Int) + 1 ≤ (n : Int) + 1 := by omega
  have hq2 := fun dc sc => H2.out 3 dc sc
  go_region
  clear hq2 hr1 hr2 hr3 hr4 hr5
  go_wp2_with fail
  go_ret
  exact ⟨_, _, rfl, hfin.out.1, fun x hx => by simp only [Option.some.injEq] at hx; subst hx; rfl, hfin.out.2⟩

theorem insI_any (a : Option Addr) (n c i vb : Nat) (xs vs : List Value) (w : World) (hr : Row w 3 1 a n c xs) (hv : w.heap[vb]? = some (.cells vs.toArray 3 (0, 0))) (hvl : vs.length = 1) (hne : vb ∉ blkOf a)
    (honex : ∀ u ∈ xs, u.oneCell' = true) (hone : ∀ u ∈ vs, u.oneCell' = true) (hi : i ≤ n) (hbig : (n + 1) * 8 ≤ 140737488355328) :
    Calls Tryd.prog 55 #[.slice a n c, .int .i64 i, .slice (some ⟨vb, 0, none⟩) 1 1] w fun e w' => ∃ a' c', e = .returned (.slice a' (n + 1) c') ∧ Row w' 3 1 a' (n + 1) c' (xs.take (i * 1) ++ vs ++ xs.drop (i * 1)) ∧ Touch (blkOf a) w w' ∧ Fresh w a a' := by
  by_cases hin : i = n
  · subst hin
    have hl := hr.len
    rw [List.take_of_length_le (by omega), List.drop_eq_nil_of_le (by omega), List.append_nil]
    exact insI_end a i c vb xs vs w hr hv hvl hone hbig
  · rcases hr.out with ⟨rfl, rfl, rfl, rfl⟩ | ⟨g, cur, rfl, hg, hnc, hcm, hcs, htk, hxl⟩
    · omega
    · have hneg : vb ≠ g := by simpa [blkOf] using hne
      by_cases hroom : n + 1 ≤ c
      · exact (insI_room g n c i vb cur xs vs w hg hcs hcm htk hv hvl hneg honex hone (by omega) hroom).mono fun e w' ⟨he, h1, h2⟩ => ⟨_, _, he, h1, h2, Fresh.refl _ _⟩
      · obtain rfl : c = n := by omega
        exact (insI_grow g c i vb cur xs vs w hg hcs hcm htk hv hvl honex hone (by omega) hbig).mono fun e w' ⟨a', c', he, h1, h2, h3⟩ => ⟨a', c', he, h1, h3.mono (by simp), fun x hx => .inr (by rw [h2 x hx]; exact Nat.le_refl _)⟩

end Go.Proofs.YtmifgnibalbgjaaDoor
