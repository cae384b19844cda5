/- slices.Insert and slices.Delete at holds: what they answer, and what becomes of the rows. -/
import Derived.Test.YtmifgnibalbgjaaGreatZLA
import Derived.Test.YtmifgnibalbgjaaGreatZA
namespace Go.Proofs.YtmifgnibalbgjaaGreat
open Go.RowKit set_option linter.unusedVariables false set_option linter.unusedSimpArgs false

/-- The element type's zero value, cells and bytes. -/
theorem insH_info : (Tryz.prog.info? 32).map (fun i => (i.zero, i.size, i.bytes)) = some (some (.agg #[.int .i64 0, .int .i64 0]), 2, 16) := by kernel_rfl
theorem insH_size : (Tryz.prog.info? 32).map (·.size) = some 2 := by kernel_rfl
theorem insH_over (w : World) (g vb o la ca lb cb : Nat) (cur vs : Array Value) (hne : vb ≠ g) (hv : w.heap[vb]? = some (.cells vs 32 (0, 0))) (hg : w.heap[g]? = some (.cells cur 32 (0, 0))) (hpos : 0 < cur.size) :
    (callFunc 162 #[.slice (some ⟨vb, 0, none⟩) la ca, .slice (some ⟨g, o, none⟩) lb cb]).run Tryz.prog w = .ok (.value (.bool false)) w := by
  rw [run_callFunc_extern Tryz.func162 (by kernel_rfl) (by kernel_rfl) (by kernel_rfl) (e := Extern.SlicesOverlaps.overlaps #[29, 29] #[4]) (by kernel_rfl)]
  have hsz : ∀ w, (Go.sizeOf 32).run Tryz.prog w = .ok 2 w := fun _ => by kernel_rfl
  rw [Lib.run_overlaps_apart w 29 4 32 Tryz.underlying29 2 hsz ⟨vb, 0, none⟩ ⟨g, o, none⟩ la ca lb cb hne 32 32 vs.size cur.size (by unfold World.shape?; rw [hv]) (by unfold World.shape?; rw [hg]) (by omega)
    (by unfold World.frozen?; rw [show (⟨vb, 0, none⟩ : Addr).block = vb from rfl, hv]; simp) (by unfold World.frozen?; rw [show (⟨vb, vs.size, none⟩ : Addr).block = vb from rfl, hv]; simp)]
  rfl

set_option maxRecDepth 100000 in
set_option maxHeartbeats 1000000 in
theorem insH_end (a : Option Addr) (n c vb : Nat) (xs : List Value) (vs : List Value) (w : World) (hr : Row w 32 2 a n c xs) (hv : w.heap[vb]? = some (.cells vs.toArray 32 (0, 0))) (hvl : vs.length = 2)
    (hone : ∀ u ∈ vs, u.oneCell' = true) (hbig : (n + 1) * 16 ≤ 140737488355328) :
    Calls Tryz.prog 130 #[.slice a n c, .int .i64 n, .slice (some ⟨vb, 0, none⟩) 1 1] w fun e w' => ∃ a' c', e = .returned (.slice a' (n + 1) c') ∧ Row w' 32 2 a' (n + 1) c' (xs ++ vs) ∧ Touch (blkOf a) w w' ∧ Fresh w a a' := by
  obtain ⟨i0, hi, hz0, hz1, hz2⟩ := info_parts insH_info
  have hcl : ∀ j u, vs[j]? = some u → w.cell? ((⟨vb, 0, none⟩ : Addr).add j) = some u := fun j u hj => by
    rw [Addr.add_lit]; unfold World.cell?; rw [show (⟨vb, 0 + j, none⟩ : Addr).block = vb from rfl, hv]; simpa using hj
  have hnc : n ≤ c := by rcases hr.out with ⟨_, rfl, rfl, _⟩ | ⟨g, cur, _, _, h, _⟩; exact Nat.le_refl _; exact h
  obtain ⟨a', c', w', hrun, hown, ht, hf⟩ := run_append_row (P := Tryz.prog) w 29 29 32 i0 (.agg #[.int .i64 0, .int .i64 0]) 2 16 Tryz.underlying29 hi hz0 hz1 hz2 rfl (by decide) a n c xs hr ⟨vb, 0, none⟩ 1 1 vs (by rw [hvl, Nat.one_mul]) hcl hone (by unfold maxLen; omega) hbig
  have hb : n < 9223372036854775807 := by omega
  have HN := Lib.hid hnc
  have HF : Hid (Row w' 32 2 a' (n + 1) c' (xs ++ vs) ∧ Touch (blkOf a) w w' ∧ Fresh w a a') := Lib.hid ⟨hown, ht, hf⟩
  have HR := Lib.hid hrun
  clear hrun hown ht hf hcl hv hr hi hz0 hz1 hz2
  by_cases hcn : c = n
  · subst hcn
    go_enter Tryz.func130, Tryz.ntmps130
    go_wp2_with (at_builtin; refine wpList_appendR _ rfl _ _ 29 29 rfl _ _ rfl rfl HR.out ?_)
    go_ret
    exact ⟨_, _, rfl, HF.out⟩
  · go_enter Tryz.func130, Tryz.ntmps130
    go_wp2_with (at_builtin; refine wpList_appendR _ rfl _ _ 29 29 rfl _ _ rfl rfl HR.out ?_)
    go_ret
    exact ⟨_, _, rfl, HF.out⟩

set_option maxRecDepth 100000 in
set_option maxHeartbeats 2000000 in
theorem insH_room (g n c i vb : Nat) (cur : Array Value) (xs vs : List Value) (w : World) (hg : w.heap[g]? = some (.cells cur 32 (0, 0))) (hcs : cur.size = c * 2) (hcm : c ≤ maxLen) (htk : cur.toList.take (n * 2) = xs)
    (hv : w.heap[vb]? = some (.cells vs.toArray 32 (0, 0))) (hvl : vs.length = 2) (hne : vb ≠ g) (honex : ∀ u ∈ xs, u.oneCell' = true) (hone : ∀ u ∈ vs, u.oneCell' = true) (hi : i < n) (hroom : n + 1 ≤ c) :
    Calls Tryz.prog 130 #[.slice (some ⟨g, 0, none⟩) n c, .int .i64 i, .slice (some ⟨vb, 0, none⟩) 1 1] w fun e w' => e = .returned (.slice (some ⟨g, 0, none⟩) (n + 1) c) ∧ Row w' 32 2 (some ⟨g, 0, none⟩) (n + 1) c (xs.take (i * 2) ++ vs ++ xs.drop (i * 2)) ∧ Touch [g] w w' := by
  have hcl0 : 0 < cur.size := by omega
  have hxl : xs.length = n * 2 := by rw [← htk, List.length_take, Array.length_toList]; omega
  obtain ⟨L1, L2, L3⟩ := ins_list cur.toList xs vs n i c 2 hi hroom (by rw [Array.length_toList]; exact hcs) htk hvl
  have hov := fun la ca o lb cb => insH_over w g vb o la ca lb cb cur vs.toArray hne hv hg hcl0
  -- the first copy: what stands from i on moves one place up
  obtain ⟨C1, hC1⟩ : ∃ C1 : Array Value, C1 = (cur.toList.take ((i + 1) * 2) ++ xs.drop (i * 2) ++ cur.toList.drop ((n + 1) * 2)).toArray := ⟨_, rfl⟩
  have hdl : (xs.drop (i * 2)).length = (n - i) * 2 := by rw [List.length_drop, hxl]; omega
  have hcp1 : ∀ ty dc sc, (Builtin.copy_ #[29, 29] ty #[.slice (some ⟨g, (i + 1) * 2, none⟩) (n - i) dc, .slice (some ⟨g, i * 2, none⟩) (n + 1 - i) sc]).run Tryz.prog w.drew = .ok (goInt (n - i : Nat)) (w.drew.setRow g C1) := fun ty dc sc => by
    have := run_copy_k (P := Tryz.prog) w.drew 29 29 ty 32 2 g ((i + 1) * 2) (n - i) dc ⟨g, i * 2, none⟩ (n + 1 - i) sc cur 32 (xs.drop (i * 2)) (n - i) Tryz.underlying29 insH_size hg (by simp only [Nat.min_def]; split <;> omega) hdl
      (fun j u hj => by
        rw [Addr.add_lit]
        rw [List.getElem?_drop, ← htk, List.getElem?_take] at hj
        split at hj
        · unfold World.cell?; rw [show (⟨g, i * 2 + j, none⟩ : Addr).block = g from rfl, show w.drew.heap[g]? = _ from hg]; simpa using hj
        · cases hj)
      (by rw [hdl]; omega) (fun u hu => honex u (List.mem_of_mem_drop hu))
    rw [this, hC1, hdl, show (i + 1) * 2 + (n - i) * 2 = (n + 1) * 2 by rw [← Nat.add_mul]; congr 1; omega]
  have hg1 : (w.drew.setRow g C1).heap[g]? = some (.cells C1 32 (0, 0)) := setRow_heap _ g cur C1 32 _ hg
  have hC1s : C1.size = c * 2 := by rw [hC1, List.size_toArray]; exact L3
  obtain ⟨C2, hC2⟩ : ∃ C2 : Array Value, C2 = (C1.toList.take (i * 2) ++ vs ++ C1.toList.drop (i * 2 + 2)).toArray := ⟨_, rfl⟩
  have hcp2 : ∀ (W : World), W.heap[g]? = some (.cells C1 32 (0, 0)) → W.heap[vb]? = some (.cells vs.toArray 32 (0, 0)) → ∀ ty dc, (Builtin.copy_ #[29, 29] ty #[.slice (some ⟨g, i * 2, none⟩) (n + 1 - i) dc, .slice (some ⟨vb, 0, none⟩) 1 1]).run Tryz.prog W = .ok (goInt (1 : Nat)) (W.setRow g C2) := fun W hW hWv ty dc => by
    have := run_copy_k (P := Tryz.prog) W 29 29 ty 32 2 g (i * 2) (n + 1 - i) dc ⟨vb, 0, none⟩ 1 1 C1 32 vs 1 Tryz.underlying29 insH_size hW (by simp only [Nat.min_def]; split <;> omega) (by rw [hvl])
      (fun j u hj => by rw [Addr.add_lit]; unfold World.cell?; rw [show (⟨vb, 0 + j, none⟩ : Addr).block = vb from rfl, hWv]; simpa using hj)
      (by rw [hvl, hC1s]; omega) hone
    rw [this, hC2, hvl]
  have hfin : Hid (Row ((w.drew.setRow g C1).setRow g C2) 32 2 (some ⟨g, 0, none⟩) (n + 1) c (xs.take (i * 2) ++ vs ++ xs.drop (i * 2)) ∧ Touch [g] w ((w.drew.setRow g C1).setRow g C2)) := Lib.hid (by
    refine ⟨Row.mk (cur := C2) (setRow_heap _ g C1 C2 32 _ hg1) hroom hcm ?_ ?_, ((Touch.drew _ _).andThen (Touch.setRow _ g C1 (by simp))).andThen (Touch.setRow _ g C2 (by simp))⟩
    · rw [hC2, List.size_toArray, hC1]; exact L2
    · rw [hC2, List.toList_toArray, hC1]; exact L1)
  have hv1 : (w.drew.setRow g C1).heap[vb]? = some (.cells vs.toArray 32 (0, 0)) := by rw [setRow_other _ g vb C1 hne]; exact hv
  have hcp3 := hcp2 _ hg1 hv1
  try simp only [Nat.mul_one] at hcp1 hcp3
  have H1 := Lib.hid hcp1
  have H2 := Lib.hid hcp3
  have HC : Hid (c = c) := Lib.hid rfl
  have hb1 : i ≤ n := by omega
  have hb2 : n + 1 ≤ 9223372036854775807 := by unfold maxLen at hcm; omega
  have hb3 : ¬ (c = i) := by omega
  have hb4 : ¬ (c = i + 1) := by omega
  clear hcp1 hcp2 hcp3 hg1 hC1s hC1 hC2 hdl hv1 L1 L2 L3 hxl hcl0 htk hcs hg hv hvl honex hone hcm
  go_enter Tryz.func130, Tryz.ntmps130
  go_wp2_with (simp only [hov])
  have hr1 : IntKind.i64.wrap ((i : Int) + 1) = (i : Int) + 1 := by rw [IntKind.wrap_i64]; omega
  have hr2 : (0 : Int) ≤ (i : Int) + 1 := by omega
  have hr3 : ((i : Int) + 1).toNat = i + 1 := by omega
  have hr4 : (i : Int) ≤ (n : Int) + 1 := by omega
  have hr5 : (i : Int) + 1 ≤ (n : Int) + 1 := by omega
  have hq := fun dc sc => H1.out 3 dc sc
  go_region
  clear hq hr1 hr2 hr3 hr4 hr5
  have hq2 := fun dc => H2.out 3 dc
  go_wp2_with fail
  go_ret
  exact ⟨rfl, hfin.out.1, hfin.out.2⟩

set_option maxRecDepth 100000 in
set_option maxHeartbeats 2000000 in
theorem insH_grow (g n i vb : Nat) (cur : Array Value) (xs vs : List Value) (w : World) (hg : w.heap[g]? = some (.cells cur 32 (0, 0))) (hcs : cur.size = n * 2) (hcm : n ≤ maxLen) (htk : cur.toList.take (n * 2) = xs)
    (hv : w.heap[vb]? = some (.cells vs.toArray 32 (0, 0))) (hvl : vs.length = 2) (honex : ∀ u ∈ xs, u.oneCell' = true) (hone : ∀ u ∈ vs, u.oneCell' = true) (hi : i < n) (hbig : (n + 1) * 16 ≤ 140737488355328) :
    Calls Tryz.prog 130 #[.slice (some ⟨g, 0, none⟩) n n, .int .i64 i, .slice (some ⟨vb, 0, none⟩) 1 1] w fun e w' => ∃ a' c', e = .returned (.slice a' (n + 1) c') ∧ Row w' 32 2 a' (n + 1) c' (xs.take (i * 2) ++ vs ++ xs.drop (i * 2)) ∧ (∀ x, a' = some x → x.block = w.heap.size) ∧ Touch [] w w' := by
  obtain ⟨i0, hi0, hz0, hz1, hz2⟩ := info_parts insH_info
  have hxl : xs.length = n * 2 := by rw [← htk, List.length_take, Array.length_toList]; omega
  have hgl : g < w.heap.size := (Array.getElem?_eq_some_iff.1 hg).1
  have hvbl : vb < w.heap.size := (Array.getElem?_eq_some_iff.1 hv).1
  have hcell : ∀ (W : World), W.heap[g]? = some (.cells cur 32 (0, 0)) → ∀ j u, xs[j]? = some u → W.cell? ⟨g, j, none⟩ = some u := fun W hW j u hj => by
    rw [← htk, List.getElem?_take] at hj
    split at hj
    · unfold World.cell?; rw [show (⟨g, j, none⟩ : Addr).block = g from rfl, hW]; simpa using hj
    · cases hj
  have hik : i * 2 ≤ n * 2 := Nat.mul_le_mul_right _ (by omega)
  have htl : (xs.take (i * 2)).length = i * 2 := by rw [List.length_take]; omega
  have hold : (Builtin.firstCells i0.size i (.slice (some ⟨g, 0, none⟩) i n)).run Tryz.prog w.drew = .ok (xs.take (i * 2)).toArray w.drew := by
    rw [hz1]
    exact run_firstCells_some w.drew 2 i ⟨g, 0, none⟩ i n (xs.take (i * 2)) (by rw [htl]) (fun j u hj => by
      rw [Addr.add_lit, Nat.zero_add]
      rw [List.getElem?_take] at hj
      split at hj
      · exact hcell w.drew hg j u hj
      · cases hj)
  have hrun := run_append_zeros_grow (P := Tryz.prog) w 29 3 29 32 i0 (.agg #[.int .i64 0, .int .i64 0]) .i64 .i64 Tryz.underlying29 Tryz.underlying3 hi0 hz0 (some ⟨g, 0, none⟩) i n (xs.take (i * 2)) hold (n + 1 - i) (by omega) (by rw [hz1]; decide) (by omega) (by omega) (by rw [hz2]; rw [show i + (n + 1 - i) = n + 1 by omega]; exact hbig)
  rw [show i + (n + 1 - i) = n + 1 by omega] at hrun
  obtain ⟨cc, hcc⟩ : ∃ cc, grownCap w (n + 1) n 32 = cc := ⟨_, rfl⟩
  have hccge : n + 1 ≤ cc := hcc ▸ grownCap_ge _ _ _ _
  have hccle : cc ≤ maxLen := hcc ▸ grownCap_le_maxLen _ _ _ _ (by unfold maxLen; omega)
  rw [hcc] at hrun
  obtain ⟨zs, hzs⟩ : ∃ zs, (Builtin.zeroCells (Value.cells (.agg #[.int .i64 0, .int .i64 0])) (n + 1 - i)).toList = zs := ⟨_, rfl⟩
  obtain ⟨rs, hrs⟩ : ∃ rs, (Builtin.zeroCells (Value.cells (.agg #[.int .i64 0, .int .i64 0])) (cc - (n + 1))).toList = rs := ⟨_, rfl⟩
  have hzl : zs.length = (n + 1 - i) * 2 := by rw [← hzs, Array.length_toList, size_zeroCells]; rfl
  have hrl : rs.length = (cc - (n + 1)) * 2 := by rw [← hrs, Array.length_toList, size_zeroCells]; rfl
  obtain ⟨C0, hC0⟩ : ∃ C0 : Array Value, (xs.take (i * 2) ++ zs ++ rs).toArray = C0 := ⟨_, rfl⟩
  have hC0' : (xs.take (i * 2)).toArray ++ Builtin.zeroCells (Value.cells (.agg #[.int .i64 0, .int .i64 0])) (n + 1 - i) ++ Builtin.zeroCells (Value.cells (.agg #[.int .i64 0, .int .i64 0])) (cc - (n + 1)) = C0 := by
    rw [← hC0, ← hzs, ← hrs]; simp
  rw [hC0'] at hrun
  obtain ⟨N1, N2, N3⟩ := ins_new xs vs zs rs n i 2 hi hxl hvl hzl
  have hC0s : C0.size = cc * 2 := by rw [← hC0, List.size_toArray]; rw [N3, hrl, ← Nat.add_mul]; congr 1; omega
  obtain ⟨C1, hC1⟩ : ∃ C1 : Array Value, (C0.toList.take (i * 2) ++ vs ++ C0.toList.drop (i * 2 + 2)).toArray = C1 := ⟨_, rfl⟩
  have hC0l : C0.toList = xs.take (i * 2) ++ zs ++ rs := by rw [← hC0]
  have hC1s : C1.size = cc * 2 := by rw [← hC1, List.size_toArray, hC0l, N2, ← hC0l, Array.length_toList, hC0s]
  obtain ⟨C2, hC2⟩ : ∃ C2 : Array Value, (C1.toList.take ((i + 1) * 2) ++ xs.drop (i * 2) ++ C1.toList.drop ((n + 1) * 2)).toArray = C2 := ⟨_, rfl⟩
  have hC2l : C2.toList = xs.take (i * 2) ++ vs ++ xs.drop (i * 2) ++ rs := by rw [← hC2, ← hC1, hC0l]; exact N1
  have hdl : (xs.drop (i * 2)).length = (n - i) * 2 := by rw [List.length_drop, hxl]; omega
  -- the worlds
  obtain ⟨W0, hW0⟩ : ∃ W0, w.drew.alloc (.cells C0 32) = W0 := ⟨_, rfl⟩
  have hW0n : W0.heap[w.heap.size]? = some (.cells C0 32 (0, 0)) := hW0 ▸ heap_alloc_new w.drew _
  have hW0t : Touch [] w W0 := hW0 ▸ (Touch.drew _ _).andThen (Touch.alloc _ _ _)
  rw [hW0] at hrun
  have hin1 : (i + 1) * 2 ≤ (n + 1) * 2 := Nat.mul_le_mul_right _ (by omega)
  have hnc1 : (n + 1) * 2 ≤ cc * 2 := Nat.mul_le_mul_right _ hccge
  have hcp1 : ∀ ty dc, (Builtin.copy_ #[29, 29] ty #[.slice (some ⟨w.heap.size, i * 2, none⟩) (n + 1 - i) dc, .slice (some ⟨vb, 0, none⟩) 1 1]).run Tryz.prog W0 = .ok (goInt (1 : Nat)) (W0.setRow w.heap.size C1) := fun ty dc => by
    have := run_copy_k (P := Tryz.prog) W0 29 29 ty 32 2 w.heap.size (i * 2) (n + 1 - i) dc ⟨vb, 0, none⟩ 1 1 C0 32 vs 1 Tryz.underlying29 insH_size hW0n (by simp only [Nat.min_def]; split <;> omega) (by rw [hvl])
      (fun j u hj => by rw [Addr.add_lit]; unfold World.cell?; rw [show (⟨vb, 0 + j, none⟩ : Addr).block = vb from rfl, hW0t.heap hv (by simp)]; simpa using hj)
      (by rw [hvl, hC0s]; omega) hone
    rw [this, hvl, hC1]
  have hW1n : (W0.setRow w.heap.size C1).drew.heap[w.heap.size]? = some (.cells C1 32 (0, 0)) := setRow_heap _ _ C0 C1 32 _ hW0n
  have hW1g : (W0.setRow w.heap.size C1).drew.heap[g]? = some (.cells cur 32 (0, 0)) := (setRow_other _ _ g C1 (by omega)).trans (hW0t.heap hg (by simp))
  have hcp2 : ∀ ty dc sc, (Builtin.copy_ #[29, 29] ty #[.slice (some ⟨w.heap.size, (i + 1) * 2, none⟩) (n - i) dc, .slice (some ⟨g, i * 2, none⟩) (n - i) sc]).run Tryz.prog (W0.setRow w.heap.size C1).drew = .ok (goInt (n - i : Nat)) ((W0.setRow w.heap.size C1).drew.setRow w.heap.size C2) := fun ty dc sc => by
    have := run_copy_k (P := Tryz.prog) (W0.setRow w.heap.size C1).drew 29 29 ty 32 2 w.heap.size ((i + 1) * 2) (n - i) dc ⟨g, i * 2, none⟩ (n - i) sc C1 32 (xs.drop (i * 2)) (n - i) Tryz.underlying29 insH_size hW1n (by simp only [Nat.min_def]; split <;> omega) hdl
      (fun j u hj => by
        rw [Addr.add_lit]
        rw [List.getElem?_drop] at hj
        exact hcell _ hW1g _ _ hj)
      (by rw [hdl, hC1s, ← Nat.add_mul]; exact Nat.le_trans (Nat.mul_le_mul_right _ (by omega)) hnc1) (fun u hu => honex u (List.mem_of_mem_drop hu))
    rw [this, hdl, show (i + 1) * 2 + (n - i) * 2 = (n + 1) * 2 by rw [← Nat.add_mul]; congr 1; omega, hC2]
  have hfin : Hid (Row ((W0.setRow w.heap.size C1).drew.setRow w.heap.size C2) 32 2 (some ⟨w.heap.size, 0, none⟩) (n + 1) cc (xs.take (i * 2) ++ vs ++ xs.drop (i * 2)) ∧ Touch [] w ((W0.setRow w.heap.size C1).drew.setRow w.heap.size C2)) := Lib.hid (by
    refine ⟨Row.mk (cur := C2) (setRow_heap _ _ C1 C2 32 _ hW1n) hccge hccle ?_ ?_, ?_⟩
    · rw [← Array.length_toList, hC2l]; simp only [List.length_append, htl, hdl, hvl, hrl]
      have h1 : (n - i) * 2 + i * 2 = n * 2 := by rw [← Nat.add_mul]; congr 1; omega
      have h2 : (cc - (n + 1)) * 2 + (n * 2 + 2) = cc * 2 := by rw [← Nat.succ_mul, ← Nat.add_mul]; congr 1; omega
      omega
    · rw [hC2l]
      have h1 : (n - i) * 2 + i * 2 = n * 2 := by rw [← Nat.add_mul]; congr 1; omega
      have h2 : (n + 1) * 2 = n * 2 + 2 := Nat.succ_mul _ _
      rw [List.take_append_of_le_length (by simp only [List.length_append, htl, hdl, hvl]; omega), List.take_of_length_le (by simp only [List.length_append, htl, hdl, hvl]; omega)]
    · exact (hW0t.trans (Touch.setRow (bs := [w.heap.size]) _ _ C1 (by simp)) (by simp)).trans ((Touch.drew _ _).andThen (Touch.setRow (bs := [w.heap.size]) _ _ C2 (by simp))) (by simp))
  have HA : Hid ((Builtin.append_ #[29, 3] 29 #[.slice (some ⟨g, 0, none⟩) i n, .int .i64 ((n : Int) + 1 - i)]).run Tryz.prog w = .ok (.slice (some ⟨w.heap.size, 0, none⟩) (n + 1) cc) W0) := Lib.hid (by rw [show ((n + 1 - i : Nat) : Int) = (n : Int) + 1 - i by omega] at hrun; exact hrun)
  try simp only [Nat.mul_one] at hcp1 hcp2
  have H1 := Lib.hid hcp1
  have H2 := Lib.hid hcp2
  have hb1 : i ≤ n := by omega
  have hb2 : n + 1 ≤ 9223372036854775807 := by omega
  have hb3 : ¬ (n = i) := by omega
  have hb4 : ¬ (cc = i) := by omega
  have hb5 : ¬ (cc = i + 1) := by omega
  have hb6 : cc ≤ 9223372036854775807 := by unfold maxLen at hccle; omega
  clear hrun hcp1 hcp2 hW1n hW1g hW0n hW0t hW0 hC2l hC2 hC1s hC1 hC0l hC0s hC0' hC0 hzl hrl hzs hrs hcell hold N1 N2 N3 hik htl hdl htk hcs hg hv hvl honex hone hcm hxl hz0 hz1 hz2 hi0 hbig hin1 hnc1 hccle
  clear hcc
  have hq1 := fun dc => H1.out 3 dc
  go_enter Tryz.func130, Tryz.ntmps130
  go_wp2_with (at_builtin; refine wpList_appendR _ rfl _ _ 29 3 rfl _ _ rfl rfl HA.out ?_)
  clear hq1
  have hr1 : IntKind.i64.wrap ((i : Int) + 1) = (i : Int) + 1 := by rw [IntKind.wrap_i64]; omega
  have hr2 : (0 : Int) ≤ (i : Int) + 1 := by omega
  have hr3 : ((i : Int) + 1).toNat = i + 1 := by omega
  have hr4 : (i : Int) ≤ (n : Int) + 1 := by omega
  have hr5 : (i : Int) + 1 ≤ (n : Int) + 1 := by omega
  have hq2 := fun dc sc => H2.out 3 dc sc
  go_region
  clear hq2 hr1 hr2 hr3 hr4 hr5
  go_wp2_with fail
  go_ret
  exact ⟨_, _, rfl, hfin.out.1, fun x hx => by simp only [Option.some.injEq] at hx; subst hx; rfl, hfin.out.2⟩

theorem insH_any (a : Option Addr) (n c i vb : Nat) (xs vs : List Value) (w : World) (hr : Row w 32 2 a n c xs) (hv : w.heap[vb]? = some (.cells vs.toArray 32 (0, 0))) (hvl : vs.length = 2) (hne : vb ∉ blkOf a)
    (honex : ∀ u ∈ xs, u.oneCell' = true) (hone : ∀ u ∈ vs, u.oneCell' = true) (hi : i ≤ n) (hbig : (n + 1) * 16 ≤ 140737488355328) :
    Calls Tryz.prog 130 #[.slice a n c, .int .i64 i, .slice (some ⟨vb, 0, none⟩) 1 1] w fun e w' => ∃ a' c', e = .returned (.slice a' (n + 1) c') ∧ Row w' 32 2 a' (n + 1) c' (xs.take (i * 2) ++ vs ++ xs.drop (i * 2)) ∧ Touch (blkOf a) w w' ∧ Fresh w a a' := by
  by_cases hin : i = n
  · subst hin
    have hl := hr.len
    rw [List.take_of_length_le (by omega), List.drop_eq_nil_of_le (by omega), List.append_nil]
    exact insH_end a i c vb xs vs w hr hv hvl hone hbig
  · rcases hr.out with ⟨rfl, rfl, rfl, rfl⟩ | ⟨g, cur, rfl, hg, hnc, hcm, hcs, htk, hxl⟩
    · omega
    · have hneg : vb ≠ g := by simpa [blkOf] using hne
      by_cases hroom : n + 1 ≤ c
      · exact (insH_room g n c i vb cur xs vs w hg hcs hcm htk hv hvl hneg honex hone (by omega) hroom).mono fun e w' ⟨he, h1, h2⟩ => ⟨_, _, he, h1, h2, Fresh.refl _ _⟩
      · obtain rfl : c = n := by omega
        exact (insH_grow g c i vb cur xs vs w hg hcs hcm htk hv hvl honex hone (by omega) hbig).mono fun e w' ⟨a', c', he, h1, h2, h3⟩ => ⟨a', c', he, h1, h3.mono (by simp), fun x hx => .inr (by rw [h2 x hx]; exact Nat.le_refl _)⟩


theorem delH_info : (Tryz.prog.info? 32).map (fun i => (i.zero, i.size, i.bytes)) = some (some (.agg #[.int .i64 0, .int .i64 0]), 2, 16) := by kernel_rfl
theorem delH_size : (Tryz.prog.info? 32).map (·.size) = some 2 := by kernel_rfl
theorem delH_zero (w : World) : (zeroValue 32).run Tryz.prog w = .ok (.agg #[.int .i64 0, .int .i64 0]) w := by kernel_rfl
set_option maxRecDepth 100000 in
set_option maxHeartbeats 2000000 in
theorem delH_any (g n c i : Nat) (cur : Array Value) (xs : List Value) (w : World) (hg : w.heap[g]? = some (.cells cur 32 (0, 0))) (hcs : cur.size = c * 2) (hnc : n ≤ c) (hcm : c ≤ maxLen) (htk : cur.toList.take (n * 2) = xs)
    (honex : ∀ u ∈ xs, u.oneCell' = true) (hi : i < n) :
    Calls Tryz.prog 154 #[.slice (some ⟨g, 0, none⟩) n c, .int .i64 i, .int .i64 ((i : Int) + 1)] w fun e w' => e = .returned (.slice (some ⟨g, 0, none⟩) (n - 1) c) ∧ Row w' 32 2 (some ⟨g, 0, none⟩) (n - 1) c (xs.take (i * 2) ++ xs.drop ((i + 1) * 2)) ∧ Touch [g] w w' := by
  obtain ⟨i0, hi0, hz0, hz1, hz2⟩ := info_parts delH_info
  have hxl : xs.length = n * 2 := by rw [← htk, List.length_take, Array.length_toList, hcs]; exact Nat.min_eq_left (Nat.mul_le_mul_right _ hnc)
  obtain ⟨C1, hC1⟩ : ∃ C1 : Array Value, (cur.toList.take (i * 2) ++ xs.drop ((i + 1) * 2) ++ cur.toList.drop (i * 2 + (n - (i + 1)) * 2)).toArray = C1 := ⟨_, rfl⟩
  have hdl : (xs.drop ((i + 1) * 2)).length = (n - (i + 1)) * 2 := by rw [List.length_drop, hxl, ← Nat.sub_mul]
  have hik : i * 2 + (n - (i + 1)) * 2 = (n - 1) * 2 := by rw [← Nat.add_mul]; congr 1; omega
  have hcell : ∀ j u, xs[j]? = some u → w.cell? ⟨g, j, none⟩ = some u := fun j u hj => by
    rw [← htk, List.getElem?_take] at hj
    split at hj
    · unfold World.cell?; rw [show (⟨g, j, none⟩ : Addr).block = g from rfl, hg]; simpa using hj
    · cases hj
  have hnk : (n - 1) * 2 ≤ n * 2 := Nat.mul_le_mul_right _ (by omega)
  have hck : n * 2 ≤ c * 2 := Nat.mul_le_mul_right _ hnc
  have hins : i * 2 ≤ (n - 1) * 2 := Nat.mul_le_mul_right _ (by omega)
  have hap : ∀ p : Addr, (n ≠ i + 1 → p = ⟨g, (i + 1) * 2, none⟩) → (Builtin.append_ #[29, 29] 29 #[.slice (some ⟨g, 0, none⟩) i c, .slice (some p) (n - (i + 1)) (c - (i + 1))]).run Tryz.prog w.drew = .ok (.slice (some ⟨g, 0, none⟩) (n - 1) c) (w.drew.setRow g C1) := fun p hp => by
    have := run_append_room (P := Tryz.prog) w.drew 29 29 32 i0 Tryz.underlying29 hi0 g i c cur hg p (n - (i + 1)) (c - (i + 1)) (xs.drop ((i + 1) * 2)) (by rw [hdl, hz1])
      (fun j u hj => by
        have hne : n ≠ i + 1 := fun e => by
          have hl0 : (xs.drop ((i + 1) * 2)).length = 0 := by rw [hdl, e, Nat.sub_self, Nat.zero_mul]
          rw [List.eq_nil_of_length_eq_zero hl0] at hj
          simp at hj
        rw [hp hne, Addr.add_lit]; rw [List.getElem?_drop] at hj; exact hcell _ _ hj) (fun u hu => honex u (List.mem_of_mem_drop hu)) (by omega) (by rw [hz1, hdl, hik, hcs]; omega)
    rw [this, hz1, hdl, hC1, show i + (n - (i + 1)) = n - 1 by omega]
  have hC1n : (w.drew.setRow g C1).heap[g]? = some (.cells C1 32 (0, 0)) := setRow_heap _ g cur C1 32 _ hg
  have hC1l : C1.toList = xs.take (i * 2) ++ xs.drop ((i + 1) * 2) ++ cur.toList.drop ((n - 1) * 2) := by
    rw [← hC1, ← hik]
    have : cur.toList.take (i * 2) = xs.take (i * 2) := by rw [← htk, List.take_take, Nat.min_eq_left (by omega)]
    rw [this]
  have htl : (xs.take (i * 2)).length = i * 2 := by rw [List.length_take, hxl]; omega
  have hC1s : C1.size = c * 2 := by rw [← Array.length_toList, hC1l]; simp only [List.length_append, htl, hdl, List.length_drop, Array.length_toList, hcs]; omega
  obtain ⟨C2, hC2⟩ : ∃ C2 : Array Value, (C1.toList.take ((n - 1) * 2) ++ (Builtin.zeroCells (Value.cells (.agg #[.int .i64 0, .int .i64 0])) 1).toList ++ C1.toList.drop ((n - 1) * 2 + 1 * 2)).toArray = C2 := ⟨_, rfl⟩
  have hcl : (Builtin.clear_ #[29] 0 #[.slice (some ⟨g, (n - 1) * 2, none⟩) 1 (c - (n - 1))]).run Tryz.prog (w.drew.setRow g C1) = .ok (.tuple #[]) ((w.drew.setRow g C1).setRow g C2) := by
    have := run_clear_k (P := Tryz.prog) (w.drew.setRow g C1) 29 32 0 (.agg #[.int .i64 0, .int .i64 0]) Tryz.underlying29 (delH_zero _) (by decide) g ((n - 1) * 2) 1 (c - (n - 1)) C1 32 (by omega) hC1n (by
      rw [hC1s, show (Value.cells (.agg #[.int .i64 0, .int .i64 0])).size = 2 from rfl, ← Nat.add_mul]; exact Nat.mul_le_mul_right _ (by omega))
    rw [this, ← hC2]; rfl
  have hfin : Hid (Row ((w.drew.setRow g C1).setRow g C2) 32 2 (some ⟨g, 0, none⟩) (n - 1) c (xs.take (i * 2) ++ xs.drop ((i + 1) * 2)) ∧ Touch [g] w ((w.drew.setRow g C1).setRow g C2)) := Lib.hid (by
    have hlen : (xs.take (i * 2) ++ xs.drop ((i + 1) * 2)).length = (n - 1) * 2 := by rw [List.length_append, htl, hdl, hik]
    have h1 : C1.toList.take ((n - 1) * 2) = xs.take (i * 2) ++ xs.drop ((i + 1) * 2) := by rw [hC1l, ← hlen]; exact List.take_left
    have hzl : (Builtin.zeroCells (Value.cells (.agg #[.int .i64 0, .int .i64 0])) 1).toList.length = 1 * 2 := by rw [Array.length_toList, size_zeroCells]; rfl
    have hn1 : (n - 1) * 2 + 1 * 2 ≤ c * 2 := by rw [← Nat.add_mul]; exact Nat.mul_le_mul_right _ (by omega)
    refine ⟨Row.mk (cur := C2) (setRow_heap _ g C1 C2 32 _ hC1n) (by omega) hcm ?_ ?_, ((Touch.drew _ _).andThen (Touch.setRow _ g C1 (by simp))).andThen (Touch.setRow _ g C2 (by simp))⟩
    · rw [← Array.length_toList, ← hC2]; simp only [List.length_append, h1, hlen, hzl, List.length_drop, Array.length_toList, hC1s]; omega
    · rw [← hC2, List.toList_toArray, h1, List.append_assoc, ← hlen]; exact List.take_left)
  try simp only [Nat.mul_one] at hap hcl
  have H1 := Lib.hid hap
  have H2 := Lib.hid hcl
  have hb1 : i + 1 ≤ n := by omega
  have hb2 : n ≤ c := hnc
  have hb3 : ¬ (c = i) := by omega
  have hb6 : c ≤ 9223372036854775807 := by unfold maxLen at hcm; omega
  have hbe : ((i : Int) == (i : Int) + 1) = false := beq_eq_false_iff_ne.2 (by omega)
  clear hap hcl hC2 hC1s htl hC1l hC1n hins hck hnk hcell hik hdl hC1 hxl htk hcs hg honex hcm hnc hz0 hz1 hz2 hi0
  by_cases hci : c = i + 1
  · obtain rfl : n = i + 1 := by omega
    subst hci
    have H1' : Hid ((Builtin.append_ #[29, 29] 29 #[.slice (some ⟨g, 0, none⟩) i (i + 1), .slice (some ⟨g, 0, none⟩) 0 0]).run Tryz.prog w.drew = .ok (.slice (some ⟨g, 0, none⟩) i (i + 1)) (w.drew.setRow g C1)) := Lib.hid (by
      have := H1.out ⟨g, 0, none⟩ (fun h => absurd rfl h)
      simpa using this)
    have H2' : Hid ((Builtin.clear_ #[29] 0 #[.slice (some ⟨g, i * 2, none⟩) 1 1]).run Tryz.prog (w.drew.setRow g C1) = .ok (.tuple #[]) ((w.drew.setRow g C1).setRow g C2)) := Lib.hid (by
      have := H2.out
      simpa using this)
    have hr2 : (0 : Int) ≤ (i : Int) + 1 := by omega
    have hr3 : ((i : Int) + 1).toNat = i + 1 := by omega
    have hr7 : (i : Int) ≤ (i : Int) + 1 := by omega
    go_enter Tryz.func154, Tryz.ntmps154
    go_wp2_with fail
    go_region_law (refine step_appendR rfl (.tmp 22) (.tmp 25) 29 29 rfl (.slice (some ⟨g, 0, none⟩) i (i + 1)) (.slice (some ⟨g, 0, none⟩) 0 0) (by simp [Act.eval, Act.put]) (by simp [Act.eval, Act.put]) H1'.out ?_)
    clear hr2 hr3 hr7
    have hq2 := H2'.out
    go_wp2_with fail
    go_ret
    exact ⟨rfl, hfin.out.1, hfin.out.2⟩
  · have hr2 : (0 : Int) ≤ (i : Int) + 1 := by omega
    have hr3 : ((i : Int) + 1).toNat = i + 1 := by omega
    have hr5 : (i : Int) + 1 ≤ (n : Int) := by omega
    have hr8 : i ≤ c := by omega
    have hr9 : i + 1 ≤ n := by omega
    have H1' := Lib.hid (H1.out ⟨g, (i + 1) * 2, none⟩ (fun _ => rfl))
    go_enter Tryz.func154, Tryz.ntmps154
    go_wp2_with fail
    go_region_law (refine step_appendR rfl (.tmp 22) (.tmp 25) 29 29 rfl (.slice (some ⟨g, 0, none⟩) i c) (.slice (some ⟨g, (i + 1) * 2, none⟩) (n - (i + 1)) (c - (i + 1))) (by simp [Act.eval, Act.put]) (by simp [Act.eval, Act.put]) H1'.out ?_)
    clear hr2 hr3 hr5
    have hq2 : (Builtin.clear_ #[29] 0 #[.slice (some ⟨g, (n - 1) * 2, none⟩) (n - (n - 1)) (c - (n - 1))]).run Tryz.prog (w.drew.setRow g C1) = .ok (.tuple #[]) ((w.drew.setRow g C1).setRow g C2) := by
      rw [show n - (n - 1) = 1 by omega]; exact H2.out
    go_wp2_with fail
    go_ret
    exact ⟨rfl, hfin.out.1, hfin.out.2⟩

end Go.Proofs.YtmifgnibalbgjaaGreat
