/- slices.Insert at lines: what it answers, and what becomes of the rows. -/
import Derived.Test.YtmifgnibalbgjaaGreatZLA
import Derived.Test.YtmifgnibalbgjaaGreatZA
import Derived.Test.YtmifgnibalbgjaaGreatZM3
namespace Go.Proofs.YtmifgnibalbgjaaGreat
open Go.RowKit set_option linter.unusedVariables false set_option linter.unusedSimpArgs false

/-- The element type's zero value, cells and bytes. -/
theorem insL_info : (Tryz.prog.info? 66).map (fun i => (i.zero, i.size, i.bytes)) = some (some (.agg #[.string ⟨#[]⟩, .slice none 0 0, .slice none 0 0]), 3, 64) := by kernel_rfl
theorem insL_size : (Tryz.prog.info? 66).map (·.size) = some 3 := by kernel_rfl
theorem insL_over (w : World) (g vb o la ca lb cb : Nat) (cur vs : Array Value) (hne : vb ≠ g) (hv : w.heap[vb]? = some (.cells vs 66 (0, 0))) (hg : w.heap[g]? = some (.cells cur 66 (0, 0))) (hpos : 0 < cur.size) :
    (callFunc 160 #[.slice (some ⟨vb, 0, none⟩) la ca, .slice (some ⟨g, o, none⟩) lb cb]).run Tryz.prog w = .ok (.value (.bool false)) w := by
  rw [run_callFunc_extern Tryz.func160 (by kernel_rfl) (by kernel_rfl) (by kernel_rfl) (e := Extern.SlicesOverlaps.overlaps #[51, 51] #[4]) (by kernel_rfl)]
  have hsz : ∀ w, (Go.sizeOf 66).run Tryz.prog w = .ok 3 w := fun _ => by kernel_rfl
  rw [Lib.run_overlaps_apart w 51 4 66 Tryz.underlying51 3 hsz ⟨vb, 0, none⟩ ⟨g, o, none⟩ la ca lb cb hne 66 66 vs.size cur.size (by unfold World.shape?; rw [hv]) (by unfold World.shape?; rw [hg]) (by omega)
    (by unfold World.frozen?; rw [show (⟨vb, 0, none⟩ : Addr).block = vb from rfl, hv]; simp) (by unfold World.frozen?; rw [show (⟨vb, vs.size, none⟩ : Addr).block = vb from rfl, hv]; simp)]
  rfl

set_option maxRecDepth 100000 in
set_option maxHeartbeats 1000000 in
theorem insL_end (a : Option Addr) (n c vb : Nat) (xs : List Value) (vs : List Value) (w : World) (hr : Row w 66 3 a n c xs) (hv : w.heap[vb]? = some (.cells vs.toArray 66 (0, 0))) (hvl : vs.length = 3)
    (hone : ∀ u ∈ vs, u.oneCell' = true) (hbig : (n + 1) * 64 ≤ 140737488355328) :
    Calls Tryz.prog 128 #[.slice a n c, .int .i64 n, .slice (some ⟨vb, 0, none⟩) 1 1] w fun e w' => ∃ a' c', e = .returned (.slice a' (n + 1) c') ∧ Row w' 66 3 a' (n + 1) c' (xs ++ vs) ∧ Touch (blkOf a) w w' ∧ Fresh w a a' := by
  obtain ⟨i0, hi, hz0, hz1, hz2⟩ := info_parts insL_info
  have hcl : ∀ j u, vs[j]? = some u → w.cell? ((⟨vb, 0, none⟩ : Addr).add j) = some u := fun j u hj => by
    rw [Addr.add_lit]; unfold World.cell?; rw [show (⟨vb, 0 + j, none⟩ : Addr).block = vb from rfl, hv]; simpa using hj
  have hnc : n ≤ c := by rcases hr.out with ⟨_, rfl, rfl, _⟩ | ⟨g, cur, _, _, h, _⟩; exact Nat.le_refl _; exact h
  obtain ⟨a', c', w', hrun, hown, ht, hf⟩ := run_append_row (P := Tryz.prog) w 51 51 66 i0 (.agg #[.string ⟨#[]⟩, .slice none 0 0, .slice none 0 0]) 3 64 Tryz.underlying51 hi hz0 hz1 hz2 rfl (by decide) a n c xs hr ⟨vb, 0, none⟩ 1 1 vs (by rw [hvl, Nat.one_mul]) hcl hone (by unfold maxLen; omega) hbig
  have hb : n < 9223372036854775807 := by omega
  have HN := Lib.hid hnc
  have HF : Hid (Row w' 66 3 a' (n + 1) c' (xs ++ vs) ∧ Touch (blkOf a) w w' ∧ Fresh w a a') := Lib.hid ⟨hown, ht, hf⟩
  have HR := Lib.hid hrun
  clear hrun hown ht hf hcl hv hr hi hz0 hz1 hz2
  by_cases hcn : c = n
  · subst hcn
    go_enter Tryz.func128, Tryz.ntmps128
    go_wp2_with (at_builtin; refine wpList_appendR _ rfl _ _ 51 51 rfl _ _ rfl rfl HR.out ?_)
    go_ret
    exact ⟨_, _, rfl, HF.out⟩
  · go_enter Tryz.func128, Tryz.ntmps128
    go_wp2_with (at_builtin; refine wpList_appendR _ rfl _ _ 51 51 rfl _ _ rfl rfl HR.out ?_)
    go_ret
    exact ⟨_, _, rfl, HF.out⟩

set_option maxRecDepth 100000 in
set_option maxHeartbeats 2000000 in
theorem insL_room (g n c i vb : Nat) (cur : Array Value) (xs vs : List Value) (w : World) (hg : w.heap[g]? = some (.cells cur 66 (0, 0))) (hcs : cur.size = c * 3) (hcm : c ≤ maxLen) (htk : cur.toList.take (n * 3) = xs)
    (hv : w.heap[vb]? = some (.cells vs.toArray 66 (0, 0))) (hvl : vs.length = 3) (hne : vb ≠ g) (honex : ∀ u ∈ xs, u.oneCell' = true) (hone : ∀ u ∈ vs, u.oneCell' = true) (hi : i < n) (hroom : n + 1 ≤ c) :
    Calls Tryz.prog 128 #[.slice (some ⟨g, 0, none⟩) n c, .int .i64 i, .slice (some ⟨vb, 0, none⟩) 1 1] w fun e w' => e = .returned (.slice (some ⟨g, 0, none⟩) (n + 1) c) ∧ Row w' 66 3 (some ⟨g, 0, none⟩) (n + 1) c (xs.take (i * 3) ++ vs ++ xs.drop (i * 3)) ∧ Touch [g] w w' := by
  have hcl0 : 0 < cur.size := by omega
  have hxl : xs.length = n * 3 := by rw [← htk, List.length_take, Array.length_toList]; omega
  obtain ⟨L1, L2, L3⟩ := ins_list cur.toList xs vs n i c 3 hi hroom (by rw [Array.length_toList]; exact hcs) htk hvl
  have hov := fun la ca o lb cb => insL_over w g vb o la ca lb cb cur vs.toArray hne hv hg hcl0
  -- the first copy: what stands from i on moves one place up
  obtain ⟨C1, hC1⟩ : ∃ C1 : Array Value, C1 = (cur.toList.take ((i + 1) * 3) ++ xs.drop (i * 3) ++ cur.toList.drop ((n + 1) * 3)).toArray := ⟨_, rfl⟩
  have hdl : (xs.drop (i * 3)).length = (n - i) * 3 := by rw [List.length_drop, hxl]; omega
  have hcp1 : ∀ ty dc sc, (Builtin.copy_ #[51, 51] ty #[.slice (some ⟨g, (i + 1) * 3, none⟩) (n - i) dc, .slice (some ⟨g, i * 3, none⟩) (n + 1 - i) sc]).run Tryz.prog w.drew = .ok (goInt (n - i : Nat)) (w.drew.setRow g C1) := fun ty dc sc => by
    have := run_copy_k (P := Tryz.prog) w.drew 51 51 ty 66 3 g ((i + 1) * 3) (n - i) dc ⟨g, i * 3, none⟩ (n + 1 - i) sc cur 66 (xs.drop (i * 3)) (n - i) Tryz.underlying51 insL_size hg (by simp only [Nat.min_def]; split <;> omega) hdl
      (fun j u hj => by
        rw [Addr.add_lit]
        rw [List.getElem?_drop, ← htk, List.getElem?_take] at hj
        split at hj
        · unfold World.cell?; rw [show (⟨g, i * 3 + j, none⟩ : Addr).block = g from rfl, show w.drew.heap[g]? = _ from hg]; simpa using hj
        · cases hj)
      (by rw [hdl]; omega) (fun u hu => honex u (List.mem_of_mem_drop hu))
    rw [this, hC1, hdl, show (i + 1) * 3 + (n - i) * 3 = (n + 1) * 3 by rw [← Nat.add_mul]; congr 1; omega]
  have hg1 : (w.drew.setRow g C1).heap[g]? = some (.cells C1 66 (0, 0)) := setRow_heap _ g cur C1 66 _ hg
  have hC1s : C1.size = c * 3 := by rw [hC1, List.size_toArray]; exact L3
  obtain ⟨C2, hC2⟩ : ∃ C2 : Array Value, C2 = (C1.toList.take (i * 3) ++ vs ++ C1.toList.drop (i * 3 + 3)).toArray := ⟨_, rfl⟩
  have hcp2 : ∀ (W : World), W.heap[g]? = some (.cells C1 66 (0, 0)) → W.heap[vb]? = some (.cells vs.toArray 66 (0, 0)) → ∀ ty dc, (Builtin.copy_ #[51, 51] ty #[.slice (some ⟨g, i * 3, none⟩) (n + 1 - i) dc, .slice (some ⟨vb, 0, none⟩) 1 1]).run Tryz.prog W = .ok (goInt (1 : Nat)) (W.setRow g C2) := fun W hW hWv ty dc => by
    have := run_copy_k (P := Tryz.prog) W 51 51 ty 66 3 g (i * 3) (n + 1 - i) dc ⟨vb, 0, none⟩ 1 1 C1 66 vs 1 Tryz.underlying51 insL_size hW (by simp only [Nat.min_def]; split <;> omega) (by rw [hvl])
      (fun j u hj => by rw [Addr.add_lit]; unfold World.cell?; rw [show (⟨vb, 0 + j, none⟩ : Addr).block = vb from rfl, hWv]; simpa using hj)
      (by rw [hvl, hC1s]; omega) hone
    rw [this, hC2, hvl]
  have hfin : Hid (Row ((w.drew.setRow g C1).setRow g C2) 66 3 (some ⟨g, 0, none⟩) (n + 1) c (xs.take (i * 3) ++ vs ++ xs.drop (i * 3)) ∧ Touch [g] w ((w.drew.setRow g C1).setRow g C2)) := Lib.hid (by
    refine ⟨Row.mk (cur := C2) (setRow_heap _ g C1 C2 66 _ hg1) hroom hcm ?_ ?_, ((Touch.drew _ _).andThen (Touch.setRow _ g C1 (by simp))).andThen (Touch.setRow _ g C2 (by simp))⟩
    · rw [hC2, List.size_toArray, hC1]; exact L2
    · rw [hC2, List.toList_toArray, hC1]; exact L1)
  have hv1 : (w.drew.setRow g C1).heap[vb]? = some (.cells vs.toArray 66 (0, 0)) := by rw [setRow_other _ g vb C1 hne]; exact hv
  have hcp3 := hcp2 _ hg1 hv1
  try simp only [Nat.mul_one] at hcp1 hcp3
  have H1 := Lib.hid hcp1
  have H2 := Lib.hid hcp3
  have HC : Hid (c = c) := Lib.hid rfl
  have hb1 : i ≤ n := by omega
  have hb2 : n + 1 ≤ 9223372036854775807 := by unfold maxLen at hcm; omega
  have hb3 : ¬ (c = i) := by omega
  have hb4 : ¬ (c = i + 1) := by omega
  clear hcp1 hcp2 hcp3 hg1 hC1s hC1 hC2 hdl hv1 L1 L2 L3 hxl hcl0 htk hcs hg hv hvl honex hone hcm
  go_enter Tryz.func128, Tryz.ntmps128
  go_wp2_with (simp only [hov])
  have hr1 : IntKind.i64.wrap ((i : Int) + 1) = (i : Int) + 1 := by rw [IntKind.wrap_i64]; omega
  have hr2 : (0 : Int) ≤ (i : Int) + 1 := by omega
  have hr3 : ((i : Int) + 1).toNat = i + 1 := by omega
  have hr4 : (i : Int) ≤ (n : Int) + 1 := by omega
  have hr5 : (i : Int) + 1 ≤ (n : Int) + 1 := by omega
  have hq := fun dc sc => H1.out 3 dc sc
  go_region
  clear hq hr1 hr2 hr3 hr4 hr5
  have hq2 := fun dc => H2.out 3 dc
  go_wp2_with fail
  go_ret
  exact ⟨rfl, hfin.out.1, hfin.out.2⟩

set_option maxRecDepth 100000 in
set_option maxHeartbeats 2000000 in
theorem insL_grow (g n i vb : Nat) (cur : Array Value) (xs vs : List Value) (w : World) (hg : w.heap[g]? = some (.cells cur 66 (0, 0))) (hcs : cur.size = n * 3) (hcm : n ≤ maxLen) (htk : cur.toList.take (n * 3) = xs)
    (hv : w.heap[vb]? = some (.cells vs.toArray 66 (0, 0))) (hvl : vs.length = 3) (honex : ∀ u ∈ xs, u.oneCell' = true) (hone : ∀ u ∈ vs, u.oneCell' = true) (hi : i < n) (hbig : (n + 1) * 64 ≤ 140737488355328) :
    Calls Tryz.prog 128 #[.slice (some ⟨g, 0, none⟩) n n, .int .i64 i, .slice (some ⟨vb, 0, none⟩) 1 1] w fun e w' => ∃ a' c', e = .returned (.slice a' (n + 1) c') ∧ Row w' 66 3 a' (n + 1) c' (xs.take (i * 3) ++ vs ++ xs.drop (i * 3)) ∧ (∀ x, a' = some x → x.block = w.heap.size) ∧ Touch [] w w' := by
  obtain ⟨i0, hi0, hz0, hz1, hz2⟩ := info_parts insL_info
  have hxl : xs.length = n * 3 := by rw [← htk, List.length_take, Array.length_toList]; omega
  have hgl : g < w.heap.size := (Array.getElem?_eq_some_iff.1 hg).1
  have hvbl : vb < w.heap.size := (Array.getElem?_eq_some_iff.1 hv).1
  have hcell : ∀ (W : World), W.heap[g]? = some (.cells cur 66 (0, 0)) → ∀ j u, xs[j]? = some u → W.cell? ⟨g, j, none⟩ = some u := fun W hW j u hj => by
    rw [← htk, List.getElem?_take] at hj
    split at hj
    · unfold World.cell?; rw [show (⟨g, j, none⟩ : Addr).block = g from rfl, hW]; simpa using hj
    · cases hj
  have hik : i * 3 ≤ n * 3 := Nat.mul_le_mul_right _ (by omega)
  have htl : (xs.take (i * 3)).length = i * 3 := by rw [List.length_take]; omega
  have hold : (Builtin.firstCells i0.size i (.slice (some ⟨g, 0, none⟩) i n)).run Tryz.prog w.drew = .ok (xs.take (i * 3)).toArray w.drew := by
    rw [hz1]
    exact run_firstCells_some w.drew 3 i ⟨g, 0, none⟩ i n (xs.take (i * 3)) (by rw [htl]) (fun j u hj => by
      rw [Addr.add_lit, Nat.zero_add]
      rw [List.getElem?_take] at hj
      split at hj
      · exact hcell w.drew hg j u hj
      · cases hj)
  have hrun := run_append_zeros_grow (P := Tryz.prog) w 51 3 51 66 i0 (.agg #[.string ⟨#[]⟩, .slice none 0 0, .slice none 0 0]) .i64 .i64 Tryz.underlying51 Tryz.underlying3 hi0 hz0 (some ⟨g, 0, none⟩) i n (xs.take (i * 3)) hold (n + 1 - i) (by omega) (by rw [hz1]; decide) (by omega) (by omega) (by rw [hz2]; rw [show i + (n + 1 - i) = n + 1 by omega]; exact hbig)
  rw [show i + (n + 1 - i) = n + 1 by omega] at hrun
  obtain ⟨cc, hcc⟩ : ∃ cc, grownCap w (n + 1) n 66 = cc := ⟨_, rfl⟩
  have hccge : n + 1 ≤ cc := hcc ▸ grownCap_ge _ _ _ _
  have hccle : cc ≤ maxLen := hcc ▸ grownCap_le_maxLen _ _ _ _ (by unfold maxLen; omega)
  rw [hcc] at hrun
  obtain ⟨zs, hzs⟩ : ∃ zs, (Builtin.zeroCells (Value.cells (.agg #[.string ⟨#[]⟩, .slice none 0 0, .slice none 0 0])) (n + 1 - i)).toList = zs := ⟨_, rfl⟩
  obtain ⟨rs, hrs⟩ : ∃ rs, (Builtin.zeroCells (Value.cells (.agg #[.string ⟨#[]⟩, .slice none 0 0, .slice none 0 0])) (cc - (n + 1))).toList = rs := ⟨_, rfl⟩
  have hzl : zs.length = (n + 1 - i) * 3 := by rw [← hzs, Array.length_toList, size_zeroCells]; rfl
  have hrl : rs.length = (cc - (n + 1)) * 3 := by rw [← hrs, Array.length_toList, size_zeroCells]; rfl
  obtain ⟨C0, hC0⟩ : ∃ C0 : Array Value, (xs.take (i * 3) ++ zs ++ rs).toArray = C0 := ⟨_, rfl⟩
  have hC0' : (xs.take (i * 3)).toArray ++ Builtin.zeroCells (Value.cells (.agg #[.string ⟨#[]⟩, .slice none 0 0, .slice none 0 0])) (n + 1 - i) ++ Builtin.zeroCells (Value.cells (.agg #[.string ⟨#[]⟩, .slice none 0 0, .slice none 0 0])) (cc - (n + 1)) = C0 := by
    rw [← hC0, ← hzs, ← hrs]; simp
  rw [hC0'] at hrun
  obtain ⟨N1, N2, N3⟩ := ins_new xs vs zs rs n i 3 hi hxl hvl hzl
  have hC0s : C0.size = cc * 3 := by rw [← hC0, List.size_toArray]; rw [N3, hrl, ← Nat.add_mul]; congr 1; omega
  obtain ⟨C1, hC1⟩ : ∃ C1 : Array Value, (C0.toList.take (i * 3) ++ vs ++ C0.toList.drop (i * 3 + 3)).toArray = C1 := ⟨_, rfl⟩
  have hC0l : C0.toList = xs.take (i * 3) ++ zs ++ rs := by rw [← hC0]
  have hC1s : C1.size = cc * 3 := by rw [← hC1, List.size_toArray, hC0l, N2, ← hC0l, Array.length_toList, hC0s]
  obtain ⟨C2, hC2⟩ : ∃ C2 : Array Value, (C1.toList.take ((i + 1) * 3) ++ xs.drop (i * 3) ++ C1.toList.drop ((n + 1) * 3)).toArray = C2 := ⟨_, rfl⟩
  have hC2l : C2.toList = xs.take (i * 3) ++ vs ++ xs.drop (i * 3) ++ rs := by rw [← hC2, ← hC1, hC0l]; exact N1
  have hdl : (xs.drop (i * 3)).length = (n - i) * 3 := by rw [List.length_drop, hxl]; omega
  -- the worlds
  obtain ⟨W0, hW0⟩ : ∃ W0, w.drew.alloc (.cells C0 66) = W0 := ⟨_, rfl⟩
  have hW0n : W0.heap[w.heap.size]? = some (.cells C0 66 (0, 0)) := hW0 ▸ heap_alloc_new w.drew _
  have hW0t : Touch [] w W0 := hW0 ▸ (Touch.drew _ _).andThen (Touch.alloc _ _ _)
  rw [hW0] at hrun
  have hin1 : (i + 1) * 3 ≤ (n + 1) * 3 := Nat.mul_le_mul_right _ (by omega)
  have hnc1 : (n + 1) * 3 ≤ cc * 3 := Nat.mul_le_mul_right _ hccge
  have hcp1 : ∀ ty dc, (Builtin.copy_ #[51, 51] ty #[.slice (some ⟨w.heap.size, i * 3, none⟩) (n + 1 - i) dc, .slice (some ⟨vb, 0, none⟩) 1 1]).run Tryz.prog W0 = .ok (goInt (1 : Nat)) (W0.setRow w.heap.size C1) := fun ty dc => by
    have := run_copy_k (P := Tryz.prog) W0 51 51 ty 66 3 w.heap.size (i * 3) (n + 1 - i) dc ⟨vb, 0, none⟩ 1 1 C0 66 vs 1 Tryz.underlying51 insL_size hW0n (by simp only [Nat.min_def]; split <;> omega) (by rw [hvl])
      (fun j u hj => by rw [Addr.add_lit]; unfold World.cell?; rw [show (⟨vb, 0 + j, none⟩ : Addr).block = vb from rfl, hW0t.heap hv (by simp)]; simpa using hj)
      (by rw [hvl, hC0s]; omega) hone
    rw [this, hvl, hC1]
  have hW1n : (W0.setRow w.heap.size C1).drew.heap[w.heap.size]? = some (.cells C1 66 (0, 0)) := setRow_heap _ _ C0 C1 66 _ hW0n
  have hW1g : (W0.setRow w.heap.size C1).drew.heap[g]? = some (.cells cur 66 (0, 0)) := (setRow_other _ _ g C1 (by omega)).trans (hW0t.heap hg (by simp))
  have hcp2 : ∀ ty dc sc, (Builtin.copy_ #[51, 51] ty #[.slice (some ⟨w.heap.size, (i + 1) * 3, none⟩) (n - i) dc, .slice (some ⟨g, i * 3, none⟩) (n - i) sc]).run Tryz.prog (W0.setRow w.heap.size C1).drew = .ok (goInt (n - i : Nat)) ((W0.setRow w.heap.size C1).drew.setRow w.heap.size C2) := fun ty dc sc => by
    have := run_copy_k (P := Tryz.prog) (W0.setRow w.heap.size C1).drew 51 51 ty 66 3 w.heap.size ((i + 1) * 3) (n - i) dc ⟨g, i * 3, none⟩ (n - i) sc C1 66 (xs.drop (i * 3)) (n - i) Tryz.underlying51 insL_size hW1n (by simp only [Nat.min_def]; split <;> omega) hdl
      (fun j u hj => by
        rw [Addr.add_lit]
        rw [List.getElem?_drop] at hj
        exact hcell _ hW1g _ _ hj)
      (by rw [hdl, hC1s, ← Nat.add_mul]; exact Nat.le_trans (Nat.mul_le_mul_right _ (by omega)) hnc1) (fun u hu => honex u (List.mem_of_mem_drop hu))
    rw [this, hdl, show (i + 1) * 3 + (n - i) * 3 = (n + 1) * 3 by rw [← Nat.add_mul]; congr 1; omega, hC2]
  have hfin : Hid (Row ((W0.setRow w.heap.size C1).drew.setRow w.heap.size C2) 66 3 (some ⟨w.heap.size, 0, none⟩) (n + 1) cc (xs.take (i * 3) ++ vs ++ xs.drop (i * 3)) ∧ Touch [] w ((W0.setRow w.heap.size C1).drew.setRow w.heap.size C2)) := Lib.hid (by
    refine ⟨Row.mk (cur := C2) (setRow_heap _ _ C1 C2 66 _ hW1n) hccge hccle ?_ ?_, ?_⟩
    · rw [← Array.length_toList, hC2l]; simp only [List.length_append, htl, hdl, hvl, hrl]
      have h1 : (n - i) * 3 + i * 3 = n * 3 := by rw [← Nat.add_mul]; congr 1; omega
      have h2 : (cc - (n + 1)) * 3 + (n * 3 + 3) = cc * 3 := by rw [← Nat.succ_mul, ← Nat.add_mul]; congr 1; omega
      omega
    · rw [hC2l]
      have h1 : (n - i) * 3 + i * 3 = n * 3 := by rw [← Nat.add_mul]; congr 1; omega
      have h2 : (n + 1) * 3 = n * 3 + 3 := Nat.succ_mul _ _
      rw [List.take_append_of_le_length (by simp only [List.length_append, htl, hdl, hvl]; omega), List.take_of_length_le (by simp only [List.length_append, htl, hdl, hvl]; omega)]
    · exact (hW0t.trans (Touch.setRow (bs := [w.heap.size]) _ _ C1 (by simp)) (by simp)).trans ((Touch.drew _ _).andThen (Touch.setRow (bs := [w.heap.size]) _ _ C2 (by simp))) (by simp))
  have HA : Hid ((Builtin.append_ #[51, 3] 51 #[.slice (some ⟨g, 0, none⟩) i n, .int .i64 ((n : Int) + 1 - i)]).run Tryz.prog w = .ok (.slice (some ⟨w.heap.size, 0, none⟩) (n + 1) cc) W0) := Lib.hid (by rw [show ((n + 1 - i : Nat) : Int) = (n : Int) + 1 - i by omega] at hrun; exact hrun)
  try simp only [Nat.mul_one] at hcp1 hcp2
  have H1 := Lib.hid hcp1
  have H2 := Lib.hid hcp2
  have hb1 : i ≤ n := by omega
  have hb2 : n + 1 ≤ 9223372036854775807 := by omega
  have hb3 : ¬ (n = i) := by omega
  have hb4 : ¬ (cc = i) := by omega
  have hb5 : ¬ (cc = i + 1) := by omega
  have hb6 : cc ≤ 9223372036854775807 := by unfold maxLen at hccle; omega
  clear hrun hcp1 hcp2 hW1n hW1g hW0n hW0t hW0 hC2l hC2 hC1s hC1 hC0l hC0s hC0' hC0 hzl hrl hzs hrs hcell hold N1 N2 N3 hik htl hdl htk hcs hg hv hvl honex hone hcm hxl hz0 hz1 hz2 hi0 hbig hin1 hnc1 hccle
  clear hcc
  have hq1 := fun dc => H1.out 3 dc
  go_enter Tryz.func128, Tryz.ntmps128
  go_wp2_with (at_builtin; refine wpList_appendR _ rfl _ _ 51 3 rfl _ _ rfl rfl HA.out ?_)
  clear hq1
  have hr1 : IntKind.i64.wrap ((i : Int) + 1) = (i : Int) + 1 := by rw [IntKind.wrap_i64]; omega
  have hr2 : (0 : Int) ≤ (i : Int) + 1 := by omega
  have hr3 : ((i : Int) + 1).toNat = i + 1 := by omega
  have hr4 : (i : Int) ≤ (n : Int) + 1 := by omega
  have hr5 : (i : Int) + 1 ≤ (n : Int) + 1 := by omega
  have hq2 := fun dc sc => H2.out 3 dc sc
  go_region
  clear hq2 hr1 hr2 hr3 hr4 hr5
  go_wp2_with fail
  go_ret
  exact ⟨_, _, rfl, hfin.out.1, fun x hx => by simp only [Option.some.injEq] at hx; subst hx; rfl, hfin.out.2⟩

theorem insL_any (a : Option Addr) (n c i vb : Nat) (xs vs : List Value) (w : World) (hr : Row w 66 3 a n c xs) (hv : w.heap[vb]? = some (.cells vs.toArray 66 (0, 0))) (hvl : vs.length = 3) (hne : vb ∉ blkOf a)
    (honex : ∀ u ∈ xs, u.oneCell' = true) (hone : ∀ u ∈ vs, u.oneCell' = true) (hi : i ≤ n) (hbig : (n + 1) * 64 ≤ 140737488355328) :
    Calls Tryz.prog 128 #[.slice a n c, .int .i64 i, .slice (some ⟨vb, 0, none⟩) 1 1] w fun e w' => ∃ a' c', e = .returned (.slice a' (n + 1) c') ∧ Row w' 66 3 a' (n + 1) c' (xs.take (i * 3) ++ vs ++ xs.drop (i * 3)) ∧ Touch (blkOf a) w w' ∧ Fresh w a a' := by
  by_cases hin : i = n
  · subst hin
    have hl := hr.len
    rw [List.take_of_length_le (by omega), List.drop_eq_nil_of_le (by omega), List.append_nil]
    exact insL_end a i c vb xs vs w hr hv hvl hone hbig
  · rcases hr.out with ⟨rfl, rfl, rfl, rfl⟩ | ⟨g, cur, rfl, hg, hnc, hcm, hcs, htk, hxl⟩
    · omega
    · have hneg : vb ≠ g := by simpa [blkOf] using hne
      by_cases hroom : n + 1 ≤ c
      · exact (insL_room g n c i vb cur xs vs w hg hcs hcm htk hv hvl hneg honex hone (by omega) hroom).mono fun e w' ⟨he, h1, h2⟩ => ⟨_, _, he, h1, h2, Fresh.refl _ _⟩
      · obtain rfl : c = n := by omega
        exact (insL_grow g c i vb cur xs vs w hg hcs hcm htk hv hvl honex hone (by omega) hbig).mono fun e w' ⟨a', c', he, h1, h2, h3⟩ => ⟨a', c', he, h1, h3.mono (by simp), fun x hx => .inr (by rw [h2 x hx]; exact Nat.le_refl _)⟩

end Go.Proofs.YtmifgnibalbgjaaGreat
/- Ask: the short ways, a new line. -/
namespace Go.Proofs.YtmifgnibalbgjaaGreat
open Go.RowKit set_option linter.unusedVariables false set_option linter.unusedSimpArgs false
theorem perm_line (B R H Q : Asn) (A1 A2 r : List Asn) : (B :: R :: ((A1 ++ (H :: Q :: A2)) ++ r)).Perm ([R, H, Q] ++ (B :: (A1 ++ (A2 ++ r)))) := by
  have h1 : ((A1 ++ (H :: Q :: A2)) ++ r).Perm (H :: Q :: (A1 ++ (A2 ++ r))) := by
    rw [List.append_assoc]
    exact List.perm_middle.trans (List.perm_middle.cons H)
  refine ((h1.cons R).cons B).trans ?_
  refine (List.Perm.swap R B _).trans ?_
  refine ((List.Perm.swap H B _).trans ((List.Perm.swap Q B _).cons H)).cons R
theorem perm_new (N B R S : Asn) (A1 A2 : List Asn) : (N :: B :: R :: S :: (A1 ++ A2)).Perm (B :: R :: (A1 ++ (S :: N :: A2))) := by
  refine (List.Perm.swap B N _).trans (((List.Perm.swap R N _).trans (((List.Perm.swap S N _).trans ?_).cons R)).cons B)
  exact ((List.perm_middle (l₁ := A1) (a := S) (l₂ := N :: A2)).trans (List.perm_middle.cons S)).symm
section
variable {w0 w : World} {D0 : List Nat} {p g n lc : Nat} {X : List Ln} {L : List Li} {r : List Asn}
/-- a line is taken out. -/
theorem Mem.lineOut {i : Nat} (hx : i < X.length) (hl : i < L.length) (h : Mem w0 D0 w (BlockA p #[.slice (some ⟨g, 0, none⟩) n lc] 144 :: RowL g n lc X :: (rowsOf X L ++ r))) :
    Mem w0 D0 w ([RowL g n lc X, RowH X[i].hs L[i].hs, RowH X[i].qs L[i].qs] ++ (BlockA p #[.slice (some ⟨g, 0, none⟩) n lc] 144 :: (rowsOf (X.take i) (L.take i) ++ (rowsOf (X.drop (i + 1)) (L.drop (i + 1)) ++ r)))) := by
  rw [rowsOf_at hx hl] at h
  exact h.perm (perm_line _ _ _ _ _ _ _)
/-- and put in again. -/
theorem Mem.lineIn {i : Nat} (hk : X.map (·.key) = L.map (·.key)) (hx : i < X.length) (hl : i < L.length) {x : Ln} {l : Li} (hxk : x.key = X[i].key) (hlk : l.key = L[i].key)
    (h : Mem w0 D0 w ([RowL g n lc (X.set i x), RowH x.hs l.hs, RowH x.qs l.qs] ++ (BlockA p #[.slice (some ⟨g, 0, none⟩) n lc] 144 :: (rowsOf (X.take i) (L.take i) ++ (rowsOf (X.drop (i + 1)) (L.drop (i + 1)) ++ r))))) : Mem w0 D0 w (TabA p (L.set i l) :: r) := by
  refine Mem.shut (X := X.set i x) (la := some ⟨g, 0, none⟩) (n := n) (c := lc) ?_ ?_
  · obtain ⟨k1, k2⟩ := keys_at hk
    rw [List.map_set, List.map_set, hk, hxk, hlk, k2 i hx hl]
  · rw [rowsOf_set hx hl]
    exact h.perm (perm_line _ _ _ _ _ _ _).symm
end
/-- what Ask leaves. -/
def AskPost (w : World) (D : List Nat) (p : Nat) (r : Int × List Li) (e : Ending) (w' : World) : Prop := e = .returned (.int .i64 r.1) ∧ Mem w D w' [TabA p r.2]
set_option maxRecDepth 100000 in
set_option maxHeartbeats 2000000 in
theorem tab_ask_bad (p : Nat) (L : List Li) (o : Int) (k : ByteArray) (m : Int) (w : World) (D : List Nat) (h : TabA p L w D) (hbad : o < 0 ∨ 16 < k.size ∨ modeM m = false) :
    Calls Tryz.prog 88 #[.pointer (some ⟨p, 0, none⟩), .int .i64 o, .string k, .int .i64 m] w (AskPost w D p (1, L)) := by
  have HF := Lib.hid (show AskPost w D p (1, L) (.returned (.int .i64 1)) w from ⟨rfl, Mem.start h⟩)
  clear h
  generalize AskPost w D p (1, L) = R at *
  by_cases h1 : o < 0
  · go_enter Tryz.func88, Tryz.ntmps88
    go_wp2_with fail
    exact HF.out
  · by_cases h2 : 16 < k.size
    · have h2' : (16 : Int) < (k.size : Int) := by omega
      go_enter Tryz.func88, Tryz.ntmps88
      go_wp2_with fail
      exact HF.out
    · have h2' : ¬ (16 : Int) < (k.size : Int) := by omega
      have h3 : modeM m = false := by
        rcases hbad with h | h | h
        · exact absurd h h1
        · exact absurd h h2
        · exact h
      have HM := Lib.hid (mode_any m w)
      rw [h3] at HM
      clear hbad h3
      go_enter Tryz.func88, Tryz.ntmps88
      go_wp2_with fail
      refine HM.out.mono ?_
      rintro e w1 ⟨rfl, rfl⟩
      go_wp2_with fail
      exact HF.out
theorem lnFlat_ins (l : List Ln) (t : Ln) (k : Nat) : (lnFlat l).take (k * 3) ++ lnCells t ++ (lnFlat l).drop (k * 3) = lnFlat (l.take k ++ t :: l.drop k) := by
  rw [lnFlat_take, lnFlat_drop, lnFlat_append, lnFlat_cons, List.append_assoc]
set_option maxRecDepth 100000 in
set_option maxHeartbeats 4000000 in
theorem tab_ask_new (p : Nat) (L : List Li) (o : Int) (k : ByteArray) (m : Int) (w : World) (D : List Nat) (h : TabA p L w D) (hs : SortL L) (hb : Sm 1000 L) (h1 : ¬ o < 0) (h2 : ¬ 16 < k.size) (h3 : modeM m = true) (hh : hasL L k = false) :
    Calls Tryz.prog 88 #[.pointer (some ⟨p, 0, none⟩), .int .i64 o, .string k, .int .i64 m] w (AskPost w D p (0, L.take (posL L k) ++ ⟨k, [⟨o, m⟩], []⟩ :: L.drop (posL L k))) := by
  obtain ⟨la, n, c, X, hk, hm⟩ := Mem.table (Mem.start h)
  obtain ⟨k1, k2⟩ := keys_at hk
  have hl := lnrow_len (Mem.rowAt [BlockA p #[.slice la n c] 144] (r := rowsOf X L ++ []) hm)
  obtain ⟨hc, -⟩ := Mem.cellAt (i := 0) (v := .slice la n c) [] (r := RowA 66 3 la n c (lnFlat X) :: (rowsOf X L ++ [])) hm rfl
  have hq : posL L k ≤ L.length := posBy_le _ _
  have HF := Lib.hid (tab_find p la n c X L k w hc (Mem.rowAt [BlockA p #[.slice la n c] 144] (r := rowsOf X L ++ []) hm) hk hs (by have := hb.1; omega))
  rw [hh] at HF
  have h2' : ¬ (16 : Int) < (k.size : Int) := by omega
  have HM := Lib.hid (mode_any m w)
  rw [h3] at HM
  have M0 := Lib.hid hm
  have HFIN : Hid (∀ W la' n' c' (s : Sl), Mem w D W (BlockA p #[.slice la' n' c'] 144 :: RowA 66 3 la' n' c' (lnFlat (X.take (posL L k) ++ ⟨k, s, ⟨none, 0, 0⟩⟩ :: X.drop (posL L k))) :: RowH s [⟨o, m⟩] :: (rowsOf X L ++ [])) → AskPost w D p (0, L.take (posL L k) ++ ⟨k, [⟨o, m⟩], []⟩ :: L.drop (posL L k)) (.returned (.int .i64 0)) W) := Lib.hid fun W la' n' c' s hW => ⟨rfl, by
    have h1 := hW.new (Below.refl _ _) (As := [RowH ⟨none, 0, 0⟩ []]) (all_one ⟨rfl, Row.nil _ _ _⟩) (by simp [blkOf])
    have e1 : rowsOf X L = rowsOf (X.take (posL L k)) (L.take (posL L k)) ++ rowsOf (X.drop (posL L k)) (L.drop (posL L k)) := by
      rw [← rowsOf_append _ _ _ _ (by rw [List.length_take, List.length_take, k1]), List.take_append_drop, List.take_append_drop]
    have e2 : rowsOf (X.take (posL L k) ++ ⟨k, s, ⟨none, 0, 0⟩⟩ :: X.drop (posL L k)) (L.take (posL L k) ++ ⟨k, [⟨o, m⟩], []⟩ :: L.drop (posL L k)) = rowsOf (X.take (posL L k)) (L.take (posL L k)) ++ (RowH s [⟨o, m⟩] :: RowH ⟨none, 0, 0⟩ [] :: rowsOf (X.drop (posL L k)) (L.drop (posL L k))) := by
      rw [rowsOf_append _ _ _ _ (by rw [List.length_take, List.length_take, k1])]; rfl
    refine Mem.shut (la := la') (n := n') (c := c') (X := X.take (posL L k) ++ ⟨k, s, ⟨none, 0, 0⟩⟩ :: X.drop (posL L k)) ?_ (h1.perm ?_)
    · rw [List.map_append, List.map_append, List.map_cons, List.map_cons, List.map_take, List.map_drop, List.map_take, List.map_drop, hk]
    · rw [e1, e2, List.append_nil, List.append_nil]
      exact perm_new _ _ _ _ _ _⟩
  have hqn : (posL L k : Int) ≤ 1000 := by have := hb.1; omega
  have hnn : n ≤ 1000 := by have := hb.1; omega
  have HQ := Lib.hid (show posL L k ≤ n by omega)
  clear hm hk k1 k2 hl hs h hh h3 hb hq
  generalize AskPost w D p (0, L.take (posL L k) ++ ⟨k, [⟨o, m⟩], []⟩ :: L.drop (posL L k)) = R at *
  generalize posL L k = q at *
  go_enter Tryz.func88, Tryz.ntmps88
  go_wp2_with fail
  refine HM.out.mono ?_
  rintro e w1 ⟨rfl, rfl⟩
  go_wp2_with fail
  refine HF.out.mono ?_
  rintro e w1 ⟨rfl, hb⟩
  have M1 := M0.out.below hb
  have hc1 := (hb.cell (World.block_lt_of_cell? w _ hc)).trans hc
  have hc2 := fun o => ((bel_new w1 o).cell (World.block_lt_of_cell? w1 _ hc1)).trans hc1
  have hla : ∀ x ∈ blkOf la, x < w1.heap.size := fun x hx => by
    obtain ⟨y, hy, rfl⟩ := mem_blkOf.1 hx
    exact (Mem.rowAt [BlockA p #[.slice la n c] 144] (r := rowsOf X L ++ []) M1).lt y hy
  have M2 := (M1.new (bel_new w1 (.cells #[.int .i64 o, .int .i64 m] 32)) (As := [RowH ⟨some ⟨w1.heap.size, 0, none⟩, 1, 1⟩ [⟨o, m⟩]]) (all_one ⟨rfl, Row.mk (heap_new w1 _) (Nat.le_refl _) (by show 1 ≤ maxLen; unfold maxLen; omega) (by rfl) (by rfl)⟩) (by simp [blkOf])).block #[.string k, .slice (some ⟨w1.heap.size, 0, none⟩) 1 1, .slice none 0 0] 66
  rw [show (w1.alloc (.cells #[.int .i64 o, .int .i64 m] 32)).heap.size = w1.heap.size + 1 by simp only [World.size_alloc]] at M2
  have hv : ((w1.alloc (.cells #[.int .i64 o, .int .i64 m] 32)).alloc (.cells #[.string k, .slice (some ⟨w1.heap.size, 0, none⟩) 1 1, .slice none 0 0] 66)).heap[w1.heap.size + 1]? = some (.cells (lnCells ⟨k, ⟨some ⟨w1.heap.size, 0, none⟩, 1, 1⟩, ⟨none, 0, 0⟩⟩).toArray 66 (0, 0)) := heap_alloc_at _ _ _ (by simp only [World.size_alloc])
  have HI := Lib.hid (insL_any la n c q (w1.heap.size + 1) (lnFlat X) (lnCells ⟨k, ⟨some ⟨w1.heap.size, 0, none⟩, 1, 1⟩, ⟨none, 0, 0⟩⟩) ((w1.alloc (.cells #[.int .i64 o, .int .i64 m] 32)).alloc (.cells #[.string k, .slice (some ⟨w1.heap.size, 0, none⟩) 1 1, .slice none 0 0] 66)) (Mem.rowAt [BlockA (w1.heap.size + 1) #[.string k, .slice (some ⟨w1.heap.size, 0, none⟩) 1 1, .slice none 0 0] 66, RowH ⟨some ⟨w1.heap.size, 0, none⟩, 1, 1⟩ [⟨o, m⟩], BlockA p #[.slice la n c] 144] (r := rowsOf X L ++ []) M2) hv rfl (fun h => by have := hla _ h; omega) (lnFlat_one X) (lnCells_one _) HQ.out (by omega))
  have M3 := Lib.hid M2
  clear hb hc M0 M1 M2 hla hv
  go_wp2_with fail
  refine HI.out.mono ?_
  rintro e w3 ⟨a', c', rfl, hrow, ht, hf⟩
  rw [lnFlat_ins] at hrow
  have M4 := Mem.rowTurn [BlockA (w1.heap.size + 1) #[.string k, .slice (some ⟨w1.heap.size, 0, none⟩) 1 1, .slice none 0 0] 66, RowH ⟨some ⟨w1.heap.size, 0, none⟩, 1, 1⟩ [⟨o, m⟩], BlockA p #[.slice la n c] 144] (r := rowsOf X L ++ []) M3.out hrow ht hf
  obtain ⟨y0, y1⟩ := Mem.cellAt (i := 0) (v := .slice la n c) [BlockA (w1.heap.size + 1) #[.string k, .slice (some ⟨w1.heap.size, 0, none⟩) 1 1, .slice none 0 0] 66, RowH ⟨some ⟨w1.heap.size, 0, none⟩, 1, 1⟩ [⟨o, m⟩]] (r := RowA 66 3 a' (n + 1) c' (lnFlat (X.take q ++ ⟨k, ⟨some ⟨w1.heap.size, 0, none⟩, 1, 1⟩, ⟨none, 0, 0⟩⟩ :: X.drop q)) :: (rowsOf X L ++ [])) M4 rfl
  have M5 := Mem.setAt [BlockA (w1.heap.size + 1) #[.string k, .slice (some ⟨w1.heap.size, 0, none⟩) 1 1, .slice none 0 0] 66, RowH ⟨some ⟨w1.heap.size, 0, none⟩, 1, 1⟩ [⟨o, m⟩]] (r := RowA 66 3 a' (n + 1) c' (lnFlat (X.take q ++ ⟨k, ⟨some ⟨w1.heap.size, 0, none⟩, 1, 1⟩, ⟨none, 0, 0⟩⟩ :: X.drop q)) :: (rowsOf X L ++ [])) (i := 0) M4 (.slice a' (n + 1) c')
  have M6 := Mem.drop [] (A := BlockA (w1.heap.size + 1) #[.string k, .slice (some ⟨w1.heap.size, 0, none⟩) 1 1, .slice none 0 0] 66) (r := RowH ⟨some ⟨w1.heap.size, 0, none⟩, 1, 1⟩ [⟨o, m⟩] :: BlockA p #[.slice a' (n + 1) c'] 144 :: RowA 66 3 a' (n + 1) c' (lnFlat (X.take q ++ ⟨k, ⟨some ⟨w1.heap.size, 0, none⟩, 1, 1⟩, ⟨none, 0, 0⟩⟩ :: X.drop q)) :: (rowsOf X L ++ [])) M5
  have HF2 := Lib.hid (HFIN.out _ a' (n + 1) c' ⟨some ⟨w1.heap.size, 0, none⟩, 1, 1⟩ (M6.perm ((List.Perm.swap _ _ _).trans ((List.Perm.swap _ _ _).cons _))))
  clear hrow ht hf M4 M5 M6 M3 HFIN HI
  go_wp2_with fail
  exact HF2.out
end Go.Proofs.YtmifgnibalbgjaaGreat
