/- IndexFunc and DeleteFunc of edges. -/
import Derived.Test.YtbgabdofnmijnaaJ
namespace Go.Proofs.Ytbgabdofnmijnaa
open Go.RowKit
theorem egFlat_cells {w : World} {E : Nat} {a : Option Addr} {n c : Nat} {l : List Eg} (h : Row w E 2 a n c (egFlat l)) (k : Nat) (hk : k < l.length) : ∃ g, a = some ⟨g, 0, none⟩ ∧ egAt w g (k * 2) l[k] := egAt_row h k hk
theorem egFlat_keep {w w' : World} {B g o : Nat} {t : Eg} (hb : Below B w w') (h : egAt w g o t) (hB : w.heap.size ≤ B := by exact Nat.le_refl _) : egAt w' g o t := h.below hb hB
theorem egFlat_at {w : World} {g E n j : Nat} {cur : Array Value} {l : List Eg} (hg : w.heap[g]? = some (.cells cur E (0, 0))) (h : (cur.toList.take (n * 2)).drop (j * 2) = egFlat (l.drop j)) (hj : j < l.length) : egAt w g (j * 2) l[j] := egAt_at hg h hj
theorem egFlat_new (w : World) (t : Eg) (T : TypeId) : egAt (w.alloc (.cells #[.int .i64 t.a, .int .i64 t.b] T)) w.heap.size 0 t := egAt_new w t T
theorem delE_size : (Try.prog.info? 42).map (·.size) = some 2 := by kernel_rfl
theorem delE_zero (w : World) : (zeroValue 42).run Try.prog w = .ok (.agg #[.int .i64 0, .int .i64 0]) w := by kernel_rfl

set_option maxRecDepth 100000 in
set_option maxHeartbeats 1000000 in
theorem et_idx (bi : Nat) (p : Eg → Bool) (C : World → Prop) (hCk : ∀ W W', C W → Below W.heap.size W W' → C W')
    (hcl : ∀ (x : Eg) W, C W → Calls Try.prog 39 #[.agg #[.int .i64 x.a, .int .i64 x.b], .pointer (some ⟨bi, 0, none⟩)] W fun e W' => e = .returned (.bool (p x)) ∧ Below W.heap.size W W')
    (a : Option Addr) (n c : Nat) (l : List Eg) (w : World) (hC : C w) (hr : Row w 42 2 a n c (egFlat l)) (hn : n ≤ 1099511627776) :
    Calls Try.prog 63 #[.slice a n c, .func (.func 39) #[] #[.pointer (some ⟨bi, 0, none⟩)]] w fun e w' => e = .returned (.int .i64 (idxL p l)) ∧ Below w.heap.size w w' := by
  have hl : n = l.length := by have := hr.len; rw [egFlat_len] at this; omega
  subst hl
  have HR := Lib.hid hr
  have HCk := Lib.hid hCk
  have HCl := Lib.hid hcl
  have HC := Lib.hid hC
  clear hr hCk hcl hC
  go_enter Try.func63, Try.ntmps63
  go_wp2_with fail
  go_loopw [5, 8] (fun _ i wr => ∃ k : Nat, k ≤ l.length ∧ Hid (∀ j (h : j < l.length), j < k → p l[j] = false) ∧ i = .int .i64 k ∧ Hid (Below w.heap.size w wr)) (fun _ i _ => l.length - (intOf i).toNat)
  case atStart => exact ⟨0, Nat.zero_le _, Lib.hid (fun j _ hj => absurd hj (by omega)), rfl, Lib.hid (Below.refl _ _)⟩
  case round =>
    obtain ⟨k, hk, hall, rfl, HB⟩ := hrel
    by_cases hlt : k < l.length
    · obtain ⟨g, rfl, hcs⟩ := egFlat_cells HR.out k hlt
      have hcs := egFlat_keep HB.out hcs
      have HCc := HCl.out l[k] wr (HCk.out _ _ HC.out HB.out)
      cases hp : p l[k] with
      | true =>
        rw [hp] at HCc
        have HCC := Lib.hid HCc
        have hfin : Hid (idxL p l = (k : Int)) := Lib.hid (idxL_some p l k hlt (fun j h hj => hall.out j h hj) hp)
        generalize l[k] = x at *
        obtain ⟨zo, zm⟩ := x; obtain ⟨hcA, hcB⟩ := hcs; simp only at hcA hcB
        clear HCc hp hall
        go_wp2_with fail
        refine HCC.out.mono ?_
        rintro e w2 ⟨rfl, hb2⟩
        have HB2 := Lib.hid (HB.out.trans (hb2.mono HB.out.size))
        clear hb2
        go_wp2_with fail
        go_ret
        exact ⟨by rw [hfin.out]; rfl, HB2.out⟩
      | false =>
        rw [hp] at HCc
        have HCC := Lib.hid HCc
        have hall2 : Hid (∀ j (h : j < l.length), j < k + 1 → p l[j] = false) := Lib.hid fun j h hj => by
          by_cases e : j = k
          · subst e; exact hp
          · exact hall.out j h (by omega)
        generalize l[k] = x at *
        obtain ⟨zo, zm⟩ := x; obtain ⟨hcA, hcB⟩ := hcs; simp only at hcA hcB
        clear HCc hp hall
        go_wp2_with fail
        refine HCC.out.mono ?_
        rintro e w2 ⟨rfl, hb2⟩
        have HB2 := Lib.hid (HB.out.trans (hb2.mono HB.out.size))
        clear hb2
        go_wp2_with fail
        go_roundw
        case rel => exact ⟨k + 1, by omega, hall2, by go_num, HB2⟩
        case measure => simp [intOf]; omega
    · have hfin : Hid (idxL p l = -1) := Lib.hid (idxL_none p l fun j h => hall.out j h (by omega))
      clear hall
      go_wp2_with fail
      go_ret
      exact ⟨by rw [hfin.out]; rfl, HB.out⟩


set_option maxRecDepth 100000 in
set_option maxHeartbeats 1000000 in
theorem ef_idx (bi : Nat) (p : Eg → Bool) (C : World → Prop) (hCk : ∀ W W', C W → Below W.heap.size W W' → C W')
    (hcl : ∀ (x : Eg) W, C W → Calls Try.prog 42 #[.agg #[.int .i64 x.a, .int .i64 x.b], .pointer (some ⟨bi, 0, none⟩)] W fun e W' => e = .returned (.bool (p x)) ∧ Below W.heap.size W W')
    (a : Option Addr) (n c : Nat) (l : List Eg) (w : World) (hC : C w) (hr : Row w 42 2 a n c (egFlat l)) (hn : n ≤ 1099511627776) :
    Calls Try.prog 63 #[.slice a n c, .func (.func 42) #[] #[.pointer (some ⟨bi, 0, none⟩)]] w fun e w' => e = .returned (.int .i64 (idxL p l)) ∧ Below w.heap.size w w' := by
  have hl : n = l.length := by have := hr.len; rw [egFlat_len] at this; omega
  subst hl
  have HR := Lib.hid hr
  have HCk := Lib.hid hCk
  have HCl := Lib.hid hcl
  have HC := Lib.hid hC
  clear hr hCk hcl hC
  go_enter Try.func63, Try.ntmps63
  go_wp2_with fail
  go_loopw [5, 8] (fun _ i wr => ∃ k : Nat, k ≤ l.length ∧ Hid (∀ j (h : j < l.length), j < k → p l[j] = false) ∧ i = .int .i64 k ∧ Hid (Below w.heap.size w wr)) (fun _ i _ => l.length - (intOf i).toNat)
  case atStart => exact ⟨0, Nat.zero_le _, Lib.hid (fun j _ hj => absurd hj (by omega)), rfl, Lib.hid (Below.refl _ _)⟩
  case round =>
    obtain ⟨k, hk, hall, rfl, HB⟩ := hrel
    by_cases hlt : k < l.length
    · obtain ⟨g, rfl, hcs⟩ := egFlat_cells HR.out k hlt
      have hcs := egFlat_keep HB.out hcs
      have HCc := HCl.out l[k] wr (HCk.out _ _ HC.out HB.out)
      cases hp : p l[k] with
      | true =>
        rw [hp] at HCc
        have HCC := Lib.hid HCc
        have hfin : Hid (idxL p l = (k : Int)) := Lib.hid (idxL_some p l k hlt (fun j h hj => hall.out j h hj) hp)
        generalize l[k] = x at *
        obtain ⟨zo, zm⟩ := x; obtain ⟨hcA, hcB⟩ := hcs; simp only at hcA hcB
        clear HCc hp hall
        go_wp2_with fail
        refine HCC.out.mono ?_
        rintro e w2 ⟨rfl, hb2⟩
        have HB2 := Lib.hid (HB.out.trans (hb2.mono HB.out.size))
        clear hb2
        go_wp2_with fail
        go_ret
        exact ⟨by rw [hfin.out]; rfl, HB2.out⟩
      | false =>
        rw [hp] at HCc
        have HCC := Lib.hid HCc
        have hall2 : Hid (∀ j (h : j < l.length), j < k + 1 → p l[j] = false) := Lib.hid fun j h hj => by
          by_cases e : j = k
          · subst e; exact hp
          · exact hall.out j h (by omega)
        generalize l[k] = x at *
        obtain ⟨zo, zm⟩ := x; obtain ⟨hcA, hcB⟩ := hcs; simp only at hcA hcB
        clear HCc hp hall
        go_wp2_with fail
        refine HCC.out.mono ?_
        rintro e w2 ⟨rfl, hb2⟩
        have HB2 := Lib.hid (HB.out.trans (hb2.mono HB.out.size))
        clear hb2
        go_wp2_with fail
        go_roundw
        case rel => exact ⟨k + 1, by omega, hall2, by go_num, HB2⟩
        case measure => simp [intOf]; omega
    · have hfin : Hid (idxL p l = -1) := Lib.hid (idxL_none p l fun j h => hall.out j h (by omega))
      clear hall
      go_wp2_with fail
      go_ret
      exact ⟨by rw [hfin.out]; rfl, HB.out⟩


set_option maxRecDepth 100000 in
set_option maxHeartbeats 2000000 in
theorem ef_del (bi : Nat) (p : Eg → Bool) (C : World → Prop) (hCk : ∀ W W', C W → Below W.heap.size W W' → C W')
    (hcl : ∀ (x : Eg) W, C W → Calls Try.prog 42 #[.agg #[.int .i64 x.a, .int .i64 x.b], .pointer (some ⟨bi, 0, none⟩)] W fun e W' => e = .returned (.bool (p x)) ∧ Below W.heap.size W W')
    (a : Option Addr) (hCt : ∀ W W', C W → Touch (blkOf a) W W' → C W') (n c : Nat) (l : List Eg) (w : World) (hC : C w) (hr : Row w 42 2 a n c (egFlat l)) (hn : n ≤ 1099511627776) :
    Calls Try.prog 41 #[.slice a n c, .func (.func 42) #[] #[.pointer (some ⟨bi, 0, none⟩)]] w fun e w' => e = .returned (.slice a (l.filter fun x => !p x).length c) ∧ Row w' 42 2 a (l.filter fun x => !p x).length c (egFlat (l.filter fun x => !p x)) ∧ Touch (blkOf a) w w' := by
  have hl : n = l.length := by have := hr.len; rw [egFlat_len] at this; omega
  subst hl
  have HI := Lib.hid (ef_idx bi p C hCk hcl a l.length c l w hC hr hn)
  have HR := Lib.hid hr
  have HCk := Lib.hid hCk
  have HCt := Lib.hid hCt
  have HCl := Lib.hid hcl
  have HC := Lib.hid hC
  clear hr hCk hcl hC hCt
  cases hf : l.findIdx? p with
  | none =>
    have hi : idxL p l = -1 := by unfold idxL; rw [hf]
    rw [hi] at HI
    have hfl : Hid ((l.filter fun x => !p x) = l) := Lib.hid (List.filter_eq_self.2 fun x hx => by rw [List.findIdx?_eq_none_iff.1 hf x hx]; rfl)
    clear hf hi
    go_enter Try.func41, Try.ntmps41
    go_wp2_with fail
    refine HI.out.mono ?_
    rintro e w1 ⟨rfl, hb⟩
    have HB := Lib.hid hb
    clear hb
    go_wp2_with fail
    go_ret
    rw [hfl.out]
    exact ⟨rfl, HR.out.touch (Touch.of_below HB.out []) (by simp), Touch.of_below HB.out _⟩
  | some i0 =>
    have hi : idxL p l = (i0 : Int) := by unfold idxL; rw [hf]
    rw [hi] at HI
    obtain ⟨hi0, hpi, hbef⟩ := List.findIdx?_eq_some_iff_getElem.1 hf
    have hst : (l.take (i0 + 1)).filter (fun x => !p x) = l.take i0 := by
      rw [List.take_succ_eq_append_getElem hi0, List.filter_append, List.filter_eq_self.2 (fun x hx => ?_)]
      · simp [hpi]
      · obtain ⟨j, hj, rfl⟩ := List.getElem_of_mem hx
        rw [List.length_take] at hj
        rw [List.getElem_take]
        have := hbef j (by omega)
        simpa using this
    rcases HR.out.out with ⟨_, h0, _⟩ | ⟨g, cur, rfl, hg, hnc, hcm, hcs, htk, hxl⟩
    · omega
    have HG0 : Hid (w.heap[g]? = some (.cells cur 42 (0, 0)) ∧ cur.size = c * 2 ∧ cur.toList.take (i0 * 2) = egFlat ((l.take (i0 + 1)).filter (fun x => !p x)) ∧ (cur.toList.take (l.length * 2)).drop ((i0 + 1) * 2) = egFlat (l.drop (i0 + 1))) := Lib.hid (by
      refine ⟨hg, hcs, ?_, ?_⟩
      · rw [hst, ← egFlat_take, ← htk, List.take_take, Nat.min_eq_left (Nat.mul_le_mul_right _ (by omega))]
      · rw [htk, egFlat_drop])
    have hI0 : ((i0 : Int) == -1) = false := beq_eq_false_iff_ne.2 (by omega)
    have hlen0 : Hid (((l.take (i0 + 1)).filter (fun x => !p x)).length = i0) := Lib.hid (by rw [hst, List.length_take]; omega)
    unfold maxLen at hcm
    clear hf hi hpi hbef hst hg hcs htk hxl HR
    go_enter Try.func41, Try.ntmps41
    go_wp2_with fail
    refine HI.out.mono ?_
    rintro e w1 ⟨rfl, hb⟩
    have HT1 : Hid (Touch [g] w w1) := Lib.hid (Touch.of_below hb _)
    have HG1 : Hid (w1.heap[g]? = some (.cells cur 42 (0, 0))) := Lib.hid ((Touch.of_below hb []).heap HG0.out.1 (by simp))
    have HC1 : Hid (C w1) := Lib.hid (HCk.out _ _ HC.out hb)
    clear hb
    go_wp2_with fail
    go_loopw [5, 6, 7] (fun s5 s6 _ wr => ∃ (i j : Nat) (cur' : Array Value), i < j ∧ j ≤ l.length ∧ s5 = .int .i64 i ∧ s6 = .int .i64 j ∧
      Hid (wr.heap[g]? = some (.cells cur' 42 (0, 0)) ∧ cur'.size = c * 2 ∧ cur'.toList.take (i * 2) = egFlat ((l.take j).filter (fun x => !p x)) ∧ (cur'.toList.take (l.length * 2)).drop (j * 2) = egFlat (l.drop j)) ∧
      Hid (((l.take j).filter (fun x => !p x)).length = i) ∧ Hid (Touch [g] w wr) ∧ Hid (C wr)) (fun _ j _ _ => l.length - (intOf j).toNat)
    case atStart => exact ⟨i0, i0 + 1, cur, by omega, by omega, rfl, by go_num, Lib.hid (by obtain ⟨h1, h2⟩ := HG0.out; exact ⟨HG1.out, h2⟩), hlen0, HT1, HC1⟩
    case round =>
      obtain ⟨i, j, cur', hij, hj, rfl, rfl, HG, HLn, HT, HCr⟩ := hrel
      by_cases hlt : j < l.length
      · have hcs := egFlat_at HG.out.1 HG.out.2.2.2 hlt
        have HCl2 := HCl.out l[j]
        have hgb : g < wr.heap.size := (Array.getElem?_eq_some_iff.1 HG.out.1).1
        have htk : l.take (j + 1) = l.take j ++ [l[j]] := by rw [List.take_succ_eq_append_getElem hlt]
        have hdr : Hid ((cur'.toList.take (l.length * 2)).drop ((j + 1) * 2) = egFlat (l.drop (j + 1))) := Lib.hid (by
          rw [Nat.succ_mul, ← List.drop_drop, HG.out.2.2.2, show 2 = 1 * 2 from rfl, egFlat_drop, List.drop_drop])
        cases hp : p l[j] with
        | true =>
          have hfl : Hid ((l.take (j + 1)).filter (fun x => !p x) = (l.take j).filter (fun x => !p x)) := Lib.hid (by rw [htk, List.filter_append]; simp [hp])
          generalize l[j] = x at *
          have hb1 := Below.alloc (Below.refl wr.heap.size wr) (Nat.le_refl _) (.cells (Value.cells (.agg #[.int .i64 x.a, .int .i64 x.b])) 42)
          have HCc := HCl2 (wr.alloc (.cells (Value.cells (.agg #[.int .i64 x.a, .int .i64 x.b])) 42)) (HCk.out _ _ HCr.out hb1)
          rw [hp] at HCc
          have HCC := Lib.hid HCc
          have HB1 := Lib.hid hb1
          obtain ⟨zo, zm⟩ := x; obtain ⟨hcA, hcB⟩ := hcs; simp only at hcA hcB
          clear HCc hp htk HCl2 hb1
          go_wp2_with fail
          refine HCC.out.mono ?_
          rintro e w2 ⟨rfl, hb2⟩
          have hb3 := HB1.out.trans (hb2.mono (by simp))
          have HB3 := Lib.hid hb3
          clear hb2 hb3
          go_wp2_with fail
          go_roundw
          case rel => exact ⟨i, j + 1, cur', by omega, by omega, rfl, by go_num, Lib.hid ⟨(Touch.of_below HB3.out []).heap HG.out.1 (by simp), HG.out.2.1, by rw [hfl.out]; exact HG.out.2.2.1, hdr.out⟩, Lib.hid (by rw [hfl.out]; exact HLn.out), Lib.hid (HT.out.trans (Touch.of_below HB3.out []) (by simp)), Lib.hid (HCk.out _ _ HCr.out HB3.out)⟩
          case measure => simp [intOf]; omega
        | false =>
          have hfl : Hid ((l.take (j + 1)).filter (fun x => !p x) = (l.take j).filter (fun x => !p x) ++ [l[j]]) := Lib.hid (by rw [htk, List.filter_append]; simp [hp])
          generalize l[j] = x at *
          have hb1 := Below.alloc (Below.refl wr.heap.size wr) (Nat.le_refl _) (.cells (Value.cells (.agg #[.int .i64 x.a, .int .i64 x.b])) 42)
          have HCc := HCl2 (wr.alloc (.cells (Value.cells (.agg #[.int .i64 x.a, .int .i64 x.b])) 42)) (HCk.out _ _ HCr.out hb1)
          rw [hp] at HCc
          have HCC := Lib.hid HCc
          have HB1 := Lib.hid hb1
          obtain ⟨zo, zm⟩ := x; obtain ⟨hcA, hcB⟩ := hcs; simp only at hcA hcB
          clear HCc hp htk HCl2 hb1
          go_wp2_with fail
          refine HCC.out.mono ?_
          rintro e w2 ⟨rfl, hb2⟩
          have hbx := egFlat_keep hb2 (egFlat_new wr ⟨zo, zm⟩ 42)
          obtain ⟨hx1, hx2⟩ := hbx; simp only at hx1 hx2
          have hb3 := HB1.out.trans (hb2.mono (by simp))
          have HB3 := Lib.hid hb3
          have hg2 := (Touch.of_below hb3 []).heap HG.out.1 (by simp)
          have hik : (i + 1) * 2 ≤ l.length * 2 := Nat.mul_le_mul_right _ (by omega)
          have hck : l.length * 2 ≤ c * 2 := Nat.mul_le_mul_right _ hnc
          have hik2 : i * 2 + 2 ≤ cur'.toList.length := by rw [Array.length_toList, HG.out.2.1]; omega
          obtain ⟨C2, hC2⟩ : ∃ C2 : Array Value, (cur'.toList.take (i * 2) ++ (Value.cells (.agg #[.int .i64 zo, .int .i64 zm])).toList ++ cur'.toList.drop (i * 2 + 2)).toArray = C2 := ⟨_, rfl⟩
          have hrun := run_storeAt_k (P := Try.prog) w2 42 42 g (i * 2) 2 cur' (.agg #[.int .i64 zo, .int .i64 zm]) delE_size rfl hg2 (by rw [← Array.length_toList]; exact hik2) (by simp [Value.cells, Value.oneCell'])
          rw [hC2] at hrun
          have HRun := Lib.hid hrun
          have HG3 : Hid ((w2.setRow g C2).heap[g]? = some (.cells C2 42 (0, 0)) ∧ C2.size = c * 2 ∧ C2.toList.take ((i + 1) * 2) = egFlat ((l.take (j + 1)).filter (fun x => !p x)) ∧ (C2.toList.take (l.length * 2)).drop ((j + 1) * 2) = egFlat (l.drop (j + 1))) := Lib.hid (by
            refine ⟨setRow_heap _ g cur' C2 42 _ hg2, ?_, ?_, ?_⟩
            · rw [← Array.length_toList, ← hC2, List.toList_toArray, set_len cur'.toList (Value.cells (.agg #[.int .i64 zo, .int .i64 zm])).toList i 2 rfl hik2, Array.length_toList]; exact HG.out.2.1
            · rw [← hC2, List.toList_toArray, set_take cur'.toList (Value.cells (.agg #[.int .i64 zo, .int .i64 zm])).toList i 2 rfl hik2, hfl.out, egFlat_append, HG.out.2.2.1]; rfl
            · rw [← hC2, List.toList_toArray, set_drop cur'.toList (Value.cells (.agg #[.int .i64 zo, .int .i64 zm])).toList i (j + 1) l.length 2 rfl hik2 (by omega)]; exact hdr.out)
          have HT3 : Hid (Touch [g] w (w2.setRow g C2)) := Lib.hid ((HT.out.trans (Touch.of_below HB3.out []) (by simp)).andThen (Touch.setRow _ g C2 (by simp)))
          have HC3 : Hid (C (w2.setRow g C2)) := Lib.hid (HCt.out _ _ (HCk.out _ _ HCr.out HB3.out) (Touch.setRow _ g C2 (by simp [blkOf])))
          have HL3 : Hid (((l.take (j + 1)).filter (fun x => !p x)).length = i + 1) := Lib.hid (by rw [hfl.out, List.length_append, HLn.out]; rfl)
          clear hb2 hb3 hg2 hik hck hik2 hrun hC2
          go_wp2_with (refine wpList_storeR _ rfl _ _ _ rfl _ _ rfl rfl HRun.out ?_)
          go_roundw
          case rel => exact ⟨i + 1, j + 1, C2, by omega, by omega, by go_num, by go_num, HG3, HL3, HT3, HC3⟩
          case measure => simp [intOf]; omega
      · obtain rfl : j = l.length := by omega
        have hcl := run_clear_k (P := Try.prog) wr 25 42 0 (.agg #[.int .i64 0, .int .i64 0]) Try.underlying25 (delE_zero _) (by decide) g (i * 2) (l.length - i) (c - i) cur' 42 (by omega) HG.out.1 (by
          rw [HG.out.2.1, show (Value.cells (.agg #[.int .i64 0, .int .i64 0])).size = 2 from rfl, ← Nat.add_mul]; exact Nat.mul_le_mul_right _ (by omega))
        obtain ⟨C3, hC3⟩ : ∃ C3 : Array Value, (cur'.toList.take (i * 2) ++ (Builtin.zeroCells (Value.cells (.agg #[.int .i64 0, .int .i64 0])) (l.length - i)).toList ++ cur'.toList.drop (i * 2 + (l.length - i) * (Value.cells (.agg #[.int .i64 0, .int .i64 0])).size)).toArray = C3 := ⟨_, rfl⟩
        rw [hC3] at hcl
        have hzl : (Builtin.zeroCells (Value.cells (.agg #[.int .i64 0, .int .i64 0])) (l.length - i)).toList.length = (l.length - i) * 2 := by rw [Array.length_toList, size_zeroCells]; rfl
        have hadd : i * 2 + (l.length - i) * 2 = l.length * 2 := by rw [← Nat.add_mul]; congr 1; omega
        have hck : l.length * 2 ≤ c * 2 := Nat.mul_le_mul_right _ hnc
        have hfl2 : Hid (((l.filter fun x => !p x).length) = i) := Lib.hid (by have := HLn.out; rwa [List.take_length] at this)
        have HFin : Hid (Row (wr.setRow g C3) 42 2 (some ⟨g, 0, none⟩) i c (egFlat (l.filter fun x => !p x)) ∧ Touch [g] w (wr.setRow g C3)) := Lib.hid (by
          refine ⟨Row.mk (cur := C3) (setRow_heap _ g cur' C3 42 _ HG.out.1) (by omega) hcm ?_ ?_, HT.out.andThen (Touch.setRow _ g C3 (by simp))⟩
          · rw [← Array.length_toList, ← hC3, List.toList_toArray]
            simp only [List.length_append, List.length_take, List.length_drop, hzl, Array.length_toList, HG.out.2.1, show (Value.cells (.agg #[.int .i64 0, .int .i64 0])).size = 2 from rfl]
            omega
          · have h3 := HG.out.2.2.1
            rw [List.take_length] at h3
            rw [← hC3, List.toList_toArray, List.append_assoc, List.take_append_of_le_length (by rw [List.length_take, Array.length_toList, HG.out.2.1]; omega), List.take_take, Nat.min_self]
            exact h3)
        have hq := hcl
        have hii : i < l.length := by omega
        clear hcl hC3 hzl hadd hck
        go_wp2_with fail
        go_ret
        rw [hfl2.out]
        exact ⟨rfl, HFin.out⟩

theorem toIs_any (bi : Nat) (tx : Int) (x : Eg) (w : World) (h : w.cell? ⟨bi, 0, none⟩ = some (.int .i64 tx)) : Calls Try.prog 39 #[.agg #[.int .i64 x.a, .int .i64 x.b], .pointer (some ⟨bi, 0, none⟩)] w fun e w' => e = .returned (.bool (x.b == tx)) ∧ Below w.heap.size w w' := by
  obtain ⟨xa, xb⟩ := x
  have hq := (Below.cell (bel_new w (.cells #[.int .i64 xa, .int .i64 xb] 42)) (World.block_lt_of_cell? w _ h)).trans h
  simp only
  go_enter Try.func39, Try.ntmps39
  go_wp2_with fail
  go_ret
  exact ⟨rfl, bel_new _ _⟩
theorem fromIs_any (bi : Nat) (tx : Int) (x : Eg) (w : World) (h : w.cell? ⟨bi, 0, none⟩ = some (.int .i64 tx)) : Calls Try.prog 42 #[.agg #[.int .i64 x.a, .int .i64 x.b], .pointer (some ⟨bi, 0, none⟩)] w fun e w' => e = .returned (.bool (x.a == tx)) ∧ Below w.heap.size w w' := by
  obtain ⟨xa, xb⟩ := x
  have hq := (Below.cell (bel_new w (.cells #[.int .i64 xa, .int .i64 xb] 42)) (World.block_lt_of_cell? w _ h)).trans h
  simp only
  go_enter Try.func42, Try.ntmps42
  go_wp2_with fail
  go_ret
  exact ⟨rfl, bel_new _ _⟩
set_option maxRecDepth 100000 in
set_option maxHeartbeats 1000000 in
theorem tos_any (bi : Nat) (tx : Int) (a : Option Addr) (n c : Nat) (l : List Eg) (w : World) (hC : w.cell? ⟨bi, 0, none⟩ = some (.int .i64 tx)) (hr : Row w 42 2 a n c (egFlat l)) (hn : n ≤ 1099511627776) :
    Calls Try.prog 38 #[.slice a n c, .func (.func 39) #[] #[.pointer (some ⟨bi, 0, none⟩)]] w fun e w' => e = .returned (.bool (l.any fun x => x.b == tx)) ∧ Below w.heap.size w w' := by
  have H := Lib.hid (et_idx bi (fun x => x.b == tx) (fun W => W.cell? ⟨bi, 0, none⟩ = some (.int .i64 tx)) (fun W W' h b => (b.cell (World.block_lt_of_cell? W _ h)).trans h) (fun x W h => toIs_any bi tx x W h) a n c l w hC hr hn)
  have HQ := Lib.hid (idxL_any (fun x : Eg => x.b == tx) l)
  have hl : n = l.length := by have := hr.len; rw [egFlat_len] at this; omega
  obtain ⟨h1, h2⟩ := idxL_le (fun x : Eg => x.b == tx) l
  rw [← hl] at h2
  clear hr hl hC
  generalize idxL (fun x : Eg => x.b == tx) l = i at *
  generalize (l.any fun x => x.b == tx) = b at *
  go_enter Try.func38, Try.ntmps38
  go_wp2_with fail
  refine H.out.mono ?_
  rintro e w1 ⟨rfl, hb⟩
  have HB := Lib.hid hb
  clear hb
  go_wp2_with fail
  go_ret
  exact ⟨by rw [← HQ.out]; rfl, HB.out⟩
end Go.Proofs.Ytbgabdofnmijnaa
