/- IndexFunc and DeleteFunc of holds and of lines. -/
import Derived.Test.YtmifgnibalbgjaaGreatZLC
import Derived.Test.YtmifgnibalbgjaaGreatZLP
import Derived.Test.YtmifgnibalbgjaaGreatZShelf
import Derived.Test.YtmifgnibalbgjaaGreatZLQ
namespace Go.Proofs.YtmifgnibalbgjaaGreat
open Go.RowKit
theorem hdFlat_cells {w : World} {E : Nat} {a : Option Addr} {n c : Nat} {l : List Hd} (h : Row w E 2 a n c (hdFlat l)) (k : Nat) (hk : k < l.length) : ∃ g, a = some ⟨g, 0, none⟩ ∧ hdAt w g (k * 2) l[k] := hdAt_row h k hk
theorem hdFlat_keep {w w' : World} {B g o : Nat} {t : Hd} (hb : Below B w w') (h : hdAt w g o t) (hB : w.heap.size ≤ B := by exact Nat.le_refl _) : hdAt w' g o t := h.below hb hB
theorem hdFlat_at {w : World} {g E n j : Nat} {cur : Array Value} {l : List Hd} (hg : w.heap[g]? = some (.cells cur E (0, 0))) (h : (cur.toList.take (n * 2)).drop (j * 2) = hdFlat (l.drop j)) (hj : j < l.length) : hdAt w g (j * 2) l[j] := hdAt_at hg h hj
theorem hdFlat_new (w : World) (t : Hd) (T : TypeId) : hdAt (w.alloc (.cells #[.int .i64 t.owner, .int .i64 t.mode] T)) w.heap.size 0 t := hdAt_new w t T
theorem lnFlat_cells {w : World} {E : Nat} {a : Option Addr} {n c : Nat} {l : List Ln} (h : Row w E 3 a n c (lnFlat l)) (k : Nat) (hk : k < l.length) : ∃ g, a = some ⟨g, 0, none⟩ ∧ lnAt w g (k * 3) l[k] := lnAt_row h k hk
theorem lnFlat_keep {w w' : World} {B g o : Nat} {t : Ln} (hb : Below B w w') (h : lnAt w g o t) (hB : w.heap.size ≤ B := by exact Nat.le_refl _) : lnAt w' g o t := h.below hb hB
theorem lnFlat_at {w : World} {g E n j : Nat} {cur : Array Value} {l : List Ln} (hg : w.heap[g]? = some (.cells cur E (0, 0))) (h : (cur.toList.take (n * 3)).drop (j * 3) = lnFlat (l.drop j)) (hj : j < l.length) : lnAt w g (j * 3) l[j] := lnAt_at hg h hj
theorem lnFlat_new (w : World) (t : Ln) (T : TypeId) : lnAt (w.alloc (.cells #[.string t.key, .slice t.hs.a t.hs.n t.hs.c, .slice t.qs.a t.qs.n t.qs.c] T)) w.heap.size 0 t := lnAt_new w t T
theorem delL_size : (Tryz.prog.info? 66).map (·.size) = some 3 := by kernel_rfl
theorem delL_zero (w : World) : (zeroValue 66).run Tryz.prog w = .ok (.agg #[.string ⟨#[]⟩, .slice none 0 0, .slice none 0 0]) w := by kernel_rfl
/-- The place of the first one that meets a test. -/
def idxL {α : Type} (p : α → Bool) (l : List α) : Int := match l.findIdx? p with | some i => i | none => -1
theorem idxL_some {α : Type} (p : α → Bool) (l : List α) (k : Nat) (hk : k < l.length) (h : ∀ j (h : j < l.length), j < k → p l[j] = false) (hp : p l[k] = true) : idxL p l = (k : Int) := by
  have : l.findIdx? p = some k := by
    rw [List.findIdx?_eq_some_iff_getElem]
    exact ⟨hk, hp, fun j hj => by simp [h j (by omega) hj]⟩
  unfold idxL; rw [this]
theorem idxL_none {α : Type} (p : α → Bool) (l : List α) (h : ∀ j (h : j < l.length), p l[j] = false) : idxL p l = -1 := by
  have : l.findIdx? p = none := by
    rw [List.findIdx?_eq_none_iff]
    intro x hx
    obtain ⟨j, hj, rfl⟩ := List.getElem_of_mem hx
    exact h j hj
  unfold idxL; rw [this]

set_option maxRecDepth 100000 in
set_option maxHeartbeats 1000000 in
theorem dh_idx (bi : Nat) (p : Hd → Bool) (C : World → Prop) (hCk : ∀ W W', C W → Below W.heap.size W W' → C W')
    (hcl : ∀ (x : Hd) W, C W → Calls Tryz.prog 119 #[.agg #[.int .i64 x.owner, .int .i64 x.mode], .pointer (some ⟨bi, 0, none⟩)] W fun e W' => e = .returned (.bool (p x)) ∧ Below W.heap.size W W')
    (a : Option Addr) (n c : Nat) (l : List Hd) (w : World) (hC : C w) (hr : Row w 32 2 a n c (hdFlat l)) (hn : n ≤ 1099511627776) :
    Calls Tryz.prog 152 #[.slice a n c, .func (.func 119) #[] #[.pointer (some ⟨bi, 0, none⟩)]] w fun e w' => e = .returned (.int .i64 (idxL p l)) ∧ Below w.heap.size w w' := by
  have hl : n = l.length := by have := hr.len; rw [hdFlat_len] at this; omega
  subst hl
  have HR := Lib.hid hr
  have HCk := Lib.hid hCk
  have HCl := Lib.hid hcl
  have HC := Lib.hid hC
  clear hr hCk hcl hC
  go_enter Tryz.func152, Tryz.ntmps152
  go_wp2_with fail
  go_loopw [5, 8] (fun _ i wr => ∃ k : Nat, k ≤ l.length ∧ Hid (∀ j (h : j < l.length), j < k → p l[j] = false) ∧ i = .int .i64 k ∧ Hid (Below w.heap.size w wr)) (fun _ i _ => l.length - (intOf i).toNat)
  case atStart => exact ⟨0, Nat.zero_le _, Lib.hid (fun j _ hj => absurd hj (by omega)), rfl, Lib.hid (Below.refl _ _)⟩
  case round =>
    obtain ⟨k, hk, hall, rfl, HB⟩ := hrel
    by_cases hlt : k < l.length
    · obtain ⟨g, rfl, hcs⟩ := hdFlat_cells HR.out k hlt
      have hcs := hdFlat_keep HB.out hcs
      have HCc := HCl.out l[k] wr (HCk.out _ _ HC.out HB.out)
      cases hp : p l[k] with
      | true =>
        rw [hp] at HCc
        have HCC := Lib.hid HCc
        have hfin : Hid (idxL p l = (k : Int)) := Lib.hid (idxL_some p l k hlt (fun j h hj => hall.out j h hj) hp)
        generalize l[k] = x at *
        obtain ⟨zo, zm⟩ := x; obtain ⟨hcA, hcB⟩ := hcs; simp only at hcA hcB
        clear HCc hp hall
        go_wp2_with fail
        refine HCC.out.mono ?_
        rintro e w2 ⟨rfl, hb2⟩
        have HB2 := Lib.hid (HB.out.trans (hb2.mono HB.out.size))
        clear hb2
        go_wp2_with fail
        go_ret
        exact ⟨by rw [hfin.out]; rfl, HB2.out⟩
      | false =>
        rw [hp] at HCc
        have HCC := Lib.hid HCc
        have hall2 : Hid (∀ j (h : j < l.length), j < k + 1 → p l[j] = false) := Lib.hid fun j h hj => by
          by_cases e : j = k
          · subst e; exact hp
          · exact hall.out j h (by omega)
        generalize l[k] = x at *
        obtain ⟨zo, zm⟩ := x; obtain ⟨hcA, hcB⟩ := hcs; simp only at hcA hcB
        clear HCc hp hall
        go_wp2_with fail
        refine HCC.out.mono ?_
        rintro e w2 ⟨rfl, hb2⟩
        have HB2 := Lib.hid (HB.out.trans (hb2.mono HB.out.size))
        clear hb2
        go_wp2_with fail
        go_roundw
        case rel => exact ⟨k + 1, by omega, hall2, by go_num, HB2⟩
        case measure => simp [intOf]; omega
    · have hfin : Hid (idxL p l = -1) := Lib.hid (idxL_none p l fun j h => hall.out j h (by omega))
      clear hall
      go_wp2_with fail
      go_ret
      exact ⟨by rw [hfin.out]; rfl, HB.out⟩


set_option maxRecDepth 100000 in
set_option maxHeartbeats 2000000 in
theorem dh_del (bi : Nat) (p : Hd → Bool) (C : World → Prop) (hCk : ∀ W W', C W → Below W.heap.size W W' → C W')
    (hcl : ∀ (x : Hd) W, C W → Calls Tryz.prog 119 #[.agg #[.int .i64 x.owner, .int .i64 x.mode], .pointer (some ⟨bi, 0, none⟩)] W fun e W' => e = .returned (.bool (p x)) ∧ Below W.heap.size W W')
    (a : Option Addr) (hCt : ∀ W W', C W → Touch (blkOf a) W W' → C W') (n c : Nat) (l : List Hd) (w : World) (hC : C w) (hr : Row w 32 2 a n c (hdFlat l)) (hn : n ≤ 1099511627776) :
    Calls Tryz.prog 120 #[.slice a n c, .func (.func 119) #[] #[.pointer (some ⟨bi, 0, none⟩)]] w fun e w' => e = .returned (.slice a (l.filter fun x => !p x).length c) ∧ Row w' 32 2 a (l.filter fun x => !p x).length c (hdFlat (l.filter fun x => !p x)) ∧ Touch (blkOf a) w w' := by
  have hl : n = l.length := by have := hr.len; rw [hdFlat_len] at this; omega
  subst hl
  have HI := Lib.hid (dh_idx bi p C hCk hcl a l.length c l w hC hr hn)
  have HR := Lib.hid hr
  have HCk := Lib.hid hCk
  have HCt := Lib.hid hCt
  have HCl := Lib.hid hcl
  have HC := Lib.hid hC
  clear hr hCk hcl hC hCt
  cases hf : l.findIdx? p with
  | none =>
    have hi : idxL p l = -1 := by unfold idxL; rw [hf]
    rw [hi] at HI
    have hfl : Hid ((l.filter fun x => !p x) = l) := Lib.hid (List.filter_eq_self.2 fun x hx => by rw [List.findIdx?_eq_none_iff.1 hf x hx]; rfl)
    clear hf hi
    go_enter Tryz.func120, Tryz.ntmps120
    go_wp2_with fail
    refine HI.out.mono ?_
    rintro e w1 ⟨rfl, hb⟩
    have HB := Lib.hid hb
    clear hb
    go_wp2_with fail
    go_ret
    rw [hfl.out]
    exact ⟨rfl, HR.out.touch (Touch.of_below HB.out []) (by simp), Touch.of_below HB.out _⟩
  | some i0 =>
    have hi : idxL p l = (i0 : Int) := by unfold idxL; rw [hf]
    rw [hi] at HI
    obtain ⟨hi0, hpi, hbef⟩ := List.findIdx?_eq_some_iff_getElem.1 hf
    have hst : (l.take (i0 + 1)).filter (fun x => !p x) = l.take i0 := by
      rw [List.take_succ_eq_append_getElem hi0, List.filter_append, List.filter_eq_self.2 (fun x hx => ?_)]
      · simp [hpi]
      · obtain ⟨j, hj, rfl⟩ := List.getElem_of_mem hx
        rw [List.length_take] at hj
        rw [List.getElem_take]
        have := hbef j (by omega)
        simpa using this
    rcases HR.out.out with ⟨_, h0, _⟩ | ⟨g, cur, rfl, hg, hnc, hcm, hcs, htk, hxl⟩
    · omega
    have HG0 : Hid (w.heap[g]? = some (.cells cur 32 (0, 0)) ∧ cur.size = c * 2 ∧ cur.toList.take (i0 * 2) = hdFlat ((l.take (i0 + 1)).filter (fun x => !p x)) ∧ (cur.toList.take (l.length * 2)).drop ((i0 + 1) * 2) = hdFlat (l.drop (i0 + 1))) := Lib.hid (by
      refine ⟨hg, hcs, ?_, ?_⟩
      · rw [hst, ← hdFlat_take, ← htk, List.take_take, Nat.min_eq_left (Nat.mul_le_mul_right _ (by omega))]
      · rw [htk, hdFlat_drop])
    have hI0 : ((i0 : Int) == -1) = false := beq_eq_false_iff_ne.2 (by omega)
    have hlen0 : Hid (((l.take (i0 + 1)).filter (fun x => !p x)).length = i0) := Lib.hid (by rw [hst, List.length_take]; omega)
    unfold maxLen at hcm
    clear hf hi hpi hbef hst hg hcs htk hxl HR
    go_enter Tryz.func120, Tryz.ntmps120
    go_wp2_with fail
    refine HI.out.mono ?_
    rintro e w1 ⟨rfl, hb⟩
    have HT1 : Hid (Touch [g] w w1) := Lib.hid (Touch.of_below hb _)
    have HG1 : Hid (w1.heap[g]? = some (.cells cur 32 (0, 0))) := Lib.hid ((Touch.of_below hb []).heap HG0.out.1 (by simp))
    have HC1 : Hid (C w1) := Lib.hid (HCk.out _ _ HC.out hb)
    clear hb
    go_wp2_with fail
    go_loopw [5, 6, 7] (fun s5 s6 _ wr => ∃ (i j : Nat) (cur' : Array Value), i < j ∧ j ≤ l.length ∧ s5 = .int .i64 i ∧ s6 = .int .i64 j ∧
      Hid (wr.heap[g]? = some (.cells cur' 32 (0, 0)) ∧ cur'.size = c * 2 ∧ cur'.toList.take (i * 2) = hdFlat ((l.take j).filter (fun x => !p x)) ∧ (cur'.toList.take (l.length * 2)).drop (j * 2) = hdFlat (l.drop j)) ∧
      Hid (((l.take j).filter (fun x => !p x)).length = i) ∧ Hid (Touch [g] w wr) ∧ Hid (C wr)) (fun _ j _ _ => l.length - (intOf j).toNat)
    case atStart => exact ⟨i0, i0 + 1, cur, by omega, by omega, rfl, by go_num, Lib.hid (by obtain ⟨h1, h2⟩ := HG0.out; exact ⟨HG1.out, h2⟩), hlen0, HT1, HC1⟩
    case round =>
      obtain ⟨i, j, cur', hij, hj, rfl, rfl, HG, HLn, HT, HCr⟩ := hrel
      by_cases hlt : j < l.length
      · have hcs := hdFlat_at HG.out.1 HG.out.2.2.2 hlt
        have HCl2 := HCl.out l[j]
        have hgb : g < wr.heap.size := (Array.getElem?_eq_some_iff.1 HG.out.1).1
        have htk : l.take (j + 1) = l.take j ++ [l[j]] := by rw [List.take_succ_eq_append_getElem hlt]
        have hdr : Hid ((cur'.toList.take (l.length * 2)).drop ((j + 1) * 2) = hdFlat (l.drop (j + 1))) := Lib.hid (by
          rw [Nat.succ_mul, ← List.drop_drop, HG.out.2.2.2, show 2 = 1 * 2 from rfl, hdFlat_drop, List.drop_drop])
        cases hp : p l[j] with
        | true =>
          have hfl : Hid ((l.take (j + 1)).filter (fun x => !p x) = (l.take j).filter (fun x => !p x)) := Lib.hid (by rw [htk, List.filter_append]; simp [hp])
          generalize l[j] = x at *
          have hb1 := Below.alloc (Below.refl wr.heap.size wr) (Nat.le_refl _) (.cells (Value.cells (.agg #[.int .i64 x.owner, .int .i64 x.mode])) 32)
          have HCc := HCl2 (wr.alloc (.cells (Value.cells (.agg #[.int .i64 x.owner, .int .i64 x.mode])) 32)) (HCk.out _ _ HCr.out hb1)
          rw [hp] at HCc
          have HCC := Lib.hid HCc
          have HB1 := Lib.hid hb1
          obtain ⟨zo, zm⟩ := x; obtain ⟨hcA, hcB⟩ := hcs; simp only at hcA hcB
          clear HCc hp htk HCl2 hb1
          go_wp2_with fail
          refine HCC.out.mono ?_
          rintro e w2 ⟨rfl, hb2⟩
          have hb3 := HB1.out.trans (hb2.mono (by simp))
          have HB3 := Lib.hid hb3
          clear hb2 hb3
          go_wp2_with fail
          go_roundw
          case rel => exact ⟨i, j + 1, cur', by omega, by omega, rfl, by go_num, Lib.hid ⟨(Touch.of_below HB3.out []).heap HG.out.1 (by simp), HG.out.2.1, by rw [hfl.out]; exact HG.out.2.2.1, hdr.out⟩, Lib.hid (by rw [hfl.out]; exact HLn.out), Lib.hid (HT.out.trans (Touch.of_below HB3.out []) (by simp)), Lib.hid (HCk.out _ _ HCr.out HB3.out)⟩
          case measure => simp [intOf]; omega
        | false =>
          have hfl : Hid ((l.take (j + 1)).filter (fun x => !p x) = (l.take j).filter (fun x => !p x) ++ [l[j]]) := Lib.hid (by rw [htk, List.filter_append]; simp [hp])
          generalize l[j] = x at *
          have hb1 := Below.alloc (Below.refl wr.heap.size wr) (Nat.le_refl _) (.cells (Value.cells (.agg #[.int .i64 x.owner, .int .i64 x.mode])) 32)
          have HCc := HCl2 (wr.alloc (.cells (Value.cells (.agg #[.int .i64 x.owner, .int .i64 x.mode])) 32)) (HCk.out _ _ HCr.out hb1)
          rw [hp] at HCc
          have HCC := Lib.hid HCc
          have HB1 := Lib.hid hb1
          obtain ⟨zo, zm⟩ := x; obtain ⟨hcA, hcB⟩ := hcs; simp only at hcA hcB
          clear HCc hp htk HCl2 hb1
          go_wp2_with fail
          refine HCC.out.mono ?_
          rintro e w2 ⟨rfl, hb2⟩
          have hbx := hdFlat_keep hb2 (hdFlat_new wr ⟨zo, zm⟩ 32)
          obtain ⟨hx1, hx2⟩ := hbx; simp only at hx1 hx2
          have hb3 := HB1.out.trans (hb2.mono (by simp))
          have HB3 := Lib.hid hb3
          have hg2 := (Touch.of_below hb3 []).heap HG.out.1 (by simp)
          have hik : (i + 1) * 2 ≤ l.length * 2 := Nat.mul_le_mul_right _ (by omega)
          have hck : l.length * 2 ≤ c * 2 := Nat.mul_le_mul_right _ hnc
          have hik2 : i * 2 + 2 ≤ cur'.toList.length := by rw [Array.length_toList, HG.out.2.1]; omega
          obtain ⟨C2, hC2⟩ : ∃ C2 : Array Value, (cur'.toList.take (i * 2) ++ (Value.cells (.agg #[.int .i64 zo, .int .i64 zm])).toList ++ cur'.toList.drop (i * 2 + 2)).toArray = C2 := ⟨_, rfl⟩
          have hrun := run_storeAt_k (P := Tryz.prog) w2 32 32 g (i * 2) 2 cur' (.agg #[.int .i64 zo, .int .i64 zm]) delH_size rfl hg2 (by rw [← Array.length_toList]; exact hik2) (by simp [Value.cells, Value.oneCell'])
          rw [hC2] at hrun
          have HRun := Lib.hid hrun
          have HG3 : Hid ((w2.setRow g C2).heap[g]? = some (.cells C2 32 (0, 0)) ∧ C2.size = c * 2 ∧ C2.toList.take ((i + 1) * 2) = hdFlat ((l.take (j + 1)).filter (fun x => !p x)) ∧ (C2.toList.take (l.length * 2)).drop ((j + 1) * 2) = hdFlat (l.drop (j + 1))) := Lib.hid (by
            refine ⟨setRow_heap _ g cur' C2 32 _ hg2, ?_, ?_, ?_⟩
            · rw [← Array.length_toList, ← hC2, List.toList_toArray, set_len cur'.toList (Value.cells (.agg #[.int .i64 zo, .int .i64 zm])).toList i 2 rfl hik2, Array.length_toList]; exact HG.out.2.1
            · rw [← hC2, List.toList_toArray, set_take cur'.toList (Value.cells (.agg #[.int .i64 zo, .int .i64 zm])).toList i 2 rfl hik2, hfl.out, hdFlat_append, HG.out.2.2.1]; rfl
            · rw [← hC2, List.toList_toArray, set_drop cur'.toList (Value.cells (.agg #[.int .i64 zo, .int .i64 zm])).toList i (j + 1) l.length 2 rfl hik2 (by omega)]; exact hdr.out)
          have HT3 : Hid (Touch [g] w (w2.setRow g C2)) := Lib.hid ((HT.out.trans (Touch.of_below HB3.out []) (by simp)).andThen (Touch.setRow _ g C2 (by simp)))
          have HC3 : Hid (C (w2.setRow g C2)) := Lib.hid (HCt.out _ _ (HCk.out _ _ HCr.out HB3.out) (Touch.setRow _ g C2 (by simp [blkOf])))
          have HL3 : Hid (((l.take (j + 1)).filter (fun x => !p x)).length = i + 1) := Lib.hid (by rw [hfl.out, List.length_append, HLn.out]; rfl)
          clear hb2 hb3 hg2 hik hck hik2 hrun hC2
          go_wp2_with (refine wpList_storeR _ rfl _ _ _ rfl _ _ rfl rfl HRun.out ?_)
          go_roundw
          case rel => exact ⟨i + 1, j + 1, C2, by omega, by omega, by go_num, by go_num, HG3, HL3, HT3, HC3⟩
          case measure => simp [intOf]; omega
      · obtain rfl : j = l.length := by omega
        have hcl := run_clear_k (P := Tryz.prog) wr 29 32 0 (.agg #[.int .i64 0, .int .i64 0]) Tryz.underlying29 (delH_zero _) (by decide) g (i * 2) (l.length - i) (c - i) cur' 32 (by omega) HG.out.1 (by
          rw [HG.out.2.1, show (Value.cells (.agg #[.int .i64 0, .int .i64 0])).size = 2 from rfl, ← Nat.add_mul]; exact Nat.mul_le_mul_right _ (by omega))
        obtain ⟨C3, hC3⟩ : ∃ C3 : Array Value, (cur'.toList.take (i * 2) ++ (Builtin.zeroCells (Value.cells (.agg #[.int .i64 0, .int .i64 0])) (l.length - i)).toList ++ cur'.toList.drop (i * 2 + (l.length - i) * (Value.cells (.agg #[.int .i64 0, .int .i64 0])).size)).toArray = C3 := ⟨_, rfl⟩
        rw [hC3] at hcl
        have hzl : (Builtin.zeroCells (Value.cells (.agg #[.int .i64 0, .int .i64 0])) (l.length - i)).toList.length = (l.length - i) * 2 := by rw [Array.length_toList, size_zeroCells]; rfl
        have hadd : i * 2 + (l.length - i) * 2 = l.length * 2 := by rw [← Nat.add_mul]; congr 1; omega
        have hck : l.length * 2 ≤ c * 2 := Nat.mul_le_mul_right _ hnc
        have hfl2 : Hid (((l.filter fun x => !p x).length) = i) := Lib.hid (by have := HLn.out; rwa [List.take_length] at this)
        have HFin : Hid (Row (wr.setRow g C3) 32 2 (some ⟨g, 0, none⟩) i c (hdFlat (l.filter fun x => !p x)) ∧ Touch [g] w (wr.setRow g C3)) := Lib.hid (by
          refine ⟨Row.mk (cur := C3) (setRow_heap _ g cur' C3 32 _ HG.out.1) (by omega) hcm ?_ ?_, HT.out.andThen (Touch.setRow _ g C3 (by simp))⟩
          · rw [← Array.length_toList, ← hC3, List.toList_toArray]
            simp only [List.length_append, List.length_take, List.length_drop, hzl, Array.length_toList, HG.out.2.1, show (Value.cells (.agg #[.int .i64 0, .int .i64 0])).size = 2 from rfl]
            omega
          · have h3 := HG.out.2.2.1
            rw [List.take_length] at h3
            rw [← hC3, List.toList_toArray, List.append_assoc, List.take_append_of_le_length (by rw [List.length_take, Array.length_toList, HG.out.2.1]; omega), List.take_take, Nat.min_self]
            exact h3)
        have hq := hcl
        have hii : i < l.length := by omega
        clear hcl hC3 hzl hadd hck
        go_wp2_with fail
        go_ret
        rw [hfl2.out]
        exact ⟨rfl, HFin.out⟩


set_option maxRecDepth 100000 in
set_option maxHeartbeats 1000000 in
theorem dl_idx  (p : Ln → Bool) (C : World → Prop) (hCk : ∀ W W', C W → Below W.heap.size W W' → C W')
    (hcl : ∀ (x : Ln) W, C W → Calls Tryz.prog 123 #[.agg #[.string x.key, .slice x.hs.a x.hs.n x.hs.c, .slice x.qs.a x.qs.n x.qs.c]] W fun e W' => e = .returned (.bool (p x)) ∧ Below W.heap.size W W')
    (a : Option Addr) (n c : Nat) (l : List Ln) (w : World) (hC : C w) (hr : Row w 66 3 a n c (lnFlat l)) (hn : n ≤ 1099511627776) :
    Calls Tryz.prog 156 #[.slice a n c, .func (.func 123) #[] #[]] w fun e w' => e = .returned (.int .i64 (idxL p l)) ∧ Below w.heap.size w w' := by
  have hl : n = l.length := by have := hr.len; rw [lnFlat_len] at this; omega
  subst hl
  have HR := Lib.hid hr
  have HCk := Lib.hid hCk
  have HCl := Lib.hid hcl
  have HC := Lib.hid hC
  clear hr hCk hcl hC
  go_enter Tryz.func156, Tryz.ntmps156
  go_wp2_with fail
  go_loopw [5, 8] (fun _ i wr => ∃ k : Nat, k ≤ l.length ∧ Hid (∀ j (h : j < l.length), j < k → p l[j] = false) ∧ i = .int .i64 k ∧ Hid (Below w.heap.size w wr)) (fun _ i _ => l.length - (intOf i).toNat)
  case atStart => exact ⟨0, Nat.zero_le _, Lib.hid (fun j _ hj => absurd hj (by omega)), rfl, Lib.hid (Below.refl _ _)⟩
  case round =>
    obtain ⟨k, hk, hall, rfl, HB⟩ := hrel
    by_cases hlt : k < l.length
    · obtain ⟨g, rfl, hcs⟩ := lnFlat_cells HR.out k hlt
      have hcs := lnFlat_keep HB.out hcs
      have HCc := HCl.out l[k] wr (HCk.out _ _ HC.out HB.out)
      cases hp : p l[k] with
      | true =>
        rw [hp] at HCc
        have HCC := Lib.hid HCc
        have hfin : Hid (idxL p l = (k : Int)) := Lib.hid (idxL_some p l k hlt (fun j h hj => hall.out j h hj) hp)
        generalize l[k] = x at *
        obtain ⟨zk, ⟨z1, z2, z3⟩, ⟨z4, z5, z6⟩⟩ := x; obtain ⟨hcA, hcB, hcD⟩ := hcs; simp only at hcA hcB hcD
        clear HCc hp hall
        go_wp2_with fail
        refine HCC.out.mono ?_
        rintro e w2 ⟨rfl, hb2⟩
        have HB2 := Lib.hid (HB.out.trans (hb2.mono HB.out.size))
        clear hb2
        go_wp2_with fail
        go_ret
        exact ⟨by rw [hfin.out]; rfl, HB2.out⟩
      | false =>
        rw [hp] at HCc
        have HCC := Lib.hid HCc
        have hall2 : Hid (∀ j (h : j < l.length), j < k + 1 → p l[j] = false) := Lib.hid fun j h hj => by
          by_cases e : j = k
          · subst e; exact hp
          · exact hall.out j h (by omega)
        generalize l[k] = x at *
        obtain ⟨zk, ⟨z1, z2, z3⟩, ⟨z4, z5, z6⟩⟩ := x; obtain ⟨hcA, hcB, hcD⟩ := hcs; simp only at hcA hcB hcD
        clear HCc hp hall
        go_wp2_with fail
        refine HCC.out.mono ?_
        rintro e w2 ⟨rfl, hb2⟩
        have HB2 := Lib.hid (HB.out.trans (hb2.mono HB.out.size))
        clear hb2
        go_wp2_with fail
        go_roundw
        case rel => exact ⟨k + 1, by omega, hall2, by go_num, HB2⟩
        case measure => simp [intOf]; omega
    · have hfin : Hid (idxL p l = -1) := Lib.hid (idxL_none p l fun j h => hall.out j h (by omega))
      clear hall
      go_wp2_with fail
      go_ret
      exact ⟨by rw [hfin.out]; rfl, HB.out⟩


set_option maxRecDepth 100000 in
set_option maxHeartbeats 2000000 in
theorem dl_del  (p : Ln → Bool) (C : World → Prop) (hCk : ∀ W W', C W → Below W.heap.size W W' → C W')
    (hcl : ∀ (x : Ln) W, C W → Calls Tryz.prog 123 #[.agg #[.string x.key, .slice x.hs.a x.hs.n x.hs.c, .slice x.qs.a x.qs.n x.qs.c]] W fun e W' => e = .returned (.bool (p x)) ∧ Below W.heap.size W W')
    (a : Option Addr) (hCt : ∀ W W', C W → Touch (blkOf a) W W' → C W') (n c : Nat) (l : List Ln) (w : World) (hC : C w) (hr : Row w 66 3 a n c (lnFlat l)) (hn : n ≤ 1099511627776) :
    Calls Tryz.prog 122 #[.slice a n c, .func (.func 123) #[] #[]] w fun e w' => e = .returned (.slice a (l.filter fun x => !p x).length c) ∧ Row w' 66 3 a (l.filter fun x => !p x).length c (lnFlat (l.filter fun x => !p x)) ∧ Touch (blkOf a) w w' := by
  have hl : n = l.length := by have := hr.len; rw [lnFlat_len] at this; omega
  subst hl
  have HI := Lib.hid (dl_idx  p C hCk hcl a l.length c l w hC hr hn)
  have HR := Lib.hid hr
  have HCk := Lib.hid hCk
  have HCt := Lib.hid hCt
  have HCl := Lib.hid hcl
  have HC := Lib.hid hC
  clear hr hCk hcl hC hCt
  cases hf : l.findIdx? p with
  | none =>
    have hi : idxL p l = -1 := by unfold idxL; rw [hf]
    rw [hi] at HI
    have hfl : Hid ((l.filter fun x => !p x) = l) := Lib.hid (List.filter_eq_self.2 fun x hx => by rw [List.findIdx?_eq_none_iff.1 hf x hx]; rfl)
    clear hf hi
    go_enter Tryz.func122, Tryz.ntmps122
    go_wp2_with fail
    refine HI.out.mono ?_
    rintro e w1 ⟨rfl, hb⟩
    have HB := Lib.hid hb
    clear hb
    go_wp2_with fail
    go_ret
    rw [hfl.out]
    exact ⟨rfl, HR.out.touch (Touch.of_below HB.out []) (by simp), Touch.of_below HB.out _⟩
  | some i0 =>
    have hi : idxL p l = (i0 : Int) := by unfold idxL; rw [hf]
    rw [hi] at HI
    obtain ⟨hi0, hpi, hbef⟩ := List.findIdx?_eq_some_iff_getElem.1 hf
    have hst : (l.take (i0 + 1)).filter (fun x => !p x) = l.take i0 := by
      rw [List.take_succ_eq_append_getElem hi0, List.filter_append, List.filter_eq_self.2 (fun x hx => ?_)]
      · simp [hpi]
      · obtain ⟨j, hj, rfl⟩ := List.getElem_of_mem hx
        rw [List.length_take] at hj
        rw [List.getElem_take]
        have := hbef j (by omega)
        simpa using this
    rcases HR.out.out with ⟨_, h0, _⟩ | ⟨g, cur, rfl, hg, hnc, hcm, hcs, htk, hxl⟩
    · omega
    have HG0 : Hid (w.heap[g]? = some (.cells cur 66 (0, 0)) ∧ cur.size = c * 3 ∧ cur.toList.take (i0 * 3) = lnFlat ((l.take (i0 + 1)).filter (fun x => !p x)) ∧ (cur.toList.take (l.length * 3)).drop ((i0 + 1) * 3) = lnFlat (l.drop (i0 + 1))) := Lib.hid (by
      refine ⟨hg, hcs, ?_, ?_⟩
      · rw [hst, ← lnFlat_take, ← htk, List.take_take, Nat.min_eq_left (Nat.mul_le_mul_right _ (by omega))]
      · rw [htk, lnFlat_drop])
    have hI0 : ((i0 : Int) == -1) = false := beq_eq_false_iff_ne.2 (by omega)
    have hlen0 : Hid (((l.take (i0 + 1)).filter (fun x => !p x)).length = i0) := Lib.hid (by rw [hst, List.length_take]; omega)
    unfold maxLen at hcm
    clear hf hi hpi hbef hst hg hcs htk hxl HR
    go_enter Tryz.func122, Tryz.ntmps122
    go_wp2_with fail
    refine HI.out.mono ?_
    rintro e w1 ⟨rfl, hb⟩
    have HT1 : Hid (Touch [g] w w1) := Lib.hid (Touch.of_below hb _)
    have HG1 : Hid (w1.heap[g]? = some (.cells cur 66 (0, 0))) := Lib.hid ((Touch.of_below hb []).heap HG0.out.1 (by simp))
    have HC1 : Hid (C w1) := Lib.hid (HCk.out _ _ HC.out hb)
    clear hb
    go_wp2_with fail
    go_loopw [5, 6, 7] (fun s5 s6 _ wr => ∃ (i j : Nat) (cur' : Array Value), i < j ∧ j ≤ l.length ∧ s5 = .int .i64 i ∧ s6 = .int .i64 j ∧
      Hid (wr.heap[g]? = some (.cells cur' 66 (0, 0)) ∧ cur'.size = c * 3 ∧ cur'.toList.take (i * 3) = lnFlat ((l.take j).filter (fun x => !p x)) ∧ (cur'.toList.take (l.length * 3)).drop (j * 3) = lnFlat (l.drop j)) ∧
      Hid (((l.take j).filter (fun x => !p x)).length = i) ∧ Hid (Touch [g] w wr) ∧ Hid (C wr)) (fun _ j _ _ => l.length - (intOf j).toNat)
    case atStart => exact ⟨i0, i0 + 1, cur, by omega, by omega, rfl, by go_num, Lib.hid (by obtain ⟨h1, h2⟩ := HG0.out; exact ⟨HG1.out, h2⟩), hlen0, HT1, HC1⟩
    case round =>
      obtain ⟨i, j, cur', hij, hj, rfl, rfl, HG, HLn, HT, HCr⟩ := hrel
      by_cases hlt : j < l.length
      · have hcs := lnFlat_at HG.out.1 HG.out.2.2.2 hlt
        have HCl2 := HCl.out l[j]
        have hgb : g < wr.heap.size := (Array.getElem?_eq_some_iff.1 HG.out.1).1
        have htk : l.take (j + 1) = l.take j ++ [l[j]] := by rw [List.take_succ_eq_append_getElem hlt]
        have hdr : Hid ((cur'.toList.take (l.length * 3)).drop ((j + 1) * 3) = lnFlat (l.drop (j + 1))) := Lib.hid (by
          rw [Nat.succ_mul, ← List.drop_drop, HG.out.2.2.2, show 3 = 1 * 3 from rfl, lnFlat_drop, List.drop_drop])
        cases hp : p l[j] with
        | true =>
          have hfl : Hid ((l.take (j + 1)).filter (fun x => !p x) = (l.take j).filter (fun x => !p x)) := Lib.hid (by rw [htk, List.filter_append]; simp [hp])
          generalize l[j] = x at *
          have hb1 := Below.alloc (Below.refl wr.heap.size wr) (Nat.le_refl _) (.cells (Value.cells (.agg #[.string x.key, .slice x.hs.a x.hs.n x.hs.c, .slice x.qs.a x.qs.n x.qs.c])) 66)
          have HCc := HCl2 (wr.alloc (.cells (Value.cells (.agg #[.string x.key, .slice x.hs.a x.hs.n x.hs.c, .slice x.qs.a x.qs.n x.qs.c])) 66)) (HCk.out _ _ HCr.out hb1)
          rw [hp] at HCc
          have HCC := Lib.hid HCc
          have HB1 := Lib.hid hb1
          obtain ⟨zk, ⟨z1, z2, z3⟩, ⟨z4, z5, z6⟩⟩ := x; obtain ⟨hcA, hcB, hcD⟩ := hcs; simp only at hcA hcB hcD
          clear HCc hp htk HCl2 hb1
          go_wp2_with fail
          refine HCC.out.mono ?_
          rintro e w2 ⟨rfl, hb2⟩
          have hb3 := HB1.out.trans (hb2.mono (by simp))
          have HB3 := Lib.hid hb3
          clear hb2 hb3
          go_wp2_with fail
          go_roundw
          case rel => exact ⟨i, j + 1, cur', by omega, by omega, rfl, by go_num, Lib.hid ⟨(Touch.of_below HB3.out []).heap HG.out.1 (by simp), HG.out.2.1, by rw [hfl.out]; exact HG.out.2.2.1, hdr.out⟩, Lib.hid (by rw [hfl.out]; exact HLn.out), Lib.hid (HT.out.trans (Touch.of_below HB3.out []) (by simp)), Lib.hid (HCk.out _ _ HCr.out HB3.out)⟩
          case measure => simp [intOf]; omega
        | false =>
          have hfl : Hid ((l.take (j + 1)).filter (fun x => !p x) = (l.take j).filter (fun x => !p x) ++ [l[j]]) := Lib.hid (by rw [htk, List.filter_append]; simp [hp])
          generalize l[j] = x at *
          have hb1 := Below.alloc (Below.refl wr.heap.size wr) (Nat.le_refl _) (.cells (Value.cells (.agg #[.string x.key, .slice x.hs.a x.hs.n x.hs.c, .slice x.qs.a x.qs.n x.qs.c])) 66)
          have HCc := HCl2 (wr.alloc (.cells (Value.cells (.agg #[.string x.key, .slice x.hs.a x.hs.n x.hs.c, .slice x.qs.a x.qs.n x.qs.c])) 66)) (HCk.out _ _ HCr.out hb1)
          rw [hp] at HCc
          have HCC := Lib.hid HCc
          have HB1 := Lib.hid hb1
          obtain ⟨zk, ⟨z1, z2, z3⟩, ⟨z4, z5, z6⟩⟩ := x; obtain ⟨hcA, hcB, hcD⟩ := hcs; simp only at hcA hcB hcD
          clear HCc hp htk HCl2 hb1
          go_wp2_with fail
          refine HCC.out.mono ?_
          rintro e w2 ⟨rfl, hb2⟩
          have hbx := lnFlat_keep hb2 (lnFlat_new wr ⟨zk, ⟨z1, z2, z3⟩, ⟨z4, z5, z6⟩⟩ 66)
          obtain ⟨hx1, hx2, hx3⟩ := hbx; simp only at hx1 hx2 hx3
          have hb3 := HB1.out.trans (hb2.mono (by simp))
          have HB3 := Lib.hid hb3
          have hg2 := (Touch.of_below hb3 []).heap HG.out.1 (by simp)
          have hik : (i + 1) * 3 ≤ l.length * 3 := Nat.mul_le_mul_right _ (by omega)
          have hck : l.length * 3 ≤ c * 3 := Nat.mul_le_mul_right _ hnc
          have hik2 : i * 3 + 3 ≤ cur'.toList.length := by rw [Array.length_toList, HG.out.2.1]; omega
          obtain ⟨C2, hC2⟩ : ∃ C2 : Array Value, (cur'.toList.take (i * 3) ++ (Value.cells (.agg #[.string zk, .slice z1 z2 z3, .slice z4 z5 z6])).toList ++ cur'.toList.drop (i * 3 + 3)).toArray = C2 := ⟨_, rfl⟩
          have hrun := run_storeAt_k (P := Tryz.prog) w2 66 66 g (i * 3) 3 cur' (.agg #[.string zk, .slice z1 z2 z3, .slice z4 z5 z6]) delL_size rfl hg2 (by rw [← Array.length_toList]; exact hik2) (by simp [Value.cells, Value.oneCell'])
          rw [hC2] at hrun
          have HRun := Lib.hid hrun
          have HG3 : Hid ((w2.setRow g C2).heap[g]? = some (.cells C2 66 (0, 0)) ∧ C2.size = c * 3 ∧ C2.toList.take ((i + 1) * 3) = lnFlat ((l.take (j + 1)).filter (fun x => !p x)) ∧ (C2.toList.take (l.length * 3)).drop ((j + 1) * 3) = lnFlat (l.drop (j + 1))) := Lib.hid (by
            refine ⟨setRow_heap _ g cur' C2 66 _ hg2, ?_, ?_, ?_⟩
            · rw [← Array.length_toList, ← hC2, List.toList_toArray, set_len cur'.toList (Value.cells (.agg #[.string zk, .slice z1 z2 z3, .slice z4 z5 z6])).toList i 3 rfl hik2, Array.length_toList]; exact HG.out.2.1
            · rw [← hC2, List.toList_toArray, set_take cur'.toList (Value.cells (.agg #[.string zk, .slice z1 z2 z3, .slice z4 z5 z6])).toList i 3 rfl hik2, hfl.out, lnFlat_append, HG.out.2.2.1]; rfl
            · rw [← hC2, List.toList_toArray, set_drop cur'.toList (Value.cells (.agg #[.string zk, .slice z1 z2 z3, .slice z4 z5 z6])).toList i (j + 1) l.length 3 rfl hik2 (by omega)]; exact hdr.out)
          have HT3 : Hid (Touch [g] w (w2.setRow g C2)) := Lib.hid ((HT.out.trans (Touch.of_below HB3.out []) (by simp)).andThen (Touch.setRow _ g C2 (by simp)))
          have HC3 : Hid (C (w2.setRow g C2)) := Lib.hid (HCt.out _ _ (HCk.out _ _ HCr.out HB3.out) (Touch.setRow _ g C2 (by simp [blkOf])))
          have HL3 : Hid (((l.take (j + 1)).filter (fun x => !p x)).length = i + 1) := Lib.hid (by rw [hfl.out, List.length_append, HLn.out]; rfl)
          clear hb2 hb3 hg2 hik hck hik2 hrun hC2
          go_wp2_with (refine wpList_storeR _ rfl _ _ _ rfl _ _ rfl rfl HRun.out ?_)
          go_roundw
          case rel => exact ⟨i + 1, j + 1, C2, by omega, by omega, by go_num, by go_num, HG3, HL3, HT3, HC3⟩
          case measure => simp [intOf]; omega
      · obtain rfl : j = l.length := by omega
        have hcl := run_clear_k (P := Tryz.prog) wr 51 66 0 (.agg #[.string ⟨#[]⟩, .slice none 0 0, .slice none 0 0]) Tryz.underlying51 (delL_zero _) (by decide) g (i * 3) (l.length - i) (c - i) cur' 66 (by omega) HG.out.1 (by
          rw [HG.out.2.1, show (Value.cells (.agg #[.string ⟨#[]⟩, .slice none 0 0, .slice none 0 0])).size = 3 from rfl, ← Nat.add_mul]; exact Nat.mul_le_mul_right _ (by omega))
        obtain ⟨C3, hC3⟩ : ∃ C3 : Array Value, (cur'.toList.take (i * 3) ++ (Builtin.zeroCells (Value.cells (.agg #[.string ⟨#[]⟩, .slice none 0 0, .slice none 0 0])) (l.length - i)).toList ++ cur'.toList.drop (i * 3 + (l.length - i) * (Value.cells (.agg #[.string ⟨#[]⟩, .slice none 0 0, .slice none 0 0])).size)).toArray = C3 := ⟨_, rfl⟩
        rw [hC3] at hcl
        have hzl : (Builtin.zeroCells (Value.cells (.agg #[.string ⟨#[]⟩, .slice none 0 0, .slice none 0 0])) (l.length - i)).toList.length = (l.length - i) * 3 := by rw [Array.length_toList, size_zeroCells]; rfl
        have hadd : i * 3 + (l.length - i) * 3 = l.length * 3 := by rw [← Nat.add_mul]; congr 1; omega
        have hck : l.length * 3 ≤ c * 3 := Nat.mul_le_mul_right _ hnc
        have hfl2 : Hid (((l.filter fun x => !p x).length) = i) := Lib.hid (by have := HLn.out; rwa [List.take_length] at this)
        have HFin : Hid (Row (wr.setRow g C3) 66 3 (some ⟨g, 0, none⟩) i c (lnFlat (l.filter fun x => !p x)) ∧ Touch [g] w (wr.setRow g C3)) := Lib.hid (by
          refine ⟨Row.mk (cur := C3) (setRow_heap _ g cur' C3 66 _ HG.out.1) (by omega) hcm ?_ ?_, HT.out.andThen (Touch.setRow _ g C3 (by simp))⟩
          · rw [← Array.length_toList, ← hC3, List.toList_toArray]
            simp only [List.length_append, List.length_take, List.length_drop, hzl, Array.length_toList, HG.out.2.1, show (Value.cells (.agg #[.string ⟨#[]⟩, .slice none 0 0, .slice none 0 0])).size = 3 from rfl]
            omega
          · have h3 := HG.out.2.2.1
            rw [List.take_length] at h3
            rw [← hC3, List.toList_toArray, List.append_assoc, List.take_append_of_le_length (by rw [List.length_take, Array.length_toList, HG.out.2.1]; omega), List.take_take, Nat.min_self]
            exact h3)
        have hq := hcl
        have hii : i < l.length := by omega
        clear hcl hC3 hzl hadd hck
        go_wp2_with fail
        go_ret
        rw [hfl2.out]
        exact ⟨rfl, HFin.out⟩

end Go.Proofs.YtmifgnibalbgjaaGreat
/- Leave's two tests; DeleteFunc beside other things. -/
namespace Go.Proofs.YtmifgnibalbgjaaGreat
open Go.RowKit
set_option maxRecDepth 100000 in
set_option maxHeartbeats 800000 in
theorem mine_any (bi : Nat) (o : Int) (x : Hd) (W : World) (h : W.heap[bi]? = some (.cells #[.int .i64 o] 3 (0, 0))) :
    Calls Tryz.prog 119 #[.agg #[.int .i64 x.owner, .int .i64 x.mode], .pointer (some ⟨bi, 0, none⟩)] W fun e W' => e = .returned (.bool (x.owner == o)) ∧ Below W.heap.size W W' := by
  obtain ⟨xo, xm⟩ := x
  obtain ⟨h0, -⟩ := cell_of_heap (i := 0) (v := .int .i64 o) h rfl
  have h1 := fun oo => ((bel_new W oo).cell (World.block_lt_of_cell? W _ h0)).trans h0
  clear h h0
  simp only
  go_enter Tryz.func119, Tryz.ntmps119
  go_wp2_with fail
  go_ret
  exact ⟨rfl, bel_new _ _⟩
def pL (x : Ln) : Bool := wrap64 ((x.hs.n : Int) + (x.qs.n : Int)) == 0
set_option maxRecDepth 100000 in
set_option maxHeartbeats 800000 in
theorem none_any (x : Ln) (W : World) :
    Calls Tryz.prog 123 #[.agg #[.string x.key, .slice x.hs.a x.hs.n x.hs.c, .slice x.qs.a x.qs.n x.qs.c]] W fun e W' => e = .returned (.bool (pL x)) ∧ Below W.heap.size W W' := by
  obtain ⟨xk, ⟨ha, hn, hc⟩, ⟨qa, qn, qc⟩⟩ := x
  unfold pL
  simp only
  go_enter Tryz.func123, Tryz.ntmps123
  go_wp2_with fail
  go_ret
  exact ⟨rfl, bel_new _ _⟩
theorem mem_blk {w : World} : ∀ {l : List Asn} {r : List Asn} {E k n c : Nat} {a : Option Addr} {xs : List Value} {D : List Nat}, All (l ++ RowA E k a n c xs :: r) w D → ∀ x ∈ blkOf a, x ∈ D := by
  intro l r E k n c a xs D h x hx
  obtain ⟨D1, D2, rfl, hd, h1, E1, E2, rfl, he, ⟨rfl, h3⟩, h4⟩ := all_append l _ h
  exact List.mem_append_right _ (List.mem_append_left _ hx)
theorem Mem.apart {w0 w : World} {D0 : List Nat} {g : Nat} {cur : Array Value} {T : TypeId} (l : List Asn) {r : List Asn} {E k n c : Nat} {a : Option Addr} {xs : List Value} (h : Mem w0 D0 w (BlockA g cur T :: (l ++ RowA E k a n c xs :: r))) : g ∉ blkOf a := by
  obtain ⟨D, ⟨D1, D2, rfl, hd, ⟨rfl, h1⟩, h2⟩, hD⟩ := h.out
  exact fun hm => hd g (by simp) (mem_blk h2 g hm)
section
variable {w0 w : World} {D0 : List Nat} (l : List Asn) {r : List Asn} [Stables l] [Stables r]
theorem mem_delH {bi : Nat} {o : Int} {s : Sl} {H : List Hd} (h : Mem w0 D0 w (BlockA bi #[.int .i64 o] 3 :: (l ++ RowH s H :: r))) (hn : H.length ≤ 1000000) :
    Calls Tryz.prog 120 #[slv s, .func (.func 119) #[] #[.pointer (some ⟨bi, 0, none⟩)]] w fun e w' => ∃ s', e = .returned (slv s') ∧ Mem w0 D0 w' (BlockA bi #[.int .i64 o] 3 :: (l ++ RowH s' (outH H o) :: r)) := by
  have hr := Mem.rowAt (BlockA bi #[.int .i64 o] 3 :: l) (r := r) h
  have hl := row_len hr
  have hap := Mem.apart l h
  obtain ⟨D, _, hbi⟩ := Mem.get [] (r := l ++ RowH s H :: r) h
  refine (dh_del bi (fun x => x.owner == o) (fun W => W.heap[bi]? = some (.cells #[.int .i64 o] 3 (0, 0))) (fun W W' hC hb => (Touch.of_below hb []).heap hC (by simp)) (fun x W hC => mine_any bi o x W hC) s.a (fun W W' hC ht => ht.heap hC hap) s.n s.c H w hbi hr (by omega)).mono ?_
  rintro e w' ⟨rfl, hr', ht⟩
  exact ⟨⟨s.a, (outH H o).length, s.c⟩, rfl, Mem.rowTurn (BlockA bi #[.int .i64 o] 3 :: l) (r := r) h hr' ht (Fresh.refl _ _)⟩
theorem mem_delL {la : Option Addr} {n c : Nat} {X : List Ln} (h : Mem w0 D0 w (l ++ RowA 66 3 la n c (lnFlat X) :: r)) (hn : X.length ≤ 1000000) :
    Calls Tryz.prog 122 #[.slice la n c, .func (.func 123) #[] #[]] w fun e w' => e = .returned (.slice la (X.filter fun x => !pL x).length c) ∧ Mem w0 D0 w' (l ++ RowA 66 3 la (X.filter fun x => !pL x).length c (lnFlat (X.filter fun x => !pL x)) :: r) := by
  have hr := Mem.rowAt l h
  have hl := lnrow_len hr
  refine (dl_del (fun x => pL x) (fun _ => True) (fun _ _ _ _ => trivial) (fun x W _ => none_any x W) la (fun _ _ _ _ => trivial) n c X w trivial hr (by omega)).mono ?_
  rintro e w' ⟨rfl, hr', ht⟩
  exact ⟨rfl, Mem.rowTurn l h hr' ht (Fresh.refl _ _)⟩
end
end Go.Proofs.YtmifgnibalbgjaaGreat
/- Leave: the lines. -/
namespace Go.Proofs.YtmifgnibalbgjaaGreat
open Go.RowKit
theorem perm_line0 (B R H Q : Asn) (A1 A2 : List Asn) : (B :: R :: (A1 ++ (H :: Q :: A2))).Perm ([R, H, Q] ++ (B :: (A1 ++ A2))) := by
  have := perm_line B R H Q A1 A2 []
  simpa using this
/-- a line is taken out, behind other things. -/
theorem Mem.lineOutF {w0 w : World} {D0 : List Nat} {p n lc : Nat} {la : Option Addr} {X : List Ln} {L : List Li} (F : List Asn) {i : Nat} (hx : i < X.length) (hl : i < L.length) (h : Mem w0 D0 w (F ++ (BlockA p #[.slice la n lc] 144 :: RowA 66 3 la n lc (lnFlat X) :: rowsOf X L))) :
    Mem w0 D0 w (F ++ ([RowA 66 3 la n lc (lnFlat X), RowH X[i].hs L[i].hs, RowH X[i].qs L[i].qs] ++ (BlockA p #[.slice la n lc] 144 :: (rowsOf (X.take i) (L.take i) ++ rowsOf (X.drop (i + 1)) (L.drop (i + 1)))))) := by
  rw [rowsOf_at hx hl] at h
  exact h.perm ((perm_line0 _ _ _ _ _ _).append_left F)
theorem Mem.lineInF {w0 w : World} {D0 : List Nat} {p n lc : Nat} {la : Option Addr} {X : List Ln} {L : List Li} (F : List Asn) {i : Nat} (hx : i < X.length) (hl : i < L.length) {x : Ln} {l : Li}
    (h : Mem w0 D0 w (F ++ ([RowA 66 3 la n lc (lnFlat (X.set i x)), RowH x.hs l.hs, RowH x.qs l.qs] ++ (BlockA p #[.slice la n lc] 144 :: (rowsOf (X.take i) (L.take i) ++ rowsOf (X.drop (i + 1)) (L.drop (i + 1))))))) :
    Mem w0 D0 w (F ++ (BlockA p #[.slice la n lc] 144 :: RowA 66 3 la n lc (lnFlat (X.set i x)) :: rowsOf (X.set i x) (L.set i l))) := by
  rw [rowsOf_set hx hl]
  exact h.perm ((perm_line0 _ _ _ _ _ _).symm.append_left F)
/-- the lines when so many have been left. -/
def midL (L : List Li) (o : Int) (i : Nat) : List Li := (L.take i).map (fun l => (leaveLi l o).2) ++ L.drop i
theorem midL_zero (L : List Li) (o : Int) : midL L o 0 = L := by simp [midL]
theorem midL_len (L : List Li) (o : Int) (i : Nat) : (midL L o i).length = L.length := by simp [midL]; omega
theorem midL_at {L : List Li} {o : Int} {i : Nat} (h : i < L.length) (h' : i < (midL L o i).length) : (midL L o i)[i] = L[i] := by
  have h1 : (midL L o i)[i]? = some L[i] := by
    unfold midL
    rw [List.getElem?_append_right (by rw [List.length_map, List.length_take]; omega), List.length_map, List.length_take, Nat.min_eq_left (Nat.le_of_lt h), List.getElem?_drop]
    simp [h]
  rw [List.getElem?_eq_getElem h'] at h1
  exact Option.some.inj h1
theorem midL_next {L : List Li} {o : Int} {i : Nat} (h : i < L.length) : (midL L o i).set i (leaveLi L[i] o).2 = midL L o (i + 1) := by
  unfold midL
  rw [List.set_append_right _ _ (by rw [List.length_map, List.length_take]; omega), List.length_map, List.length_take, Nat.min_eq_left (Nat.le_of_lt h), Nat.sub_self]
  conv => lhs; rw [List.drop_eq_getElem_cons h]
  rw [List.set_cons_zero, List.take_succ_eq_append_getElem h, List.map_append, List.append_assoc]; rfl
theorem midL_keys (L : List Li) (o : Int) (i : Nat) : (midL L o i).map (·.key) = L.map (·.key) := by
  unfold midL
  conv => rhs; rw [← List.take_append_drop i L]
  rw [List.map_append, List.map_append, List.map_map]; rfl
theorem midL_end (L : List Li) (o : Int) : midL L o L.length = L.map fun l => (leaveLi l o).2 := by simp [midL]
/-- who came in of so many lines. -/
def midI (L : List Li) (o : Int) (i : Nat) : List Int := (L.take i).flatMap fun l => (leaveLi l o).1
theorem midI_next {L : List Li} {o : Int} {i : Nat} (h : i < L.length) : midI L o (i + 1) = midI L o i ++ (leaveLi L[i] o).1 := by
  unfold midI
  rw [List.take_succ_eq_append_getElem h, List.flatMap_append]; simp
/-- what holds at the loop's head. -/
def LvAt (w : World) (D : List Nat) (p : Nat) (la : Option Addr) (n c bi : Nat) (L : List Li) (o : Int) (i : Nat) (v : Value) (wr : World) : Prop :=
  ∃ (a : Option Addr) (ci : Nat) (X : List Ln), v = .slice a (midI L o i).length ci ∧ X.map (·.key) = L.map (·.key) ∧
    Mem w D wr ([BlockA bi #[.int .i64 o] 3, RowI a ci (midI L o i)] ++ (BlockA p #[.slice la n c] 144 :: RowA 66 3 la n c (lnFlat X) :: rowsOf X (midL L o i)))
set_option maxRecDepth 100000 in
theorem midI_len {L : List Li} (hb : Sm 400 L) (o : Int) : ∀ i, (midI L o i).length ≤ i * 400
  | 0 => by simp [midI]
  | i + 1 => by
    have ih := midI_len hb o i
    rcases Nat.lt_or_ge i L.length with h | h
    · rw [midI_next h, List.length_append]
      obtain ⟨p, h1, h2, -⟩ := letH_split (outH L[i].qs o) (outH L[i].hs o)
      have h3 : (leaveLi L[i] o).1.length = p.length := by show (letH _ _).1.length = _; rw [h2, List.length_map]
      have h4 := congrArg List.length h1
      rw [List.length_append] at h4
      have h5 : (outH L[i].qs o).length ≤ L[i].qs.length := List.length_filter_le _ _
      have h6 := hb.2 _ (List.getElem_mem h)
      omega
    · have : midI L o (i + 1) = midI L o i := by unfold midI; rw [List.take_of_length_le (by omega), List.take_of_length_le h]
      rw [this]; omega
end Go.Proofs.YtmifgnibalbgjaaGreat
/- Sort and Compact of whole numbers. -/
namespace Go.Proofs.YtmifgnibalbgjaaGreat
open Go.RowKit Go.Sort Go.Lib
theorem Row.upto {w : World} {E k n c m : Nat} {a : Option Addr} {xs : List Value} (h : Row w E k a n c xs) (hm : m ≤ n) : Row w E k a m c (xs.take (m * k)) := by
  rcases h.out with ⟨rfl, rfl, rfl, rfl⟩ | ⟨g, cur, rfl, hg, h1, h2, h3, h4, _⟩
  · obtain rfl : m = 0 := by omega
    simpa using Row.nil w E k
  · refine Row.mk hg (by omega) h2 h3 ?_
    rw [← h4, List.take_take, Nat.min_eq_left (Nat.mul_le_mul_right _ hm)]
theorem heap_grow_old' (w : World) (os : Array Obj) {x : Nat} (h : x < w.heap.size) : (grow w os).heap[x]? = w.heap[x]? := by
  simp only [grow]; rw [Array.getElem?_append_left h]
theorem row_put {w w' : World} {g n c q : Nat} {o d : List Int} {os : Array Obj} (h : Row w 3 1 (some ⟨g, 0, none⟩) n c (intsV o)) (hd : d.length = n) (hw : w' = grow (putRow (Value.int .i64) (Go.Sort.ahead w q) g 0 d.toArray) os) :
    Row w' 3 1 (some ⟨g, 0, none⟩) n c (intsV d) ∧ Touch [g] w w' := by
  subst hw
  rcases h.out with ⟨e, _⟩ | ⟨g', cur, e, hg, hnc, hcm, hcs, htk, _⟩
  · cases e
  · obtain rfl : g = g' := by simpa using e
    have hlt : g < w.heap.size := lt_of_heap hg
    have hsz : (putRow (Value.int .i64) (Go.Sort.ahead w q) g 0 d.toArray).heap.size = w.heap.size := by show ((Go.Sort.ahead w q).heap.modify g _).size = _; rw [Array.size_modify]; rfl
    have hheap : ∀ x, x < w.heap.size → (grow (putRow (Value.int .i64) (Go.Sort.ahead w q) g 0 d.toArray) os).heap[x]? = if g = x then (w.heap[x]?).map (onCells (putCells (Value.int .i64) 0 d.toArray)) else w.heap[x]? := by
      intro x hx
      rw [heap_grow_old' _ _ (by rw [hsz]; exact hx)]
      show ((Go.Sort.ahead w q).heap.modify g _)[x]? = _
      rw [Array.getElem?_modify]; rfl
    refine ⟨Row.mk (cur := putCells (Value.int .i64) 0 d.toArray cur) ?_ hnc hcm (by simp [putCells, hcs]) ?_, rfl, rfl, rfl, ?_, fun x hx hn => ?_⟩
    · rw [hheap g hlt, if_pos rfl, hg]; rfl
    · apply List.ext_getElem?
      intro t
      by_cases ht : t < n * 1
      · rw [List.getElem?_take, if_pos ht]
        have h1 : t < cur.size := by omega
        have h2 : t < d.length := by omega
        rw [List.getElem?_eq_getElem (by simpa [putCells] using h1), List.getElem?_eq_getElem (by simpa [intsV] using h2)]
        simp only [Array.getElem_toList, putCells, Array.getElem_mapIdx, intsV, List.getElem_map]
        rw [if_pos ⟨Nat.zero_le _, by simpa using h2⟩]
        rw [Nat.sub_zero, getElem!_pos _ t (by simpa using h2)]; rfl
      · rw [List.getElem?_eq_none (by rw [List.length_take]; omega), List.getElem?_eq_none (by simp [intsV]; omega)]
    · show w.heap.size ≤ ((putRow (Value.int .i64) (Go.Sort.ahead w q) g 0 d.toArray).heap ++ os).size
      rw [Array.size_append, hsz]; omega
    · rw [hheap x hx, if_neg (by simpa [eq_comm] using hn)]
theorem holds_ints {w : World} {g n c : Nat} {o : List Int} (h : Row w 3 1 (some ⟨g, 0, none⟩) n c (intsV o)) : Holds (Value.int .i64) w g 0 o.toArray := fun j hj => by
  have hj' : j < o.length := by simpa using hj
  have := row_cell h (j := j) (v := .int .i64 o[j]) (by simp [intsV, hj'])
  rw [Nat.zero_add, List.getElem!_toArray, getElem!_pos o j hj']
  exact this
def sortI (o : List Int) : List Int := o.mergeSort fun x y => decide (x ≤ y)
theorem sortI_len (o : List Int) : (sortI o).length = o.length := List.length_mergeSort _
/-- each once, rising. -/
def riseI (o : List Int) : List Int := Lib.compact (sortI o)
section
variable {w0 w : World} {D0 : List Nat} (l : List Asn) {r : List Asn} [Stables l] [Stables r]
theorem mem_sort {a : Option Addr} {c : Nat} {o : List Int} (h : Mem w0 D0 w (l ++ RowI a c o :: r)) (hn : o.length ≤ 1000000) :
    Calls Tryz.prog 93 #[.slice a o.length c] w fun e w' => e = .returned (.tuple #[]) ∧ Mem w0 D0 w' (l ++ RowI a c (sortI o) :: r) := by
  have hr := Mem.rowAt l h
  rcases hr.out with ⟨rfl, h0, rfl, _⟩ | ⟨g, cur, rfl, hg, _⟩
  · obtain rfl : o = [] := List.length_eq_zero_iff.1 h0
    refine (Tryz.slices_Sort_int_none none 0 w).mono fun e w' ⟨he, hw⟩ => ⟨he, ?_⟩
    rw [hw, show sortI [] = [] by simp [sortI]]
    exact h
  · refine (Tryz.slices_Sort_int g 0 c o w (holds_ints hr) (hr.lt _ rfl) (by omega)).mono fun e w' hw => ?_
    obtain ⟨he, q, os, hw'⟩ := hw
    obtain ⟨h1, h2⟩ := row_put hr (d := sortI o) (sortI_len o) hw'
    refine ⟨he, ?_⟩
    have h3 := Mem.rowTurn l h (xs' := intsV (sortI o)) (n' := o.length) h1 (by simpa [blkOf] using h2) (Fresh.refl _ _)
    rw [show RowI (some ⟨g, 0, none⟩) c (sortI o) = RowA 3 1 (some ⟨g, 0, none⟩) o.length c (intsV (sortI o)) by unfold RowI; rw [sortI_len]]
    exact h3
theorem mem_compact {a : Option Addr} {c : Nat} {o : List Int} (h : Mem w0 D0 w (l ++ RowI a c o :: r)) (hn : o.length ≤ 1000000) :
    Calls Tryz.prog 116 #[.slice a o.length c] w fun e w' => e = .returned (.slice a (Lib.compact o).length c) ∧ Mem w0 D0 w' (l ++ RowI a c (Lib.compact o) :: r) := by
  have hr := Mem.rowAt l h
  rcases hr.out with ⟨rfl, h0, rfl, _⟩ | ⟨g, cur, rfl, hg, hnc, _⟩
  · obtain rfl : o = [] := List.length_eq_zero_iff.1 h0
    refine (Tryz.slices_Compact_int_empty none 0 w).mono fun e w' ⟨he, hw⟩ => ⟨he, ?_⟩
    rw [hw]
    exact h
  · have hle := Lib.compact_length_le o
    refine (Tryz.slices_Compact_int g 0 c o w (holds_ints hr) (by omega) hnc).mono fun e w' hw => ?_
    obtain ⟨he, q, hw'⟩ := hw
    obtain ⟨h1, h2⟩ := row_put (w' := w') (q := q) (os := #[]) hr (d := Lib.compact o ++ List.replicate (o.length - (Lib.compact o).length) 0) (by rw [List.length_append, List.length_replicate]; omega) (by rw [hw', grow_empty])
    refine ⟨he, Mem.rowTurn l h ?_ (by simpa [blkOf] using h2) (Fresh.refl _ _)⟩
    have h3 := Row.upto h1 hle
    rw [Nat.mul_one, show (intsV (Lib.compact o ++ List.replicate (o.length - (Lib.compact o).length) 0)).take (Lib.compact o).length = intsV (Lib.compact o) by unfold intsV; rw [List.map_append, List.take_left' (by simp)]] at h3
    exact h3
end
end Go.Proofs.YtmifgnibalbgjaaGreat
/- Ask, whole; Leave. -/
namespace Go.Proofs.YtmifgnibalbgjaaGreat
open Go.RowKit
theorem tab_ask (p : Nat) (L : List Li) (o : Int) (k : ByteArray) (m : Int) (w : World) (D : List Nat) (h : TabA p L w D) (hok : LOk L) (hb : Sm 400 L) :
    Calls Tryz.prog 88 #[.pointer (some ⟨p, 0, none⟩), .int .i64 o, .string k, .int .i64 m] w (AskPost w D p (askL L o k m)) := by
  unfold askL
  split
  · rename_i hbad
    exact tab_ask_bad p L o k m w D h hbad
  · rename_i hg
    simp only [not_or] at hg
    obtain ⟨g0, g1, g2⟩ := hg
    have g2 : modeM m = true := by simpa using g2
    split
    · rename_i hh
      obtain ⟨hi, _⟩ := (hasL_iff hok.s k).1 hh
      simp only [List.getElem?_eq_getElem hi, Option.getD_some]
      by_cases hC : 0 < ofH (L[posL L k]'hi).hs o
      · exact tab_ask_up p L o k m w D h hok hb g0 g1 g2 hh hi hC
      · exact tab_ask_plain p L o k m w D h hok hb g0 g1 g2 hh hi hC
    · rename_i hh
      exact tab_ask_new p L o k m w D h hok.s ⟨by have := hb.1; omega, fun l hl => by have := hb.2 l hl; omega⟩ g0 g1 g2 (by simpa using hh)
end Go.Proofs.YtmifgnibalbgjaaGreat
/- Leave. -/
namespace Go.Proofs.YtmifgnibalbgjaaGreat
open Go.RowKit
theorem letH_sum : ∀ (qs hs : List Hd), (letH hs qs).2.1.length + (letH hs qs).2.2.length ≤ hs.length + qs.length
  | [], hs => by simp [letH]
  | w :: r, hs => by
    rw [letH_cons]
    split
    · have := letH_sum r (putH hs w)
      have := putH_len hs w
      simp only [List.length_cons]; omega
    · simp
theorem leaveLi_sum (l : Li) (o : Int) : (leaveLi l o).2.hs.length + (leaveLi l o).2.qs.length ≤ l.hs.length + l.qs.length := by
  have h := letH_sum (outH l.qs o) (outH l.hs o)
  have h5 : (outH l.qs o).length ≤ l.qs.length := List.length_filter_le _ _
  have h6 : (outH l.hs o).length ≤ l.hs.length := List.length_filter_le _ _
  show (letH (outH l.hs o) (outH l.qs o)).2.1.length + (letH (outH l.hs o) (outH l.qs o)).2.2.length ≤ _
  omega
theorem Mem.appRow {w0 w : World} {D0 : List Nat} {a b : Option Addr} {ca cb : Nat} {I J : List Int} {r : List Asn} [Stables r] (h : Mem w0 D0 w (RowI a ca I :: RowI b cb J :: r)) (hn : I.length + J.length ≤ 1000000) :
    ∃ a' c' w', (Builtin.append_ #[102, 102] 102 #[.slice a I.length ca, .slice b J.length cb]).run Tryz.prog w = .ok (.slice a' (I.length + J.length) c') w' ∧ Mem w0 D0 w' (RowI a' c' (I ++ J) :: RowI b cb J :: r) := by
  have hsv := SubV.upto (Mem.rowAt [RowI a ca I] h) (fun u hu => by
    obtain ⟨x, -, rfl⟩ := List.mem_map.1 hu; rfl) (Nat.le_refl _)
  rw [Nat.mul_one, List.take_of_length_le (by simp [intsV])] at hsv
  obtain ⟨a', c', w', h1, h2, h3, h4⟩ := app_row_src (P := Tryz.prog) w 102 102 3 Tryz.underlying102 infoInt (by rfl) (by decide) a I.length ca (intsV I) (Mem.rowAt [] (r := RowI b cb J :: r) h) _ _ _ hsv hn (by decide)
  refine ⟨a', c', w', h1, ?_⟩
  have h5 := Mem.rowTurn [] (r := RowI b cb J :: r) h h2 h3 h4
  unfold RowI
  unfold intsV at h5 ⊢
  rw [List.length_append, List.map_append]
  exact h5
/-- the rows of lines that are kept. -/
theorem rowsOf_filter {w0 w : World} {D0 : List Nat} : ∀ (X : List Ln) (M : List Li) (F : List Asn) [Stables F], X.map (·.key) = M.map (·.key) → (∀ l ∈ M, l.hs.length + l.qs.length ≤ 400) → Mem w0 D0 w (F ++ rowsOf X M) →
    Mem w0 D0 w (F ++ rowsOf (X.filter fun x => !pL x) (M.filter fun l => !emptyLi l)) ∧ (X.filter fun x => !pL x).map (·.key) = (M.filter fun l => !emptyLi l).map (·.key)
  | [], [], F, _, _, _, h => ⟨h, rfl⟩
  | [], _ :: _, _, _, hk, _, _ => by cases hk
  | _ :: _, [], _, _, hk, _, _ => by cases hk
  | x :: X, l :: M, F, _, hk, hb, h => by
    have hb1 := hb l (List.mem_cons_self ..)
    have e1 := Mem.sl_len F (r := RowH x.qs l.qs :: rowsOf X M) h
    have e2 := Mem.sl_len (F ++ [RowH x.hs l.hs]) (r := rowsOf X M) (by simpa [rowsOf] using h)
    have ep : pL x = emptyLi l := by
      unfold pL emptyLi
      rw [e1, e2]
      rw [show wrap64 ((l.hs.length : Int) + (l.qs.length : Int)) = ((l.hs.length + l.qs.length : Nat) : Int) by unfold wrap64; omega]
      rw [Bool.eq_iff_iff, beq_iff_eq, beq_iff_eq]; omega
    obtain ⟨hk1, hk2⟩ := List.cons.inj hk
    rw [List.filter_cons, List.filter_cons, ep]
    cases he : emptyLi l with
    | true =>
      have h1 := Mem.drop F (r := RowH x.qs l.qs :: rowsOf X M) h
      have h2 := Mem.drop F (r := rowsOf X M) h1
      simpa using rowsOf_filter X M F hk2 (fun l hl => hb l (List.mem_cons_of_mem _ hl)) h2
    | false =>
      obtain ⟨h3, h4⟩ := rowsOf_filter X M (F ++ [RowH x.hs l.hs, RowH x.qs l.qs]) hk2 (fun l hl => hb l (List.mem_cons_of_mem _ hl)) (by simpa [rowsOf] using h)
      refine ⟨?_, ?_⟩
      · simpa [rowsOf] using h3
      · simpa using ⟨hk1, h4⟩
set_option maxRecDepth 100000 in
set_option maxHeartbeats 8000000 in
theorem tab_leave (p : Nat) (L : List Li) (o : Int) (w : World) (D : List Nat) (h : TabA p L w D) (hok : LOk L) (hb : Sm 400 L) :
    Calls Tryz.prog 83 #[.pointer (some ⟨p, 0, none⟩), .int .i64 o] w fun e w' => ∃ a c, e = .returned (.slice a (riseI (leaveL L o).1).length c) ∧ Mem w D w' [RowI a c (riseI (leaveL L o).1), TabA p (leaveL L o).2] := by
  obtain ⟨la, n, c, X, hk, hm⟩ := Mem.table (Mem.start h)
  have hl := lnrow_len (Mem.rowAt [BlockA p #[.slice la n c] 144] (r := rowsOf X L ++ []) hm)
  obtain ⟨hk1, hk2⟩ := keys_at hk
  have hnL : n = L.length := by omega
  rw [List.append_nil] at hm
  obtain ⟨hc, -⟩ := Mem.cellAt (i := 0) (v := .slice la n c) [] (r := RowA 66 3 la n c (lnFlat X) :: rowsOf X L) hm rfl
  have hc2 := fun oo => ((bel_new w oo).cell (World.block_lt_of_cell? w _ hc)).trans hc
  have H0 : Hid (LvAt w D p la n c w.heap.size L o 0 (.slice none 0 0) (w.alloc (.cells #[.int .i64 o] 3))) := Lib.hid ⟨none, 0, X, rfl, hk, by
    rw [midL_zero]
    have h1 := (hm.block #[.int .i64 o] 3).new (Below.refl _ _) (As := [RowI none 0 []]) (all_one ⟨rfl, Row.nil _ _ _⟩) (by simp [blkOf])
    exact h1.perm (List.Perm.swap _ _ _)⟩
  have HOK := Lib.hid hok
  have HSM := Lib.hid hb
  have hn4 : n ≤ 400 := by have := hb.1; omega
  have HNL := Lib.hid hnL
  clear h hok hb hm hk hl hk1 hk2 hnL
  go_enter Tryz.func83, Tryz.ntmps83
  go_wp2_with fail
  go_loopw [5, 17] (fun v jv wr => ∃ i : Nat, i ≤ n ∧ jv = .int .i64 (i : Nat) ∧ Hid (LvAt w D p la n c w.heap.size L o i v wr)) (fun _ jv _ => n - (intOf jv).toNat)
  case atStart => exact ⟨0, Nat.zero_le _, rfl, H0⟩
  case round =>
    obtain ⟨i, hi, rfl, hS⟩ := hrel
    clear H0
    obtain ⟨a, ci, X, rfl, hk, hm⟩ := hS.out
    clear hS
    have HIL := Lib.hid (midI_len HSM.out o i)
    by_cases hlt : i < n
    · have hnL := HNL.out
      obtain ⟨k1, k2⟩ := keys_at hk
      have hiL : i < L.length := by omega
      have hx : i < X.length := by omega
      have hiM : i < (midL L o i).length := by rw [midL_len]; exact hiL
      obtain ⟨g, rfl, -⟩ := lnAt_row (Mem.rowAt [BlockA w.heap.size #[.int .i64 o] 3, RowI a ci (midI L o i), BlockA p #[.slice la n c] 144] (r := rowsOf X (midL L o i)) hm) i hx
      obtain ⟨hcp, -⟩ := Mem.cellAt (i := 0) (v := .slice (some ⟨g, 0, none⟩) n c) [BlockA w.heap.size #[.int .i64 o] 3, RowI a ci (midI L o i)] (r := RowL g n c X :: rowsOf X (midL L o i)) hm rfl
      have hm2 := Mem.lineOutF [BlockA w.heap.size #[.int .i64 o] 3, RowI a ci (midI L o i)] hx hiM hm
      have HFIN : Hid (∀ W a' c' x', x'.key = X[i].key → Mem w D W ([BlockA w.heap.size #[.int .i64 o] 3, RowI a' c' (midI L o i ++ (leaveLi L[i] o).1)] ++ ([RowL g n c (X.set i x'), RowH x'.hs (leaveLi L[i] o).2.hs, RowH x'.qs (leaveLi L[i] o).2.qs] ++ (BlockA p #[.slice (some ⟨g, 0, none⟩) n c] 144 :: (rowsOf (X.take i) ((midL L o i).take i) ++ rowsOf (X.drop (i + 1)) ((midL L o i).drop (i + 1)))))) →
          LvAt w D p (some ⟨g, 0, none⟩) n c w.heap.size L o (i + 1) (.slice a' ((midI L o i).length + (leaveLi L[i] o).1.length) c') W) := Lib.hid fun W a' c' x' hxk hW => by
        refine ⟨a', c', X.set i x', ?_, ?_, ?_⟩
        · rw [midI_next hiL, List.length_append]
        · rw [List.map_set, hxk, ← hk, ← List.map_set, List.set_getElem_self]
        · rw [midI_next hiL, ← midL_next hiL]
          exact Mem.lineInF [BlockA w.heap.size #[.int .i64 o] 3, RowI a' c' (midI L o i ++ (leaveLi L[i] o).1)] hx hiM hW
      rw [midL_at hiL hiM] at hm2
      have hS : Stables (BlockA p #[.slice (some ⟨g, 0, none⟩) n c] 144 :: (rowsOf (X.take i) ((midL L o i).take i) ++ rowsOf (X.drop (i + 1)) ((midL L o i).drop (i + 1)))) := inferInstance
      generalize (BlockA p #[.slice (some ⟨g, 0, none⟩) n c] 144 :: (rowsOf (X.take i) ((midL L o i).take i) ++ rowsOf (X.drop (i + 1)) ((midL L o i).drop (i + 1)))) = R at *
      have hset : X.set i X[i] = X := List.set_getElem_self ..
      have hcs := lnFlat_get X i hx
      have HLW := Lib.hid ((HOK.out.ok _ (List.getElem_mem hiL)).w.out o)
      have hsm := HSM.out.2 _ (List.getElem_mem hiL)
      have hle1 : (leaveLi L[i] o).1.length ≤ 400 := by
        obtain ⟨pp, h1, h2, -⟩ := letH_split (outH L[i].qs o) (outH L[i].hs o)
        have h3 : (leaveLi L[i] o).1.length = pp.length := by show (letH _ _).1.length = _; rw [h2, List.length_map]
        have h4 := congrArg List.length h1
        rw [List.length_append] at h4
        have h5 : (outH L[i].qs o).length ≤ L[i].qs.length := List.length_filter_le _ _
        omega
      have hlen : (outH L[i].hs o).length + (outH L[i].qs o).length ≤ 1000 := by
        have h5 : (outH L[i].qs o).length ≤ L[i].qs.length := List.length_filter_le _ _
        have h6 : (outH L[i].hs o).length ≤ L[i].hs.length := List.length_filter_le _ _
        omega
      have HLEN := Lib.hid hlen
      have HLE1 := Lib.hid hle1
      have hll : leaveLi L[i] o = ((letH (outH L[i].hs o) (outH L[i].qs o)).1, ⟨L[i].key, (letH (outH L[i].hs o) (outH L[i].qs o)).2.1, (letH (outH L[i].hs o) (outH L[i].qs o)).2.2⟩) := rfl
      rw [hll] at HFIN HLE1
      simp only at HFIN HLE1
      have HMI : Hid ((midI L o i).length ≤ 160000) := Lib.hid (by have := HIL.out; omega)
      clear hll hle1 hlen HIL hk k1 k2 hm hnL hc hc2
      generalize midI L o i = I0 at *
      generalize L[i].hs = H at *
      generalize L[i].qs = Q at *
      generalize X[i] = x at *
      obtain ⟨xk, ⟨ha, hn, hcq⟩, ⟨qa, qn, qc⟩⟩ := x
      have HXL := Lib.hid hx
      have HSET := Lib.hid hset
      simp only at hm2 hcs HFIN
      have HCS := Lib.hid hcs
      have M1 : Hid (Mem w D wr (BlockA w.heap.size #[.int .i64 o] 3 :: RowL g n c X :: RowH ⟨ha, hn, hcq⟩ H :: RowH ⟨qa, qn, qc⟩ Q :: RowI a ci I0 :: R)) := Lib.hid (hm2.perm (by
        refine List.Perm.cons _ ?_
        exact (List.perm_middle (a := RowI a ci I0) (l₁ := [RowL g n c X, RowH ⟨ha, hn, hcq⟩ H, RowH ⟨qa, qn, qc⟩ Q]) (l₂ := R)).symm))
      obtain ⟨y1, g1⟩ := row_cell (Mem.rowAt [BlockA w.heap.size #[.int .i64 o] 3] (r := RowH ⟨ha, hn, hcq⟩ H :: RowH ⟨qa, qn, qc⟩ Q :: RowI a ci I0 :: R) M1.out) hcs.2.1
      have HD1 := Lib.hid (mem_delH [RowL g n c X] (r := RowH ⟨qa, qn, qc⟩ Q :: RowI a ci I0 :: R) M1.out (by omega))
      simp only [slv] at HD1
      clear hm2 hx hset hcs M1
      go_wp2_with fail
      refine HD1.out.mono ?_
      rintro e w2 ⟨⟨sa, sn, sc⟩, rfl, hm3⟩
      obtain ⟨y1', g1'⟩ := row_cell (Mem.rowAt [BlockA w.heap.size #[.int .i64 o] 3] (r := RowH ⟨sa, sn, sc⟩ (outH H o) :: RowH ⟨qa, qn, qc⟩ Q :: RowI a ci I0 :: R) hm3) HCS.out.2.1
      obtain ⟨y2', g2'⟩ := row_cell (Mem.rowAt [BlockA w.heap.size #[.int .i64 o] 3] (r := RowH ⟨sa, sn, sc⟩ (outH H o) :: RowH ⟨qa, qn, qc⟩ Q :: RowI a ci I0 :: R) hm3) HCS.out.2.2
      have hm4 := Mem.rowSet [BlockA w.heap.size #[.int .i64 o] 3] (r := RowH ⟨sa, sn, sc⟩ (outH H o) :: RowH ⟨qa, qn, qc⟩ Q :: RowI a ci I0 :: R) hm3 (i * 3 + 1) (slv ⟨sa, sn, sc⟩)
      rw [← HSET.out, lnFlat_set1 HXL.out] at hm4
      have M2 := Lib.hid (show Mem w D (w2.setCell ⟨g, i * 3 + 1, none⟩ (.slice sa sn sc)) (BlockA w.heap.size #[.int .i64 o] 3 :: RowL g n c (X.set i ⟨xk, ⟨sa, sn, sc⟩, ⟨qa, qn, qc⟩⟩) :: RowH ⟨sa, sn, sc⟩ (outH H o) :: RowH ⟨qa, qn, qc⟩ Q :: RowI a ci I0 :: R) from hm4)
      have HD2 := Lib.hid (mem_delH [RowL g n c (X.set i ⟨xk, ⟨sa, sn, sc⟩, ⟨qa, qn, qc⟩⟩), RowH ⟨sa, sn, sc⟩ (outH H o)] (r := RowI a ci I0 :: R) M2.out (by omega))
      simp only [slv] at HD2
      clear hm3 hm4 HD1 M2 y1 g1
      simp only
      go_wp2_with fail
      refine HD2.out.mono ?_
      rintro e w4 ⟨⟨ta, tn, tc⟩, rfl, hm5⟩
      have hcs2 := lnFlat_get (X.set i ⟨xk, ⟨sa, sn, sc⟩, ⟨qa, qn, qc⟩⟩) i (by rw [List.length_set]; exact HXL.out)
      rw [List.getElem_set_self] at hcs2
      obtain ⟨y3, g3⟩ := row_cell (Mem.rowAt [BlockA w.heap.size #[.int .i64 o] 3] (r := RowH ⟨sa, sn, sc⟩ (outH H o) :: RowH ⟨ta, tn, tc⟩ (outH Q o) :: RowI a ci I0 :: R) hm5) hcs2.2.2
      have hm6 := Mem.rowSet [BlockA w.heap.size #[.int .i64 o] 3] (r := RowH ⟨sa, sn, sc⟩ (outH H o) :: RowH ⟨ta, tn, tc⟩ (outH Q o) :: RowI a ci I0 :: R) hm5 (i * 3 + 2) (slv ⟨ta, tn, tc⟩)
      rw [lnFlat_set2 HXL.out] at hm6
      have M3 : Hid (Mem w D (w4.setCell ⟨g, i * 3 + 2, none⟩ (.slice ta tn tc)) ([RowL g n c (X.set i ⟨xk, ⟨sa, sn, sc⟩, ⟨ta, tn, tc⟩⟩), RowH ⟨sa, sn, sc⟩ (outH H o), RowH ⟨ta, tn, tc⟩ (outH Q o)] ++ (BlockA w.heap.size #[.int .i64 o] 3 :: RowI a ci I0 :: R))) := Lib.hid (Mem.perm hm6 (List.perm_middle (a := BlockA w.heap.size #[.int .i64 o] 3) (l₁ := [RowL g n c (X.set i ⟨xk, ⟨sa, sn, sc⟩, ⟨ta, tn, tc⟩⟩), RowH ⟨sa, sn, sc⟩ (outH H o), RowH ⟨ta, tn, tc⟩ (outH Q o)]) (l₂ := RowI a ci I0 :: R)).symm)
      have HLET := Lib.hid (mem_let (x := ⟨xk, ⟨sa, sn, sc⟩, ⟨ta, tn, tc⟩⟩) HXL.out M3.out HLW.out HLEN.out)
      clear hm5 hm6 hcs2 HD2 M3 y1' g1' y2' g2' HCS HSET HXL HLEN HLW
      simp only
      go_wp2_with fail
      refine HLET.out.mono ?_
      rintro e w5 ⟨aJ, cJ, x', rfl, hxk', hm7⟩
      have hm8 : Mem w D w5 (RowI a ci I0 :: RowI aJ cJ (letH (outH H o) (outH Q o)).1 :: ([RowL g n c (X.set i x'), RowH x'.hs (letH (outH H o) (outH Q o)).2.1, RowH x'.qs (letH (outH H o) (outH Q o)).2.2] ++ (BlockA w.heap.size #[.int .i64 o] 3 :: R))) := hm7.perm (by
        refine (List.Perm.cons _ ?_).trans (List.Perm.swap _ _ _)
        exact List.perm_middle (a := RowI a ci I0) (l₁ := [RowL g n c (X.set i x'), RowH x'.hs (letH (outH H o) (outH Q o)).2.1, RowH x'.qs (letH (outH H o) (outH Q o)).2.2] ++ [BlockA w.heap.size #[.int .i64 o] 3]) (l₂ := R))
      obtain ⟨a8, c8, w8, hrun, hm9⟩ := Mem.appRow hm8 (by have := HMI.out; have := HLE1.out; omega)
      have HRUN := Lib.hid hrun
      have HF := Lib.hid (HFIN.out w8 a8 c8 x' hxk' ((Mem.drop [RowI a8 c8 (I0 ++ (letH (outH H o) (outH Q o)).1)] (r := [RowL g n c (X.set i x'), RowH x'.hs (letH (outH H o) (outH Q o)).2.1, RowH x'.qs (letH (outH H o) (outH Q o)).2.2] ++ (BlockA w.heap.size #[.int .i64 o] 3 :: R)) hm9).perm (by
        refine (List.Perm.cons _ (List.perm_middle (a := BlockA w.heap.size #[.int .i64 o] 3) (l₁ := [RowL g n c (X.set i x'), RowH x'.hs (letH (outH H o) (outH Q o)).2.1, RowH x'.qs (letH (outH H o) (outH Q o)).2.2]) (l₂ := R))).trans ?_
        exact List.Perm.swap _ _ _)))
      clear hm7 hm8 hm9 hrun HLET HFIN y3 g3
      generalize (letH (outH H o) (outH Q o)).1.length = nJ at *
      go_wp2_with ((at_builtin; refine wpList_appendR _ rfl (.tmp 44) (.tmp 46) 102 102 rfl (.slice a I0.length ci) (.slice aJ nJ cJ) rfl rfl HRUN.out ?_))
      go_roundw
      case rel => exact ⟨i + 1, by omega, by go_num, HF⟩
      case measure => simp [intOf]; omega
    · obtain rfl : i = n := by omega
      have hnL := HNL.out
      have hIe : midI L o i = (leaveL L o).1 := by unfold midI leaveL; rw [hnL, List.take_length]
      have hMe : midL L o i = L.map fun l => (leaveLi l o).2 := by rw [hnL, midL_end]
      have hI4 := midI_len HSM.out o i
      rw [hIe] at hm hI4 ⊢
      rw [hMe] at hm
      have hI6 : (leaveL L o).1.length ≤ 1000000 := by omega
      obtain ⟨hcp, hcf⟩ := Mem.cellAt (i := 0) (v := .slice la i c) [BlockA w.heap.size #[.int .i64 o] 3, RowI a ci (leaveL L o).1] (r := RowA 66 3 la i c (lnFlat X) :: rowsOf X (L.map fun l => (leaveLi l o).2)) hm rfl
      have hXn := lnrow_len (Mem.rowAt [BlockA w.heap.size #[.int .i64 o] 3, RowI a ci (leaveL L o).1, BlockA p #[.slice la i c] 144] (r := rowsOf X (L.map fun l => (leaveLi l o).2)) hm)
      have HDL := Lib.hid (mem_delL [BlockA w.heap.size #[.int .i64 o] 3, RowI a ci (leaveL L o).1, BlockA p #[.slice la i c] 144] (r := rowsOf X (L.map fun l => (leaveLi l o).2)) hm (by omega))
      have HFIN : Hid (∀ W a' c', Mem w D W (BlockA w.heap.size #[.int .i64 o] 3 :: RowI a' c' (riseI (leaveL L o).1) :: BlockA p #[.slice la (X.filter fun x => !pL x).length c] 144 :: RowA 66 3 la (X.filter fun x => !pL x).length c (lnFlat (X.filter fun x => !pL x)) :: rowsOf X (L.map fun l => (leaveLi l o).2)) → Mem w D W [RowI a' c' (riseI (leaveL L o).1), TabA p (leaveL L o).2]) := Lib.hid fun W a' c' hW => by
        obtain ⟨h1, h2⟩ := rowsOf_filter X (L.map fun l => (leaveLi l o).2) [BlockA w.heap.size #[.int .i64 o] 3, RowI a' c' (riseI (leaveL L o).1), BlockA p #[.slice la (X.filter fun x => !pL x).length c] 144, RowA 66 3 la (X.filter fun x => !pL x).length c (lnFlat (X.filter fun x => !pL x))] (by rw [hk, List.map_map]; rfl) (fun l hl => by
          obtain ⟨l0, hl0, rfl⟩ := List.mem_map.1 hl
          have := HSM.out.2 l0 hl0
          have := leaveLi_sum l0 o
          omega) hW
        have h3 := Mem.drop [] (r := RowI a' c' (riseI (leaveL L o).1) :: BlockA p #[.slice la (X.filter fun x => !pL x).length c] 144 :: RowA 66 3 la (X.filter fun x => !pL x).length c (lnFlat (X.filter fun x => !pL x)) :: rowsOf (X.filter fun x => !pL x) ((L.map fun l => (leaveLi l o).2).filter fun l => !emptyLi l)) h1
        have h4 := h3.perm (l' := BlockA p #[.slice la (X.filter fun x => !pL x).length c] 144 :: RowA 66 3 la (X.filter fun x => !pL x).length c (lnFlat (X.filter fun x => !pL x)) :: (rowsOf (X.filter fun x => !pL x) ((L.map fun l => (leaveLi l o).2).filter fun l => !emptyLi l) ++ [RowI a' c' (riseI (leaveL L o).1)])) (by
          refine (List.Perm.swap _ _ _).trans (List.Perm.cons _ ((List.Perm.swap _ _ _).trans (List.Perm.cons _ ?_)))
          exact (List.perm_append_singleton _ _).symm)
        exact (Mem.shut (L := (leaveL L o).2) h2 h4).perm (List.Perm.swap _ _ _)
      clear hIe hMe hI4 hm HOK HSM hnL hk hXn HNL
      go_wp2_with fail
      refine HDL.out.mono ?_
      rintro e w2 ⟨rfl, hm2⟩
      obtain ⟨y0, y1⟩ := Mem.cellAt (i := 0) (v := .slice la i c) [BlockA w.heap.size #[.int .i64 o] 3, RowI a ci (leaveL L o).1] (r := RowA 66 3 la (X.filter fun x => !pL x).length c (lnFlat (X.filter fun x => !pL x)) :: rowsOf X (L.map fun l => (leaveLi l o).2)) hm2 rfl
      have M3 := Lib.hid (show Mem w D (w2.setCell ⟨p, 0, none⟩ (.slice la (X.filter fun x => !pL x).length c)) (BlockA w.heap.size #[.int .i64 o] 3 :: RowI a ci (leaveL L o).1 :: BlockA p #[.slice la (X.filter fun x => !pL x).length c] 144 :: RowA 66 3 la (X.filter fun x => !pL x).length c (lnFlat (X.filter fun x => !pL x)) :: rowsOf X (L.map fun l => (leaveLi l o).2)) from Mem.setAt [BlockA w.heap.size #[.int .i64 o] 3, RowI a ci (leaveL L o).1] (r := RowA 66 3 la (X.filter fun x => !pL x).length c (lnFlat (X.filter fun x => !pL x)) :: rowsOf X (L.map fun l => (leaveLi l o).2)) (i := 0) hm2 (.slice la (X.filter fun x => !pL x).length c))
      have HSO := Lib.hid (mem_sort [BlockA w.heap.size #[.int .i64 o] 3] (r := BlockA p #[.slice la (X.filter fun x => !pL x).length c] 144 :: RowA 66 3 la (X.filter fun x => !pL x).length c (lnFlat (X.filter fun x => !pL x)) :: rowsOf X (L.map fun l => (leaveLi l o).2)) M3.out hI6)
      clear hm2 HDL M3 hcp hcf
      generalize (X.filter fun x => !pL x).length = n2 at *
      go_wp2_with fail
      refine HSO.out.mono ?_
      rintro e w3 ⟨rfl, hm3⟩
      have HCO := Lib.hid (mem_compact [BlockA w.heap.size #[.int .i64 o] 3] (r := BlockA p #[.slice la n2 c] 144 :: RowA 66 3 la n2 c (lnFlat (X.filter fun x => !pL x)) :: rowsOf X (L.map fun l => (leaveLi l o).2)) hm3 (by rw [sortI_len]; exact hI6))
      rw [sortI_len] at HCO
      clear hm3 HSO
      go_wp2_with fail
      refine HCO.out.mono ?_
      rintro e w4 ⟨rfl, hm4⟩
      have HF := Lib.hid (HFIN.out w4 a ci hm4)
      clear hm4 HCO HFIN
      go_wp2_with fail
      go_ret
      exact ⟨a, ci, rfl, HF.out⟩
end Go.Proofs.YtmifgnibalbgjaaGreat
