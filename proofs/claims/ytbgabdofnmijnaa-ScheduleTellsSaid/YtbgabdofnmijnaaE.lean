/- IndexFunc of marks; the place of a commit; odd marks. -/
import Derived.Test.YtbgabdofnmijnaaD
namespace Go.Proofs.Ytbgabdofnmijnaa
open Go.RowKit
/-- The place of the first one that meets a test. -/
def idxL {α : Type} (p : α → Bool) (l : List α) : Int := match l.findIdx? p with | some i => i | none => -1
theorem idxL_some {α : Type} (p : α → Bool) (l : List α) (k : Nat) (hk : k < l.length) (h : ∀ j (h : j < l.length), j < k → p l[j] = false) (hp : p l[k] = true) : idxL p l = (k : Int) := by
  have : l.findIdx? p = some k := by
    rw [List.findIdx?_eq_some_iff_getElem]
    exact ⟨hk, hp, fun j hj => by simp [h j (by omega) hj]⟩
  unfold idxL; rw [this]
theorem idxL_none {α : Type} (p : α → Bool) (l : List α) (h : ∀ j (h : j < l.length), p l[j] = false) : idxL p l = -1 := by
  have : l.findIdx? p = none := by
    rw [List.findIdx?_eq_none_iff]
    intro x hx
    obtain ⟨j, hj, rfl⟩ := List.getElem_of_mem hx
    exact h j hj
  unfold idxL; rw [this]
theorem idxL_any {α : Type} (p : α → Bool) (l : List α) : (decide (0 ≤ idxL p l)) = l.any p := by
  unfold idxL
  cases h : l.findIdx? p with
  | none =>
    have : l.any p = false := by rw [List.any_eq_false]; intro x hx; simpa using List.findIdx?_eq_none_iff.1 h x hx
    rw [this]; rfl
  | some i =>
    obtain ⟨h1, h2, _⟩ := List.findIdx?_eq_some_iff_getElem.1 h
    have : l.any p = true := List.any_eq_true.2 ⟨_, List.getElem_mem h1, h2⟩
    rw [this]; simp
theorem idxL_le {α : Type} (p : α → Bool) (l : List α) : -1 ≤ idxL p l ∧ idxL p l ≤ l.length := by
  unfold idxL
  cases h : l.findIdx? p with
  | none => simp
  | some i =>
    obtain ⟨h1, _⟩ := List.findIdx?_eq_some_iff_getElem.1 h
    simp; omega

set_option maxRecDepth 100000 in
set_option maxHeartbeats 1000000 in
theorem odd_idx (p : Mk → Bool) (C : World → Prop) (hCk : ∀ W W', C W → Below W.heap.size W W' → C W')
    (hcl : ∀ (x : Mk) W, C W → MkB x → Calls Try.prog 44 #[mkV x] W fun e W' => e = .returned (.bool (p x)) ∧ Below W.heap.size W W')
    (a : Option Addr) (n c : Nat) (l : List Mk) (w : World) (hC : C w) (hr : MksAt w a n l) (hn : n ≤ 1000000) :
    Calls Try.prog 64 #[.slice a n c, .func (.func 44) #[] #[]] w fun e w' => e = .returned (.int .i64 (idxL p l)) ∧ Below w.heap.size w w' := by
  have hl : n = l.length := hr.1
  subst hl
  have HR := Lib.hid hr
  have HCk := Lib.hid hCk
  have HCl := Lib.hid hcl
  have HC := Lib.hid hC
  clear hr hCk hcl hC
  go_enter Try.func64, Try.ntmps64
  go_wp2_with fail
  go_loopw [5, 8] (fun _ i wr => ∃ k : Nat, k ≤ l.length ∧ Hid (∀ j (h : j < l.length), j < k → p l[j] = false) ∧ i = .int .i64 k ∧ Hid (Below w.heap.size w wr)) (fun _ i _ => l.length - (intOf i).toNat)
  case atStart => exact ⟨0, Nat.zero_le _, Lib.hid (fun j _ hj => absurd hj (by omega)), rfl, Lib.hid (Below.refl _ _)⟩
  case round =>
    obtain ⟨k, hk, hall, rfl, HB⟩ := hrel
    by_cases hlt : k < l.length
    · obtain ⟨g, off, rfl, hcA, hcB, hcD⟩ := (HR.out.below HB.out).at k hlt
      have HCc := HCl.out l[k] wr (HCk.out _ _ HC.out HB.out) (HR.out.bd _ (List.getElem_mem hlt))
      cases hp : p l[k] with
      | true =>
        rw [hp] at HCc
        have HCC := Lib.hid HCc
        have hfin : Hid (idxL p l = (k : Int)) := Lib.hid (idxL_some p l k hlt (fun j h hj => hall.out j h hj) hp)
        generalize l[k] = x at *
        obtain ⟨zk, zt, zy⟩ := x
        simp only at hcA hcB hcD
        clear HCc hp hall
        go_wp2_with fail
        refine HCC.out.mono ?_
        rintro e w2 ⟨rfl, hb2⟩
        have HB2 := Lib.hid (HB.out.trans (hb2.mono HB.out.size))
        clear hb2
        go_wp2_with fail
        go_ret
        exact ⟨by rw [hfin.out]; rfl, HB2.out⟩
      | false =>
        rw [hp] at HCc
        have HCC := Lib.hid HCc
        have hall2 : Hid (∀ j (h : j < l.length), j < k + 1 → p l[j] = false) := Lib.hid fun j h hj => by
          by_cases e : j = k
          · subst e; exact hp
          · exact hall.out j h (by omega)
        generalize l[k] = x at *
        obtain ⟨zk, zt, zy⟩ := x
        simp only at hcA hcB hcD
        clear HCc hp hall
        go_wp2_with fail
        refine HCC.out.mono ?_
        rintro e w2 ⟨rfl, hb2⟩
        have HB2 := Lib.hid (HB.out.trans (hb2.mono HB.out.size))
        clear hb2
        go_wp2_with fail
        go_roundw
        case rel => exact ⟨k + 1, by omega, hall2, by go_num, HB2⟩
        case measure => simp [intOf]; omega
    · have hfin : Hid (idxL p l = -1) := Lib.hid (idxL_none p l fun j h => hall.out j h (by omega))
      clear hall
      go_wp2_with fail
      go_ret
      exact ⟨by rw [hfin.out]; rfl, HB.out⟩

set_option maxRecDepth 100000 in
set_option maxHeartbeats 1000000 in
theorem pl_idx (bi : Nat) (p : Mk → Bool) (C : World → Prop) (hCk : ∀ W W', C W → Below W.heap.size W W' → C W')
    (hcl : ∀ (x : Mk) W, C W → MkB x → Calls Try.prog 65 #[mkV x, .pointer (some ⟨bi, 0, none⟩)] W fun e W' => e = .returned (.bool (p x)) ∧ Below W.heap.size W W')
    (a : Option Addr) (n c : Nat) (l : List Mk) (w : World) (hC : C w) (hr : MksAt w a n l) (hn : n ≤ 1000000) :
    Calls Try.prog 64 #[.slice a n c, .func (.func 65) #[] #[.pointer (some ⟨bi, 0, none⟩)]] w fun e w' => e = .returned (.int .i64 (idxL p l)) ∧ Below w.heap.size w w' := by
  have hl : n = l.length := hr.1
  subst hl
  have HR := Lib.hid hr
  have HCk := Lib.hid hCk
  have HCl := Lib.hid hcl
  have HC := Lib.hid hC
  clear hr hCk hcl hC
  go_enter Try.func64, Try.ntmps64
  go_wp2_with fail
  go_loopw [5, 8] (fun _ i wr => ∃ k : Nat, k ≤ l.length ∧ Hid (∀ j (h : j < l.length), j < k → p l[j] = false) ∧ i = .int .i64 k ∧ Hid (Below w.heap.size w wr)) (fun _ i _ => l.length - (intOf i).toNat)
  case atStart => exact ⟨0, Nat.zero_le _, Lib.hid (fun j _ hj => absurd hj (by omega)), rfl, Lib.hid (Below.refl _ _)⟩
  case round =>
    obtain ⟨k, hk, hall, rfl, HB⟩ := hrel
    by_cases hlt : k < l.length
    · obtain ⟨g, off, rfl, hcA, hcB, hcD⟩ := (HR.out.below HB.out).at k hlt
      have HCc := HCl.out l[k] wr (HCk.out _ _ HC.out HB.out) (HR.out.bd _ (List.getElem_mem hlt))
      cases hp : p l[k] with
      | true =>
        rw [hp] at HCc
        have HCC := Lib.hid HCc
        have hfin : Hid (idxL p l = (k : Int)) := Lib.hid (idxL_some p l k hlt (fun j h hj => hall.out j h hj) hp)
        generalize l[k] = x at *
        obtain ⟨zk, zt, zy⟩ := x
        simp only at hcA hcB hcD
        clear HCc hp hall
        go_wp2_with fail
        refine HCC.out.mono ?_
        rintro e w2 ⟨rfl, hb2⟩
        have HB2 := Lib.hid (HB.out.trans (hb2.mono HB.out.size))
        clear hb2
        go_wp2_with fail
        go_ret
        exact ⟨by rw [hfin.out]; rfl, HB2.out⟩
      | false =>
        rw [hp] at HCc
        have HCC := Lib.hid HCc
        have hall2 : Hid (∀ j (h : j < l.length), j < k + 1 → p l[j] = false) := Lib.hid fun j h hj => by
          by_cases e : j = k
          · subst e; exact hp
          · exact hall.out j h (by omega)
        generalize l[k] = x at *
        obtain ⟨zk, zt, zy⟩ := x
        simp only at hcA hcB hcD
        clear HCc hp hall
        go_wp2_with fail
        refine HCC.out.mono ?_
        rintro e w2 ⟨rfl, hb2⟩
        have HB2 := Lib.hid (HB.out.trans (hb2.mono HB.out.size))
        clear hb2
        go_wp2_with fail
        go_roundw
        case rel => exact ⟨k + 1, by omega, hall2, by go_num, HB2⟩
        case measure => simp [intOf]; omega
    · have hfin : Hid (idxL p l = -1) := Lib.hid (idxL_none p l fun j h => hall.out j h (by omega))
      clear hall
      go_wp2_with fail
      go_ret
      exact ⟨by rw [hfin.out]; rfl, HB.out⟩

set_option maxRecDepth 100000 in
set_option maxHeartbeats 1000000 in
theorem odds_any (a : Option Addr) (n c : Nat) (l : List Mk) (w : World) (hr : MksAt w a n l) (hn : n ≤ 1000000) :
    Calls Try.prog 43 #[.slice a n c, .func (.func 44) #[] #[]] w fun e w' => e = .returned (.bool (l.any oddB)) ∧ Below w.heap.size w w' := by
  have H := Lib.hid (odd_idx oddB (fun _ => True) (fun _ _ _ _ => trivial) (fun x W _ hx => odd_any x W hx) a n c l w trivial hr hn)
  have HQ := Lib.hid (idxL_any oddB l)
  obtain ⟨h1, h2⟩ := idxL_le oddB l
  rw [← hr.1] at h2
  clear hr
  generalize idxL oddB l = i at *
  generalize l.any oddB = b at *
  go_enter Try.func43, Try.ntmps43
  go_wp2_with fail
  refine H.out.mono ?_
  rintro e w1 ⟨rfl, hb⟩
  have HB := Lib.hid hb
  clear hb
  go_wp2_with fail
  go_ret
  exact ⟨by rw [← HQ.out]; rfl, HB.out⟩
def comB (tx : Int) (m : Mk) : Bool := m.kind == 3 && m.tx == tx
theorem com_any (bi : Nat) (tx : Int) (x : Mk) (w : World) (h : w.cell? ⟨bi, 0, none⟩ = some (.int .i64 tx)) : Calls Try.prog 65 #[mkV x, .pointer (some ⟨bi, 0, none⟩)] w fun e w' => e = .returned (.bool (comB tx x)) ∧ Below w.heap.size w w' := by
  obtain ⟨xk, xt, xy⟩ := x
  unfold comB mkV
  simp only
  have hq := (Below.cell (bel_new w (.cells #[.int .i64 xk, .int .i64 xt, .string xy] 36)) (World.block_lt_of_cell? w _ h)).trans h
  by_cases h1 : xk = 3
  · subst h1
    go_enter Try.func65, Try.ntmps65
    go_wp2_with fail
    go_ret
    exact ⟨by simp, bel_new _ _⟩
  · have hb1 : (xk == 3) = false := by simpa using h1
    go_enter Try.func65, Try.ntmps65
    go_wp2_with fail
    go_ret
    exact ⟨by simp [hb1], bel_new _ _⟩
/-- the place of a commit. -/
def placeM (l : List Mk) (tx : Int) : Int := if idxL (comB tx) l < 0 then (l.length : Int) else idxL (comB tx) l
set_option maxRecDepth 100000 in
set_option maxHeartbeats 1000000 in
theorem place_any (a : Option Addr) (n c : Nat) (l : List Mk) (tx : Int) (w : World) (hr : MksAt w a n l) (hn : n ≤ 1000000) :
    Calls Try.prog 48 #[.slice a n c, .int .i64 tx] w fun e w' => e = .returned (.int .i64 (placeM l tx)) ∧ Below w.heap.size w w' := by
  have hb0 := bel_new w (.cells #[.int .i64 tx] 3)
  have H := Lib.hid (pl_idx w.heap.size (comB tx) (fun W => W.cell? ⟨w.heap.size, 0, none⟩ = some (.int .i64 tx)) (fun W W' h b => (b.cell (World.block_lt_of_cell? W _ h)).trans h) (fun x W h _ => com_any w.heap.size tx x W h) a n c l (w.alloc (.cells #[.int .i64 tx] 3)) ((cell_of_heap (heap_new w _) rfl).1) (hr.below hb0) hn)
  obtain ⟨h1, h2⟩ := idxL_le (comB tx) l
  rw [← hr.1] at h2
  have HQ : Hid (placeM l tx = if idxL (comB tx) l < 0 then (n : Int) else idxL (comB tx) l) := Lib.hid (by rw [hr.1]; rfl)
  clear hr
  generalize placeM l tx = q at *
  generalize idxL (comB tx) l = i at *
  by_cases h0 : i < 0
  · have HQ2 := HQ.out
    rw [if_pos h0] at HQ2
    subst HQ2
    clear HQ
    go_enter Try.func48, Try.ntmps48
    go_wp2_with fail
    refine H.out.mono ?_
    rintro e w1 ⟨rfl, hb⟩
    have HB := Lib.hid (hb0.trans (hb.mono hb0.size))
    clear hb hb0
    go_wp2_with fail
    go_ret
    exact ⟨rfl, HB.out⟩
  · have HQ2 := HQ.out
    rw [if_neg h0] at HQ2
    subst HQ2
    clear HQ
    go_enter Try.func48, Try.ntmps48
    go_wp2_with fail
    refine H.out.mono ?_
    rintro e w1 ⟨rfl, hb⟩
    have HB := Lib.hid (hb0.trans (hb.mono hb0.size))
    clear hb hb0
    go_wp2_with fail
    go_ret
    exact ⟨rfl, HB.out⟩
end Go.Proofs.Ytbgabdofnmijnaa
