/- Holds and lines as rows of cells. -/
import Derived.Test.YtmifgnibalbgjaaGreatZOwn
import Derived.Test.YtmifgnibalbgjaaGreatZK2
import Derived.Laws.Externs
import Derived.Deep.RegionLaw
import Derived.StillTailTactics
import Derived.Deep.QuietTactic
import Derived.BigQuiet
import Derived.Deep.RegionHeld3
import Derived.Deep.RegionWith
import Derived.BigRegion
import Derived.Lib.SlicesS
import Derived.Sort.Walk0
namespace Go.Proofs.YtmifgnibalbgjaaGreat
open Go.RowKit
/-- A slice's header. -/
structure Sl where
  a : Option Addr
  n : Nat
  c : Nat
structure Hd where
  owner : Int
  mode : Int
def hdCells (t : Hd) : List Value := [.int .i64 t.owner, .int .i64 t.mode]
def hdFlat : List Hd → List Value
  | [] => []
  | t :: r => .int .i64 t.owner :: .int .i64 t.mode :: hdFlat r
theorem hdFlat_len : ∀ l : List Hd, (hdFlat l).length = l.length * 2
  | [] => rfl
  | t :: r => by simp only [hdFlat, List.length_cons, hdFlat_len r]; omega
theorem hdFlat_append : ∀ l r : List Hd, hdFlat (l ++ r) = hdFlat l ++ hdFlat r
  | [], r => rfl
  | t :: l, r => by simp [hdFlat, hdFlat_append l r]
theorem hdFlat_cons (t : Hd) (r : List Hd) : hdFlat (t :: r) = hdCells t ++ hdFlat r := rfl
theorem hdFlat_take : ∀ (l : List Hd) (k : Nat), (hdFlat l).take (k * 2) = hdFlat (l.take k)
  | [], k => by simp [hdFlat]
  | t :: r, 0 => by simp [hdFlat]
  | t :: r, k + 1 => by
    rw [show (k + 1) * 2 = k * 2 + 1 + 1 by omega]
    simp [hdFlat, hdFlat_take r k]
theorem hdFlat_drop : ∀ (l : List Hd) (k : Nat), (hdFlat l).drop (k * 2) = hdFlat (l.drop k)
  | [], k => by simp [hdFlat]
  | t :: r, 0 => by simp [hdFlat]
  | t :: r, k + 1 => by
    rw [show (k + 1) * 2 = k * 2 + 1 + 1 by omega]
    simp [hdFlat, hdFlat_drop r k]
theorem hdFlat_get : ∀ (l : List Hd) (k : Nat) (h : k < l.length), (hdFlat l)[k * 2]? = some (.int .i64 l[k].owner) ∧ (hdFlat l)[k * 2 + 1]? = some (.int .i64 l[k].mode)
  | [], k, h => absurd h (by simp)
  | t :: r, 0, _ => by simp [hdFlat]
  | t :: r, k + 1, h => by
    have := hdFlat_get r k (by simpa using h)
    rw [show (k + 1) * 2 = k * 2 + 2 by omega]
    simpa [hdFlat] using this
theorem hdFlat_one : ∀ (l : List Hd), ∀ u ∈ hdFlat l, u.oneCell' = true
  | [], _, h => by cases h
  | t :: r, u, h => by
    simp only [hdFlat, List.mem_cons] at h
    rcases h with rfl | rfl | h
    · rfl
    · rfl
    · exact hdFlat_one r u h
theorem hdCells_one (t : Hd) : ∀ u ∈ hdCells t, u.oneCell' = true := fun u h => hdFlat_one [t] u (by simpa [hdFlat, hdCells] using h)
def hdAt (w : World) (g o : Nat) (t : Hd) : Prop := w.cell? ⟨g, o, none⟩ = some (.int .i64 t.owner) ∧ w.cell? ⟨g, o + 1, none⟩ = some (.int .i64 t.mode)
theorem hdAt_row {w : World} {E : Nat} {a : Option Addr} {n c : Nat} {l : List Hd} (h : Row w E 2 a n c (hdFlat l)) (k : Nat) (hk : k < l.length) : ∃ g, a = some ⟨g, 0, none⟩ ∧ hdAt w g (k * 2) l[k] := by
  obtain ⟨h0, h1⟩ := hdFlat_get l k hk
  have hl := hdFlat_len l
  obtain ⟨g0, e0, c0⟩ := h.cellAt (k * 2) (by omega)
  obtain ⟨g1, e1, c1⟩ := h.cellAt (k * 2 + 1) (by omega)
  subst e0
  simp only [Option.some.injEq, Addr.mk.injEq, and_true] at e1
  subst e1
  rw [List.getElem?_eq_getElem (by omega)] at h0 h1
  exact ⟨g0, rfl, by rw [c0, h0], by rw [c1, h1]⟩
theorem hdAt.cells {w w' : World} {g o : Nat} {t : Hd} (h : hdAt w g o t) (hk : ∀ {p : Addr} {v : Value}, w.cell? p = some v → w'.cell? p = some v) : hdAt w' g o t :=
  ⟨hk h.1, hk h.2⟩
theorem hdAt.below {w w' : World} {B g o : Nat} {t : Hd} (h : hdAt w g o t) (b : Below B w w') (hB : w.heap.size ≤ B := by exact Nat.le_refl _) : hdAt w' g o t :=
  h.cells fun {p _v} hp => (World.cell?_of_block (w := w) (b.block p.block (Nat.lt_of_lt_of_le (World.block_lt_of_cell? w p hp) hB))).trans hp
theorem hdAt_new (w : World) (t : Hd) (T : TypeId) : hdAt (w.alloc (.cells #[.int .i64 t.owner, .int .i64 t.mode] T)) w.heap.size 0 t := by
  refine ⟨?_, ?_⟩ <;> simp [go_sem]
theorem hdAt_block {w : World} {g : Nat} {t : Hd} {T : TypeId} (h : w.heap[g]? = some (.cells #[.int .i64 t.owner, .int .i64 t.mode] T (0, 0))) : hdAt w g 0 t := by
  refine ⟨?_, ?_⟩ <;> (simp only [World.cell?, h]; rfl)
theorem hdAt_at {w : World} {g E n j : Nat} {cur : Array Value} {l : List Hd} (hg : w.heap[g]? = some (.cells cur E (0, 0))) (h : (cur.toList.take (n * 2)).drop (j * 2) = hdFlat (l.drop j)) (hj : j < l.length) : hdAt w g (j * 2) l[j] := by
  have key : ∀ r u, (hdFlat (l.drop j))[r]? = some u → w.cell? ⟨g, j * 2 + r, none⟩ = some u := fun r u hu => by
    rw [← h, List.getElem?_drop, List.getElem?_take] at hu
    split at hu
    · unfold World.cell?; rw [show (⟨g, j * 2 + r, none⟩ : Addr).block = g from rfl, hg]; simpa using hu
    · cases hu
  rw [List.drop_eq_getElem_cons hj] at key
  exact ⟨key 0 _ rfl, key 1 _ rfl⟩
structure Ln where
  key : ByteArray
  hs : Sl
  qs : Sl
def lnCells (t : Ln) : List Value := [.string t.key, .slice t.hs.a t.hs.n t.hs.c, .slice t.qs.a t.qs.n t.qs.c]
def lnFlat : List Ln → List Value
  | [] => []
  | t :: r => .string t.key :: .slice t.hs.a t.hs.n t.hs.c :: .slice t.qs.a t.qs.n t.qs.c :: lnFlat r
theorem lnFlat_len : ∀ l : List Ln, (lnFlat l).length = l.length * 3
  | [] => rfl
  | t :: r => by simp only [lnFlat, List.length_cons, lnFlat_len r]; omega
theorem lnFlat_append : ∀ l r : List Ln, lnFlat (l ++ r) = lnFlat l ++ lnFlat r
  | [], r => rfl
  | t :: l, r => by simp [lnFlat, lnFlat_append l r]
theorem lnFlat_cons (t : Ln) (r : List Ln) : lnFlat (t :: r) = lnCells t ++ lnFlat r := rfl
theorem lnFlat_take : ∀ (l : List Ln) (k : Nat), (lnFlat l).take (k * 3) = lnFlat (l.take k)
  | [], k => by simp [lnFlat]
  | t :: r, 0 => by simp [lnFlat]
  | t :: r, k + 1 => by
    rw [show (k + 1) * 3 = k * 3 + 1 + 1 + 1 by omega]
    simp [lnFlat, lnFlat_take r k]
theorem lnFlat_drop : ∀ (l : List Ln) (k : Nat), (lnFlat l).drop (k * 3) = lnFlat (l.drop k)
  | [], k => by simp [lnFlat]
  | t :: r, 0 => by simp [lnFlat]
  | t :: r, k + 1 => by
    rw [show (k + 1) * 3 = k * 3 + 1 + 1 + 1 by omega]
    simp [lnFlat, lnFlat_drop r k]
theorem lnFlat_get : ∀ (l : List Ln) (k : Nat) (h : k < l.length), (lnFlat l)[k * 3]? = some (.string l[k].key) ∧ (lnFlat l)[k * 3 + 1]? = some (.slice l[k].hs.a l[k].hs.n l[k].hs.c) ∧ (lnFlat l)[k * 3 + 2]? = some (.slice l[k].qs.a l[k].qs.n l[k].qs.c)
  | [], k, h => absurd h (by simp)
  | t :: r, 0, _ => by simp [lnFlat]
  | t :: r, k + 1, h => by
    have := lnFlat_get r k (by simpa using h)
    rw [show (k + 1) * 3 = k * 3 + 3 by omega]
    simpa [lnFlat] using this
theorem lnFlat_one : ∀ (l : List Ln), ∀ u ∈ lnFlat l, u.oneCell' = true
  | [], _, h => by cases h
  | t :: r, u, h => by
    simp only [lnFlat, List.mem_cons] at h
    rcases h with rfl | rfl | rfl | h
    · rfl
    · rfl
    · rfl
    · exact lnFlat_one r u h
theorem lnCells_one (t : Ln) : ∀ u ∈ lnCells t, u.oneCell' = true := fun u h => lnFlat_one [t] u (by simpa [lnFlat, lnCells] using h)
def lnAt (w : World) (g o : Nat) (t : Ln) : Prop := w.cell? ⟨g, o, none⟩ = some (.string t.key) ∧ w.cell? ⟨g, o + 1, none⟩ = some (.slice t.hs.a t.hs.n t.hs.c) ∧ w.cell? ⟨g, o + 2, none⟩ = some (.slice t.qs.a t.qs.n t.qs.c)
theorem lnAt_row {w : World} {E : Nat} {a : Option Addr} {n c : Nat} {l : List Ln} (h : Row w E 3 a n c (lnFlat l)) (k : Nat) (hk : k < l.length) : ∃ g, a = some ⟨g, 0, none⟩ ∧ lnAt w g (k * 3) l[k] := by
  obtain ⟨h0, h1, h2⟩ := lnFlat_get l k hk
  have hl := lnFlat_len l
  obtain ⟨g0, e0, c0⟩ := h.cellAt (k * 3) (by omega)
  obtain ⟨g1, e1, c1⟩ := h.cellAt (k * 3 + 1) (by omega)
  obtain ⟨g2, e2, c2⟩ := h.cellAt (k * 3 + 2) (by omega)
  subst e0
  simp only [Option.some.injEq, Addr.mk.injEq, and_true] at e1 e2
  subst e1 e2
  rw [List.getElem?_eq_getElem (by omega)] at h0 h1 h2
  exact ⟨g0, rfl, by rw [c0, h0], by rw [c1, h1], by rw [c2, h2]⟩
theorem lnAt.cells {w w' : World} {g o : Nat} {t : Ln} (h : lnAt w g o t) (hk : ∀ {p : Addr} {v : Value}, w.cell? p = some v → w'.cell? p = some v) : lnAt w' g o t :=
  ⟨hk h.1, hk h.2.1, hk h.2.2⟩
theorem lnAt.below {w w' : World} {B g o : Nat} {t : Ln} (h : lnAt w g o t) (b : Below B w w') (hB : w.heap.size ≤ B := by exact Nat.le_refl _) : lnAt w' g o t :=
  h.cells fun {p _v} hp => (World.cell?_of_block (w := w) (b.block p.block (Nat.lt_of_lt_of_le (World.block_lt_of_cell? w p hp) hB))).trans hp
theorem lnAt_new (w : World) (t : Ln) (T : TypeId) : lnAt (w.alloc (.cells #[.string t.key, .slice t.hs.a t.hs.n t.hs.c, .slice t.qs.a t.qs.n t.qs.c] T)) w.heap.size 0 t := by
  refine ⟨?_, ?_, ?_⟩ <;> simp [go_sem]
theorem lnAt_block {w : World} {g : Nat} {t : Ln} {T : TypeId} (h : w.heap[g]? = some (.cells #[.string t.key, .slice t.hs.a t.hs.n t.hs.c, .slice t.qs.a t.qs.n t.qs.c] T (0, 0))) : lnAt w g 0 t := by
  refine ⟨?_, ?_, ?_⟩ <;> (simp only [World.cell?, h]; rfl)
theorem lnAt_at {w : World} {g E n j : Nat} {cur : Array Value} {l : List Ln} (hg : w.heap[g]? = some (.cells cur E (0, 0))) (h : (cur.toList.take (n * 3)).drop (j * 3) = lnFlat (l.drop j)) (hj : j < l.length) : lnAt w g (j * 3) l[j] := by
  have key : ∀ r u, (lnFlat (l.drop j))[r]? = some u → w.cell? ⟨g, j * 3 + r, none⟩ = some u := fun r u hu => by
    rw [← h, List.getElem?_drop, List.getElem?_take] at hu
    split at hu
    · unfold World.cell?; rw [show (⟨g, j * 3 + r, none⟩ : Addr).block = g from rfl, hg]; simpa using hu
    · cases hu
  rw [List.drop_eq_getElem_cons hj] at key
  exact ⟨key 0 _ rfl, key 1 _ rfl, key 2 _ rfl⟩
end Go.Proofs.YtmifgnibalbgjaaGreat
/- The search for a hold, and for a line. -/
namespace Go.Proofs.YtmifgnibalbgjaaGreat
open Go.RowKit
set_option maxRecDepth 100000 in
set_option maxHeartbeats 2000000 in
theorem put_bsf (cmpf : Hd → Int → Int) (hcmp : ∀ (x : Hd) (t : Int) W, Calls Tryz.prog 187 #[.agg #[.int .i64 x.owner, .int .i64 x.mode], .int .i64 t] W fun e W' => e = .returned (.int .i64 (cmpf x t)) ∧ Below W.heap.size W W')
    (a : Option Addr) (n c : Nat) (l : List Hd) (t : Int) (k : Nat) (w : World) (hr : Row w 32 2 a n c (hdFlat l)) (hn : n ≤ 1099511627776) (hk : k ≤ l.length)
    (hlo : ∀ j (h : j < l.length), j < k → cmpf l[j] t < 0) (hhi : ∀ j (h : j < l.length), k ≤ j → 0 ≤ cmpf l[j] t) :
    Calls Tryz.prog 186 #[.slice a n c, .int .i64 t, .func (.func 187) #[] #[]] w fun e w' => e = .returned (.tuple #[.int .i64 k, .bool (foundAt cmpf l t k)]) ∧ Below w.heap.size w w' := by
  have hl : n = l.length := by have := hr.len; rw [hdFlat_len] at this; omega
  subst hl
  have HR := Lib.hid hr
  have HC := Lib.hid fun x => hcmp x t
  have HLo := Lib.hid hlo
  have HHi := Lib.hid hhi
  clear hr hcmp hlo hhi
  have hfo : Hid (foundAt cmpf l t k = decide (k < l.length ∧ ∃ h : k < l.length, cmpf l[k] t = 0)) := Lib.hid rfl
  have hfn : Hid (¬ k < l.length → foundAt cmpf l t k = false) := Lib.hid fun h => foundAt_none cmpf l t k h
  have hfs : Hid (∀ h : k < l.length, foundAt cmpf l t k = (cmpf l[k] t == 0)) := Lib.hid fun h => foundAt_some cmpf l t k h
  generalize hfd : foundAt cmpf l t k = fd at *
  clear hfd hfo
  go_enter Tryz.func186, Tryz.ntmps186
  go_wp2_with fail
  go_loopw [9, 10, 11] (fun i j _ wr => ∃ x y : Nat, x ≤ k ∧ k ≤ y ∧ y ≤ l.length ∧ i = .int .i64 x ∧ j = .int .i64 y ∧ Hid (Below w.heap.size w wr)) (fun i j _ _ => ((intOf j) - (intOf i)).toNat)
  case atStart => exact ⟨0, l.length, by omega, hk, Nat.le_refl _, rfl, rfl, Lib.hid (Below.refl _ _)⟩
  case round =>
    obtain ⟨x, y, hx, hy, hyn, rfl, rfl, HB⟩ := hrel
    by_cases hlt : x < y
    · have hm : (((x : Int) + (y : Int)) / 2).toNat = (x + y) / 2 := by omega
      have hml : (x + y) / 2 < l.length := by omega
      obtain ⟨g, rfl, hcs0⟩ := hdAt_row HR.out ((x + y) / 2) hml
      have hcs := hcs0.below HB.out
      clear hcs0
      have hC := HC.out l[(x + y) / 2]
      cases hle : decide (cmpf l[(x + y) / 2] t < 0) with
      | true =>
        have hneg : cmpf l[(x + y) / 2] t < 0 := of_decide_eq_true hle
        have hin : (x + y) / 2 < k := by
          rcases Nat.lt_or_ge ((x + y) / 2) k with h | h
          · exact h
          · have := HHi.out _ hml h; omega
        generalize cmpf l[(x + y) / 2] t = r at *
        generalize l[(x + y) / 2] = z at *
        have HCC := Lib.hid hC
        obtain ⟨zowner, zmode⟩ := z
        obtain ⟨hc0, hc1⟩ := hcs
        simp only at hc0 hc1
        clear hC hle
        go_wp2_with fail
        refine (HCC.out _).mono ?_
        rintro e w2 ⟨rfl, hb2⟩
        have HB2 := Lib.hid (HB.out.trans (hb2.mono HB.out.size))
        clear hb2
        go_wp2_with fail
        go_roundw
        case rel => exact ⟨(x + y) / 2 + 1, y, by omega, hy, hyn, by congr 1, rfl, HB2⟩
        case measure => simp [intOf]; omega
      | false =>
        have hneg : ¬ cmpf l[(x + y) / 2] t < 0 := of_decide_eq_false hle
        have hin : k ≤ (x + y) / 2 := by
          rcases Nat.lt_or_ge ((x + y) / 2) k with h | h
          · have := HLo.out _ hml h; omega
          · exact h
        generalize cmpf l[(x + y) / 2] t = r at *
        generalize l[(x + y) / 2] = z at *
        have HCC := Lib.hid hC
        obtain ⟨zowner, zmode⟩ := z
        obtain ⟨hc0, hc1⟩ := hcs
        simp only at hc0 hc1
        clear hC hle
        go_wp2_with fail
        refine (HCC.out _).mono ?_
        rintro e w2 ⟨rfl, hb2⟩
        have HB2 := Lib.hid (HB.out.trans (hb2.mono HB.out.size))
        clear hb2
        go_wp2_with fail
        go_roundw
        case rel => exact ⟨x, (x + y) / 2, hx, hin, by omega, rfl, by congr 1, HB2⟩
        case measure => simp [intOf]; omega
    · obtain rfl : x = k := by omega
      by_cases hkl : x < l.length
      · obtain ⟨g, rfl, hcs0⟩ := hdAt_row HR.out x hkl
        have hF := Lib.hid (hfs.out hkl)
        have hcs := hcs0.below HB.out
        have hC := HC.out l[x]
        clear hcs0
        generalize cmpf l[x] t = r at *
        generalize l[x] = z at *
        have HCC := Lib.hid hC
        obtain ⟨zowner, zmode⟩ := z
        obtain ⟨hc0, hc1⟩ := hcs
        simp only at hc0 hc1
        clear hC
        have hd : decide ((x : Int) < (l.length : Int)) = true := decide_eq_true (by omega)
        go_wp2_with fail
        refine (HCC.out _).mono ?_
        rintro e w2 ⟨rfl, hb2⟩
        have HB2 := Lib.hid (HB.out.trans (hb2.mono HB.out.size))
        clear hb2
        go_wp2_with fail
        go_ret2
        exact ⟨by rw [hF.out]; first | rfl | simp, HB2.out⟩
      · have hF := Lib.hid (hfn.out hkl)
        have hd : decide ((x : Int) < (l.length : Int)) = false := decide_eq_false (by omega)
        go_wp2_with fail
        go_ret2
        exact ⟨by rw [hF.out]; rfl, HB.out⟩


set_option maxRecDepth 100000 in
set_option maxHeartbeats 2000000 in
theorem line_bsf (cmpf : Ln → ByteArray → Int) (hcmp : ∀ (x : Ln) (t : ByteArray) W, Calls Tryz.prog 151 #[.agg #[.string x.key, .slice x.hs.a x.hs.n x.hs.c, .slice x.qs.a x.qs.n x.qs.c], .string t] W fun e W' => e = .returned (.int .i64 (cmpf x t)) ∧ Below W.heap.size W W')
    (a : Option Addr) (n c : Nat) (l : List Ln) (t : ByteArray) (k : Nat) (w : World) (hr : Row w 66 3 a n c (lnFlat l)) (hn : n ≤ 1099511627776) (hk : k ≤ l.length)
    (hlo : ∀ j (h : j < l.length), j < k → cmpf l[j] t < 0) (hhi : ∀ j (h : j < l.length), k ≤ j → 0 ≤ cmpf l[j] t) :
    Calls Tryz.prog 150 #[.slice a n c, .string t, .func (.func 151) #[] #[]] w fun e w' => e = .returned (.tuple #[.int .i64 k, .bool (foundAt cmpf l t k)]) ∧ Below w.heap.size w w' := by
  have hl : n = l.length := by have := hr.len; rw [lnFlat_len] at this; omega
  subst hl
  have HR := Lib.hid hr
  have HC := Lib.hid fun x => hcmp x t
  have HLo := Lib.hid hlo
  have HHi := Lib.hid hhi
  clear hr hcmp hlo hhi
  have hfo : Hid (foundAt cmpf l t k = decide (k < l.length ∧ ∃ h : k < l.length, cmpf l[k] t = 0)) := Lib.hid rfl
  have hfn : Hid (¬ k < l.length → foundAt cmpf l t k = false) := Lib.hid fun h => foundAt_none cmpf l t k h
  have hfs : Hid (∀ h : k < l.length, foundAt cmpf l t k = (cmpf l[k] t == 0)) := Lib.hid fun h => foundAt_some cmpf l t k h
  generalize hfd : foundAt cmpf l t k = fd at *
  clear hfd hfo
  go_enter Tryz.func150, Tryz.ntmps150
  go_wp2_with fail
  go_loopw [9, 10, 11] (fun i j _ wr => ∃ x y : Nat, x ≤ k ∧ k ≤ y ∧ y ≤ l.length ∧ i = .int .i64 x ∧ j = .int .i64 y ∧ Hid (Below w.heap.size w wr)) (fun i j _ _ => ((intOf j) - (intOf i)).toNat)
  case atStart => exact ⟨0, l.length, by omega, hk, Nat.le_refl _, rfl, rfl, Lib.hid (Below.refl _ _)⟩
  case round =>
    obtain ⟨x, y, hx, hy, hyn, rfl, rfl, HB⟩ := hrel
    by_cases hlt : x < y
    · have hm : (((x : Int) + (y : Int)) / 2).toNat = (x + y) / 2 := by omega
      have hml : (x + y) / 2 < l.length := by omega
      obtain ⟨g, rfl, hcs0⟩ := lnAt_row HR.out ((x + y) / 2) hml
      have hcs := hcs0.below HB.out
      clear hcs0
      have hC := HC.out l[(x + y) / 2]
      cases hle : decide (cmpf l[(x + y) / 2] t < 0) with
      | true =>
        have hneg : cmpf l[(x + y) / 2] t < 0 := of_decide_eq_true hle
        have hin : (x + y) / 2 < k := by
          rcases Nat.lt_or_ge ((x + y) / 2) k with h | h
          · exact h
          · have := HHi.out _ hml h; omega
        generalize cmpf l[(x + y) / 2] t = r at *
        generalize l[(x + y) / 2] = z at *
        have HCC := Lib.hid hC
        obtain ⟨zkey, zhs, zqs⟩ := z
        obtain ⟨hc0, hc1, hc2⟩ := hcs
        simp only at hc0 hc1 hc2
        clear hC hle
        go_wp2_with fail
        refine (HCC.out _).mono ?_
        rintro e w2 ⟨rfl, hb2⟩
        have HB2 := Lib.hid (HB.out.trans (hb2.mono HB.out.size))
        clear hb2
        go_wp2_with fail
        go_roundw
        case rel => exact ⟨(x + y) / 2 + 1, y, by omega, hy, hyn, by congr 1, rfl, HB2⟩
        case measure => simp [intOf]; omega
      | false =>
        have hneg : ¬ cmpf l[(x + y) / 2] t < 0 := of_decide_eq_false hle
        have hin : k ≤ (x + y) / 2 := by
          rcases Nat.lt_or_ge ((x + y) / 2) k with h | h
          · have := HLo.out _ hml h; omega
          · exact h
        generalize cmpf l[(x + y) / 2] t = r at *
        generalize l[(x + y) / 2] = z at *
        have HCC := Lib.hid hC
        obtain ⟨zkey, zhs, zqs⟩ := z
        obtain ⟨hc0, hc1, hc2⟩ := hcs
        simp only at hc0 hc1 hc2
        clear hC hle
        go_wp2_with fail
        refine (HCC.out _).mono ?_
        rintro e w2 ⟨rfl, hb2⟩
        have HB2 := Lib.hid (HB.out.trans (hb2.mono HB.out.size))
        clear hb2
        go_wp2_with fail
        go_roundw
        case rel => exact ⟨x, (x + y) / 2, hx, hin, by omega, rfl, by congr 1, HB2⟩
        case measure => simp [intOf]; omega
    · obtain rfl : x = k := by omega
      by_cases hkl : x < l.length
      · obtain ⟨g, rfl, hcs0⟩ := lnAt_row HR.out x hkl
        have hF := Lib.hid (hfs.out hkl)
        have hcs := hcs0.below HB.out
        have hC := HC.out l[x]
        clear hcs0
        generalize cmpf l[x] t = r at *
        generalize l[x] = z at *
        have HCC := Lib.hid hC
        obtain ⟨zkey, zhs, zqs⟩ := z
        obtain ⟨hc0, hc1, hc2⟩ := hcs
        simp only at hc0 hc1 hc2
        clear hC
        have hd : decide ((x : Int) < (l.length : Int)) = true := decide_eq_true (by omega)
        go_wp2_with fail
        refine (HCC.out _).mono ?_
        rintro e w2 ⟨rfl, hb2⟩
        have HB2 := Lib.hid (HB.out.trans (hb2.mono HB.out.size))
        clear hb2
        go_wp2_with fail
        go_ret2
        exact ⟨by rw [hF.out]; first | rfl | simp, HB2.out⟩
      · have hF := Lib.hid (hfn.out hkl)
        have hd : decide ((x : Int) < (l.length : Int)) = false := decide_eq_false (by omega)
        go_wp2_with fail
        go_ret2
        exact ⟨by rw [hF.out]; rfl, HB.out⟩

end Go.Proofs.YtmifgnibalbgjaaGreat
/- The orders: of numbers, of texts. -/
namespace Go.Proofs.YtmifgnibalbgjaaGreat
open Go.RowKit
set_option maxHeartbeats 800000 in
theorem put1_any (x : Hd) (t : Int) (w : World) : Calls Tryz.prog 187 #[.agg #[.int .i64 x.owner, .int .i64 x.mode], .int .i64 t] w fun e w' => e = .returned (.int .i64 (cmpI x.owner t)) ∧ Below w.heap.size w w' := by
  obtain ⟨xi, xd⟩ := x
  simp only
  go_enter Tryz.func187, Tryz.ntmps187
  go_wp2_with fail
  refine (compare_int xi t _).mono ?_
  rintro e w1 ⟨rfl, rfl⟩
  go_wp2_with fail
  go_ret
  exact ⟨rfl, Below.alloc (Below.refl _ _) (Nat.le_refl _) _⟩
set_option maxHeartbeats 800000 in
theorem line1_any (x : Ln) (t : ByteArray) (w : World) : Calls Tryz.prog 151 #[.agg #[.string x.key, .slice x.hs.a x.hs.n x.hs.c, .slice x.qs.a x.qs.n x.qs.c], .string t] w fun e w' => e = .returned (.int .i64 (cmpS x.key t)) ∧ Below w.heap.size w w' := by
  obtain ⟨xk, ⟨ha, hn, hc⟩, ⟨qa, qn, qc⟩⟩ := x
  simp only
  go_enter Tryz.func151, Tryz.ntmps151
  go_wp2_with fail
  refine (compare_str xk t _).mono ?_
  rintro e w1 ⟨rfl, rfl⟩
  go_wp2_with fail
  go_ret
  exact ⟨rfl, Below.alloc (Below.refl _ _) (Nat.le_refl _) _⟩
end Go.Proofs.YtmifgnibalbgjaaGreat
/- The lock table as plain lists. -/
namespace Go.Proofs.YtmifgnibalbgjaaGreat
open Go.RowKit

/-- a key's holders and queue. -/
structure Li where
  key : ByteArray
  hs : List Hd
  qs : List Hd
abbrev SortH (M : List Hd) : Prop := M.Pairwise fun a b => a.owner < b.owner
abbrev SortL (K : List Li) : Prop := K.Pairwise fun a b => ltS a.key b.key = true
def posH (M : List Hd) (id : Int) : Nat := posBy (fun m => decide (m.owner < id)) M
def hasH (M : List Hd) (id : Int) : Bool := M.any fun m => m.owner == id
def posL (K : List Li) (k : ByteArray) : Nat := posBy (fun l => ltS l.key k) K
def hasL (K : List Li) (k : ByteArray) : Bool := K.any fun l => decide (l.key = k)
theorem cmpI_neg (a b : Int) : cmpI a b < 0 ↔ a < b := by
  rcases cmpI_cases a b with ⟨h, e⟩ | ⟨h, e⟩ | ⟨h, e⟩ <;> rw [e] <;> constructor <;> intro _ <;> omega
theorem cmpI_zero (a b : Int) : cmpI a b = 0 ↔ a = b := by
  rcases cmpI_cases a b with ⟨h, e⟩ | ⟨h, e⟩ | ⟨h, e⟩ <;> rw [e] <;> constructor <;> intro _ <;> omega
theorem cmpS_neg (a b : ByteArray) : cmpS a b < 0 ↔ ltS a b = true := by
  rcases cmpS_cases a b with ⟨h, e⟩ | ⟨h, _, e⟩ | ⟨h, _, _, e⟩ <;> rw [e, h] <;> simp
theorem cmpS_zero (a b : ByteArray) : cmpS a b = 0 ↔ a = b := by
  rcases cmpS_cases a b with ⟨h, e⟩ | ⟨h, k, e⟩ | ⟨h, k, h3, e⟩
  · rw [e]; constructor
    · intro h'; cases h'
    · rintro rfl; rw [ltS_irrefl] at h; cases h
  · rw [e]; constructor
    · intro h'; cases h'
    · rintro rfl; rw [ltS_irrefl] at k; cases k
  · rw [e]; simp [h3]
theorem posH_ge {M : List Hd} (hs : SortH M) (id : Int) (j : Nat) (h : j < M.length) (hj : posH M id ≤ j) : id ≤ M[j].owner := by
  have := posBy_ge (fun m : Hd => decide (m.owner < id)) (fun a b => a.owner < b.owner) (fun a b hab ha => by simp at ha ⊢; omega) M hs j h hj
  simpa using this
theorem posH_lt {M : List Hd} (id : Int) (j : Nat) (h : j < M.length) (hj : j < posH M id) : M[j].owner < id := by
  have := posBy_lt (fun m : Hd => decide (m.owner < id)) M j h hj
  simpa using this
theorem posL_ge {K : List Li} (hs : SortL K) (k : ByteArray) (j : Nat) (h : j < K.length) (hj : posL K k ≤ j) : ltS K[j].key k = false :=
  posBy_ge (fun l : Li => ltS l.key k) (fun a b => ltS a.key b.key = true) (fun a b hab ha => by
    cases hb : ltS b.key k with
    | false => rfl
    | true => rw [ltS_trans hab hb] at ha; cases ha) K hs j h hj
theorem posL_lt {K : List Li} (k : ByteArray) (j : Nat) (h : j < K.length) (hj : j < posL K k) : ltS K[j].key k = true := posBy_lt (fun l : Li => ltS l.key k) K j h hj
/-- who is a member stands at its place. -/
theorem hasH_iff {M : List Hd} (hs : SortH M) (id : Int) : hasH M id = true ↔ ∃ h : posH M id < M.length, (M[posH M id]'h).owner = id := by
  constructor
  · intro h
    obtain ⟨m, hm, e⟩ := List.any_eq_true.1 h
    obtain ⟨j, hj, rfl⟩ := List.getElem_of_mem hm
    have e' : M[j].owner = id := by simpa using e
    have h1 : posH M id ≤ j := by
      rcases Nat.lt_or_ge j (posH M id) with h | h
      · have := posH_lt id j hj h; omega
      · exact h
    have h2 : posH M id < M.length := by omega
    have h3 := posH_ge hs id _ h2 (Nat.le_refl _)
    refine ⟨h2, ?_⟩
    rcases Nat.lt_or_ge (posH M id) j with h | h
    · have := List.pairwise_iff_getElem.1 hs _ _ h2 hj h
      omega
    · obtain rfl : j = posH M id := by omega
      exact e'
  · rintro ⟨h, e⟩
    exact List.any_eq_true.2 ⟨_, List.getElem_mem h, by simpa using e⟩
theorem hasL_iff {K : List Li} (hs : SortL K) (k : ByteArray) : hasL K k = true ↔ ∃ h : posL K k < K.length, (K[posL K k]'h).key = k := by
  constructor
  · intro h
    obtain ⟨m, hm, e⟩ := List.any_eq_true.1 h
    obtain ⟨j, hj, rfl⟩ := List.getElem_of_mem hm
    have e' : K[j].key = k := by simpa using e
    have h1 : posL K k ≤ j := by
      rcases Nat.lt_or_ge j (posL K k) with h | h
      · have := posL_lt k j hj h; rw [e', ltS_irrefl] at this; cases this
      · exact h
    have h2 : posL K k < K.length := by omega
    have h3 := posL_ge hs k _ h2 (Nat.le_refl _)
    refine ⟨h2, ?_⟩
    rcases Nat.lt_or_ge (posL K k) j with h | h
    · have := List.pairwise_iff_getElem.1 hs _ _ h2 hj h
      rw [e'] at this; rw [this] at h3; cases h3
    · obtain rfl : j = posL K k := by omega
      exact e'
  · rintro ⟨h, e⟩
    exact List.any_eq_true.2 ⟨_, List.getElem_mem h, by simpa using e⟩
theorem foundH {M : List Hd} (hs : SortH M) (id : Int) : foundAt (fun (x : Hd) (t : Int) => cmpI x.owner t) M id (posH M id) = hasH M id := by
  rw [Bool.eq_iff_iff, hasH_iff hs]
  unfold foundAt
  simp only [decide_eq_true_eq]
  constructor
  · rintro ⟨_, h, e⟩; exact ⟨h, (cmpI_zero _ _).1 e⟩
  · rintro ⟨h, e⟩; exact ⟨h, h, (cmpI_zero _ _).2 e⟩
theorem foundL {K : List Li} (hs : SortL K) (k : ByteArray) : foundAt (fun (x : Li) (t : ByteArray) => cmpS x.key t) K k (posL K k) = hasL K k := by
  rw [Bool.eq_iff_iff, hasL_iff hs]
  unfold foundAt
  simp only [decide_eq_true_eq]
  constructor
  · rintro ⟨_, h, e⟩; exact ⟨h, (cmpS_zero _ _).1 e⟩
  · rintro ⟨h, e⟩; exact ⟨h, h, (cmpS_zero _ _).2 e⟩


/-- an owner's mode in a list. -/
def ofH : List Hd → Int → Int
  | [], _ => 0
  | h :: r, o => if h.owner = o then h.mode else ofH r o
def clashM (a b : Int) : Bool := a == 2 || b == 2
def modeM (m : Int) : Bool := m == 1 || m == 2
def fitsH : List Hd → Int → Bool
  | [], _ => true
  | h :: r, m => !clashM h.mode m && fitsH r m
def putH (l : List Hd) (h : Hd) : List Hd := if hasH l h.owner then l.set (posH l h.owner) h else l.take (posH l h.owner) ++ h :: l.drop (posH l h.owner)
def mayH (hs : List Hd) : List Hd → Bool
  | [] => false
  | w :: _ => if 0 < ofH hs w.owner then hs.length == 1 else fitsH hs w.mode
/-- those who come in, and the holders and the queue behind it. -/
def letH (hs : List Hd) : List Hd → List Int × List Hd × List Hd
  | [] => ([], hs, [])
  | w :: r => if mayH hs (w :: r) then (w.owner :: (letH (putH hs w) r).1, (letH (putH hs w) r).2) else ([], hs, w :: r)
/-- how many of a queue are upgrades, at its beginning. -/
def upsH (hs qs : List Hd) : Nat := posBy (fun w => decide (0 < ofH hs w.owner)) qs
/-- a key's line. -/
def lineL (L : List Li) (k : ByteArray) : Li := if hasL L k then (L[posL L k]?).getD ⟨ByteArray.empty, [], []⟩ else ⟨ByteArray.empty, [], []⟩
/-- a line that is asked for one more. -/
def askLi (l : Li) (w : Hd) : Int × Li :=
  if w.mode ≤ ofH l.hs w.owner then (0, l)
  else if 0 < ofH l.qs w.owner then (10, l)
  else
    let q := if 0 < ofH l.hs w.owner then l.qs.take (upsH l.hs l.qs) ++ w :: l.qs.drop (upsH l.hs l.qs) else l.qs ++ [w]
    let r := letH l.hs q
    (if w.mode ≤ ofH r.2.1 w.owner then 0 else 10, ⟨l.key, r.2.1, r.2.2⟩)
def askL (L : List Li) (o : Int) (k : ByteArray) (m : Int) : Int × List Li :=
  if o < 0 ∨ 16 < k.size ∨ modeM m = false then (1, L)
  else if hasL L k then
    let r := askLi ((L[posL L k]?).getD ⟨k, [], []⟩) ⟨o, m⟩
    (r.1, L.set (posL L k) r.2)
  else (0, L.take (posL L k) ++ ⟨k, [⟨o, m⟩], []⟩ :: L.drop (posL L k))
/-- without an owner. -/
def outH (l : List Hd) (o : Int) : List Hd := l.filter fun h => !(h.owner == o)
def leaveLi (l : Li) (o : Int) : List Int × Li :=
  let r := letH (outH l.hs o) (outH l.qs o)
  (r.1, ⟨l.key, r.2.1, r.2.2⟩)
def emptyLi (l : Li) : Bool := l.hs.length + l.qs.length == 0
def leaveL (L : List Li) (o : Int) : List Int × List Li := (L.flatMap fun l => (leaveLi l o).1, (L.map fun l => (leaveLi l o).2).filter fun l => !emptyLi l)
end Go.Proofs.YtmifgnibalbgjaaGreat
/- mode, clash, of, fits. -/
namespace Go.Proofs.YtmifgnibalbgjaaGreat
open Go.RowKit
set_option maxHeartbeats 800000 in
theorem mode_any (m : Int) (w : World) : Calls Tryz.prog 127 #[.int .i64 m] w fun e w' => e = .returned (.bool (modeM m)) ∧ w = w' := by
  unfold modeM
  cases h1 : (m == 1) with
  | true =>
    go_enter Tryz.func127, Tryz.ntmps127
    go_wp2_with fail
    go_ret
    exact ⟨rfl, rfl⟩
  | false =>
    cases h2 : (m == 2) with
    | true =>
      go_enter Tryz.func127, Tryz.ntmps127
      go_wp2_with fail
      go_ret
      exact ⟨rfl, rfl⟩
    | false =>
      go_enter Tryz.func127, Tryz.ntmps127
      go_wp2_with fail
      go_ret
      exact ⟨rfl, rfl⟩
set_option maxHeartbeats 800000 in
theorem clash_any (a b : Int) (w : World) : Calls Tryz.prog 149 #[.int .i64 a, .int .i64 b] w fun e w' => e = .returned (.bool (clashM a b)) ∧ w = w' := by
  unfold clashM
  cases h1 : (a == 2) with
  | true =>
    go_enter Tryz.func149, Tryz.ntmps149
    go_wp2_with fail
    go_ret
    exact ⟨rfl, rfl⟩
  | false =>
    cases h2 : (b == 2) with
    | true =>
      go_enter Tryz.func149, Tryz.ntmps149
      go_wp2_with fail
      go_ret
      exact ⟨rfl, rfl⟩
    | false =>
      go_enter Tryz.func149, Tryz.ntmps149
      go_wp2_with fail
      go_ret
      exact ⟨rfl, rfl⟩
/-- a list of holds that can be read. -/
def HdsAt (w : World) (a : Option Addr) (n : Nat) (l : List Hd) : Prop := n = l.length ∧ ∀ j (h : j < l.length), ∃ g o, a = some ⟨g, o, none⟩ ∧ hdAt w g (o + j * 2) l[j]
theorem HdsAt.below {w w' : World} {a : Option Addr} {n : Nat} {l : List Hd} (h : HdsAt w a n l) (b : Below w.heap.size w w') : HdsAt w' a n l :=
  ⟨h.1, fun j hj => let ⟨g, o, e, h1⟩ := h.2 j hj; ⟨g, o, e, h1.below b⟩⟩
theorem HdsAt.row {w : World} {a : Option Addr} {n c : Nat} {l : List Hd} (h : Row w 32 2 a n c (hdFlat l)) : HdsAt w a n l := by
  have hl := h.len
  rw [hdFlat_len] at hl
  exact ⟨by omega, fun j hj => let ⟨g, e, h1⟩ := hdAt_row h j hj; ⟨g, 0, e, by rw [Nat.zero_add]; exact h1⟩⟩
theorem HdsAt.take {w : World} {a : Option Addr} {n : Nat} {l : List Hd} (h : HdsAt w a n l) {k : Nat} (hk : k ≤ n) : HdsAt w a k (l.take k) := by
  have h1 := h.1
  refine ⟨by rw [List.length_take]; omega, fun j hj => ?_⟩
  rw [List.length_take] at hj
  rw [List.getElem_take]
  exact h.2 j (by omega)
set_option maxRecDepth 100000 in
set_option maxHeartbeats 800000 in
theorem of_any (a : Option Addr) (n c : Nat) (l : List Hd) (o : Int) (w : World) (h : HdsAt w a n l) (hn : n ≤ maxLen) :
    Calls Tryz.prog 129 #[.slice a n c, .int .i64 o] w fun e w' => e = .returned (.int .i64 (ofH l o)) ∧ Below w.heap.size w w' := by
  obtain rfl := h.1
  have HR := Lib.hid h
  unfold maxLen at hn
  clear h
  generalize hr : ofH l o = r
  have HV := Lib.hid hr
  clear hr
  go_enter Tryz.func129, Tryz.ntmps129
  go_wp2_with fail
  go_loopw [9] (fun jv wr => ∃ i : Nat, i ≤ l.length ∧ jv = .int .i64 i ∧ Hid (ofH (l.drop i) o = r) ∧ Hid (Below w.heap.size w wr)) (fun jv _ => l.length - (intOf jv).toNat)
  case atStart => exact ⟨0, Nat.zero_le _, rfl, HV, Lib.hid (Below.refl _ _)⟩
  case round =>
    obtain ⟨i, hi, rfl, he, HB⟩ := hrel
    by_cases hlt : i < l.length
    · obtain ⟨g, off, rfl, hx⟩ := HR.out.2 i hlt
      obtain ⟨hc0, hc1⟩ := hx.below HB.out
      have he2 := he.out
      rw [List.drop_eq_getElem_cons hlt] at he2
      generalize l[i] = z at *
      obtain ⟨zo, zm⟩ := z
      simp only at hc0 hc1
      unfold ofH at he2
      simp only at he2
      clear hx he HV
      by_cases hq : zo = o
      · rw [if_pos hq] at he2
        have hqb : (zo == o) = true := by simpa using hq
        subst he2
        have HB2 := HB
        clear hq
        go_wp2_with fail
        go_ret
        exact ⟨rfl, bel_one HB2.out _⟩
      · rw [if_neg hq] at he2
        have hqb : (zo == o) = false := by simpa using hq
        have HE := Lib.hid he2
        clear hq he2
        go_wp2_with fail
        go_roundw
        case rel => exact ⟨i + 1, by omega, by go_num, HE, Lib.hid (bel_one HB.out _)⟩
        case measure => simp [intOf]; omega
    · obtain rfl : i = l.length := by omega
      have he2 := he.out
      rw [List.drop_length] at he2
      subst he2
      go_wp2_with fail
      go_ret
      exact ⟨rfl, HB.out⟩
end Go.Proofs.YtmifgnibalbgjaaGreat
