/- What marks are: odd; clash. -/
import Derived.Test.YtbgabdofnmijnaaC
namespace Go.Proofs.Ytbgabdofnmijnaa
open Go.RowKit
def oddB (m : Mk) : Bool := (!accB m && !endB m) || decide (m.tx < 0) || decide (16 < (m.key.size : Int)) || (endB m && !m.key.toList.isEmpty)
def clashB (a b : Mk) : Bool := !(a.tx == b.tx) && accB a && accB b && (a.key.toList == b.key.toList) && (a.kind == 2 || b.kind == 2)
/-- a mark in a box of its own. -/
theorem box_new (w : World) (xk xt : Int) (xy : ByteArray) : Mem w [] (w.alloc (.cells #[.int .i64 xk, .int .i64 xt, .string xy] 36)) [BlockA w.heap.size #[.int .i64 xk, .int .i64 xt, .string xy] 36] := (Mem.nil w).block _ _
theorem box_cells {w0 w : World} {D0 : List Nat} {l : List Asn} [Stables l] {g : Nat} {xk xt : Int} {xy : ByteArray} (h : Mem w0 D0 w (BlockA g #[.int .i64 xk, .int .i64 xt, .string xy] 36 :: l)) :
    w.cell? ⟨g, 0, none⟩ = some (.int .i64 xk) ∧ w.cell? ⟨g, 1, none⟩ = some (.int .i64 xt) ∧ w.cell? ⟨g, 2, none⟩ = some (.string xy) :=
  ⟨(h.block_cell (i := 0) rfl).1, (h.block_cell (i := 1) rfl).1, (h.block_cell (i := 2) rfl).1⟩
set_option maxHeartbeats 4000000 in
theorem odd_any (x : Mk) (w : World) (hB : MkB x) : Calls Try.prog 44 #[mkV x] w fun e w' => e = .returned (.bool (oddB x)) ∧ Below w.heap.size w w' := by
  have HA := Lib.hid fun W => access_any x W
  have HE := Lib.hid fun W => ends_any x W
  obtain ⟨xk, xt, xy⟩ := x
  have hz := hB.2.2.2.2
  unfold maxLen at hz
  clear hB
  unfold oddB
  unfold mkV at *
  simp only at *
  generalize accB ⟨xk, xt, xy⟩ = ab at *
  generalize endB ⟨xk, xt, xy⟩ = eb at *
  generalize hsz : xy.size = z at *
  have HB0 := Lib.hid (box_new w xk xt xy)
  cases ab with
  | false =>
    go_enter Try.func44, Try.ntmps44
    go_wp2_with fail
    refine (HA.out _).mono ?_
    rintro e w1 ⟨rfl, hb⟩
    have M1 := Lib.hid (HB0.out.below hb)
    clear hb
    obtain ⟨k0, k1, k2⟩ := box_cells M1.out
    go_wp2_with fail
    refine (HE.out _).mono ?_
    rintro e w2 ⟨rfl, hb⟩
    have M2 := Lib.hid (M1.out.below hb)
    clear hb k0 k1 k2
    obtain ⟨k0, k1, k2⟩ := box_cells M2.out
    cases eb with
    | false =>
      go_wp2_with fail
      go_ret
      exact ⟨rfl, M2.out.bel⟩
    | true =>
      by_cases ht : xt < 0
      · go_wp2_with fail
        go_ret
        exact ⟨by simp [ht], M2.out.bel⟩
      · by_cases hy : (16 : Int) < z
        · go_wp2_with fail
          go_ret
          exact ⟨by simp [hy], M2.out.bel⟩
        · go_wp2_with fail
          refine (HE.out _).mono ?_
          rintro e w3 ⟨rfl, hb⟩
          have M3 := Lib.hid (M2.out.below hb)
          clear hb k0 k1 k2
          obtain ⟨k0, k1, k2⟩ := box_cells M3.out
          go_wp2_with fail
          go_ret
          exact ⟨by simp [], M3.out.bel⟩
  | true =>
    go_enter Try.func44, Try.ntmps44
    go_wp2_with fail
    refine (HA.out _).mono ?_
    rintro e w1 ⟨rfl, hb⟩
    have M1 := Lib.hid (HB0.out.below hb)
    clear hb
    obtain ⟨k0, k1, k2⟩ := box_cells M1.out
    by_cases ht : xt < 0
    · go_wp2_with fail
      go_ret
      exact ⟨by simp [ht], M1.out.bel⟩
    · by_cases hy : (16 : Int) < z
      · go_wp2_with fail
        go_ret
        exact ⟨by simp [hy], M1.out.bel⟩
      · go_wp2_with fail
        refine (HE.out _).mono ?_
        rintro e w3 ⟨rfl, hb⟩
        have M3 := Lib.hid (M1.out.below hb)
        clear hb k0 k1 k2
        obtain ⟨k0, k1, k2⟩ := box_cells M3.out
        cases eb with
        | false =>
          go_wp2_with fail
          go_ret
          exact ⟨by simp [], M3.out.bel⟩
        | true =>
          go_wp2_with fail
          go_ret
          exact ⟨by simp [], M3.out.bel⟩

/-- two marks in boxes of their own. -/
theorem box2_new (w : World) (xk xt : Int) (xy : ByteArray) (yk yt : Int) (yy : ByteArray) : Mem w [] ((w.alloc (.cells #[.int .i64 xk, .int .i64 xt, .string xy] 36)).alloc (.cells #[.int .i64 yk, .int .i64 yt, .string yy] 36)) [BlockA (w.heap.size + 1) #[.int .i64 yk, .int .i64 yt, .string yy] 36, BlockA w.heap.size #[.int .i64 xk, .int .i64 xt, .string xy] 36] := by
  have := (box_new w xk xt xy).block #[.int .i64 yk, .int .i64 yt, .string yy] 36
  rwa [show (w.alloc (.cells #[.int .i64 xk, .int .i64 xt, .string xy] 36)).heap.size = w.heap.size + 1 by simp] at this
theorem box_cells2 {w0 w : World} {D0 : List Nat} {l : List Asn} [Stables l] {g : Nat} {A : Asn} [Stable A] {xk xt : Int} {xy : ByteArray} (h : Mem w0 D0 w (A :: BlockA g #[.int .i64 xk, .int .i64 xt, .string xy] 36 :: l)) :
    w.cell? ⟨g, 0, none⟩ = some (.int .i64 xk) ∧ w.cell? ⟨g, 1, none⟩ = some (.int .i64 xt) ∧ w.cell? ⟨g, 2, none⟩ = some (.string xy) :=
  ⟨(Mem.cellAt [A] (i := 0) h rfl).1, (Mem.cellAt [A] (i := 1) h rfl).1, (Mem.cellAt [A] (i := 2) h rfl).1⟩
set_option maxHeartbeats 4000000 in
theorem clash_any (x y : Mk) (w : World) : Calls Try.prog 30 #[mkV x, mkV y] w fun e w' => e = .returned (.bool (clashB x y)) ∧ Below w.heap.size w w' := by
  have HA := Lib.hid fun W => access_any x W
  have HE := Lib.hid fun W => access_any y W
  obtain ⟨xk, xt, xy⟩ := x
  obtain ⟨yk, yt, yy⟩ := y
  unfold clashB
  unfold mkV at *
  simp only at *
  generalize accB ⟨xk, xt, xy⟩ = ab at *
  generalize accB ⟨yk, yt, yy⟩ = eb at *
  have HB0 := Lib.hid (box2_new w xk xt xy yk yt yy)
  by_cases ht : xt = yt
  · subst ht
    have ht' : (xt != xt) = false := by simp
    rw [show (xt == xt) = true by simp]
    go_enter Try.func30, Try.ntmps30
    go_wp2_with fail
    go_ret
    exact ⟨by simp, HB0.out.bel⟩
  · have ht' : (xt != yt) = true := by simpa using ht
    rw [show (xt == yt) = false by simpa using ht]
    clear ht
    go_enter Try.func30, Try.ntmps30
    go_wp2_with fail
    refine (HA.out _).mono ?_
    rintro e w1 ⟨rfl, hb⟩
    have M1 := Lib.hid (HB0.out.below hb)
    clear hb
    obtain ⟨k0, k1, k2⟩ := box_cells M1.out
    obtain ⟨j0, j1, j2⟩ := box_cells2 M1.out
    cases ab with
    | false =>
      go_wp2_with fail
      go_ret
      exact ⟨rfl, M1.out.bel⟩
    | true =>
      go_wp2_with fail
      refine (HE.out _).mono ?_
      rintro e w2 ⟨rfl, hb⟩
      have M2 := Lib.hid (M1.out.below hb)
      clear hb k0 k1 k2 j0 j1 j2
      obtain ⟨k0, k1, k2⟩ := box_cells M2.out
      obtain ⟨j0, j1, j2⟩ := box_cells2 M2.out
      cases eb with
      | false =>
        go_wp2_with fail
        go_ret
        exact ⟨rfl, M2.out.bel⟩
      | true =>
        cases hk : (xy.toList == yy.toList) with
        | false =>
          go_wp2_with fail
          go_ret
          exact ⟨by simp [hk], M2.out.bel⟩
        | true =>
          by_cases h2 : xk = 2
          · subst h2
            go_wp2_with fail
            go_ret
            exact ⟨by simp [hk], M2.out.bel⟩
          · have h2' : (xk == 2) = false := by simpa using h2
            clear h2
            go_wp2_with fail
            go_ret
            exact ⟨by simp [hk, h2'], M2.out.bel⟩
end Go.Proofs.Ytbgabdofnmijnaa
