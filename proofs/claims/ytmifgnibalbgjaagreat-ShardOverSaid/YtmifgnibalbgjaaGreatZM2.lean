/- Which commands may be. -/
import Derived.Test.YtmifgnibalbgjaaGreatZM1
namespace Go.Proofs.YtmifgnibalbgjaaGreat
open Go.RowKit set_option linter.unusedVariables false set_option linter.unusedSimpArgs false
def rightC (c : Cm) : Bool :=
  if c.kind = 9 then true
  else if c.kind = 1 then decide (1 ≤ c.stamp) && decide (c.stamp ≤ 1099511627776) && numM c
  else if c.kind = 2 then decide (0 ≤ c.op) && decide (c.op ≤ 1048576) && decide (c.key.size ≤ 16) && modeM c.mode && numM c
  else if c.kind = 3 then decide (0 ≤ c.op) && decide (c.op ≤ 1048576) && decide (c.key.size ≤ 16) && numM c
  else if c.kind = 4 then decide (0 ≤ c.op) && decide (c.op ≤ 1048576) && decide (c.key.size ≤ 16) && !(c.yes && decide (32 < c.value.size)) && numM c
  else if c.kind = 5 ∨ c.kind = 6 ∨ c.kind = 7 ∨ c.kind = 8 then numM c
  else false
set_option maxRecDepth 100000 in
set_option maxHeartbeats 4000000 in
theorem right_k1 (tx att stamp op : Int) (key value : ByteArray) (mode : Int) (yes : Bool) (hk : key.size ≤ 9223372036854775807) (hv : value.size ≤ 9223372036854775807) (w : World) :
    Calls Tryz.prog 35 #[.agg #[.int .i64 1, .int .i64 tx, .int .i64 att, .int .i64 stamp, .int .i64 op, .string key, .string value, .int .i64 mode, .bool yes]] w fun e w' => e = .returned (.bool (rightC ⟨1, tx, att, stamp, op, key, value, mode, yes⟩)) ∧ Below w.heap.size w w' := by
  by_cases h1 : stamp < 1
  · go_enter Tryz.func35, Tryz.ntmps35
    go_wp2_with fail
    go_ret
    refine ⟨?_, bel_new _ _⟩
    simp only [rightC, numM, modeM]
    first | (simp [*]; done) | (simp [*]; intros; omega)
  by_cases h2 : 1099511627776 < stamp
  · go_enter Tryz.func35, Tryz.ntmps35
    go_wp2_with fail
    go_ret
    refine ⟨?_, bel_new _ _⟩
    simp only [rightC, numM, modeM]
    first | (simp [*]; done) | (simp [*]; intros; omega)
  have h1' : 1 ≤ stamp := by omega
  have h2' : stamp ≤ 1099511627776 := by omega
  by_cases a1 : 0 ≤ tx
  rotate_left
  · go_enter Tryz.func35, Tryz.ntmps35
    go_wp2_with fail
    go_ret
    refine ⟨?_, bel_new _ _⟩
    simp only [rightC, numM, modeM]
    first | (simp [*]; done) | (simp [*]; intros; omega)
  by_cases a2 : tx ≤ 1048576
  rotate_left
  · go_enter Tryz.func35, Tryz.ntmps35
    go_wp2_with fail
    go_ret
    refine ⟨?_, bel_new _ _⟩
    simp only [rightC, numM, modeM]
    first | (simp [*]; done) | (simp [*]; intros; omega)
  by_cases a3 : 0 ≤ att
  rotate_left
  · go_enter Tryz.func35, Tryz.ntmps35
    go_wp2_with fail
    go_ret
    refine ⟨?_, bel_new _ _⟩
    simp only [rightC, numM, modeM]
    first | (simp [*]; done) | (simp [*]; intros; omega)
  by_cases a4 : att ≤ 1048576
  rotate_left
  · go_enter Tryz.func35, Tryz.ntmps35
    go_wp2_with fail
    go_ret
    refine ⟨?_, bel_new _ _⟩
    simp only [rightC, numM, modeM]
    first | (simp [*]; done) | (simp [*]; intros; omega)
  go_enter Tryz.func35, Tryz.ntmps35
  go_wp2_with fail
  go_ret
  refine ⟨?_, bel_new _ _⟩
  simp only [rightC, numM, modeM]
  first | (simp [*]; done) | (simp [*]; intros; omega)
set_option maxRecDepth 100000 in
set_option maxHeartbeats 4000000 in
theorem right_k2 (tx att stamp op : Int) (key value : ByteArray) (mode : Int) (yes : Bool) (hk : key.size ≤ 9223372036854775807) (hv : value.size ≤ 9223372036854775807) (w : World) :
    Calls Tryz.prog 35 #[.agg #[.int .i64 2, .int .i64 tx, .int .i64 att, .int .i64 stamp, .int .i64 op, .string key, .string value, .int .i64 mode, .bool yes]] w fun e w' => e = .returned (.bool (rightC ⟨2, tx, att, stamp, op, key, value, mode, yes⟩)) ∧ Below w.heap.size w w' := by
  by_cases h1 : op < 0
  · go_enter Tryz.func35, Tryz.ntmps35
    go_wp2_with fail
    go_ret
    refine ⟨?_, bel_new _ _⟩
    simp only [rightC, numM, modeM]
    first | (simp [*]; done) | (simp [*]; intros; omega)
  by_cases h2 : 1048576 < op
  · go_enter Tryz.func35, Tryz.ntmps35
    go_wp2_with fail
    go_ret
    refine ⟨?_, bel_new _ _⟩
    simp only [rightC, numM, modeM]
    first | (simp [*]; done) | (simp [*]; intros; omega)
  by_cases h3 : 16 < key.size
  · have h3' : (16 : Int) < (key.size : Int) := by omega
    go_enter Tryz.func35, Tryz.ntmps35
    go_wp2_with fail
    go_ret
    refine ⟨?_, bel_new _ _⟩
    simp only [rightC, numM, modeM]
    first | (simp [*]; done) | (simp [*]; intros; omega)
  have h1' : 0 ≤ op := by omega
  have h2' : op ≤ 1048576 := by omega
  have h3' : ¬ (16 : Int) < (key.size : Int) := by omega
  have h3'' : key.size ≤ 16 := by omega
  by_cases h4 : mode = 1
  · subst h4
    by_cases a1 : 0 ≤ tx
    rotate_left
    · go_enter Tryz.func35, Tryz.ntmps35
      go_wp2_with fail
      go_ret
      refine ⟨?_, bel_new _ _⟩
      simp only [rightC, numM, modeM]
      first | (simp [*]; done) | (simp [*]; intros; omega)
    by_cases a2 : tx ≤ 1048576
    rotate_left
    · go_enter Tryz.func35, Tryz.ntmps35
      go_wp2_with fail
      go_ret
      refine ⟨?_, bel_new _ _⟩
      simp only [rightC, numM, modeM]
      first | (simp [*]; done) | (simp [*]; intros; omega)
    by_cases a3 : 0 ≤ att
    rotate_left
    · go_enter Tryz.func35, Tryz.ntmps35
      go_wp2_with fail
      go_ret
      refine ⟨?_, bel_new _ _⟩
      simp only [rightC, numM, modeM]
      first | (simp [*]; done) | (simp [*]; intros; omega)
    by_cases a4 : att ≤ 1048576
    rotate_left
    · go_enter Tryz.func35, Tryz.ntmps35
      go_wp2_with fail
      go_ret
      refine ⟨?_, bel_new _ _⟩
      simp only [rightC, numM, modeM]
      first | (simp [*]; done) | (simp [*]; intros; omega)
    go_enter Tryz.func35, Tryz.ntmps35
    go_wp2_with fail
    go_ret
    refine ⟨?_, bel_new _ _⟩
    simp only [rightC, numM, modeM]
    first | (simp [*]; done) | (simp [*]; intros; omega)
  by_cases h5 : mode = 2
  · subst h5
    by_cases a1 : 0 ≤ tx
    rotate_left
    · go_enter Tryz.func35, Tryz.ntmps35
      go_wp2_with fail
      go_ret
      refine ⟨?_, bel_new _ _⟩
      simp only [rightC, numM, modeM]
      first | (simp [*]; done) | (simp [*]; intros; omega)
    by_cases a2 : tx ≤ 1048576
    rotate_left
    · go_enter Tryz.func35, Tryz.ntmps35
      go_wp2_with fail
      go_ret
      refine ⟨?_, bel_new _ _⟩
      simp only [rightC, numM, modeM]
      first | (simp [*]; done) | (simp [*]; intros; omega)
    by_cases a3 : 0 ≤ att
    rotate_left
    · go_enter Tryz.func35, Tryz.ntmps35
      go_wp2_with fail
      go_ret
      refine ⟨?_, bel_new _ _⟩
      simp only [rightC, numM, modeM]
      first | (simp [*]; done) | (simp [*]; intros; omega)
    by_cases a4 : att ≤ 1048576
    rotate_left
    · go_enter Tryz.func35, Tryz.ntmps35
      go_wp2_with fail
      go_ret
      refine ⟨?_, bel_new _ _⟩
      simp only [rightC, numM, modeM]
      first | (simp [*]; done) | (simp [*]; intros; omega)
    go_enter Tryz.func35, Tryz.ntmps35
    go_wp2_with fail
    go_ret
    refine ⟨?_, bel_new _ _⟩
    simp only [rightC, numM, modeM]
    first | (simp [*]; done) | (simp [*]; intros; omega)
  have h4' : (mode == 1) = false := by simpa using h4
  have h5' : (mode == 2) = false := by simpa using h5
  go_enter Tryz.func35, Tryz.ntmps35
  go_wp2_with fail
  go_ret
  refine ⟨?_, bel_new _ _⟩
  simp only [rightC, numM, modeM]
  first | (simp [*]; done) | (simp [*]; intros; omega)
set_option maxRecDepth 100000 in
set_option maxHeartbeats 4000000 in
theorem right_k3 (tx att stamp op : Int) (key value : ByteArray) (mode : Int) (yes : Bool) (hk : key.size ≤ 9223372036854775807) (hv : value.size ≤ 9223372036854775807) (w : World) :
    Calls Tryz.prog 35 #[.agg #[.int .i64 3, .int .i64 tx, .int .i64 att, .int .i64 stamp, .int .i64 op, .string key, .string value, .int .i64 mode, .bool yes]] w fun e w' => e = .returned (.bool (rightC ⟨3, tx, att, stamp, op, key, value, mode, yes⟩)) ∧ Below w.heap.size w w' := by
  by_cases h1 : op < 0
  · go_enter Tryz.func35, Tryz.ntmps35
    go_wp2_with fail
    go_ret
    refine ⟨?_, bel_new _ _⟩
    simp only [rightC, numM, modeM]
    first | (simp [*]; done) | (simp [*]; intros; omega)
  by_cases h2 : 1048576 < op
  · go_enter Tryz.func35, Tryz.ntmps35
    go_wp2_with fail
    go_ret
    refine ⟨?_, bel_new _ _⟩
    simp only [rightC, numM, modeM]
    first | (simp [*]; done) | (simp [*]; intros; omega)
  by_cases h3 : 16 < key.size
  · have h3' : (16 : Int) < (key.size : Int) := by omega
    go_enter Tryz.func35, Tryz.ntmps35
    go_wp2_with fail
    go_ret
    refine ⟨?_, bel_new _ _⟩
    simp only [rightC, numM, modeM]
    first | (simp [*]; done) | (simp [*]; intros; omega)
  have h1' : 0 ≤ op := by omega
  have h2' : op ≤ 1048576 := by omega
  have h3' : ¬ (16 : Int) < (key.size : Int) := by omega
  have h3'' : key.size ≤ 16 := by omega
  by_cases a1 : 0 ≤ tx
  rotate_left
  · go_enter Tryz.func35, Tryz.ntmps35
    go_wp2_with fail
    go_ret
    refine ⟨?_, bel_new _ _⟩
    simp only [rightC, numM, modeM]
    first | (simp [*]; done) | (simp [*]; intros; omega)
  by_cases a2 : tx ≤ 1048576
  rotate_left
  · go_enter Tryz.func35, Tryz.ntmps35
    go_wp2_with fail
    go_ret
    refine ⟨?_, bel_new _ _⟩
    simp only [rightC, numM, modeM]
    first | (simp [*]; done) | (simp [*]; intros; omega)
  by_cases a3 : 0 ≤ att
  rotate_left
  · go_enter Tryz.func35, Tryz.ntmps35
    go_wp2_with fail
    go_ret
    refine ⟨?_, bel_new _ _⟩
    simp only [rightC, numM, modeM]
    first | (simp [*]; done) | (simp [*]; intros; omega)
  by_cases a4 : att ≤ 1048576
  rotate_left
  · go_enter Tryz.func35, Tryz.ntmps35
    go_wp2_with fail
    go_ret
    refine ⟨?_, bel_new _ _⟩
    simp only [rightC, numM, modeM]
    first | (simp [*]; done) | (simp [*]; intros; omega)
  go_enter Tryz.func35, Tryz.ntmps35
  go_wp2_with fail
  go_ret
  refine ⟨?_, bel_new _ _⟩
  simp only [rightC, numM, modeM]
  first | (simp [*]; done) | (simp [*]; intros; omega)
set_option maxRecDepth 100000 in
set_option maxHeartbeats 4000000 in
theorem right_k4 (tx att stamp op : Int) (key value : ByteArray) (mode : Int) (yes : Bool) (hk : key.size ≤ 9223372036854775807) (hv : value.size ≤ 9223372036854775807) (w : World) :
    Calls Tryz.prog 35 #[.agg #[.int .i64 4, .int .i64 tx, .int .i64 att, .int .i64 stamp, .int .i64 op, .string key, .string value, .int .i64 mode, .bool yes]] w fun e w' => e = .returned (.bool (rightC ⟨4, tx, att, stamp, op, key, value, mode, yes⟩)) ∧ Below w.heap.size w w' := by
  by_cases h1 : op < 0
  · go_enter Tryz.func35, Tryz.ntmps35
    go_wp2_with fail
    go_ret
    refine ⟨?_, bel_new _ _⟩
    simp only [rightC, numM, modeM]
    first | (simp [*]; done) | (simp [*]; intros; omega)
  by_cases h2 : 1048576 < op
  · go_enter Tryz.func35, Tryz.ntmps35
    go_wp2_with fail
    go_ret
    refine ⟨?_, bel_new _ _⟩
    simp only [rightC, numM, modeM]
    first | (simp [*]; done) | (simp [*]; intros; omega)
  by_cases h3 : 16 < key.size
  · have h3' : (16 : Int) < (key.size : Int) := by omega
    go_enter Tryz.func35, Tryz.ntmps35
    go_wp2_with fail
    go_ret
    refine ⟨?_, bel_new _ _⟩
    simp only [rightC, numM, modeM]
    first | (simp [*]; done) | (simp [*]; intros; omega)
  have h1' : 0 ≤ op := by omega
  have h2' : op ≤ 1048576 := by omega
  have h3' : ¬ (16 : Int) < (key.size : Int) := by omega
  have h3'' : key.size ≤ 16 := by omega
  cases yes with
  | false =>
    by_cases a1 : 0 ≤ tx
    rotate_left
    · go_enter Tryz.func35, Tryz.ntmps35
      go_wp2_with fail
      go_ret
      refine ⟨?_, bel_new _ _⟩
      simp only [rightC, numM, modeM]
      first | (simp [*]; done) | (simp [*]; intros; omega)
    by_cases a2 : tx ≤ 1048576
    rotate_left
    · go_enter Tryz.func35, Tryz.ntmps35
      go_wp2_with fail
      go_ret
      refine ⟨?_, bel_new _ _⟩
      simp only [rightC, numM, modeM]
      first | (simp [*]; done) | (simp [*]; intros; omega)
    by_cases a3 : 0 ≤ att
    rotate_left
    · go_enter Tryz.func35, Tryz.ntmps35
      go_wp2_with fail
      go_ret
      refine ⟨?_, bel_new _ _⟩
      simp only [rightC, numM, modeM]
      first | (simp [*]; done) | (simp [*]; intros; omega)
    by_cases a4 : att ≤ 1048576
    rotate_left
    · go_enter Tryz.func35, Tryz.ntmps35
      go_wp2_with fail
      go_ret
      refine ⟨?_, bel_new _ _⟩
      simp only [rightC, numM, modeM]
      first | (simp [*]; done) | (simp [*]; intros; omega)
    go_enter Tryz.func35, Tryz.ntmps35
    go_wp2_with fail
    go_ret
    refine ⟨?_, bel_new _ _⟩
    simp only [rightC, numM, modeM]
    first | (simp [*]; done) | (simp [*]; intros; omega)
  | true =>
    by_cases h4 : 32 < value.size
    · have h4' : (32 : Int) < (value.size : Int) := by omega
      go_enter Tryz.func35, Tryz.ntmps35
      go_wp2_with fail
      go_ret
      refine ⟨?_, bel_new _ _⟩
      simp only [rightC, numM, modeM]
      first | (simp [*]; done) | (simp [*]; intros; omega)
    have h4' : ¬ (32 : Int) < (value.size : Int) := by omega
    have h4'' : ¬ 32 < value.size := by omega
    by_cases a1 : 0 ≤ tx
    rotate_left
    · go_enter Tryz.func35, Tryz.ntmps35
      go_wp2_with fail
      go_ret
      refine ⟨?_, bel_new _ _⟩
      simp only [rightC, numM, modeM]
      first | (simp [*]; done) | (simp [*]; intros; omega)
    by_cases a2 : tx ≤ 1048576
    rotate_left
    · go_enter Tryz.func35, Tryz.ntmps35
      go_wp2_with fail
      go_ret
      refine ⟨?_, bel_new _ _⟩
      simp only [rightC, numM, modeM]
      first | (simp [*]; done) | (simp [*]; intros; omega)
    by_cases a3 : 0 ≤ att
    rotate_left
    · go_enter Tryz.func35, Tryz.ntmps35
      go_wp2_with fail
      go_ret
      refine ⟨?_, bel_new _ _⟩
      simp only [rightC, numM, modeM]
      first | (simp [*]; done) | (simp [*]; intros; omega)
    by_cases a4 : att ≤ 1048576
    rotate_left
    · go_enter Tryz.func35, Tryz.ntmps35
      go_wp2_with fail
      go_ret
      refine ⟨?_, bel_new _ _⟩
      simp only [rightC, numM, modeM]
      first | (simp [*]; done) | (simp [*]; intros; omega)
    go_enter Tryz.func35, Tryz.ntmps35
    go_wp2_with fail
    go_ret
    refine ⟨?_, bel_new _ _⟩
    simp only [rightC, numM, modeM]
    first | (simp [*]; done) | (simp [*]; intros; omega)
set_option maxRecDepth 100000 in
set_option maxHeartbeats 4000000 in
theorem right_k5 (tx att stamp op : Int) (key value : ByteArray) (mode : Int) (yes : Bool) (hk : key.size ≤ 9223372036854775807) (hv : value.size ≤ 9223372036854775807) (w : World) :
    Calls Tryz.prog 35 #[.agg #[.int .i64 5, .int .i64 tx, .int .i64 att, .int .i64 stamp, .int .i64 op, .string key, .string value, .int .i64 mode, .bool yes]] w fun e w' => e = .returned (.bool (rightC ⟨5, tx, att, stamp, op, key, value, mode, yes⟩)) ∧ Below w.heap.size w w' := by
  by_cases a1 : 0 ≤ tx
  rotate_left
  · go_enter Tryz.func35, Tryz.ntmps35
    go_wp2_with fail
    go_ret
    refine ⟨?_, bel_new _ _⟩
    simp only [rightC, numM, modeM]
    first | (simp [*]; done) | (simp [*]; intros; omega)
  by_cases a2 : tx ≤ 1048576
  rotate_left
  · go_enter Tryz.func35, Tryz.ntmps35
    go_wp2_with fail
    go_ret
    refine ⟨?_, bel_new _ _⟩
    simp only [rightC, numM, modeM]
    first | (simp [*]; done) | (simp [*]; intros; omega)
  by_cases a3 : 0 ≤ att
  rotate_left
  · go_enter Tryz.func35, Tryz.ntmps35
    go_wp2_with fail
    go_ret
    refine ⟨?_, bel_new _ _⟩
    simp only [rightC, numM, modeM]
    first | (simp [*]; done) | (simp [*]; intros; omega)
  by_cases a4 : att ≤ 1048576
  rotate_left
  · go_enter Tryz.func35, Tryz.ntmps35
    go_wp2_with fail
    go_ret
    refine ⟨?_, bel_new _ _⟩
    simp only [rightC, numM, modeM]
    first | (simp [*]; done) | (simp [*]; intros; omega)
  go_enter Tryz.func35, Tryz.ntmps35
  go_wp2_with fail
  go_ret
  refine ⟨?_, bel_new _ _⟩
  simp only [rightC, numM, modeM]
  first | (simp [*]; done) | (simp [*]; intros; omega)
set_option maxRecDepth 100000 in
set_option maxHeartbeats 4000000 in
theorem right_k6 (tx att stamp op : Int) (key value : ByteArray) (mode : Int) (yes : Bool) (hk : key.size ≤ 9223372036854775807) (hv : value.size ≤ 9223372036854775807) (w : World) :
    Calls Tryz.prog 35 #[.agg #[.int .i64 6, .int .i64 tx, .int .i64 att, .int .i64 stamp, .int .i64 op, .string key, .string value, .int .i64 mode, .bool yes]] w fun e w' => e = .returned (.bool (rightC ⟨6, tx, att, stamp, op, key, value, mode, yes⟩)) ∧ Below w.heap.size w w' := by
  by_cases a1 : 0 ≤ tx
  rotate_left
  · go_enter Tryz.func35, Tryz.ntmps35
    go_wp2_with fail
    go_ret
    refine ⟨?_, bel_new _ _⟩
    simp only [rightC, numM, modeM]
    first | (simp [*]; done) | (simp [*]; intros; omega)
  by_cases a2 : tx ≤ 1048576
  rotate_left
  · go_enter Tryz.func35, Tryz.ntmps35
    go_wp2_with fail
    go_ret
    refine ⟨?_, bel_new _ _⟩
    simp only [rightC, numM, modeM]
    first | (simp [*]; done) | (simp [*]; intros; omega)
  by_cases a3 : 0 ≤ att
  rotate_left
  · go_enter Tryz.func35, Tryz.ntmps35
    go_wp2_with fail
    go_ret
    refine ⟨?_, bel_new _ _⟩
    simp only [rightC, numM, modeM]
    first | (simp [*]; done) | (simp [*]; intros; omega)
  by_cases a4 : att ≤ 1048576
  rotate_left
  · go_enter Tryz.func35, Tryz.ntmps35
    go_wp2_with fail
    go_ret
    refine ⟨?_, bel_new _ _⟩
    simp only [rightC, numM, modeM]
    first | (simp [*]; done) | (simp [*]; intros; omega)
  go_enter Tryz.func35, Tryz.ntmps35
  go_wp2_with fail
  go_ret
  refine ⟨?_, bel_new _ _⟩
  simp only [rightC, numM, modeM]
  first | (simp [*]; done) | (simp [*]; intros; omega)
set_option maxRecDepth 100000 in
set_option maxHeartbeats 4000000 in
theorem right_k7 (tx att stamp op : Int) (key value : ByteArray) (mode : Int) (yes : Bool) (hk : key.size ≤ 9223372036854775807) (hv : value.size ≤ 9223372036854775807) (w : World) :
    Calls Tryz.prog 35 #[.agg #[.int .i64 7, .int .i64 tx, .int .i64 att, .int .i64 stamp, .int .i64 op, .string key, .string value, .int .i64 mode, .bool yes]] w fun e w' => e = .returned (.bool (rightC ⟨7, tx, att, stamp, op, key, value, mode, yes⟩)) ∧ Below w.heap.size w w' := by
  by_cases a1 : 0 ≤ tx
  rotate_left
  · go_enter Tryz.func35, Tryz.ntmps35
    go_wp2_with fail
    go_ret
    refine ⟨?_, bel_new _ _⟩
    simp only [rightC, numM, modeM]
    first | (simp [*]; done) | (simp [*]; intros; omega)
  by_cases a2 : tx ≤ 1048576
  rotate_left
  · go_enter Tryz.func35, Tryz.ntmps35
    go_wp2_with fail
    go_ret
    refine ⟨?_, bel_new _ _⟩
    simp only [rightC, numM, modeM]
    first | (simp [*]; done) | (simp [*]; intros; omega)
  by_cases a3 : 0 ≤ att
  rotate_left
  · go_enter Tryz.func35, Tryz.ntmps35
    go_wp2_with fail
    go_ret
    refine ⟨?_, bel_new _ _⟩
    simp only [rightC, numM, modeM]
    first | (simp [*]; done) | (simp [*]; intros; omega)
  by_cases a4 : att ≤ 1048576
  rotate_left
  · go_enter Tryz.func35, Tryz.ntmps35
    go_wp2_with fail
    go_ret
    refine ⟨?_, bel_new _ _⟩
    simp only [rightC, numM, modeM]
    first | (simp [*]; done) | (simp [*]; intros; omega)
  go_enter Tryz.func35, Tryz.ntmps35
  go_wp2_with fail
  go_ret
  refine ⟨?_, bel_new _ _⟩
  simp only [rightC, numM, modeM]
  first | (simp [*]; done) | (simp [*]; intros; omega)
set_option maxRecDepth 100000 in
set_option maxHeartbeats 4000000 in
theorem right_k8 (tx att stamp op : Int) (key value : ByteArray) (mode : Int) (yes : Bool) (hk : key.size ≤ 9223372036854775807) (hv : value.size ≤ 9223372036854775807) (w : World) :
    Calls Tryz.prog 35 #[.agg #[.int .i64 8, .int .i64 tx, .int .i64 att, .int .i64 stamp, .int .i64 op, .string key, .string value, .int .i64 mode, .bool yes]] w fun e w' => e = .returned (.bool (rightC ⟨8, tx, att, stamp, op, key, value, mode, yes⟩)) ∧ Below w.heap.size w w' := by
  by_cases a1 : 0 ≤ tx
  rotate_left
  · go_enter Tryz.func35, Tryz.ntmps35
    go_wp2_with fail
    go_ret
    refine ⟨?_, bel_new _ _⟩
    simp only [rightC, numM, modeM]
    first | (simp [*]; done) | (simp [*]; intros; omega)
  by_cases a2 : tx ≤ 1048576
  rotate_left
  · go_enter Tryz.func35, Tryz.ntmps35
    go_wp2_with fail
    go_ret
    refine ⟨?_, bel_new _ _⟩
    simp only [rightC, numM, modeM]
    first | (simp [*]; done) | (simp [*]; intros; omega)
  by_cases a3 : 0 ≤ att
  rotate_left
  · go_enter Tryz.func35, Tryz.ntmps35
    go_wp2_with fail
    go_ret
    refine ⟨?_, bel_new _ _⟩
    simp only [rightC, numM, modeM]
    first | (simp [*]; done) | (simp [*]; intros; omega)
  by_cases a4 : att ≤ 1048576
  rotate_left
  · go_enter Tryz.func35, Tryz.ntmps35
    go_wp2_with fail
    go_ret
    refine ⟨?_, bel_new _ _⟩
    simp only [rightC, numM, modeM]
    first | (simp [*]; done) | (simp [*]; intros; omega)
  go_enter Tryz.func35, Tryz.ntmps35
  go_wp2_with fail
  go_ret
  refine ⟨?_, bel_new _ _⟩
  simp only [rightC, numM, modeM]
  first | (simp [*]; done) | (simp [*]; intros; omega)
theorem right_no (k tx att stamp op : Int) (key value : ByteArray) (mode : Int) (yes : Bool) (h : ¬ (1 ≤ k ∧ k ≤ 9)) (w : World) :
    Calls Tryz.prog 35 #[.agg #[.int .i64 k, .int .i64 tx, .int .i64 att, .int .i64 stamp, .int .i64 op, .string key, .string value, .int .i64 mode, .bool yes]] w fun e w' => e = .returned (.bool false) ∧ Below w.heap.size w w' := by
  have b1 : (k == 1) = false := by rw [beq_eq_false_iff_ne]; omega
  have b2 : (k == 2) = false := by rw [beq_eq_false_iff_ne]; omega
  have b3 : (k == 3) = false := by rw [beq_eq_false_iff_ne]; omega
  have b4 : (k == 4) = false := by rw [beq_eq_false_iff_ne]; omega
  have b5 : (k == 5) = false := by rw [beq_eq_false_iff_ne]; omega
  have b6 : (k == 6) = false := by rw [beq_eq_false_iff_ne]; omega
  have b7 : (k == 7) = false := by rw [beq_eq_false_iff_ne]; omega
  have b8 : (k == 8) = false := by rw [beq_eq_false_iff_ne]; omega
  have b9 : (k == 9) = false := by rw [beq_eq_false_iff_ne]; omega
  clear h
  go_enter Tryz.func35, Tryz.ntmps35
  go_wp2_with fail
  go_ret
  exact ⟨rfl, bel_new _ _⟩
theorem right_9 (tx att stamp op : Int) (key value : ByteArray) (mode : Int) (yes : Bool) (w : World) :
    Calls Tryz.prog 35 #[.agg #[.int .i64 9, .int .i64 tx, .int .i64 att, .int .i64 stamp, .int .i64 op, .string key, .string value, .int .i64 mode, .bool yes]] w fun e w' => e = .returned (.bool true) ∧ Below w.heap.size w w' := by
  go_enter Tryz.func35, Tryz.ntmps35
  go_wp2_with fail
  go_ret
  exact ⟨rfl, bel_new _ _⟩
theorem cright_any (c : Cm) (hk : c.key.size ≤ maxLen) (hv : c.value.size ≤ maxLen) (w : World) : Calls Tryz.prog 35 #[c.val] w fun e w' => e = .returned (.bool (rightC c)) ∧ Below w.heap.size w w' := by
  obtain ⟨k, tx, att, stamp, op, key, value, mode, yes⟩ := c
  unfold maxLen at hk hv
  have hk' : key.size ≤ 9223372036854775807 := hk
  have hv' : value.size ≤ 9223372036854775807 := hv
  by_cases h : 1 ≤ k ∧ k ≤ 9
  · rcases (show k = 1 ∨ k = 2 ∨ k = 3 ∨ k = 4 ∨ k = 5 ∨ k = 6 ∨ k = 7 ∨ k = 8 ∨ k = 9 by omega) with rfl | rfl | rfl | rfl | rfl | rfl | rfl | rfl | rfl
    · exact right_k1 tx att stamp op key value mode yes hk' hv' w
    · exact right_k2 tx att stamp op key value mode yes hk' hv' w
    · exact right_k3 tx att stamp op key value mode yes hk' hv' w
    · exact right_k4 tx att stamp op key value mode yes hk' hv' w
    · exact right_k5 tx att stamp op key value mode yes hk' hv' w
    · exact right_k6 tx att stamp op key value mode yes hk' hv' w
    · exact right_k7 tx att stamp op key value mode yes hk' hv' w
    · exact right_k8 tx att stamp op key value mode yes hk' hv' w
    · exact right_9 tx att stamp op key value mode yes w
  · have e : rightC ⟨k, tx, att, stamp, op, key, value, mode, yes⟩ = false := by
      unfold rightC
      simp only
      rw [if_neg (by omega), if_neg (by omega), if_neg (by omega), if_neg (by omega), if_neg (by omega), if_neg (by omega)]
    rw [e]
    exact right_no k tx att stamp op key value mode yes h w
end Go.Proofs.YtmifgnibalbgjaaGreat
