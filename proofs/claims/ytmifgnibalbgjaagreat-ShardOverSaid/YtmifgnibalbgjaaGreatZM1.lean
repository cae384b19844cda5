/- The shard in memory. -/
import Derived.Test.YtmifgnibalbgjaaGreatZLK
import Derived.Test.YtmifgnibalbgjaaGreatZLG
import Derived.Test.YtmifgnibalbgjaaGreatZIy
namespace Go.Proofs.YtmifgnibalbgjaaGreat
open Go.RowKit
/-- A command. -/
structure Cm where
  kind : Int
  tx : Int
  att : Int
  stamp : Int
  op : Int
  key : ByteArray
  value : ByteArray
  mode : Int
  yes : Bool
deriving DecidableEq
abbrev Cm.val (c : Cm) : Value := .agg #[.int .i64 c.kind, .int .i64 c.tx, .int .i64 c.att, .int .i64 c.stamp, .int .i64 c.op, .string c.key, .string c.value, .int .i64 c.mode, .bool c.yes]
abbrev Cm.arr (c : Cm) : Array Value := #[.int .i64 c.kind, .int .i64 c.tx, .int .i64 c.att, .int .i64 c.stamp, .int .i64 c.op, .string c.key, .string c.value, .int .i64 c.mode, .bool c.yes]
/-- A reply. -/
structure Rp where
  code : Int
  state : Int
  v : ByteArray
  h : Bool
abbrev Rp.val (r : Rp) : Value := .agg #[.int .i64 r.code, .int .i64 r.state, .string r.v, .bool r.h]
/-- Who lives here. -/
structure Lv where
  att : Int
  last : Cm
  ws : List Wr
/-- The same, and where what it wrote lies. -/
structure Le where
  att : Int
  last : Cm
  a : Option Addr
  n : Nat
  c : Nat
  ws : List Wr
abbrev Le.val (e : Le) : Value := .agg #[.int .i64 e.att, .int .i64 e.last.kind, .int .i64 e.last.tx, .int .i64 e.last.att, .int .i64 e.last.stamp, .int .i64 e.last.op, .string e.last.key, .string e.last.value, .int .i64 e.last.mode, .bool e.last.yes, .slice e.a e.n e.c]
abbrev Le.row (e : Le) : Asn := RowA 43 3 e.a e.n e.c (wrFlat e.ws)
def Le.lv (e : Le) : Lv := ⟨e.att, e.last, e.ws⟩
structure Sh where
  clock : Int
  moment : Int
  cells : Cl
  clast : Int
  locks : List Li
  rows : List Rw
  lives : List (Int × Lv)
  dones : List (Int × Int)
def lvE (E : List (Int × Le)) : List (Int × Lv) := E.map fun x => (x.1, x.2.lv)
def dnV (L : List (Int × Int)) : List (Int × Value) := L.map fun x => (x.1, .int .i64 x.2)
abbrev shL (g pc pl ps bl bd : Nat) (E : List (Int × Le)) (S : Sh) : List Asn :=
  [BlockA g #[.int .i64 S.clock, .int .i64 S.moment, .pointer (some ⟨pc, 0, none⟩), .pointer (some ⟨pl, 0, none⟩), .pointer (some ⟨ps, 0, none⟩), .map (some bl), .map (some bd)] 99,
   CellsA pc S.cells S.clast, TabA pl S.locks, StA ps S.rows, KRowsA (intK Tryz.underlying3) Le.val Le.row bl E, KMapA (intK Tryz.underlying3) bd (dnV S.dones)]
/-- The shard at block g. -/
def ShA (g : Nat) (S : Sh) : Asn := fun w D => ∃ pc pl ps bl bd E, lvE E = S.lives ∧ All (shL g pc pl ps bl bd E S) w D
instance {g : Nat} {S : Sh} : Stable (ShA g S) where
  lt := fun ⟨_, _, _, _, _, _, _, h⟩ => (allStable).lt h
  keep := fun ⟨pc, pl, ps, bl, bd, E, e, h⟩ hk => ⟨pc, pl, ps, bl, bd, E, e, (allStable).keep h hk⟩
theorem Mem.shOpen {w0 w : World} {D0 : List Nat} {g : Nat} {S : Sh} {r : List Asn} (h : Mem w0 D0 w (ShA g S :: r)) : ∃ pc pl ps bl bd E, lvE E = S.lives ∧ Mem w0 D0 w
    (BlockA g #[.int .i64 S.clock, .int .i64 S.moment, .pointer (some ⟨pc, 0, none⟩), .pointer (some ⟨pl, 0, none⟩), .pointer (some ⟨ps, 0, none⟩), .map (some bl), .map (some bd)] 99 ::
      CellsA pc S.cells S.clast :: TabA pl S.locks :: StA ps S.rows :: KRowsA (intK Tryz.underlying3) Le.val Le.row bl E :: KMapA (intK Tryz.underlying3) bd (dnV S.dones) :: r) := by
  obtain ⟨D, ⟨D1, D2, rfl, hd, ⟨pc, pl, ps, bl, bd, E, e, h1⟩, h2⟩, hD⟩ := h.out
  exact ⟨pc, pl, ps, bl, bd, E, e, _, all_mk (l := shL g pc pl ps bl bd E S) h1 h2 hd, hD⟩
theorem Mem.shShut {w0 w : World} {D0 : List Nat} {g pc pl ps bl bd : Nat} {E : List (Int × Le)} (S : Sh) {r : List Asn} (e : lvE E = S.lives) (h : Mem w0 D0 w
    (BlockA g #[.int .i64 S.clock, .int .i64 S.moment, .pointer (some ⟨pc, 0, none⟩), .pointer (some ⟨pl, 0, none⟩), .pointer (some ⟨ps, 0, none⟩), .map (some bl), .map (some bd)] 99 ::
      CellsA pc S.cells S.clast :: TabA pl S.locks :: StA ps S.rows :: KRowsA (intK Tryz.underlying3) Le.val Le.row bl E :: KMapA (intK Tryz.underlying3) bd (dnV S.dones) :: r)) : Mem w0 D0 w (ShA g S :: r) := by
  obtain ⟨D, hA, hD⟩ := h.out
  obtain ⟨D1, D2, rfl, hd, h1, h2⟩ := all_append (shL g pc pl ps bl bd E S) r hA
  exact ⟨D1 ++ D2, ⟨D1, D2, rfl, hd, ⟨pc, pl, ps, bl, bd, E, e, h1⟩, h2⟩, hD⟩
theorem cm_neq (c d : Cm) (w : World) : (binOp .neq 28 c.val d.val).run Tryz.prog w = .ok (.bool (!decide (c = d))) w := by
  obtain ⟨a1, a2, a3, a4, a5, a6, a7, a8, a9⟩ := c
  obtain ⟨b1, b2, b3, b4, b5, b6, b7, b8, b9⟩ := d
  by_cases e : (⟨a1, a2, a3, a4, a5, a6, a7, a8, a9⟩ : Cm) = ⟨b1, b2, b3, b4, b5, b6, b7, b8, b9⟩
  · rw [decide_eq_true e]
    simp only [Cm.mk.injEq] at e
    obtain ⟨rfl, rfl, rfl, rfl, rfl, rfl, rfl, rfl, rfl⟩ := e
    go_simp
  · rw [decide_eq_false e]
    go_simp
    intro h1 h2 h3 h4 h5 h6 h7 h8 h9
    obtain rfl := toList_inj h6
    obtain rfl := toList_inj h7
    subst h1 h2 h3 h4 h5 h8 h9
    exact e rfl
def numM (c : Cm) : Bool := decide (0 ≤ c.tx) && decide (c.tx ≤ 1048576) && decide (0 ≤ c.att) && decide (c.att ≤ 1048576)
def overM (S : Sh) (tx att : Int) : Bool := match kGet tx S.dones with
  | some d => decide (att ≤ d)
  | none => false
def zeroC : Cm := ⟨0, 0, 0, 0, 0, ⟨#[]⟩, ⟨#[]⟩, 0, false⟩
def zeroL : Lv := ⟨0, zeroC, []⟩
def liveM (S : Sh) (tx : Int) : Lv := (kGet tx S.lives).getD zeroL
def livesM (S : Sh) (tx : Int) : Bool := (kGet tx S.lives).isSome
theorem zero3 (w : World) : (zeroValue 3).run Tryz.prog w = .ok (.int .i64 0) w := by kernel_rfl
theorem zero108 (w : World) : (zeroValue 108).run Tryz.prog w = .ok (Le.val ⟨0, zeroC, none, 0, 0, []⟩) w := by kernel_rfl
theorem wf_i64 {n : Int} (h : -9223372036854775808 ≤ n ∧ n ≤ 9223372036854775807) : (Lit.int .i64 n).wf = true := by
  simp [Lit.wf, IntKind.min, IntKind.max, IntKind.signed, IntKind.bits]; omega
/-- a look into the dones. -/
theorem sh_dones {w0 w : World} {D0 : List Nat} {g pc pl ps bl bd : Nat} {E : List (Int × Le)} {S : Sh} {r : List Asn} [Stables r] (h : Mem w0 D0 w
    (BlockA g #[.int .i64 S.clock, .int .i64 S.moment, .pointer (some ⟨pc, 0, none⟩), .pointer (some ⟨pl, 0, none⟩), .pointer (some ⟨ps, 0, none⟩), .map (some bl), .map (some bd)] 99 ::
      CellsA pc S.cells S.clast :: TabA pl S.locks :: StA ps S.rows :: KRowsA (intK Tryz.underlying3) Le.val Le.row bl E :: KMapA (intK Tryz.underlying3) bd (dnV S.dones) :: r)) {tx : Int} (htx : -9223372036854775808 ≤ tx ∧ tx ≤ 9223372036854775807) :
    (Instr.lookup 97 (.map (some bd)) (.int .i64 tx) true).run Tryz.prog w = .ok (.tuple #[.int .i64 ((kGet tx S.dones).getD 0), .bool (kGet tx S.dones).isSome]) w := by
  have h1 := (Mem.kLook [BlockA g #[.int .i64 S.clock, .int .i64 S.moment, .pointer (some ⟨pc, 0, none⟩), .pointer (some ⟨pl, 0, none⟩), .pointer (some ⟨ps, 0, none⟩), .map (some bl), .map (some bd)] 99,
      CellsA pc S.cells S.clast, TabA pl S.locks, StA ps S.rows, KRowsA (intK Tryz.underlying3) Le.val Le.row bl E] (r := r) h Tryz.underlying97 (zero3 w) (x := tx) (wf_i64 htx)).1
  unfold dnV at h1
  rw [kGet_map (fun x : Int => Value.int .i64 x)] at h1
  cases hg : kGet tx S.dones <;> rw [hg] at h1 <;> exact h1
/-- a look at who lives. -/
theorem sh_lives {w0 w : World} {D0 : List Nat} {g pc pl ps bl bd : Nat} {E : List (Int × Le)} {S : Sh} {r : List Asn} [Stables r] (h : Mem w0 D0 w
    (BlockA g #[.int .i64 S.clock, .int .i64 S.moment, .pointer (some ⟨pc, 0, none⟩), .pointer (some ⟨pl, 0, none⟩), .pointer (some ⟨ps, 0, none⟩), .map (some bl), .map (some bd)] 99 ::
      CellsA pc S.cells S.clast :: TabA pl S.locks :: StA ps S.rows :: KRowsA (intK Tryz.underlying3) Le.val Le.row bl E :: KMapA (intK Tryz.underlying3) bd (dnV S.dones) :: r)) {tx : Int} (htx : -9223372036854775808 ≤ tx ∧ tx ≤ 9223372036854775807) :
    (Instr.lookup 96 (.map (some bl)) (.int .i64 tx) true).run Tryz.prog w = .ok (.tuple #[((kGet tx E).getD ⟨0, zeroC, none, 0, 0, []⟩).val, .bool (kGet tx E).isSome]) w ∧
    (Instr.lookup 96 (.map (some bl)) (.int .i64 tx) false).run Tryz.prog w = .ok (((kGet tx E).getD ⟨0, zeroC, none, 0, 0, []⟩).val) w := by
  have h1 := (Mem.krLook [BlockA g #[.int .i64 S.clock, .int .i64 S.moment, .pointer (some ⟨pc, 0, none⟩), .pointer (some ⟨pl, 0, none⟩), .pointer (some ⟨ps, 0, none⟩), .map (some bl), .map (some bd)] 99,
      CellsA pc S.cells S.clast, TabA pl S.locks, StA ps S.rows] (r := KMapA (intK Tryz.underlying3) bd (dnV S.dones) :: r) h Tryz.underlying96 (zero108 w) (x := tx) (wf_i64 htx))
  cases hg : kGet tx E <;> rw [hg] at h1 <;> exact h1
theorem lvE_get (E : List (Int × Le)) (tx : Int) : kGet tx (lvE E) = (kGet tx E).map Le.lv := kGet_map Le.lv tx E
set_option maxRecDepth 100000 in
set_option maxHeartbeats 800000 in
theorem over_any (g : Nat) (S : Sh) (tx att : Int) (w : World) {D : List Nat} (h : ShA g S w D) (htx : -9223372036854775808 ≤ tx ∧ tx ≤ 9223372036854775807) :
    Calls Tryz.prog 81 #[.pointer (some ⟨g, 0, none⟩), .int .i64 tx, .int .i64 att] w fun e w' => e = .returned (.bool (overM S tx att)) ∧ w = w' := by
  obtain ⟨pc, pl, ps, bl, bd, E, e, M⟩ := Mem.shOpen (Mem.start h)
  have hl := sh_dones M htx
  have hc := (Mem.cellAt (i := 6) (v := .map (some bd)) [] (r := [CellsA pc S.cells S.clast, TabA pl S.locks, StA ps S.rows, KRowsA (intK Tryz.underlying3) Le.val Le.row bl E, KMapA (intK Tryz.underlying3) bd (dnV S.dones)]) M rfl).1
  unfold overM
  clear M e h
  cases hg : kGet tx S.dones with
  | none =>
    rw [hg] at hl
    simp only [Option.getD_none, Option.isSome_none] at hl
    go_enter Tryz.func81, Tryz.ntmps81
    go_wp2_with fail
    go_ret
    exact ⟨rfl, rfl⟩
  | some d =>
    rw [hg] at hl
    simp only [Option.getD_some, Option.isSome_some] at hl
    go_enter Tryz.func81, Tryz.ntmps81
    go_wp2_with fail
    go_ret
    exact ⟨rfl, rfl⟩
end Go.Proofs.YtmifgnibalbgjaaGreat
