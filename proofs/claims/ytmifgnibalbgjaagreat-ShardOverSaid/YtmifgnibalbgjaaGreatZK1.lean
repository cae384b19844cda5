/- The cells in memory; what a key has. -/
import Derived.Test.YtmifgnibalbgjaaGreatZShelf
import Derived.Test.YtmifgnibalbgjaaGreatZKM
import Derived.Test.YtmifgnibalbgjaaGreatZTill
namespace Go.Proofs.YtmifgnibalbgjaaGreat
open Go.RowKit
/-- A key's versions: where they lie. -/
structure Ve where
  a : Option Addr
  n : Nat
  c : Nat
  l : List Ver
abbrev Ve.val (e : Ve) : Value := .slice e.a e.n e.c
abbrev Ve.row (e : Ve) : Asn := RowA 162 3 e.a e.n e.c (veFlat e.l)
abbrev Cl := List (ByteArray × List Ver)
def vesC (E : List (ByteArray × Ve)) : Cl := E.map fun x => (x.1, x.2.l)
abbrev clL (p b : Nat) (E : List (ByteArray × Ve)) (last : Int) : List Asn := [BlockA p #[.map (some b), .int .i64 last, .int .i64 0] 142, KRowsA (strK Tryz.underlying9) Ve.val Ve.row b E]
/-- The cells at block p. -/
def CellsA (p : Nat) (C : Cl) (last : Int) : Asn := fun w D => ∃ b E, vesC E = C ∧ All (clL p b E last) w D
instance {p : Nat} {C : Cl} {last : Int} : Stable (CellsA p C last) where
  lt := fun ⟨_, _, _, h⟩ => (allStable).lt h
  keep := fun ⟨b, E, e, h⟩ hk => ⟨b, E, e, (allStable).keep h hk⟩
theorem Mem.cellsOpen {w0 w : World} {D0 : List Nat} {p : Nat} {C : Cl} {last : Int} {r : List Asn} (h : Mem w0 D0 w (CellsA p C last :: r)) : ∃ b E, vesC E = C ∧ Mem w0 D0 w (BlockA p #[.map (some b), .int .i64 last, .int .i64 0] 142 :: KRowsA (strK Tryz.underlying9) Ve.val Ve.row b E :: r) := by
  obtain ⟨D, ⟨D1, D2, rfl, hd, ⟨b, E, e, h1⟩, h2⟩, hD⟩ := h.out
  exact ⟨b, E, e, _, all_mk (l := clL p b E last) h1 h2 hd, hD⟩
theorem Mem.cellsShut {w0 w : World} {D0 : List Nat} {p b : Nat} {E : List (ByteArray × Ve)} {C : Cl} {last : Int} {r : List Asn} (e : vesC E = C) (h : Mem w0 D0 w (BlockA p #[.map (some b), .int .i64 last, .int .i64 0] 142 :: KRowsA (strK Tryz.underlying9) Ve.val Ve.row b E :: r)) : Mem w0 D0 w (CellsA p C last :: r) := by
  obtain ⟨D, hA, hD⟩ := h.out
  obtain ⟨D1, D2, rfl, hd, h1, h2⟩ := all_append (clL p b E last) r hA
  exact ⟨D1 ++ D2, ⟨D1, D2, rfl, hd, ⟨b, E, e, h1⟩, h2⟩, hD⟩
def versM (C : Cl) (k : ByteArray) : List Ver := (kGet k C).getD []
theorem zero62 (w : World) : (zeroValue 62).run Tryz.prog w = .ok (.slice none 0 0) w := by kernel_rfl
theorem versM_E (E : List (ByteArray × Ve)) (k : ByteArray) : versM (vesC E) k = ((kGet k E).map (·.l)).getD [] := by
  unfold versM vesC
  rw [kGet_map (fun e : Ve => e.l)]
/-- A key's versions, looked up. -/
theorem cells_look {p : Nat} {C : Cl} {last : Int} {w : World} {D : List Nat} (h : CellsA p C last w D) {k : ByteArray} (hk : k.size ≤ maxLen) :
    ∃ b a n c, w.cell? ⟨p, 0, none⟩ = some (.map (some b)) ∧ (Instr.lookup 140 (.map (some b)) (.string k) false).run Tryz.prog w = .ok (.slice a n c) w ∧ SrcV w 3 a n (veFlat (versM C k)) := by
  obtain ⟨b, E, e, hM⟩ := Mem.cellsOpen (Mem.start h)
  have hc := (Mem.cellAt (i := 0) (v := .map (some b)) [] (r := [KRowsA (strK Tryz.underlying9) Ve.val Ve.row b E]) hM rfl).1
  have hl := (Mem.krLook [BlockA p #[.map (some b), .int .i64 last, .int .i64 0] 142] (r := []) hM Tryz.underlying140 (zero62 w) (x := k) hk).2
  subst e
  cases hg : kGet k E with
  | none =>
    rw [hg] at hl
    refine ⟨b, none, 0, 0, hc, hl, ?_⟩
    rw [versM_E, hg]
    exact ⟨rfl, .inl rfl⟩
  | some x =>
    rw [hg] at hl
    refine ⟨b, x.a, x.n, x.c, hc, hl, ?_⟩
    rw [versM_E, hg]
    obtain ⟨A, B, hE, hA, hB, hO⟩ := Mem.krOpen [BlockA p #[.map (some b), .int .i64 last, .int .i64 0] 142] (r := []) hM hg
    have sA : Stables (A.map fun p => Ve.row p.2) := stables_map (fun _ => inferInstance) A
    have sB : Stables (B.map fun p => Ve.row p.2) := stables_map (fun _ => inferInstance) B
    exact SrcV.row (Mem.rowAt _ hO)
/-- The rows of versions rise, and aren't too long. -/
structure COk (N : Nat) (C : Cl) : Prop where
  len : C.length ≤ N
  rows : ∀ x ∈ C, SortV x.2 ∧ x.2.length ≤ N ∧ x.2 ≠ []
theorem COk.vers {N : Nat} {C : Cl} (h : COk N C) (k : ByteArray) : SortV (versM C k) ∧ (versM C k).length ≤ N := by
  unfold versM
  cases hg : kGet k C with
  | none => exact ⟨List.Pairwise.nil, Nat.zero_le _⟩
  | some l => exact ⟨(h.rows _ (kGet_mem hg)).1, (h.rows _ (kGet_mem hg)).2.1⟩
set_option maxRecDepth 100000 in
set_option maxHeartbeats 800000 in
theorem cells_get {p : Nat} {C : Cl} {last : Int} {w : World} {D : List Nat} (h : CellsA p C last w D) (ok : COk 1000 C) (k : ByteArray) (hk : k.size ≤ maxLen) :
    Calls Tryz.prog 45 #[.pointer (some ⟨p, 0, none⟩), .string k] w fun e w' => e = .returned (.tuple #[.string (valM (versM C k) 1099511627776).1, .bool (valM (versM C k) 1099511627776).2]) ∧ Below w.heap.size w w' := by
  obtain ⟨b, a, n, c, hc, hl, hs⟩ := cells_look h hk
  obtain ⟨h1, h2⟩ := ok.vers k
  have HV := Lib.hid (value_any a n c _ 1099511627776 w hs h1 (by have := (srcV_ve hs).1; omega))
  clear h hs ok hk h1 h2
  generalize valM (versM C k) 1099511627776 = v at *
  obtain ⟨v1, v2⟩ := v
  go_enter Tryz.func45, Tryz.ntmps45
  go_wp2_with fail
  refine HV.out.mono ?_
  rintro e w2 ⟨rfl, hb⟩
  go_wp2_with fail
  go_ret2
  exact ⟨rfl, hb⟩
/-- At, of a moment that there is. -/
def atM (C : Cl) (k : ByteArray) (t : Int) : ByteArray × Bool × Int := if decide (0 ≤ t) && decide (t ≤ 1099511627776) then ((valM (versM C k) t).1, (valM (versM C k) t).2, 0) else (⟨#[]⟩, false, 1)
set_option maxRecDepth 100000 in
set_option maxHeartbeats 800000 in
theorem cells_at {p : Nat} {C : Cl} {last : Int} {w : World} {D : List Nat} (h : CellsA p C last w D) (ok : COk 1000 C) (k : ByteArray) (t : Int) (hk : k.size ≤ maxLen) :
    Calls Tryz.prog 46 #[.pointer (some ⟨p, 0, none⟩), .string k, .int .i64 t] w fun e w' => e = .returned (.tuple #[.string (atM C k t).1, .bool (atM C k t).2.1, .int .i64 (atM C k t).2.2]) ∧ Below w.heap.size w w' := by
  obtain ⟨b, a, n, c, hc, hl, hs⟩ := cells_look h hk
  obtain ⟨b', E, e, hM⟩ := Mem.cellsOpen (Mem.start h)
  have hc2 := (Mem.cellAt (i := 2) (v := .int .i64 0) [] (r := [KRowsA (strK Tryz.underlying9) Ve.val Ve.row b' E]) hM rfl).1
  obtain ⟨h1, h2⟩ := ok.vers k
  have HV := Lib.hid (value_any a n c _ t w hs h1 (by have := (srcV_ve hs).1; omega))
  have HM := Lib.hid (moment_any t w)
  unfold atM
  cases hm : (decide (0 ≤ t) && decide (t ≤ 1099511627776)) with
  | false =>
    rw [hm] at HM
    clear h hs ok hk h1 h2 hM hm
    go_enter Tryz.func46, Tryz.ntmps46
    go_wp2_with fail
    refine HM.out.mono ?_
    rintro e w2 ⟨rfl, rfl⟩
    go_wp2_with fail
    go_ret3
    exact ⟨rfl, Below.refl _ _⟩
  | true =>
    rw [hm] at HM
    have ht0 : ¬ t < 0 := by simp at hm; omega
    clear h hs ok hk h1 h2 hM hm
    generalize valM (versM C k) t = v at *
    obtain ⟨v1, v2⟩ := v
    go_enter Tryz.func46, Tryz.ntmps46
    go_wp2_with fail
    refine HM.out.mono ?_
    rintro e w2 ⟨rfl, rfl⟩
    go_wp2_with fail
    refine HV.out.mono ?_
    rintro e w2 ⟨rfl, hb⟩
    go_wp2_with fail
    go_ret3
    exact ⟨rfl, hb⟩
end Go.Proofs.YtmifgnibalbgjaaGreat
