/- A version is put. -/
import Derived.Test.YtmifgnibalbgjaaGreatZK1
namespace Go.Proofs.YtmifgnibalbgjaaGreat
open Go.RowKit
theorem Mem.head {w0 w : World} {D0 : List Nat} {r : List Asn} [Stables r] {A : Asn} [Stable A] (h : Mem w0 D0 w (A :: r)) {Q : Ending → Prop} {P : Program} {f : Nat} {args : Array Value} {B : Ending → List Asn}
    (hc : ∀ D, A w D → Calls P f args w fun e w' => Q e ∧ Mem w D w' (B e)) : Calls P f args w fun e w' => Q e ∧ Mem w0 D0 w' (B e ++ r) := by
  obtain ⟨D, hA, kk⟩ := Mem.focus [] h
  refine (hc D hA).mono ?_
  rintro e w' ⟨hq, hm⟩
  obtain ⟨D', h1, h2⟩ := hm.out
  exact ⟨hq, kk _ w' D' h1 h2⟩
def cutV (l : List Ver) (t : Int) : List Ver := if (l.getLast?.map fun u => decide (u.at_ = t)) = some true then l.dropLast else l
/-- a row with one more version. -/
def addV (l : List Ver) (v : Ver) : List Ver := cutV l v.at_ ++ [v]
def ltK (a b : ByteArray) : Bool := bytesBefore a.data.toList b.data.toList
def momM (t : Int) : Bool := decide (0 ≤ t) && decide (t ≤ 1099511627776)
def cputM (C : Cl) (last : Int) (k v : ByteArray) (h : Bool) (t : Int) : Int × Cl × Int :=
  if 16 < k.size ∨ 32 < v.size ∨ momM t = false then (1, C, last)
  else if t < last ∨ t ≤ 0 then (5, C, last)
  else (0, kPut ltK k (addV (versM C k) ⟨t, if h then v else ⟨#[]⟩, h⟩) C, t)
theorem veFlat_one1 (v : Ver) : veFlat [v] = veCells v := rfl
theorem info162 : (Tryz.prog.info? 162).map (fun i => (i.zero, i.size, i.bytes)) = some (some (.agg #[.int .i64 0, .string ⟨#[]⟩, .bool false]), 3, 32) := by kernel_rfl
theorem Row.shrink {w : World} {E k n c m : Nat} {a : Option Addr} {xs : List Value} (h : Row w E k a n c xs) (hm : m ≤ n) (h0 : a ≠ none) : Row w E k a m c (xs.take (m * k)) := by
  rcases h.out with ⟨rfl, _⟩ | ⟨g, cur, rfl, hg, h1, h2, h3, h4, h5⟩
  · exact absurd rfl h0
  · refine Row.mk hg (by omega) h2 h3 ?_
    rw [← h4, List.take_take, Nat.min_eq_left (Nat.mul_le_mul_right k hm)]
/-- The append and the store into the map: a new key. -/
theorem cput_new {w0 w : World} {D0 : List Nat} {p b : Nat} {E : List (ByteArray × Ve)} {last : Int} {r : List Asn} [Stables r] (M : Mem w0 D0 w (BlockA p #[.map (some b), .int .i64 last, .int .i64 0] 142 :: KRowsA (strK Tryz.underlying9) Ve.val Ve.row b E :: r)) {k : ByteArray} (hk : k.size ≤ maxLen) (hg : kGet k E = none) (hn : E.length ≤ 1000) (v : Ver) :
    ∃ a' c' w1 w2, (Builtin.append_ #[62, 62] 62 #[.slice none 0 0, .slice (some ⟨w.heap.size, 0, none⟩) 1 1]).run Tryz.prog (w.alloc (.cells #[.int .i64 v.at_, .string v.v, .bool v.h] 162)) = .ok (.slice a' 1 c') w1 ∧ w1.cell? ⟨p, 0, none⟩ = some (.map (some b)) ∧ (Instr.mapUpdate 140 (.map (some b)) (.string k) (.slice a' 1 c')).run Tryz.prog w1 = .ok () w2 ∧
      w2.cell? ⟨p, 1, none⟩ = some (.int .i64 last) ∧ w2.frozen? ⟨p, 1, none⟩ = false ∧ ∀ t : Int, Mem w0 D0 (w2.setCell ⟨p, 1, none⟩ (.int .i64 t)) (CellsA p (kPut ltK k ([] ++ [v]) (vesC E)) t :: r) := by
  have M0 := M.new (Below.refl _ _) (As := [RowA 162 3 none 0 0 []]) (all_one ⟨rfl, Row.nil _ _ _⟩) (by simp [blkOf])
  obtain ⟨a', c', w1, hr1, M1⟩ := Mem.app1 (P := Tryz.prog) (t := 62) (ty := 62) [] (r := BlockA p #[.map (some b), .int .i64 last, .int .i64 0] 142 :: KRowsA (strK Tryz.underlying9) Ve.val Ve.row b E :: r) Tryz.underlying62 info162 rfl (by decide) M0 (veCells v) rfl (veCells_one v) (by omega) (by omega)
  have hc := (Mem.cellAt (i := 0) (v := .map (some b)) [RowA 162 3 a' 1 c' (veCells v)] (r := KRowsA (strK Tryz.underlying9) Ve.val Ve.row b E :: r) M1 rfl).1
  obtain ⟨w2, hr2, M2⟩ := Mem.krNew (row := Ve.row) (enc := Ve.val) [BlockA p #[.map (some b), .int .i64 last, .int .i64 0] 142] (r := r) (ordS Tryz.underlying9) Tryz.underlying140 (x := k) (e := ⟨a', 1, c', [v]⟩) hk hg (by unfold maxLen; omega) M1
  obtain ⟨y0, y1⟩ := Mem.cellAt (i := 1) (v := .int .i64 last) [] (r := KRowsA (strK Tryz.underlying9) Ve.val Ve.row b (kPut (strK Tryz.underlying9).lt k ⟨a', 1, c', [v]⟩ E) :: r) M2 rfl
  refine ⟨a', c', w1, w2, hr1, hc, hr2, y0, y1, fun t => ?_⟩
  refine Mem.cellsShut (b := b) (E := kPut (strK Tryz.underlying9).lt k ⟨a', 1, c', [v]⟩ E) ?_ (Mem.setAt (i := 1) [] (r := KRowsA (strK Tryz.underlying9) Ve.val Ve.row b (kPut (strK Tryz.underlying9).lt k ⟨a', 1, c', [v]⟩ E) :: r) M2 (.int .i64 t))
  unfold vesC
  exact (kPut_map (strK Tryz.underlying9).lt (fun e : Ve => e.l) k ⟨a', 1, c', [v]⟩ E).symm
/-- The same at a key that there is; its row may have been cut. -/
theorem cput_old {w0 w : World} {D0 : List Nat} {p b : Nat} {E : List (ByteArray × Ve)} {last : Int} {r : List Asn} [Stables r] (M : Mem w0 D0 w (BlockA p #[.map (some b), .int .i64 last, .int .i64 0] 142 :: KRowsA (strK Tryz.underlying9) Ve.val Ve.row b E :: r)) {k : ByteArray} (hk : k.size ≤ maxLen) {x : Ve} (hg : kGet k E = some x) (hn : E.length ≤ 1000) (hx : x.n ≤ 1000) (m : Nat) (hm : m ≤ x.n) (h0 : x.a ≠ none) (v : Ver) :
    ∃ a' c' w1 w2, (Builtin.append_ #[62, 62] 62 #[.slice x.a m x.c, .slice (some ⟨w.heap.size, 0, none⟩) 1 1]).run Tryz.prog (w.alloc (.cells #[.int .i64 v.at_, .string v.v, .bool v.h] 162)) = .ok (.slice a' (m + 1) c') w1 ∧ w1.cell? ⟨p, 0, none⟩ = some (.map (some b)) ∧ (Instr.mapUpdate 140 (.map (some b)) (.string k) (.slice a' (m + 1) c')).run Tryz.prog w1 = .ok () w2 ∧
      w2.cell? ⟨p, 1, none⟩ = some (.int .i64 last) ∧ w2.frozen? ⟨p, 1, none⟩ = false ∧ ∀ t : Int, Mem w0 D0 (w2.setCell ⟨p, 1, none⟩ (.int .i64 t)) (CellsA p (kPut ltK k (x.l.take m ++ [v]) (vesC E)) t :: r) := by
  obtain ⟨A, B, rfl, hA, hB, hO⟩ := Mem.krOpen [BlockA p #[.map (some b), .int .i64 last, .int .i64 0] 142] (r := r) M hg
  have sA : Stables (A.map fun p => Ve.row p.2) := stables_map (fun _ => inferInstance) A
  have sB : Stables (B.map fun p => Ve.row p.2) := stables_map (fun _ => inferInstance) B
  have hrow := Mem.rowAt _ hO
  have hsh := Row.shrink hrow hm h0
  rw [veFlat_take] at hsh
  have hO2 := Mem.rowTurn ([BlockA p #[.map (some b), .int .i64 last, .int .i64 0] 142] ++ (KMapA (strK Tryz.underlying9) b ((A ++ (k, x) :: B).map fun p => (p.1, Ve.val p.2)) :: A.map fun p => Ve.row p.2)) (r := (B.map fun p => Ve.row p.2) ++ r) hO hsh (Touch.refl _ _) (Fresh.refl _ _)
  obtain ⟨a', c', w1, hr1, M1⟩ := Mem.app1 (P := Tryz.prog) (t := 62) (ty := 62) ([BlockA p #[.map (some b), .int .i64 last, .int .i64 0] 142] ++ (KMapA (strK Tryz.underlying9) b ((A ++ (k, x) :: B).map fun p => (p.1, Ve.val p.2)) :: A.map fun p => Ve.row p.2)) (r := (B.map fun p => Ve.row p.2) ++ r) Tryz.underlying62 info162 rfl (by decide) hO2 (veCells v) rfl (veCells_one v) (by omega) (by omega)
  have e1 : veFlat (x.l.take m) ++ veCells v = veFlat (x.l.take m ++ [v]) := by rw [veFlat_append]; rfl
  rw [e1] at M1
  have hc := (Mem.cellAt (i := 0) (v := .map (some b)) [] (r := (KMapA (strK Tryz.underlying9) b ((A ++ (k, x) :: B).map fun p => (p.1, Ve.val p.2)) :: A.map fun p => Ve.row p.2) ++ RowA 162 3 a' (m + 1) c' (veFlat (x.l.take m ++ [v])) :: ((B.map fun p => Ve.row p.2) ++ r)) (by simpa using M1) rfl).1
  obtain ⟨w2, hr2, M2⟩ := Mem.krTurn (row := Ve.row) (enc := Ve.val) [BlockA p #[.map (some b), .int .i64 last, .int .i64 0] 142] (r := r) (ordS Tryz.underlying9) Tryz.underlying140 (x := k) (e := x) (e' := ⟨a', m + 1, c', x.l.take m ++ [v]⟩) hk hA hB (by unfold maxLen; omega) M1
  obtain ⟨y0, y1⟩ := Mem.cellAt (i := 1) (v := .int .i64 last) [] (r := KRowsA (strK Tryz.underlying9) Ve.val Ve.row b (A ++ (k, ⟨a', m + 1, c', x.l.take m ++ [v]⟩) :: B) :: r) M2 rfl
  refine ⟨a', c', w1, w2, hr1, hc, hr2, y0, y1, fun t => ?_⟩
  refine Mem.cellsShut (b := b) (E := A ++ (k, ⟨a', m + 1, c', x.l.take m ++ [v]⟩) :: B) ?_ (Mem.setAt (i := 1) [] (r := KRowsA (strK Tryz.underlying9) Ve.val Ve.row b (A ++ (k, ⟨a', m + 1, c', x.l.take m ++ [v]⟩) :: B) :: r) M2 (.int .i64 t))
  have e2 := kPut_split (ordS Tryz.underlying9) (v := x) (v' := (⟨a', m + 1, c', x.l.take m ++ [v]⟩ : Ve)) hA hB
  have e3 := (kPut_map (strK Tryz.underlying9).lt (fun e : Ve => e.l) k ⟨a', m + 1, c', x.l.take m ++ [v]⟩ (A ++ (k, x) :: B)).symm
  rw [e2] at e3
  exact e3
set_option maxRecDepth 100000 in
set_option maxHeartbeats 4000000 in
theorem cells_put {p : Nat} {C : Cl} {last : Int} {w : World} {D : List Nat} (h : CellsA p C last w D) (ok : COk 1000 C) (k v : ByteArray) (hs : Bool) (t : Int) (hk : k.size ≤ maxLen) (hv : v.size ≤ maxLen) :
    Calls Tryz.prog 82 #[.pointer (some ⟨p, 0, none⟩), .string k, .string v, .bool hs, .int .i64 t] w fun e w' => e = .returned (.int .i64 (cputM C last k v hs t).1) ∧ Mem w D w' [CellsA p (cputM C last k v hs t).2.1 (cputM C last k v hs t).2.2] := by
  have HM := Lib.hid (moment_any t w)
  have HF := Lib.hid (show Mem w D w [CellsA p C last] from Mem.start h)
  unfold maxLen at hk hv
  unfold cputM
  by_cases h1 : 16 < k.size
  · rw [if_pos (Or.inl h1)]
    have h1i : (16 : Int) < (k.size : Int) := by omega
    clear h ok h1
    go_enter Tryz.func82, Tryz.ntmps82
    go_wp2_with fail
    go_ret
    exact ⟨rfl, HF.out⟩
  have h1i : ¬ (16 : Int) < (k.size : Int) := by omega
  by_cases h2 : 32 < v.size
  · rw [if_pos (Or.inr (Or.inl h2))]
    have h2i : (32 : Int) < (v.size : Int) := by omega
    clear h ok h1 h2
    go_enter Tryz.func82, Tryz.ntmps82
    go_wp2_with fail
    go_ret
    exact ⟨rfl, HF.out⟩
  have h2i : ¬ (32 : Int) < (v.size : Int) := by omega
  unfold momM
  cases h3 : (decide (0 ≤ t) && decide (t ≤ 1099511627776)) with
  | false =>
    rw [if_pos (Or.inr (Or.inr rfl))]
    rw [h3] at HM
    clear h ok h1 h2 h3
    go_enter Tryz.func82, Tryz.ntmps82
    go_wp2_with fail
    refine HM.out.mono ?_
    rintro e w9 ⟨rfl, rfl⟩
    go_wp2_with fail
    go_ret
    exact ⟨rfl, HF.out⟩
  | true =>
    rw [h3] at HM
    rw [if_neg (by simp [h1, h2])]
    obtain ⟨b, E, rfl, hM⟩ := Mem.cellsOpen (Mem.start h)
    have hc1 := (Mem.cellAt (i := 1) (v := .int .i64 last) [] (r := [KRowsA (strK Tryz.underlying9) Ve.val Ve.row b E]) hM rfl).1
    have hc2 := (Mem.cellAt (i := 2) (v := .int .i64 0) [] (r := [KRowsA (strK Tryz.underlying9) Ve.val Ve.row b E]) hM rfl).1
    by_cases h4 : t < last
    · rw [if_pos (Or.inl h4)]
      clear h ok h1 h2 h3 hM
      go_enter Tryz.func82, Tryz.ntmps82
      go_wp2_with fail
      refine HM.out.mono ?_
      rintro e w9 ⟨rfl, rfl⟩
      go_wp2_with fail
      go_ret
      exact ⟨rfl, HF.out⟩
    by_cases h5 : t ≤ 0
    · rw [if_pos (Or.inr h5)]
      clear h ok h1 h2 h3 hM
      go_enter Tryz.func82, Tryz.ntmps82
      go_wp2_with fail
      refine HM.out.mono ?_
      rintro e w9 ⟨rfl, rfl⟩
      go_wp2_with fail
      go_ret
      exact ⟨rfl, HF.out⟩
    rw [if_neg (by omega)]
    have hEl : E.length ≤ 1000 := by have := ok.len; simpa [vesC] using this
    have hc := (Mem.cellAt (i := 0) (v := .map (some b)) [] (r := [KRowsA (strK Tryz.underlying9) Ve.val Ve.row b E]) hM rfl).1
    have hl := (Mem.krLook [BlockA p #[.map (some b), .int .i64 last, .int .i64 0] 142] (r := []) hM Tryz.underlying140 (zero62 w) (x := k) hk).2
    cases hg : kGet k E with
    | none =>
      rw [hg] at hl
      have hL : (Instr.lookup 140 (.map (some b)) (.string k) false).run Tryz.prog w = .ok (.slice none 0 0) w := hl
      have hvs : ∀ u : Ver, addV (versM (vesC E) k) u = [] ++ [u] := fun u => by rw [versM_E, hg]; rfl
      simp only [hvs]
      have HX := Lib.hid (cput_new (hM.below (bel_drew w)) hk hg hEl)
      clear h ok h1 h2 h3 hM hl hvs hg hEl HF
      cases hs with
      | true =>
        obtain ⟨a', c', w1, w2, HR1, hS3, HR2, hc3, hf3, hfin⟩ := HX.out ⟨t, v, true⟩
        have hc0 : w.drew.cell? ⟨p, 0, none⟩ = some (.map (some b)) := hc
        have hS2 : (w.drew.alloc (.cells #[.int .i64 t, .string v, .bool true] 162)).cell? ⟨p, 0, none⟩ = some (.map (some b)) := ((bel_new w.drew _).cell (World.block_lt_of_cell? w.drew _ hc0)).trans hc0
        have HFIN := Lib.hid (hfin t)
        clear hfin HX
        go_enter Tryz.func82, Tryz.ntmps82
        go_wp2_with fail
        refine HM.out.mono ?_
        rintro e w9 ⟨rfl, rfl⟩
        go_wp2_with fail
        refine wp_region_till (fun W => W.cell? ⟨p, 0, none⟩ = some (.map (some b))) 12 (by kernel_rfl) (hc0) (fun hM hS => ?_)
        refine till_op (v := ?_) 0 [1, 2, 3] hM rfl (by kernel_rfl) (by kernel_rfl) (by kernel_rfl) (by kernel_rfl) rfl (fun _ _ _ h => h) (Or.inl ⟨by rfl, ?_⟩) hS (fun hM => ?_)
        rotate_left
        · intro W hSw
          (try dsimp only at hSw)
          go_simp
          try with_reducible rfl
        try simp only [Act.put, List.setIfInBounds_toArray, List.set_cons_zero, List.set_cons_succ]
        refine till_op (v := ?_) 1 [2, 3] hM rfl (by kernel_rfl) (by kernel_rfl) (by kernel_rfl) (by kernel_rfl) rfl (fun _ _ _ h => h) (Or.inl ⟨by rfl, ?_⟩) hS (fun hM => ?_)
        rotate_left
        · intro W hSw
          (try dsimp only at hSw)
          go_simp
          try with_reducible rfl
        try simp only [Act.put, List.setIfInBounds_toArray, List.set_cons_zero, List.set_cons_succ]
        refine till_op (v := ?_) 2 [3] hM rfl (by kernel_rfl) (by kernel_rfl) (by kernel_rfl) (by kernel_rfl) rfl (fun _ _ _ h => h) (Or.inl ⟨by rfl, ?_⟩) hS (fun hM => ?_)
        rotate_left
        · intro W hSw
          (try dsimp only at hSw)
          go_simp
          try with_reducible rfl
        try simp only [Act.put, List.setIfInBounds_toArray, List.set_cons_zero, List.set_cons_succ]
        refine till_op (v := ?_) 3 [] hM rfl (by kernel_rfl) (by kernel_rfl) (by kernel_rfl) (by kernel_rfl) rfl (fun _ _ _ h => h) (Or.inl ⟨by rfl, ?_⟩) hS (fun hM => ?_)
        rotate_left
        · intro W hSw
          (try dsimp only at hSw)
          go_simp
          try with_reducible rfl
        try simp only [Act.put, List.setIfInBounds_toArray, List.set_cons_zero, List.set_cons_succ]
        refine till_op (v := ?_) 4 [] hM rfl (by kernel_rfl) (by kernel_rfl) (by kernel_rfl) (by kernel_rfl) rfl (fun _ _ _ h => h) (Or.inl ⟨by rfl, ?_⟩) hS (fun hM => ?_)
        rotate_left
        · intro W hSw
          (try dsimp only at hSw)
          go_simp
          try with_reducible rfl
        try simp only [Act.put, List.setIfInBounds_toArray, List.set_cons_zero, List.set_cons_succ]
        refine till_op (v := ?_) 5 [11] hM rfl (by kernel_rfl) (by kernel_rfl) (by kernel_rfl) (by kernel_rfl) rfl (fun _ _ _ h => h) (Or.inl ⟨by rfl, ?_⟩) hS (fun hM => ?_)
        rotate_left
        · intro W hSw
          (try dsimp only at hSw)
          go_simp
          try with_reducible rfl
        try simp only [Act.put, List.setIfInBounds_toArray, List.set_cons_zero, List.set_cons_succ]
        refine till_op (v := ?_) 6 [9, 10, 11] hM rfl (by kernel_rfl) (by kernel_rfl) (by kernel_rfl) (by kernel_rfl) rfl (fun _ _ _ h => h) (Or.inl ⟨by rfl, ?_⟩) hS (fun hM => ?_)
        rotate_left
        · intro W hSw
          (try dsimp only at hSw)
          go_simp
          try with_reducible rfl
        try simp only [Act.put, List.setIfInBounds_toArray, List.set_cons_zero, List.set_cons_succ]
        refine till_op (v := ?_) 7 [9, 10, 11] hM rfl (by kernel_rfl) (by kernel_rfl) (by kernel_rfl) (by kernel_rfl) rfl (fun _ _ _ h => h) (Or.inl ⟨by rfl, ?_⟩) hS (fun hM => ?_)
        rotate_left
        · intro W hSw
          (try dsimp only at hSw)
          go_simp
          try with_reducible rfl
        try simp only [Act.put, List.setIfInBounds_toArray, List.set_cons_zero, List.set_cons_succ]
        refine till_op (v := ?_) 8 [9, 10, 11] hM rfl (by kernel_rfl) (by kernel_rfl) (by kernel_rfl) (by kernel_rfl) rfl (fun _ _ _ h => h) (Or.inl ⟨by rfl, ?_⟩) hS (fun hM => ?_)
        rotate_left
        · intro W hSw
          (try dsimp only at hSw)
          go_simp
          try with_reducible rfl
        try simp only [Act.put, List.setIfInBounds_toArray, List.set_cons_zero, List.set_cons_succ]
        refine till_op (v := ?_) 9 [10, 11] hM rfl (by kernel_rfl) (by kernel_rfl) (by kernel_rfl) (by kernel_rfl) rfl (fun _ _ _ h => h) (Or.inl ⟨by rfl, ?_⟩) hS (fun hM => ?_)
        rotate_left
        · intro W hSw
          (try dsimp only at hSw)
          go_simp
          try with_reducible rfl
        try simp only [Act.put, List.setIfInBounds_toArray, List.set_cons_zero, List.set_cons_succ]
        refine till_one 10 hM rfl (by kernel_rfl) (fun K hK => ?_)
        go_simp
        refine hK _ _ (fun _ => hS2) (fun hM => ?_)
        have hS := hS2
        clear hK K
        try simp only [Act.put, List.setIfInBounds_toArray, List.set_cons_zero, List.set_cons_succ]
        refine till_one 11 hM rfl (by kernel_rfl) (fun K hK => ?_)
        refine step_appendR rfl (.tmp 77) (.tmp 82) 62 62 rfl _ _ rfl rfl HR1 ?_
        refine hK _ _ (fun _ => hS3) (fun hM => ?_)
        have hS := hS3
        clear hK K
        try simp only [Act.put, List.setIfInBounds_toArray, List.set_cons_zero, List.set_cons_succ]
        refine till_one 12 hM rfl (by kernel_rfl) (fun K hK => ?_)
        refine step_mapUpdateR rfl (.tmp 75) (.tmp 76) (.tmp 83) 140 rfl _ _ _ rfl rfl rfl HR2 ?_
        refine hK _ _ (fun h => absurd rfl h) (fun hM => ?_)
        clear hK K
        try simp only [Act.put]
        refine till_done (by kernel_rfl) ?_ _
        clear hS2 hS3 HR1 HR2
        go_wp2_with fail
        go_ret
        exact ⟨rfl, HFIN.out⟩
      | false =>
        obtain ⟨a', c', w1, w2, HR1, hS3, HR2, hc3, hf3, hfin⟩ := HX.out ⟨t, ⟨#[]⟩, false⟩
        have hc0 : w.drew.cell? ⟨p, 0, none⟩ = some (.map (some b)) := hc
        have hS2 : (w.drew.alloc (.cells #[.int .i64 t, .string ⟨#[]⟩, .bool false] 162)).cell? ⟨p, 0, none⟩ = some (.map (some b)) := ((bel_new w.drew _).cell (World.block_lt_of_cell? w.drew _ hc0)).trans hc0
        have HFIN := Lib.hid (hfin t)
        clear hfin HX
        go_enter Tryz.func82, Tryz.ntmps82
        go_wp2_with fail
        refine HM.out.mono ?_
        rintro e w9 ⟨rfl, rfl⟩
        go_wp2_with fail
        refine wp_region_till (fun W => W.cell? ⟨p, 0, none⟩ = some (.map (some b))) 12 (by kernel_rfl) (hc0) (fun hM hS => ?_)
        refine till_op (v := ?_) 0 [1, 2, 3] hM rfl (by kernel_rfl) (by kernel_rfl) (by kernel_rfl) (by kernel_rfl) rfl (fun _ _ _ h => h) (Or.inl ⟨by rfl, ?_⟩) hS (fun hM => ?_)
        rotate_left
        · intro W hSw
          (try dsimp only at hSw)
          go_simp
          try with_reducible rfl
        try simp only [Act.put, List.setIfInBounds_toArray, List.set_cons_zero, List.set_cons_succ]
        refine till_op (v := ?_) 1 [2, 3] hM rfl (by kernel_rfl) (by kernel_rfl) (by kernel_rfl) (by kernel_rfl) rfl (fun _ _ _ h => h) (Or.inl ⟨by rfl, ?_⟩) hS (fun hM => ?_)
        rotate_left
        · intro W hSw
          (try dsimp only at hSw)
          go_simp
          try with_reducible rfl
        try simp only [Act.put, List.setIfInBounds_toArray, List.set_cons_zero, List.set_cons_succ]
        refine till_op (v := ?_) 2 [3] hM rfl (by kernel_rfl) (by kernel_rfl) (by kernel_rfl) (by kernel_rfl) rfl (fun _ _ _ h => h) (Or.inl ⟨by rfl, ?_⟩) hS (fun hM => ?_)
        rotate_left
        · intro W hSw
          (try dsimp only at hSw)
          go_simp
          try with_reducible rfl
        try simp only [Act.put, List.setIfInBounds_toArray, List.set_cons_zero, List.set_cons_succ]
        refine till_op (v := ?_) 3 [] hM rfl (by kernel_rfl) (by kernel_rfl) (by kernel_rfl) (by kernel_rfl) rfl (fun _ _ _ h => h) (Or.inl ⟨by rfl, ?_⟩) hS (fun hM => ?_)
        rotate_left
        · intro W hSw
          (try dsimp only at hSw)
          go_simp
          try with_reducible rfl
        try simp only [Act.put, List.setIfInBounds_toArray, List.set_cons_zero, List.set_cons_succ]
        refine till_op (v := ?_) 4 [] hM rfl (by kernel_rfl) (by kernel_rfl) (by kernel_rfl) (by kernel_rfl) rfl (fun _ _ _ h => h) (Or.inl ⟨by rfl, ?_⟩) hS (fun hM => ?_)
        rotate_left
        · intro W hSw
          (try dsimp only at hSw)
          go_simp
          try with_reducible rfl
        try simp only [Act.put, List.setIfInBounds_toArray, List.set_cons_zero, List.set_cons_succ]
        refine till_op (v := ?_) 5 [11] hM rfl (by kernel_rfl) (by kernel_rfl) (by kernel_rfl) (by kernel_rfl) rfl (fun _ _ _ h => h) (Or.inl ⟨by rfl, ?_⟩) hS (fun hM => ?_)
        rotate_left
        · intro W hSw
          (try dsimp only at hSw)
          go_simp
          try with_reducible rfl
        try simp only [Act.put, List.setIfInBounds_toArray, List.set_cons_zero, List.set_cons_succ]
        refine till_op (v := ?_) 6 [9, 10, 11] hM rfl (by kernel_rfl) (by kernel_rfl) (by kernel_rfl) (by kernel_rfl) rfl (fun _ _ _ h => h) (Or.inl ⟨by rfl, ?_⟩) hS (fun hM => ?_)
        rotate_left
        · intro W hSw
          (try dsimp only at hSw)
          go_simp
          try with_reducible rfl
        try simp only [Act.put, List.setIfInBounds_toArray, List.set_cons_zero, List.set_cons_succ]
        refine till_op (v := ?_) 7 [9, 10, 11] hM rfl (by kernel_rfl) (by kernel_rfl) (by kernel_rfl) (by kernel_rfl) rfl (fun _ _ _ h => h) (Or.inl ⟨by rfl, ?_⟩) hS (fun hM => ?_)
        rotate_left
        · intro W hSw
          (try dsimp only at hSw)
          go_simp
          try with_reducible rfl
        try simp only [Act.put, List.setIfInBounds_toArray, List.set_cons_zero, List.set_cons_succ]
        refine till_op (v := ?_) 8 [9, 10, 11] hM rfl (by kernel_rfl) (by kernel_rfl) (by kernel_rfl) (by kernel_rfl) rfl (fun _ _ _ h => h) (Or.inl ⟨by rfl, ?_⟩) hS (fun hM => ?_)
        rotate_left
        · intro W hSw
          (try dsimp only at hSw)
          go_simp
          try with_reducible rfl
        try simp only [Act.put, List.setIfInBounds_toArray, List.set_cons_zero, List.set_cons_succ]
        refine till_op (v := ?_) 9 [10, 11] hM rfl (by kernel_rfl) (by kernel_rfl) (by kernel_rfl) (by kernel_rfl) rfl (fun _ _ _ h => h) (Or.inl ⟨by rfl, ?_⟩) hS (fun hM => ?_)
        rotate_left
        · intro W hSw
          (try dsimp only at hSw)
          go_simp
          try with_reducible rfl
        try simp only [Act.put, List.setIfInBounds_toArray, List.set_cons_zero, List.set_cons_succ]
        refine till_one 10 hM rfl (by kernel_rfl) (fun K hK => ?_)
        go_simp
        refine hK _ _ (fun _ => hS2) (fun hM => ?_)
        have hS := hS2
        clear hK K
        try simp only [Act.put, List.setIfInBounds_toArray, List.set_cons_zero, List.set_cons_succ]
        refine till_one 11 hM rfl (by kernel_rfl) (fun K hK => ?_)
        refine step_appendR rfl (.tmp 77) (.tmp 82) 62 62 rfl _ _ rfl rfl HR1 ?_
        refine hK _ _ (fun _ => hS3) (fun hM => ?_)
        have hS := hS3
        clear hK K
        try simp only [Act.put, List.setIfInBounds_toArray, List.set_cons_zero, List.set_cons_succ]
        refine till_one 12 hM rfl (by kernel_rfl) (fun K hK => ?_)
        refine step_mapUpdateR rfl (.tmp 75) (.tmp 76) (.tmp 83) 140 rfl _ _ _ rfl rfl rfl HR2 ?_
        refine hK _ _ (fun h => absurd rfl h) (fun hM => ?_)
        clear hK K
        try simp only [Act.put]
        refine till_done (by kernel_rfl) ?_ _
        clear hS2 hS3 HR1 HR2
        go_wp2_with fail
        go_ret
        exact ⟨rfl, HFIN.out⟩
    | some x =>
      rw [hg] at hl
      have hL : (Instr.lookup 140 (.map (some b)) (.string k) false).run Tryz.prog w = .ok (.slice x.a x.n x.c) w := hl
      have hok := ok.rows (k, x.l) (by have := kGet_mem hg; unfold vesC; exact List.mem_map.2 ⟨(k, x), this, rfl⟩)
      have hvs : versM (vesC E) k = x.l := by rw [versM_E, hg]; rfl
      rw [hvs]
      have hne := hok.2.2
      have hlv : x.l.length ≤ 1000 := hok.2.1
      obtain ⟨A, B, hE, hA, hB, hO⟩ := Mem.krOpen [BlockA p #[.map (some b), .int .i64 last, .int .i64 0] 142] (r := []) hM hg
      have sA : Stables (A.map fun p => Ve.row p.2) := stables_map (fun _ => inferInstance) A
      have sB : Stables (B.map fun p => Ve.row p.2) := stables_map (fun _ => inferInstance) B
      have hrow := Mem.rowAt _ hO
      have hxl : x.n = x.l.length := by have := hrow.len; rw [veFlat_len] at this; omega
      have hpos : 0 < x.l.length := List.length_pos_iff.2 hne
      obtain ⟨g, hxa, hat⟩ := veAt_row hrow (x.l.length - 1) (by omega)
      have hnc : x.n ≤ x.c ∧ x.c ≤ maxLen := by
        rcases hrow.out with ⟨q, _⟩ | ⟨_, _, _, _, q1, q2, _⟩
        · rw [hxa] at q; cases q
        · exact ⟨q1, q2⟩
      unfold maxLen at hnc
      have hlast : x.l.getLast? = some x.l[x.l.length - 1] := by rw [List.getLast?_eq_getElem?, List.getElem?_eq_getElem (by omega)]
      by_cases hz : x.l[x.l.length - 1].at_ = t
      · have hadd : ∀ u : Ver, u.at_ = t → addV x.l u = x.l.take (x.l.length - 1) ++ [u] := fun u hu => by
          unfold addV cutV; rw [hlast, hu]; simp [hz, List.dropLast_eq_take]
        have hadd2 : ∀ (vv : ByteArray) (hh : Bool), addV x.l ⟨t, vv, hh⟩ = x.l.take (x.l.length - 1) ++ [⟨t, vv, hh⟩] := fun vv hh => hadd _ rfl
        simp only [hadd2]
        have HX := Lib.hid (cput_old (hM.below (bel_drew w)) hk hg hEl (by omega) (x.l.length - 1) (by omega) (by rw [hxa]; simp))
        have hm1 : ((x.l.length : Int) - 1).toNat = x.l.length - 1 := by omega
        clear h ok h1 h2 h3 hM hl hvs hg hEl HF hok hne hE hA hB hO sA sB hrow hlast hadd hadd2
        obtain ⟨xa, xn, xc, xl⟩ := x
        simp only at hL hxl hxa hnc HX hat hz hm1 hpos hlv ⊢
        subst hxl
        subst hxa
        generalize xl[xl.length - 1] = z at *
        obtain ⟨z1, z2, z3⟩ := z
        simp only at hz hat
        have hz' := hz.symm
        subst hz'
        clear hz
        obtain ⟨x0, x1, x2⟩ := hat
        simp only at x0 x1 x2
        generalize xl.take (xl.length - 1) = tl at *
        generalize hln : xl.length = n at *
        clear hln
        obtain ⟨n, rfl⟩ : ∃ m, n = m + 1 := ⟨n - 1, by omega⟩
        simp only [Nat.add_sub_cancel] at x0 x1 x2 HX hm1
        cases hs with
        | true =>
          obtain ⟨a', c', w1, w2, HR1, hS3, HR2, hc3, hf3, hfin⟩ := HX.out ⟨t, v, true⟩
          have hc0 : w.drew.cell? ⟨p, 0, none⟩ = some (.map (some b)) := hc
          have hS2 : (w.drew.alloc (.cells #[.int .i64 t, .string v, .bool true] 162)).cell? ⟨p, 0, none⟩ = some (.map (some b)) := ((bel_new w.drew _).cell (World.block_lt_of_cell? w.drew _ hc0)).trans hc0
          have HFIN := Lib.hid (hfin t)
          clear hfin HX
          go_enter Tryz.func82, Tryz.ntmps82
          go_wp2_with fail
          refine HM.out.mono ?_
          rintro e w9 ⟨rfl, rfl⟩
          go_wp2_with fail
          refine wp_region_till (fun W => W.cell? ⟨p, 0, none⟩ = some (.map (some b))) 12 (by kernel_rfl) (hc0) (fun hM hS => ?_)
          refine till_op (v := ?_) 0 [1, 2, 3] hM rfl (by kernel_rfl) (by kernel_rfl) (by kernel_rfl) (by kernel_rfl) rfl (fun _ _ _ h => h) (Or.inl ⟨by rfl, ?_⟩) hS (fun hM => ?_)
          rotate_left
          · intro W hSw
            (try dsimp only at hSw)
            go_simp
            try with_reducible rfl
          try simp only [Act.put, List.setIfInBounds_toArray, List.set_cons_zero, List.set_cons_succ]
          refine till_op (v := ?_) 1 [2, 3] hM rfl (by kernel_rfl) (by kernel_rfl) (by kernel_rfl) (by kernel_rfl) rfl (fun _ _ _ h => h) (Or.inl ⟨by rfl, ?_⟩) hS (fun hM => ?_)
          rotate_left
          · intro W hSw
            (try dsimp only at hSw)
            go_simp
            try with_reducible rfl
          try simp only [Act.put, List.setIfInBounds_toArray, List.set_cons_zero, List.set_cons_succ]
          refine till_op (v := ?_) 2 [3] hM rfl (by kernel_rfl) (by kernel_rfl) (by kernel_rfl) (by kernel_rfl) rfl (fun _ _ _ h => h) (Or.inl ⟨by rfl, ?_⟩) hS (fun hM => ?_)
          rotate_left
          · intro W hSw
            (try dsimp only at hSw)
            go_simp
            try with_reducible rfl
          try simp only [Act.put, List.setIfInBounds_toArray, List.set_cons_zero, List.set_cons_succ]
          refine till_op (v := ?_) 3 [] hM rfl (by kernel_rfl) (by kernel_rfl) (by kernel_rfl) (by kernel_rfl) rfl (fun _ _ _ h => h) (Or.inl ⟨by rfl, ?_⟩) hS (fun hM => ?_)
          rotate_left
          · intro W hSw
            (try dsimp only at hSw)
            go_simp
            try with_reducible rfl
          try simp only [Act.put, List.setIfInBounds_toArray, List.set_cons_zero, List.set_cons_succ]
          refine till_op (v := ?_) 4 [] hM rfl (by kernel_rfl) (by kernel_rfl) (by kernel_rfl) (by kernel_rfl) rfl (fun _ _ _ h => h) (Or.inl ⟨by rfl, ?_⟩) hS (fun hM => ?_)
          rotate_left
          · intro W hSw
            (try dsimp only at hSw)
            go_simp
            try with_reducible rfl
          try simp only [Act.put, List.setIfInBounds_toArray, List.set_cons_zero, List.set_cons_succ]
          refine till_op (v := ?_) 5 [11] hM rfl (by kernel_rfl) (by kernel_rfl) (by kernel_rfl) (by kernel_rfl) rfl (fun _ _ _ h => h) (Or.inl ⟨by rfl, ?_⟩) hS (fun hM => ?_)
          rotate_left
          · intro W hSw
            (try dsimp only at hSw)
            go_simp
            try with_reducible rfl
          try simp only [Act.put, List.setIfInBounds_toArray, List.set_cons_zero, List.set_cons_succ]
          refine till_op (v := ?_) 6 [9, 10, 11] hM rfl (by kernel_rfl) (by kernel_rfl) (by kernel_rfl) (by kernel_rfl) rfl (fun _ _ _ h => h) (Or.inl ⟨by rfl, ?_⟩) hS (fun hM => ?_)
          rotate_left
          · intro W hSw
            (try dsimp only at hSw)
            go_simp
            try with_reducible rfl
          try simp only [Act.put, List.setIfInBounds_toArray, List.set_cons_zero, List.set_cons_succ]
          refine till_op (v := ?_) 7 [9, 10, 11] hM rfl (by kernel_rfl) (by kernel_rfl) (by kernel_rfl) (by kernel_rfl) rfl (fun _ _ _ h => h) (Or.inl ⟨by rfl, ?_⟩) hS (fun hM => ?_)
          rotate_left
          · intro W hSw
            (try dsimp only at hSw)
            go_simp
            try with_reducible rfl
          try simp only [Act.put, List.setIfInBounds_toArray, List.set_cons_zero, List.set_cons_succ]
          refine till_op (v := ?_) 8 [9, 10, 11] hM rfl (by kernel_rfl) (by kernel_rfl) (by kernel_rfl) (by kernel_rfl) rfl (fun _ _ _ h => h) (Or.inl ⟨by rfl, ?_⟩) hS (fun hM => ?_)
          rotate_left
          · intro W hSw
            (try dsimp only at hSw)
            go_simp
            try with_reducible rfl
          try simp only [Act.put, List.setIfInBounds_toArray, List.set_cons_zero, List.set_cons_succ]
          refine till_op (v := ?_) 9 [10, 11] hM rfl (by kernel_rfl) (by kernel_rfl) (by kernel_rfl) (by kernel_rfl) rfl (fun _ _ _ h => h) (Or.inl ⟨by rfl, ?_⟩) hS (fun hM => ?_)
          rotate_left
          · intro W hSw
            (try dsimp only at hSw)
            go_simp
            try with_reducible rfl
          try simp only [Act.put, List.setIfInBounds_toArray, List.set_cons_zero, List.set_cons_succ]
          refine till_one 10 hM rfl (by kernel_rfl) (fun K hK => ?_)
          go_simp
          refine hK _ _ (fun _ => hS2) (fun hM => ?_)
          have hS := hS2
          clear hK K
          try simp only [Act.put, List.setIfInBounds_toArray, List.set_cons_zero, List.set_cons_succ]
          refine till_one 11 hM rfl (by kernel_rfl) (fun K hK => ?_)
          refine step_appendR rfl (.tmp 77) (.tmp 82) 62 62 rfl _ _ rfl rfl HR1 ?_
          refine hK _ _ (fun _ => hS3) (fun hM => ?_)
          have hS := hS3
          clear hK K
          try simp only [Act.put, List.setIfInBounds_toArray, List.set_cons_zero, List.set_cons_succ]
          refine till_one 12 hM rfl (by kernel_rfl) (fun K hK => ?_)
          refine step_mapUpdateR rfl (.tmp 75) (.tmp 76) (.tmp 83) 140 rfl _ _ _ rfl rfl rfl HR2 ?_
          refine hK _ _ (fun h => absurd rfl h) (fun hM => ?_)
          clear hK K
          try simp only [Act.put]
          refine till_done (by kernel_rfl) ?_ _
          clear hS2 hS3 HR1 HR2
          go_wp2_with fail
          go_ret
          exact ⟨rfl, HFIN.out⟩
        | false =>
          obtain ⟨a', c', w1, w2, HR1, hS3, HR2, hc3, hf3, hfin⟩ := HX.out ⟨t, ⟨#[]⟩, false⟩
          have hc0 : w.drew.cell? ⟨p, 0, none⟩ = some (.map (some b)) := hc
          have hS2 : (w.drew.alloc (.cells #[.int .i64 t, .string ⟨#[]⟩, .bool false] 162)).cell? ⟨p, 0, none⟩ = some (.map (some b)) := ((bel_new w.drew _).cell (World.block_lt_of_cell? w.drew _ hc0)).trans hc0
          have HFIN := Lib.hid (hfin t)
          clear hfin HX
          go_enter Tryz.func82, Tryz.ntmps82
          go_wp2_with fail
          refine HM.out.mono ?_
          rintro e w9 ⟨rfl, rfl⟩
          go_wp2_with fail
          refine wp_region_till (fun W => W.cell? ⟨p, 0, none⟩ = some (.map (some b))) 12 (by kernel_rfl) (hc0) (fun hM hS => ?_)
          refine till_op (v := ?_) 0 [1, 2, 3] hM rfl (by kernel_rfl) (by kernel_rfl) (by kernel_rfl) (by kernel_rfl) rfl (fun _ _ _ h => h) (Or.inl ⟨by rfl, ?_⟩) hS (fun hM => ?_)
          rotate_left
          · intro W hSw
            (try dsimp only at hSw)
            go_simp
            try with_reducible rfl
          try simp only [Act.put, List.setIfInBounds_toArray, List.set_cons_zero, List.set_cons_succ]
          refine till_op (v := ?_) 1 [2, 3] hM rfl (by kernel_rfl) (by kernel_rfl) (by kernel_rfl) (by kernel_rfl) rfl (fun _ _ _ h => h) (Or.inl ⟨by rfl, ?_⟩) hS (fun hM => ?_)
          rotate_left
          · intro W hSw
            (try dsimp only at hSw)
            go_simp
            try with_reducible rfl
          try simp only [Act.put, List.setIfInBounds_toArray, List.set_cons_zero, List.set_cons_succ]
          refine till_op (v := ?_) 2 [3] hM rfl (by kernel_rfl) (by kernel_rfl) (by kernel_rfl) (by kernel_rfl) rfl (fun _ _ _ h => h) (Or.inl ⟨by rfl, ?_⟩) hS (fun hM => ?_)
          rotate_left
          · intro W hSw
            (try dsimp only at hSw)
            go_simp
            try with_reducible rfl
          try simp only [Act.put, List.setIfInBounds_toArray, List.set_cons_zero, List.set_cons_succ]
          refine till_op (v := ?_) 3 [] hM rfl (by kernel_rfl) (by kernel_rfl) (by kernel_rfl) (by kernel_rfl) rfl (fun _ _ _ h => h) (Or.inl ⟨by rfl, ?_⟩) hS (fun hM => ?_)
          rotate_left
          · intro W hSw
            (try dsimp only at hSw)
            go_simp
            try with_reducible rfl
          try simp only [Act.put, List.setIfInBounds_toArray, List.set_cons_zero, List.set_cons_succ]
          refine till_op (v := ?_) 4 [] hM rfl (by kernel_rfl) (by kernel_rfl) (by kernel_rfl) (by kernel_rfl) rfl (fun _ _ _ h => h) (Or.inl ⟨by rfl, ?_⟩) hS (fun hM => ?_)
          rotate_left
          · intro W hSw
            (try dsimp only at hSw)
            go_simp
            try with_reducible rfl
          try simp only [Act.put, List.setIfInBounds_toArray, List.set_cons_zero, List.set_cons_succ]
          refine till_op (v := ?_) 5 [11] hM rfl (by kernel_rfl) (by kernel_rfl) (by kernel_rfl) (by kernel_rfl) rfl (fun _ _ _ h => h) (Or.inl ⟨by rfl, ?_⟩) hS (fun hM => ?_)
          rotate_left
          · intro W hSw
            (try dsimp only at hSw)
            go_simp
            try with_reducible rfl
          try simp only [Act.put, List.setIfInBounds_toArray, List.set_cons_zero, List.set_cons_succ]
          refine till_op (v := ?_) 6 [9, 10, 11] hM rfl (by kernel_rfl) (by kernel_rfl) (by kernel_rfl) (by kernel_rfl) rfl (fun _ _ _ h => h) (Or.inl ⟨by rfl, ?_⟩) hS (fun hM => ?_)
          rotate_left
          · intro W hSw
            (try dsimp only at hSw)
            go_simp
            try with_reducible rfl
          try simp only [Act.put, List.setIfInBounds_toArray, List.set_cons_zero, List.set_cons_succ]
          refine till_op (v := ?_) 7 [9, 10, 11] hM rfl (by kernel_rfl) (by kernel_rfl) (by kernel_rfl) (by kernel_rfl) rfl (fun _ _ _ h => h) (Or.inl ⟨by rfl, ?_⟩) hS (fun hM => ?_)
          rotate_left
          · intro W hSw
            (try dsimp only at hSw)
            go_simp
            try with_reducible rfl
          try simp only [Act.put, List.setIfInBounds_toArray, List.set_cons_zero, List.set_cons_succ]
          refine till_op (v := ?_) 8 [9, 10, 11] hM rfl (by kernel_rfl) (by kernel_rfl) (by kernel_rfl) (by kernel_rfl) rfl (fun _ _ _ h => h) (Or.inl ⟨by rfl, ?_⟩) hS (fun hM => ?_)
          rotate_left
          · intro W hSw
            (try dsimp only at hSw)
            go_simp
            try with_reducible rfl
          try simp only [Act.put, List.setIfInBounds_toArray, List.set_cons_zero, List.set_cons_succ]
          refine till_op (v := ?_) 9 [10, 11] hM rfl (by kernel_rfl) (by kernel_rfl) (by kernel_rfl) (by kernel_rfl) rfl (fun _ _ _ h => h) (Or.inl ⟨by rfl, ?_⟩) hS (fun hM => ?_)
          rotate_left
          · intro W hSw
            (try dsimp only at hSw)
            go_simp
            try with_reducible rfl
          try simp only [Act.put, List.setIfInBounds_toArray, List.set_cons_zero, List.set_cons_succ]
          refine till_one 10 hM rfl (by kernel_rfl) (fun K hK => ?_)
          go_simp
          refine hK _ _ (fun _ => hS2) (fun hM => ?_)
          have hS := hS2
          clear hK K
          try simp only [Act.put, List.setIfInBounds_toArray, List.set_cons_zero, List.set_cons_succ]
          refine till_one 11 hM rfl (by kernel_rfl) (fun K hK => ?_)
          refine step_appendR rfl (.tmp 77) (.tmp 82) 62 62 rfl _ _ rfl rfl HR1 ?_
          refine hK _ _ (fun _ => hS3) (fun hM => ?_)
          have hS := hS3
          clear hK K
          try simp only [Act.put, List.setIfInBounds_toArray, List.set_cons_zero, List.set_cons_succ]
          refine till_one 12 hM rfl (by kernel_rfl) (fun K hK => ?_)
          refine step_mapUpdateR rfl (.tmp 75) (.tmp 76) (.tmp 83) 140 rfl _ _ _ rfl rfl rfl HR2 ?_
          refine hK _ _ (fun h => absurd rfl h) (fun hM => ?_)
          clear hK K
          try simp only [Act.put]
          refine till_done (by kernel_rfl) ?_ _
          clear hS2 hS3 HR1 HR2
          go_wp2_with fail
          go_ret
          exact ⟨rfl, HFIN.out⟩
      · have hadd2 : ∀ (vv : ByteArray) (hh : Bool), addV x.l ⟨t, vv, hh⟩ = x.l.take x.l.length ++ [⟨t, vv, hh⟩] := fun vv hh => by
          unfold addV cutV; rw [hlast]; simp [hz]
        simp only [hadd2]
        have HX := Lib.hid (cput_old (hM.below (bel_drew w)) hk hg hEl (by omega) x.l.length (by omega) (by rw [hxa]; simp))
        have hm1 : ((x.l.length : Int) - 1).toNat = x.l.length - 1 := by omega
        clear h ok h1 h2 h3 hM hl hvs hg hEl HF hok hne hE hA hB hO sA sB hrow hlast hadd2
        obtain ⟨xa, xn, xc, xl⟩ := x
        simp only at hL hxl hxa hnc HX hat hz hm1 hpos hlv ⊢
        subst hxl
        subst hxa
        generalize xl[xl.length - 1] = z at *
        obtain ⟨z1, z2, z3⟩ := z
        simp only at hz hat
        have hzb : (z1 == t) = false := by simpa using hz
        obtain ⟨x0, x1, x2⟩ := hat
        simp only at x0 x1 x2
        generalize xl.take xl.length = tl at *
        generalize hln : xl.length = n at *
        clear hln
        obtain ⟨n, rfl⟩ : ∃ m, n = m + 1 := ⟨n - 1, by omega⟩
        simp only [Nat.add_sub_cancel] at x0 x1 x2 HX hm1
        cases hs with
        | true =>
          obtain ⟨a', c', w1, w2, HR1, hS3, HR2, hc3, hf3, hfin⟩ := HX.out ⟨t, v, true⟩
          have hc0 : w.drew.cell? ⟨p, 0, none⟩ = some (.map (some b)) := hc
          have hS2 : (w.drew.alloc (.cells #[.int .i64 t, .string v, .bool true] 162)).cell? ⟨p, 0, none⟩ = some (.map (some b)) := ((bel_new w.drew _).cell (World.block_lt_of_cell? w.drew _ hc0)).trans hc0
          have HFIN := Lib.hid (hfin t)
          clear hfin HX
          go_enter Tryz.func82, Tryz.ntmps82
          go_wp2_with fail
          refine HM.out.mono ?_
          rintro e w9 ⟨rfl, rfl⟩
          go_wp2_with fail
          refine wp_region_till (fun W => W.cell? ⟨p, 0, none⟩ = some (.map (some b))) 12 (by kernel_rfl) (hc0) (fun hM hS => ?_)
          refine till_op (v := ?_) 0 [1, 2, 3] hM rfl (by kernel_rfl) (by kernel_rfl) (by kernel_rfl) (by kernel_rfl) rfl (fun _ _ _ h => h) (Or.inl ⟨by rfl, ?_⟩) hS (fun hM => ?_)
          rotate_left
          · intro W hSw
            (try dsimp only at hSw)
            go_simp
            try with_reducible rfl
          try simp only [Act.put, List.setIfInBounds_toArray, List.set_cons_zero, List.set_cons_succ]
          refine till_op (v := ?_) 1 [2, 3] hM rfl (by kernel_rfl) (by kernel_rfl) (by kernel_rfl) (by kernel_rfl) rfl (fun _ _ _ h => h) (Or.inl ⟨by rfl, ?_⟩) hS (fun hM => ?_)
          rotate_left
          · intro W hSw
            (try dsimp only at hSw)
            go_simp
            try with_reducible rfl
          try simp only [Act.put, List.setIfInBounds_toArray, List.set_cons_zero, List.set_cons_succ]
          refine till_op (v := ?_) 2 [3] hM rfl (by kernel_rfl) (by kernel_rfl) (by kernel_rfl) (by kernel_rfl) rfl (fun _ _ _ h => h) (Or.inl ⟨by rfl, ?_⟩) hS (fun hM => ?_)
          rotate_left
          · intro W hSw
            (try dsimp only at hSw)
            go_simp
            try with_reducible rfl
          try simp only [Act.put, List.setIfInBounds_toArray, List.set_cons_zero, List.set_cons_succ]
          refine till_op (v := ?_) 3 [] hM rfl (by kernel_rfl) (by kernel_rfl) (by kernel_rfl) (by kernel_rfl) rfl (fun _ _ _ h => h) (Or.inl ⟨by rfl, ?_⟩) hS (fun hM => ?_)
          rotate_left
          · intro W hSw
            (try dsimp only at hSw)
            go_simp
            try with_reducible rfl
          try simp only [Act.put, List.setIfInBounds_toArray, List.set_cons_zero, List.set_cons_succ]
          refine till_op (v := ?_) 4 [] hM rfl (by kernel_rfl) (by kernel_rfl) (by kernel_rfl) (by kernel_rfl) rfl (fun _ _ _ h => h) (Or.inl ⟨by rfl, ?_⟩) hS (fun hM => ?_)
          rotate_left
          · intro W hSw
            (try dsimp only at hSw)
            go_simp
            try with_reducible rfl
          try simp only [Act.put, List.setIfInBounds_toArray, List.set_cons_zero, List.set_cons_succ]
          refine till_op (v := ?_) 5 [11] hM rfl (by kernel_rfl) (by kernel_rfl) (by kernel_rfl) (by kernel_rfl) rfl (fun _ _ _ h => h) (Or.inl ⟨by rfl, ?_⟩) hS (fun hM => ?_)
          rotate_left
          · intro W hSw
            (try dsimp only at hSw)
            go_simp
            try with_reducible rfl
          try simp only [Act.put, List.setIfInBounds_toArray, List.set_cons_zero, List.set_cons_succ]
          refine till_op (v := ?_) 6 [9, 10, 11] hM rfl (by kernel_rfl) (by kernel_rfl) (by kernel_rfl) (by kernel_rfl) rfl (fun _ _ _ h => h) (Or.inl ⟨by rfl, ?_⟩) hS (fun hM => ?_)
          rotate_left
          · intro W hSw
            (try dsimp only at hSw)
            go_simp
            try with_reducible rfl
          try simp only [Act.put, List.setIfInBounds_toArray, List.set_cons_zero, List.set_cons_succ]
          refine till_op (v := ?_) 7 [9, 10, 11] hM rfl (by kernel_rfl) (by kernel_rfl) (by kernel_rfl) (by kernel_rfl) rfl (fun _ _ _ h => h) (Or.inl ⟨by rfl, ?_⟩) hS (fun hM => ?_)
          rotate_left
          · intro W hSw
            (try dsimp only at hSw)
            go_simp
            try with_reducible rfl
          try simp only [Act.put, List.setIfInBounds_toArray, List.set_cons_zero, List.set_cons_succ]
          refine till_op (v := ?_) 8 [9, 10, 11] hM rfl (by kernel_rfl) (by kernel_rfl) (by kernel_rfl) (by kernel_rfl) rfl (fun _ _ _ h => h) (Or.inl ⟨by rfl, ?_⟩) hS (fun hM => ?_)
          rotate_left
          · intro W hSw
            (try dsimp only at hSw)
            go_simp
            try with_reducible rfl
          try simp only [Act.put, List.setIfInBounds_toArray, List.set_cons_zero, List.set_cons_succ]
          refine till_op (v := ?_) 9 [10, 11] hM rfl (by kernel_rfl) (by kernel_rfl) (by kernel_rfl) (by kernel_rfl) rfl (fun _ _ _ h => h) (Or.inl ⟨by rfl, ?_⟩) hS (fun hM => ?_)
          rotate_left
          · intro W hSw
            (try dsimp only at hSw)
            go_simp
            try with_reducible rfl
          try simp only [Act.put, List.setIfInBounds_toArray, List.set_cons_zero, List.set_cons_succ]
          refine till_one 10 hM rfl (by kernel_rfl) (fun K hK => ?_)
          go_simp
          refine hK _ _ (fun _ => hS2) (fun hM => ?_)
          have hS := hS2
          clear hK K
          try simp only [Act.put, List.setIfInBounds_toArray, List.set_cons_zero, List.set_cons_succ]
          refine till_one 11 hM rfl (by kernel_rfl) (fun K hK => ?_)
          refine step_appendR rfl (.tmp 77) (.tmp 82) 62 62 rfl _ _ rfl rfl HR1 ?_
          refine hK _ _ (fun _ => hS3) (fun hM => ?_)
          have hS := hS3
          clear hK K
          try simp only [Act.put, List.setIfInBounds_toArray, List.set_cons_zero, List.set_cons_succ]
          refine till_one 12 hM rfl (by kernel_rfl) (fun K hK => ?_)
          refine step_mapUpdateR rfl (.tmp 75) (.tmp 76) (.tmp 83) 140 rfl _ _ _ rfl rfl rfl HR2 ?_
          refine hK _ _ (fun h => absurd rfl h) (fun hM => ?_)
          clear hK K
          try simp only [Act.put]
          refine till_done (by kernel_rfl) ?_ _
          clear hS2 hS3 HR1 HR2
          go_wp2_with fail
          go_ret
          exact ⟨rfl, HFIN.out⟩
        | false =>
          obtain ⟨a', c', w1, w2, HR1, hS3, HR2, hc3, hf3, hfin⟩ := HX.out ⟨t, ⟨#[]⟩, false⟩
          have hc0 : w.drew.cell? ⟨p, 0, none⟩ = some (.map (some b)) := hc
          have hS2 : (w.drew.alloc (.cells #[.int .i64 t, .string ⟨#[]⟩, .bool false] 162)).cell? ⟨p, 0, none⟩ = some (.map (some b)) := ((bel_new w.drew _).cell (World.block_lt_of_cell? w.drew _ hc0)).trans hc0
          have HFIN := Lib.hid (hfin t)
          clear hfin HX
          go_enter Tryz.func82, Tryz.ntmps82
          go_wp2_with fail
          refine HM.out.mono ?_
          rintro e w9 ⟨rfl, rfl⟩
          go_wp2_with fail
          refine wp_region_till (fun W => W.cell? ⟨p, 0, none⟩ = some (.map (some b))) 12 (by kernel_rfl) (hc0) (fun hM hS => ?_)
          refine till_op (v := ?_) 0 [1, 2, 3] hM rfl (by kernel_rfl) (by kernel_rfl) (by kernel_rfl) (by kernel_rfl) rfl (fun _ _ _ h => h) (Or.inl ⟨by rfl, ?_⟩) hS (fun hM => ?_)
          rotate_left
          · intro W hSw
            (try dsimp only at hSw)
            go_simp
            try with_reducible rfl
          try simp only [Act.put, List.setIfInBounds_toArray, List.set_cons_zero, List.set_cons_succ]
          refine till_op (v := ?_) 1 [2, 3] hM rfl (by kernel_rfl) (by kernel_rfl) (by kernel_rfl) (by kernel_rfl) rfl (fun _ _ _ h => h) (Or.inl ⟨by rfl, ?_⟩) hS (fun hM => ?_)
          rotate_left
          · intro W hSw
            (try dsimp only at hSw)
            go_simp
            try with_reducible rfl
          try simp only [Act.put, List.setIfInBounds_toArray, List.set_cons_zero, List.set_cons_succ]
          refine till_op (v := ?_) 2 [3] hM rfl (by kernel_rfl) (by kernel_rfl) (by kernel_rfl) (by kernel_rfl) rfl (fun _ _ _ h => h) (Or.inl ⟨by rfl, ?_⟩) hS (fun hM => ?_)
          rotate_left
          · intro W hSw
            (try dsimp only at hSw)
            go_simp
            try with_reducible rfl
          try simp only [Act.put, List.setIfInBounds_toArray, List.set_cons_zero, List.set_cons_succ]
          refine till_op (v := ?_) 3 [] hM rfl (by kernel_rfl) (by kernel_rfl) (by kernel_rfl) (by kernel_rfl) rfl (fun _ _ _ h => h) (Or.inl ⟨by rfl, ?_⟩) hS (fun hM => ?_)
          rotate_left
          · intro W hSw
            (try dsimp only at hSw)
            go_simp
            try with_reducible rfl
          try simp only [Act.put, List.setIfInBounds_toArray, List.set_cons_zero, List.set_cons_succ]
          refine till_op (v := ?_) 4 [] hM rfl (by kernel_rfl) (by kernel_rfl) (by kernel_rfl) (by kernel_rfl) rfl (fun _ _ _ h => h) (Or.inl ⟨by rfl, ?_⟩) hS (fun hM => ?_)
          rotate_left
          · intro W hSw
            (try dsimp only at hSw)
            go_simp
            try with_reducible rfl
          try simp only [Act.put, List.setIfInBounds_toArray, List.set_cons_zero, List.set_cons_succ]
          refine till_op (v := ?_) 5 [11] hM rfl (by kernel_rfl) (by kernel_rfl) (by kernel_rfl) (by kernel_rfl) rfl (fun _ _ _ h => h) (Or.inl ⟨by rfl, ?_⟩) hS (fun hM => ?_)
          rotate_left
          · intro W hSw
            (try dsimp only at hSw)
            go_simp
            try with_reducible rfl
          try simp only [Act.put, List.setIfInBounds_toArray, List.set_cons_zero, List.set_cons_succ]
          refine till_op (v := ?_) 6 [9, 10, 11] hM rfl (by kernel_rfl) (by kernel_rfl) (by kernel_rfl) (by kernel_rfl) rfl (fun _ _ _ h => h) (Or.inl ⟨by rfl, ?_⟩) hS (fun hM => ?_)
          rotate_left
          · intro W hSw
            (try dsimp only at hSw)
            go_simp
            try with_reducible rfl
          try simp only [Act.put, List.setIfInBounds_toArray, List.set_cons_zero, List.set_cons_succ]
          refine till_op (v := ?_) 7 [9, 10, 11] hM rfl (by kernel_rfl) (by kernel_rfl) (by kernel_rfl) (by kernel_rfl) rfl (fun _ _ _ h => h) (Or.inl ⟨by rfl, ?_⟩) hS (fun hM => ?_)
          rotate_left
          · intro W hSw
            (try dsimp only at hSw)
            go_simp
            try with_reducible rfl
          try simp only [Act.put, List.setIfInBounds_toArray, List.set_cons_zero, List.set_cons_succ]
          refine till_op (v := ?_) 8 [9, 10, 11] hM rfl (by kernel_rfl) (by kernel_rfl) (by kernel_rfl) (by kernel_rfl) rfl (fun _ _ _ h => h) (Or.inl ⟨by rfl, ?_⟩) hS (fun hM => ?_)
          rotate_left
          · intro W hSw
            (try dsimp only at hSw)
            go_simp
            try with_reducible rfl
          try simp only [Act.put, List.setIfInBounds_toArray, List.set_cons_zero, List.set_cons_succ]
          refine till_op (v := ?_) 9 [10, 11] hM rfl (by kernel_rfl) (by kernel_rfl) (by kernel_rfl) (by kernel_rfl) rfl (fun _ _ _ h => h) (Or.inl ⟨by rfl, ?_⟩) hS (fun hM => ?_)
          rotate_left
          · intro W hSw
            (try dsimp only at hSw)
            go_simp
            try with_reducible rfl
          try simp only [Act.put, List.setIfInBounds_toArray, List.set_cons_zero, List.set_cons_succ]
          refine till_one 10 hM rfl (by kernel_rfl) (fun K hK => ?_)
          go_simp
          refine hK _ _ (fun _ => hS2) (fun hM => ?_)
          have hS := hS2
          clear hK K
          try simp only [Act.put, List.setIfInBounds_toArray, List.set_cons_zero, List.set_cons_succ]
          refine till_one 11 hM rfl (by kernel_rfl) (fun K hK => ?_)
          refine step_appendR rfl (.tmp 77) (.tmp 82) 62 62 rfl _ _ rfl rfl HR1 ?_
          refine hK _ _ (fun _ => hS3) (fun hM => ?_)
          have hS := hS3
          clear hK K
          try simp only [Act.put, List.setIfInBounds_toArray, List.set_cons_zero, List.set_cons_succ]
          refine till_one 12 hM rfl (by kernel_rfl) (fun K hK => ?_)
          refine step_mapUpdateR rfl (.tmp 75) (.tmp 76) (.tmp 83) 140 rfl _ _ _ rfl rfl rfl HR2 ?_
          refine hK _ _ (fun h => absurd rfl h) (fun hM => ?_)
          clear hK K
          try simp only [Act.put]
          refine till_done (by kernel_rfl) ?_ _
          clear hS2 hS3 HR1 HR2
          go_wp2_with fail
          go_ret
          exact ⟨rfl, HFIN.out⟩
end Go.Proofs.YtmifgnibalbgjaaGreat
