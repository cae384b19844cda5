/- Those who live, told: read at a place. -/
import Derived.Test.YtmifgnibalbgjaaGreatZO6
import Derived.Test.YtmifgnibalbgjaaGreatZQ1
import Derived.Test.YtmifgnibalbgjaaGreatZO3
import Derived.BigRegion
namespace Go.Proofs.YtmifgnibalbgjaaGreat
open Go.RowKit Go.Sort set_option linter.unusedVariables false set_option linter.unusedSimpArgs false
/-- one that lives, told, read at a place. -/
def lvAt (W : World) (g o : Nat) (p : Int × Le) : Prop := W.cell? ⟨g, o, none⟩ = some (.int .i64 p.1) ∧ W.cell? ⟨g, o + 1, none⟩ = some (.int .i64 p.2.att) ∧ W.cell? ⟨g, o + 2, none⟩ = some (.int .i64 p.2.last.kind) ∧ W.cell? ⟨g, o + 3, none⟩ = some (.int .i64 p.2.last.tx) ∧ W.cell? ⟨g, o + 4, none⟩ = some (.int .i64 p.2.last.att) ∧ W.cell? ⟨g, o + 5, none⟩ = some (.int .i64 p.2.last.stamp) ∧ W.cell? ⟨g, o + 6, none⟩ = some (.int .i64 p.2.last.op) ∧ W.cell? ⟨g, o + 7, none⟩ = some (.string p.2.last.key) ∧ W.cell? ⟨g, o + 8, none⟩ = some (.string p.2.last.value) ∧ W.cell? ⟨g, o + 9, none⟩ = some (.int .i64 p.2.last.mode) ∧ W.cell? ⟨g, o + 10, none⟩ = some (.bool p.2.last.yes) ∧ W.cell? ⟨g, o + 11, none⟩ = some (.slice p.2.a p.2.n p.2.c)
theorem lvFlat_drop : ∀ (X : List (Int × Le)) (j : Nat), (lqFlat X).drop (j * 12) = lqFlat (X.drop j)
 | _, 0 => by simp
 | [], j + 1 => by simp [lqFlat]
 | p :: r, j + 1 => by
  rw [show (j + 1) * 12 = 12 + j * 12 by omega, ← List.drop_drop]
  show ((lqCells p ++ lqFlat r).drop 12).drop (j * 12) = _
  rw [List.drop_append_of_le_length (by simp)]
  simp [lvFlat_drop r j]
theorem lvAt_row {w : World} {a : Option Addr} {n c : Nat} {X : List (Int × Le)} (h : Row w 41 12 a n c (lqFlat X)) (j : Nat) (hj : j < X.length) : ∃ g, a = some ⟨g, 0, none⟩ ∧ lvAt w g (j * 12) X[j] := by
 have hl := lqFlat_len X
 have hg : ∀ i v, (lqCells X[j])[i]? = some v → (lqFlat X)[j * 12 + i]? = some v := fun i v hv => by
  rw [← List.getElem?_drop, lvFlat_drop, List.drop_eq_getElem_cons hj]
  show (lqCells X[j] ++ _)[i]? = some v
  rw [List.getElem?_append_left (List.getElem?_eq_some_iff.1 hv).1]
  exact hv
 obtain ⟨g, e, _⟩ := h.cellAt (j * 12) (by omega)
 have hc : ∀ i v, (lqCells X[j])[i]? = some v → w.cell? ⟨g, j * 12 + i, none⟩ = some v := fun i v hv => by
  obtain ⟨h1, h2⟩ := List.getElem?_eq_some_iff.1 (hg i v hv)
  obtain ⟨g', e', h3⟩ := h.cellAt (j * 12 + i) h1
  rw [e] at e'
  simp only [Option.some.injEq, Addr.mk.injEq, and_true] at e'
  subst e'
  rw [h3, h2]
 exact ⟨g, e, by simpa using hc 0 _ rfl, hc 1 _ rfl, hc 2 _ rfl, hc 3 _ rfl, hc 4 _ rfl, hc 5 _ rfl, hc 6 _ rfl, hc 7 _ rfl, hc 8 _ rfl, hc 9 _ rfl, hc 10 _ rfl, hc 11 _ rfl⟩
theorem lvAt.below {w w' : World} {g o : Nat} {p : Int × Le} (h : lvAt w g o p) (b : Below w.heap.size w w') : lvAt w' g o p := by
 have hk := fun {p : Addr} {v : Value} (hp : w.cell? p = some v) => (b.cell (World.block_lt_of_cell? w p hp)).trans hp
 obtain ⟨h0, h1, h2, h3, h4, h5, h6, h7, h8, h9, h10, h11⟩ := h
 exact ⟨hk h0, hk h1, hk h2, hk h3, hk h4, hk h5, hk h6, hk h7, hk h8, hk h9, hk h10, hk h11⟩
/-- those who live, told: what each of them wrote. -/
theorem lvs_row {w0 W : World} {D0 : List Nat} {l : List Asn} [Stables l] {X : List (Int × Le)} {r : List Asn} [Stables r] (h : Mem w0 D0 W (l ++ ((X.map fun p => Le.row p.2) ++ r))) {j : Nat} (hj : j < X.length) : Row W 43 3 X[j].2.a X[j].2.n X[j].2.c (wrFlat X[j].2.ws) := by
 have e : (X.map fun p => Le.row p.2) = ((X.take j).map fun p => Le.row p.2) ++ Le.row X[j].2 :: ((X.drop (j + 1)).map fun p => Le.row p.2) := by
  conv => lhs; rw [← List.take_append_drop j X, List.drop_eq_getElem_cons hj]
  rw [List.map_append, List.map_cons]
 rw [e] at h
 exact Mem.rowAt (l ++ ((X.take j).map fun p => Le.row p.2)) (r := ((X.drop (j + 1)).map fun p => Le.row p.2) ++ r) (by simpa using h)
theorem Mem.offRows {w0 W : World} {D0 : List Nat} {A B : Asn} [Stable A] [Stable B] {X : List (Int × Le)} (h : Mem w0 D0 W ([A] ++ ((X.map fun p => Le.row p.2) ++ [B]))) : Mem w0 D0 W [B] := by
 have h1 : Mem w0 D0 W ((A :: (X.map fun p => Le.row p.2)) ++ [B]) := by simpa using h
 obtain ⟨D, hA, hD⟩ := h1.out
 obtain ⟨D1, D2, rfl, -, -, h2⟩ := all_append (A :: (X.map fun p => Le.row p.2)) [B] hA
 exact ⟨D2, h2, hD.touch, fun x hx => hD.fresh x (List.mem_append_right _ hx)⟩
theorem lvs_ok {K : List ByteArray} {n : Nat} {S : Sh} (h : SInv K n S) (hK : K.length ≤ 900) : (∀ q ∈ S.lives, i64 q.1) ∧ ∀ q ∈ S.lives, q.2.ws.length ≤ 1000 := by
 refine ⟨fun q hq => by have := h.ltx q hq; unfold i64; omega, fun q hq => ?_⟩
 have h1 := h.live q.1 q.2 (kGet_of_mem ordZ h.lrise hq)
 have h2 := wok_len h1.sort fun x hx => (h1.ws x hx).1
 omega
end Go.Proofs.YtmifgnibalbgjaaGreat
/- Equal rows are the same. -/
namespace Go.Proofs.YtmifgnibalbgjaaGreat
open Go.RowKit set_option linter.unusedVariables false set_option linter.unusedSimpArgs false
def egAt (w : World) (g o : Nat) (t : Int × Int) : Prop := w.cell? ⟨g, o, none⟩ = some (.int .i64 t.1) ∧ w.cell? ⟨g, o + 1, none⟩ = some (.int .i64 t.2)
theorem egFlat_len : ∀ (X : List (Int × Int)), (egFlat X).length = X.length * 2
 | [] => rfl
 | p :: r => by simp only [egFlat, List.length_cons, egFlat_len r]; omega
theorem egFlat_drop : ∀ (X : List (Int × Int)) (j : Nat), (egFlat X).drop (j * 2) = egFlat (X.drop j)
 | _, 0 => by simp
 | [], j + 1 => by simp [egFlat]
 | p :: r, j + 1 => by
  rw [show (j + 1) * 2 = j * 2 + 1 + 1 by omega]
  simp only [egFlat, List.drop_succ_cons]
  exact egFlat_drop r j
theorem egAt_row {w : World} {T : Nat} {a : Option Addr} {n c : Nat} {X : List (Int × Int)} (h : Row w T 2 a n c (egFlat X)) (j : Nat) (hj : j < X.length) : ∃ g, a = some ⟨g, 0, none⟩ ∧ egAt w g (j * 2) X[j] := by
 have hl := egFlat_len X
 have hg : ∀ i v, [Value.int .i64 X[j].1, .int .i64 X[j].2][i]? = some v → (egFlat X)[j * 2 + i]? = some v := fun i v hv => by
  rw [← List.getElem?_drop, egFlat_drop, List.drop_eq_getElem_cons hj]
  show ([Value.int .i64 X[j].1, .int .i64 X[j].2] ++ _)[i]? = some v
  rw [List.getElem?_append_left (List.getElem?_eq_some_iff.1 hv).1]
  exact hv
 obtain ⟨g, e, _⟩ := h.cellAt (j * 2) (by omega)
 have hc : ∀ i v, [Value.int .i64 X[j].1, .int .i64 X[j].2][i]? = some v → w.cell? ⟨g, j * 2 + i, none⟩ = some v := fun i v hv => by
  obtain ⟨h1, h2⟩ := List.getElem?_eq_some_iff.1 (hg i v hv)
  obtain ⟨g', e', h3⟩ := h.cellAt (j * 2 + i) h1
  rw [e] at e'
  simp only [Option.some.injEq, Addr.mk.injEq, and_true] at e'
  subst e'
  rw [h3, h2]
 exact ⟨g, e, by simpa using hc 0 _ rfl, hc 1 _ rfl⟩
def RwsAt (w : World) (a : Option Addr) (n : Nat) (l : List Rw) : Prop := n = l.length ∧ ∀ j (h : j < l.length), ∃ g o, a = some ⟨g, o, none⟩ ∧ rwAt w g (o + j * 5) l[j]
theorem RwsAt.below {w w' : World} {a : Option Addr} {n : Nat} {l : List Rw} (h : RwsAt w a n l) (b : Below w.heap.size w w') : RwsAt w' a n l := by
 have hk := fun {p : Addr} {v : Value} (hp : w.cell? p = some v) => (b.cell (World.block_lt_of_cell? w p hp)).trans hp
 refine ⟨h.1, fun j hj => ?_⟩
 obtain ⟨g, o, e, h0, h1, h2, h3, h4⟩ := h.2 j hj
 exact ⟨g, o, e, hk h0, hk h1, hk h2, hk h3, hk h4⟩
theorem RwsAt.row {w : World} {a : Option Addr} {n c : Nat} {l : List Rw} (h : Row w 85 5 a n c (rwFlat l)) : RwsAt w a n l := by
 refine ⟨by have := h.len; rw [rwFlat_len] at this; omega, fun j hj => ?_⟩
 obtain ⟨g, e, h1⟩ := rwAt_row h j hj
 exact ⟨g, 0, e, by rw [Nat.zero_add]; exact h1⟩
set_option maxRecDepth 100000 in
set_option maxHeartbeats 1600000 in
theorem same_Rws (a b : Option Addr) (n m c d : Nat) (l : List Rw) (w : World) (hr : RwsAt w a n l) (hs : RwsAt w b m l) (hbig : n ≤ 1000000) :
  Calls Tryz.prog 52 #[.slice a n c, .slice b m d] w fun e w' => e = .returned (.bool true) ∧ Below w.heap.size w w' := by
 obtain rfl := hr.1
 obtain rfl := hs.1
 have HR := Lib.hid hr
 have HS := Lib.hid hs
 clear hr hs
 go_enter Tryz.func52, Tryz.ntmps52
 go_wp2_with fail
 go_loopw [13] (fun jv wr => ∃ q : Nat, q ≤ l.length ∧ jv = .int .i64 q ∧ Hid (Below w.heap.size w wr)) (fun jv _ => l.length - (intOf jv).toNat)
 case atStart => exact ⟨0, Nat.zero_le _, rfl, Lib.hid (Below.refl _ _)⟩
 case round =>
  obtain ⟨W1, rfl⟩ : ∃ W1, W1 = wr := ⟨_, rfl⟩
  obtain ⟨q, hq, rfl, HB⟩ := hrel
  by_cases hlt : q < l.length
  ·obtain ⟨g, o, rfl, hx⟩ := (HR.out.below HB.out).2 q hlt
   obtain ⟨g2, o2, rfl, hy⟩ := (HS.out.below HB.out).2 q hlt
   generalize l[q] = x at *
   obtain ⟨x0, x1, x2, x3, x4⟩ := x
   obtain ⟨hx0, hx1, hx2, hx3, hx4⟩ := hx
   obtain ⟨hy0, hy1, hy2, hy3, hy4⟩ := hy
   simp only at hx0 hy0 hx1 hy1 hx2 hy2 hx3 hy3 hx4 hy4
   have HB2 := Lib.hid (HB.out.drew)
   clear HB
   have hqn : (q : Int) < (l.length : Int) := by omega
   have hqz : (0 : Int) ≤ (q : Int) := by omega
   go_wp2_with fail
   go_region
   all_goals
    go_wp2_with fail
    go_roundw
    case rel => exact ⟨q + 1, by omega, by go_num, HB2⟩
    case measure => simp [intOf]; omega
  ·obtain rfl : q = l.length := by omega
   go_wp2_with fail
   go_ret
   exact ⟨rfl, HB.out⟩
def DnsAt (w : World) (a : Option Addr) (n : Nat) (l : List (Int × Int)) : Prop := n = l.length ∧ ∀ j (h : j < l.length), ∃ g o, a = some ⟨g, o, none⟩ ∧ egAt w g (o + j * 2) l[j]
theorem DnsAt.below {w w' : World} {a : Option Addr} {n : Nat} {l : List (Int × Int)} (h : DnsAt w a n l) (b : Below w.heap.size w w') : DnsAt w' a n l := by
 have hk := fun {p : Addr} {v : Value} (hp : w.cell? p = some v) => (b.cell (World.block_lt_of_cell? w p hp)).trans hp
 refine ⟨h.1, fun j hj => ?_⟩
 obtain ⟨g, o, e, h0, h1⟩ := h.2 j hj
 exact ⟨g, o, e, hk h0, hk h1⟩
theorem DnsAt.row {w : World} {a : Option Addr} {n c : Nat} {l : List (Int × Int)} (h : Row w 116 2 a n c (egFlat l)) : DnsAt w a n l := by
 refine ⟨by have := h.len; rw [egFlat_len] at this; omega, fun j hj => ?_⟩
 obtain ⟨g, e, h1⟩ := egAt_row h j hj
 exact ⟨g, 0, e, by rw [Nat.zero_add]; exact h1⟩
set_option maxRecDepth 100000 in
set_option maxHeartbeats 1600000 in
theorem same_Dns (a b : Option Addr) (n m c d : Nat) (l : List (Int × Int)) (w : World) (hr : DnsAt w a n l) (hs : DnsAt w b m l) (hbig : n ≤ 1000000) :
  Calls Tryz.prog 53 #[.slice a n c, .slice b m d] w fun e w' => e = .returned (.bool true) ∧ Below w.heap.size w w' := by
 obtain rfl := hr.1
 obtain rfl := hs.1
 have HR := Lib.hid hr
 have HS := Lib.hid hs
 clear hr hs
 go_enter Tryz.func53, Tryz.ntmps53
 go_wp2_with fail
 go_loopw [13] (fun jv wr => ∃ q : Nat, q ≤ l.length ∧ jv = .int .i64 q ∧ Hid (Below w.heap.size w wr)) (fun jv _ => l.length - (intOf jv).toNat)
 case atStart => exact ⟨0, Nat.zero_le _, rfl, Lib.hid (Below.refl _ _)⟩
 case round =>
  obtain ⟨W1, rfl⟩ : ∃ W1, W1 = wr := ⟨_, rfl⟩
  obtain ⟨q, hq, rfl, HB⟩ := hrel
  by_cases hlt : q < l.length
  ·obtain ⟨g, o, rfl, hx⟩ := (HR.out.below HB.out).2 q hlt
   obtain ⟨g2, o2, rfl, hy⟩ := (HS.out.below HB.out).2 q hlt
   generalize l[q] = x at *
   obtain ⟨x0, x1⟩ := x
   obtain ⟨hx0, hx1⟩ := hx
   obtain ⟨hy0, hy1⟩ := hy
   simp only at hx0 hy0 hx1 hy1
   have HB2 := Lib.hid (HB.out.drew)
   clear HB
   have hqn : (q : Int) < (l.length : Int) := by omega
   have hqz : (0 : Int) ≤ (q : Int) := by omega
   go_wp2_with fail
   go_region
   all_goals
    go_wp2_with fail
    go_roundw
    case rel => exact ⟨q + 1, by omega, by go_num, HB2⟩
    case measure => simp [intOf]; omega
  ·obtain rfl : q = l.length := by omega
   go_wp2_with fail
   go_ret
   exact ⟨rfl, HB.out⟩
def WrsAt (w : World) (a : Option Addr) (n : Nat) (l : List Wr) : Prop := n = l.length ∧ ∀ j (h : j < l.length), ∃ g o, a = some ⟨g, o, none⟩ ∧ wrAt w g (o + j * 3) l[j]
theorem WrsAt.below {w w' : World} {a : Option Addr} {n : Nat} {l : List Wr} (h : WrsAt w a n l) (b : Below w.heap.size w w') : WrsAt w' a n l := by
 have hk := fun {p : Addr} {v : Value} (hp : w.cell? p = some v) => (b.cell (World.block_lt_of_cell? w p hp)).trans hp
 refine ⟨h.1, fun j hj => ?_⟩
 obtain ⟨g, o, e, h0, h1, h2⟩ := h.2 j hj
 exact ⟨g, o, e, hk h0, hk h1, hk h2⟩
theorem WrsAt.row {w : World} {a : Option Addr} {n c : Nat} {l : List Wr} (h : Row w 43 3 a n c (wrFlat l)) : WrsAt w a n l := by
 refine ⟨by have := h.len; rw [wrFlat_len] at this; omega, fun j hj => ?_⟩
 obtain ⟨g, e, h1⟩ := wrAt_row h j hj
 exact ⟨g, 0, e, by rw [Nat.zero_add]; exact h1⟩
set_option maxRecDepth 100000 in
set_option maxHeartbeats 1600000 in
theorem same_Wrs (a b : Option Addr) (n m c d : Nat) (l : List Wr) (w : World) (hr : WrsAt w a n l) (hs : WrsAt w b m l) (hbig : n ≤ 1000000) :
  Calls Tryz.prog 55 #[.slice a n c, .slice b m d] w fun e w' => e = .returned (.bool true) ∧ Below w.heap.size w w' := by
 obtain rfl := hr.1
 obtain rfl := hs.1
 have HR := Lib.hid hr
 have HS := Lib.hid hs
 clear hr hs
 go_enter Tryz.func55, Tryz.ntmps55
 go_wp2_with fail
 go_loopw [13] (fun jv wr => ∃ q : Nat, q ≤ l.length ∧ jv = .int .i64 q ∧ Hid (Below w.heap.size w wr)) (fun jv _ => l.length - (intOf jv).toNat)
 case atStart => exact ⟨0, Nat.zero_le _, rfl, Lib.hid (Below.refl _ _)⟩
 case round =>
  obtain ⟨W1, rfl⟩ : ∃ W1, W1 = wr := ⟨_, rfl⟩
  obtain ⟨q, hq, rfl, HB⟩ := hrel
  by_cases hlt : q < l.length
  ·obtain ⟨g, o, rfl, hx⟩ := (HR.out.below HB.out).2 q hlt
   obtain ⟨g2, o2, rfl, hy⟩ := (HS.out.below HB.out).2 q hlt
   generalize l[q] = x at *
   obtain ⟨x0, x1, x2⟩ := x
   obtain ⟨hx0, hx1, hx2⟩ := hx
   obtain ⟨hy0, hy1, hy2⟩ := hy
   simp only at hx0 hy0 hx1 hy1 hx2 hy2
   have HB2 := Lib.hid (HB.out.drew)
   clear HB
   have hqn : (q : Int) < (l.length : Int) := by omega
   have hqz : (0 : Int) ≤ (q : Int) := by omega
   go_wp2_with fail
   go_region
   all_goals
    go_wp2_with fail
    go_roundw
    case rel => exact ⟨q + 1, by omega, by go_num, HB2⟩
    case measure => simp [intOf]; omega
  ·obtain rfl : q = l.length := by omega
   go_wp2_with fail
   go_ret
   exact ⟨rfl, HB.out⟩
def VesAt (w : World) (a : Option Addr) (n : Nat) (l : List Ver) : Prop := n = l.length ∧ ∀ j (h : j < l.length), ∃ g o, a = some ⟨g, o, none⟩ ∧ veAt w g (o + j * 3) l[j]
theorem VesAt.below {w w' : World} {a : Option Addr} {n : Nat} {l : List Ver} (h : VesAt w a n l) (b : Below w.heap.size w w') : VesAt w' a n l := by
 have hk := fun {p : Addr} {v : Value} (hp : w.cell? p = some v) => (b.cell (World.block_lt_of_cell? w p hp)).trans hp
 refine ⟨h.1, fun j hj => ?_⟩
 obtain ⟨g, o, e, h0, h1, h2⟩ := h.2 j hj
 exact ⟨g, o, e, hk h0, hk h1, hk h2⟩
theorem VesAt.row {w : World} {a : Option Addr} {n c : Nat} {l : List Ver} (h : Row w 162 3 a n c (veFlat l)) : VesAt w a n l := by
 refine ⟨by have := h.len; rw [veFlat_len] at this; omega, fun j hj => ?_⟩
 obtain ⟨g, e, h1⟩ := veAt_row h j hj
 exact ⟨g, 0, e, by rw [Nat.zero_add]; exact h1⟩
/-- cells that can be read. -/
def CesAt (w : World) (a : Option Addr) (n : Nat) (C : Cl) : Prop := n = C.length ∧ ∀ j (h : j < C.length), ∃ g o va vn vc, a = some ⟨g, o, none⟩ ∧ w.cell? ⟨g, o + j * 2, none⟩ = some (.string C[j].1) ∧ w.cell? ⟨g, o + j * 2 + 1, none⟩ = some (.slice va vn vc) ∧ VesAt w va vn C[j].2
theorem CesAt.below {w w' : World} {a : Option Addr} {n : Nat} {C : Cl} (h : CesAt w a n C) (b : Below w.heap.size w w') : CesAt w' a n C := by
 have hk := fun {p : Addr} {v : Value} (hp : w.cell? p = some v) => (b.cell (World.block_lt_of_cell? w p hp)).trans hp
 refine ⟨h.1, fun j hj => ?_⟩
 obtain ⟨g, o, va, vn, vc, e, h0, h1, h2⟩ := h.2 j hj
 exact ⟨g, o, va, vn, vc, e, hk h0, hk h1, h2.below b⟩
set_option maxRecDepth 100000 in
set_option maxHeartbeats 4000000 in
theorem same_cells (a b : Option Addr) (n m c d : Nat) (C : Cl) (w : World) (hr : CesAt w a n C) (hs : CesAt w b m C) (hbig : n ≤ 1000000) (hv : ∀ p ∈ C, p.2.length ≤ 1000000) :
  Calls Tryz.prog 51 #[.slice a n c, .slice b m d] w fun e w' => e = .returned (.bool true) ∧ Below w.heap.size w w' := by
 obtain rfl := hr.1
 obtain rfl := hs.1
 have HR := Lib.hid hr
 have HS := Lib.hid hs
 have HV := Lib.hid hv
 clear hr hs hv
 go_enter Tryz.func51, Tryz.ntmps51
 go_wp2_with fail
 go_loopw [14] (fun jv wr => ∃ q : Nat, q ≤ C.length ∧ jv = .int .i64 q ∧ Hid (Below w.heap.size w wr)) (fun jv _ => C.length - (intOf jv).toNat)
 case atStart => exact ⟨0, Nat.zero_le _, rfl, Lib.hid (Below.refl _ _)⟩
 case round =>
  obtain ⟨W1, rfl⟩ : ∃ W1, W1 = wr := ⟨_, rfl⟩
  obtain ⟨q, hq, rfl, HB⟩ := hrel
  by_cases hlt : q < C.length
  ·obtain ⟨g, o, va, vn, vc, rfl, hx0, hx1, hx2⟩ := (HR.out.below HB.out).2 q hlt
   obtain ⟨g2, o2, ua, un, uc, rfl, hy0, hy1, hy2⟩ := (HS.out.below HB.out).2 q hlt
   have hvl := HV.out _ (List.getElem_mem hlt)
   generalize C[q] = x at *
   obtain ⟨xk, xl⟩ := x
   simp only at hx0 hx1 hx2 hy0 hy1 hy2 hvl
   obtain rfl : xl.length = vn := hx2.1.symm
   obtain rfl : xl.length = un := hy2.1.symm
   have HX := Lib.hid hx2
   have HY := Lib.hid hy2
   clear hx2 hy2
   have hqn : (q : Int) < (C.length : Int) := by omega
   have hqz : (0 : Int) ≤ (q : Int) := by omega
   go_wp2_with fail
   go_quiet (fail)
   have HB2 := Lib.hid (HB.out.trans ((bel_drewN W1 nq).mono HB.out.size))
   have hB0 := bel_drewN W1 nq
   have hx1w := (hB0.cell (World.block_lt_of_cell? W1 _ hx1)).trans hx1
   have HX2 := Lib.hid (HX.out.below hB0)
   have HY2 := Lib.hid (HY.out.below hB0)
   have hy1w := (hB0.cell (World.block_lt_of_cell? W1 _ hy1)).trans hy1
   clear hx0 hy0 hx1 hy1 HX HY HB hB0
   generalize W1.drewN nq = W2 at *
   go_wp2_with fail
   go_loopw [49] (fun jv wr => ∃ t : Nat, t ≤ xl.length ∧ jv = .int .i64 t ∧ Hid (Below W2.heap.size W2 wr)) (fun jv _ => xl.length - (intOf jv).toNat)
   case atStart => exact ⟨0, Nat.zero_le _, rfl, Lib.hid (Below.refl _ _)⟩
   case round =>
    obtain ⟨W3, rfl⟩ : ∃ W3, W3 = wr := ⟨_, rfl⟩
    obtain ⟨t, ht, rfl, HBt⟩ := hrel
    by_cases hltt : t < xl.length
    ·obtain ⟨g3, o3, rfl, hv0, hv1, hv2⟩ := (HX2.out.below HBt.out).2 t hltt
     obtain ⟨g4, o4, rfl, hu0, hu1, hu2⟩ := (HY2.out.below HBt.out).2 t hltt
     generalize xl[t] = z at *
     obtain ⟨z0, z1, z2⟩ := z
     simp only at hv0 hv1 hv2 hu0 hu1 hu2
     have hx1v := (HBt.out.cell (World.block_lt_of_cell? W2 _ hx1w)).trans hx1w
     have hy1v := (HBt.out.cell (World.block_lt_of_cell? W2 _ hy1w)).trans hy1w
     have hltz : (t : Int) < (xl.length : Int) := by omega
     have hltz0 : (0 : Int) ≤ (t : Int) := by omega
     go_wp2_with fail
     go_quiet (fail)
     have HB3 := Lib.hid (HBt.out.trans ((bel_drewN W3 nq).mono HBt.out.size))
     generalize W3.drewN nq = W4 at *
     clear hv0 hv1 hv2 hu0 hu1 hu2 hx1v hy1v HBt
     go_wp2_with fail
     go_roundw
     case rel => exact ⟨t + 1, by omega, by go_num, HB3⟩
     case measure => simp [intOf]; omega
    ·obtain rfl : t = xl.length := by omega
     have HB4 := Lib.hid (HB2.out.trans (HBt.out.mono HB2.out.size))
     clear HBt
     go_wp2_with fail
     go_roundw
     case rel => exact ⟨q + 1, by omega, by go_num, HB4⟩
     case measure => simp [intOf]; omega
  ·obtain rfl : q = C.length := by omega
   go_wp2_with fail
   go_ret
   exact ⟨rfl, HB.out⟩
end Go.Proofs.YtmifgnibalbgjaaGreat
