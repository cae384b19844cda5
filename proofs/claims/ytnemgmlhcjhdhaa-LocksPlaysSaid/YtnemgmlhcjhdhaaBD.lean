import Derived.Test.YtnemgmlhcjhdhaaBA
import Derived.Test.YtnemgmlhcjhdhaaA
import Derived.BigRegion
/- The row of wants in memory. -/
namespace Go.Proofs.Ytnemgmlhcjhdhaa
open Go.RowKit
def wnCells (t : Wn) : List Value := [.string t.key, .int .i64 t.owner, .int .i64 t.mode, .bool t.isin, .bool t.up]
def wnFlat : List Wn → List Value
  | [] => []
  | t :: r => .string t.key :: .int .i64 t.owner :: .int .i64 t.mode :: .bool t.isin :: .bool t.up :: wnFlat r
theorem wnFlat_len : ∀ l : List Wn, (wnFlat l).length = l.length * 5
  | [] => rfl
  | t :: r => by simp only [wnFlat, List.length_cons, wnFlat_len r]; omega
theorem wnFlat_append : ∀ l r : List Wn, wnFlat (l ++ r) = wnFlat l ++ wnFlat r
  | [], r => rfl
  | t :: l, r => by simp [wnFlat, wnFlat_append l r]
theorem wnFlat_cons (t : Wn) (r : List Wn) : wnFlat (t :: r) = wnCells t ++ wnFlat r := rfl
theorem wnFlat_take : ∀ (l : List Wn) (k : Nat), (wnFlat l).take (k * 5) = wnFlat (l.take k)
  | [], k => by simp [wnFlat]
  | t :: r, 0 => by simp [wnFlat]
  | t :: r, k + 1 => by
    rw [show (k + 1) * 5 = k * 5 + 1 + 1 + 1 + 1 + 1 by omega]
    simp [wnFlat, wnFlat_take r k]
theorem wnFlat_drop : ∀ (l : List Wn) (k : Nat), (wnFlat l).drop (k * 5) = wnFlat (l.drop k)
  | [], k => by simp [wnFlat]
  | t :: r, 0 => by simp [wnFlat]
  | t :: r, k + 1 => by
    rw [show (k + 1) * 5 = k * 5 + 1 + 1 + 1 + 1 + 1 by omega]
    simp [wnFlat, wnFlat_drop r k]
theorem wnFlat_get : ∀ (l : List Wn) (k : Nat) (h : k < l.length), (wnFlat l)[k * 5]? = some (.string l[k].key) ∧ (wnFlat l)[k * 5 + 1]? = some (.int .i64 l[k].owner) ∧ (wnFlat l)[k * 5 + 2]? = some (.int .i64 l[k].mode) ∧ (wnFlat l)[k * 5 + 3]? = some (.bool l[k].isin) ∧ (wnFlat l)[k * 5 + 4]? = some (.bool l[k].up)
  | [], k, h => absurd h (by simp)
  | t :: r, 0, _ => by simp [wnFlat]
  | t :: r, k + 1, h => by
    have := wnFlat_get r k (by simpa using h)
    rw [show (k + 1) * 5 = k * 5 + 5 by omega]
    simpa [wnFlat] using this
theorem wnFlat_one : ∀ (l : List Wn), ∀ u ∈ wnFlat l, u.oneCell' = true
  | [], _, h => by cases h
  | t :: r, u, h => by
    simp only [wnFlat, List.mem_cons] at h
    rcases h with rfl | rfl | rfl | rfl | rfl | h
    · rfl
    · rfl
    · rfl
    · rfl
    · rfl
    · exact wnFlat_one r u h
theorem wnCells_one (t : Wn) : ∀ u ∈ wnCells t, u.oneCell' = true := fun u h => wnFlat_one [t] u (by simpa [wnFlat, wnCells] using h)
def wnAt (w : World) (g o : Nat) (t : Wn) : Prop := w.cell? ⟨g, o, none⟩ = some (.string t.key) ∧ w.cell? ⟨g, o + 1, none⟩ = some (.int .i64 t.owner) ∧ w.cell? ⟨g, o + 2, none⟩ = some (.int .i64 t.mode) ∧ w.cell? ⟨g, o + 3, none⟩ = some (.bool t.isin) ∧ w.cell? ⟨g, o + 4, none⟩ = some (.bool t.up)
theorem wnAt_row {w : World} {E : Nat} {a : Option Addr} {n c : Nat} {l : List Wn} (h : Row w E 5 a n c (wnFlat l)) (k : Nat) (hk : k < l.length) : ∃ g, a = some ⟨g, 0, none⟩ ∧ wnAt w g (k * 5) l[k] := by
  obtain ⟨h0, h1, h2, h3, h4⟩ := wnFlat_get l k hk
  have hl := wnFlat_len l
  obtain ⟨g0, e0, c0⟩ := h.cellAt (k * 5) (by omega)
  obtain ⟨g1, e1, c1⟩ := h.cellAt (k * 5 + 1) (by omega)
  obtain ⟨g2, e2, c2⟩ := h.cellAt (k * 5 + 2) (by omega)
  obtain ⟨g3, e3, c3⟩ := h.cellAt (k * 5 + 3) (by omega)
  obtain ⟨g4, e4, c4⟩ := h.cellAt (k * 5 + 4) (by omega)
  subst e0
  simp only [Option.some.injEq, Addr.mk.injEq, and_true] at e1 e2 e3 e4
  subst e1 e2 e3 e4
  rw [List.getElem?_eq_getElem (by omega)] at h0 h1 h2 h3 h4
  exact ⟨g0, rfl, by rw [c0, h0], by rw [c1, h1], by rw [c2, h2], by rw [c3, h3], by rw [c4, h4]⟩
theorem wnAt.cells {w w' : World} {g o : Nat} {t : Wn} (h : wnAt w g o t) (hk : ∀ {p : Addr} {v : Value}, w.cell? p = some v → w'.cell? p = some v) : wnAt w' g o t :=
  ⟨hk h.1, hk h.2.1, hk h.2.2.1, hk h.2.2.2.1, hk h.2.2.2.2⟩
theorem wnAt.below {w w' : World} {B g o : Nat} {t : Wn} (h : wnAt w g o t) (b : Below B w w') (hB : w.heap.size ≤ B := by exact Nat.le_refl _) : wnAt w' g o t :=
  h.cells fun {p _v} hp => (World.cell?_of_block (w := w) (b.block p.block (Nat.lt_of_lt_of_le (World.block_lt_of_cell? w p hp) hB))).trans hp
theorem wnAt_new (w : World) (t : Wn) (T : TypeId) : wnAt (w.alloc (.cells #[.string t.key, .int .i64 t.owner, .int .i64 t.mode, .bool t.isin, .bool t.up] T)) w.heap.size 0 t := by
  refine ⟨?_, ?_, ?_, ?_, ?_⟩ <;> simp [go_sem]
theorem wnAt_block {w : World} {g : Nat} {t : Wn} {T : TypeId} (h : w.heap[g]? = some (.cells #[.string t.key, .int .i64 t.owner, .int .i64 t.mode, .bool t.isin, .bool t.up] T (0, 0))) : wnAt w g 0 t := by
  refine ⟨?_, ?_, ?_, ?_, ?_⟩ <;> (simp only [World.cell?, h]; rfl)
theorem wnAt_at {w : World} {g E n j : Nat} {cur : Array Value} {l : List Wn} (hg : w.heap[g]? = some (.cells cur E (0, 0))) (h : (cur.toList.take (n * 5)).drop (j * 5) = wnFlat (l.drop j)) (hj : j < l.length) : wnAt w g (j * 5) l[j] := by
  have key : ∀ r u, (wnFlat (l.drop j))[r]? = some u → w.cell? ⟨g, j * 5 + r, none⟩ = some u := fun r u hu => by
    rw [← h, List.getElem?_drop, List.getElem?_take] at hu
    split at hu
    · unfold World.cell?; rw [show (⟨g, j * 5 + r, none⟩ : Addr).block = g from rfl, hg]; simpa using hu
    · cases hu
  rw [List.drop_eq_getElem_cons hj] at key
  exact ⟨key 0 _ rfl, key 1 _ rfl, key 2 _ rfl, key 3 _ rfl, key 4 _ rfl⟩
theorem keyEq (a b : ByteArray) : (a.toList == b.toList) = decide (a = b) := by
  rw [Bool.eq_iff_iff, beq_iff_eq, decide_eq_true_eq]
  constructor
  · intro h
    rcases ltS_total a b with h1 | h1 | h1
    · have := (ltS_iff a b).1 h1; rw [h] at this; exact absurd this Std.lt_irrefl
    · have := (ltS_iff b a).1 h1; rw [h] at this; exact absurd this Std.lt_irrefl
    · exact h1
  · rintro rfl; rfl
/-- wants that can be read. -/
def WnsAt (w : World) (a : Option Addr) (n : Nat) (l : List Wn) : Prop := n = l.length ∧ ∀ j (h : j < l.length), ∃ g o, a = some ⟨g, o, none⟩ ∧ wnAt w g (o + j * 5) l[j]
theorem WnsAt.below {w w' : World} {a : Option Addr} {n : Nat} {l : List Wn} (h : WnsAt w a n l) (b : Below w.heap.size w w') : WnsAt w' a n l :=
  ⟨h.1, fun j hj => let ⟨g, o, e, h1⟩ := h.2 j hj; ⟨g, o, e, h1.below b⟩⟩
theorem WnsAt.row {w : World} {a : Option Addr} {n c : Nat} {l : List Wn} (h : Row w 80 5 a n c (wnFlat l)) : WnsAt w a n l := by
  have hl := h.len
  rw [wnFlat_len] at hl
  exact ⟨by omega, fun j hj => let ⟨g, e, h1⟩ := wnAt_row h j hj; ⟨g, 0, e, by rw [Nat.zero_add]; exact h1⟩⟩
/-- the row that a pointer names. -/
def RfAt (w : World) (p : Nat) (l : List Wn) : Prop := ∃ a n c, w.cell? ⟨p, 0, none⟩ = some (.slice a n c) ∧ WnsAt w a n l
theorem RfAt.below {w w' : World} {p : Nat} {l : List Wn} (h : RfAt w p l) (b : Below w.heap.size w w') : RfAt w' p l :=
  let ⟨a, n, c, h1, h2⟩ := h; ⟨a, n, c, (b.cell (World.block_lt_of_cell? w _ h1)).trans h1, h2.below b⟩
def RefA (p : Nat) (l : List Wn) : Asn := fun w D => ∃ a n c, All [BlockA p #[.slice a n c] 55, RowA 80 5 a n c (wnFlat l)] w D
instance {p : Nat} {l : List Wn} : Stable (RefA p l) where
  lt := fun ⟨_a, _n, _c, h⟩ x hx => Stable.lt h x hx
  keep := fun ⟨a, n, c, h⟩ hk => ⟨a, n, c, Stable.keep h hk⟩
theorem Mem.refOpen {w0 w : World} {D0 : List Nat} {p : Nat} {l : List Wn} {r : List Asn} (h : Mem w0 D0 w (RefA p l :: r)) : ∃ a n c, Mem w0 D0 w (BlockA p #[.slice a n c] 55 :: RowA 80 5 a n c (wnFlat l) :: r) := by
  obtain ⟨D, ⟨D1, D2, rfl, hd, ⟨a, n, c, h1⟩, h2⟩, hD⟩ := h.out
  exact ⟨a, n, c, _, all_mk (l := _ :: _ :: _) h1 h2 hd, hD⟩
theorem Mem.refShut {w0 w : World} {D0 : List Nat} {p : Nat} {l : List Wn} {r : List Asn} {a : Option Addr} {n c : Nat} (h : Mem w0 D0 w (BlockA p #[.slice a n c] 55 :: RowA 80 5 a n c (wnFlat l) :: r)) : Mem w0 D0 w (RefA p l :: r) :=
  (Mem.pack [BlockA p #[.slice a n c] 55, RowA 80 5 a n c (wnFlat l)] (r := r) h).weak fun _D hD => ⟨a, n, c, hD⟩
theorem RfAt.mem {w0 w : World} {D0 : List Nat} {p : Nat} {l : List Wn} {r : List Asn} [Stables r] (h : Mem w0 D0 w (RefA p l :: r)) : RfAt w p l := by
  obtain ⟨a, n, c, h1⟩ := h.refOpen
  obtain ⟨h2, -⟩ := Mem.cellAt (i := 0) (v := .slice a n c) [] (r := RowA 80 5 a n c (wnFlat l) :: r) h1 rfl
  exact ⟨a, n, c, h2, WnsAt.row (Mem.rowAt [BlockA p #[.slice a n c] 55] (r := r) h1)⟩
theorem infoWn : (Try.prog.info? 80).map (fun i => (i.zero, i.size, i.bytes)) = some (some (.agg #[.string ⟨#[]⟩, .int .i64 0, .int .i64 0, .bool false, .bool false]), 5, 40) := by kernel_rfl
end Go.Proofs.Ytnemgmlhcjhdhaa
/- The document's row, walked: Has, first, holders. -/
namespace Go.Proofs.Ytnemgmlhcjhdhaa
open Go.RowKit
set_option maxRecDepth 100000 in
set_option maxHeartbeats 1600000 in
theorem has_any (p : Nat) (l : List Wn) (o : Int) (k : ByteArray) (b : Bool) (w : World) (h : RfAt w p l) (hn : l.length ≤ 1000000) :
    Calls Try.prog 52 #[.pointer (some ⟨p, 0, none⟩), .int .i64 o, .string k, .bool b] w fun e w' => e = .returned (.int .i64 (hasR l o k b)) ∧ Below w.heap.size w w' := by
  obtain ⟨a, n, c, hc, hl⟩ := h
  obtain rfl := hl.1
  have HL := Lib.hid hl
  generalize hr : hasR l o k b = r
  have HV := Lib.hid hr
  clear hr hl
  go_enter Try.func52, Try.ntmps52
  go_wp2_with fail
  go_loopw [16] (fun jv wr => ∃ i : Nat, i ≤ l.length ∧ jv = .int .i64 i ∧ Hid (hasR (l.drop i) o k b = r) ∧ Hid (Below w.heap.size w wr)) (fun jv _ => l.length - (intOf jv).toNat)
  case atStart => exact ⟨0, Nat.zero_le _, rfl, HV, Lib.hid (Below.refl _ _)⟩
  case round =>
    obtain ⟨w1, rfl⟩ : ∃ w1, w1 = wr := ⟨_, rfl⟩
    obtain ⟨i, hi, rfl, he, HB⟩ := hrel
    clear HV
    by_cases hlt : i < l.length
    · obtain ⟨g, off, rfl, hx⟩ := HL.out.2 i hlt
      obtain ⟨c0, c1, c2, c3, c4⟩ := hx.below HB.out
      have he2 := he.out
      rw [List.drop_eq_getElem_cons hlt] at he2
      unfold hasR at he2
      rw [← keyEq] at he2
      have HE := Lib.hid he2
      clear he he2
      clear hx
      generalize l[i] = x at *
      obtain ⟨xk, xo, xm, xi, xu⟩ := x
      simp only at c0 c1 c2 c3 c4 HE
      have HB2 := Lib.hid (bel_one HB.out (.cells #[.string xk, .int .i64 xo, .int .i64 xm, .bool xi, .bool xu] 80))
      clear HB
      cases q1 : (xo == o) with
      | false =>
        have HE2 : Hid (hasR (l.drop (i + 1)) o k b = r) := Lib.hid (by have := HE.out; rw [q1] at this; simpa using this)
        clear HE
        go_wp2_with fail
        go_roundw
        case rel => exact ⟨i + 1, by omega, by go_num, HE2, HB2⟩
        case measure => simp [intOf]; omega
      | true =>
        cases q2 : (xk.toList == k.toList) with
        | false =>
          have HE2 : Hid (hasR (l.drop (i + 1)) o k b = r) := Lib.hid (by have := HE.out; rw [q1, q2] at this; simpa using this)
          clear HE
          go_wp2_with fail
          go_roundw
          case rel => exact ⟨i + 1, by omega, by go_num, HE2, HB2⟩
          case measure => simp [intOf]; omega
        | true =>
          cases q3 : (xi == b) with
          | false =>
            have HE2 : Hid (hasR (l.drop (i + 1)) o k b = r) := Lib.hid (by have := HE.out; rw [q1, q2, q3] at this; simpa using this)
            clear HE
            go_wp2_with fail
            go_roundw
            case rel => exact ⟨i + 1, by omega, by go_num, HE2, HB2⟩
            case measure => simp [intOf]; omega
          | true =>
            have HE2 : Hid (xm = r) := Lib.hid (by have := HE.out; rw [q1, q2, q3] at this; simpa using this)
            clear HE
            go_wp2_with fail
            go_ret
            exact ⟨by rw [HE2.out]; rfl, HB2.out⟩
    · obtain rfl : i = l.length := by omega
      have he2 := he.out
      rw [List.drop_length] at he2
      have HE : Hid (0 = r) := Lib.hid he2
      clear he he2
      go_wp2_with fail
      go_ret
      exact ⟨by rw [← HE.out]; rfl, HB.out⟩
/-- where the first one that waits is, as a number. -/
def firstI (l : List Wn) (k : ByteArray) : Int := if firstR l k < l.length then (firstR l k : Nat) else -1
def firstF (k : ByteArray) : Nat → List Wn → Int
  | _, [] => -1
  | i, w :: r => if isW k w = true then (i : Nat) else firstF k (i + 1) r
theorem firstF_eq (k : ByteArray) : ∀ (l : List Wn) (i : Nat), firstF k i l = if firstR l k < l.length then ((i + firstR l k : Nat) : Int) else -1
  | [], _ => rfl
  | w :: r, i => by
    unfold firstF
    cases h : isW k w with
    | true =>
      have e : firstR (w :: r) k = 0 := by unfold firstR posBy; rw [h]; rfl
      rw [e]; simp
    | false =>
      have e : firstR (w :: r) k = firstR r k + 1 := by
        show posBy _ (w :: r) = _
        conv => lhs; unfold posBy
        rw [h]; rfl
      rw [if_neg (by simp), firstF_eq k r (i + 1), e, List.length_cons]
      by_cases h2 : firstR r k < r.length
      · rw [if_pos h2, if_pos (by omega)]; congr 1; omega
      · rw [if_neg h2, if_neg (by omega)]
theorem isW_eq (k : ByteArray) (w : Wn) : isW k w = (w.key.toList == k.toList && !w.isin) := by rw [keyEq]; rfl
theorem isH_eq (k : ByteArray) (w : Wn) : isH k w = (w.key.toList == k.toList && w.isin) := by rw [keyEq]; rfl
set_option maxRecDepth 100000 in
set_option maxHeartbeats 1600000 in
theorem first_any (p : Nat) (l : List Wn) (k : ByteArray) (w : World) (h : RfAt w p l) (hn : l.length ≤ 1000000) :
    Calls Try.prog 73 #[.pointer (some ⟨p, 0, none⟩), .string k] w fun e w' => e = .returned (.int .i64 (firstI l k)) ∧ Below w.heap.size w w' := by
  obtain ⟨a, n, c, hc, hl⟩ := h
  obtain rfl := hl.1
  have HL := Lib.hid hl
  have hr0 : firstF k 0 l = firstI l k := by rw [firstF_eq]; unfold firstI; simp
  generalize firstI l k = r at *
  have HV := Lib.hid hr0
  clear hr0 hl
  go_enter Try.func73, Try.ntmps73
  go_wp2_with fail
  go_loopw [12] (fun jv wr => ∃ i : Nat, i ≤ l.length ∧ jv = .int .i64 i ∧ Hid (firstF k i (l.drop i) = r) ∧ Hid (Below w.heap.size w wr)) (fun jv _ => l.length - (intOf jv).toNat)
  case atStart => exact ⟨0, Nat.zero_le _, rfl, HV, Lib.hid (Below.refl _ _)⟩
  case round =>
    obtain ⟨w1, rfl⟩ : ∃ w1, w1 = wr := ⟨_, rfl⟩
    obtain ⟨i, hi, rfl, he, HB⟩ := hrel
    clear HV
    by_cases hlt : i < l.length
    · obtain ⟨g, off, rfl, hx⟩ := HL.out.2 i hlt
      obtain ⟨c0, c1, c2, c3, c4⟩ := hx.below HB.out
      have he2 := he.out
      rw [List.drop_eq_getElem_cons hlt] at he2
      unfold firstF at he2
      rw [isW_eq] at he2
      have HE := Lib.hid he2
      clear he he2
      clear hx
      generalize l[i] = x at *
      obtain ⟨xk, xo, xm, xi, xu⟩ := x
      simp only at c0 c1 c2 c3 c4 HE
      have HB2 := Lib.hid (bel_one HB.out (.cells #[.string xk, .int .i64 xo, .int .i64 xm, .bool xi, .bool xu] 80))
      clear HB
      cases q1 : (xk.toList == k.toList) with
      | false =>
        have HE2 : Hid (firstF k (i + 1) (l.drop (i + 1)) = r) := Lib.hid (by have := HE.out; rw [q1] at this; simpa using this)
        clear HE
        go_wp2_with fail
        go_roundw
        case rel => exact ⟨i + 1, by omega, by go_num, HE2, HB2⟩
        case measure => simp [intOf]; omega
      | true =>
        cases xi with
        | true =>
          have HE2 : Hid (firstF k (i + 1) (l.drop (i + 1)) = r) := Lib.hid (by have := HE.out; rw [q1] at this; simpa using this)
          clear HE
          go_wp2_with fail
          go_roundw
          case rel => exact ⟨i + 1, by omega, by go_num, HE2, HB2⟩
          case measure => simp [intOf]; omega
        | false =>
          have HE2 : Hid ((i : Int) = r) := Lib.hid (by have := HE.out; rw [q1] at this; simpa using this)
          clear HE
          go_wp2_with fail
          go_ret
          exact ⟨by rw [HE2.out]; rfl, HB2.out⟩
    · obtain rfl : i = l.length := by omega
      have he2 := he.out
      rw [List.drop_length] at he2
      have HE : Hid (-1 = r) := Lib.hid he2
      clear he he2
      go_wp2_with fail
      go_ret
      exact ⟨by rw [← HE.out]; rfl, HB.out⟩
theorem inW_next {l : List Wn} {k : ByteArray} {i : Nat} (h : i < l.length) : inW k (l.take (i + 1)) = inW k (l.take i) ++ (if isH k l[i] = true then [l[i]] else []) := by
  rw [List.take_succ_eq_append_getElem h, inW_app, inW_cons]; rfl
set_option maxRecDepth 100000 in
set_option maxHeartbeats 1600000 in
theorem holdersN_any (p : Nat) (l : List Wn) (k : ByteArray) (w : World) (h : RfAt w p l) (hn : l.length ≤ 1000000) :
    Calls Try.prog 74 #[.pointer (some ⟨p, 0, none⟩), .string k] w fun e w' => e = .returned (.tuple #[.int .i64 (hcR l k), .bool (soleR l k)]) ∧ Below w.heap.size w w' := by
  obtain ⟨a, n, c, hc, hl⟩ := h
  obtain rfl := hl.1
  have HL := Lib.hid hl
  clear hl
  go_enter Try.func74, Try.ntmps74
  go_wp2_with fail
  go_loopw [6, 7, 15] (fun nv sv jv wr => ∃ i m : Nat, ∃ s : Bool, i ≤ l.length ∧ jv = .int .i64 i ∧ nv = .int .i64 m ∧ m ≤ i ∧ sv = .bool s ∧ Hid (m = hcR (l.take i) k ∧ s = soleR (l.take i) k) ∧ Hid (Below w.heap.size w wr)) (fun _ _ jv _ => l.length - (intOf jv).toNat)
  case atStart => exact ⟨0, 0, false, Nat.zero_le _, rfl, rfl, Nat.le_refl _, rfl, Lib.hid ⟨rfl, rfl⟩, Lib.hid (Below.refl _ _)⟩
  case round =>
    obtain ⟨w1, rfl⟩ : ∃ w1, w1 = wr := ⟨_, rfl⟩
    obtain ⟨i, m, s, hi, rfl, rfl, hmi, rfl, he, HB⟩ := hrel
    by_cases hlt : i < l.length
    · obtain ⟨g, off, rfl, hx⟩ := HL.out.2 i hlt
      obtain ⟨c0, c1, c2, c3, c4⟩ := hx.below HB.out
      have hnx := inW_next (k := k) hlt
      rw [isH_eq] at hnx
      have HNX := Lib.hid hnx
      clear hnx
      clear hx
      generalize l[i] = x at *
      obtain ⟨xk, xo, xm, xi, xu⟩ := x
      simp only at c0 c1 c2 c3 c4 HNX
      have HB2 := Lib.hid (bel_one HB.out (.cells #[.string xk, .int .i64 xo, .int .i64 xm, .bool xi, .bool xu] 80))
      clear HB
      have HNO : Hid ((xk.toList == k.toList && xi) = false → m = hcR (l.take (i + 1)) k ∧ s = soleR (l.take (i + 1)) k) := Lib.hid fun hf => by
        have h0 := he.out
        unfold hcR soleR at *
        rw [HNX.out, hf]
        simpa using h0
      have HYE : Hid ((xk.toList == k.toList && xi) = true → m + 1 = hcR (l.take (i + 1)) k ∧ (s || xm == 2) = soleR (l.take (i + 1)) k) := Lib.hid fun hf => by
        obtain ⟨h1, h2⟩ := he.out
        unfold hcR soleR at *
        rw [HNX.out, hf]
        simp [h1, h2]
      clear HNX
      cases q1 : (xk.toList == k.toList) with
      | false =>
        have HE := Lib.hid (HNO.out (by rw [q1]; rfl))
        clear HNO HYE
        go_wp2_with fail
        go_roundw
        case rel => exact ⟨i + 1, m, s, by omega, by go_num, rfl, by omega, rfl, HE, HB2⟩
        case measure => simp [intOf]; omega
      | true =>
        cases xi with
        | false =>
          have HE := Lib.hid (HNO.out (by rw [q1]; rfl))
          clear HNO HYE
          go_wp2_with fail
          go_roundw
          case rel => exact ⟨i + 1, m, s, by omega, by go_num, rfl, by omega, rfl, HE, HB2⟩
          case measure => simp [intOf]; omega
        | true =>
          have HE := Lib.hid (HYE.out (by rw [q1]; rfl))
          clear HNO HYE
          cases s with
          | true =>
            go_wp2_with fail
            go_roundw
            case rel => exact ⟨i + 1, m + 1, true, by omega, by go_num, by go_num, by omega, rfl, HE, HB2⟩
            case measure => simp [intOf]; omega
          | false =>
            go_wp2_with fail
            go_roundw
            case rel => exact ⟨i + 1, m + 1, (xm == 2), by omega, by go_num, by go_num, by omega, rfl, HE, HB2⟩
            case measure => simp [intOf]; omega
    · obtain rfl : i = l.length := by omega
      have he2 := he.out
      rw [List.take_length] at he2
      have HE := Lib.hid he2
      clear he he2
      go_wp2_with fail
      go_ret2
      exact ⟨by rw [HE.out.1, HE.out.2]; rfl, HB.out⟩
end Go.Proofs.Ytnemgmlhcjhdhaa
