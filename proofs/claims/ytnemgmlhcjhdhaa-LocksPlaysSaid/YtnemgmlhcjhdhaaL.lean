/- The table in memory. -/
import Derived.Test.YtnemgmlhcjhdhaaK
namespace Go.Proofs.Ytnemgmlhcjhdhaa
open Go.RowKit
/-- the order in which things are named is of no account. -/
theorem All.perm {l l' : List Asn} (p : l.Perm l') : ∀ {w : World} {D : List Nat}, All l w D → ∃ D', All l' w D' ∧ ∀ x, x ∈ D' ↔ x ∈ D := by
  induction p with
  | nil => exact fun h => ⟨_, h, fun _ => Iff.rfl⟩
  | cons A _ ih =>
    rintro w D ⟨D1, D2, rfl, hd, h1, h2⟩
    obtain ⟨D', h3, h4⟩ := ih h2
    exact ⟨D1 ++ D', ⟨D1, D', rfl, fun x hx hm => hd x hx ((h4 x).1 hm), h1, h3⟩, fun x => by rw [List.mem_append, List.mem_append, h4]⟩
  | swap A B l =>
    rintro w D ⟨D1, D2, rfl, hd, h1, D3, D4, rfl, hd2, h3, h4⟩
    refine ⟨D3 ++ (D1 ++ D4), ⟨D3, D1 ++ D4, rfl, fun x hx hm => ?_, h3, D1, D4, rfl, fun x hx hm => hd x hx (List.mem_append_right _ hm), h1, h4⟩, fun x => by simp only [List.mem_append]; constructor <;> (rintro (h | h | h) <;> simp [h])⟩
    rcases List.mem_append.1 hm with hm | hm
    · exact hd x hm (List.mem_append_left _ hx)
    · exact hd2 x hx hm
  | trans _ _ ih1 ih2 =>
    intro w D h
    obtain ⟨D1, h1, e1⟩ := ih1 h
    obtain ⟨D2, h2, e2⟩ := ih2 h1
    exact ⟨D2, h2, fun x => (e2 x).trans (e1 x)⟩
theorem Mem.perm {w0 w : World} {D0 : List Nat} {l l' : List Asn} (h : Mem w0 D0 w l) (p : l.Perm l') : Mem w0 D0 w l' := by
  obtain ⟨D, hA, hD⟩ := h.out
  obtain ⟨D', hA', e⟩ := All.perm p hA
  exact ⟨D', hA', hD.touch, fun x hx => hD.fresh x ((e x).1 hx)⟩
theorem Mem.pack {w0 w : World} {D0 : List Nat} (l : List Asn) {r : List Asn} (h : Mem w0 D0 w (l ++ r)) : Mem w0 D0 w (All l :: r) := by
  obtain ⟨D, hA, hD⟩ := h.out
  obtain ⟨D1, D2, rfl, hd, h1, h2⟩ := all_append l r hA
  exact ⟨_, ⟨D1, D2, rfl, hd, h1, h2⟩, hD⟩
theorem Mem.unpack {w0 w : World} {D0 : List Nat} {l r : List Asn} (h : Mem w0 D0 w (All l :: r)) : Mem w0 D0 w (l ++ r) := by
  obtain ⟨D, ⟨D1, D2, rfl, hd, h1, h2⟩, hD⟩ := h.out
  exact ⟨_, all_mk h1 h2 hd, hD⟩
/-- a thing is some other things. -/
theorem Mem.open {w0 w : World} {D0 : List Nat} {A : Asn} {r : List Asn} (h : Mem w0 D0 w (A :: r)) {Q : List Asn → Prop} (ha : ∀ D, A w D → ∃ l, Q l ∧ All l w D) : ∃ l, Q l ∧ Mem w0 D0 w (l ++ r) := by
  obtain ⟨D, ⟨D1, D2, rfl, hd, h1, h2⟩, hD⟩ := h.out
  obtain ⟨l, hq, hl⟩ := ha D1 h1
  exact ⟨l, hq, _, all_mk hl h2 hd, hD⟩
theorem Mem.weak {w0 w : World} {D0 : List Nat} {A B : Asn} {r : List Asn} (h : Mem w0 D0 w (A :: r)) (ha : ∀ D, A w D → B w D) : Mem w0 D0 w (B :: r) := by
  obtain ⟨D, ⟨D1, D2, rfl, hd, h1, h2⟩, hD⟩ := h.out
  exact ⟨_, ⟨D1, D2, rfl, hd, ha _ h1, h2⟩, hD⟩
theorem Step.mem {w0 w w' : World} {D0 D : List Nat} (h : Step w0 D0 w D) {l : List Asn} (m : Mem w D w' l) : Mem w0 D0 w' l := by
  obtain ⟨D', hA, hD⟩ := m.out
  exact ⟨D', hA, h.trans hD⟩
/-- the frame rule: a contract of some things, beside others. -/
theorem Mem.frame {P : Program} {w0 w : World} {D0 : List Nat} (l : List Asn) {r : List Asn} [Stables l] [Stables r] (h : Mem w0 D0 w (l ++ r)) {f : Nat} {args : Array Value} {Q : Ending → List Asn → Prop}
    (hc : ∀ D, All l w D → Calls P f args w fun e w' => ∃ As, Q e As ∧ Mem w D w' As) : Calls P f args w fun e w' => ∃ As, Q e As ∧ Mem w0 D0 w' (As ++ r) := by
  obtain ⟨D, hA, k⟩ := Mem.focus [] (Mem.pack l h)
  refine (hc D hA).mono ?_
  rintro e w' ⟨As, hq, hm⟩
  obtain ⟨D', h1, h2⟩ := hm.out
  exact ⟨As, hq, k As w' D' h1 h2⟩
/-- the rows of lines. -/
def rowsOf : List Ln → List Li → List Asn
  | x :: X, l :: L => RowH x.hs l.hs :: RowH x.qs l.qs :: rowsOf X L
  | _, _ => []
theorem rowsOf_stable : ∀ (X : List Ln) (L : List Li), ∀ A ∈ rowsOf X L, Stable A
  | [], _, A, h => by simp [rowsOf] at h
  | x :: X, [], A, h => by simp [rowsOf] at h
  | x :: X, l :: L, A, h => by
    rcases List.mem_cons.1 h with rfl | h
    · infer_instance
    · rcases List.mem_cons.1 h with rfl | h
      · infer_instance
      · exact rowsOf_stable X L A h
instance {X : List Ln} {L : List Li} : Stables (rowsOf X L) := ⟨rowsOf_stable X L⟩
theorem rowsOf_append : ∀ (X1 : List Ln) (L1 : List Li) (X2 : List Ln) (L2 : List Li), X1.length = L1.length → rowsOf (X1 ++ X2) (L1 ++ L2) = rowsOf X1 L1 ++ rowsOf X2 L2
  | [], [], _, _, _ => rfl
  | [], _ :: _, _, _, h => by cases h
  | _ :: _, [], _, _, h => by cases h
  | x :: X1, l :: L1, X2, L2, h => by
    simp only [List.cons_append, rowsOf]
    rw [rowsOf_append X1 L1 X2 L2 (by simpa using h)]
theorem rowsOf_at {X : List Ln} {L : List Li} {i : Nat} (hx : i < X.length) (hl : i < L.length) : rowsOf X L = rowsOf (X.take i) (L.take i) ++ (RowH X[i].hs L[i].hs :: RowH X[i].qs L[i].qs :: rowsOf (X.drop (i + 1)) (L.drop (i + 1))) := by
  conv => lhs; rw [← List.take_append_drop i X, ← List.take_append_drop i L, List.drop_eq_getElem_cons hx, List.drop_eq_getElem_cons hl]
  rw [rowsOf_append _ _ _ _ (by simp; omega)]
  rfl
theorem rowsOf_set {X : List Ln} {L : List Li} {i : Nat} (hx : i < X.length) (hl : i < L.length) (x : Ln) (l : Li) : rowsOf (X.set i x) (L.set i l) = rowsOf (X.take i) (L.take i) ++ (RowH x.hs l.hs :: RowH x.qs l.qs :: rowsOf (X.drop (i + 1)) (L.drop (i + 1))) := by
  rw [rowsOf_at (i := i) (by simpa using hx) (by simpa using hl)]
  simp [List.take_set_of_le, List.drop_set_of_lt]
/-- a table. -/
def TabA (p : Nat) (L : List Li) : Asn := fun w D => ∃ la n c X, X.map (·.key) = L.map (·.key) ∧ All (BlockA p #[.slice la n c] 59 :: RowA 34 3 la n c (lnFlat X) :: rowsOf X L) w D
instance {p : Nat} {L : List Li} : Stable (TabA p L) where
  lt := fun ⟨_la, _n, _c, _X, _hk, h⟩ x hx => Stable.lt h x hx
  keep := fun ⟨la, n, c, X, hk, h⟩ hk' => ⟨la, n, c, X, hk, Stable.keep h hk'⟩
theorem Mem.table {w0 w : World} {D0 : List Nat} {p : Nat} {L : List Li} {r : List Asn} (h : Mem w0 D0 w (TabA p L :: r)) : ∃ la n c X, X.map (·.key) = L.map (·.key) ∧ Mem w0 D0 w (BlockA p #[.slice la n c] 59 :: RowA 34 3 la n c (lnFlat X) :: (rowsOf X L ++ r)) := by
  obtain ⟨D, ⟨D1, D2, rfl, hd, ⟨la, n, c, X, hk, h1⟩, h2⟩, hD⟩ := h.out
  exact ⟨la, n, c, X, hk, _, all_mk (l := _ :: _ :: _) h1 h2 hd, hD⟩
theorem Mem.shut {w0 w : World} {D0 : List Nat} {p : Nat} {L : List Li} {r : List Asn} {la : Option Addr} {n c : Nat} {X : List Ln} (hk : X.map (·.key) = L.map (·.key)) (h : Mem w0 D0 w (BlockA p #[.slice la n c] 59 :: RowA 34 3 la n c (lnFlat X) :: (rowsOf X L ++ r))) : Mem w0 D0 w (TabA p L :: r) :=
  (Mem.pack (BlockA p #[.slice la n c] 59 :: RowA 34 3 la n c (lnFlat X) :: rowsOf X L) (r := r) h).weak fun _D hD => ⟨la, n, c, X, hk, hD⟩
theorem lnrow_len {w : World} {a : Option Addr} {n c : Nat} {l : List Ln} (h : Row w 34 3 a n c (lnFlat l)) : n = l.length := by
  have := h.len; rw [lnFlat_len] at this; omega
theorem keys_at {X : List Ln} {L : List Li} (h : X.map (·.key) = L.map (·.key)) : X.length = L.length ∧ ∀ j (hx : j < X.length) (hl : j < L.length), X[j].key = L[j].key := by
  have h1 := congrArg List.length h
  rw [List.length_map, List.length_map] at h1
  refine ⟨h1, fun j hx hl => ?_⟩
  have h2 := congrArg (fun l : List ByteArray => l[j]?) h
  simpa [hx, hl] using h2
set_option maxHeartbeats 800000 in
theorem tab_find (p : Nat) (la : Option Addr) (n c : Nat) (X : List Ln) (L : List Li) (k : ByteArray) (w : World) (hc : w.cell? ⟨p, 0, none⟩ = some (.slice la n c)) (hr : Row w 34 3 la n c (lnFlat X)) (hk : X.map (·.key) = L.map (·.key)) (hs : SortL L) (hb : L.length ≤ 1000000) :
    Calls Try.prog 45 #[.pointer (some ⟨p, 0, none⟩), .string k] w fun e w' => e = .returned (.tuple #[.int .i64 (posL L k), .bool (hasL L k)]) ∧ Below w.heap.size w w' := by
  obtain ⟨k1, k2⟩ := keys_at hk
  have hl := lnrow_len hr
  have hpl : posL L k ≤ L.length := posBy_le _ _
  have HB := Lib.hid (line_bsf (fun (x : Ln) (t : ByteArray) => cmpS x.key t) line1_any la n c X k (posL L k) w hr (by omega) (by omega) (fun j hj hl => by
      rw [k2 j hj (by omega)]; exact (cmpS_neg _ _).2 (posL_lt k j (by omega) hl)) (fun j hj hl => by
    rw [k2 j hj (by omega)]
    have h1 := posL_ge hs k j (by omega) hl
    rcases Int.lt_or_le (cmpS (L[j]'(by omega)).key k) 0 with h2 | h2
    · rw [(cmpS_neg _ _).1 h2] at h1; cases h1
    · exact h2))
  have hf : foundAt (fun (x : Ln) (t : ByteArray) => cmpS x.key t) X k (posL L k) = hasL L k := by
    rw [← foundL hs, Bool.eq_iff_iff]
    unfold foundAt
    simp only [decide_eq_true_eq]
    constructor
    · rintro ⟨_, h, e⟩; exact ⟨by omega, by omega, by rw [← k2 _ h (by omega)]; exact e⟩
    · rintro ⟨_, h, e⟩; exact ⟨by omega, by omega, by rw [k2 _ (by omega) h]; exact e⟩
  rw [hf] at HB
  clear hr hs hk k1 k2 hl hpl hf hb
  generalize posL L k = q at *
  generalize hasL L k = b at *
  go_enter Try.func45, Try.ntmps45
  go_wp2_with fail
  refine HB.out.mono ?_
  rintro e w1 ⟨rfl, hb⟩
  have HB1 := Lib.hid hb
  clear hb
  go_wp2_with fail
  go_ret2
  exact ⟨rfl, HB1.out⟩
end Go.Proofs.Ytnemgmlhcjhdhaa
