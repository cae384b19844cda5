/- Leave: the lines. -/
import Derived.Test.YtnemgmlhcjhdhaaS
import Derived.Test.YtnemgmlhcjhdhaaP
namespace Go.Proofs.Ytnemgmlhcjhdhaa
open Go.RowKit
theorem perm_line0 (B R H Q : Asn) (A1 A2 : List Asn) : (B :: R :: (A1 ++ (H :: Q :: A2))).Perm ([R, H, Q] ++ (B :: (A1 ++ A2))) := by
  have := perm_line B R H Q A1 A2 []
  simpa using this
/-- a line is taken out, behind other things. -/
theorem Mem.lineOutF {w0 w : World} {D0 : List Nat} {p n lc : Nat} {la : Option Addr} {X : List Ln} {L : List Li} (F : List Asn) {i : Nat} (hx : i < X.length) (hl : i < L.length) (h : Mem w0 D0 w (F ++ (BlockA p #[.slice la n lc] 59 :: RowA 34 3 la n lc (lnFlat X) :: rowsOf X L))) :
    Mem w0 D0 w (F ++ ([RowA 34 3 la n lc (lnFlat X), RowH X[i].hs L[i].hs, RowH X[i].qs L[i].qs] ++ (BlockA p #[.slice la n lc] 59 :: (rowsOf (X.take i) (L.take i) ++ rowsOf (X.drop (i + 1)) (L.drop (i + 1)))))) := by
  rw [rowsOf_at hx hl] at h
  exact h.perm ((perm_line0 _ _ _ _ _ _).append_left F)
theorem Mem.lineInF {w0 w : World} {D0 : List Nat} {p n lc : Nat} {la : Option Addr} {X : List Ln} {L : List Li} (F : List Asn) {i : Nat} (hx : i < X.length) (hl : i < L.length) {x : Ln} {l : Li}
    (h : Mem w0 D0 w (F ++ ([RowA 34 3 la n lc (lnFlat (X.set i x)), RowH x.hs l.hs, RowH x.qs l.qs] ++ (BlockA p #[.slice la n lc] 59 :: (rowsOf (X.take i) (L.take i) ++ rowsOf (X.drop (i + 1)) (L.drop (i + 1))))))) :
    Mem w0 D0 w (F ++ (BlockA p #[.slice la n lc] 59 :: RowA 34 3 la n lc (lnFlat (X.set i x)) :: rowsOf (X.set i x) (L.set i l))) := by
  rw [rowsOf_set hx hl]
  exact h.perm ((perm_line0 _ _ _ _ _ _).symm.append_left F)
/-- the lines when so many have been left. -/
def midL (L : List Li) (o : Int) (i : Nat) : List Li := (L.take i).map (fun l => (leaveLi l o).2) ++ L.drop i
theorem midL_zero (L : List Li) (o : Int) : midL L o 0 = L := by simp [midL]
theorem midL_len (L : List Li) (o : Int) (i : Nat) : (midL L o i).length = L.length := by simp [midL]; omega
theorem midL_at {L : List Li} {o : Int} {i : Nat} (h : i < L.length) (h' : i < (midL L o i).length) : (midL L o i)[i] = L[i] := by
  have h1 : (midL L o i)[i]? = some L[i] := by
    unfold midL
    rw [List.getElem?_append_right (by rw [List.length_map, List.length_take]; omega), List.length_map, List.length_take, Nat.min_eq_left (Nat.le_of_lt h), List.getElem?_drop]
    simp [h]
  rw [List.getElem?_eq_getElem h'] at h1
  exact Option.some.inj h1
theorem midL_next {L : List Li} {o : Int} {i : Nat} (h : i < L.length) : (midL L o i).set i (leaveLi L[i] o).2 = midL L o (i + 1) := by
  unfold midL
  rw [List.set_append_right _ _ (by rw [List.length_map, List.length_take]; omega), List.length_map, List.length_take, Nat.min_eq_left (Nat.le_of_lt h), Nat.sub_self]
  conv => lhs; rw [List.drop_eq_getElem_cons h]
  rw [List.set_cons_zero, List.take_succ_eq_append_getElem h, List.map_append, List.append_assoc]; rfl
theorem midL_keys (L : List Li) (o : Int) (i : Nat) : (midL L o i).map (·.key) = L.map (·.key) := by
  unfold midL
  conv => rhs; rw [← List.take_append_drop i L]
  rw [List.map_append, List.map_append, List.map_map]; rfl
theorem midL_end (L : List Li) (o : Int) : midL L o L.length = L.map fun l => (leaveLi l o).2 := by simp [midL]
/-- who came in of so many lines. -/
def midI (L : List Li) (o : Int) (i : Nat) : List Int := (L.take i).flatMap fun l => (leaveLi l o).1
theorem midI_next {L : List Li} {o : Int} {i : Nat} (h : i < L.length) : midI L o (i + 1) = midI L o i ++ (leaveLi L[i] o).1 := by
  unfold midI
  rw [List.take_succ_eq_append_getElem h, List.flatMap_append]; simp
/-- what holds at the loop's head. -/
def LvAt (w : World) (D : List Nat) (p : Nat) (la : Option Addr) (n c bi : Nat) (L : List Li) (o : Int) (i : Nat) (v : Value) (wr : World) : Prop :=
  ∃ (a : Option Addr) (ci : Nat) (X : List Ln), v = .slice a (midI L o i).length ci ∧ X.map (·.key) = L.map (·.key) ∧
    Mem w D wr ([BlockA bi #[.int .i64 o] 3, RowI a ci (midI L o i)] ++ (BlockA p #[.slice la n c] 59 :: RowA 34 3 la n c (lnFlat X) :: rowsOf X (midL L o i)))
set_option maxRecDepth 100000 in
theorem midI_len {L : List Li} (hb : Sm 400 L) (o : Int) : ∀ i, (midI L o i).length ≤ i * 400
  | 0 => by simp [midI]
  | i + 1 => by
    have ih := midI_len hb o i
    rcases Nat.lt_or_ge i L.length with h | h
    · rw [midI_next h, List.length_append]
      obtain ⟨p, h1, h2, -⟩ := letH_split (outH L[i].qs o) (outH L[i].hs o)
      have h3 : (leaveLi L[i] o).1.length = p.length := by show (letH _ _).1.length = _; rw [h2, List.length_map]
      have h4 := congrArg List.length h1
      rw [List.length_append] at h4
      have h5 : (outH L[i].qs o).length ≤ L[i].qs.length := List.length_filter_le _ _
      have h6 := hb.2 _ (List.getElem_mem h)
      omega
    · have : midI L o (i + 1) = midI L o i := by unfold midI; rw [List.take_of_length_le (by omega), List.take_of_length_le h]
      rw [this]; omega
end Go.Proofs.Ytnemgmlhcjhdhaa
