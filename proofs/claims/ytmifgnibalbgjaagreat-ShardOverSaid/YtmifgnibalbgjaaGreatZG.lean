/- Open, Decide, Kill, Beat at the table. -/
import Derived.Test.YtmifgnibalbgjaaGreatZD
namespace Go.Proofs.YtmifgnibalbgjaaGreat
open Go.RowKit
def rightM (tx att now : Int) : Bool := decide (0 ≤ tx) && decide (tx ≤ 1048576) && decide (0 ≤ att) && decide (att ≤ 1048576) && decide (0 ≤ now) && decide (now ≤ 1099511627776)
set_option maxHeartbeats 1000000 in
theorem st_right (g : Nat) (tx att now : Int) (w : World) : Calls Tryz.prog 124 #[.pointer (some ⟨g, 0, none⟩), .int .i64 tx, .int .i64 att, .int .i64 now] w fun e w' => e = .returned (.bool (rightM tx att now)) ∧ w = w' := by
  unfold rightM
  cases h1 : decide (0 ≤ tx) with
  | false =>
    go_enter Tryz.func124, Tryz.ntmps124
    go_wp2_with fail
    go_ret
    exact ⟨rfl, rfl⟩
  | true =>
    cases h2 : decide (tx ≤ 1048576) with
    | false =>
      go_enter Tryz.func124, Tryz.ntmps124
      go_wp2_with fail
      go_ret
      exact ⟨rfl, rfl⟩
    | true =>
      cases h3 : decide (0 ≤ att) with
      | false =>
        go_enter Tryz.func124, Tryz.ntmps124
        go_wp2_with fail
        go_ret
        exact ⟨rfl, rfl⟩
      | true =>
        cases h4 : decide (att ≤ 1048576) with
        | false =>
          go_enter Tryz.func124, Tryz.ntmps124
          go_wp2_with fail
          go_ret
          exact ⟨rfl, rfl⟩
        | true =>
          cases h5 : decide (0 ≤ now) with
          | false =>
            go_enter Tryz.func124, Tryz.ntmps124
            go_wp2_with fail
            go_ret
            exact ⟨rfl, rfl⟩
          | true =>
            go_enter Tryz.func124, Tryz.ntmps124
            go_wp2_with fail
            go_ret
            exact ⟨by first | rfl | simp, rfl⟩
end Go.Proofs.YtmifgnibalbgjaaGreat
/- Open, Decide, Kill, Beat at the table. -/
namespace Go.Proofs.YtmifgnibalbgjaaGreat
open Go.RowKit
theorem Mem.since {w w1 w' : World} {D : List Nat} {l : List Asn} (hb : Below w.heap.size w w1) (m : Mem w1 D w' l) : Mem w D w' l := by
  obtain ⟨D', hA, hD⟩ := m.out
  exact ⟨D', hA, (Step.of_below hb D).trans hD⟩
theorem rwFlat_state : ∀ (l : List Rw) (q : Nat) (h : q < l.length) (v : Int), (rwFlat l).set (q * 5 + 3) (.int .i64 v) = rwFlat (l.set q { l[q] with state := v })
  | [], _, h, _ => by cases h
  | x :: r, 0, _, _ => by simp [rwFlat]
  | x :: r, q + 1, h, v => by
    have := rwFlat_state r q (by simpa using h) v
    rw [show (q + 1) * 5 + 3 = (q * 5 + 3) + 1 + 1 + 1 + 1 + 1 by omega]
    simp only [rwFlat, List.set_cons_succ, List.getElem_cons_succ]
    rw [this]
theorem rwFlat_heard : ∀ (l : List Rw) (q : Nat) (h : q < l.length) (v : Int), (rwFlat l).set (q * 5 + 4) (.int .i64 v) = rwFlat (l.set q { l[q] with heard := v })
  | [], _, h, _ => by cases h
  | x :: r, 0, _, _ => by simp [rwFlat]
  | x :: r, q + 1, h, v => by
    have := rwFlat_heard r q (by simpa using h) v
    rw [show (q + 1) * 5 + 4 = (q * 5 + 4) + 1 + 1 + 1 + 1 + 1 by omega]
    simp only [rwFlat, List.set_cons_succ, List.getElem_cons_succ]
    rw [this]
theorem st_put (g : Nat) (l : List Rw) (r : Rw) (w : World) {D : List Nat} (h : StA g l w D) (hl : Rises l) (hn : l.length ≤ 1000) :
    Calls Tryz.prog 126 #[.pointer (some ⟨g, 0, none⟩), .agg #[.int .i64 r.tx, .int .i64 r.att, .int .i64 r.stamp, .int .i64 r.state, .int .i64 r.heard]] w (StPost w D g (putRw l r)) := by
  cases hh : hasR l r.tx with
  | true => exact st_put_has g l r w h hl hn hh
  | false =>
    have e : putRw l r = ((r.state, 0), l.take (posR l r.tx) ++ r :: l.drop (posR l r.tx)) := by unfold putRw; rw [hh]; rfl
    rw [e]
    exact st_put_new g l r w h hl hn hh
theorem howM_zero {l : List Rw} {t att : Int} (h : howM l t att = 0) : hasR l t = true := by
  unfold howM at h
  cases hh : hasR l t with
  | true => rfl
  | false => rw [hh] at h; simp at h
def setRw (l : List Rw) (tx : Int) (r : Rw) : List Rw := l.set (posR l tx) r
def openM (l : List Rw) (tx att stamp now : Int) : (Int × Int) × List Rw :=
  if rightM tx att now = false ∨ stamp < 1 ∨ 1099511627776 < stamp then ((0, 1), l)
  else if 0 < howM l tx att then putRw l ⟨tx, att, stamp, 1, now⟩
  else if howM l tx att < 0 ∨ (rowR l tx).state = 3 then ((0, 9), l)
  else (((rowR l tx).state, 0), l)
def decideM (l : List Rw) (tx att : Int) : (Int × Int) × List Rw :=
  if rightM tx att 0 = false then ((0, 1), l)
  else if 0 < howM l tx att then ((0, 6), l)
  else if howM l tx att < 0 then ((3, 0), l)
  else if (rowR l tx).state = 1 then ((2, 0), setRw l tx { rowR l tx with state := 2 })
  else if (rowR l tx).state = 2 then ((2, 0), l)
  else ((3, 0), l)
def killM (l : List Rw) (tx att now : Int) : (Int × Int) × List Rw :=
  if rightM tx att now = false then ((0, 1), l)
  else if 0 < howM l tx att then putRw l ⟨tx, att, 0, 3, now⟩
  else if howM l tx att < 0 then ((3, 0), l)
  else if (rowR l tx).state = 1 then ((3, 0), setRw l tx { rowR l tx with state := 3 })
  else if (rowR l tx).state = 3 then ((3, 0), l)
  else ((2, 0), l)
def beatM (l : List Rw) (tx att now : Int) : (Int × Int) × List Rw :=
  if rightM tx att now = false then ((0, 1), l)
  else if 0 < howM l tx att then ((0, 6), l)
  else if howM l tx att < 0 then ((3, 0), l)
  else if (rowR l tx).state = 1 then ((1, 0), setRw l tx { rowR l tx with heard := max (rowR l tx).heard now })
  else (((rowR l tx).state, 0), l)

set_option maxRecDepth 100000 in
set_option maxHeartbeats 4000000 in
theorem st_open (g : Nat) (l : List Rw) (tx att stamp now : Int) (w : World) {D : List Nat} (h : StA g l w D) (hl : Rises l) (hn : l.length ≤ 1000) :
    Calls Tryz.prog 84 #[.pointer (some ⟨g, 0, none⟩), .int .i64 tx, .int .i64 att, .int .i64 stamp, .int .i64 now] w (StPost w D g (openM l tx att stamp now)) := by
  obtain ⟨a, c, h⟩ := h
  have HR := Lib.hid (st_right g tx att now w)
  have HH := Lib.hid (st_how g a c l tx att w h hl (by omega))
  have HP := Lib.hid fun W1 (hb : Below w.heap.size w W1) (r : Rw) => (st_put g l r W1 (Stable.keep (A := StA g l) (⟨a, c, h⟩ : StA g l w D) fun x hx => hb.block x (Stable.lt (A := StA g l) (⟨a, c, h⟩ : StA g l w D) x hx)) hl hn).mono fun e W' (hp : StPost W1 D g (putRw l r) e W') => (⟨hp.1, hp.1, Mem.since hb hp.2⟩ : e = .returned (.tuple #[.int .i64 (putRw l r).1.1, .int .i64 (putRw l r).1.2]) ∧ StPost w D g (putRw l r) e W')
  have HF : Hid (∀ W1, Below w.heap.size w W1 → ∀ x y : Int, StPost w D g ((x, y), l) (.returned (.tuple #[.int .i64 x, .int .i64 y])) W1) := Lib.hid fun W1 hb x y => ⟨rfl, (Mem.start (A := StA g l) ⟨a, c, h⟩).below hb⟩
  unfold openM
  cases hr : rightM tx att now with
  | false =>
    rw [hr] at HR
    rw [if_pos (Or.inl rfl)]
    clear h hl hn HH HP hr
    generalize StPost w D g = Q at *
    have HF2 := HF.out w (Below.refl _ _) 0 1
    go_enter Tryz.func84, Tryz.ntmps84
    go_wp2_with fail
    refine HR.out.mono ?_
    rintro e w1 ⟨rfl, rfl⟩
    go_wp2_with fail
    exact HF2
  | true =>
    rw [hr] at HR
    by_cases hst : stamp < 1 ∨ 1099511627776 < stamp
    · rw [if_pos (Or.inr hst)]
      clear h hl hn HH HP hr
      generalize StPost w D g = Q at *
      have HF2 := HF.out w (Below.refl _ _) 0 1
      by_cases hs1 : stamp < 1
      · go_enter Tryz.func84, Tryz.ntmps84
        go_wp2_with fail
        refine HR.out.mono ?_
        rintro e w1 ⟨rfl, rfl⟩
        go_wp2_with fail
        exact HF2
      · have hs2 : 1099511627776 < stamp := by omega
        go_enter Tryz.func84, Tryz.ntmps84
        go_wp2_with fail
        refine HR.out.mono ?_
        rintro e w1 ⟨rfl, rfl⟩
        go_wp2_with fail
        exact HF2
    · rw [if_neg (by simp [hst])]
      have hs1 : ¬ stamp < 1 := by omega
      have hs2 : ¬ 1099511627776 < stamp := by omega
      clear hst
      by_cases hp : 0 < howM l tx att
      · rw [if_pos hp]
        have HP2 := Lib.hid fun W1 hb => HP.out W1 hb ⟨tx, att, stamp, 1, now⟩
        clear h hl hn HP hr HF
        generalize StPost w D g = Q at *
        generalize putRw l ⟨tx, att, stamp, 1, now⟩ = pq at *
        obtain ⟨⟨px, py⟩, pl⟩ := pq
        generalize howM l tx att = hv at *
        generalize ptrR a l tx = pv at *
        go_enter Tryz.func84, Tryz.ntmps84
        go_wp2_with fail
        refine HR.out.mono ?_
        rintro e w1 ⟨rfl, rfl⟩
        go_wp2_with fail
        refine HH.out.mono ?_
        rintro e w1 ⟨rfl, hb⟩
        have HP3 := Lib.hid (HP2.out _ hb)
        clear HP2 hb
        try simp only at HP3
        go_wp2_with fail
        refine HP3.out.mono ?_
        rintro e w2 ⟨rfl, hfin⟩
        go_wp2_with fail
        exact hfin
      rw [if_neg hp]
      by_cases hn0 : howM l tx att < 0
      · rw [if_pos (Or.inl hn0)]
        have HF2 : Hid (∀ W1, Below w.heap.size w W1 → StPost w D g ((0, 9), l) (.returned (.tuple #[.int .i64 0, .int .i64 9])) W1) := Lib.hid fun W1 hb => HF.out W1 hb 0 9
        clear h hl hn HP hr HF
        generalize StPost w D g = Q at *
        generalize howM l tx att = hv at *
        generalize ptrR a l tx = pv at *
        go_enter Tryz.func84, Tryz.ntmps84
        go_wp2_with fail
        refine HR.out.mono ?_
        rintro e w1 ⟨rfl, rfl⟩
        go_wp2_with fail
        refine HH.out.mono ?_
        rintro e w1 ⟨rfl, hb⟩
        go_wp2_with fail
        exact HF2.out _ hb
      have hz : howM l tx att = 0 := by omega
      have hh := howM_zero hz
      obtain ⟨hpl, -⟩ := hasR_get l tx hl hh
      have e1 := rowR_get hpl
      have M := Mem.ofAll h
      obtain ⟨gr, rfl, hat⟩ := rwAt_row (Mem.rowAt [BlockA g #[.slice a l.length c] 146] (r := []) M) (posR l tx) hpl
      have hptr : ptrR (some ⟨gr, 0, none⟩) l tx = some ⟨gr, posR l tx * 5, none⟩ := by unfold ptrR; rw [if_pos hh]; rfl
      rw [hptr, hz] at HH
      rw [← e1] at hat
      have HS : Hid (∀ W1, Below w.heap.size w W1 → (∀ v : Int, W1.cell? ⟨gr, posR l tx * 5 + 3, none⟩ = W1.cell? ⟨gr, posR l tx * 5 + 3, none⟩) ∧ W1.frozen? ⟨gr, posR l tx * 5 + 3, none⟩ = false ∧ W1.frozen? ⟨gr, posR l tx * 5 + 4, none⟩ = false ∧ (∀ v x y : Int, StPost w D g ((x, y), setRw l tx { rowR l tx with state := v }) (.returned (.tuple #[.int .i64 x, .int .i64 y])) (W1.setCell ⟨gr, posR l tx * 5 + 3, none⟩ (.int .i64 v))) ∧ (∀ v x y : Int, StPost w D g ((x, y), setRw l tx { rowR l tx with heard := v }) (.returned (.tuple #[.int .i64 x, .int .i64 y])) (W1.setCell ⟨gr, posR l tx * 5 + 4, none⟩ (.int .i64 v)))) := Lib.hid fun W1 hb => by
        have M1 : Mem w D W1 [BlockA g #[.slice (some ⟨gr, 0, none⟩) l.length c] 146, RowA 85 5 (some ⟨gr, 0, none⟩) l.length c (rwFlat l)] := M.below hb
        have hrow := Mem.rowAt [BlockA g #[.slice (some ⟨gr, 0, none⟩) l.length c] 146] (r := []) M1
        have hfl := rwFlat_len l
        refine ⟨fun _ => rfl, Row.fz hrow _ (by omega), Row.fz hrow _ (by omega), fun v x y => ⟨rfl, ?_⟩, fun v x y => ⟨rfl, ?_⟩⟩
        · have k1 := Mem.rowSet [BlockA g #[.slice (some ⟨gr, 0, none⟩) l.length c] 146] (r := []) M1 (posR l tx * 5 + 3) (.int .i64 v)
          rw [rwFlat_state l _ hpl, ← e1, show l.length = (l.set (posR l tx) { rowR l tx with state := v }).length by simp] at k1
          exact k1.stShut
        · have k1 := Mem.rowSet [BlockA g #[.slice (some ⟨gr, 0, none⟩) l.length c] 146] (r := []) M1 (posR l tx * 5 + 4) (.int .i64 v)
          rw [rwFlat_heard l _ hpl, ← e1, show l.length = (l.set (posR l tx) { rowR l tx with heard := v }).length by simp] at k1
          exact k1.stShut
      have hplt : posR l tx * 5 + 5 ≤ 5000 := by omega
      clear h hl hn HP hr M e1 hpl hh hptr hz hp
      generalize StPost w D g = Q at *
      generalize posR l tx = p at *
      generalize rowR l tx = z at *
      obtain ⟨z1, z2, z3, z4, z5⟩ := z
      simp only at HS
      by_cases hs : z4 = 3
      · skip
        rw [if_pos (Or.inr hs)]
        subst hs
        go_enter Tryz.func84, Tryz.ntmps84
        go_wp2_with fail
        refine HR.out.mono ?_
        rintro e w1 ⟨rfl, rfl⟩
        go_wp2_with fail
        refine HH.out.mono ?_
        rintro e w1 ⟨rfl, hb⟩
        obtain ⟨h0, h1, h2, h3, h4⟩ := hat.below hb
        simp only at h0 h1 h2 h3 h4
        obtain ⟨-, f3, f4, s3, s4⟩ := HS.out _ hb
        have HF3 := Lib.hid (HF.out _ hb)
        have HS3 := Lib.hid s3
        have HS4 := Lib.hid s4
        clear hb HS HF s3 s4 HH HR hat h0 h1 h2
        go_wp2_with fail
        exact HF3.out 0 9
      · skip
        rw [if_neg (by simp only; omega)]
        have hb3 : (z4 == 3) = false := by simpa using hs
        go_enter Tryz.func84, Tryz.ntmps84
        go_wp2_with fail
        refine HR.out.mono ?_
        rintro e w1 ⟨rfl, rfl⟩
        go_wp2_with fail
        refine HH.out.mono ?_
        rintro e w1 ⟨rfl, hb⟩
        obtain ⟨h0, h1, h2, h3, h4⟩ := hat.below hb
        simp only at h0 h1 h2 h3 h4
        obtain ⟨-, f3, f4, s3, s4⟩ := HS.out _ hb
        have HF3 := Lib.hid (HF.out _ hb)
        have HS3 := Lib.hid s3
        have HS4 := Lib.hid s4
        clear hb HS HF s3 s4 HH HR hat h0 h1 h2
        go_wp2_with fail
        exact HF3.out z4 0
set_option maxRecDepth 100000 in
set_option maxHeartbeats 4000000 in
theorem st_decide (g : Nat) (l : List Rw) (tx att : Int) (w : World) {D : List Nat} (h : StA g l w D) (hl : Rises l) (hn : l.length ≤ 1000) :
    Calls Tryz.prog 85 #[.pointer (some ⟨g, 0, none⟩), .int .i64 tx, .int .i64 att] w (StPost w D g (decideM l tx att)) := by
  obtain ⟨a, c, h⟩ := h
  have HR := Lib.hid (st_right g tx att 0 w)
  have HH := Lib.hid (st_how g a c l tx att w h hl (by omega))
  have HP := Lib.hid fun W1 (hb : Below w.heap.size w W1) (r : Rw) => (st_put g l r W1 (Stable.keep (A := StA g l) (⟨a, c, h⟩ : StA g l w D) fun x hx => hb.block x (Stable.lt (A := StA g l) (⟨a, c, h⟩ : StA g l w D) x hx)) hl hn).mono fun e W' (hp : StPost W1 D g (putRw l r) e W') => (⟨hp.1, hp.1, Mem.since hb hp.2⟩ : e = .returned (.tuple #[.int .i64 (putRw l r).1.1, .int .i64 (putRw l r).1.2]) ∧ StPost w D g (putRw l r) e W')
  have HF : Hid (∀ W1, Below w.heap.size w W1 → ∀ x y : Int, StPost w D g ((x, y), l) (.returned (.tuple #[.int .i64 x, .int .i64 y])) W1) := Lib.hid fun W1 hb x y => ⟨rfl, (Mem.start (A := StA g l) ⟨a, c, h⟩).below hb⟩
  unfold decideM
  cases hr : rightM tx att 0 with
  | false =>
    rw [hr] at HR
    rw [if_pos rfl]
    clear h hl hn HH HP hr
    generalize StPost w D g = Q at *
    have HF2 := HF.out w (Below.refl _ _) 0 1
    go_enter Tryz.func85, Tryz.ntmps85
    go_wp2_with fail
    refine HR.out.mono ?_
    rintro e w1 ⟨rfl, rfl⟩
    go_wp2_with fail
    exact HF2
  | true =>
    rw [hr] at HR
    rw [if_neg (by simp)]
    by_cases hp : 0 < howM l tx att
    · rw [if_pos hp]
      have HF2 : Hid (∀ W1, Below w.heap.size w W1 → StPost w D g ((0, 6), l) (.returned (.tuple #[.int .i64 0, .int .i64 6])) W1) := Lib.hid fun W1 hb => HF.out W1 hb 0 6
      clear h hl hn HP hr HF
      generalize StPost w D g = Q at *
      generalize howM l tx att = hv at *
      generalize ptrR a l tx = pv at *
      go_enter Tryz.func85, Tryz.ntmps85
      go_wp2_with fail
      refine HR.out.mono ?_
      rintro e w1 ⟨rfl, rfl⟩
      go_wp2_with fail
      refine HH.out.mono ?_
      rintro e w1 ⟨rfl, hb⟩
      go_wp2_with fail
      exact HF2.out _ hb
    rw [if_neg hp]
    by_cases hn0 : howM l tx att < 0
    · rw [if_pos (hn0)]
      have HF2 : Hid (∀ W1, Below w.heap.size w W1 → StPost w D g ((3, 0), l) (.returned (.tuple #[.int .i64 3, .int .i64 0])) W1) := Lib.hid fun W1 hb => HF.out W1 hb 3 0
      clear h hl hn HP hr HF
      generalize StPost w D g = Q at *
      generalize howM l tx att = hv at *
      generalize ptrR a l tx = pv at *
      go_enter Tryz.func85, Tryz.ntmps85
      go_wp2_with fail
      refine HR.out.mono ?_
      rintro e w1 ⟨rfl, rfl⟩
      go_wp2_with fail
      refine HH.out.mono ?_
      rintro e w1 ⟨rfl, hb⟩
      go_wp2_with fail
      exact HF2.out _ hb
    have hz : howM l tx att = 0 := by omega
    have hh := howM_zero hz
    obtain ⟨hpl, -⟩ := hasR_get l tx hl hh
    have e1 := rowR_get hpl
    have M := Mem.ofAll h
    obtain ⟨gr, rfl, hat⟩ := rwAt_row (Mem.rowAt [BlockA g #[.slice a l.length c] 146] (r := []) M) (posR l tx) hpl
    have hptr : ptrR (some ⟨gr, 0, none⟩) l tx = some ⟨gr, posR l tx * 5, none⟩ := by unfold ptrR; rw [if_pos hh]; rfl
    rw [hptr, hz] at HH
    rw [← e1] at hat
    have HS : Hid (∀ W1, Below w.heap.size w W1 → (∀ v : Int, W1.cell? ⟨gr, posR l tx * 5 + 3, none⟩ = W1.cell? ⟨gr, posR l tx * 5 + 3, none⟩) ∧ W1.frozen? ⟨gr, posR l tx * 5 + 3, none⟩ = false ∧ W1.frozen? ⟨gr, posR l tx * 5 + 4, none⟩ = false ∧ (∀ v x y : Int, StPost w D g ((x, y), setRw l tx { rowR l tx with state := v }) (.returned (.tuple #[.int .i64 x, .int .i64 y])) (W1.setCell ⟨gr, posR l tx * 5 + 3, none⟩ (.int .i64 v))) ∧ (∀ v x y : Int, StPost w D g ((x, y), setRw l tx { rowR l tx with heard := v }) (.returned (.tuple #[.int .i64 x, .int .i64 y])) (W1.setCell ⟨gr, posR l tx * 5 + 4, none⟩ (.int .i64 v)))) := Lib.hid fun W1 hb => by
      have M1 : Mem w D W1 [BlockA g #[.slice (some ⟨gr, 0, none⟩) l.length c] 146, RowA 85 5 (some ⟨gr, 0, none⟩) l.length c (rwFlat l)] := M.below hb
      have hrow := Mem.rowAt [BlockA g #[.slice (some ⟨gr, 0, none⟩) l.length c] 146] (r := []) M1
      have hfl := rwFlat_len l
      refine ⟨fun _ => rfl, Row.fz hrow _ (by omega), Row.fz hrow _ (by omega), fun v x y => ⟨rfl, ?_⟩, fun v x y => ⟨rfl, ?_⟩⟩
      · have k1 := Mem.rowSet [BlockA g #[.slice (some ⟨gr, 0, none⟩) l.length c] 146] (r := []) M1 (posR l tx * 5 + 3) (.int .i64 v)
        rw [rwFlat_state l _ hpl, ← e1, show l.length = (l.set (posR l tx) { rowR l tx with state := v }).length by simp] at k1
        exact k1.stShut
      · have k1 := Mem.rowSet [BlockA g #[.slice (some ⟨gr, 0, none⟩) l.length c] 146] (r := []) M1 (posR l tx * 5 + 4) (.int .i64 v)
        rw [rwFlat_heard l _ hpl, ← e1, show l.length = (l.set (posR l tx) { rowR l tx with heard := v }).length by simp] at k1
        exact k1.stShut
    have hplt : posR l tx * 5 + 5 ≤ 5000 := by omega
    clear h hl hn HP hr M e1 hpl hh hptr hz hp
    generalize StPost w D g = Q at *
    generalize posR l tx = p at *
    generalize rowR l tx = z at *
    obtain ⟨z1, z2, z3, z4, z5⟩ := z
    simp only at HS
    by_cases hs : z4 = 1
    · skip
      rw [if_neg (by omega), if_pos hs]
      subst hs
      go_enter Tryz.func85, Tryz.ntmps85
      go_wp2_with fail
      refine HR.out.mono ?_
      rintro e w1 ⟨rfl, rfl⟩
      go_wp2_with fail
      refine HH.out.mono ?_
      rintro e w1 ⟨rfl, hb⟩
      obtain ⟨h0, h1, h2, h3, h4⟩ := hat.below hb
      simp only at h0 h1 h2 h3 h4
      obtain ⟨-, f3, f4, s3, s4⟩ := HS.out _ hb
      have HF3 := Lib.hid (HF.out _ hb)
      have HS3 := Lib.hid s3
      have HS4 := Lib.hid s4
      clear hb HS HF s3 s4 HH HR hat h0 h1 h2
      go_wp2_with fail
      exact HS3.out 2 2 0
    by_cases hs2 : z4 = 2
    · skip
      rw [if_neg (by omega), if_neg hs, if_pos hs2]
      subst hs2
      go_enter Tryz.func85, Tryz.ntmps85
      go_wp2_with fail
      refine HR.out.mono ?_
      rintro e w1 ⟨rfl, rfl⟩
      go_wp2_with fail
      refine HH.out.mono ?_
      rintro e w1 ⟨rfl, hb⟩
      obtain ⟨h0, h1, h2, h3, h4⟩ := hat.below hb
      simp only at h0 h1 h2 h3 h4
      obtain ⟨-, f3, f4, s3, s4⟩ := HS.out _ hb
      have HF3 := Lib.hid (HF.out _ hb)
      have HS3 := Lib.hid s3
      have HS4 := Lib.hid s4
      clear hb HS HF s3 s4 HH HR hat h0 h1 h2
      go_wp2_with fail
      exact HF3.out 2 0
    · skip
      rw [if_neg (by omega), if_neg hs, if_neg hs2]
      have hb1 : (z4 == 1) = false := by simpa using hs
      have hb2 : (z4 == 2) = false := by simpa using hs2
      go_enter Tryz.func85, Tryz.ntmps85
      go_wp2_with fail
      refine HR.out.mono ?_
      rintro e w1 ⟨rfl, rfl⟩
      go_wp2_with fail
      refine HH.out.mono ?_
      rintro e w1 ⟨rfl, hb⟩
      obtain ⟨h0, h1, h2, h3, h4⟩ := hat.below hb
      simp only at h0 h1 h2 h3 h4
      obtain ⟨-, f3, f4, s3, s4⟩ := HS.out _ hb
      have HF3 := Lib.hid (HF.out _ hb)
      have HS3 := Lib.hid s3
      have HS4 := Lib.hid s4
      clear hb HS HF s3 s4 HH HR hat h0 h1 h2
      go_wp2_with fail
      exact HF3.out 3 0
set_option maxRecDepth 100000 in
set_option maxHeartbeats 4000000 in
theorem st_kill (g : Nat) (l : List Rw) (tx att now : Int) (w : World) {D : List Nat} (h : StA g l w D) (hl : Rises l) (hn : l.length ≤ 1000) :
    Calls Tryz.prog 86 #[.pointer (some ⟨g, 0, none⟩), .int .i64 tx, .int .i64 att, .int .i64 now] w (StPost w D g (killM l tx att now)) := by
  obtain ⟨a, c, h⟩ := h
  have HR := Lib.hid (st_right g tx att now w)
  have HH := Lib.hid (st_how g a c l tx att w h hl (by omega))
  have HP := Lib.hid fun W1 (hb : Below w.heap.size w W1) (r : Rw) => (st_put g l r W1 (Stable.keep (A := StA g l) (⟨a, c, h⟩ : StA g l w D) fun x hx => hb.block x (Stable.lt (A := StA g l) (⟨a, c, h⟩ : StA g l w D) x hx)) hl hn).mono fun e W' (hp : StPost W1 D g (putRw l r) e W') => (⟨hp.1, hp.1, Mem.since hb hp.2⟩ : e = .returned (.tuple #[.int .i64 (putRw l r).1.1, .int .i64 (putRw l r).1.2]) ∧ StPost w D g (putRw l r) e W')
  have HF : Hid (∀ W1, Below w.heap.size w W1 → ∀ x y : Int, StPost w D g ((x, y), l) (.returned (.tuple #[.int .i64 x, .int .i64 y])) W1) := Lib.hid fun W1 hb x y => ⟨rfl, (Mem.start (A := StA g l) ⟨a, c, h⟩).below hb⟩
  unfold killM
  cases hr : rightM tx att now with
  | false =>
    rw [hr] at HR
    rw [if_pos rfl]
    clear h hl hn HH HP hr
    generalize StPost w D g = Q at *
    have HF2 := HF.out w (Below.refl _ _) 0 1
    go_enter Tryz.func86, Tryz.ntmps86
    go_wp2_with fail
    refine HR.out.mono ?_
    rintro e w1 ⟨rfl, rfl⟩
    go_wp2_with fail
    exact HF2
  | true =>
    rw [hr] at HR
    rw [if_neg (by simp)]
    by_cases hp : 0 < howM l tx att
    · rw [if_pos hp]
      have HP2 := Lib.hid fun W1 hb => HP.out W1 hb ⟨tx, att, 0, 3, now⟩
      clear h hl hn HP hr HF
      generalize StPost w D g = Q at *
      generalize putRw l ⟨tx, att, 0, 3, now⟩ = pq at *
      obtain ⟨⟨px, py⟩, pl⟩ := pq
      generalize howM l tx att = hv at *
      generalize ptrR a l tx = pv at *
      go_enter Tryz.func86, Tryz.ntmps86
      go_wp2_with fail
      refine HR.out.mono ?_
      rintro e w1 ⟨rfl, rfl⟩
      go_wp2_with fail
      refine HH.out.mono ?_
      rintro e w1 ⟨rfl, hb⟩
      have HP3 := Lib.hid (HP2.out _ hb)
      clear HP2 hb
      try simp only at HP3
      go_wp2_with fail
      refine HP3.out.mono ?_
      rintro e w2 ⟨rfl, hfin⟩
      go_wp2_with fail
      exact hfin
    rw [if_neg hp]
    by_cases hn0 : howM l tx att < 0
    · rw [if_pos (hn0)]
      have HF2 : Hid (∀ W1, Below w.heap.size w W1 → StPost w D g ((3, 0), l) (.returned (.tuple #[.int .i64 3, .int .i64 0])) W1) := Lib.hid fun W1 hb => HF.out W1 hb 3 0
      clear h hl hn HP hr HF
      generalize StPost w D g = Q at *
      generalize howM l tx att = hv at *
      generalize ptrR a l tx = pv at *
      go_enter Tryz.func86, Tryz.ntmps86
      go_wp2_with fail
      refine HR.out.mono ?_
      rintro e w1 ⟨rfl, rfl⟩
      go_wp2_with fail
      refine HH.out.mono ?_
      rintro e w1 ⟨rfl, hb⟩
      go_wp2_with fail
      exact HF2.out _ hb
    have hz : howM l tx att = 0 := by omega
    have hh := howM_zero hz
    obtain ⟨hpl, -⟩ := hasR_get l tx hl hh
    have e1 := rowR_get hpl
    have M := Mem.ofAll h
    obtain ⟨gr, rfl, hat⟩ := rwAt_row (Mem.rowAt [BlockA g #[.slice a l.length c] 146] (r := []) M) (posR l tx) hpl
    have hptr : ptrR (some ⟨gr, 0, none⟩) l tx = some ⟨gr, posR l tx * 5, none⟩ := by unfold ptrR; rw [if_pos hh]; rfl
    rw [hptr, hz] at HH
    rw [← e1] at hat
    have HS : Hid (∀ W1, Below w.heap.size w W1 → (∀ v : Int, W1.cell? ⟨gr, posR l tx * 5 + 3, none⟩ = W1.cell? ⟨gr, posR l tx * 5 + 3, none⟩) ∧ W1.frozen? ⟨gr, posR l tx * 5 + 3, none⟩ = false ∧ W1.frozen? ⟨gr, posR l tx * 5 + 4, none⟩ = false ∧ (∀ v x y : Int, StPost w D g ((x, y), setRw l tx { rowR l tx with state := v }) (.returned (.tuple #[.int .i64 x, .int .i64 y])) (W1.setCell ⟨gr, posR l tx * 5 + 3, none⟩ (.int .i64 v))) ∧ (∀ v x y : Int, StPost w D g ((x, y), setRw l tx { rowR l tx with heard := v }) (.returned (.tuple #[.int .i64 x, .int .i64 y])) (W1.setCell ⟨gr, posR l tx * 5 + 4, none⟩ (.int .i64 v)))) := Lib.hid fun W1 hb => by
      have M1 : Mem w D W1 [BlockA g #[.slice (some ⟨gr, 0, none⟩) l.length c] 146, RowA 85 5 (some ⟨gr, 0, none⟩) l.length c (rwFlat l)] := M.below hb
      have hrow := Mem.rowAt [BlockA g #[.slice (some ⟨gr, 0, none⟩) l.length c] 146] (r := []) M1
      have hfl := rwFlat_len l
      refine ⟨fun _ => rfl, Row.fz hrow _ (by omega), Row.fz hrow _ (by omega), fun v x y => ⟨rfl, ?_⟩, fun v x y => ⟨rfl, ?_⟩⟩
      · have k1 := Mem.rowSet [BlockA g #[.slice (some ⟨gr, 0, none⟩) l.length c] 146] (r := []) M1 (posR l tx * 5 + 3) (.int .i64 v)
        rw [rwFlat_state l _ hpl, ← e1, show l.length = (l.set (posR l tx) { rowR l tx with state := v }).length by simp] at k1
        exact k1.stShut
      · have k1 := Mem.rowSet [BlockA g #[.slice (some ⟨gr, 0, none⟩) l.length c] 146] (r := []) M1 (posR l tx * 5 + 4) (.int .i64 v)
        rw [rwFlat_heard l _ hpl, ← e1, show l.length = (l.set (posR l tx) { rowR l tx with heard := v }).length by simp] at k1
        exact k1.stShut
    have hplt : posR l tx * 5 + 5 ≤ 5000 := by omega
    clear h hl hn HP hr M e1 hpl hh hptr hz hp
    generalize StPost w D g = Q at *
    generalize posR l tx = p at *
    generalize rowR l tx = z at *
    obtain ⟨z1, z2, z3, z4, z5⟩ := z
    simp only at HS
    by_cases hs : z4 = 1
    · skip
      rw [if_neg (by omega), if_pos hs]
      subst hs
      go_enter Tryz.func86, Tryz.ntmps86
      go_wp2_with fail
      refine HR.out.mono ?_
      rintro e w1 ⟨rfl, rfl⟩
      go_wp2_with fail
      refine HH.out.mono ?_
      rintro e w1 ⟨rfl, hb⟩
      obtain ⟨h0, h1, h2, h3, h4⟩ := hat.below hb
      simp only at h0 h1 h2 h3 h4
      obtain ⟨-, f3, f4, s3, s4⟩ := HS.out _ hb
      have HF3 := Lib.hid (HF.out _ hb)
      have HS3 := Lib.hid s3
      have HS4 := Lib.hid s4
      clear hb HS HF s3 s4 HH HR hat h0 h1 h2
      go_wp2_with fail
      exact HS3.out 3 3 0
    by_cases hs2 : z4 = 3
    · skip
      rw [if_neg (by omega), if_neg hs, if_pos hs2]
      subst hs2
      go_enter Tryz.func86, Tryz.ntmps86
      go_wp2_with fail
      refine HR.out.mono ?_
      rintro e w1 ⟨rfl, rfl⟩
      go_wp2_with fail
      refine HH.out.mono ?_
      rintro e w1 ⟨rfl, hb⟩
      obtain ⟨h0, h1, h2, h3, h4⟩ := hat.below hb
      simp only at h0 h1 h2 h3 h4
      obtain ⟨-, f3, f4, s3, s4⟩ := HS.out _ hb
      have HF3 := Lib.hid (HF.out _ hb)
      have HS3 := Lib.hid s3
      have HS4 := Lib.hid s4
      clear hb HS HF s3 s4 HH HR hat h0 h1 h2
      go_wp2_with fail
      exact HF3.out 3 0
    · skip
      rw [if_neg (by omega), if_neg hs, if_neg hs2]
      have hb1 : (z4 == 1) = false := by simpa using hs
      have hb2 : (z4 == 3) = false := by simpa using hs2
      go_enter Tryz.func86, Tryz.ntmps86
      go_wp2_with fail
      refine HR.out.mono ?_
      rintro e w1 ⟨rfl, rfl⟩
      go_wp2_with fail
      refine HH.out.mono ?_
      rintro e w1 ⟨rfl, hb⟩
      obtain ⟨h0, h1, h2, h3, h4⟩ := hat.below hb
      simp only at h0 h1 h2 h3 h4
      obtain ⟨-, f3, f4, s3, s4⟩ := HS.out _ hb
      have HF3 := Lib.hid (HF.out _ hb)
      have HS3 := Lib.hid s3
      have HS4 := Lib.hid s4
      clear hb HS HF s3 s4 HH HR hat h0 h1 h2
      go_wp2_with fail
      exact HF3.out 2 0
set_option maxRecDepth 100000 in
set_option maxHeartbeats 4000000 in
theorem st_beat (g : Nat) (l : List Rw) (tx att now : Int) (w : World) {D : List Nat} (h : StA g l w D) (hl : Rises l) (hn : l.length ≤ 1000) :
    Calls Tryz.prog 87 #[.pointer (some ⟨g, 0, none⟩), .int .i64 tx, .int .i64 att, .int .i64 now] w (StPost w D g (beatM l tx att now)) := by
  obtain ⟨a, c, h⟩ := h
  have HR := Lib.hid (st_right g tx att now w)
  have HH := Lib.hid (st_how g a c l tx att w h hl (by omega))
  have HP := Lib.hid fun W1 (hb : Below w.heap.size w W1) (r : Rw) => (st_put g l r W1 (Stable.keep (A := StA g l) (⟨a, c, h⟩ : StA g l w D) fun x hx => hb.block x (Stable.lt (A := StA g l) (⟨a, c, h⟩ : StA g l w D) x hx)) hl hn).mono fun e W' (hp : StPost W1 D g (putRw l r) e W') => (⟨hp.1, hp.1, Mem.since hb hp.2⟩ : e = .returned (.tuple #[.int .i64 (putRw l r).1.1, .int .i64 (putRw l r).1.2]) ∧ StPost w D g (putRw l r) e W')
  have HF : Hid (∀ W1, Below w.heap.size w W1 → ∀ x y : Int, StPost w D g ((x, y), l) (.returned (.tuple #[.int .i64 x, .int .i64 y])) W1) := Lib.hid fun W1 hb x y => ⟨rfl, (Mem.start (A := StA g l) ⟨a, c, h⟩).below hb⟩
  unfold beatM
  cases hr : rightM tx att now with
  | false =>
    rw [hr] at HR
    rw [if_pos rfl]
    clear h hl hn HH HP hr
    generalize StPost w D g = Q at *
    have HF2 := HF.out w (Below.refl _ _) 0 1
    go_enter Tryz.func87, Tryz.ntmps87
    go_wp2_with fail
    refine HR.out.mono ?_
    rintro e w1 ⟨rfl, rfl⟩
    go_wp2_with fail
    exact HF2
  | true =>
    rw [hr] at HR
    rw [if_neg (by simp)]
    by_cases hp : 0 < howM l tx att
    · rw [if_pos hp]
      have HF2 : Hid (∀ W1, Below w.heap.size w W1 → StPost w D g ((0, 6), l) (.returned (.tuple #[.int .i64 0, .int .i64 6])) W1) := Lib.hid fun W1 hb => HF.out W1 hb 0 6
      clear h hl hn HP hr HF
      generalize StPost w D g = Q at *
      generalize howM l tx att = hv at *
      generalize ptrR a l tx = pv at *
      go_enter Tryz.func87, Tryz.ntmps87
      go_wp2_with fail
      refine HR.out.mono ?_
      rintro e w1 ⟨rfl, rfl⟩
      go_wp2_with fail
      refine HH.out.mono ?_
      rintro e w1 ⟨rfl, hb⟩
      go_wp2_with fail
      exact HF2.out _ hb
    rw [if_neg hp]
    by_cases hn0 : howM l tx att < 0
    · rw [if_pos (hn0)]
      have HF2 : Hid (∀ W1, Below w.heap.size w W1 → StPost w D g ((3, 0), l) (.returned (.tuple #[.int .i64 3, .int .i64 0])) W1) := Lib.hid fun W1 hb => HF.out W1 hb 3 0
      clear h hl hn HP hr HF
      generalize StPost w D g = Q at *
      generalize howM l tx att = hv at *
      generalize ptrR a l tx = pv at *
      go_enter Tryz.func87, Tryz.ntmps87
      go_wp2_with fail
      refine HR.out.mono ?_
      rintro e w1 ⟨rfl, rfl⟩
      go_wp2_with fail
      refine HH.out.mono ?_
      rintro e w1 ⟨rfl, hb⟩
      go_wp2_with fail
      exact HF2.out _ hb
    have hz : howM l tx att = 0 := by omega
    have hh := howM_zero hz
    obtain ⟨hpl, -⟩ := hasR_get l tx hl hh
    have e1 := rowR_get hpl
    have M := Mem.ofAll h
    obtain ⟨gr, rfl, hat⟩ := rwAt_row (Mem.rowAt [BlockA g #[.slice a l.length c] 146] (r := []) M) (posR l tx) hpl
    have hptr : ptrR (some ⟨gr, 0, none⟩) l tx = some ⟨gr, posR l tx * 5, none⟩ := by unfold ptrR; rw [if_pos hh]; rfl
    rw [hptr, hz] at HH
    rw [← e1] at hat
    have HS : Hid (∀ W1, Below w.heap.size w W1 → (∀ v : Int, W1.cell? ⟨gr, posR l tx * 5 + 3, none⟩ = W1.cell? ⟨gr, posR l tx * 5 + 3, none⟩) ∧ W1.frozen? ⟨gr, posR l tx * 5 + 3, none⟩ = false ∧ W1.frozen? ⟨gr, posR l tx * 5 + 4, none⟩ = false ∧ (∀ v x y : Int, StPost w D g ((x, y), setRw l tx { rowR l tx with state := v }) (.returned (.tuple #[.int .i64 x, .int .i64 y])) (W1.setCell ⟨gr, posR l tx * 5 + 3, none⟩ (.int .i64 v))) ∧ (∀ v x y : Int, StPost w D g ((x, y), setRw l tx { rowR l tx with heard := v }) (.returned (.tuple #[.int .i64 x, .int .i64 y])) (W1.setCell ⟨gr, posR l tx * 5 + 4, none⟩ (.int .i64 v)))) := Lib.hid fun W1 hb => by
      have M1 : Mem w D W1 [BlockA g #[.slice (some ⟨gr, 0, none⟩) l.length c] 146, RowA 85 5 (some ⟨gr, 0, none⟩) l.length c (rwFlat l)] := M.below hb
      have hrow := Mem.rowAt [BlockA g #[.slice (some ⟨gr, 0, none⟩) l.length c] 146] (r := []) M1
      have hfl := rwFlat_len l
      refine ⟨fun _ => rfl, Row.fz hrow _ (by omega), Row.fz hrow _ (by omega), fun v x y => ⟨rfl, ?_⟩, fun v x y => ⟨rfl, ?_⟩⟩
      · have k1 := Mem.rowSet [BlockA g #[.slice (some ⟨gr, 0, none⟩) l.length c] 146] (r := []) M1 (posR l tx * 5 + 3) (.int .i64 v)
        rw [rwFlat_state l _ hpl, ← e1, show l.length = (l.set (posR l tx) { rowR l tx with state := v }).length by simp] at k1
        exact k1.stShut
      · have k1 := Mem.rowSet [BlockA g #[.slice (some ⟨gr, 0, none⟩) l.length c] 146] (r := []) M1 (posR l tx * 5 + 4) (.int .i64 v)
        rw [rwFlat_heard l _ hpl, ← e1, show l.length = (l.set (posR l tx) { rowR l tx with heard := v }).length by simp] at k1
        exact k1.stShut
    have hplt : posR l tx * 5 + 5 ≤ 5000 := by omega
    clear h hl hn HP hr M e1 hpl hh hptr hz hp
    generalize StPost w D g = Q at *
    generalize posR l tx = p at *
    generalize rowR l tx = z at *
    obtain ⟨z1, z2, z3, z4, z5⟩ := z
    simp only at HS
    by_cases hs : z4 = 1
    · skip
      rw [if_neg (by omega), if_pos hs]
      subst hs
      go_enter Tryz.func87, Tryz.ntmps87
      go_wp2_with fail
      refine HR.out.mono ?_
      rintro e w1 ⟨rfl, rfl⟩
      go_wp2_with fail
      refine HH.out.mono ?_
      rintro e w1 ⟨rfl, hb⟩
      obtain ⟨h0, h1, h2, h3, h4⟩ := hat.below hb
      simp only at h0 h1 h2 h3 h4
      obtain ⟨-, f3, f4, s3, s4⟩ := HS.out _ hb
      have HF3 := Lib.hid (HF.out _ hb)
      have HS3 := Lib.hid s3
      have HS4 := Lib.hid s4
      clear hb HS HF s3 s4 HH HR hat h0 h1 h2
      go_wp2_with fail
      exact HS4.out (max z5 now) 1 0
    · skip
      rw [if_neg (by omega), if_neg hs]
      have hb1 : (z4 == 1) = false := by simpa using hs
      go_enter Tryz.func87, Tryz.ntmps87
      go_wp2_with fail
      refine HR.out.mono ?_
      rintro e w1 ⟨rfl, rfl⟩
      go_wp2_with fail
      refine HH.out.mono ?_
      rintro e w1 ⟨rfl, hb⟩
      obtain ⟨h0, h1, h2, h3, h4⟩ := hat.below hb
      simp only at h0 h1 h2 h3 h4
      obtain ⟨-, f3, f4, s3, s4⟩ := HS.out _ hb
      have HF3 := Lib.hid (HF.out _ hb)
      have HS3 := Lib.hid s3
      have HS4 := Lib.hid s4
      clear hb HS HF s3 s4 HH HR hat h0 h1 h2
      go_wp2_with fail
      exact HF3.out z4 0
end Go.Proofs.YtmifgnibalbgjaaGreat
