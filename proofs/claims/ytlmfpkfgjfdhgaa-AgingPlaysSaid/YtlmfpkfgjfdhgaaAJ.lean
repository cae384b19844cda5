/- The graph: Stamp, Has, Node, Edge, Elder. -/
import Derived.Test.YtlmfpkfgjfdhgaaAE
import Derived.Test.YtlmfpkfgjfdhgaaMem2
namespace Go.Proofs.Ytlmfpkfgjfdhgaa
open Go.RowKit

abbrev Prs := List (Int × Int)
theorem edgeFlat_len (l : Prs) : (edgeFlat l).length = l.length * 2 := by
  induction l with
  | nil => rfl
  | cons t r ih => rw [show edgeFlat (t :: r) = [.int .i64 t.1, .int .i64 t.2] ++ edgeFlat r from rfl, List.length_append, ih]; simp; omega
theorem edgeFlat_get : ∀ (l : Prs) (k : Nat) (h : k < l.length), (edgeFlat l)[k * 2]? = some (.int .i64 l[k].1) ∧ (edgeFlat l)[k * 2 + 1]? = some (.int .i64 l[k].2)
  | [], k, h => absurd h (by simp)
  | t :: r, 0, _ => by simp [edgeFlat]
  | t :: r, k + 1, h => by
    have := edgeFlat_get r k (by simpa using h)
    rw [show edgeFlat (t :: r) = .int .i64 t.1 :: .int .i64 t.2 :: edgeFlat r from rfl, show (k + 1) * 2 = k * 2 + 1 + 1 by omega]
    simpa using this
/-- the pair at k. -/
theorem pr_row {w : World} {E : Nat} {a : Option Addr} {n c : Nat} {l : Prs} (h : Row w E 2 a n c (edgeFlat l)) (k : Nat) (hk : k < l.length) :
    ∃ g, a = some ⟨g, 0, none⟩ ∧ w.cell? ⟨g, k * 2, none⟩ = some (.int .i64 l[k].1) ∧ w.cell? ⟨g, k * 2 + 1, none⟩ = some (.int .i64 l[k].2) := by
  obtain ⟨h0, h1⟩ := edgeFlat_get l k hk
  have hl := edgeFlat_len l
  obtain ⟨g0, e0, c0⟩ := h.cellAt (k * 2) (by omega)
  obtain ⟨g1, e1, c1⟩ := h.cellAt (k * 2 + 1) (by omega)
  subst e0
  simp only [Option.some.injEq, Addr.mk.injEq, and_true] at e1
  subst e1
  rw [List.getElem?_eq_getElem (by omega)] at h0 h1
  exact ⟨g0, rfl, by rw [c0, h0], by rw [c1, h1]⟩
/-- The graph. -/
def GrA (p : Nat) (N E : Prs) : Asn := fun w D => ∃ na nc ea ec, All [BlockA p #[.slice na N.length nc, .slice ea E.length ec] 39, RowA 85 2 na N.length nc (edgeFlat N), RowA 44 2 ea E.length ec (edgeFlat E)] w D
instance {p : Nat} {N E : Prs} : Stable (GrA p N E) where
  lt := fun ⟨_, _, _, _, h⟩ => (allStable).lt h
  keep := fun ⟨na, nc, ea, ec, h⟩ hk => ⟨na, nc, ea, ec, (allStable).keep h hk⟩
def stampG (N : Prs) (id : Int) : Option Int := (N.find? fun x => x.1 == id).map (·.2)
theorem stampG_at {N : Prs} {id : Int} {k : Nat} (hk : k < N.length) (hid : N[k].1 = id) (hn : ∀ i (hi : i < N.length), i < k → N[i].1 ≠ id) : stampG N id = some N[k].2 := by
  unfold stampG
  have : N.find? (fun x => x.1 == id) = some N[k] := by
    rw [List.find?_eq_some_iff_getElem]
    exact ⟨by simpa using hid, k, hk, rfl, fun j hj => by simpa using hn j (by omega) hj⟩
  rw [this]; rfl
theorem stampG_none {N : Prs} {id : Int} (hn : ∀ i (hi : i < N.length), N[i].1 ≠ id) : stampG N id = none := by
  unfold stampG
  rw [List.find?_eq_none.2 (fun x hx => by obtain ⟨i, hi, rfl⟩ := List.getElem_of_mem hx; simpa using hn i hi)]; rfl
def stampE : Option Int → Ending
  | some s => .returned (.tuple #[.int .i64 s, .bool true])
  | none => .returned (.tuple #[.int .i64 0, .bool false])
set_option maxRecDepth 100000 in
set_option maxHeartbeats 1600000 in
theorem gr_stamp (p : Nat) (N E : Prs) (id : Int) (w : World) (D : List Nat) (h : GrA p N E w D) (hbig : N.length ≤ 1000) :
    Calls Try.prog 41 #[.pointer (some ⟨p, 0, none⟩), .int .i64 id] w fun e w' => e = stampE (stampG N id) ∧ Below w.heap.size w w' := by
  obtain ⟨na, nc, ea, ec, hA⟩ := h
  have M := Mem.ofAll hA
  have hc : w.cell? ⟨p, 0, none⟩ = some (.slice na N.length nc) := (Mem.cellAt (i := 0) [] (r := [RowA 85 2 na N.length nc (edgeFlat N), RowA 44 2 ea E.length ec (edgeFlat E)]) M rfl).1
  have HR := Lib.hid (Mem.rowAt [BlockA p #[.slice na N.length nc, .slice ea E.length ec] 39] (r := [RowA 44 2 ea E.length ec (edgeFlat E)]) M)
  have HT := Lib.hid fun (k : Nat) (hk : k < N.length) => stampG_at (N := N) (id := id) hk
  have HF := Lib.hid fun h => stampG_none (N := N) (id := id) h
  clear hA M
  generalize stampG N id = st at *
  generalize hn : N.length = n at hc hbig
  have HN := Lib.hid hn
  clear hn
  go_enter Try.func41, Try.ntmps41
  go_wp2_with fail
  go_loopw [13] (fun j wr => ∃ k : Nat, k ≤ n ∧ j = .int .i64 k ∧ Hid (Below w.heap.size w wr ∧ ∀ i (hi : i < N.length), i < k → N[i].1 ≠ id)) (fun j _ => n - (intOf j).toNat)
  case atStart => exact ⟨0, Nat.zero_le _, rfl, Lib.hid ⟨Below.refl _ _, fun _ _ h => by omega⟩⟩
  case round =>
    obtain ⟨k, hk, rfl, hS⟩ := hrel
    obtain ⟨hb, hall⟩ := hS.out
    have HB := Lib.hid hb
    have HALL := Lib.hid hall
    clear hS hall
    by_cases hlt : k < n
    · have hk2 : k < N.length := by rw [HN.out]; exact hlt
      obtain ⟨g, rfl, hx0, hx1⟩ := pr_row (HR.out.below hb) k hk2
      have HX := Lib.hid fun e => HT.out k hk2 e HALL.out
      have HNX : Hid (N[k].1 ≠ id → ∀ i (hi : i < N.length), i < k + 1 → N[i].1 ≠ id) := Lib.hid fun h i hi hik => by
        by_cases e : i = k
        · subst e; exact h
        · exact HALL.out i hi (by omega)
      have HB2 := Lib.hid (hb.trans ((bel_new wr (.cells #[.int .i64 N[k].1, .int .i64 N[k].2] 85)).mono hb.size))
      clear hb HALL HT HF
      generalize N[k] = x at *
      obtain ⟨xi, xs⟩ := x
      simp only at hx0 hx1 HX HNX HB2
      by_cases he : xi = id
      · have h1 := HX.out he
        subst h1
        have hq : (xi == id) = true := by simpa using he
        clear HX HNX he
        go_wp2_with fail
        go_ret2
        exact ⟨rfl, HB2.out⟩
      · have hq : (xi == id) = false := by simpa using he
        have HN2 := Lib.hid (HNX.out he)
        clear HX HNX he
        go_wp2_with fail
        go_roundw
        case rel => exact ⟨k + 1, by omega, by go_num, Lib.hid ⟨HB2.out, HN2.out⟩⟩
        case measure => simp [intOf]; omega
    · have h1 := HF.out fun i hi => HALL.out i hi (by have := HN.out; omega)
      subst h1
      clear HF HT hb
      go_wp2_with fail
      go_ret2
      exact ⟨rfl, HB.out⟩
def hasG (E : Prs) (f t : Int) : Bool := E.any fun e => e.1 == f && e.2 == t
set_option maxRecDepth 100000 in
set_option maxHeartbeats 1600000 in
theorem gr_has_not (p : Nat) (N E : Prs) (f t : Int) (w : World) (D : List Nat) (h : GrA p N E w D) (hbig : E.length ≤ 1000) (hno : ∀ i (hi : i < E.length), E[i].1 ≠ f) :
    Calls Try.prog 42 #[.pointer (some ⟨p, 0, none⟩), .int .i64 f, .int .i64 t] w fun e w' => e = .returned (.bool false) ∧ Below w.heap.size w w' := by
  obtain ⟨na, nc, ea, ec, hA⟩ := h
  have M := Mem.ofAll hA
  have hc : w.cell? ⟨p, 1, none⟩ = some (.slice ea E.length ec) := (Mem.cellAt (i := 1) [] (r := [RowA 85 2 na N.length nc (edgeFlat N), RowA 44 2 ea E.length ec (edgeFlat E)]) M rfl).1
  have HR := Lib.hid (Mem.rowAt [BlockA p #[.slice na N.length nc, .slice ea E.length ec] 39, RowA 85 2 na N.length nc (edgeFlat N)] (r := []) M)
  have HNO := Lib.hid hno
  clear hA M hno
  generalize hn : E.length = n at hc hbig
  have HN := Lib.hid hn
  clear hn
  go_enter Try.func42, Try.ntmps42
  go_wp2_with fail
  go_loopw [14] (fun j wr => ∃ k : Nat, k ≤ n ∧ j = .int .i64 k ∧ Hid (Below w.heap.size w wr)) (fun j _ => n - (intOf j).toNat)
  case atStart => exact ⟨0, Nat.zero_le _, rfl, Lib.hid (Below.refl _ _)⟩
  case round =>
    obtain ⟨k, hk, rfl, hS⟩ := hrel
    have hb := hS.out
    have HB := Lib.hid hb
    clear hS
    by_cases hlt : k < n
    · have hk2 : k < E.length := by rw [HN.out]; exact hlt
      obtain ⟨g, rfl, hx0, hx1⟩ := pr_row (HR.out.below hb) k hk2
      have hne := HNO.out k (by omega)
      have HB2 := Lib.hid (hb.trans ((bel_new wr (.cells #[.int .i64 E[k].1, .int .i64 E[k].2] 44)).mono hb.size))
      clear hb
      generalize E[k] = x at *
      obtain ⟨xi, xs⟩ := x
      simp only at hx0 hx1 HB2 hne
      have hq : (xi == f) = false := by simpa using hne
      clear hne
      go_wp2_with fail
      go_roundw
      case rel => exact ⟨k + 1, by omega, by go_num, HB2⟩
      case measure => simp [intOf]; omega
    · clear hb
      go_wp2_with fail
      go_ret
      exact ⟨rfl, HB.out⟩
/-- a node more. -/
def GPost (p : Nat) (N E : Prs) (w : World) (D : List Nat) (e0 e : Ending) (w' : World) : Prop := e = e0 ∧ ∃ D', GrA p N E w' D' ∧ Step w D w' D'
theorem info85 : (Try.prog.info? 85).map (fun i => (i.zero, i.size, i.bytes)) = some (some (.agg #[.int .i64 0, .int .i64 0]), 2, 16) := by kernel_rfl
set_option maxRecDepth 100000 in
set_option maxHeartbeats 1600000 in
theorem gr_node (p : Nat) (N E : Prs) (id st : Int) (w : World) (D : List Nat) (h : GrA p N E w D) (h1 : 0 ≤ id) (h2 : 0 ≤ st) (h3 : st ≤ 1099511627776) (h4 : stampG N id = none) (h5 : N.length < 64) :
    Calls Try.prog 14 #[.pointer (some ⟨p, 0, none⟩), .int .i64 id, .int .i64 st] w (GPost p (N ++ [(id, st)]) E w D (.returned (.int .i64 0))) := by
  have HST := Lib.hid (gr_stamp p N E id w D h (by omega))
  rw [h4] at HST
  obtain ⟨na, nc, ea, ec, hA⟩ := h
  have HM := Lib.hid (Mem.ofAll hA)
  have HF : Hid (∀ w' a' c', Mem w D w' [BlockA p #[.slice a' (N.length + 1) c', .slice ea E.length ec] 39, RowA 85 2 a' (N.length + 1) c' (edgeFlat N ++ [.int .i64 id, .int .i64 st]), RowA 44 2 ea E.length ec (edgeFlat E)] → GPost p (N ++ [(id, st)]) E w D (.returned (.int .i64 0)) (.returned (.int .i64 0)) w') := Lib.hid fun w' a' c' hm => by
    obtain ⟨D', h1, h2⟩ := hm.out
    exact ⟨rfl, D', ⟨a', c', ea, ec, by rw [edgeFlat_snoc, List.length_append]; exact h1⟩, h2⟩
  generalize GPost p (N ++ [(id, st)]) E w D (.returned (.int .i64 0)) = R at *
  clear hA h4
  have b1 : decide (id < 0) = false := decide_eq_false (by omega)
  have b2 : decide (st < 0) = false := decide_eq_false (by omega)
  have b3 : decide (1099511627776 < st) = false := decide_eq_false (by omega)
  go_enter Try.func14, Try.ntmps14
  go_wp2_with fail
  refine HST.out.mono ?_
  rintro e w1 ⟨rfl, hb⟩
  have HM1 := Lib.hid (HM.out.below hb)
  clear hb HM
  unfold stampE
  obtain ⟨hc, -⟩ := Mem.cellAt (i := 0) [] (r := [RowA 85 2 na N.length nc (edgeFlat N), RowA 44 2 ea E.length ec (edgeFlat E)]) HM1.out rfl
  obtain ⟨b', cap', w4, hrun, hm⟩ := Mem.app1 (P := Try.prog) (t := 36) (ty := 36) [BlockA p #[.slice na N.length nc, .slice ea E.length ec] 39] (r := [RowA 44 2 ea E.length ec (edgeFlat E)]) Try.underlying36 info85 (by rfl) (by decide) HM1.out [.int .i64 id, .int .i64 st] rfl (by simp [Value.oneCell']) (by omega) (by decide)
  have HRUN := Lib.hid hrun
  have HM2 := Lib.hid hm
  clear hrun hm
  obtain ⟨hc1, hf1⟩ := Mem.cellAt (i := 0) [] (r := [RowA 85 2 b' (N.length + 1) cap' (edgeFlat N ++ [.int .i64 id, .int .i64 st]), RowA 44 2 ea E.length ec (edgeFlat E)]) HM2.out rfl
  have HM3 := Lib.hid (HF.out _ _ _ (Mem.setAt (i := 0) [] (r := [RowA 85 2 b' (N.length + 1) cap' (edgeFlat N ++ [.int .i64 id, .int .i64 st]), RowA 44 2 ea E.length ec (edgeFlat E)]) HM2.out (.slice b' (N.length + 1) cap')))
  generalize N.length = n at *
  go_wp2_with ((at_builtin; refine wpList_appendR _ rfl (.tmp 39) (.tmp 43) 36 36 rfl (.slice na n nc) (.slice (some ⟨w1.heap.size, 0, none⟩) 1 1) rfl rfl HRUN.out ?_))
  exact HM3.out
end Go.Proofs.Ytlmfpkfgjfdhgaa
