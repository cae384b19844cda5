/- Numbers and their texts; what an operation writes and tells. -/
import Derived.Test.YtmifgnibalbgjaaDoorC
import Derived.Test.YtmifgnibalbgjaaDoorShelf
import Derived.Lib.SmallJoins
import Derived.Lib.AppendIntMem
import Derived.Lib.AtoiAllCases
import Derived.BigQuiet
import Derived.Deep.QuietTactic
import Derived.Deep.RegionHeld3
import Derived.StillTailTactics
namespace Go.Proofs.YtmifgnibalbgjaaDoor
open Go.RowKit
/-- What the library reads. -/
structure LibV (w : World) : Prop where
  pow : Lib.TabIs Tryd.prog w "internal/strconv.uint64pow10" .u64 Lib.pow10Tab
  syn : ∃ tp p, w.var? Tryd.prog "strconv.ErrSyntax" = some #[.iface tp p]
  ran : ∃ tp p, w.var? Tryd.prog "strconv.ErrRange" = some #[.iface tp p]
theorem gPow : Tryd.prog.globalNamed "internal/strconv.uint64pow10" = some 2 := by kernel_rfl
theorem gSyn : Tryd.prog.globalNamed "strconv.ErrSyntax" = some 0 := by kernel_rfl
theorem gRan : Tryd.prog.globalNamed "strconv.ErrRange" = some 1 := by kernel_rfl
theorem LibV.below {w w' : World} (h : LibV w) (b : Below w.heap.size w w') : LibV w' := by
  obtain ⟨t1, p1, h1⟩ := h.syn
  obtain ⟨t2, p2, h2⟩ := h.ran
  exact ⟨Joins.tab_stays gPow h.pow b (Nat.le_refl _), ⟨t1, p1, Joins.var_stays gSyn h1 b (Nat.le_refl _)⟩, ⟨t2, p2, Joins.var_stays gRan h2 b (Nat.le_refl _)⟩⟩
def itoaS (n : Int) : ByteArray := ⟨(Lib.itoa n).toArray⟩
def clampN (n : Int) : Int := min (max n (-1125899906842624)) 1125899906842624
theorem clampN_bd (n : Int) : -1125899906842624 ≤ clampN n ∧ clampN n ≤ 1125899906842624 := by unfold clampN; omega
def numB (s : ByteArray) : Int := match Lib.atoiAll s.data.toList with
  | .ok v => if itoaS v = s then (if clampN v = v then v else 0) else 0
  | _ => 0
def rs0 : Rs := ⟨⟨#[]⟩, false⟩
def plainR (r : Rs) : Rs := if r.h then r else rs0
def addR (o : Opp) (has : Rs) : Rs := ⟨itoaS (clampN (numB has.v + clampN o.n)), true⟩
def stepW (o : Opp) (has last : Rs) : Rs :=
  if o.kind = 2 then ⟨o.value, true⟩ else if o.kind = 4 then plainR last else if o.kind = 5 then addR o (plainR has) else rs0
def stepR (o : Opp) (has : Rs) : Rs :=
  if o.kind = 5 then addR o (plainR has) else if o.kind = 1 ∨ o.kind = 2 ∨ o.kind = 3 ∨ o.kind = 4 then plainR has else rs0
theorem numB_bd (s : ByteArray) : -1125899906842624 ≤ numB s ∧ numB s ≤ 1125899906842624 := by
  unfold numB
  split
  · rename_i v _
    split
    · split
      · rename_i h
        have := clampN_bd v
        omega
      · omega
    · omega
  · omega
set_option maxHeartbeats 400000 in
theorem text_any (n : Int) (w : World) (h0 : -9223372036854775808 ≤ n) (h1 : n ≤ 9223372036854775807) (hv : LibV w) :
    Calls Tryd.prog 59 #[.int .i64 n] w fun e w' => e = .returned (.string (itoaS n)) ∧ Below w.heap.size w w' := by
  have H := Lib.hid ((Tryd.strconv_Itoa n h0 h1 w hv.pow).mono fun (e : Ending) w' ⟨he, k, os, hw⟩ => (⟨he, hw ▸ Lib.below_grow _ _ (Nat.le_refl _) _ _⟩ : e = Ending.returned (.string (itoaS n)) ∧ Below w.heap.size w w'))
  clear hv h0 h1
  go_enter Tryd.func59, Tryd.ntmps59
  go_wp2_with (go_at_call 65; refine H.out.mono ?_; rintro e w1 ⟨rfl, hb⟩)
  go_ret
  exact ⟨rfl, hb⟩
set_option maxHeartbeats 400000 in
theorem clamp_any (n : Int) (w : World) : Calls Tryd.prog 57 #[.int .i64 n] w fun e w' => e = .returned (.int .i64 (clampN n)) ∧ w = w' := by
  unfold clampN
  go_enter Tryd.func57, Tryd.ntmps57
  go_wp2_with fail
  go_ret
  exact ⟨rfl, rfl⟩
set_option maxHeartbeats 400000 in
theorem plain_any (r : Rs) (w : World) : Calls Tryd.prog 56 #[rsV r] w fun e w' => e = .returned (rsV (plainR r)) ∧ Below w.heap.size w w' := by
  obtain ⟨v, h⟩ := r
  cases h
  · rw [show plainR ⟨v, false⟩ = rs0 from rfl]
    unfold rsV rs0
    simp only
    go_enter Tryd.func56, Tryd.ntmps56
    go_wp2_with fail
    exact bodyPost_ret (v := .agg #[.string ⟨#[]⟩, .bool false]) (by simp [results, Tryd.results56, go_sem]) rfl ⟨rfl, Joins.below_alloc2 _ _ _⟩
  · rw [show plainR ⟨v, true⟩ = ⟨v, true⟩ from rfl]
    unfold rsV
    simp only
    go_enter Tryd.func56, Tryd.ntmps56
    go_wp2_with fail
    exact bodyPost_ret (v := .agg #[.string v, .bool true]) (by simp [results, Tryd.results56, go_sem]) rfl ⟨rfl, Joins.below_alloc2 _ _ _⟩
set_option maxRecDepth 100000 in
set_option maxHeartbeats 1600000 in
theorem number_any (s : ByteArray) (w : World) (hs : s.size ≤ 140737488355328) (hv : LibV w) :
    Calls Tryd.prog 58 #[.string s] w fun e w' => e = .returned (.int .i64 (numB s)) ∧ Below w.heap.size w w' := by
  have HV := Lib.hid hv
  cases ha : Lib.atoiAll s.data.toList with
  | ok v =>
    obtain ⟨b1, b2⟩ := Lib.atoiAll_bounds ha
    have HA := Lib.hid ((Tryd.strconv_Atoi_ok s (by omega) v ha w).mono fun (e : Ending) w' ⟨he, hw⟩ => (⟨he, by
      rcases hw with rfl | ⟨t, rfl⟩
      · exact Below.refl _ _
      · exact Lib.bytesWorld_below _ _ _⟩ : e = Ending.returned (.tuple #[.int .i64 v, .nilIface]) ∧ Below w.heap.size w w'))
    have HT := Lib.hid fun W (hb : Below w.heap.size w W) => text_any v W b1 b2 (hv.below hb)
    have HC := Lib.hid fun W => clamp_any v W
    have hN : numB s = if itoaS v = s then (if clampN v = v then v else 0) else 0 := by unfold numB; rw [ha]
    rw [hN]
    clear hN ha hs hv HV
    by_cases h1 : itoaS v = s
    · rw [if_pos h1]
      have q1 : ((itoaS v).toList == s.toList) = true := by rw [h1]; simp
      have q2 : ((itoaS v).toList != s.toList) = false := by rw [h1]; simp
      clear h1
      generalize itoaS v = tv at *
      by_cases h2 : clampN v = v
      · rw [if_pos h2]
        have q3 : (clampN v == v) = true := by simpa using h2
        have q4 : (clampN v != v) = false := by simpa using h2
        clear h2
        generalize clampN v = cv at *
        go_enter Tryd.func58, Tryd.ntmps58
        go_wp2_with fail
        refine HA.out.mono ?_
        rintro e w1 ⟨rfl, hb⟩
        have HB := Lib.hid hb
        have H1 := Lib.hid (HT.out _ hb)
        clear hb
        go_wp2_with fail
        refine H1.out.mono ?_
        rintro e w2 ⟨rfl, hb⟩
        have HB2 := Lib.hid (HB.out.trans (hb.mono HB.out.size))
        clear hb
        go_wp2_with (go_at_call 57; refine (HC.out _).mono ?_; rintro e w3 ⟨rfl, rfl⟩)
        go_ret
        exact ⟨rfl, HB2.out⟩
      · rw [if_neg h2]
        have q3 : (clampN v == v) = false := by simpa using h2
        have q4 : (clampN v != v) = true := by simpa using h2
        clear h2
        generalize clampN v = cv at *
        go_enter Tryd.func58, Tryd.ntmps58
        go_wp2_with fail
        refine HA.out.mono ?_
        rintro e w1 ⟨rfl, hb⟩
        have HB := Lib.hid hb
        have H1 := Lib.hid (HT.out _ hb)
        clear hb
        go_wp2_with fail
        refine H1.out.mono ?_
        rintro e w2 ⟨rfl, hb⟩
        have HB2 := Lib.hid (HB.out.trans (hb.mono HB.out.size))
        clear hb
        go_wp2_with (go_at_call 57; refine (HC.out _).mono ?_; rintro e w3 ⟨rfl, rfl⟩)
        go_ret
        exact ⟨rfl, HB2.out⟩
    · rw [if_neg h1]
      have q1 : ((itoaS v).toList == s.toList) = false := by
        rw [beq_eq_false_iff_ne]; intro e; exact h1 (toList_inj e)
      have q2 : ((itoaS v).toList != s.toList) = true := by simp [bne, q1]
      clear h1
      generalize itoaS v = tv at *
      go_enter Tryd.func58, Tryd.ntmps58
      go_wp2_with fail
      refine HA.out.mono ?_
      rintro e w1 ⟨rfl, hb⟩
      have HB := Lib.hid hb
      have H1 := Lib.hid (HT.out _ hb)
      clear hb
      go_wp2_with fail
      refine H1.out.mono ?_
      rintro e w2 ⟨rfl, hb⟩
      have HB2 := Lib.hid (HB.out.trans (hb.mono HB.out.size))
      clear hb
      go_wp2_with fail
      go_ret
      exact ⟨rfl, HB2.out⟩
  | range =>
    obtain ⟨tp, p, hvar⟩ := hv.ran
    have HA : Hid (Calls Tryd.prog 64 #[.string s] w fun e w' => ∃ N, e = .returned (.tuple #[.int .i64 (Lib.atoiSat s.data.toList), .iface 103 (.pointer (some ⟨N, 0, none⟩))]) ∧ Below w.heap.size w w') :=
      Lib.hid ((Tryd.strconv_Atoi_range_var s (by omega) ha tp p w hvar).mono fun e w' ⟨N, he, _, _, hb⟩ => ⟨N, he, hb⟩)
    have hN : numB s = 0 := by unfold numB; rw [ha]
    rw [hN]
    clear hN ha hs hv HV hvar
    generalize Lib.atoiSat s.data.toList = sv at *
    go_enter Tryd.func58, Tryd.ntmps58
    go_wp2_with fail
    refine HA.out.mono ?_
    rintro e w1 ⟨N, rfl, hb⟩
    have HB := Lib.hid hb
    clear hb
    go_wp2_with fail
    go_ret
    exact ⟨rfl, HB.out⟩
  | _ =>
    obtain ⟨tp, p, hvar⟩ := hv.syn
    have HA : Hid (Calls Tryd.prog 64 #[.string s] w fun e w' => ∃ N, e = .returned (.tuple #[.int .i64 0, .iface 103 (.pointer (some ⟨N, 0, none⟩))]) ∧ Below w.heap.size w w') :=
      Lib.hid ((Tryd.strconv_Atoi_syntax_var s (by omega) (fun v h => by rw [ha] at h; cases h) (fun h => by rw [ha] at h; cases h) tp p w hvar).mono fun e w' ⟨N, he, _, _, hb⟩ => ⟨N, he, hb⟩)
    have hN : numB s = 0 := by unfold numB; rw [ha]
    rw [hN]
    clear hN ha hs hv HV hvar
    go_enter Tryd.func58, Tryd.ntmps58
    go_wp2_with fail
    refine HA.out.mono ?_
    rintro e w1 ⟨N, rfl, hb⟩
    have HB := Lib.hid hb
    clear hb
    go_wp2_with fail
    go_ret
    exact ⟨rfl, HB.out⟩
end Go.Proofs.YtmifgnibalbgjaaDoor
