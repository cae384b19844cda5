/- source walked. -/
import Derived.Test.YtbgabdofnmijnaaH
import Derived.BigQuiet
namespace Go.Proofs.Ytbgabdofnmijnaa
open Go.RowKit
/-- what holds at the loop's head. -/
def SrcAt (w : World) (l : List Mk) (at_ : Nat) (k : Nat) (bm nm : Nat) (wr : World) : Prop :=
  sourceM l at_ = srcGo l at_ l[at_]!.key k ∧ Mem w [] wr [MapA bm nm (fun x => eIf (goneB l at_ x k))]
theorem put_none (a : Act) (v : Value) : a.put none v = a := rfl
set_option maxRecDepth 100000 in
set_option maxHeartbeats 4000000 in
theorem source_any (a : Option Addr) (n c : Nat) (l : List Mk) (p : Nat) (w : World) (hr : MksAt w a n l) (hn : n ≤ 1000000) (hp : p < n) :
    Calls Try.prog 36 #[.slice a n c, .int .i64 p] w fun e w' => e = .returned (.int .i64 (sourceM l p)) ∧ Below w.heap.size w w' := by
  have HL := Lib.hid hr.1
  have HR := Lib.hid hr
  have HW : Hid (∀ x : Mk, x ∈ l → Wf x.tx) := Lib.hid fun x hx => wf_of (hr.bd x hx).2.2.1 (hr.bd x hx).2.2.2.1
  clear hr
  have hmm := @run_makeMap Try.prog
  go_enter Try.func36, Try.ntmps36
  go_wp2_with fail
  have M1 : Hid (SrcAt w l p p w.heap.size 0 (w.alloc (.map #[] 0))) := Lib.hid ⟨rfl, by
    have h1 : (fun x => eIf (goneB l p x p)) = fun _ => 0 := by funext x; rw [goneB_at]; rfl
    rw [h1]
    exact (Mem.nil w).new (bel_new _ _) (As := [MapA w.heap.size 0 (fun _ => 0)]) (all_one (MapA.made w)) (by simp)⟩
  generalize w.heap.size = bm at *
  go_loopw [6] (fun j wr => ∃ k nm : Nat, k ≤ p ∧ nm ≤ p - k ∧ j = .int .i64 ((k : Int) - 1) ∧ Hid (SrcAt w l p k bm nm wr)) (fun j _ => (intOf j + 1).toNat)
  case atStart => exact ⟨p, 0, Nat.le_refl _, Nat.zero_le _, by go_num, M1⟩
  case round =>
    obtain ⟨k, nm, hk, hnm, rfl, HS⟩ := hrel
    clear M1 hmm
    have HEQ := Lib.hid HS.out.1
    have M2 := Lib.hid HS.out.2
    clear HS
    match k, hk, hnm, HEQ, M2 with
    | 0, hk, hnm, HEQ, M2 =>
      have HB := Lib.hid M2.out.bel
      have HF : Hid (sourceM l p = -1) := Lib.hid HEQ.out
      clear M2 HEQ
      simp only [show (((0 : Nat) : Int) - 1) = -1 from rfl]
      go_wp2_with fail
      go_ret
      exact ⟨by rw [HF.out]; rfl, HB.out⟩
    | k + 1, hk, hnm, HEQ, M2 =>
      simp only [show (((k + 1 : Nat) : Int) - 1) = (k : Int) by omega]
      have hlt' : k < l.length := by rw [← HL.out]; omega
      have hpl : p < l.length := by rw [← HL.out]; omega
      obtain ⟨g, off, rfl, hcA, hcB, hcD⟩ := (HR.out.below M2.out.bel).at k hlt'
      obtain ⟨g', off', he, _, _, hpD⟩ := (HR.out.below M2.out.bel).at p hpl
      simp only [Option.some.injEq, Addr.mk.injEq, and_true] at he
      obtain ⟨rfl, rfl⟩ := he
      have hwf := HW.out _ (List.getElem_mem hlt')
      have hpq : l[p]! = l[p] := getElem!_pos l p hpl
      rw [hpq] at HEQ
      have HSU := Lib.hid fun x => goneB_step l p x k (by omega) hlt'
      have HSC := Lib.hid (srcGo_succ l p l[p].key k hlt')
      have hE : sourceM l p = if hitB l p l[p].key k l[k] then l[k].tx else srcGo l p l[p].key k := by rw [HEQ.out, HSC.out]
      have HN := Lib.hid fun wr' nm' (hnm' : nm' ≤ p - k) (h1 : sourceM l p = srcGo l p l[p].key k) (h2 : Mem w [] wr' [MapA bm nm' (fun x => eIf (goneB l p x k))]) => (show ∃ k0 nm : Nat, k0 ≤ p ∧ nm ≤ p - k0 ∧ ((.int .i64 ((k : Int) - 1)) : Value) = .int .i64 ((k0 : Int) - 1) ∧ Hid (SrcAt w l p k0 bm nm wr') from ⟨k, nm', by omega, hnm', rfl, Lib.hid ⟨by rw [hpq]; exact h1, h2⟩⟩)
      have M3 := Lib.hid (M2.out.block #[.int .i64 l[k].kind, .int .i64 l[k].tx, .string l[k].key] 36)
      have HWK := Lib.hid hwf
      have hpD := (Below.cell (bel_new wr (.cells #[.int .i64 l[k].kind, .int .i64 l[k].tx, .string l[k].key] 36)) (World.block_lt_of_cell? wr _ hpD)).trans hpD
      clear hwf M2 HEQ HSC hpq HW
      generalize hq : sourceM l p = q at *
      have HQ0 := Lib.hid hq
      clear hq
      generalize hgx : l[k] = x at *
      clear hgx
      obtain ⟨xk, xt, xy⟩ := x
      unfold hitB at hE
      simp only at hcA hcB hcD M3 HSU hE HWK hpD
      have HE := Lib.hid hE
      clear hE
      obtain ⟨k0, k1, k2⟩ := box_cells M3.out
      by_cases h4 : xk = 4
      · -- an abort
        subst h4
        obtain ⟨w3, hrun, hm⟩ := Mem.mapPut (v := 1) [BlockA wr.heap.size #[.int .i64 4, .int .i64 xt, .string xy] 36] M3.out HWK.out (wf_of (by decide) (by decide)) (by unfold maxLen; omega)
        have HRUN := Lib.hid hrun
        have M4 := Lib.hid (show Mem w [] w3 (BlockA wr.heap.size #[.int .i64 4, .int .i64 xt, .string xy] 36 :: [MapA bm (nm + 1) (fun x => eIf (goneB l p x k))]) from by
          have h2 : (fun y => if y = xt then (1 : Int) else eIf (goneB l p y (k + 1))) = fun x => eIf (goneB l p x k) := by
            funext y
            rw [HSU.out y]
            by_cases e : y = xt
            · subst e; simp [eIf]
            · simp [e, eIf, show ¬ xt = y from fun h => e h.symm]
          rw [h2] at hm
          exact hm)
        have HF := Lib.hid (HE.out.trans (by simp : _ = srcGo l p l[p].key k))
        clear hrun hm HE HSU
        go_wp2_with ((at_mapUpdate; refine wpList_mapUpdateR _ rfl (.tmp 22) (.tmp 24) (.const (.int .i64 1)) 46 rfl (.map (some bm)) (.int .i64 xt) (.int .i64 1) rfl rfl rfl HRUN.out ?_))
        clear k0 k1 k2 HRUN M3
        rw [put_none]
        obtain ⟨k0, k1, k2⟩ := box_cells M4.out
        go_quiet (fail)
        generalize hnq : w3.drewN _ = w4
        have M5 := Lib.hid (show Mem w [] w4 [MapA bm (nm + 1) (fun x => eIf (goneB l p x k))] from by
          rw [← hnq]
          exact Mem.drop [] (A := BlockA wr.heap.size #[.int .i64 4, .int .i64 xt, .string xy] 36) (r := [MapA bm (nm + 1) (fun x => eIf (goneB l p x k))]) (M4.out.below (bel_drewN _ _)))
        have HFIN := Lib.hid (HN.out w4 (nm + 1) (by omega) HF.out M5.out)
        clear hnq k0 k1 k2 M4 HN HF M5
        go_wp2_with fail
        go_roundw
        case rel => exact HFIN.out
        case measure => simp [intOf]
      · -- no abort
        have h4' : (xk == 4) = false := by simpa using h4
        have HG : Hid (∀ x, goneB l p x k = goneB l p x (k + 1)) := Lib.hid fun x => by rw [HSU.out x, h4']; rfl
        have M4 := Lib.hid (show Mem w [] _ (BlockA wr.heap.size #[.int .i64 xk, .int .i64 xt, .string xy] 36 :: [MapA bm nm (fun x => eIf (goneB l p x k))]) from by
          have h2 : (fun x => eIf (goneB l p x (k + 1))) = fun x => eIf (goneB l p x k) := by funext x; rw [HG.out x]
          have := M3.out
          rw [h2] at this
          exact this)
        have HGET : ∀ q, (Instr.lookup 46 (.map (some bm)) (.int .i64 xt) false).run Try.prog (((wr.alloc (.cells #[.int .i64 xk, .int .i64 xt, .string xy] 36))).drewN q) = .ok (.int .i64 (eIf (goneB l p xt k))) (((wr.alloc (.cells #[.int .i64 xk, .int .i64 xt, .string xy] 36))).drewN q) := fun q => Mem.mapGet [BlockA wr.heap.size #[.int .i64 xk, .int .i64 xt, .string xy] 36] (r := []) (M4.out.below (bel_drewN _ q)) HWK.out
        have HSK := Lib.hid fun w4 nq (hnq : (wr.alloc (.cells #[.int .i64 xk, .int .i64 xt, .string xy] 36)).drewN nq = w4) (h1 : hitB l p l[p].key k ⟨xk, xt, xy⟩ = false) => HN.out w4 nm (by omega) (HE.out.trans (by unfold hitB at h1; simp only at h1; rw [h1]; rfl)) (by
          rw [← hnq]
          exact Mem.drop [] (A := BlockA wr.heap.size #[.int .i64 xk, .int .i64 xt, .string xy] 36) (r := [MapA bm nm (fun x => eIf (goneB l p x k))]) (M4.out.below (bel_drewN _ _)))
        unfold hitB at HSK
        simp only at HSK
        clear HSU HN M3
        generalize l[p].key = py at *
        by_cases h2 : xk = 2
        · subst h2
          cases hk : (xy.toList == py.toList) with
          | false =>
            rw [hk] at HSK
            clear HE HGET
            go_wp2_with fail
            go_quiet (fail)
            generalize hnq : (wr.alloc (.cells #[.int .i64 2, .int .i64 xt, .string xy] 36)).drewN _ = w4
            have HFIN := Lib.hid (HSK.out _ _ hnq (by simp))
            clear hnq k0 k1 k2 M4 HSK
            go_wp2_with fail
            go_roundw
            case rel => exact HFIN.out
            case measure => simp [intOf]
          | true =>
            rw [hk] at HSK HE
            cases hg : goneB l p xt k with
            | true =>
              rw [hg] at HSK
              simp only [hg, eIf, if_true] at HGET
              clear HE
              go_wp2_with fail
              go_quiet (fail)
              generalize hnq : (wr.alloc (.cells #[.int .i64 2, .int .i64 xt, .string xy] 36)).drewN _ = w4
              have HFIN := Lib.hid (HSK.out _ _ hnq (by simp))
              clear hnq k0 k1 k2 M4 HSK HGET
              go_wp2_with fail
              go_roundw
              case rel => exact HFIN.out
              case measure => simp [intOf]
            | false =>
              rw [hg] at HE
              simp only [hg, eIf, Bool.false_eq_true, if_false] at HGET
              clear HSK
              go_wp2_with fail
              go_quiet (fail)
              generalize hnq : (wr.alloc (.cells #[.int .i64 2, .int .i64 xt, .string xy] 36)).drewN _ = w4
              have M5 := Lib.hid (show Mem w [] w4 (BlockA wr.heap.size #[.int .i64 2, .int .i64 xt, .string xy] 36 :: [MapA bm nm (fun x => eIf (goneB l p x k))]) from by rw [← hnq]; exact M4.out.below (bel_drewN _ _))
              obtain ⟨j0, j1, j2⟩ := box_cells M5.out
              clear hnq k0 k1 k2 M4 HGET
              go_wp2_with fail
              go_ret
              exact ⟨by rw [HQ0.out, HE.out]; rfl, M5.out.bel⟩
        · have h2' : (xk == 2) = false := by simpa using h2
          rw [h2'] at HSK
          clear HE HGET h2
          go_wp2_with fail
          go_quiet (fail)
          generalize hnq : (wr.alloc (.cells #[.int .i64 xk, .int .i64 xt, .string xy] 36)).drewN _ = w4
          have HFIN := Lib.hid (HSK.out _ _ hnq (by simp))
          clear hnq k0 k1 k2 M4 HSK
          go_wp2_with fail
          go_roundw
          case rel => exact HFIN.out
          case measure => simp [intOf]
end Go.Proofs.Ytbgabdofnmijnaa
