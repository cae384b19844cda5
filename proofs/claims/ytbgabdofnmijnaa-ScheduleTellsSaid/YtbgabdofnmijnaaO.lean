/- all walked. -/
import Derived.Test.YtbgabdofnmijnaaN
namespace Go.Proofs.Ytbgabdofnmijnaa
open Go.RowKit
def liveB (l : List Mk) (tx : Int) : Bool := !(fateF l tx == 4)
def allUp (l : List Mk) (k : Nat) : List Int := ((l.take k).filter fun m => liveB l m.tx).map (·.tx)
theorem allUp_succ (l : List Mk) (k : Nat) (hk : k < l.length) : allUp l (k + 1) = allUp l k ++ if liveB l l[k].tx then [l[k].tx] else [] := by
  unfold allUp
  rw [List.take_succ_eq_append_getElem hk, List.filter_append, List.map_append, List.filter_cons]
  cases liveB l l[k].tx <;> rfl
theorem allUp_len (l : List Mk) (k : Nat) : (allUp l k).length ≤ k := by
  unfold allUp
  rw [List.length_map]
  exact Nat.le_trans (List.length_filter_le _ _) (by rw [List.length_take]; omega)
def allM (l : List Mk) : List Int := riseI (allUp l l.length)
theorem bne4 (x : Int) : (x != 4) = !(x == 4) := rfl
set_option maxRecDepth 100000 in
set_option maxHeartbeats 4000000 in
theorem all_any (a : Option Addr) (n c : Nat) (l : List Mk) (w : World) (hr : MksAt w a n l) (hn : n ≤ 1000) :
    Calls Try.prog 37 #[.slice a n c] w fun e w' => ∃ b d, e = .returned (.slice b (allM l).length d) ∧ Made w (RowI b d (allM l)) w' := by
  have HFT := Lib.hid (fates_any a n c l w hr (by omega))
  have HL := Lib.hid hr.1
  have HR := Lib.hid hr
  have HW : Hid (∀ x : Mk, x ∈ l → Wf x.tx) := Lib.hid fun x hx => wf_of (hr.bd x hx).2.2.1 (hr.bd x hx).2.2.2.1
  clear hr
  go_enter Try.func37, Try.ntmps37
  go_wp2_with fail
  refine HFT.out.mono ?_
  rintro e w1 ⟨bm, nm, rfl, hnm, hmade⟩
  have M0 := Lib.hid (show Mem w [] w1 [RowI none 0 (allUp l 0), MapA bm nm (fateF l)] from hmade.mem.new (Below.refl _ _) (As := [RowI none 0 []]) (all_one ⟨rfl, Row.nil _ _ _⟩) (by simp [blkOf]))
  clear hmade HFT
  go_wp2_with fail
  go_loopw [4, 11] (fun v j wr => ∃ k b d m, k ≤ n ∧ m ≤ k ∧ v = .slice b m d ∧ j = .int .i64 (k : Nat) ∧ Hid (m = (allUp l k).length ∧ Mem w [] wr [RowI b d (allUp l k), MapA bm nm (fateF l)])) (fun _ j _ => n - (intOf j).toNat)
  case atStart => exact ⟨0, none, 0, 0, Nat.zero_le _, Nat.le_refl _, rfl, rfl, Lib.hid ⟨rfl, M0.out⟩⟩
  case round =>
    obtain ⟨k, b, d, m, hk, hmk, rfl, rfl, HS⟩ := hrel
    clear M0
    have HM := Lib.hid HS.out.1
    have M2 := Lib.hid HS.out.2
    clear HS
    by_cases hlt : k < n
    · have hlt' : k < l.length := by rw [← HL.out]; exact hlt
      obtain ⟨g, off, rfl, hcA, hcB, hcD⟩ := (HR.out.below M2.out.bel).at k hlt'
      have hwf := HW.out _ (List.getElem_mem hlt')
      have HU := Lib.hid (allUp_succ l k hlt')
      have M3 := Lib.hid (M2.out.block #[.int .i64 l[k].kind, .int .i64 l[k].tx, .string l[k].key] 36)
      have HGET := Lib.hid (Mem.mapGet [BlockA wr.heap.size #[.int .i64 l[k].kind, .int .i64 l[k].tx, .string l[k].key] 36, RowI b d (allUp l k)] (r := []) M3.out hwf)
      clear M2 hwf
      generalize l[k] = x at *
      obtain ⟨xk, xt, xy⟩ := x
      simp only at hcA hcB hcD M3 HU HGET
      rw [show RowI b d (allUp l k) = RowA 3 1 b m d (intsV (allUp l k)) by unfold RowI; rw [HM.out]] at M3
      obtain ⟨k0, k1, k2⟩ := box_cells M3.out
      have hget := HGET.out
      cases hlv : liveB l xt with
      | true =>
        have hne : (fateF l xt != 4) = true := by rw [bne4]; exact hlv
        rw [hlv] at HU
        have hone : ([.int .i64 xt] : List Value).length = 1 := rfl
        obtain ⟨b4, d4, w4, hrun4, mB⟩ := Mem.app1 (P := Try.prog) (t := 29) (ty := 29) [BlockA wr.heap.size #[.int .i64 xk, .int .i64 xt, .string xy] 36] (r := [MapA bm nm (fateF l)]) Try.underlying29 infoInt (by rfl) (by decide) M3.out [.int .i64 xt] (by rfl) (by simp [Value.oneCell']) (by omega) (by decide)
        rw [show (wr.alloc (.cells #[.int .i64 xk, .int .i64 xt, .string xy] 36)).heap.size = wr.heap.size + 1 by simp] at hrun4
        have HRUN := Lib.hid hrun4
        have HF2 : Hid (m + 1 = (allUp l (k + 1)).length ∧ Mem w [] w4 [RowI b4 d4 (allUp l (k + 1)), MapA bm nm (fateF l)]) := Lib.hid (by
          have h1 := Mem.drop [] (A := BlockA wr.heap.size #[.int .i64 xk, .int .i64 xt, .string xy] 36) (r := [RowA 3 1 b4 (m + 1) d4 (intsV (allUp l k) ++ [.int .i64 xt]), MapA bm nm (fateF l)]) mB
          have hU := HU.out
          rw [if_pos rfl] at hU
          have h2 := rowI_app b4 d4 (allUp l k) xt
          rw [← HM.out] at h2
          rw [hU]
          refine ⟨by rw [HM.out]; simp, ?_⟩
          rw [← h2]; exact h1)
        clear hrun4 mB HU M3 hone HGET
        generalize hf : fateF l xt = fv at *
        go_wp2_with ((at_builtin; refine wpList_appendR _ rfl (.tmp 20) (.tmp 23) 29 29 rfl (.slice b m d) (.slice (some ⟨wr.heap.size + 1, 0, none⟩) 1 1) rfl rfl HRUN.out ?_))
        go_roundw
        case rel => exact ⟨k + 1, b4, d4, m + 1, by omega, by omega, rfl, by go_num, HF2⟩
        case measure => simp [intOf]; omega
      | false =>
        have hne : (fateF l xt != 4) = false := by rw [bne4]; exact hlv
        rw [hlv] at HU
        have HF2 : Hid (m = (allUp l (k + 1)).length ∧ Mem w [] (wr.alloc (.cells #[.int .i64 xk, .int .i64 xt, .string xy] 36)) [RowI b d (allUp l (k + 1)), MapA bm nm (fateF l)]) := Lib.hid (by
          have h1 := Mem.drop [] (A := BlockA wr.heap.size #[.int .i64 xk, .int .i64 xt, .string xy] 36) (r := [RowA 3 1 b m d (intsV (allUp l k)), MapA bm nm (fateF l)]) M3.out
          have hU := HU.out
          rw [if_neg (by simp), List.append_nil] at hU
          rw [hU]
          refine ⟨HM.out, ?_⟩
          rw [show RowI b d (allUp l k) = RowA 3 1 b m d (intsV (allUp l k)) by unfold RowI; rw [HM.out]]
          exact h1)
        clear HU M3 HGET
        go_wp2_with fail
        go_roundw
        case rel => exact ⟨k + 1, b, d, m, by omega, by omega, rfl, by go_num, HF2⟩
        case measure => simp [intOf]; omega
    · obtain rfl : k = n := by omega
      have HLN : Hid (allUp l k = allUp l l.length) := Lib.hid (by rw [← HL.out])
      have HFIN : Hid (∀ w3, Mem w [] w3 [RowI b d (allM l), MapA bm nm (fateF l)] → ∃ b' d', Ending.returned (.slice b (allM l).length d) = .returned (.slice b' (allM l).length d') ∧ Made w (RowI b' d' (allM l)) w3) := Lib.hid fun w3 h => ⟨b, d, rfl, h.toMade⟩
      have HQ : Hid (allM l = Lib.compact (sortI (allUp l l.length))) := Lib.hid rfl
      have hmem := M2.out
      rw [HLN.out] at hmem
      have hm2 := HM.out
      rw [HLN.out] at hm2
      subst hm2
      have HSO := Lib.hid (mem_sort [] hmem (by omega))
      have HCO := Lib.hid fun w3 (h3 : Mem w [] w3 ([] ++ RowI b d (sortI (allUp l l.length)) :: [MapA bm nm (fateF l)])) => mem_compact [] h3 (by rw [sortI_len]; omega)
      rw [sortI_len, ← HQ.out] at HCO
      clear hmem M2 HM HLN HQ
      generalize hAM : allM l = AM at *
      have HAM := Lib.hid hAM
      clear hAM
      generalize (allUp l l.length).length = m at *
      go_wp2_with fail
      refine HSO.out.mono ?_
      rintro e w3 ⟨rfl, hm3⟩
      have HC3 := Lib.hid (HCO.out w3 hm3)
      clear hm3 HCO HSO
      go_wp2_with fail
      refine HC3.out.mono ?_
      rintro e w4 ⟨rfl, hm4⟩
      have HF4 := Lib.hid (HFIN.out w4 hm4)
      clear hm4
      go_wp2_with fail
      go_ret
      rw [HAM.out]
      exact HF4.out
end Go.Proofs.Ytbgabdofnmijnaa
