/- Edges. -/
import Derived.Test.YtlmfpkfgjfdhgaaAA
namespace Go.Proofs.Ytlmfpkfgjfdhgaa
open Go.RowKit
theorem info44 : (Try.prog.info? 44).map (fun i => (i.zero, i.size, i.bytes)) = some (some (.agg #[.int .i64 0, .int .i64 0]), 2, 16) := by kernel_rfl
def edgesOf (M : List Mb) (K : List Lk) : List (Int × Int) := (M.filter (·.waits)).map fun t => (t.id, holdK K t.key)
def edgeFlat (l : List (Int × Int)) : List Value := l.flatMap fun t => [.int .i64 t.1, .int .i64 t.2]
theorem edgeFlat_snoc (l : List (Int × Int)) (a b : Int) : edgeFlat (l ++ [(a, b)]) = edgeFlat l ++ [.int .i64 a, .int .i64 b] := by
  unfold edgeFlat; rw [List.flatMap_append]; simp
theorem edges_take (M : List Mb) (K : List Lk) (k : Nat) (hk : k < M.length) : edgesOf (M.take (k + 1)) K = edgesOf (M.take k) K ++ (if M[k].waits then [(M[k].id, holdK K M[k].key)] else []) := by
  unfold edgesOf
  rw [filter_take_succ (fun t : Mb => t.waits) M k hk, List.map_append]
  split <;> rfl
set_option maxRecDepth 100000 in
set_option maxHeartbeats 1600000 in
theorem tb_edges (p : Nat) (wd : Bool) (la : Option Addr) (lc : Nat) (M : List Mb) (ka : Option Addr) (kc : Nat) (K : List Lk) (w : World) (h : Tb w p wd la lc M ka kc K) (hs : SortK K) (hbig : M.length ≤ 1000) (hbigk : K.length ≤ 100000) :
    Calls Try.prog 15 #[.pointer (some ⟨p, 0, none⟩)] w (fun e w' => ∃ v, e = .returned v ∧ NewRow 44 2 w (edgeFlat (edgesOf M K)) (edgesOf M K).length v w') := by
  have hc := h.cell1.1
  have HR := Lib.hid h.rm
  have HHO := Lib.hid fun w1 k (hb : Below w.heap.size w w1) => tb_holder p wd la lc M ka kc K k w1 (h.below hb) hs hbigk
  clear h
  have HS := Lib.hid fun w1 v (hn : NewRow 44 2 w (edgeFlat (edgesOf (M.take M.length) K)) (edgesOf (M.take M.length) K).length v w1) => (show (∃ v', Ending.returned v = .returned v' ∧ NewRow 44 2 w (edgeFlat (edgesOf M K)) (edgesOf M K).length v' w1) from ⟨v, rfl, by rw [List.take_length] at hn; exact hn⟩)
  generalize hQ : (fun e w' => ∃ v, e = Ending.returned v ∧ NewRow 44 2 w (edgeFlat (edgesOf M K)) (edgesOf M K).length v w') = R
  have HQ : Hid (∀ v w', (∃ v', Ending.returned v = .returned v' ∧ NewRow 44 2 w (edgeFlat (edgesOf M K)) (edgesOf M K).length v' w') → R (.returned v) w') := Lib.hid fun v w' h => by rw [← hQ]; exact h
  clear hQ
  have HS2 := Lib.hid fun w1 v hn => HQ.out v w1 (HS.out w1 v hn)
  clear HS HQ
  generalize hn2 : M.length = n at hc hbig HS2
  have HN := Lib.hid hn2
  clear hn2
  go_enter Try.func15, Try.ntmps15
  go_wp2_with fail
  go_loopw [3, 15] (fun v j wr => ∃ k : Nat, k ≤ n ∧ j = .int .i64 k ∧ Hid (NewRow 44 2 w (edgeFlat (edgesOf (M.take k) K)) (edgesOf (M.take k) K).length v wr)) (fun _ j _ => n - (intOf j).toNat)
  case atStart => exact ⟨0, Nat.zero_le _, rfl, Lib.hid (NewRow.nil _ _ w)⟩
  case round =>
    obtain ⟨k, hk, rfl, hrl⟩ := hrel
    by_cases hlt : k < n
    · obtain ⟨ao, co, rfl, hrow, hb, hf⟩ := hrl.out
      have hk2 : k < M.length := by rw [HN.out]; exact hlt
      obtain ⟨g, rfl, hcs⟩ := mbAt_row HR.out k hk2
      obtain ⟨hx0, hx1, hx2, hx3⟩ := hcs.below hb
      have hol : (edgesOf (M.take k) K).length ≤ 100000 := by unfold edgesOf; rw [List.length_map]; exact Nat.le_trans (List.length_filter_le _ _) (by rw [List.length_take]; omega)
      have HFT := Lib.hid (edges_take M K k hk2)
      have HNR := Lib.hid (NewRow.below hrl.out (bel_new wr (.cells #[.int .i64 M[k].id, .int .i64 M[k].stamp, .bool M[k].waits, .string M[k].key] 77)))
      have HHO1 := Lib.hid (HHO.out _ M[k].key (hb.trans ((bel_new wr (.cells #[.int .i64 M[k].id, .int .i64 M[k].stamp, .bool M[k].waits, .string M[k].key] 77)).mono hb.size)))
      clear hrl hrow hb hf hcs
      generalize hlk : M[k] = t at *
      clear hlk
      obtain ⟨zid, zstamp, zwaits, zkey⟩ := t
      simp only at hx0 hx1 hx2 hx3 HNR HFT HHO1
      generalize edgesOf (M.take k) K = fl at *
      generalize hfl : fl.length = m at *
      have HFL := Lib.hid hfl
      clear hfl
      cases zwaits with
      | true =>
        simp only [if_true] at HFT
        generalize holdK K zkey = zh at *
        generalize hasK K zkey = zb at *
        go_wp2_with fail
        refine HHO1.out.mono ?_
        rintro e w3 ⟨rfl, hb3⟩
        have HNR3 := Lib.hid (HNR.out.below hb3)
        have hid0 : w3.cell? ⟨wr.heap.size, 0, none⟩ = some (.int .i64 zid) := by
          rw [hb3.cell (p := ⟨wr.heap.size, 0, none⟩) (by simp)]; simp [go_sem]
        clear hb3
        obtain ⟨b', cap', w4, hrun, hnr⟩ := HNR3.out.app (P := Try.prog) Try.underlying37 info44 (z0 := .agg #[.int .i64 0, .int .i64 0]) rfl (by decide) [.int .i64 zid, .int .i64 zh] rfl (by simp [Value.oneCell']) (by omega) (by decide) 37
        have HRUN := Lib.hid hrun
        have HNX : Hid (NewRow 44 2 w (edgeFlat (edgesOf (M.take (k + 1)) K)) (edgesOf (M.take (k + 1)) K).length (.slice b' (m + 1) cap') w4) := Lib.hid (by
          rw [HFT.out, List.length_append, HFL.out, edgeFlat_snoc]
          exact hnr)
        clear hrun hnr HNR HFT HNR3
        go_wp2_with ((at_builtin; refine wpList_appendR _ rfl (.tmp 28) (.tmp 33) 37 37 rfl (.slice ao m co) (.slice (some ⟨w3.heap.size, 0, none⟩) 1 1) rfl rfl HRUN.out ?_))
        go_roundw
        case rel => exact ⟨k + 1, by omega, by go_num, HNX⟩
        case measure => simp [intOf]; omega
      | false =>
        simp only [Bool.false_eq_true, if_false, List.append_nil] at HFT
        have HNX : Hid (NewRow 44 2 w (edgeFlat (edgesOf (M.take (k + 1)) K)) (edgesOf (M.take (k + 1)) K).length (.slice ao m co) (wr.alloc (.cells #[.int .i64 zid, .int .i64 zstamp, .bool false, .string zkey] 77))) := Lib.hid (by rw [HFT.out, HFL.out]; exact HNR.out)
        clear HNR HFT
        go_wp2_with fail
        go_roundw
        case rel => exact ⟨k + 1, by omega, by go_num, HNX⟩
        case measure => simp [intOf]; omega
    · obtain rfl : k = n := by omega
      have HFIN := Lib.hid (HS2.out _ _ hrl.out)
      clear hrl
      go_wp2_with fail
      exact HFIN.out
end Go.Proofs.Ytlmfpkfgjfdhgaa
