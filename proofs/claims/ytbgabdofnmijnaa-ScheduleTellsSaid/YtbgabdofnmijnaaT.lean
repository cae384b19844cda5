/- Serial walked. -/
import Derived.Test.YtbgabdofnmijnaaS
namespace Go.Proofs.Ytbgabdofnmijnaa
open Go.RowKit
def serIn (l : List Mk) (tx : Int) (k : Nat) : List Mk := (l.take k).filter fun m => m.tx == tx
def serUp (l : List Mk) (O : List Int) (k : Nat) : List Mk := (List.range k).flatMap fun i => if (O.take i).contains O[i]! then [] else serIn l O[i]! l.length
theorem serIn_succ (l : List Mk) (tx : Int) (k : Nat) (hk : k < l.length) : serIn l tx (k + 1) = serIn l tx k ++ if l[k].tx == tx then [l[k]] else [] := by
  unfold serIn
  rw [List.take_succ_eq_append_getElem hk, List.filter_append, List.filter_cons]
  cases l[k].tx == tx <;> rfl
theorem serIn_len (l : List Mk) (tx : Int) (k : Nat) : (serIn l tx k).length ≤ k := Nat.le_trans (List.length_filter_le _ _) (by rw [List.length_take]; omega)
theorem serUp_succ (l : List Mk) (O : List Int) (i : Nat) (hi : i < O.length) : serUp l O (i + 1) = serUp l O i ++ if (O.take i).contains O[i] then [] else serIn l O[i] l.length := by
  unfold serUp
  rw [List.range_succ, List.flatMap_append, List.flatMap_cons, List.flatMap_nil, List.append_nil, getElem!_pos O i hi]
def serM (l : List Mk) (O : List Int) : List Mk := if rightM l = 0 then serUp l O O.length else []
theorem infoMk : (Try.prog.info? 36).map (fun i => (i.zero, i.size, i.bytes)) = some (some (.agg #[.int .i64 0, .int .i64 0, .string ⟨#[]⟩]), 3, 32) := by kernel_rfl
abbrev RowM (b : Option Addr) (d : Nat) (L : List Mk) : Asn := RowA 36 3 b L.length d (mkFlat L)
set_option maxRecDepth 100000 in
set_option maxHeartbeats 8000000 in
theorem serial_any (a : Option Addr) (n c : Nat) (l : List Mk) (oa : Option Addr) (oc : Nat) (O : List Int) (w : World) (hr : MksAt w a n l) (hn : n ≤ 300) (ho : Row w 3 1 oa O.length oc (intsV O)) (hon : O.length ≤ 300) :
    Calls Try.prog 18 #[.slice a n c, .slice oa O.length oc] w fun e w' => ∃ b d, e = .returned (.slice b (serM l O).length d) ∧ Made w (RowM b d (serM l O)) w' := by
  have HRT := Lib.hid (right_any a n c l w hr (by omega))
  have HL := Lib.hid hr.1
  have HR := Lib.hid hr
  have HO := Lib.hid ho
  have hoc : O.length ≤ oc := by
    rcases ho.out with ⟨_, h0, h1, _⟩ | ⟨_, _, _, _, h1, _⟩
    · omega
    · exact h1
  clear hr ho
  by_cases h0 : rightM l = 0
  · have HF : Hid (∀ b d w' n', n' = (serUp l O O.length).length → Made w (RowM b d (serUp l O O.length)) w' → ∃ b' d', Ending.returned (.slice b n' d) = .returned (.slice b' (serM l O).length d') ∧ Made w (RowM b' d' (serM l O)) w') := Lib.hid fun b d w' n' hn' h => by
      subst hn'
      unfold serM; rw [if_pos h0]; exact ⟨b, d, rfl, h⟩
    rw [h0] at HRT
    clear h0
    generalize hol : O.length = on at *
    have HOL := Lib.hid hol
    clear hol
    go_enter Try.func18, Try.ntmps18
    go_wp2_with fail
    refine HRT.out.mono ?_
    rintro e w1 ⟨rfl, hb⟩
    have M0 := Lib.hid (show Mem w [] w1 [RowM none 0 (serUp l O 0)] from ((Mem.nil w).below hb).new (Below.refl _ _) (As := [RowM none 0 []]) (all_one ⟨rfl, Row.nil _ _ _⟩) (by simp [blkOf]))
    clear hb HRT
    go_wp2_with fail
    go_loopw [5, 15] (fun v j wr => ∃ k b d m, k ≤ on ∧ m ≤ k * 300 ∧ v = .slice b m d ∧ j = .int .i64 (k : Nat) ∧ Hid (m = (serUp l O k).length ∧ Mem w [] wr [RowA 36 3 b m d (mkFlat (serUp l O k))])) (fun _ j _ => on - (intOf j).toNat)
    case atStart => exact ⟨0, none, 0, 0, Nat.zero_le _, Nat.zero_le _, rfl, rfl, Lib.hid ⟨rfl, M0.out⟩⟩
    case round =>
      obtain ⟨W1, rfl⟩ : ∃ W1, W1 = wr := ⟨_, rfl⟩
      obtain ⟨k, b, d, m, hk, hmk, rfl, rfl, HS⟩ := hrel
      clear M0
      have HM := Lib.hid HS.out.1
      have M2 := Lib.hid HS.out.2
      clear HS
      by_cases hlt : k < on
      · have hlt' : k < O.length := by rw [HOL.out]; exact hlt
        have hO1 := HO.out.below M2.out.bel
        obtain ⟨gl, rfl, hc1⟩ := hO1.cellAt k (by unfold intsV; rw [List.length_map]; exact hlt')
        have hc2 : W1.cell? ⟨gl, k, none⟩ = some (.int .i64 O[k]) := by rw [hc1]; simp [intsV]
        clear hc1
        have HCON : Hid (Calls Try.prog 53 #[.slice (some ⟨gl, 0, none⟩) k oc, .int .i64 O[k]] W1 fun e w' => e = .returned (.bool ((O.take k).contains O[k])) ∧ w' = W1) := Lib.hid (Try.slices_Contains_int gl 0 k oc O O[k] W1 (by omega) (by omega) fun j hj => by
          obtain ⟨g', e', h'⟩ := hO1.cellAt j (by unfold intsV; rw [List.length_map]; exact hj)
          obtain rfl : gl = g' := by simpa using e'
          rw [Nat.zero_add, h']
          simp [intsV, List.getD_eq_getElem?_getD, hj])
        have HU := Lib.hid (serUp_succ l O k hlt')
        clear hO1
        generalize O[k] = tx at *
        go_wp2_with fail
        refine HCON.out.mono ?_
        rintro e w2 ⟨rfl, rfl⟩
        clear HCON
        cases hcn : (O.take k).contains tx with
        | true =>
          have HX : Hid (m = (serUp l O (k + 1)).length ∧ Mem w [] w2 [RowA 36 3 b m d (mkFlat (serUp l O (k + 1)))]) := Lib.hid (by
            have hU := HU.out
            rw [hcn, if_pos rfl, List.append_nil] at hU
            rw [hU]; exact ⟨HM.out, M2.out⟩)
          clear hcn HU M2 HM hc2
          go_wp2_with fail
          go_roundw
          case rel => exact ⟨k + 1, b, d, m, by omega, by omega, rfl, by go_num, HX⟩
          case measure => simp [intOf]; omega
        | false =>
          have HU2 : Hid (serUp l O (k + 1) = serUp l O k ++ serIn l tx l.length) := Lib.hid (by
            have hU := HU.out
            rw [hcn, if_neg (by simp)] at hU
            exact hU)
          have M3 := Lib.hid (show Mem w [] w2 [RowA 36 3 b m d (mkFlat (serUp l O k ++ serIn l tx 0))] from by
            rw [show serIn l tx 0 = [] from rfl, List.append_nil]; exact M2.out)
          clear hcn HU M2 hc2
          go_wp2_with fail
          go_loopw [5, 27] (fun v j wi => ∃ q b' d' mi, q ≤ n ∧ mi ≤ q ∧ v = .slice b' (m + mi) d' ∧ j = .int .i64 (q : Nat) ∧ Hid (mi = (serIn l tx q).length ∧ Mem w [] wi [RowA 36 3 b' (m + mi) d' (mkFlat (serUp l O k ++ serIn l tx q))])) (fun _ j _ => n - (intOf j).toNat)
          case atStart => exact ⟨0, b, d, 0, Nat.zero_le _, Nat.le_refl _, rfl, rfl, Lib.hid ⟨rfl, M3.out⟩⟩
          case round =>
            obtain ⟨q, b', d', mi, hq, hmi, rfl, rfl, HS⟩ := hrel
            clear M3
            have HMI := Lib.hid HS.out.1
            have M4 := Lib.hid HS.out.2
            clear HS
            by_cases hlq : q < n
            · have hlq' : q < l.length := by rw [← HL.out]; exact hlq
              obtain ⟨g, off, rfl, hdA, hdB, hdD⟩ := (HR.out.below M4.out.bel).at q hlq'
              have HIN := Lib.hid (serIn_succ l tx q hlq')
              have M5 := Lib.hid (M4.out.block #[.int .i64 l[q].kind, .int .i64 l[q].tx, .string l[q].key] 36)
              clear M4
              generalize l[q] = z at *
              obtain ⟨zk, zt, zy⟩ := z
              simp only at hdA hdB hdD M5 HIN
              obtain ⟨k0, k1, k2⟩ := box_cells M5.out
              by_cases ht : zt = tx
              · have ht' : (zt == tx) = true := by simpa using ht
                rw [ht'] at HIN
                obtain ⟨b4, d4, w5, hrun4, mB⟩ := Mem.app1 (P := Try.prog) (t := 22) (ty := 22) [BlockA wr.heap.size #[.int .i64 zk, .int .i64 zt, .string zy] 36] (r := []) Try.underlying22 infoMk (by rfl) (by decide) M5.out [.int .i64 zk, .int .i64 zt, .string zy] (by rfl) (by simp [Value.oneCell']) (by omega) (by decide)
                rw [show (wr.alloc (.cells #[.int .i64 zk, .int .i64 zt, .string zy] 36)).heap.size = wr.heap.size + 1 by simp] at hrun4
                have HRUN := Lib.hid hrun4
                have HX : Hid (mi + 1 = (serIn l tx (q + 1)).length ∧ Mem w [] w5 [RowA 36 3 b4 (m + (mi + 1)) d4 (mkFlat (serUp l O k ++ serIn l tx (q + 1)))]) := Lib.hid (by
                  have hI := HIN.out
                  rw [if_pos rfl] at hI
                  rw [hI]
                  refine ⟨by rw [HMI.out]; simp, ?_⟩
                  rw [← List.append_assoc, mkFlat_append (serUp l O k ++ serIn l tx q)]
                  exact Mem.drop [] (A := BlockA wr.heap.size #[.int .i64 zk, .int .i64 zt, .string zy] 36) (r := [RowA 36 3 b4 (m + mi + 1) d4 (mkFlat (serUp l O k ++ serIn l tx q) ++ [.int .i64 zk, .int .i64 zt, .string zy])]) mB)
                clear hrun4 mB HIN HMI M5 ht
                go_wp2_with ((at_builtin; refine wpList_appendR _ rfl (.tmp 35) (.tmp 37) 22 22 rfl (.slice b' (m + mi) d') (.slice (some ⟨wr.heap.size + 1, 0, none⟩) 1 1) rfl rfl HRUN.out ?_))
                go_roundw
                case rel => exact ⟨q + 1, b4, d4, mi + 1, by omega, by omega, rfl, by go_num, HX⟩
                case measure => simp [intOf]; omega
              · have ht' : (zt == tx) = false := by simpa using ht
                rw [ht'] at HIN
                have HX : Hid (mi = (serIn l tx (q + 1)).length ∧ Mem w [] (wr.alloc (.cells #[.int .i64 zk, .int .i64 zt, .string zy] 36)) [RowA 36 3 b' (m + mi) d' (mkFlat (serUp l O k ++ serIn l tx (q + 1)))]) := Lib.hid (by
                  have hI := HIN.out
                  rw [if_neg (by simp), List.append_nil] at hI
                  rw [hI]
                  exact ⟨HMI.out, Mem.drop [] (A := BlockA wr.heap.size #[.int .i64 zk, .int .i64 zt, .string zy] 36) (r := [RowA 36 3 b' (m + mi) d' (mkFlat (serUp l O k ++ serIn l tx q))]) M5.out⟩)
                clear HIN HMI M5 ht
                go_wp2_with fail
                go_roundw
                case rel => exact ⟨q + 1, b', d', mi, by omega, by omega, rfl, by go_num, HX⟩
                case measure => simp [intOf]; omega
            · obtain rfl : q = n := by omega
              have HX : Hid (m + mi = (serUp l O (k + 1)).length ∧ Mem w [] wr [RowA 36 3 b' (m + mi) d' (mkFlat (serUp l O (k + 1)))]) := Lib.hid (by
                have h := M4.out
                have h2 := HMI.out
                have h3 := HU2.out
                rw [← HL.out] at h3
                rw [h3]
                exact ⟨by rw [List.length_append, ← HM.out, ← h2], h⟩)
              clear M4 HM HMI HU2
              go_wp2_with fail
              go_roundw
              case rel => exact ⟨k + 1, b', d', m + mi, by omega, by omega, rfl, by go_num, HX⟩
              case measure => simp [intOf]; omega
      · obtain rfl : k = on := by omega
        have HFN : Hid (m = (serUp l O k).length ∧ Made w (RowM b d (serUp l O k)) W1) := Lib.hid (by
          refine ⟨HM.out, ?_⟩
          have h := M2.out.toMade
          unfold RowM
          rw [← HM.out]; exact h)
        clear M2 HM
        go_wp2_with fail
        go_ret
        exact HF.out _ _ _ _ HFN.out.1 HFN.out.2
  · have hq2 : (rightM l != 0) = true := by simpa using h0
    have HF : Hid (∀ w', Below w.heap.size w w' → ∃ b d, Ending.returned (.slice none 0 0) = .returned (.slice b (serM l O).length d) ∧ Made w (RowM b d (serM l O)) w') := Lib.hid fun w' hb => by
      unfold serM; rw [if_neg h0]; exact ⟨none, 0, rfl, [], ⟨rfl, Row.nil _ _ _⟩, by simp, hb⟩
    clear h0
    generalize rightM l = q at *
    generalize O.length = on at *
    go_enter Try.func18, Try.ntmps18
    go_wp2_with fail
    refine HRT.out.mono ?_
    rintro e w1 ⟨rfl, hb⟩
    have HB := Lib.hid (HF.out _ hb)
    clear hb
    go_wp2_with fail
    go_ret
    exact HB.out
end Go.Proofs.Ytbgabdofnmijnaa
