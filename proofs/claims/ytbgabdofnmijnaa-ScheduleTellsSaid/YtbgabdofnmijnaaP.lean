/- Edges walked. -/
import Derived.Test.YtbgabdofnmijnaaO
namespace Go.Proofs.Ytbgabdofnmijnaa
open Go.RowKit
/-- does an edge come of these two? -/
def meetB (l : List Mk) (x y : Mk) : Bool := clashB x y && liveB l x.tx && liveB l y.tx
def edIn (l : List Mk) (y : Mk) (k : Nat) : List Eg := ((l.take k).filter fun x => meetB l x y).map fun x => ⟨x.tx, y.tx⟩
def edUp (l : List Mk) (i : Nat) : List Eg := (List.range i).flatMap fun j => edIn l l[j]! j
theorem edIn_succ (l : List Mk) (y : Mk) (k : Nat) (hk : k < l.length) : edIn l y (k + 1) = edIn l y k ++ if meetB l l[k] y then [⟨l[k].tx, y.tx⟩] else [] := by
  unfold edIn
  rw [List.take_succ_eq_append_getElem hk, List.filter_append, List.map_append, List.filter_cons]
  cases meetB l l[k] y <;> rfl
theorem edIn_len (l : List Mk) (y : Mk) (k : Nat) : (edIn l y k).length ≤ k := by
  unfold edIn
  rw [List.length_map]
  exact Nat.le_trans (List.length_filter_le _ _) (by rw [List.length_take]; omega)
theorem edUp_succ (l : List Mk) (i : Nat) (hi : i < l.length) : edUp l (i + 1) = edUp l i ++ edIn l l[i] i := by
  unfold edUp
  rw [List.range_succ, List.flatMap_append, List.flatMap_cons, List.flatMap_nil, List.append_nil, getElem!_pos l i hi]
theorem edUp_len (l : List Mk) (hl : l.length ≤ 300) : ∀ i, i ≤ l.length → (edUp l i).length ≤ i * 300
  | 0, _ => by simp [edUp]
  | i + 1, h => by
    have h1 := edUp_len l hl i (by omega)
    have h2 := edIn_len l (l[i]'(by omega)) i
    rw [edUp_succ l i (by omega), List.length_append]; omega
/-- what the walk's Edges tells: sorted, each once. -/
def IsEdges (l : List Mk) (E : List Eg) : Prop := if rightM l = 0 then ∃ S : List Eg, S.Perm (edUp l l.length) ∧ EgUp S ∧ E = cptE S else E = []
set_option maxRecDepth 100000 in
set_option maxHeartbeats 8000000 in
theorem edges_any (a : Option Addr) (n c : Nat) (l : List Mk) (w : World) (hr : MksAt w a n l) (hn : n ≤ 300) (hnc : n ≤ c) :
    Calls Try.prog 9 #[.slice a n c] w fun e w' => ∃ b d E, e = .returned (.slice b E.length d) ∧ IsEdges l E ∧ Made w (RowE b d E) w' := by
  have HRT := Lib.hid (right_any a n c l w hr (by omega))
  have HFT := Lib.hid fun W (hb : Below w.heap.size w W) => fates_any a n c l W (hr.below hb) (by omega)
  have HL := Lib.hid hr.1
  have HR := Lib.hid hr
  have HCL := Lib.hid clash_any
  have HW : Hid (∀ x : Mk, x ∈ l → Wf x.tx) := Lib.hid fun x hx => wf_of (hr.bd x hx).2.2.1 (hr.bd x hx).2.2.2.1
  clear hr
  by_cases h0 : rightM l = 0
  · have HF : Hid (∀ b d w' S n', S.Perm (edUp l l.length) → EgUp S → n' = (cptE S).length → Made w (RowE b d (cptE S)) w' → ∃ b' d' E, Ending.returned (.slice b n' d) = .returned (.slice b' E.length d') ∧ IsEdges l E ∧ Made w (RowE b' d' E) w') := Lib.hid fun b d w' S n' h1 h2 h3 h4 => by
      subst h3
      exact ⟨b, d, cptE S, rfl, by unfold IsEdges; rw [if_pos h0]; exact ⟨S, h1, h2, rfl⟩, h4⟩
    rw [h0] at HRT
    clear h0
    go_enter Try.func9, Try.ntmps9
    go_wp2_with fail
    refine HRT.out.mono ?_
    rintro e w0 ⟨rfl, hb0⟩
    have HFT0 := Lib.hid (HFT.out _ hb0)
    have HB0 := Lib.hid hb0
    clear hb0 HRT HFT
    go_wp2_with fail
    refine HFT0.out.mono ?_
    rintro e w1 ⟨bm, nm, rfl, hnm, hmade⟩
    have M0 := Lib.hid (show Mem w [] w1 [RowE none 0 (edUp l 0), MapA bm nm (fateF l)] from (((Mem.nil w).below HB0.out).made hmade).new (Below.refl _ _) (As := [RowE none 0 []]) (all_one ⟨rfl, Row.nil _ _ _⟩) (by simp [blkOf]))
    clear hmade HFT0 HB0
    go_wp2_with fail
    go_loopw [4, 16] (fun v j wr => ∃ k b d m, k ≤ n ∧ m ≤ k * 300 ∧ v = .slice b m d ∧ j = .int .i64 (k : Nat) ∧ Hid (m = (edUp l k).length ∧ Mem w [] wr [RowA 42 2 b m d (egFlat (edUp l k)), MapA bm nm (fateF l)])) (fun _ j _ => n - (intOf j).toNat)
    case atStart => exact ⟨0, none, 0, 0, Nat.zero_le _, Nat.zero_le _, rfl, rfl, Lib.hid ⟨rfl, M0.out⟩⟩
    case round =>
      obtain ⟨W1, rfl⟩ : ∃ W1, W1 = wr := ⟨_, rfl⟩
      obtain ⟨k, b, d, m, hk, hmk, rfl, rfl, HS⟩ := hrel
      clear M0
      have HM := Lib.hid HS.out.1
      have M2 := Lib.hid HS.out.2
      clear HS
      by_cases hlt : k < n
      · have hlt' : k < l.length := by rw [← HL.out]; exact hlt
        obtain ⟨g, off, rfl, hcA, hcB, hcD⟩ := (HR.out.below M2.out.bel).at k hlt'
        have hwf := Lib.hid (HW.out _ (List.getElem_mem hlt'))
        have HU := Lib.hid (edUp_succ l k hlt')
        have M3 := Lib.hid (show Mem w [] _ ([BlockA W1.heap.size #[.int .i64 l[k].kind, .int .i64 l[k].tx, .string l[k].key] 36, RowA 42 2 b m d (egFlat (edUp l k ++ edIn l l[k] 0)), MapA bm nm (fateF l)]) from by
          have := M2.out.block #[.int .i64 l[k].kind, .int .i64 l[k].tx, .string l[k].key] 36
          rw [show edIn l l[k] 0 = [] from rfl, List.append_nil]; exact this)
        have HE0 : Hid (m + (edIn l l[k] 0).length = m) := Lib.hid rfl
        clear M2
        generalize l[k] = x at *
        obtain ⟨xk, xt, xy⟩ := x
        simp only at hcA hcB hcD M3 HU hwf
        go_wp2_with fail
        obtain ⟨W2, hW2⟩ : ∃ W2, W2 = W1.alloc (.cells #[.int .i64 xk, .int .i64 xt, .string xy] 36) := ⟨_, rfl⟩
        rw [← hW2] at M3 ⊢
        clear hW2 hcA hcB hcD
        generalize W1.heap.size = b6 at *
        go_loopw [4, 25] (fun v j wi => ∃ q b' d' mi, q ≤ k ∧ mi ≤ q ∧ v = .slice b' (m + mi) d' ∧ j = .int .i64 (q : Nat) ∧ Hid (mi = (edIn l ⟨xk, xt, xy⟩ q).length ∧ Mem w [] wi [BlockA b6 #[.int .i64 xk, .int .i64 xt, .string xy] 36, RowA 42 2 b' (m + mi) d' (egFlat (edUp l k ++ edIn l ⟨xk, xt, xy⟩ q)), MapA bm nm (fateF l)])) (fun _ j _ => k - (intOf j).toNat)
        case atStart => exact ⟨0, b, d, 0, Nat.zero_le _, Nat.le_refl _, rfl, rfl, Lib.hid ⟨rfl, M3.out⟩⟩
        case round =>
          obtain ⟨q, b', d', mi, hq, hmi, rfl, rfl, HS⟩ := hrel
          clear M3 HE0
          have HMI := Lib.hid HS.out.1
          have M4 := Lib.hid HS.out.2
          clear HS
          by_cases hlq : q < k
          · have hlq' : q < l.length := by omega
            obtain ⟨g', off', he, hdA, hdB, hdD⟩ := (HR.out.below M4.out.bel).at q hlq'
            obtain ⟨rfl, rfl⟩ : g = g' ∧ off = off' := by simpa using he
            have hwq := HW.out _ (List.getElem_mem hlq')
            have HIN := Lib.hid (edIn_succ l ⟨xk, xt, xy⟩ q hlq')
            have M5 := Lib.hid (M4.out.block #[.int .i64 l[q].kind, .int .i64 l[q].tx, .string l[q].key] 36)
            have HG1 := Lib.hid fun W (h : Mem w [] W [BlockA wr.heap.size #[.int .i64 l[q].kind, .int .i64 l[q].tx, .string l[q].key] 36, BlockA b6 #[.int .i64 xk, .int .i64 xt, .string xy] 36, RowA 42 2 b' (m + mi) d' (egFlat (edUp l k ++ edIn l ⟨xk, xt, xy⟩ q)), MapA bm nm (fateF l)]) => (And.intro (Mem.mapGet [BlockA wr.heap.size #[.int .i64 l[q].kind, .int .i64 l[q].tx, .string l[q].key] 36, BlockA b6 #[.int .i64 xk, .int .i64 xt, .string xy] 36, RowA 42 2 b' (m + mi) d' (egFlat (edUp l k ++ edIn l ⟨xk, xt, xy⟩ q))] (r := []) h hwq) (Mem.mapGet [BlockA wr.heap.size #[.int .i64 l[q].kind, .int .i64 l[q].tx, .string l[q].key] 36, BlockA b6 #[.int .i64 xk, .int .i64 xt, .string xy] 36, RowA 42 2 b' (m + mi) d' (egFlat (edUp l k ++ edIn l ⟨xk, xt, xy⟩ q))] (r := []) h hwf.out))
            have HC1 := Lib.hid (HCL.out l[q] ⟨xk, xt, xy⟩)
            clear M4 hwq he
            generalize l[q] = z at *
            obtain ⟨zk, zt, zy⟩ := z
            simp only at hdA hdB hdD M5 HIN HG1
            unfold mkV at HC1
            simp only at HC1
            have HFIN : Hid (∀ w9 b9 d9, meetB l ⟨zk, zt, zy⟩ ⟨xk, xt, xy⟩ = true → Mem w [] w9 [BlockA wr.heap.size #[.int .i64 zk, .int .i64 zt, .string zy] 36, BlockA b6 #[.int .i64 xk, .int .i64 xt, .string xy] 36, RowA 42 2 b9 (m + mi + 1) d9 (egFlat (edUp l k ++ edIn l ⟨xk, xt, xy⟩ q) ++ [.int .i64 zt, .int .i64 xt]), MapA bm nm (fateF l)] → mi + 1 = (edIn l ⟨xk, xt, xy⟩ (q + 1)).length ∧ Mem w [] w9 [BlockA b6 #[.int .i64 xk, .int .i64 xt, .string xy] 36, RowA 42 2 b9 (m + (mi + 1)) d9 (egFlat (edUp l k ++ edIn l ⟨xk, xt, xy⟩ (q + 1))), MapA bm nm (fateF l)]) := Lib.hid fun w9 b9 d9 hmt h => by
              have hI := HIN.out
              rw [if_pos hmt] at hI
              rw [hI]
              refine ⟨by rw [HMI.out]; simp, ?_⟩
              rw [← List.append_assoc, egFlat_append (edUp l k ++ edIn l ⟨xk, xt, xy⟩ q)]
              exact Mem.drop [] (A := BlockA wr.heap.size #[.int .i64 zk, .int .i64 zt, .string zy] 36) (r := [BlockA b6 #[.int .i64 xk, .int .i64 xt, .string xy] 36, RowA 42 2 b9 (m + mi + 1) d9 (egFlat (edUp l k ++ edIn l ⟨xk, xt, xy⟩ q) ++ [.int .i64 zt, .int .i64 xt]), MapA bm nm (fateF l)]) h
            have HSKP : Hid (∀ w9, meetB l ⟨zk, zt, zy⟩ ⟨xk, xt, xy⟩ = false → Mem w [] w9 [BlockA wr.heap.size #[.int .i64 zk, .int .i64 zt, .string zy] 36, BlockA b6 #[.int .i64 xk, .int .i64 xt, .string xy] 36, RowA 42 2 b' (m + mi) d' (egFlat (edUp l k ++ edIn l ⟨xk, xt, xy⟩ q)), MapA bm nm (fateF l)] → mi = (edIn l ⟨xk, xt, xy⟩ (q + 1)).length ∧ Mem w [] w9 [BlockA b6 #[.int .i64 xk, .int .i64 xt, .string xy] 36, RowA 42 2 b' (m + mi) d' (egFlat (edUp l k ++ edIn l ⟨xk, xt, xy⟩ (q + 1))), MapA bm nm (fateF l)]) := Lib.hid fun w9 hmt h => by
              have hI := HIN.out
              rw [if_neg (by rw [hmt]; simp), List.append_nil] at hI
              rw [hI]
              exact ⟨HMI.out, Mem.drop [] (A := BlockA wr.heap.size #[.int .i64 zk, .int .i64 zt, .string zy] 36) (r := [BlockA b6 #[.int .i64 xk, .int .i64 xt, .string xy] 36, RowA 42 2 b' (m + mi) d' (egFlat (edUp l k ++ edIn l ⟨xk, xt, xy⟩ q)), MapA bm nm (fateF l)]) h⟩
            clear HIN HMI
            unfold meetB at HFIN HSKP
            simp only at HFIN HSKP
            have hf1 : (fateF l zt != 4) = liveB l zt := rfl
            have hf2 : (fateF l xt != 4) = liveB l xt := rfl
            generalize egFlat (edUp l k ++ edIn l ⟨xk, xt, xy⟩ q) = EF at *
            obtain ⟨k0, k1, k2⟩ := box_cells M5.out
            obtain ⟨j0, j1, j2⟩ := box_cells2 M5.out
            go_wp2_with fail
            refine (HC1.out _).mono ?_
            rintro e w4 ⟨rfl, hb⟩
            have M6 := Lib.hid (M5.out.below hb)
            clear hb k0 k1 k2 j0 j1 j2 M5 HC1
            obtain ⟨k0, k1, k2⟩ := box_cells M6.out
            obtain ⟨j0, j1, j2⟩ := box_cells2 M6.out
            obtain ⟨g1, g2⟩ := HG1.out _ M6.out
            cases hcl : clashB ⟨zk, zt, zy⟩ ⟨xk, xt, xy⟩ with
            | false =>
              have HX := Lib.hid (HSKP.out w4 (by rw [hcl]; rfl) M6.out)
              clear HSKP HFIN HG1 hcl M6
              go_wp2_with fail
              go_roundw
              case rel => exact ⟨q + 1, b', d', mi, by omega, by omega, rfl, by go_num, HX⟩
              case measure => simp [intOf]; omega
            | true =>
              cases hl1 : liveB l zt with
              | false =>
                rw [hl1] at hf1
                have HX := Lib.hid (HSKP.out w4 (by rw [hcl, hl1]; rfl) M6.out)
                clear HSKP HFIN HG1 hcl M6 hl1
                generalize fateF l zt = f1 at *
                go_wp2_with fail
                go_roundw
                case rel => exact ⟨q + 1, b', d', mi, by omega, by omega, rfl, by go_num, HX⟩
                case measure => simp [intOf]; omega
              | true =>
                cases hl2 : liveB l xt with
                | false =>
                  rw [hl1] at hf1
                  rw [hl2] at hf2
                  have HX := Lib.hid (HSKP.out w4 (by rw [hcl, hl1, hl2]; rfl) M6.out)
                  clear HSKP HFIN HG1 hcl M6 hl1 hl2
                  generalize fateF l zt = f1 at *
                  generalize fateF l xt = f2 at *
                  go_wp2_with fail
                  go_roundw
                  case rel => exact ⟨q + 1, b', d', mi, by omega, by omega, rfl, by go_num, HX⟩
                  case measure => simp [intOf]; omega
                | true =>
                  rw [hl1] at hf1
                  rw [hl2] at hf2
                  obtain ⟨b4, d4, w5, hrun4, mB⟩ := Mem.app1 (P := Try.prog) (t := 25) (ty := 25) [BlockA wr.heap.size #[.int .i64 zk, .int .i64 zt, .string zy] 36, BlockA b6 #[.int .i64 xk, .int .i64 xt, .string xy] 36] (r := [MapA bm nm (fateF l)]) Try.underlying25 infoEg (by rfl) (by decide) M6.out [.int .i64 zt, .int .i64 xt] (by rfl) (by simp [Value.oneCell']) (by omega) (by decide)
                  have HRUN := Lib.hid hrun4
                  have HX := Lib.hid (HFIN.out w5 b4 d4 (by rw [hcl, hl1, hl2]; rfl) mB)
                  clear HSKP HFIN HG1 hcl M6 hl1 hl2 hrun4 mB
                  generalize fateF l zt = f1 at *
                  generalize fateF l xt = f2 at *
                  go_wp2_with ((at_builtin; refine wpList_appendR _ rfl (.tmp 46) (.tmp 52) 25 25 rfl (.slice b' (m + mi) d') (.slice (some ⟨w4.heap.size, 0, none⟩) 1 1) rfl rfl HRUN.out ?_))
                  go_roundw
                  case rel => exact ⟨q + 1, b4, d4, mi + 1, by omega, by omega, rfl, by go_num, HX⟩
                  case measure => simp [intOf]; omega
          · obtain rfl : q = k := by omega
            have HX : Hid (m + mi = (edUp l (q + 1)).length ∧ Mem w [] wr [RowA 42 2 b' (m + mi) d' (egFlat (edUp l (q + 1))), MapA bm nm (fateF l)]) := Lib.hid (by
              rw [HU.out]
              exact ⟨by rw [List.length_append, ← HM.out, ← HMI.out], Mem.drop [] (A := BlockA b6 #[.int .i64 xk, .int .i64 xt, .string xy] 36) (r := [RowA 42 2 b' (m + mi) d' (egFlat (edUp l q ++ edIn l ⟨xk, xt, xy⟩ q)), MapA bm nm (fateF l)]) M4.out⟩)
            clear M4 HM HMI HU
            go_wp2_with fail
            go_roundw
            case rel => exact ⟨q + 1, b', d', m + mi, by omega, by omega, rfl, by go_num, HX⟩
            case measure => simp [intOf]; omega
      · obtain rfl : k = n := by omega
        have HLN : Hid (edUp l k = edUp l l.length) := Lib.hid (by rw [← HL.out])
        have hm2 := HM.out
        have hmem := M2.out
        rw [HLN.out] at hmem hm2
        subst hm2
        have HSO := Lib.hid (mem_sortE [] (E := edUp l l.length) hmem (by omega))
        clear hmem M2 HM HLN
        have HF' := Lib.hid fun b d w' S n' => HF.out b d w' S n'
        generalize hm0 : (edUp l l.length).length = m at *
        have hmb : m ≤ 100000 := by omega
        clear hm0
        go_wp2_with fail
        refine HSO.out.mono ?_
        rintro e w3 ⟨rfl, S, hp, hu, hsl, hm3⟩
        have HC3 := Lib.hid (mem_compactE [] hm3 (by rw [hsl]; exact hmb))
        rw [hsl] at HC3
        have HPU := Lib.hid (And.intro hp hu)
        clear hm3 HSO hp hu hsl
        go_wp2_with fail
        refine HC3.out.mono ?_
        rintro e w4 ⟨rfl, hm4⟩
        have HF4 := Lib.hid (HF'.out b d w4 S _ HPU.out.1 HPU.out.2 rfl (Mem.toMade hm4))
        clear hm4
        go_wp2_with fail
        go_ret
        exact HF4.out
  · have hq2 : (rightM l != 0) = true := by simpa using h0
    have HF : Hid (∀ w', Below w.heap.size w w' → ∃ b d E, Ending.returned (.slice none 0 0) = .returned (.slice b E.length d) ∧ IsEdges l E ∧ Made w (RowE b d E) w') := Lib.hid fun w' hb => by
      exact ⟨none, 0, [], rfl, by unfold IsEdges; rw [if_neg h0], [], ⟨rfl, Row.nil _ _ _⟩, by simp, hb⟩
    clear h0 HFT
    generalize rightM l = q at *
    go_enter Try.func9, Try.ntmps9
    go_wp2_with fail
    refine HRT.out.mono ?_
    rintro e w1 ⟨rfl, hb⟩
    have HB := Lib.hid (HF.out _ hb)
    clear hb
    go_wp2_with fail
    go_ret
    exact HB.out
end Go.Proofs.Ytbgabdofnmijnaa
