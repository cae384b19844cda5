/- The graph: the way, Cyclic. -/
import Derived.Test.YtlmfpkfgjfdhgaaAK
namespace Go.Proofs.Ytlmfpkfgjfdhgaa
open Go.RowKit

/-- is it known? -/
def KnownI (wx W4 : World) (kv : Value) (S : List Int) (j : Nat) (y : Int) : Prop := wx = W4 ∧ kv = .bool ((S.take j).any fun x => x == y)
/-- what the search holds. -/
def WayI (w : World) (E : Prs) (R : Int → Int → Prop) (f : Int) (mu : Nat) (sv tv : Value) (wr : World) : Prop :=
  ∃ a c S b d T, sv = .slice a S.length c ∧ tv = .slice b T.length d ∧ Srch E R f S T ∧ T.length + 2 * (E.length - S.length) ≤ mu ∧ Mem w [] wr [RowA 3 1 a S.length c (intsV S), QRowA 3 b T.length d (intsV T)]
set_option maxRecDepth 100000 in
set_option maxHeartbeats 4000000 in
theorem gr_way (p : Nat) (N E : Prs) (f : Int) (R : Int → Int → Prop) (htr : ∀ a b c, R a b → R b c → R a c) (hir : ∀ a, ¬ R a a) (hE : ∀ e ∈ E, R e.1 e.2) (w : World) (D : List Nat) (h : GrA p N E w D) (hbig : E.length ≤ 1000) :
    Calls Try.prog 43 #[.pointer (some ⟨p, 0, none⟩), .int .i64 f, .int .i64 f, .int .i64 (-1)] w fun e w' => e = .returned (.bool false) ∧ Below w.heap.size w w' := by
  have hcE := fun (h : GrA p N E w D) => h
  clear hcE
  obtain ⟨na, nc, ea, ec, hA⟩ := h
  have M := Mem.ofAll hA
  have HC : Hid (w.cell? ⟨p, 1, none⟩ = some (.slice ea E.length ec)) := Lib.hid (Mem.cellAt (i := 1) [] (r := [RowA 85 2 na N.length nc (edgeFlat N), RowA 44 2 ea E.length ec (edgeFlat E)]) M rfl).1
  have HR := Lib.hid (Mem.rowAt [BlockA p #[.slice na N.length nc, .slice ea E.length ec] 39, RowA 85 2 na N.length nc (edgeFlat N)] (r := []) M)
  have HTR := Lib.hid htr
  have HIR := Lib.hid hir
  have HE := Lib.hid hE
  clear hA M htr hir hE
  have HSZ : Hid (∀ wr, Below w.heap.size w wr → wr.cell? ⟨p, 1, none⟩ = some (.slice ea E.length ec)) := Lib.hid fun wr hb => (hb.cell (World.block_lt_of_cell? w _ HC.out)).trans HC.out
  have M0 : Hid (WayI w E R f (2 * E.length + 1) (.slice (some ⟨w.heap.size, 0, none⟩) 0 0) (.slice (some ⟨w.heap.size + 1, 0, none⟩) 1 1) ((w.alloc (.cells #[] 3)).alloc (.cells #[.int .i64 f] 3))) := Lib.hid (by
    have b1 := bel_new w (.cells #[] 3)
    have b2 := bel_new (w.alloc (.cells #[] 3)) (.cells #[.int .i64 f] 3)
    have m1 : Mem w [] (w.alloc (.cells #[] 3)) [RowA 3 1 (some ⟨w.heap.size, 0, none⟩) 0 0 []] := (Mem.nil w).new b1 (As := [RowA 3 1 (some ⟨w.heap.size, 0, none⟩) 0 0 []]) (D' := [w.heap.size]) (all_one ⟨rfl, Row.mk (cur := #[]) (heap_new w _) (Nat.le_refl _) (by decide) rfl rfl⟩) (by simp)
    have m2 : Mem w [] ((w.alloc (.cells #[] 3)).alloc (.cells #[.int .i64 f] 3)) [QRowA 3 (some ⟨w.heap.size + 1, 0, none⟩) 1 1 [.int .i64 f], RowA 3 1 (some ⟨w.heap.size, 0, none⟩) 0 0 []] := m1.new b2 (As := [QRowA 3 (some ⟨w.heap.size + 1, 0, none⟩) 1 1 [.int .i64 f]]) (D' := [w.heap.size + 1]) (all_one ⟨rfl, w.heap.size + 1, 0, #[.int .i64 f], rfl, heap_alloc_at _ _ _ (by simp), Nat.le_refl _, by decide, by simp, by simp, rfl⟩) (by simp)
    exact ⟨_, _, [], _, _, [f], rfl, rfl, ⟨List.nodup_nil, by simp, fun x hx => .inl (by simpa using hx)⟩, by simp; omega, Mem.swap [] m2⟩)
  generalize hm : E.length = m at *
  have HN := Lib.hid hm
  clear hm
  go_enter Try.func43, Try.ntmps43
  go_wp2_with fail
  go_loopw [9, 10] (fun sv tv wr => Hid (∃ mu, mu = lenV tv + 2 * (m - lenV sv) ∧ mu ≤ 2 * m + 1 ∧ WayI w E R f mu sv tv wr)) (fun sv tv _ => lenV tv + 2 * (m - lenV sv))
  case atStart =>
    obtain ⟨a, c, S, b, d, T, h1, h2, h3, _, h4⟩ := M0.out
    refine Lib.hid ⟨_, rfl, by simp [lenV]; omega, a, c, S, b, d, T, h1, h2, h3, ?_, h4⟩
    rw [h1, h2]; simp only [lenV]; rw [HN.out]; exact Nat.le_refl _
  case round =>
    have HH := hrel
    clear hrel M0
    obtain ⟨mu, hmu, hmub, a, c, S, b, d, T, rfl, rfl, hs, hle, hm⟩ := HH.out
    clear HH
    simp only [lenV] at hmu
    have HS := Lib.hid hs
    have MM := Lib.hid hm
    have hce := HSZ.out _ hm.bel
    have hsl : S.length ≤ 1000 := by have := hs.len; have := HN.out; omega
    clear hs hle hm
    cases T with
    | nil =>
      have HB := Lib.hid MM.out.bel
      clear MM hce
      simp only [List.length_nil]
      go_wp2_with fail
      go_ret
      exact ⟨rfl, HB.out⟩
    | cons x T2 =>
      have hq := Mem.qrowAt [RowA 3 1 a S.length c (intsV S)] (r := []) MM.out
      obtain ⟨g, off, rfl, hd1, hq1, hq2⟩ := QRow.tail (x := .int .i64 x) (xs := intsV T2) (n := T2.length) (c := d) (by simpa [intsV] using hq)
      have hx0 : wr.cell? ⟨g, off, none⟩ = some (.int .i64 x) := by
        obtain ⟨g', off', he, hc⟩ := QRow.cell hq 0 (by simp [intsV])
        simp only [Option.some.injEq, Addr.mk.injEq, and_true] at he
        obtain ⟨rfl, rfl⟩ := he
        simpa [intsV] using hc
      have HGT := Lib.hid (HS.out.gt x (List.mem_cons_self ..))
      have HS2 : Hid (Srch E R f S T2) := Lib.hid ⟨HS.out.nd, HS.out.sub, fun y hy => HS.out.gt y (List.mem_cons_of_mem _ hy)⟩
      have hmu2 : T2.length + 2 * (m - S.length) + 1 ≤ mu := by rw [hmu]; simp only [List.length_cons]; omega
      have HMU := Lib.hid hmu
      have hTl : T2.length ≤ 2001 := by omega
      clear hmu HS hq
      by_cases hdc : d = 1
      · subst hdc
        rw [if_pos rfl] at hq2
        have MQ := Lib.hid (Mem.qset [RowA 3 1 a S.length c (intsV S)] (r := []) MM.out hq2)
        clear hq1 hq2 MM
        simp only [List.length_cons]
        go_wp2_with fail
        have HW : Hid (WayI w E R f (T2.length + 2 * (m - S.length)) (.slice a S.length c) (.slice (some ⟨g, off, none⟩) T2.length (1 - 1)) wr) := Lib.hid ⟨_, _, S, _, _, T2, rfl, rfl, HS2.out, by rw [HN.out]; exact Nat.le_refl _, MQ.out⟩
        clear MQ HS2
        have HB0 : Hid (T2.length + 2 * (m - S.length) ≤ 2001) := Lib.hid (by omega)
        generalize T2.length + 2 * (m - S.length) = mu1 at *
        go_loopw [9, 10, 33] (fun sv tv jv wr => ∃ k : Nat, k ≤ m ∧ jv = .int .i64 k ∧ Hid (WayI w E R f mu1 sv tv wr)) (fun _ _ jv _ => m - (intOf jv).toNat)
        case atStart => exact ⟨0, Nat.zero_le _, rfl, HW⟩
        case round =>
          obtain ⟨W3, rfl⟩ : ∃ W3, W3 = wr := ⟨_, rfl⟩
          obtain ⟨k, hk, rfl, hrel2⟩ := hrel
          clear HW hce hx0
          obtain ⟨a3, c3, S3, b3, d3, T3, rfl, rfl, hs3, hle3, hm3⟩ := hrel2.out
          have HS3 := Lib.hid hs3
          have M3 := Lib.hid hm3
          have HLE := Lib.hid hle3
          have hsl3 : S3.length ≤ 1000 := by have := hs3.len; have := HN.out; omega
          have htl3 : T3.length ≤ 2001 := by have := HB0.out; omega
          clear hs3 hm3 hrel2 hle3
          by_cases hlt : k < m
          · have hk2 : k < E.length := by rw [HN.out]; exact hlt
            obtain ⟨ge, rfl, hy0, hy1⟩ := pr_row (HR.out.below M3.out.bel) k hk2
            have HEM := Lib.hid (List.getElem_mem hk2)
            have HER := Lib.hid (HE.out _ HEM.out)
            generalize E[k] = ek at *
            obtain ⟨e1, e2⟩ := ek
            simp only at hy0 hy1 HER
            have M4 := Lib.hid (show Mem w [] (W3.alloc (.cells #[.int .i64 e1, .int .i64 e2] 44)) ([] ++ RowA 3 1 a3 S3.length c3 (intsV S3) :: [QRowA 3 b3 T3.length d3 (intsV T3)]) from M3.out.below (bel_new _ _))
            by_cases he1 : e1 = x
            · subst he1
              have hq1 : (e1 != e1) = false := by simp
              have hgt2 : R f e2 := by
                rcases HGT.out with e | e
                · rw [← e]; exact HER.out
                · exact HTR.out _ _ _ e HER.out
              have hnf : (e2 == f) = false := beq_eq_false_iff_ne.2 (fun e => HIR.out f (by rw [e] at hgt2; exact hgt2))
              have HG2 := Lib.hid hgt2
              clear hgt2
              go_wp2_with fail
              go_loopw [14, 47] (fun kv jv wx => ∃ j : Nat, j ≤ S3.length ∧ jv = .int .i64 j ∧ Hid (KnownI wx (W3.alloc (.cells #[.int .i64 e1, .int .i64 e2] 44)) kv S3 j e2)) (fun _ jv _ => S3.length - (intOf jv).toNat)
              case atStart => exact ⟨0, Nat.zero_le _, rfl, Lib.hid ⟨rfl, rfl⟩⟩
              case round =>
                obtain ⟨j, hj, rfl, hkv⟩ := hrel
                obtain ⟨rfl, rfl⟩ := hkv.out
                clear hkv
                by_cases hlj : j < S3.length
                · obtain ⟨gs, rfl, hz0⟩ := (Mem.rowAt [] M4.out).cellAt j (by rw [intsV_len]; exact hlj)
                  rw [intsV_get] at hz0
                  have HT : Hid (((S3.take (j + 1)).any fun y => y == e2) = (((S3.take j).any fun y => y == e2) || (S3[j] == e2))) := Lib.hid (by
                    rw [List.take_succ_eq_append_getElem hlj, List.any_append]; simp)
                  generalize S3[j] = sj at *
                  cases hbk : (S3.take j).any fun y => y == e2 with
                  | true =>
                    rw [hbk] at HT
                    have HT2 : Hid (((S3.take (j + 1)).any fun y => y == e2) = true) := Lib.hid (by rw [HT.out]; rfl)
                    clear HT hbk
                    generalize hSl : S3.length = sl at *
                    go_wp2_with fail
                    go_roundw
                    case rel => exact ⟨j + 1, by omega, by go_num, Lib.hid ⟨rfl, by rw [HT2.out]⟩⟩
                    case measure => simp [intOf]; omega
                  | false =>
                    rw [hbk] at HT
                    have HT2 : Hid (((S3.take (j + 1)).any fun y => y == e2) = (sj == e2)) := Lib.hid (by rw [HT.out]; rfl)
                    clear HT hbk
                    generalize hSl : S3.length = sl at *
                    go_wp2_with fail
                    go_roundw
                    case rel => exact ⟨j + 1, by omega, by go_num, Lib.hid ⟨rfl, by rw [HT2.out]⟩⟩
                    case measure => simp [intOf]; omega
                · obtain rfl : j = S3.length := by omega
                  rw [List.take_length]
                  cases hbk : S3.any fun y => y == e2 with
                  | true =>
                    have M5 := Lib.hid (show WayI w E R f mu1 (.slice a3 S3.length c3) (.slice b3 T3.length d3) (W3.alloc (.cells #[.int .i64 e1, .int .i64 e2] 44)) from ⟨_, _, S3, _, _, T3, rfl, rfl, HS3.out, HLE.out, M4.out⟩)
                    clear hbk
                    go_wp2_with fail
                    go_roundw
                    case rel => exact ⟨k + 1, by omega, by go_num, M5⟩
                    case measure => simp [intOf]; omega
                  | false =>
                    have hnin : e2 ∉ S3 := fun hm => by
                      have : (S3.any fun y => y == e2) = true := List.any_eq_true.2 ⟨e2, hm, by simp⟩
                      rw [hbk] at this; cases this
                    have HS4 := Lib.hid (HS3.out.more HEM.out hnin HG2.out)
                    have M4b := Lib.hid (show Mem w [] (W3.alloc (.cells #[.int .i64 e1, .int .i64 e2] 44)) ([BlockA W3.heap.size #[.int .i64 e1, .int .i64 e2] 44] ++ RowA 3 1 a3 S3.length c3 (intsV S3) :: [QRowA 3 b3 T3.length d3 (intsV T3)]) from M3.out.block _ _)
                    obtain ⟨a5, c5, w5, hrun, hm5⟩ := Mem.app1 (P := Try.prog) (t := 40) (ty := 40) [BlockA W3.heap.size #[.int .i64 e1, .int .i64 e2] 44] (r := [QRowA 3 b3 T3.length d3 (intsV T3)]) Try.underlying40 info3 (by rfl) (by decide) M4b.out [.int .i64 e2] rfl (by simp [Value.oneCell']) (by omega) (by decide)
                    rw [show (W3.alloc (.cells #[.int .i64 e1, .int .i64 e2] 44)).heap.size = W3.heap.size + 1 by simp] at hrun
                    have HRUN5 := Lib.hid hrun
                    have M5 := Lib.hid (show Mem w [] w5 ([BlockA W3.heap.size #[.int .i64 e1, .int .i64 e2] 44, RowA 3 1 a5 (S3.length + 1) c5 (intsV S3 ++ [.int .i64 e2])] ++ QRowA 3 b3 T3.length d3 (intsV T3) :: []) from hm5)
                    clear hrun hm5 hbk hnin
                    obtain ⟨a6, c6, w6, hrun, hm6⟩ := Mem.qapp (P := Try.prog) (t := 40) (ty := 40) [BlockA W3.heap.size #[.int .i64 e1, .int .i64 e2] 44, RowA 3 1 a5 (S3.length + 1) c5 (intsV S3 ++ [.int .i64 e2])] (r := []) Try.underlying40 info3 (by rfl) M5.out (.int .i64 e2) rfl (by omega) (by decide)
                    have HRUN6 := Lib.hid hrun
                    have M6 := Lib.hid (show WayI w E R f mu1 (.slice a5 (S3.length + 1) c5) (.slice a6 (T3.length + 1) c6) w6 from ⟨a5, c5, S3 ++ [e2], a6, c6, T3 ++ [e2], by simp, by simp, HS4.out, by
                      have h1 := HS4.out.len
                      have h2 := HLE.out
                      simp only [List.length_append, List.length_singleton] at h1 ⊢
                      omega, by
                      simp only [List.length_append, List.length_singleton, intsV, List.map_append, List.map_cons, List.map_nil]
                      exact Mem.drop [] (A := BlockA W3.heap.size #[.int .i64 e1, .int .i64 e2] 44) (r := [RowA 3 1 a5 (S3.length + 1) c5 (intsV S3 ++ [.int .i64 e2]), QRowA 3 a6 (T3.length + 1) c6 (intsV T3 ++ [.int .i64 e2])]) hm6⟩)
                    have hbx : w5.cell? ⟨W3.heap.size, 1, none⟩ = some (.int .i64 e2) := (Mem.cellAt (i := 1) [] (r := [RowA 3 1 a5 (S3.length + 1) c5 (intsV S3 ++ [.int .i64 e2]), QRowA 3 b3 T3.length d3 (intsV T3)]) M5.out rfl).1
                    clear hrun hm6 M5
                    generalize hSl : S3.length = sl at *
                    generalize hTl3 : T3.length = tl at *
                    go_wp2_with (first
                      | (at_builtin; refine wpList_appendR _ rfl (.tmp 72) (.tmp 75) 40 40 rfl (.slice a3 sl c3) (.slice (some ⟨W3.heap.size + 1, 0, none⟩) 1 1) rfl rfl HRUN5.out ?_)
                      | (at_builtin; refine wpList_appendR _ rfl (.tmp 77) (.tmp 80) 40 40 rfl (.slice b3 tl d3) (.slice (some ⟨w5.heap.size, 0, none⟩) 1 1) rfl rfl HRUN6.out ?_))
                    go_roundw
                    case rel => exact ⟨k + 1, by omega, by go_num, M6⟩
                    case measure => simp [intOf]; omega
            · have hq1 : (e1 != x) = true := by simpa using he1
              have M5 := Lib.hid (show WayI w E R f mu1 (.slice a3 S3.length c3) (.slice b3 T3.length d3) (W3.alloc (.cells #[.int .i64 e1, .int .i64 e2] 44)) from ⟨_, _, S3, _, _, T3, rfl, rfl, HS3.out, HLE.out, M4.out⟩)
              clear M4
              go_wp2_with fail
              go_roundw
              case rel => exact ⟨k + 1, by omega, by go_num, M5⟩
              case measure => simp [intOf]; omega
          · obtain rfl : k = m := by omega
            have hl2 := HLE.out
            rw [HN.out] at hl2
            have hmu3 := hmu2
            have hmb := hmub
            have HM := HMU.out
            simp only [List.length_cons] at HM
            have M5 := Lib.hid (show ∃ mu, mu = lenV (.slice b3 T3.length d3) + 2 * (k - lenV (.slice a3 S3.length c3)) ∧ mu ≤ 2 * k + 1 ∧ WayI w E R f mu (.slice a3 S3.length c3) (.slice b3 T3.length d3) W3 from ⟨_, rfl, by simp only [lenV]; omega, _, _, S3, _, _, T3, rfl, rfl, HS3.out, by simp only [lenV]; rw [HN.out]; exact Nat.le_refl _, M3.out⟩)
            clear M3 HLE HMU
            go_wp2_with fail
            go_roundw
            case rel => exact M5
            case measure => simp only [lenV]; omega
      · rw [if_neg hdc] at hq2
        have MQ := Lib.hid (Mem.qset [RowA 3 1 a S.length c (intsV S)] (r := []) MM.out hq2)
        clear hq1 hq2 MM
        simp only [List.length_cons]
        go_wp2_with fail
        have HW : Hid (WayI w E R f (T2.length + 2 * (m - S.length)) (.slice a S.length c) (.slice (some ⟨g, off + 1, none⟩) T2.length (d - 1)) wr) := Lib.hid ⟨_, _, S, _, _, T2, rfl, rfl, HS2.out, by rw [HN.out]; exact Nat.le_refl _, MQ.out⟩
        clear MQ HS2
        have HB0 : Hid (T2.length + 2 * (m - S.length) ≤ 2001) := Lib.hid (by omega)
        generalize T2.length + 2 * (m - S.length) = mu1 at *
        go_loopw [9, 10, 33] (fun sv tv jv wr => ∃ k : Nat, k ≤ m ∧ jv = .int .i64 k ∧ Hid (WayI w E R f mu1 sv tv wr)) (fun _ _ jv _ => m - (intOf jv).toNat)
        case atStart => exact ⟨0, Nat.zero_le _, rfl, HW⟩
        case round =>
          obtain ⟨W3, rfl⟩ : ∃ W3, W3 = wr := ⟨_, rfl⟩
          obtain ⟨k, hk, rfl, hrel2⟩ := hrel
          clear HW hce hx0
          obtain ⟨a3, c3, S3, b3, d3, T3, rfl, rfl, hs3, hle3, hm3⟩ := hrel2.out
          have HS3 := Lib.hid hs3
          have M3 := Lib.hid hm3
          have HLE := Lib.hid hle3
          have hsl3 : S3.length ≤ 1000 := by have := hs3.len; have := HN.out; omega
          have htl3 : T3.length ≤ 2001 := by have := HB0.out; omega
          clear hs3 hm3 hrel2 hle3
          by_cases hlt : k < m
          · have hk2 : k < E.length := by rw [HN.out]; exact hlt
            obtain ⟨ge, rfl, hy0, hy1⟩ := pr_row (HR.out.below M3.out.bel) k hk2
            have HEM := Lib.hid (List.getElem_mem hk2)
            have HER := Lib.hid (HE.out _ HEM.out)
            generalize E[k] = ek at *
            obtain ⟨e1, e2⟩ := ek
            simp only at hy0 hy1 HER
            have M4 := Lib.hid (show Mem w [] (W3.alloc (.cells #[.int .i64 e1, .int .i64 e2] 44)) ([] ++ RowA 3 1 a3 S3.length c3 (intsV S3) :: [QRowA 3 b3 T3.length d3 (intsV T3)]) from M3.out.below (bel_new _ _))
            by_cases he1 : e1 = x
            · subst he1
              have hq1 : (e1 != e1) = false := by simp
              have hgt2 : R f e2 := by
                rcases HGT.out with e | e
                · rw [← e]; exact HER.out
                · exact HTR.out _ _ _ e HER.out
              have hnf : (e2 == f) = false := beq_eq_false_iff_ne.2 (fun e => HIR.out f (by rw [e] at hgt2; exact hgt2))
              have HG2 := Lib.hid hgt2
              clear hgt2
              go_wp2_with fail
              go_loopw [14, 47] (fun kv jv wx => ∃ j : Nat, j ≤ S3.length ∧ jv = .int .i64 j ∧ Hid (KnownI wx (W3.alloc (.cells #[.int .i64 e1, .int .i64 e2] 44)) kv S3 j e2)) (fun _ jv _ => S3.length - (intOf jv).toNat)
              case atStart => exact ⟨0, Nat.zero_le _, rfl, Lib.hid ⟨rfl, rfl⟩⟩
              case round =>
                obtain ⟨j, hj, rfl, hkv⟩ := hrel
                obtain ⟨rfl, rfl⟩ := hkv.out
                clear hkv
                by_cases hlj : j < S3.length
                · obtain ⟨gs, rfl, hz0⟩ := (Mem.rowAt [] M4.out).cellAt j (by rw [intsV_len]; exact hlj)
                  rw [intsV_get] at hz0
                  have HT : Hid (((S3.take (j + 1)).any fun y => y == e2) = (((S3.take j).any fun y => y == e2) || (S3[j] == e2))) := Lib.hid (by
                    rw [List.take_succ_eq_append_getElem hlj, List.any_append]; simp)
                  generalize S3[j] = sj at *
                  cases hbk : (S3.take j).any fun y => y == e2 with
                  | true =>
                    rw [hbk] at HT
                    have HT2 : Hid (((S3.take (j + 1)).any fun y => y == e2) = true) := Lib.hid (by rw [HT.out]; rfl)
                    clear HT hbk
                    generalize hSl : S3.length = sl at *
                    go_wp2_with fail
                    go_roundw
                    case rel => exact ⟨j + 1, by omega, by go_num, Lib.hid ⟨rfl, by rw [HT2.out]⟩⟩
                    case measure => simp [intOf]; omega
                  | false =>
                    rw [hbk] at HT
                    have HT2 : Hid (((S3.take (j + 1)).any fun y => y == e2) = (sj == e2)) := Lib.hid (by rw [HT.out]; rfl)
                    clear HT hbk
                    generalize hSl : S3.length = sl at *
                    go_wp2_with fail
                    go_roundw
                    case rel => exact ⟨j + 1, by omega, by go_num, Lib.hid ⟨rfl, by rw [HT2.out]⟩⟩
                    case measure => simp [intOf]; omega
                · obtain rfl : j = S3.length := by omega
                  rw [List.take_length]
                  cases hbk : S3.any fun y => y == e2 with
                  | true =>
                    have M5 := Lib.hid (show WayI w E R f mu1 (.slice a3 S3.length c3) (.slice b3 T3.length d3) (W3.alloc (.cells #[.int .i64 e1, .int .i64 e2] 44)) from ⟨_, _, S3, _, _, T3, rfl, rfl, HS3.out, HLE.out, M4.out⟩)
                    clear hbk
                    go_wp2_with fail
                    go_roundw
                    case rel => exact ⟨k + 1, by omega, by go_num, M5⟩
                    case measure => simp [intOf]; omega
                  | false =>
                    have hnin : e2 ∉ S3 := fun hm => by
                      have : (S3.any fun y => y == e2) = true := List.any_eq_true.2 ⟨e2, hm, by simp⟩
                      rw [hbk] at this; cases this
                    have HS4 := Lib.hid (HS3.out.more HEM.out hnin HG2.out)
                    have M4b := Lib.hid (show Mem w [] (W3.alloc (.cells #[.int .i64 e1, .int .i64 e2] 44)) ([BlockA W3.heap.size #[.int .i64 e1, .int .i64 e2] 44] ++ RowA 3 1 a3 S3.length c3 (intsV S3) :: [QRowA 3 b3 T3.length d3 (intsV T3)]) from M3.out.block _ _)
                    obtain ⟨a5, c5, w5, hrun, hm5⟩ := Mem.app1 (P := Try.prog) (t := 40) (ty := 40) [BlockA W3.heap.size #[.int .i64 e1, .int .i64 e2] 44] (r := [QRowA 3 b3 T3.length d3 (intsV T3)]) Try.underlying40 info3 (by rfl) (by decide) M4b.out [.int .i64 e2] rfl (by simp [Value.oneCell']) (by omega) (by decide)
                    rw [show (W3.alloc (.cells #[.int .i64 e1, .int .i64 e2] 44)).heap.size = W3.heap.size + 1 by simp] at hrun
                    have HRUN5 := Lib.hid hrun
                    have M5 := Lib.hid (show Mem w [] w5 ([BlockA W3.heap.size #[.int .i64 e1, .int .i64 e2] 44, RowA 3 1 a5 (S3.length + 1) c5 (intsV S3 ++ [.int .i64 e2])] ++ QRowA 3 b3 T3.length d3 (intsV T3) :: []) from hm5)
                    clear hrun hm5 hbk hnin
                    obtain ⟨a6, c6, w6, hrun, hm6⟩ := Mem.qapp (P := Try.prog) (t := 40) (ty := 40) [BlockA W3.heap.size #[.int .i64 e1, .int .i64 e2] 44, RowA 3 1 a5 (S3.length + 1) c5 (intsV S3 ++ [.int .i64 e2])] (r := []) Try.underlying40 info3 (by rfl) M5.out (.int .i64 e2) rfl (by omega) (by decide)
                    have HRUN6 := Lib.hid hrun
                    have M6 := Lib.hid (show WayI w E R f mu1 (.slice a5 (S3.length + 1) c5) (.slice a6 (T3.length + 1) c6) w6 from ⟨a5, c5, S3 ++ [e2], a6, c6, T3 ++ [e2], by simp, by simp, HS4.out, by
                      have h1 := HS4.out.len
                      have h2 := HLE.out
                      simp only [List.length_append, List.length_singleton] at h1 ⊢
                      omega, by
                      simp only [List.length_append, List.length_singleton, intsV, List.map_append, List.map_cons, List.map_nil]
                      exact Mem.drop [] (A := BlockA W3.heap.size #[.int .i64 e1, .int .i64 e2] 44) (r := [RowA 3 1 a5 (S3.length + 1) c5 (intsV S3 ++ [.int .i64 e2]), QRowA 3 a6 (T3.length + 1) c6 (intsV T3 ++ [.int .i64 e2])]) hm6⟩)
                    have hbx : w5.cell? ⟨W3.heap.size, 1, none⟩ = some (.int .i64 e2) := (Mem.cellAt (i := 1) [] (r := [RowA 3 1 a5 (S3.length + 1) c5 (intsV S3 ++ [.int .i64 e2]), QRowA 3 b3 T3.length d3 (intsV T3)]) M5.out rfl).1
                    clear hrun hm6 M5
                    generalize hSl : S3.length = sl at *
                    generalize hTl3 : T3.length = tl at *
                    go_wp2_with (first
                      | (at_builtin; refine wpList_appendR _ rfl (.tmp 72) (.tmp 75) 40 40 rfl (.slice a3 sl c3) (.slice (some ⟨W3.heap.size + 1, 0, none⟩) 1 1) rfl rfl HRUN5.out ?_)
                      | (at_builtin; refine wpList_appendR _ rfl (.tmp 77) (.tmp 80) 40 40 rfl (.slice b3 tl d3) (.slice (some ⟨w5.heap.size, 0, none⟩) 1 1) rfl rfl HRUN6.out ?_))
                    go_roundw
                    case rel => exact ⟨k + 1, by omega, by go_num, M6⟩
                    case measure => simp [intOf]; omega
            · have hq1 : (e1 != x) = true := by simpa using he1
              have M5 := Lib.hid (show WayI w E R f mu1 (.slice a3 S3.length c3) (.slice b3 T3.length d3) (W3.alloc (.cells #[.int .i64 e1, .int .i64 e2] 44)) from ⟨_, _, S3, _, _, T3, rfl, rfl, HS3.out, HLE.out, M4.out⟩)
              clear M4
              go_wp2_with fail
              go_roundw
              case rel => exact ⟨k + 1, by omega, by go_num, M5⟩
              case measure => simp [intOf]; omega
          · obtain rfl : k = m := by omega
            have hl2 := HLE.out
            rw [HN.out] at hl2
            have hmu3 := hmu2
            have hmb := hmub
            have HM := HMU.out
            simp only [List.length_cons] at HM
            have M5 := Lib.hid (show ∃ mu, mu = lenV (.slice b3 T3.length d3) + 2 * (k - lenV (.slice a3 S3.length c3)) ∧ mu ≤ 2 * k + 1 ∧ WayI w E R f mu (.slice a3 S3.length c3) (.slice b3 T3.length d3) W3 from ⟨_, rfl, by simp only [lenV]; omega, _, _, S3, _, _, T3, rfl, rfl, HS3.out, by simp only [lenV]; rw [HN.out]; exact Nat.le_refl _, M3.out⟩)
            clear M3 HLE HMU
            go_wp2_with fail
            go_roundw
            case rel => exact M5
            case measure => simp only [lenV]; omega
set_option maxRecDepth 100000 in
set_option maxHeartbeats 1600000 in
theorem gr_cyclic (p : Nat) (N E : Prs) (R : Int → Int → Prop) (htr : ∀ a b c, R a b → R b c → R a c) (hir : ∀ a, ¬ R a a) (hE : ∀ e ∈ E, R e.1 e.2) (w : World) (D : List Nat) (h : GrA p N E w D) (hN : N.length ≤ 1000) (hbig : E.length ≤ 1000) :
    Calls Try.prog 18 #[.pointer (some ⟨p, 0, none⟩)] w fun e w' => e = .returned (.bool false) ∧ Below w.heap.size w w' := by
  have HW := Lib.hid fun w1 f (hb : Below w.heap.size w w1) => gr_way p N E f R htr hir hE w1 D (((Step.of_below hb []).keep h (by simp)).1) hbig
  obtain ⟨na, nc, ea, ec, hA⟩ := h
  have M := Mem.ofAll hA
  have hc : w.cell? ⟨p, 0, none⟩ = some (.slice na N.length nc) := (Mem.cellAt (i := 0) [] (r := [RowA 85 2 na N.length nc (edgeFlat N), RowA 44 2 ea E.length ec (edgeFlat E)]) M rfl).1
  have HR := Lib.hid (Mem.rowAt [BlockA p #[.slice na N.length nc, .slice ea E.length ec] 39] (r := [RowA 44 2 ea E.length ec (edgeFlat E)]) M)
  clear hA M htr hir hE
  generalize hn : N.length = n at hc hN
  have HN := Lib.hid hn
  clear hn
  go_enter Try.func18, Try.ntmps18
  go_wp2_with fail
  go_loopw [10] (fun j wr => ∃ k : Nat, k ≤ n ∧ j = .int .i64 k ∧ Hid (Below w.heap.size w wr)) (fun j _ => n - (intOf j).toNat)
  case atStart => exact ⟨0, Nat.zero_le _, rfl, Lib.hid (Below.refl _ _)⟩
  case round =>
    obtain ⟨k, hk, rfl, hS⟩ := hrel
    have hb := hS.out
    have HB := Lib.hid hb
    clear hS
    by_cases hlt : k < n
    · have hk2 : k < N.length := by rw [HN.out]; exact hlt
      obtain ⟨g, rfl, hx0, hx1⟩ := pr_row (HR.out.below hb) k hk2
      have HB2 := Lib.hid (hb.trans ((bel_new wr (.cells #[.int .i64 N[k].1, .int .i64 N[k].2] 85)).mono hb.size))
      have HC := Lib.hid (HW.out _ N[k].1 HB2.out)
      clear hb
      generalize N[k] = x at *
      obtain ⟨xi, xs⟩ := x
      simp only at hx0 hx1 HB2 HC
      go_wp2_with fail
      refine HC.out.mono ?_
      rintro e w2 ⟨rfl, hb⟩
      have HB3 := Lib.hid (HB2.out.trans (hb.mono HB2.out.size))
      clear hb
      go_wp2_with fail
      go_roundw
      case rel => exact ⟨k + 1, by omega, by go_num, HB3⟩
      case measure => simp [intOf]; omega
    · clear hb
      go_wp2_with fail
      go_ret
      exact ⟨rfl, HB.out⟩
end Go.Proofs.Ytlmfpkfgjfdhgaa
