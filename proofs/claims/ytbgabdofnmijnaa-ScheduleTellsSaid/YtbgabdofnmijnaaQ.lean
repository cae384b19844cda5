/- Order walked. -/
import Derived.Test.YtbgabdofnmijnaaP
import Derived.Deep.LoopGhost
import Derived.WalkMore
namespace Go.Proofs.Ytbgabdofnmijnaa
open Go.RowKit
def freeB (E : List Eg) (tx : Int) : Bool := !(E.any fun e => e.b == tx)
def outE (E : List Eg) (tx : Int) : List Eg := E.filter fun e => !(e.a == tx)
/-- always the first one to which no edge leads. -/
def ordGo : Nat → List Int → List Eg → Option (List Int)
  | _, [], _ => some []
  | 0, _ :: _, _ => none
  | n + 1, x :: r, E => match (x :: r).findIdx? (freeB E) with
    | none => none
    | some i => (ordGo n ((x :: r).eraseIdx i) (outE E ((x :: r)[i]!))).map ((x :: r)[i]! :: ·)
def ordR (left : List Int) (E : List Eg) : Option (List Int) := ordGo left.length left E
theorem ordR_nil (E : List Eg) : ordR [] E = some [] := rfl
theorem ordR_none {left : List Int} {E : List Eg} (h0 : left ≠ []) (h : ∀ i (h : i < left.length), freeB E left[i] = false) : ordR left E = none := by
  match left, h0 with
  | x :: r, _ =>
    have : (x :: r).findIdx? (freeB E) = none := by
      rw [List.findIdx?_eq_none_iff]
      intro y hy
      obtain ⟨j, hj, rfl⟩ := List.getElem_of_mem hy
      exact h j hj
    show (match (x :: r).findIdx? (freeB E) with | none => none | some i => _) = none
    rw [this]
theorem ordR_some {left : List Int} {E : List Eg} {i : Nat} (hi : i < left.length) (h : ∀ j (h : j < left.length), j < i → freeB E left[j] = false) (hf : freeB E left[i] = true) : ordR left E = (ordR (left.eraseIdx i) (outE E left[i])).map (left[i] :: ·) := by
  match left, hi with
  | x :: r, hi =>
    have : (x :: r).findIdx? (freeB E) = some i := by
      rw [List.findIdx?_eq_some_iff_getElem]
      exact ⟨hi, hf, fun j hj => by simp [h j (by omega) hj]⟩
    have hl : ((x :: r).eraseIdx i).length = r.length := by rw [List.length_eraseIdx]; simp at hi ⊢; omega
    unfold ordR
    rw [hl]
    show (match (x :: r).findIdx? (freeB E) with | none => none | some i => (ordGo r.length ((x :: r).eraseIdx i) (outE E ((x :: r)[i]!))).map ((x :: r)[i]! :: ·)) = _
    rw [this]
    simp only [getElem!_pos (x :: r) i hi]
def IsOrd (R : Option (List Int)) (O : List Int) (ok : Bool) : Prop := match R with | some P => O = P ∧ ok = true | none => O = [] ∧ ok = false
def IsOrder (l : List Mk) (O : List Int) (ok : Bool) : Prop := if rightM l = 0 then ∃ E, IsEdges l E ∧ IsOrd (ordR (allM l) E) O ok else O = [] ∧ ok = false
theorem outE_len (E : List Eg) (tx : Int) : (outE E tx).length ≤ E.length := List.length_filter_le _ _
theorem allM_len (l : List Mk) : (allM l).length ≤ l.length := by
  unfold allM riseI
  exact Nat.le_trans (Lib.compact_length_le _) (by rw [sortI_len]; exact allUp_len l _)
theorem cptE_len (E : List Eg) : (cptE E).length ≤ E.length := cptUp_len E _
theorem isEdges_len {l : List Mk} {E : List Eg} (hl : l.length ≤ 300) (h : IsEdges l E) : E.length ≤ 90000 := by
  unfold IsEdges at h
  split at h
  · obtain ⟨S, h1, _, rfl⟩ := h
    have := edUp_len l hl l.length (Nat.le_refl _)
    have h2 := cptE_len S
    rw [h1.length_eq] at h2
    omega
  · subst h; simp
/-- what holds at the outer loop's head. -/
def OrdAt (w : World) (R : Option (List Int)) (la : Option Addr) (ln ld : Nat) (ea : Option Addr) (en ed : Nat) (oa : Option Addr) (on od : Nat) (wr : World) : Prop :=
  ∃ left E out, ln = left.length ∧ en = E.length ∧ on = out.length ∧ R = (ordR left E).map (out ++ ·) ∧ Mem w [] wr [RowI la ld left, RowE ea ed E, RowI oa od out]
set_option maxRecDepth 100000 in
set_option maxHeartbeats 8000000 in
theorem order_any (a : Option Addr) (n c : Nat) (l : List Mk) (w : World) (hr : MksAt w a n l) (hn : n ≤ 300) (hnc : n ≤ c) :
    Calls Try.prog 11 #[.slice a n c] w fun e w' => ∃ b d O ok, e = .returned (.tuple #[.slice b O.length d, .bool ok]) ∧ IsOrder l O ok ∧ Made w (RowI b d O) w' := by
  have HRT := Lib.hid (right_any a n c l w hr (by omega))
  have HAT := Lib.hid fun W (hb : Below w.heap.size w W) => all_any a n c l W (hr.below hb) (by omega)
  have HET := Lib.hid fun W (hb : Below w.heap.size w W) => edges_any a n c l W (hr.below hb) hn hnc
  have HL := Lib.hid hr.1
  have HR := Lib.hid hr
  clear hr
  by_cases h0 : rightM l = 0
  · have HF : Hid (∀ E, IsEdges l E → ∀ b d O ok w', IsOrd (ordR (allM l) E) O ok → Made w (RowI b d O) w' → ∃ b' d' O' ok', Ending.returned (.tuple #[.slice b O.length d, .bool ok]) = .returned (.tuple #[.slice b' O'.length d', .bool ok']) ∧ IsOrder l O' ok' ∧ Made w (RowI b' d' O') w') := Lib.hid fun E h1 b d O ok w' h2 h3 => by
      exact ⟨b, d, O, ok, rfl, by unfold IsOrder; rw [if_pos h0]; exact ⟨E, h1, h2⟩, h3⟩
    rw [h0] at HRT
    clear h0
    go_enter Try.func11, Try.ntmps11
    go_wp2_with fail
    go_step3
    go_wp2_with fail
    refine HRT.out.mono ?_
    rintro e w0 ⟨rfl, hb0⟩
    have HB0 := Lib.hid hb0
    have HA0 := Lib.hid (HAT.out _ hb0)
    clear hb0 HRT HAT
    go_wp2_with fail
    refine HA0.out.mono ?_
    rintro e w1 ⟨la, ld, rfl, hmA⟩
    have M1 := Lib.hid (((Mem.nil w).below HB0.out).made hmA)
    have HE0 := Lib.hid (HET.out _ M1.out.bel)
    clear hmA HA0 HB0 HET
    go_wp2_with fail
    refine HE0.out.mono ?_
    rintro e w2 ⟨ea, ed, E, rfl, hE, hmE⟩
    have HE := Lib.hid hE
    have hEl := isEdges_len (by rw [← HL.out]; exact hn) hE
    have hAl : (allM l).length ≤ 300 := by have := allM_len l; have := HL.out; omega
    have M2 := Lib.hid (show Mem w [] w2 [RowI la ld (allM l), RowE ea ed E, RowI none 0 []] from by
      have h1 := M1.out.made hmE
      have h2 : Mem w [] w2 [RowI none 0 [], RowE ea ed E, RowI la ld (allM l)] := h1.new (Below.refl _ _) (As := [RowI none 0 []]) (all_one ⟨rfl, Row.nil _ _ _⟩) (by simp [blkOf])
      have h3 := Mem.swap [] h2
      have h4 := Mem.swap [RowE ea ed E] h3
      exact Mem.swap [] h4)
    have HF2 := Lib.hid (HF.out E hE)
    clear hE hmE M1 HE0 HF HE
    generalize hAM : allM l = AM at *
    generalize hRR : ordR AM E = R at *
    have M3 : Hid (OrdAt w R la AM.length ld ea E.length ed none 0 0 w2) := Lib.hid ⟨AM, E, [], rfl, rfl, rfl, by rw [hRR]; cases R <;> simp, M2.out⟩
    clear hRR M2 hAM
    generalize AM.length = aln at *
    generalize E.length = eln at *
    go_wp2_with fail
    go_step3
    go_wp2_with fail
    go_loopg [4, 5, 6] aln (fun gh v4 v5 v6 wr => ∃ ln la ld ea en ed oa on od, ln = gh ∧ ln + on ≤ 300 ∧ en ≤ 90000 ∧ v4 = .slice la ln ld ∧ v5 = .slice ea en ed ∧ v6 = .slice oa on od ∧ Hid (OrdAt w R la ln ld ea en ed oa on od wr))
    case atStart => exact ⟨aln, la, ld, ea, eln, ed, none, 0, 0, rfl, by omega, by omega, rfl, rfl, rfl, M3⟩
    case round =>
      obtain ⟨W1, rfl⟩ : ∃ W1, W1 = wr := ⟨_, rfl⟩
      obtain ⟨ln, la, ld, ea, en, ed, oa, on, od, rfl, hlo, hen, rfl, rfl, rfl, HS⟩ := hrel
      clear M3 hAl hEl
      obtain ⟨left, E, out, hln, henE, hon, hR, hm⟩ := HS.out
      have HLN := Lib.hid hln
      have HEN := Lib.hid henE
      have HON := Lib.hid hon
      have HRR := Lib.hid hR
      have M4 := Lib.hid hm
      clear HS hln henE hon hR hm
      by_cases hz : ln = 0
      · subst hz
        have HX : Hid (IsOrd R out true ∧ Made w (RowI oa od out) W1) := Lib.hid (by
          obtain rfl : left = [] := List.length_eq_zero_iff.1 HLN.out.symm
          refine ⟨by rw [HRR.out, ordR_nil]; exact ⟨by simp, rfl⟩, ?_⟩
          have h1 := Mem.swap [RowI la ld []] M4.out
          exact (Mem.swap [] h1).toMade)
        have HX2 := Lib.hid (HF2.out oa od out true W1 HX.out.1 HX.out.2)
        rw [← HON.out] at HX2
        clear M4 HX HRR HF2
        go_wp2_with fail
        try rw [Exit.noGoto_ret]
        go_ret2
        exact HX2.out
      · have hlnp : 0 < ln := by omega
        go_wp2_with fail
        go_loopg [4, 5, 6, 21] ln (fun gq v4 v5 v6 j wi => ∃ q i : Nat, q = gq ∧ v4 = .slice la ln ld ∧ v5 = .slice ea en ed ∧ v6 = .slice oa on od ∧ i + q = ln ∧ j = .int .i64 i ∧ Hid (∀ j (h : j < left.length), j < i → freeB E left[j] = false) ∧ Hid (Mem w [] wi [RowI la ld left, RowE ea ed E, RowI oa od out]))
        case atStart => exact ⟨ln, 0, rfl, rfl, rfl, rfl, by omega, rfl, Lib.hid (fun j _ hj => absurd hj (by omega)), M4⟩
        case round =>
          obtain ⟨W2, rfl⟩ : ∃ W2, W2 = wr := ⟨_, rfl⟩
          obtain ⟨q, i, rfl, rfl, rfl, rfl, hiq, rfl, HALL, M5⟩ := hrel
          clear M4
          by_cases hlt : i < ln
          · have hlt' : i < left.length := by rw [← HLN.out]; exact hlt
            obtain ⟨gl, rfl, hc1⟩ := (Mem.rowAt [] (r := [RowE ea ed E, RowI oa od out]) M5.out).cellAt i (by unfold intsV; rw [List.length_map]; exact hlt')
            have hc2 : W2.cell? ⟨gl, i, none⟩ = some (.int .i64 left[i]) := by rw [hc1]; simp [intsV]
            clear hc1
            have M6 := Lib.hid (M5.out.block #[.int .i64 left[i]] 3)
            have HT := Lib.hid (tos_any W2.heap.size left[i] ea E.length ed E _ ((M6.out.block_cell (i := 0) rfl).1) (Mem.rowAt [BlockA W2.heap.size #[.int .i64 left[i]] 3, RowI (some ⟨gl, 0, none⟩) ld left] M6.out) (by rw [← HEN.out]; omega))
            rw [← HEN.out] at HT
            have HNO := Lib.hid fun (h : (E.any fun x => x.b == left[i]) = true) => (show ∀ j (h : j < left.length), j < i + 1 → freeB E left[j] = false from fun j hj hji => by
              by_cases e : j = i
              · subst e; unfold freeB; rw [h]; rfl
              · exact HALL.out j hj (by omega))
            have HYES := Lib.hid fun (h : (E.any fun x => x.b == left[i]) = false) => ordR_some (E := E) hlt' HALL.out (by unfold freeB; rw [h]; rfl)
            have HMI := Lib.hid fun W l r (sl : Stables l) (sr : Stables r) (h : Mem w [] W (l ++ RowI (some ⟨gl, 0, none⟩) ld left :: r)) => mem_delI l h hlt' (by rw [← HLN.out]; omega)
            have HEL : Hid ((left.eraseIdx i).length = ln - 1) := Lib.hid (by rw [List.length_eraseIdx, ← HLN.out]; simp [hlt])
            rw [← HLN.out, show ((i + 1 : Nat) : Int) = (i : Int) + 1 from rfl] at HMI
            clear M5 HALL
            generalize left[i] = tx at *
            go_wp2_with fail
            refine HT.out.mono ?_
            rintro e w3 ⟨rfl, hb⟩
            have M7 := Lib.hid (M6.out.below hb)
            clear hb M6 HT hc2
            cases hany : (E.any fun x => x.b == tx) with
            | true =>
              have HALL2 := Lib.hid (HNO.out hany)
              have M8 := Lib.hid (Mem.drop [] (A := BlockA W2.heap.size #[.int .i64 tx] 3) (r := [RowI (some ⟨gl, 0, none⟩) ld left, RowE ea ed E, RowI oa od out]) M7.out)
              clear hany HNO HYES HMI M7
              go_wp2_with fail
              go_roundg (q - 1)
              case rel => exact ⟨q - 1, i + 1, rfl, rfl, rfl, rfl, by omega, by go_num, HALL2, M8⟩
              case measure => omega
            | false =>
              have HY := Lib.hid (HYES.out hany)
              clear hany HNO HYES
              obtain ⟨z0, -⟩ := M7.out.block_cell (i := 0) (v := .int .i64 tx) rfl
              obtain ⟨b4, d4, w4, hrun4, mB⟩ := Mem.app1 (P := Try.prog) (t := 29) (ty := 29) [BlockA W2.heap.size #[.int .i64 tx] 3, RowI (some ⟨gl, 0, none⟩) ld left, RowE ea ed E] (r := []) (a := oa) (n := out.length) (c := od) (xs := intsV out) Try.underlying29 infoInt (by rfl) (by decide) M7.out [.int .i64 tx] (by rfl) (by simp [Value.oneCell']) (by rw [← HON.out]; omega) (by decide)
              rw [← HON.out] at hrun4
              have HRUN := Lib.hid hrun4
              have M8 := Lib.hid (show Mem w [] w4 ([BlockA W2.heap.size #[.int .i64 tx] 3] ++ RowI (some ⟨gl, 0, none⟩) ld left :: [RowE ea ed E, RowI b4 d4 (out ++ [tx])]) from by
                rw [← rowI_app b4 d4 out tx]; exact mB)
              have HD1 := Lib.hid (HMI.out w4 _ _ inferInstance inferInstance M8.out)
              rw [HEL.out] at HD1
              clear M7 hrun4 mB HMI
              go_wp2_with ((at_builtin; refine wpList_appendR _ rfl (.tmp 29) (.tmp 31) 29 29 rfl (.slice oa on od) (.slice (some ⟨w3.heap.size, 0, none⟩) 1 1) rfl rfl HRUN.out ?_))
              refine HD1.out.mono ?_
              rintro e w5 ⟨rfl, hm5⟩
              have HD2 := Lib.hid (mem_delE (bi := W2.heap.size) (tx := tx) [RowI (some ⟨gl, 0, none⟩) ld (left.eraseIdx i)] (a := ea) (c := ed) (E := E) (r := [RowI b4 d4 (out ++ [tx])]) hm5 (by rw [← HEN.out]; omega))
              rw [← HEN.out] at HD2
              clear hm5 HD1 M8 z0
              go_wp2_with fail
              refine HD2.out.mono ?_
              rintro e w6 ⟨rfl, hm6⟩
              have HFIN : Hid (OrdAt w R (some ⟨gl, 0, none⟩) (ln - 1) ld ea (E.filter fun x => !(x.a == tx)).length ed b4 (on + 1) d4 w6) := Lib.hid (by
                refine ⟨left.eraseIdx i, outE E tx, out ++ [tx], HEL.out.symm, rfl, by rw [List.length_append, ← HON.out]; rfl, ?_, ?_⟩
                · rw [HRR.out, HY.out, Option.map_map]
                  congr 1
                  funext P
                  simp
                · exact Mem.drop [] (A := BlockA W2.heap.size #[.int .i64 tx] 3) (r := [RowI (some ⟨gl, 0, none⟩) ld (left.eraseIdx i), RowE ea ed (outE E tx), RowI b4 d4 (out ++ [tx])]) hm6)
              have hfl : (E.filter fun x => !(x.a == tx)).length ≤ en := by rw [HEN.out]; exact List.length_filter_le _ _
              clear hm6 HD2
              generalize (E.filter fun x => !(x.a == tx)).length = en2 at *
              go_wp2_with fail
              go_roundg (ln - 1)
              case rel => exact ⟨ln - 1, _, ld, ea, en2, ed, b4, on + 1, d4, rfl, by omega, by omega, rfl, rfl, rfl, HFIN⟩
              case measure => omega
          · obtain rfl : i = ln := by omega
            have HX : Hid (IsOrd R [] false ∧ Made w (RowI none 0 []) W2) := Lib.hid (by
              refine ⟨?_, [], ⟨rfl, Row.nil _ _ _⟩, by simp, M5.out.bel⟩
              rw [HRR.out, ordR_none (by intro h; rw [h] at HLN; exact hz (by rw [HLN.out]; rfl)) fun j hj => HALL.out j hj (by rw [HLN.out]; exact hj)]
              exact ⟨rfl, rfl⟩)
            have HX2 := Lib.hid (HF2.out none 0 [] false W2 HX.out.1 HX.out.2)
            clear M5 HX HRR HF2 HALL
            go_wp2_with fail
            try rw [Exit.noGoto_ret]
            go_ret2
            exact HX2.out
  · have hq2 : (rightM l != 0) = true := by simpa using h0
    have HF : Hid (∀ w', Below w.heap.size w w' → ∃ b d O ok, Ending.returned (.tuple #[.slice none 0 0, .bool false]) = .returned (.tuple #[.slice b O.length d, .bool ok]) ∧ IsOrder l O ok ∧ Made w (RowI b d O) w') := Lib.hid fun w' hb => by
      exact ⟨none, 0, [], false, rfl, by unfold IsOrder; rw [if_neg h0]; exact ⟨rfl, rfl⟩, [], ⟨rfl, Row.nil _ _ _⟩, by simp, hb⟩
    clear h0 HAT HET
    generalize rightM l = q at *
    go_enter Try.func11, Try.ntmps11
    go_wp2_with fail
    go_step3
    go_wp2_with fail
    refine HRT.out.mono ?_
    rintro e w1 ⟨rfl, hb⟩
    have HB := Lib.hid (HF.out _ hb)
    clear hb
    go_wp2_with fail
    try rw [Exit.noGoto_ret]
    go_ret2
    exact HB.out
end Go.Proofs.Ytbgabdofnmijnaa
