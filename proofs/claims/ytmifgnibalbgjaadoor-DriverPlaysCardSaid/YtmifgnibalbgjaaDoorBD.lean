/- The shards that the document's driver touched. -/
import Derived.Test.YtmifgnibalbgjaaDoorBC
namespace Go.Proofs.YtmifgnibalbgjaaDoor
open Go.RowKit
def pS (ss : List ByteArray) (s : Nat) (o : Opp) : Bool := decide (o.kind ≠ 6) && decide (ofL ss o.key = s)
def inK (ss : List ByteArray) (l : List Opp) (i : Int) (s k : Nat) : Bool := (l.take (min k (i + 1).toNat)).any (pS ss s)
theorem inK_succ {ss : List ByteArray} {l : List Opp} {i : Int} {s k : Nat} (h : k < l.length) : inK ss l i s (k + 1) = (inK ss l i s k || (decide ((k : Int) ≤ i) && pS ss s l[k])) := by
  unfold inK
  by_cases hc : (k : Int) ≤ i
  · rw [show min (k + 1) (i + 1).toNat = k + 1 by omega, show min k (i + 1).toNat = k by omega, List.take_succ_eq_append_getElem h, List.any_append, decide_eq_true hc]
    simp
  · rw [show min (k + 1) (i + 1).toNat = min k (i + 1).toNat by omega, decide_eq_false hc]
    simp
theorem inK_all {ss : List ByteArray} {l : List Opp} {i : Int} {s : Nat} : inK ss l i s l.length = inB ss l i s := by
  unfold inK inB
  rw [show l.take (min l.length (i + 1).toNat) = l.take (i + 1).toNat by
    rcases Nat.le_total l.length (i + 1).toNat with h | h
    · rw [Nat.min_eq_left h, List.take_length, List.take_of_length_le h]
    · rw [Nat.min_eq_right h]]
  rfl
theorem inB_pos {ss : List ByteArray} {l : List Opp} {i : Int} {s : Nat} (h : inB ss l i s = true) : 0 ≤ i := by
  unfold inB at h
  rcases Int.lt_or_le i 0 with hc | hc
  · rw [show (i + 1).toNat = 0 by omega] at h
    simp at h
  · exact hc
def touchK (ss : List ByteArray) (l : List Opp) (i : Int) (s : Nat) : List Int := ((List.range s).filter (inB ss l i)).map fun (s : Nat) => (s : Int)
theorem touchK_succ (ss : List ByteArray) (l : List Opp) (i : Int) (s : Nat) : touchK ss l i (s + 1) = touchK ss l i s ++ if inB ss l i s then [(s : Int)] else [] := by
  unfold touchK
  rw [List.range_succ, List.filter_append, List.map_append, List.filter_cons]
  cases inB ss l i s <;> rfl
theorem touchK_len (ss : List ByteArray) (l : List Opp) (i : Int) (s : Nat) : (touchK ss l i s).length ≤ s := by
  unfold touchK
  rw [List.length_map]
  have := List.length_filter_le (inB ss l i) (List.range s)
  rw [List.length_range] at this
  exact this
theorem infoI3 : (Tryd.prog.info? 3).map (fun i => (i.zero, i.size, i.bytes)) = some (some (.int .i64 0), 1, 8) := by kernel_rfl
theorem intsV_append (a b : List Int) : intsV (a ++ b) = intsV a ++ intsV b := by simp [intsV]
section
variable {w0 w : World} {g : Nat} {r : Rd} {q : List Asn} [Stables q] {sa pa : Option Addr} {sn sc pn pc : Nat} {ss : List ByteArray} {l : List Opp}
set_option maxRecDepth 100000 in
set_option maxHeartbeats 16000000 in
theorem rtouched_any (M : Mem w0 [] w (RefA g (.slice sa sn sc) (.slice pa pn pc) r :: q)) (hs : StrsAt w0 sa sn ss) (hl : OpsAt w0 pa pn l) (h7 : sn ≤ 7) (hn : pn ≤ 1000) :
    Calls Tryd.prog 34 #[.pointer (some ⟨g, 0, none⟩)] w fun e w' => ∃ v, e = .returned v ∧ NewRow 3 1 w (intsV (touchR ss l r.i)) (touchR ss l r.i).length v w' := by
  obtain ⟨ra, rc, hg⟩ := Mem.refAt M
  have hlg := lt_of_heap hg
  obtain ⟨c3, -⟩ := rdC_cell hg 3 (.slice sa sn sc) rfl
  obtain ⟨c4, -⟩ := rdC_cell hg 4 (.slice pa pn pc) rfl
  obtain ⟨c7, -⟩ := rdC_cell hg 7 (.int .i64 r.i) rfl
  have hsn := hs.1
  have hln := hl.1
  have HC : Hid (∀ W, Below w.heap.size w W → W.cell? ⟨g, 3, none⟩ = some (.slice sa sn sc) ∧ W.cell? ⟨g, 4, none⟩ = some (.slice pa pn pc) ∧ W.cell? ⟨g, 7, none⟩ = some (.int .i64 r.i) ∧ StrsAt W sa sn ss ∧ OpsAt W pa pn l) := Lib.hid fun W hb =>
    ⟨((bcell hb).1 g 3 hlg).trans c3, ((bcell hb).1 g 4 hlg).trans c4, ((bcell hb).1 g 7 hlg).trans c7, hs.keep (M.below hb).bel, hl.below (M.below hb).bel⟩
  have HR : Hid (touchR ss l r.i = touchK ss l r.i (sn + 1)) := Lib.hid (by rw [hsn]; rfl)
  have HLN := Lib.hid hln
  rw [HR.out]
  clear HR c3 c4 c7 hg M hs hl hsn hln hlg
  generalize r.i = ri at *
  go_enter Tryd.func34, Tryd.ntmps34
  go_wp2_with fail
  go_loopw [3, 4] (fun v sv wr => ∃ s m : Nat, ∃ b d, s ≤ sn + 1 ∧ m ≤ s ∧ sv = .int .i64 (s : Nat) ∧ v = .slice b m d ∧ Hid (m = (touchK ss l ri s).length ∧ NewRow 3 1 w (intsV (touchK ss l ri s)) m (.slice b m d) wr)) (fun _ sv _ => sn + 1 - (intOf sv).toNat)
  case atStart => exact ⟨0, 0, none, 0, Nat.zero_le _, Nat.le_refl _, rfl, rfl, Lib.hid ⟨rfl, NewRow.nil _ _ w⟩⟩
  case round =>
    obtain ⟨W1, rfl⟩ : ∃ W1, W1 = wr := ⟨_, rfl⟩
    obtain ⟨s, m, b, d, hsl, hms, rfl, rfl, HS⟩ := hrel
    have hbW : Below w.heap.size w W1 := by obtain ⟨_, _, _, _, hb, _⟩ := HS.out.2; exact hb
    obtain ⟨k3, k4, -, -, -⟩ := HC.out W1 hbW
    clear hbW
    by_cases hlt : s ≤ sn
    · have hlt1 : decide ((s : Int) ≤ (sn : Nat)) = true := by simp; omega
      have HI0 : Hid (false = inK ss l ri s 0) := Lib.hid (by unfold inK; simp)
      go_wp2_with fail
      go_loopw [5, 22] (fun iv jv wr => ∃ (k : Nat) (x : Bool), k ≤ pn ∧ jv = .int .i64 (k : Nat) ∧ iv = .bool x ∧ Hid (x = inK ss l ri s k ∧ NewRow 3 1 w (intsV (touchK ss l ri s)) m (.slice b m d) wr)) (fun _ jv _ => pn - (intOf jv).toNat)
      case atStart => exact ⟨0, false, Nat.zero_le _, rfl, rfl, Lib.hid ⟨HI0.out, HS.out.2⟩⟩
      case round =>
        obtain ⟨W3, rfl⟩ : ∃ W3, W3 = wr := ⟨_, rfl⟩
        obtain ⟨k, x, hk, rfl, rfl, HT⟩ := hrel
        clear HI0 k3 k4
        by_cases hkl : k < pn
        · have hkl' : k < l.length := by have := HLN.out; omega
          have hbW : Below w.heap.size w W3 := by obtain ⟨_, _, _, _, hb, _⟩ := HT.out.2; exact hb
          obtain ⟨-, -, -, -, hops⟩ := HC.out W3 hbW
          obtain ⟨pb, off, rfl, ⟨o0, o1, o2, o3⟩, -⟩ := hops.at k hkl'
          have HU := Lib.hid (inK_succ (ss := ss) (i := ri) (s := s) hkl')
          clear hops
          generalize l[k] = o at *
          obtain ⟨ok, oy, ov, on⟩ := o
          simp only at o0 o1 o2 o3
          obtain ⟨W4, hW4⟩ : ∃ W4, W4 = W3.alloc (.cells #[.int .i64 ok, .string oy, .string ov, .int .i64 on] 60) := ⟨_, rfl⟩
          have hb4 : Below W3.heap.size W3 W4 := by rw [hW4]; exact bel_new _ _
          have hN4 := Lib.hid (HT.out.2.below hb4)
          have hbw4 : Below w.heap.size w W4 := hbW.trans (hb4.mono hbW.size)
          obtain ⟨z3, z4, z7, zs, -⟩ := HC.out W4 hbw4
          have hh4 : W4.heap[W3.heap.size]? = some (.cells #[.int .i64 ok, .string oy, .string ov, .int .i64 on] 60 (0, 0)) := by rw [hW4]; exact heap_new _ _
          have y0 := (cell_of_heap (i := 0) (v := .int .i64 ok) hh4 rfl).1
          have y1 := (cell_of_heap (i := 1) (v := .string oy) hh4 rfl).1
          have HOF : Hid (∀ n, Calls Tryd.prog 35 #[.slice sa sn sc, .string oy] (W4.drewN n) fun e w' => e = .returned (.int .i64 (ofL ss oy)) ∧ w' = (W4.drewN n).drewN 0) := Lib.hid fun n => (refOf_any sa sn sc ss oy (W4.drewN n) (by unfold maxLen; omega) (zs.keep (bel_drewN _ n))).mono fun e w' hh => ⟨hh.1, hh.2 ▸ rfl⟩
          have HX := Lib.hid HT.out.1
          clear hb4 hbw4 hh4 zs hbW HT
          have HNX : Hid (∀ y n, y = (x || (decide ((k : Int) ≤ ri) && pS ss s ⟨ok, oy, ov, on⟩)) → (y = inK ss l ri s (k + 1) ∧ NewRow 3 1 w (intsV (touchK ss l ri s)) m (.slice b m d) (W4.drewN n))) := Lib.hid fun y n h => ⟨by rw [HU.out, ← HX.out]; exact h, hN4.out.below (bel_drewN _ n)⟩
          clear HU HX hN4
          generalize hgb : W3.heap.size = gb at *
          generalize hol : ofL ss oy = ol at *
          have HOL : Hid (∀ z, pS ss s ⟨z, oy, ov, on⟩ = (decide (z ≠ 6) && decide (ol = s))) := Lib.hid fun z => by unfold pS; rw [hol]
          clear hol
          cases x with
          | true =>
            have HF := Lib.hid fun n => HNX.out true n rfl
            clear HNX HOL HOF z3 z7 y0 y1
            go_wp2_with fail
            rw [← hW4]; clear hW4
            go_quiet (fail)
            go_wp2_with fail
            go_roundw
            case rel => exact ⟨k + 1, true, by omega, by go_num, rfl, Lib.hid (HF.out _)⟩
            case measure => simp [intOf]; omega
          | false =>
            by_cases hki : (k : Int) ≤ ri
            · have b1 : decide ((k : Int) ≤ ri) = true := decide_eq_true hki
              by_cases h6 : ok = 6
              · subst h6
                have HF := Lib.hid fun n => HNX.out false n (by rw [HOL.out]; simp)
                clear HNX HOL HOF hki
                go_wp2_with fail
                rw [← hW4]; clear hW4
                go_quiet (fail)
                go_wp2_with fail
                go_roundw
                case rel => exact ⟨k + 1, false, by omega, by go_num, rfl, Lib.hid (HF.out _)⟩
                case measure => simp [intOf]; omega
              · have b6 : (ok != 6) = true := by simpa using h6
                have HF := Lib.hid fun n => HNX.out (decide (ol = s)) n (by rw [HOL.out]; simp [hki, h6])
                have b7 : ((ol : Int) == (s : Nat)) = decide (ol = s) := by
                  by_cases h : ol = s
                  · subst h; simp
                  · rw [decide_eq_false h, beq_eq_false_iff_ne]; omega
                clear HNX HOL hki h6
                generalize decide (ol = s) = y at *
                go_wp2_with fail
                rw [← hW4]; clear hW4
                go_quiet ((go_at_call 35; exact Calls.quiet_of_same (HOF.out _)))
                go_wp2_with fail
                go_roundw
                case rel => exact ⟨k + 1, y, by omega, by go_num, by first | rfl | (rw [b7]), Lib.hid (HF.out _)⟩
                case measure => simp [intOf]; omega
            · have b1 : decide ((k : Int) ≤ ri) = false := decide_eq_false hki
              have HF := Lib.hid fun n => HNX.out false n (by simp [hki])
              clear HNX HOL HOF hki
              go_wp2_with fail
              rw [← hW4]; clear hW4
              go_quiet (fail)
              go_wp2_with fail
              go_roundw
              case rel => exact ⟨k + 1, false, by omega, by go_num, rfl, Lib.hid (HF.out _)⟩
              case measure => simp [intOf]; omega
        · obtain rfl : k = pn := by omega
          have hxe : x = inB ss l ri s := by rw [HT.out.1, HLN.out]; exact inK_all
          have HN3 := Lib.hid HT.out.2
          have hbW : Below w.heap.size w W3 := by obtain ⟨_, _, _, _, hb, _⟩ := HT.out.2; exact hb
          obtain ⟨-, -, z7, -, -⟩ := HC.out W3 hbW
          have HU := Lib.hid (touchK_succ ss l ri s)
          have HM := Lib.hid HS.out.1
          clear hbW HT HS
          cases x with
          | true =>
            have hr0 : decide (0 ≤ ri) = true := decide_eq_true (inB_pos hxe.symm)
            rw [← hxe, if_pos rfl] at HU
            obtain ⟨b9, d9, w9, hrun, hnr⟩ := HN3.out.app (P := Tryd.prog) (t := 67) Tryd.underlying67 infoI3 (by rfl) (by decide) [.int .i64 (s : Nat)] rfl (by simp [Value.oneCell']) (by omega) (by decide) 67
            have HRUN := Lib.hid hrun
            have HX : Hid (m + 1 = (touchK ss l ri (s + 1)).length ∧ NewRow 3 1 w (intsV (touchK ss l ri (s + 1))) (m + 1) (.slice b9 (m + 1) d9) w9) := Lib.hid (by
              rw [HU.out, intsV_append]
              exact ⟨by rw [HM.out]; simp, hnr⟩)
            clear hrun hnr HN3 HU HM hxe
            go_wp2_with ((at_builtin; refine wpList_appendR _ rfl (.tmp 61) (.tmp 63) 67 67 rfl (.slice b m d) (.slice (some ⟨W3.heap.size, 0, none⟩) 1 1) rfl rfl HRUN.out ?_))
            go_roundw
            case rel => exact ⟨s + 1, m + 1, b9, d9, by omega, by omega, by go_num, rfl, HX⟩
            case measure => simp [intOf]; omega
          | false =>
            rw [← hxe, if_neg (by simp), List.append_nil] at HU
            have HX : Hid (m = (touchK ss l ri (s + 1)).length ∧ NewRow 3 1 w (intsV (touchK ss l ri (s + 1))) m (.slice b m d) W3) := Lib.hid (by
              rw [HU.out]
              exact ⟨HM.out, HN3.out⟩)
            clear HN3 HU HM hxe
            go_wp2_with fail
            go_roundw
            case rel => exact ⟨s + 1, m, b, d, by omega, by omega, by go_num, rfl, HX⟩
            case measure => simp [intOf]; omega
    · obtain rfl : s = sn + 1 := by omega
      have hlt1 : decide (((sn + 1 : Nat) : Int) ≤ (sn : Nat)) = false := decide_eq_false (by omega)
      have hlt2 : decide ((sn : Int) + 1 ≤ (sn : Nat)) = false := decide_eq_false (by omega)
      have HF : Hid (∃ v, Ending.returned (.slice b m d) = .returned v ∧ NewRow 3 1 w (intsV (touchK ss l ri (sn + 1))) (touchK ss l ri (sn + 1)).length v W1) := Lib.hid (by
        have e := HS.out.1
        have h := HS.out.2
        rw [e] at h ⊢
        exact ⟨_, rfl, h⟩)
      clear HS
      go_wp2_with fail
      go_ret
      exact HF.out
end
end Go.Proofs.YtmifgnibalbgjaaDoor
