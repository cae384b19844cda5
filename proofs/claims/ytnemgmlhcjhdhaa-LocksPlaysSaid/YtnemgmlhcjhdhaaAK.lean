/- More calls of the table beside other things; the fixed calls. -/
import Derived.Test.YtnemgmlhcjhdhaaAF
import Derived.Test.YtnemgmlhcjhdhaaAH
import Derived.Test.YtnemgmlhcjhdhaaAJ
namespace Go.Proofs.Ytnemgmlhcjhdhaa
open Go.RowKit
section
variable {w0 w : World} {D0 : List Nat} {p : Nat} {L : List Li} {r : List Asn} [Stables r]
theorem mem_tkeys (h : Mem w0 D0 w (TabA p L :: r)) (hb : Sm 400 L) :
    Calls Try.prog 23 #[.pointer (some ⟨p, 0, none⟩)] w fun e w' => ∃ a c, e = .returned (.slice a (L.map (·.key)).length c) ∧ Mem w0 D0 w' (RowS a c (L.map (·.key)) :: TabA p L :: r) := by
  obtain ⟨D, hA⟩ := Mem.get [] h
  exact (tab_keys p L w D hA hb).mono fun e w' ⟨a, c, he, hm⟩ => ⟨a, c, he, h.join hm⟩
theorem mem_towners (h : Mem w0 D0 w (TabA p L :: r)) (hb : Sm 400 L) :
    Calls Try.prog 24 #[.pointer (some ⟨p, 0, none⟩)] w fun e w' => ∃ a c, e = .returned (.slice a (riseI (ownsL L)).length c) ∧ Mem w0 D0 w' (RowI a c (riseI (ownsL L)) :: TabA p L :: r) := by
  obtain ⟨D, hA⟩ := Mem.get [] h
  exact (tab_owners p L w D hA hb).mono fun e w' ⟨a, c, he, hm⟩ => ⟨a, c, he, h.join hm⟩
end
abbrev ky : ByteArray := ⟨#[107]⟩
def F1 : List Li := [⟨ky, [⟨1, 1⟩], []⟩]
def F2 : List Li := [⟨ky, [⟨1, 1⟩], [⟨2, 2⟩]⟩]
def F3 : List Li := [⟨ky, [⟨1, 1⟩], [⟨2, 2⟩, ⟨3, 1⟩]⟩]
def F4 : List Li := [⟨ky, [⟨2, 2⟩], [⟨3, 1⟩]⟩]
theorem fa1 : askL [] 1 ky 1 = (0, F1) := by kernel_rfl
theorem fa2 : askL F1 2 ky 2 = (10, F2) := by kernel_rfl
theorem fa3 : askL F2 3 ky 1 = (10, F3) := by kernel_rfl
theorem fa4 : askL F3 1 ky 9 = (1, F3) := by kernel_rfl
theorem fl1 : leaveL F3 1 = ([2], F4) := by kernel_rfl
theorem fb1 : blkL F3 3 = [2] := by kernel_rfl
theorem fq1 : (lineL F3 ky).qs.length = 2 := by kernel_rfl
theorem fh1 : ofH (lineL F4 ky).hs 2 = 2 := by kernel_rfl
theorem fw1 : ofH (lineL F4 ky).qs 3 = 1 := by kernel_rfl
theorem ff1 : fromB [⟨ky, [], []⟩] = false := by kernel_rfl
theorem rise_one (x : Int) : riseI [x] = [x] := by
  have h : Lib.compactUpTo #[x] 1 = [x] := by rw [Lib.compactUpTo_succ]; simp [Lib.compactUpTo, Lib.keeps]
  simpa [riseI, sortI, Lib.compact] using h
theorem LOk.nil : LOk [] := ⟨List.Pairwise.nil, by simp⟩
theorem ok1 : LOk F1 := by have := LOk.nil.ask 1 ky 1; rwa [fa1] at this
theorem ok2 : LOk F2 := by have := ok1.ask 2 ky 2; rwa [fa2] at this
theorem ok3 : LOk F3 := by have := ok2.ask 3 ky 1; rwa [fa3] at this
theorem ok4 : LOk F4 := by have := ok3.leave 1; rwa [fl1] at this
theorem Sm.nil {N : Nat} : Sm N [] := ⟨Nat.zero_le _, by simp⟩
theorem sf1 : Sm 64 F1 := ⟨by decide, by simp [F1]⟩
theorem sf2 : Sm 64 F2 := ⟨by decide, by simp [F2]⟩
theorem sf3 : Sm 64 F3 := ⟨by decide, by simp [F3]⟩
theorem sf4 : Sm 64 F4 := ⟨by decide, by simp [F4]⟩
theorem lines_new (w : World) (k : ByteArray) : LinesC (w.alloc (.cells #[.string k, .slice none 0 0, .slice none 0 0] 34)) (some ⟨w.heap.size, 0, none⟩) 1 [⟨k, [], []⟩] := ⟨rfl, fun j hj => by
  have hj' : j = 0 := by simpa using hj
  subst hj'
  have hB := heap_new w (.cells #[.string k, .slice none 0 0, .slice none 0 0] 34)
  exact ⟨w.heap.size, 0, ⟨k, ⟨none, 0, 0⟩, ⟨none, 0, 0⟩⟩, rfl, ⟨(cell_of_heap hB rfl).1, (cell_of_heap hB rfl).1, (cell_of_heap hB rfl).1⟩, rfl, ⟨rfl, fun i hi => by cases hi⟩, ⟨rfl, fun i hi => by cases hi⟩, Nat.zero_le _, Nat.zero_le _, Nat.le_refl _⟩⟩
set_option maxRecDepth 100000 in
set_option maxHeartbeats 4000000 in
theorem fixed_any (w : World) : Calls Try.prog 9 #[] w fun e w' => e = .returned (.bool true) ∧ Below w.heap.size w w' := by
  have HN := Lib.hid tab_new
  go_enter Try.func9, Try.ntmps9
  go_wp2_with fail
  refine (HN.out w).mono ?_
  rintro e w1 ⟨p, rfl, hA, hf, hb⟩
  have M1 := Lib.hid (show Mem w [] w1 [TabA p []] from (Mem.nil w).new hb hA hf)
  clear hA hf hb HN
  go_wp2_with fail
  refine (mem_task M1.out LOk.nil Sm.nil fa1).mono ?_
  rintro e w2 ⟨rfl, hm⟩
  have M2 := Lib.hid hm
  clear hm M1
  go_wp2_with fail
  refine (mem_task M2.out ok1 (sf1.mono (by decide)) fa2).mono ?_
  rintro e w3 ⟨rfl, hm⟩
  have M3 := Lib.hid hm
  clear hm M2
  go_wp2_with fail
  refine (mem_task M3.out ok2 (sf2.mono (by decide)) fa3).mono ?_
  rintro e w4 ⟨rfl, hm⟩
  have M4 := Lib.hid hm
  clear hm M3
  go_wp2_with fail
  refine (mem_task M4.out ok3 (sf3.mono (by decide)) fa4).mono ?_
  rintro e w5 ⟨rfl, hm⟩
  have M5 := Lib.hid hm
  clear hm M4
  have HBL := Lib.hid (mem_tblockers M5.out sf3 3)
  rw [fb1, rise_one] at HBL
  go_wp2_with fail
  refine HBL.out.mono ?_
  rintro e w6 ⟨a1, c1, rfl, hm⟩
  have M6 := Lib.hid (Mem.swap [] (r := []) hm)
  clear hm M5 HBL
  go_wp2_with fail
  refine (mem_tqueue (r := [RowI a1 c1 [2]]) M6.out ok3 (sf3.mono (by decide)) ky).mono ?_
  rintro e w7 ⟨⟨qa, qn, qc⟩, rfl, hm⟩
  have hqn := Mem.sl_len [] (r := [TabA p F3, RowI a1 c1 [2]]) hm
  rw [fq1] at hqn
  have hqn : qn = 2 := hqn
  subst hqn
  have M7 := Lib.hid (Mem.swap [] (r := [RowI a1 c1 [2]]) hm)
  clear hm M6
  have HLV := Lib.hid (mem_tleave M7.out ok3 (sf3.mono (by decide)) 1)
  rw [fl1, rise_one] at HLV
  simp only [slv]
  go_wp2_with fail
  refine HLV.out.mono ?_
  rintro e w8 ⟨a2, c2, rfl, hm⟩
  have M8 := Lib.hid (Mem.swap [] (r := [RowH ⟨qa, 2, qc⟩ (lineL F3 ky).qs, RowI a1 c1 [2]]) hm)
  clear hm M7 HLV
  have HFR := Lib.hid fun W => from_any _ 1 1 [⟨ky, [], []⟩] _ (lines_new W ky) ⟨by decide, by simp⟩
  have M9 := Lib.hid (M8.out.below (bel_new w8 (.cells #[.string ky, .slice none 0 0, .slice none 0 0] 34)))
  go_wp2_with fail
  refine (HFR.out w8).mono ?_
  rintro e w9 hp
  rcases hp with ⟨h, -⟩ | ⟨-, rfl, hb⟩
  · rw [ff1] at h; cases h
  have M10 := Lib.hid (M9.out.below hb)
  clear hb M9 M8 HFR
  obtain ⟨g1, rfl, h1⟩ := (Mem.rowAt [TabA p F4, RowI a2 c2 [2], RowH ⟨qa, 2, qc⟩ (lineL F3 ky).qs] (r := []) M10.out).cellAt 0 (by simp [intsV])
  obtain ⟨g2, rfl, h2⟩ := (Mem.rowAt [TabA p F4] (r := [RowH ⟨qa, 2, qc⟩ (lineL F3 ky).qs, RowI (some ⟨g1, 0, none⟩) c1 [2]]) M10.out).cellAt 0 (by simp [intsV])
  simp only [intsV, List.map_cons, List.map_nil, List.getElem_cons_zero] at h1 h2
  have HH := Lib.hid (mem_tholds M10.out ok4 (sf4.mono (by decide)) 2 ky)
  rw [fh1] at HH
  go_wp2_with fail
  refine HH.out.mono ?_
  rintro e w10 ⟨rfl, hm⟩
  have M11 := Lib.hid hm
  clear hm HH M10 h1 h2
  have HW := Lib.hid (mem_twaits M11.out ok4 (sf4.mono (by decide)) 3 ky)
  rw [fw1] at HW
  go_wp2_with fail
  refine HW.out.mono ?_
  rintro e w11 ⟨rfl, hm⟩
  have HB := Lib.hid hm.bel
  clear hm HW M11
  go_wp2_with fail
  refine (none_ask _ _ _ _).mono ?_
  rintro e w12 ⟨rfl, rfl⟩
  go_wp2_with fail
  refine (none_lines _).mono ?_
  rintro e w13 ⟨rfl, rfl⟩
  go_wp2_with fail
  go_ret
  exact ⟨rfl, HB.out⟩
end Go.Proofs.Ytnemgmlhcjhdhaa
