/- The document's way to keys in order, each once: round by round the least one that is greater. -/
import Derived.Test.YteocoijkfkoddaaP
namespace Go.Proofs.Yteocoijkfkoddaa
open Go.RowKit

def toB (l : List UInt8) : ByteArray := ⟨l.toArray⟩
theorem toB_toList (s : ByteArray) : toB s.toList = s := by
  apply ByteArray.ext; rw [ByteArray.toList_eq]; simp [toB]
theorem toList_toB (l : List UInt8) : (toB l).toList = l := by rw [ByteArray.toList_eq]; simp [toB]

/-- Is a text above all of a row? -/
def above (O : List ByteArray) (x : ByteArray) : Bool := O.isEmpty || Op.bytesLess (O.getD (O.length - 1) ByteArray.empty).toList x.toList
/-- What the rounds so far have come to. -/
structure Got (ss O : List ByteArray) : Prop where
  asc : Asc (O.map (·.toList))
  sub : ∀ x ∈ O, x ∈ ss
  all : ∀ x ∈ ss, x ∈ O ∨ above O x = true
  few : O.length + ss.countP (above O) ≤ ss.length
/-- What has been seen in a round. -/
structure Seen (ss O : List ByteArray) (j : Nat) (b : Bool) (m : ByteArray) : Prop where
  no : b = false → ∀ t, t < j → above O (ss.getD t ByteArray.empty) = false
  yes : b = true → m ∈ ss ∧ above O m = true ∧ ∀ t, t < j → above O (ss.getD t ByteArray.empty) = true → Op.bytesLess (ss.getD t ByteArray.empty).toList m.toList = false

theorem Got.start (ss : List ByteArray) : Got ss [] :=
  ⟨by simp [Asc], by simp, fun x _ => .inr rfl, by simpa using List.countP_le_length⟩
theorem above_last (O : List ByteArray) (m x : ByteArray) : above (O ++ [m]) x = Op.bytesLess m.toList x.toList := by
  unfold above
  have h1 : (O ++ [m]).isEmpty = false := by cases O <;> rfl
  rw [h1, Bool.false_or]
  simp [List.getD]
theorem Got.lt {ss O : List ByteArray} (h : Got ss O) {m : ByteArray} (hm : above O m = true) : ∀ x ∈ O, x.toList < m.toList := by
  intro x hx
  unfold above at hm
  have hne : O.isEmpty = false := by cases O; simp at hx; rfl
  rw [hne, Bool.false_or, less_iff, decide_eq_true_eq] at hm
  obtain ⟨j, hj, rfl⟩ := List.getElem_of_mem hx
  by_cases e : j = O.length - 1
  · subst e; simpa [List.getD, hj] using hm
  · have := List.pairwise_iff_getElem.1 h.asc j (O.length - 1) (by simpa using hj) (by simp; omega) (by omega)
    simp only [List.getElem_map] at this
    refine List.lt_trans this ?_
    simpa [List.getD, show O.length - 1 < O.length by omega] using hm
theorem Got.more {ss O : List ByteArray} (h : Got ss O) {m : ByteArray} (hs : Seen ss O ss.length true m) : Got ss (O ++ [m]) ∧ ss.countP (above (O ++ [m])) < ss.countP (above O) := by
  obtain ⟨hm, ha, hl⟩ := hs.yes rfl
  have hlt := h.lt ha
  have hc : ss.countP (above (O ++ [m])) < ss.countP (above O) := by
    refine countP_lt _ _ ss (fun x hx hx2 => ?_) ⟨m, hm, ha, ?_⟩
    · rw [above_last, less_iff, decide_eq_true_eq] at hx2
      unfold above at ha ⊢
      rcases Bool.or_eq_true_iff.1 ha with h1 | h1
      · rw [h1]; rfl
      · rw [Bool.or_eq_true_iff]; right
        rw [less_iff, decide_eq_true_eq] at h1 ⊢
        exact List.lt_trans h1 hx2
    · rw [above_last, less_iff, decide_eq_false_iff_not]; exact Std.lt_irrefl
  refine ⟨⟨?_, fun x hx => ?_, fun x hx => ?_, ?_⟩, hc⟩
  · rw [List.map_append]
    refine List.pairwise_append.2 ⟨h.asc, by simp, fun x hx y hy => ?_⟩
    simp only [List.map_cons, List.map_nil, List.mem_singleton] at hy
    subst hy
    obtain ⟨z, hz, rfl⟩ := List.mem_map.1 hx
    exact hlt z hz
  · rcases List.mem_append.1 hx with h1 | h1
    · exact h.sub x h1
    · rw [List.mem_singleton.1 h1]; exact hm
  · rcases h.all x hx with h1 | h1
    · exact .inl (List.mem_append.2 (.inl h1))
    · by_cases e : x = m
      · subst e; exact .inl (by simp)
      · right
        obtain ⟨t, ht, rfl⟩ := List.getElem_of_mem hx
        have := hl t ht (by simpa [List.getD, ht] using h1)
        rw [above_last, less_iff, decide_eq_true_eq]
        rw [less_iff, decide_eq_false_iff_not] at this
        refine lt_of_not_lt (by simpa [List.getD, ht] using this) fun e2 => e (toList_inj e2)
  · have := h.few
    rw [List.length_append, List.length_singleton]; omega
theorem Got.done {ss O : List ByteArray} (h : Got ss O) {m : ByteArray} (hs : Seen ss O ss.length false m) : O.map (·.toList) = srt (ss.map (·.toList)) := by
  obtain ⟨s1, s2⟩ := srt_spec (ss.map (·.toList))
  refine asc_unique _ _ h.asc s1 fun x => ?_
  rw [s2]
  constructor
  · intro hx
    obtain ⟨z, hz, rfl⟩ := List.mem_map.1 hx
    exact List.mem_map.2 ⟨z, h.sub z hz, rfl⟩
  · intro hx
    obtain ⟨z, hz, rfl⟩ := List.mem_map.1 hx
    rcases h.all z hz with h1 | h1
    · exact List.mem_map.2 ⟨z, h1, rfl⟩
    · obtain ⟨t, ht, rfl⟩ := List.getElem_of_mem hz
      have := hs.no rfl t ht
      simp [List.getD, ht] at this
      rw [this] at h1
      exact absurd h1 (by decide)
theorem Seen.start (ss O : List ByteArray) (m : ByteArray) : Seen ss O 0 false m := ⟨fun _ t ht => absurd ht (by omega), fun h => absurd h (by decide)⟩
/-- The test of one text: is it taken? -/
def takes (O : List ByteArray) (b : Bool) (m x : ByteArray) : Bool := above O x && (!b || Op.bytesLess x.toList m.toList)
theorem Seen.take {ss O : List ByteArray} {j : Nat} {b : Bool} {m : ByteArray} (h : Seen ss O j b m) (hj : j < ss.length) (ht : takes O b m (ss.getD j ByteArray.empty) = true) : Seen ss O (j + 1) true (ss.getD j ByteArray.empty) := by
  unfold takes at ht
  obtain ⟨ha, hb⟩ := Bool.and_eq_true_iff.1 ht
  refine ⟨fun h => absurd h (by decide), fun _ => ⟨by simp [List.getD, hj], ha, fun t htj hta => ?_⟩⟩
  rw [less_iff, decide_eq_false_iff_not]
  by_cases e : t = j
  · subst e; exact Std.lt_irrefl
  · cases b with
    | false => rw [h.no rfl t (by omega)] at hta; exact absurd hta (by decide)
    | true =>
      have h2 := (h.yes rfl).2.2 t (by omega) hta
      rw [less_iff, decide_eq_false_iff_not] at h2
      have h3 : (ss.getD j ByteArray.empty).toList < m.toList := by simpa [less_iff] using hb
      exact fun h4 => h2 (List.lt_trans h4 h3)
theorem Seen.skip {ss O : List ByteArray} {j : Nat} {b : Bool} {m : ByteArray} (h : Seen ss O j b m) (ht : takes O b m (ss.getD j ByteArray.empty) = false) : Seen ss O (j + 1) b m := by
  unfold takes at ht
  refine ⟨fun hb t htj => ?_, fun hb => ⟨(h.yes hb).1, (h.yes hb).2.1, fun t htj hta => ?_⟩⟩
  · by_cases e : t = j
    · subst e; subst hb; simpa using ht
    · exact h.no hb t (by omega)
  · by_cases e : t = j
    · subst e; subst hb; rw [hta] at ht; simpa using ht
    · exact (h.yes hb).2.2 t (by omega) hta

theorem gt_above {O : List ByteArray} (h : O ≠ []) (x : ByteArray) : (!Op.bytesLess x.toList (O.getD (O.length - 1) ByteArray.empty).toList && !(x.toList == (O.getD (O.length - 1) ByteArray.empty).toList)) = above O x := by
  unfold above
  rw [show O.isEmpty = false by cases O; exact absurd rfl h; rfl, Bool.false_or]
  have := leStr_iff x (O.getD (O.length - 1) ByteArray.empty)
  unfold leStr at this
  rw [← Bool.not_or, this, Bool.not_not]

theorem app_str (a : Option Addr) (n c : Nat) (xs : List Value) (s : ByteArray) (w : World) (hr : Row w 9 1 a n c xs) (hb : (n + 1) * 16 ≤ 140737488355328) :
    ∃ a' c' w', (Builtin.append_ #[22, 22] 22 #[.slice a n c, .slice (some ⟨w.heap.size, 0, none⟩) 1 1]).run Try.prog (w.alloc (.cells #[.string s] 9)) = .ok (.slice a' (n + 1) c') w' ∧ Row w' 9 1 a' (n + 1) c' (xs ++ [.string s]) ∧ Touch (blkOf a) w w' ∧ Fresh w a a' := by
  obtain ⟨i0, hi, hz0, hz1, hz2⟩ := info_parts insS_info
  obtain ⟨a', c', w', h1, h2, h3, h4⟩ := run_append_row (P := Try.prog) (w.alloc (.cells #[.string s] 9)) 22 22 9 i0 (.string ⟨#[]⟩) 1 16 Try.underlying22 hi hz0 hz1 hz2 rfl (by decide) a n c xs
    (hr.touch (Touch.alloc [] _ _) (by simp)) ⟨w.heap.size, 0, none⟩ 1 1 [.string s] rfl (cell_one_new _ _ _) (by simp [Value.oneCell']) (by unfold maxLen; omega) hb
  exact ⟨a', c', w', h1, h2, ((Touch.alloc _ _ _).andThen h3), fun x hx => (h4 x hx).imp id (fun h => by have := (Touch.alloc [] w (.cells #[.string s] 9)).size; omega)⟩

set_option maxRecDepth 100000 in
set_option maxHeartbeats 1000000 in
theorem sorted_any (a : Option Addr) (n c : Nat) (ss : List ByteArray) (w : World) (hbig : n * 16 ≤ 140737488355328) (h : StrsAt w a n ss) :
    Calls Try.prog 32 #[.slice a n c] w fun e w' => ∃ a' c' O, e = .returned (.slice a' O.length c') ∧ StrsAt w' a' O.length O ∧ O.map (·.toList) = srt (ss.map (·.toList)) ∧ O.length ≤ n ∧ Keep w w' := by
  obtain ⟨hl, hc⟩ := h
  have hl' := hl
  subst hl
  have HC := Lib.hid hc
  have hnb : ss.length ≤ 9223372036854775807 := by omega
  clear hc
  go_enter Try.func32, Try.ntmps32
  go_wp2
  go_loopg [3] (ss.length + 1) (fun g s3 wr => ∃ a3 c3 O, s3 = .slice a3 (List.length O) c3 ∧ Hid (Row wr 9 1 a3 O.length c3 (O.map Value.string)) ∧ Hid (∀ x, a3 = some x → w.heap.size ≤ x.block) ∧ Hid (Keep w wr) ∧ Hid (Got ss O) ∧ Hid (ss.countP (above O) < g) ∧ O.length ≤ ss.length)
  case atStart => exact ⟨none, 0, [], rfl, Lib.hid (Row.nil _ _ _), Lib.hid (by simp), Lib.hid (Keep.refl _), Lib.hid (Got.start _), Lib.hid (Nat.lt_succ_of_le List.countP_le_length), by simp⟩
  case round =>
    obtain ⟨a3, c3, O, rfl, HR, HB, HK, HG, HM, hOl⟩ := hrel
    by_cases hO : O = []
    · subst hO
      go_wp2
      go_loop [4, 5, 7, 10] (fun s4 s5 _ s10 => ∃ (k : Nat) (b : Bool) (m : ByteArray), k ≤ ss.length ∧ s10 = .int .i64 k ∧ s5 = .bool b ∧ s4 = .string m ∧ Hid (Seen ss [] k b m)) (fun _ _ _ i => ss.length - (intOf i).toNat)
      case atStart => exact ⟨0, false, _, Nat.zero_le _, rfl, rfl, rfl, Lib.hid (Seen.start _ _ _)⟩
      case round =>
        obtain ⟨k, b, m, hk, rfl, rfl, rfl, HS⟩ := hrel
        by_cases hlt : k < ss.length
        · obtain ⟨bb, off, rfl, hcell0⟩ := HC.out k hlt
          have hcell := HK.out.cell hcell0
          clear hcell0
          have htk := Lib.hid (fun h => Seen.take (j := k) HS.out hlt h)
          have hsk := Lib.hid (fun h => Seen.skip (j := k) HS.out h)
          have ht : Hid (∀ x, takes [] b m x = (!b || Op.bytesLess x.toList m.toList)) := Lib.hid fun x => by simp [takes, above]
          generalize ss.getD k ByteArray.empty = x at *
          have ht2 := ht.out x
          cases hb : Op.bytesLess x.toList m.toList <;> rw [hb] at ht2 <;> cases b
          all_goals
            have HT := Lib.hid ht2
            clear ht2
            go_wp2
            go_round
            case rel => exact ⟨k + 1, _, _, by omega, by go_num, rfl, rfl, by first | exact Lib.hid (htk.out HT.out) | exact Lib.hid (hsk.out HT.out)⟩
            case measure => simp [intOf]; omega
        · obtain rfl : k = ss.length := by omega
          cases b with
          | false =>
            have HF : Hid (([] : List ByteArray).map (·.toList) = srt (ss.map (·.toList))) := Lib.hid (HG.out.done HS.out)
            have HSt : Hid (StrsAt wr a3 ([] : List ByteArray).length ([] : List ByteArray)) := Lib.hid (Row.strs HR.out)
            clear HS
            go_wp2
            go_ret
            exact ⟨_, _, ([] : List ByteArray), rfl, HSt.out, HF.out, hOl, HK.out⟩
          | true =>
            obtain ⟨hG', hC'⟩ := HG.out.more HS.out
            have HG' := Lib.hid hG'
            have HC' : Hid (ss.countP (above (([] : List ByteArray) ++ [m])) < gk - 1) := Lib.hid (by have := HM.out; omega)
            have hgk : 0 < gk := by have := HM.out; omega
            have hlen : (([] : List ByteArray) ++ [m]).length ≤ ss.length := by have := hG'.few; omega
            obtain ⟨a4, c4, w4, hrun, hrow, ht4, hf4⟩ := app_str a3 _ c3 (([] : List ByteArray).map Value.string) m wr HR.out (by rw [List.length_append, List.length_singleton] at hlen; omega)
            have HRun := Lib.hid hrun
            have HR4 : Hid (Row w4 9 1 a4 (([] : List ByteArray) ++ [m]).length c4 ((([] : List ByteArray) ++ [m]).map Value.string)) := Lib.hid (by rw [List.length_append, List.length_singleton, List.map_append]; exact hrow)
            have HB4 : Hid (∀ x, a4 = some x → w.heap.size ≤ x.block) := Lib.hid fun x hx => by
              rcases hf4 x hx with h1 | h1
              · obtain ⟨y, hy, e⟩ := mem_blkOf.1 h1; rw [← e]; exact HB.out y hy
              · exact Nat.le_trans HK.out.size h1
            have HK4 : Hid (Keep w w4) := Lib.hid (Touch.keep ((Touch.of_below HK.out []).trans ht4 (fun x hx => .inr (by
              obtain ⟨y, hy, e⟩ := mem_blkOf.1 hx; rw [← e]; exact HB.out y hy))))
            have HL : Hid ((([] : List ByteArray) ++ [m]).length = ([] : List ByteArray).length + 1) := Lib.hid (by simp)
            clear HS hG' hC' hrun hrow ht4 hf4 HG HM HR HB HK
            go_wp2_with (at_builtin; refine wpList_appendR _ rfl _ _ 22 22 rfl _ _ rfl rfl HRun.out ?_)
            go_roundg (gk - 1)
            case measure => omega
            case rel => exact ⟨a4, c4, ([] : List ByteArray) ++ [m], congrArg (fun q => Value.slice a4 q c4) HL.out.symm, HR4, HB4, HK4, HG', HC', hlen⟩
    · have hgt := Lib.hid (gt_above hO)
      obtain ⟨p, hp⟩ : ∃ p, O.length = p + 1 := ⟨O.length - 1, by cases O; exact absurd rfl hO; simp⟩
      obtain ⟨g3, e3, hlast0⟩ := HR.out.cellAt p (by rw [List.length_map, hp]; omega)
      subst e3
      have hlast : wr.cell? ⟨g3, p, none⟩ = some (.string (O.getD (O.length - 1) ByteArray.empty)) := by
        rw [hlast0, show O.length - 1 = p by omega]; simp [List.getD, show p < O.length by omega]
      generalize O.getD (O.length - 1) ByteArray.empty = last at *
      clear hlast0
      have HP := Lib.hid hp
      have hOl' : p + 1 ≤ ss.length := by omega
      rw [hp]
      clear hp
      go_wp2
      go_loop [4, 5, 7, 10] (fun s4 s5 _ s10 => ∃ (k : Nat) (b : Bool) (m : ByteArray), k ≤ ss.length ∧ s10 = .int .i64 k ∧ s5 = .bool b ∧ s4 = .string m ∧ Hid (Seen ss O k b m)) (fun _ _ _ i => ss.length - (intOf i).toNat)
      case atStart => exact ⟨0, false, _, Nat.zero_le _, rfl, rfl, rfl, Lib.hid (Seen.start _ _ _)⟩
      case round =>
        obtain ⟨k, b, m, hk, rfl, rfl, rfl, HS⟩ := hrel
        by_cases hlt : k < ss.length
        · obtain ⟨bb, off, rfl, hcell0⟩ := HC.out k hlt
          have hcell := HK.out.cell hcell0
          clear hcell0
          have htk := Lib.hid (fun h => Seen.take (j := k) HS.out hlt h)
          have hsk := Lib.hid (fun h => Seen.skip (j := k) HS.out h)
          generalize ss.getD k ByteArray.empty = x at *
          have ht2 : takes O b m x = ((!Op.bytesLess x.toList last.toList && !(x.toList == last.toList)) && (!b || Op.bytesLess x.toList m.toList)) := by
            rw [hgt.out x]; rfl
          cases hA : Op.bytesLess x.toList last.toList <;> cases hB : (x.toList == last.toList) <;> cases hb : Op.bytesLess x.toList m.toList <;> rw [hA, hB, hb] at ht2 <;> cases b
          all_goals
            have HT := Lib.hid ht2
            clear ht2
            go_wp2
            go_round
            case rel => exact ⟨k + 1, _, _, by omega, by go_num, rfl, rfl, by first | exact Lib.hid (htk.out HT.out) | exact Lib.hid (hsk.out HT.out)⟩
            case measure => simp [intOf]; omega
        · obtain rfl : k = ss.length := by omega
          cases b with
          | false =>
            have HF : Hid (O.map (·.toList) = srt (ss.map (·.toList))) := Lib.hid (HG.out.done HS.out)
            have HSt : Hid (StrsAt wr (some ⟨g3, 0, none⟩) O.length O) := Lib.hid (Row.strs HR.out)
            clear HS
            go_wp2
            go_ret
            exact ⟨_, _, O, by rw [HP.out]; rfl, HSt.out, HF.out, hOl, HK.out⟩
          | true =>
            obtain ⟨hG', hC'⟩ := HG.out.more HS.out
            have HG' := Lib.hid hG'
            have HC' : Hid (ss.countP (above (O ++ [m])) < gk - 1) := Lib.hid (by have := HM.out; omega)
            have hgk : 0 < gk := by have := HM.out; omega
            have hlen : (O ++ [m]).length ≤ ss.length := by have := hG'.few; omega
            obtain ⟨a4, c4, w4, hrun, hrow, ht4, hf4⟩ := app_str (some ⟨g3, 0, none⟩) _ c3 (O.map Value.string) m wr HR.out (by rw [List.length_append, List.length_singleton] at hlen; omega)
            rw [HP.out] at hrun
            have HRun := Lib.hid hrun
            have HR4 : Hid (Row w4 9 1 a4 (O ++ [m]).length c4 ((O ++ [m]).map Value.string)) := Lib.hid (by rw [List.length_append, List.length_singleton, List.map_append]; exact hrow)
            have HB4 : Hid (∀ x, a4 = some x → w.heap.size ≤ x.block) := Lib.hid fun x hx => by
              rcases hf4 x hx with h1 | h1
              · obtain ⟨y, hy, e⟩ := mem_blkOf.1 h1; rw [← e]; exact HB.out y hy
              · exact Nat.le_trans HK.out.size h1
            have HK4 : Hid (Keep w w4) := Lib.hid (Touch.keep ((Touch.of_below HK.out []).trans ht4 (fun x hx => .inr (by
              obtain ⟨y, hy, e⟩ := mem_blkOf.1 hx; rw [← e]; exact HB.out y hy))))
            have HL : Hid ((O ++ [m]).length = O.length + 1) := Lib.hid (by simp)
            clear HS hG' hC' hrun hrow ht4 hf4 HG HM HR HB HK
            go_wp2_with (at_builtin; refine wpList_appendR _ rfl _ _ 22 22 rfl _ _ rfl rfl HRun.out ?_)
            go_roundg (gk - 1)
            case measure => omega
            case rel => exact ⟨a4, c4, O ++ [m], by rw [HL.out, HP.out], HR4, HB4, HK4, HG', HC', hlen⟩
end Go.Proofs.Yteocoijkfkoddaa
