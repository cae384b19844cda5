/- TimerDue: for every input the law returns true, and each argument reads behind the call as it read before. -/
import Derived.Test.YtcolaafgjlaikaaX
namespace Go.Proofs.Ytcolaafgjlaikaa
open Go.RowKit

theorem sk0 (y : Int × List Tm) (o : Int) (h0 : 0 ≤ o) (h1 : o ≤ 256) : mSkip [(0, []), y] 0 o = (0, [], [(o, []), y]) := by
  unfold mSkip
  rw [if_neg (by omega)]
  simp only [nodeAt, Int.lt_irrefl, if_false, Int.toNat_zero, List.getElem?_cons_zero, Int.zero_add, List.set_cons_zero]
  rw [if_neg (by omega), drainF_eq (.done (by simp))]
theorem sk1 (o c : Int) (L L' : List Tm) (out : List Int) (h1 : c ≤ 1000) (hd : Drain (c + 1) L out L') : mSkip [(o, []), (c, L)] 1 1 = (0, out, [(o, []), (c + 1, L')]) := by
  unfold mSkip
  rw [if_neg (by omega)]
  simp only [nodeAt, show ¬ ((1 : Int) < 0) by omega, if_false, show (1 : Int).toNat = 1 by rfl, List.getElem?_cons_succ, List.getElem?_cons_zero, List.set_cons_succ, List.set_cons_zero]
  rw [if_neg (by omega), drainF_eq hd]
theorem set1 (id k n : Int) (hid : 0 ≤ id) (hk : 1 ≤ k) (hk2 : k ≤ 50) (hn : 0 ≤ n) (hn2 : n ≤ 19) : mSet (m0 2) 1 id k n = (0, [(0, []), (0, [⟨id, k, n⟩])]) := by
  unfold mSet
  rw [if_pos (by unfold okSet; exact decide_eq_true (by omega))]
  simp [nodeAt, m0, setE, setL, fullT, keepT, insT]
theorem set0 (id k n : Int) (hid : id < 0) : mSet (m0 2) 1 id k n = (1, m0 2) := by
  unfold mSet
  rw [if_neg (by unfold okSet; simp; omega)]
theorem can1 (o c d n id : Int) : mCancel [(o, []), (c, [⟨id, d, n⟩])] 1 id = (0, [(o, []), (c, [])]) := by
  simp [mCancel, nodeAt, cancelE, keepT]
theorem can0 (o c id : Int) : mCancel [(o, []), (c, [])] 1 id = (6, [(o, []), (c, [])]) := by
  simp [mCancel, nodeAt, cancelE, keepT]

/-- ahead of tick t: one timer that is due at d; or it came, once; or it was cancelled. -/
inductive DueSt (id k n : Int) (cb : Prop) (t d : Int) : List Tm → Prop
  | active (h1 : t ≤ d) (h2 : d ≤ 200) (h3 : n = 0 → d = k) : DueSt id k n cb t d [⟨id, d, n⟩]
  | over (h1 : n = 0) (h2 : k < t) (h3 : d < t) (h4 : 0 ≤ d) : DueSt id k n cb t d []
  | gone (h1 : d = 1000) (h2 : cb) : DueSt id k n cb t d []
theorem due_tick {id k n t d : Int} {cb : Prop} {L : List Tm} (h : DueSt id k n cb t d L) (hn : 0 ≤ n) (hn2 : n ≤ 19) (ht : 1 ≤ t) (ht2 : t ≤ 120) (hk : 1 ≤ k) :
    (∃ L', Drain t L [] L' ∧ t ≠ d ∧ DueSt id k n cb (t + 1) d L') ∨ (∃ L', Drain t L [id] L' ∧ t = d ∧ DueSt id k n cb (t + 1) (d + n) L') := by
  cases h with
  | active h1 h2 h3 =>
    by_cases hd : t = d
    · subst hd
      right
      by_cases hp : 0 < n
      · refine ⟨[⟨id, t + n, n⟩], ?_, rfl, .active (by omega) (by omega) (by omega)⟩
        refine .step (by simp) ?_
        have : nextT ⟨id, t, n⟩ [] = [⟨id, t + n, n⟩] := by simp [nextT, hp, insT]
        rw [this]
        exact .done (by simp; omega)
      · refine ⟨[], ?_, rfl, .over (by omega) (by have := h3 (by omega); omega) (by omega) (by omega)⟩
        refine .step (by simp) ?_
        have : nextT ⟨id, t, n⟩ [] = [] := by simp [nextT, hp]
        rw [this]
        exact .done (by simp)
    · left
      exact ⟨_, .done (by simp; omega), hd, .active (by omega) h2 h3⟩
  | over h1 h2 h3 h4 => exact .inl ⟨[], .done (by simp), by omega, .over h1 (by omega) (by omega) h4⟩
  | gone h1 h2 => exact .inl ⟨[], .done (by simp), by omega, .gone h1 h2⟩
theorem DueSt.bd {id k n t d : Int} {cb : Prop} {L : List Tm} (h : DueSt id k n cb t d L) (ht : 1 ≤ t) (ht2 : t ≤ 121) : 0 ≤ d ∧ d ≤ 1000 := by
  cases h <;> omega
theorem DueSt.mono {id k n t d : Int} {cb cb' : Prop} {L : List Tm} (h : DueSt id k n cb t d L) (hc : cb → cb') : DueSt id k n cb' t d L := by
  cases h with
  | active h1 h2 h3 => exact .active h1 h2 h3
  | over h1 h2 h3 h4 => exact .over h1 h2 h3 h4
  | gone h1 h2 => exact .gone h1 (hc h2)
theorem dueOk (o c : Int) (L : List Tm) (h0 : 0 ≤ o) (h1 : o ≤ 256) (hc : 0 ≤ c) (hc2 : c ≤ 1000) (h : LOk c (c + 1099511627776) L) : BOk [(o, []), (c, L)] := fun x hx => by
  rcases List.mem_cons.1 hx with rfl | hx
  · exact ⟨h0, by simp only; omega, LOk.nil _ _⟩
  · rcases List.mem_cons.1 hx with rfl | hx
    · exact ⟨hc, by simp only; omega, h⟩
    · cases hx
theorem DueSt.ok {id k n t d : Int} {cb : Prop} {L : List Tm} (h : DueSt id k n cb t d L) (hid : 0 ≤ id) (hn : 0 ≤ n) (hn2 : n ≤ 19) (ht : 1 ≤ t) : LOk (t - 1) (t - 1 + 1099511627776) L := by
  cases h with
  | active h1 h2 h3 => exact ⟨List.pairwise_singleton _ _, by simp, by simp, fun x hx => by simp at hx; subst hx; simp only; omega⟩
  | over h1 h2 h3 h4 => exact LOk.nil _ _
  | gone h1 h2 => exact LOk.nil _ _

set_option maxRecDepth 100000 in
set_option maxHeartbeats 4000000 in
theorem due_any (id a1 a2 a3 a4 : Int) (h10 : 0 ≤ a1) (h11 : a1 ≤ 255) (h20 : 0 ≤ a2) (h21 : a2 ≤ 255) (h30 : 0 ≤ a3) (h31 : a3 ≤ 255) (h40 : 0 ≤ a4) (h41 : a4 ≤ 255) (w : World) :
    Calls Try.prog 5 #[.int .i64 id, .int .u8 a1, .int .u8 a2, .int .u8 a3, .int .u8 a4] w fun e w' => e = .returned (.bool true) ∧ Below w.heap.size w w' := by
  have HF := Lib.hid (fixed_any w)
  have HN := Lib.hid fun w => (show Calls Try.prog 7 #[.int .i64 2] w _ from bd_new 2 (by decide) (by decide) w)
  go_enter Try.func5, Try.ntmps5
  go_wp2_with fail
  refine HF.out.mono ?_
  rintro e w1 ⟨rfl, hb⟩
  have HB := Lib.hid hb
  clear hb
  go_wp2_with fail
  refine (HN.out w1).mono ?_
  rintro e w2 ⟨p, D, rfl, hb, hd, hbel⟩
  have M0 := Lib.hid ((Mem.nil w).below HB.out)
  have M1 := Lib.hid (show Mem w w2 [BoardA p (m0 2)] from M0.out.new hbel hb hd)
  clear hb hd hbel
  go_wp2_with fail
  have hk1 : 1 ≤ 1 + a1 % 50 := by omega
  have hk2 : 1 + a1 % 50 ≤ 50 := by omega
  have hn1 : 0 ≤ a2 % 20 := by omega
  have hn2 : a2 % 20 ≤ 19 := by omega
  generalize 1 + a1 % 50 = k at *
  generalize a2 % 20 = n at *
  have o0 := Lib.hid (m0_ok 2)
  by_cases hid : id < 0
  · refine (M1.out.call [] fun D h => bd_set' o0.out (set0 id k n hid) h).mono ?_
    rintro e w3 ⟨As, ⟨rfl, rfl⟩, hm⟩
    have HB := Lib.hid (show Below w.heap.size w w3 from hm.bel)
    clear hm
    go_wp2_with fail
    go_ret
    exact ⟨rfl, HB.out⟩
  · have hid0 : 0 ≤ id := by omega
    have o1 := Lib.hid (bok_of o0.out (set1 id k n hid0 hk1 hk2 hn1 hn2))
    refine (M1.out.call [] fun D h => bd_set' o0.out (set1 id k n hid0 hk1 hk2 hn1 hn2) h).mono ?_
    rintro e w3 ⟨As, ⟨rfl, rfl⟩, hm⟩
    have M2 := Lib.hid (show Mem w w3 [BoardA p [(0, []), (0, [⟨id, k, n⟩])]] from hm)
    clear hm
    go_wp2_with fail
    refine (M2.out.call [] fun D h => bd_skip' o1.out (sk0 _ a3 h30 (by omega)) h).mono ?_
    rintro e w4 ⟨As, ⟨a, c, rfl, rfl⟩, hm⟩
    have M3 := Lib.hid ((show Mem w w4 ([BoardA p [(a3, []), (0, [⟨id, k, n⟩])]] ++ IntsA a c [] :: []) from hm).drop [BoardA p [(a3, []), (0, [⟨id, k, n⟩])]])
    clear hm
    go_wp2_with fail
    go_loopw [17, 18] (fun dv tv wr => ∃ t d : Int, tv = .int .i64 t ∧ dv = .int .i64 d ∧ 1 ≤ t ∧ t ≤ 121 ∧ 0 ≤ d ∧ d ≤ 1000 ∧ Hid (∃ L, DueSt id k n (a4 < t) t d L ∧ Mem w wr [BoardA p [(a3, []), (t - 1, L)]])) (fun _ tv _ => (121 - intOf tv).toNat)
    case atStart => exact ⟨1, k, rfl, rfl, by omega, by omega, by omega, by omega, Lib.hid ⟨_, .active hk1 (by omega) (fun _ => rfl), M3.out⟩⟩
    case round =>
      obtain ⟨t, d, rfl, rfl, ht1, ht2, hd0, hd1, hS⟩ := hrel
      clear M0 M1 M2 M3 HB o0 o1
      by_cases ht : t ≤ 120
      · obtain ⟨L, hst, hm⟩ := hS.out
        have HM := Lib.hid hm
        have HST := Lib.hid hst
        clear hm hst hS
        by_cases hc : t = a4
        · subst hc
          have OK := Lib.hid (dueOk a3 (t - 1) L h30 (by omega) (by omega) (by omega) (HST.out.ok hid0 hn1 hn2 ht1))
          have OKn := Lib.hid (dueOk a3 (t - 1) [] h30 (by omega) (by omega) (by omega) (LOk.nil _ _))
          cases HST.out with
          | active g1 g2 g3 =>
            have HC := Lib.hid (can1 a3 (t - 1) d n id)
            have hor : (0 < n ∧ decide (0 < n) = true) ∨ (decide (0 < n) = false ∧ decide (t ≤ k) = true) := by
              by_cases hp : 0 < n
              · exact .inl ⟨hp, decide_eq_true hp⟩
              · exact .inr ⟨decide_eq_false hp, decide_eq_true (by have := g3 (by omega); omega)⟩
            clear g1 g2 g3 HST
            rcases hor with ⟨hp, hpb⟩ | ⟨hp, hpb⟩
            all_goals
              go_wp2_with fail
              refine (HM.out.call [] fun D h => bd_cancel' OK.out HC.out h).mono ?_
              rintro e w4b ⟨As, ⟨rfl, rfl⟩, hm⟩
              have HMc := Lib.hid (show Mem w w4b [BoardA p [(a3, []), (t - 1, [])]] from hm)
              clear hm
              go_wp2_with fail
              rcases due_tick (show DueSt id k n (t < t + 1) t 1000 [] from .gone rfl (by omega)) hn1 hn2 ht1 ht hk1 with ⟨L', hdr, hne, hst2⟩ | ⟨L', hdr, heq, hst2⟩
              · have htd : (t == 1000) = false := beq_eq_false_iff_ne.2 hne
                have HR := Lib.hid hst2
                have HQ := Lib.hid (sk1 a3 (t - 1) [] L' [] (by omega) (by rw [Int.sub_add_cancel]; exact hdr))
                clear hst2 hdr hne
                refine (HMc.out.call [] fun D h => bd_tick' OKn.out HQ.out h).mono ?_
                rintro e w5 ⟨As, ⟨a, c, rfl, rfl⟩, hm⟩
                have HM5 := Lib.hid ((show Mem w w5 ([BoardA p [(a3, []), (t - 1 + 1, L')]] ++ IntsA a c [] :: []) from hm).drop [BoardA p [(a3, []), (t - 1 + 1, L')]])
                clear hm
                go_wp2_with fail
                go_roundw
                case rel => exact ⟨t + 1, 1000, rfl, rfl, by omega, by omega, by omega, by omega, Lib.hid ⟨L', HR.out, by rw [show t + 1 - 1 = t - 1 + 1 by omega]; exact HM5.out⟩⟩
                case measure => simp [intOf]; omega
              · exact absurd heq (by omega)
          | over g1 g2 g3 g4 =>
            subst g1
            have HC := Lib.hid (can0 a3 (t - 1) id)
            have hpb : decide (t ≤ k) = false := decide_eq_false (by omega)
            clear g3 g4 HST
            go_wp2_with fail
            refine (HM.out.call [] fun D h => bd_cancel' OK.out HC.out h).mono ?_
            rintro e w4b ⟨As, ⟨rfl, rfl⟩, hm⟩
            have HMc := Lib.hid (show Mem w w4b [BoardA p [(a3, []), (t - 1, [])]] from hm)
            clear hm
            go_wp2_with fail
            rcases due_tick (show DueSt id k 0 (t < t + 1) t 1000 [] from .gone rfl (by omega)) hn1 hn2 ht1 ht hk1 with ⟨L', hdr, hne, hst2⟩ | ⟨L', hdr, heq, hst2⟩
            · have htd : (t == 1000) = false := beq_eq_false_iff_ne.2 hne
              have HR := Lib.hid hst2
              have HQ := Lib.hid (sk1 a3 (t - 1) [] L' [] (by omega) (by rw [Int.sub_add_cancel]; exact hdr))
              clear hst2 hdr hne
              refine (HMc.out.call [] fun D h => bd_tick' OKn.out HQ.out h).mono ?_
              rintro e w5 ⟨As, ⟨a, c, rfl, rfl⟩, hm⟩
              have HM5 := Lib.hid ((show Mem w w5 ([BoardA p [(a3, []), (t - 1 + 1, L')]] ++ IntsA a c [] :: []) from hm).drop [BoardA p [(a3, []), (t - 1 + 1, L')]])
              clear hm
              go_wp2_with fail
              go_roundw
              case rel => exact ⟨t + 1, 1000, rfl, rfl, by omega, by omega, by omega, by omega, Lib.hid ⟨L', HR.out, by rw [show t + 1 - 1 = t - 1 + 1 by omega]; exact HM5.out⟩⟩
              case measure => simp [intOf]; omega
            · exact absurd heq (by omega)
          | gone g1 g2 => exact absurd g2 (by omega)
        · have hcb : (t == a4) = false := beq_eq_false_iff_ne.2 hc
          have OK := Lib.hid (dueOk a3 (t - 1) L h30 (by omega) (by omega) (by omega) (HST.out.ok hid0 hn1 hn2 ht1))
          go_wp2_with fail
          rcases due_tick (HST.out.mono (cb' := a4 < t + 1) (by omega)) hn1 hn2 ht1 ht hk1 with ⟨L', hdr, hne, hst2⟩ | ⟨L', hdr, heq, hst2⟩
          · have htd : (t == d) = false := beq_eq_false_iff_ne.2 hne
            have HR := Lib.hid hst2
            have HQ := Lib.hid (sk1 a3 (t - 1) L L' [] (by omega) (by rw [Int.sub_add_cancel]; exact hdr))
            clear hst2 hdr hne
            refine (HM.out.call [] fun D h => bd_tick' OK.out HQ.out h).mono ?_
            rintro e w5 ⟨As, ⟨a, c, rfl, rfl⟩, hm⟩
            have HM5 := Lib.hid ((show Mem w w5 ([BoardA p [(a3, []), (t - 1 + 1, L')]] ++ IntsA a c [] :: []) from hm).drop [BoardA p [(a3, []), (t - 1 + 1, L')]])
            clear hm
            go_wp2_with fail
            go_roundw
            case rel => exact ⟨t + 1, d, rfl, rfl, by omega, by omega, by omega, by omega, Lib.hid ⟨L', HR.out, by rw [show t + 1 - 1 = t - 1 + 1 by omega]; exact HM5.out⟩⟩
            case measure => simp [intOf]; omega
          · subst heq
            have HR := Lib.hid hst2
            have HQ := Lib.hid (sk1 a3 (t - 1) L L' [id] (by omega) (by rw [Int.sub_add_cancel]; exact hdr))
            clear hst2 hdr
            refine (HM.out.call [] fun D h => bd_tick' OK.out HQ.out h).mono ?_
            rintro e w5 ⟨As, ⟨a, c, rfl, rfl⟩, hm⟩
            have HM4 := Lib.hid (show Mem w w5 ([BoardA p [(a3, []), (t - 1 + 1, L')]] ++ IntsA a c [id] :: []) from hm)
            have HM5 := Lib.hid (HM4.out.drop [BoardA p [(a3, []), (t - 1 + 1, L')]])
            clear hm
            obtain ⟨D5, hD5⟩ := HM4.out.get [BoardA p [(a3, []), (t - 1 + 1, L')]]
            obtain ⟨g1, rfl, hg1⟩ := ints_cells hD5 (by simp)
            have hx1 := hg1 0 (by simp)
            simp only [List.getElem_cons_zero] at hx1
            clear hg1 hD5
            go_wp2_with fail
            go_roundw
            case rel => exact ⟨t + 1, t + n, rfl, rfl, by omega, by omega, by omega, by omega, Lib.hid ⟨L', HR.out, by rw [show t + 1 - 1 = t - 1 + 1 by omega]; exact HM5.out⟩⟩
            case measure => simp [intOf]; omega
      · obtain rfl : t = 121 := by omega
        obtain ⟨L, hst, hm⟩ := hS.out
        have HB := Lib.hid hm.bel
        clear hm hst hS
        go_wp2_with fail
        go_ret
        exact ⟨rfl, HB.out⟩
end Go.Proofs.Ytcolaafgjlaikaa
