/- The reference's Crash, Next, Timers. -/
import Derived.Test.YtcolaafgjlaikaaGG
namespace Go.Proofs.Ytcolaafgjlaikaa
open Go.RowKit

/-- a new row of ints. -/
def NewInts (w : World) (o : List Int) (v : Value) (wr : World) : Prop := ∃ a c, v = .slice a o.length c ∧ Row wr 3 1 a o.length c (ints o) ∧ Below w.heap.size w wr ∧ ∀ x ∈ blkOf a, w.heap.size ≤ x
theorem NewInts.nil (w : World) : NewInts w [] (.slice none 0 0) w := ⟨none, 0, rfl, Row.nil _ _ _, Below.refl _ _, fun x hx => by cases hx⟩
theorem NewInts.below {w wr wr' : World} {l : List Int} {v : Value} (h : NewInts w l v wr) (b : Below wr.heap.size wr wr') : NewInts w l v wr' := by
  obtain ⟨a, c, hv, hr, hb, hf⟩ := h
  exact ⟨a, c, hv, hr.touch (Touch.of_below b []) (by simp), hb.trans (b.mono hb.size), hf⟩
theorem NewInts.app {w wr : World} {l : List Int} {a : Option Addr} {n c : Nat} (h : NewInts w l (.slice a n c) wr) (t : Int) (hbig : l.length ≤ 1000000) (ty : TypeId) :
    ∃ b' cap' w', (Builtin.append_ #[27, 27] ty #[.slice a n c, .slice (some ⟨wr.heap.size, 0, none⟩) 1 1]).run Try.prog (wr.alloc (.cells #[.int .i64 t] 3)) = .ok (.slice b' (n + 1) cap') w' ∧
      NewInts w (l ++ [t]) (.slice b' (n + 1) cap') w' := by
  obtain ⟨a', c', hv, hr, hb, hf⟩ := h
  simp only [Value.slice.injEq] at hv
  obtain ⟨rfl, rfl, rfl⟩ := hv
  obtain ⟨b', cap', w', h1, h2, h3, h4, _, _⟩ := app_int wr ty a l.length c _ hr t hbig
  refine ⟨b', cap', w', h1, b', cap', by simp, ?_, ?_, fun x hx => ?_⟩
  · simpa [ints] using h2
  · exact ((Touch.of_below hb []).trans (h3.mono (cs := blkOf a) fun x hx => .inl hx) (fun x hx => .inr (hf x hx))).keep
  · obtain ⟨y, hy, rfl⟩ := mem_blkOf.1 hx
    rcases h4 y hy with h' | h'
    · exact hf _ h'
    · have := hb.size; omega

set_option maxRecDepth 100000 in
set_option maxHeartbeats 1600000 in
theorem rf_crash (p : Nat) (ck : List Int) (L : List Rt) (node : Int) (w : World) (D : List Nat) (h : RefA p ck L w D) (hbig : L.length ≤ 100000) :
    Calls Try.prog 17 #[.pointer (some ⟨p, 0, none⟩), .int .i64 node] w (RPost w D p (.returned (.int .i64 (rCrash ck L node).1)) ck (rCrash ck L node).2) := by
  have h' := h
  obtain ⟨gc, a, c, rfl, hf⟩ := h
  have HI := Lib.hid (rf_is p gc a c ck L node w hf)
  unfold rCrash
  cases hi : rIs ck node with
  | false =>
    rw [hi] at HI
    have HF := Lib.hid (rf_same h' (.returned (.int .i64 6)) (Below.refl _ _))
    simp only [Bool.false_eq_true, if_false]
    generalize RPost w _ p (.returned (.int .i64 6)) ck L = Q at *
    clear h' hf
    go_enter Try.func17, Try.ntmps17
    go_wp2_with fail
    refine HI.out.mono ?_
    rintro e _ ⟨rfl, rfl⟩
    go_wp2_with fail
    exact HF.out
  | true =>
    rw [hi] at HI
    simp only [if_true]
    have HS := Lib.hid fun w1 v (hn : NewRow w ((L.take L.length).filter fun t => t.node != node) v w1) => (show ∃ a' n' c', v = .slice a' n' c' ∧ w1.cell? ⟨p, 1, none⟩ = some (.slice a L.length c) ∧ w1.frozen? ⟨p, 1, none⟩ = false ∧ RPost w (p :: gc :: blkOf a) p (.returned (.int .i64 0)) ck (L.filter fun t => t.node != node) (.returned (.int .i64 0)) (w1.setCell ⟨p, 1, none⟩ (.slice a' n' c')) from by
      rw [List.take_length] at hn
      have hn2 := hn
      obtain ⟨a', c', rfl, _, hb, _⟩ := hn
      exact ⟨a', _, c', rfl, (hf.below hb).cell1.1, (hf.below hb).cell1.2, rf_store hf hn2 _⟩)
    have hc := hf.cell1.1
    have HR := Lib.hid hf.row
    clear h' hf
    generalize hQ : RPost w (p :: gc :: blkOf a) p (.returned (.int .i64 0)) ck (L.filter fun t => t.node != node) = Q at *
    clear hQ
    generalize hn2 : L.length = n at hc hbig HS
    have HN := Lib.hid hn2
    clear hn2
    go_enter Try.func17, Try.ntmps17
    go_wp2_with fail
    refine HI.out.mono ?_
    rintro e _ ⟨rfl, rfl⟩
    go_wp2_with fail
    go_loopw [5, 17] (fun v j wr => ∃ k : Nat, k ≤ n ∧ j = .int .i64 k ∧ Hid (NewRow w ((L.take k).filter fun t => t.node != node) v wr)) (fun _ j _ => n - (intOf j).toNat)
    case atStart => exact ⟨0, Nat.zero_le _, rfl, Lib.hid (NewRow.nil w)⟩
    case round =>
      obtain ⟨k, hk, rfl, hrl⟩ := hrel
      by_cases hlt : k < n
      · obtain ⟨ao, co, rfl, hrow, hb, hf⟩ := hrl.out
        have hk2 : k < L.length := by rw [HN.out]; exact hlt
        obtain ⟨g, rfl, hcs⟩ := flat4_cells HR.out k hk2
        obtain ⟨hx0, hx1, hx2, hx3⟩ := hcs.below hb
        have hol : ((L.take k).filter fun t => t.node != node).length ≤ 100000 := Nat.le_trans (List.length_filter_le _ _) (by rw [List.length_take]; omega)
        have HFT := Lib.hid (filter_take_succ (fun t : Rt => t.node != node) L k hk2)
        have HNR := Lib.hid (NewRow.below hrl.out (Below.alloc (Below.refl wr.heap.size wr) (Nat.le_refl _) (.cells #[.int .i64 L[k].node, .int .i64 L[k].id, .int .i64 L[k].due, .int .i64 L[k].every] 64)))
        have HAP := Lib.hid fun ty => HNR.out.app L[k] (by omega) ty
        rw [show (wr.alloc (.cells #[.int .i64 L[k].node, .int .i64 L[k].id, .int .i64 L[k].due, .int .i64 L[k].every] 64)).heap.size = wr.heap.size + 1 by simp] at HAP
        clear hrl hcs hrow hb hf
        generalize hlk : L[k] = t at *
        clear hlk
        obtain ⟨tn, ti, td, te⟩ := t
        simp only at hx0 hx1 hx2 hx3 HAP HNR HFT
        generalize (L.take k).filter (fun t => t.node != node) = fl at *
        generalize hfl : fl.length = m at *
        clear hfl
        by_cases hq : (tn != node) = true
        · rw [if_pos hq] at HFT
          obtain ⟨b', cap', w3, hrun, hnr⟩ := HAP.out 28
          have HRUN := Lib.hid hrun
          have HNX := Lib.hid hnr
          rw [← HFT.out] at HNX
          clear hrun hnr HAP HNR HFT
          go_wp2_with ((at_builtin; refine wpList_appendR _ rfl (.tmp 25) (.tmp 27) 28 28 rfl (.slice ao m co) (.slice (some ⟨wr.heap.size + 1, 0, none⟩) 1 1) rfl rfl HRUN.out ?_))
          go_roundw
          case rel => exact ⟨k + 1, by omega, by go_num, HNX⟩
          case measure => simp [intOf]; omega
        · rw [if_neg hq, List.append_nil] at HFT
          have HNX := HNR
          rw [← HFT.out] at HNX
          clear HAP HNR HFT
          have hq2 : (tn != node) = false := by simpa using hq
          clear hq
          go_wp2_with fail
          go_roundw
          case rel => exact ⟨k + 1, by omega, by go_num, HNX⟩
          case measure => simp [intOf]; omega
      · obtain rfl : k = n := by omega
        obtain ⟨a', n', c', rfl, hc1, hf1, hfin⟩ := HS.out _ _ hrl.out
        have HFIN := Lib.hid hfin
        clear hfin hrl
        go_wp2_with fail
        exact HFIN.out

set_option maxRecDepth 100000 in
set_option maxHeartbeats 1600000 in
theorem rf_next (p : Nat) (ck : List Int) (L : List Rt) (node : Int) (w : World) (D : List Nat) (h : RefA p ck L w D) (hbig : L.length ≤ 100000) :
    Calls Try.prog 19 #[.pointer (some ⟨p, 0, none⟩), .int .i64 node] w fun e w' => e = .returned (.tuple #[.int .i64 (rNext L node).1, .bool (rNext L node).2]) ∧ Below w.heap.size w w' := by
  obtain ⟨gc, a, c, rfl, hf⟩ := h
  have hc := hf.cell1.1
  have HR := Lib.hid hf.row
  clear hf
  have HQ : Hid (∀ d b, (L.take L.length).foldl (rNextStep node) (0, false) = (d, b) → rNext L node = (d, b)) := Lib.hid fun d b h => by rw [List.take_length] at h; exact h
  generalize hn2 : L.length = n at hc hbig HQ
  have HN := Lib.hid hn2
  clear hn2
  generalize rNext L node = q at *
  go_enter Try.func19, Try.ntmps19
  go_wp2_with fail
  go_loopw [6, 7, 15] (fun dv sv j wr => ∃ (k : Nat) (d : Int) (b : Bool), k ≤ n ∧ j = .int .i64 k ∧ dv = .int .i64 d ∧ sv = .bool b ∧ Hid ((L.take k).foldl (rNextStep node) (0, false) = (d, b)) ∧ Hid (Below w.heap.size w wr)) (fun _ _ j _ => n - (intOf j).toNat)
  case atStart => exact ⟨0, 0, false, Nat.zero_le _, rfl, rfl, rfl, Lib.hid rfl, Lib.hid (Below.refl _ _)⟩
  case round =>
    obtain ⟨k, d, b, hk, rfl, rfl, rfl, hfo, hb⟩ := hrel
    by_cases hlt : k < n
    · have hk2 : k < L.length := by rw [HN.out]; exact hlt
      obtain ⟨g, rfl, hcs⟩ := flat4_cells HR.out k hk2
      obtain ⟨hx0, hx1, hx2, hx3⟩ := hcs.below hb.out
      have HNX : Hid ((L.take (k + 1)).foldl (rNextStep node) (0, false) = rNextStep node (d, b) L[k]) := Lib.hid (by
        rw [List.take_succ_eq_append_getElem hk2, List.foldl_append, hfo.out]; rfl)
      have HB2 := Lib.hid (hb.out.alloc hb.out.size (.cells #[.int .i64 L[k].node, .int .i64 L[k].id, .int .i64 L[k].due, .int .i64 L[k].every] 64))
      clear hcs hb hfo
      generalize hlk : L[k] = t at *
      clear hlk
      obtain ⟨tn, ti, td, te⟩ := t
      simp only at hx0 hx1 hx2 hx3
      by_cases hq : tn = node
      · have hqb : (tn == node) = true := beq_iff_eq.2 hq
        cases b with
        | false =>
          have HX : Hid (rNextStep node (d, false) ⟨tn, ti, td, te⟩ = (td, true)) := Lib.hid (by unfold rNextStep; rw [if_pos ⟨hq, .inl rfl⟩])
          clear hq
          go_wp2_with fail
          go_roundw
          case rel => exact ⟨k + 1, td, true, by omega, by go_num, rfl, rfl, Lib.hid (by rw [HNX.out, HX.out]), HB2⟩
          case measure => simp [intOf]; omega
        | true =>
          by_cases hd : td < d
          · have HX : Hid (rNextStep node (d, true) ⟨tn, ti, td, te⟩ = (td, true)) := Lib.hid (by unfold rNextStep; rw [if_pos ⟨hq, .inr hd⟩])
            have hdb : decide (td < d) = true := decide_eq_true hd
            clear hq
            go_wp2_with fail
            go_roundw
            case rel => exact ⟨k + 1, td, true, by omega, by go_num, rfl, rfl, Lib.hid (by rw [HNX.out, HX.out]), HB2⟩
            case measure => simp [intOf]; omega
          · have HX : Hid (rNextStep node (d, true) ⟨tn, ti, td, te⟩ = (d, true)) := Lib.hid (by unfold rNextStep; rw [if_neg]; rintro ⟨_, h | h⟩; cases h; exact hd h)
            have hdb : decide (td < d) = false := decide_eq_false hd
            clear hq
            go_wp2_with fail
            go_roundw
            case rel => exact ⟨k + 1, d, true, by omega, by go_num, rfl, rfl, Lib.hid (by rw [HNX.out, HX.out]), HB2⟩
            case measure => simp [intOf]; omega
      · have HX : Hid (rNextStep node (d, b) ⟨tn, ti, td, te⟩ = (d, b)) := Lib.hid (by unfold rNextStep; rw [if_neg fun h => hq h.1])
        have hqb : (tn == node) = false := beq_eq_false_iff_ne.2 hq
        go_wp2_with fail
        go_roundw
        case rel => exact ⟨k + 1, d, b, by omega, by go_num, rfl, rfl, Lib.hid (by rw [HNX.out, HX.out]), HB2⟩
        case measure => simp [intOf]; omega
    · obtain rfl : k = n := by omega
      obtain rfl : q = (d, b) := HQ.out d b hfo.out
      go_wp2_with fail
      go_ret2
      exact ⟨rfl, hb.out⟩

set_option maxRecDepth 100000 in
set_option maxHeartbeats 1600000 in
theorem rf_timers (p : Nat) (ck : List Int) (L : List Rt) (node : Int) (w : World) (D : List Nat) (h : RefA p ck L w D) (hbig : L.length ≤ 100000) :
    Calls Try.prog 21 #[.pointer (some ⟨p, 0, none⟩), .int .i64 node] w (TimersPost w (rIds L node)) := by
  obtain ⟨gc, a, c, rfl, hf⟩ := h
  have hc := hf.cell1.1
  have HR := Lib.hid hf.row
  clear hf
  have HS := Lib.hid fun w1 v (hn : NewInts w (((L.take L.length).filter fun t => t.node == node).map (·.id)) v w1) => (show ∃ a' n' c', v = .slice a' n' c' ∧ TimersPost w (rIds L node) (.returned (.slice a' n' c')) w1 from by
      rw [List.take_length] at hn
      obtain ⟨a', c', rfl, hr, hb, _⟩ := hn
      exact ⟨a', _, c', rfl, a', c', rfl, IntsAt.of_row hr, hb⟩)
  generalize TimersPost w (rIds L node) = Q at *
  generalize hn2 : L.length = n at hc hbig HS
  have HN := Lib.hid hn2
  clear hn2
  go_enter Try.func21, Try.ntmps21
  go_wp2_with fail
  go_loopw [5, 13] (fun v j wr => ∃ k : Nat, k ≤ n ∧ j = .int .i64 k ∧ Hid (NewInts w (((L.take k).filter fun t => t.node == node).map (·.id)) v wr)) (fun _ j _ => n - (intOf j).toNat)
  case atStart => exact ⟨0, Nat.zero_le _, rfl, Lib.hid (NewInts.nil w)⟩
  case round =>
    obtain ⟨k, hk, rfl, hrl⟩ := hrel
    by_cases hlt : k < n
    · obtain ⟨ao, co, rfl, hrow, hb, hf⟩ := hrl.out
      have hk2 : k < L.length := by rw [HN.out]; exact hlt
      obtain ⟨g, rfl, hcs⟩ := flat4_cells HR.out k hk2
      obtain ⟨hx0, hx1, hx2, hx3⟩ := hcs.below hb
      have hol : (((L.take k).filter fun t => t.node == node).map (·.id)).length ≤ 100000 := by rw [List.length_map]; exact Nat.le_trans (List.length_filter_le _ _) (by rw [List.length_take]; omega)
      have HFT := Lib.hid (filter_take_succ (fun t : Rt => t.node == node) L k hk2)
      have HNR := Lib.hid (NewInts.below hrl.out (Below.alloc (Below.refl wr.heap.size wr) (Nat.le_refl _) (.cells #[.int .i64 L[k].node, .int .i64 L[k].id, .int .i64 L[k].due, .int .i64 L[k].every] 64)))
      have HAP := Lib.hid fun ty => HNR.out.app L[k].id (by omega) ty
      rw [show (wr.alloc (.cells #[.int .i64 L[k].node, .int .i64 L[k].id, .int .i64 L[k].due, .int .i64 L[k].every] 64)).heap.size = wr.heap.size + 1 by simp] at HAP
      clear hrl hcs hrow hb hf
      generalize hlk : L[k] = t at *
      clear hlk
      obtain ⟨tn, ti, td, te⟩ := t
      simp only at hx0 hx1 hx2 hx3 HAP HNR HFT
      generalize (L.take k).filter (fun t => t.node == node) = fl at *
      generalize hfl : (fl.map (·.id)).length = m at *
      clear hfl
      by_cases hq : (tn == node) = true
      · rw [if_pos hq] at HFT
        obtain ⟨b', cap', w3, hrun, hnr⟩ := HAP.out 27
        have HRUN := Lib.hid hrun
        have HNX : Hid (NewInts w (((L.take (k + 1)).filter fun t => t.node == node).map (·.id)) (.slice b' (m + 1) cap') w3) := Lib.hid (by rw [HFT.out]; simpa using hnr)
        clear hrun hnr HAP HNR HFT
        go_wp2_with ((at_builtin; refine wpList_appendR _ rfl (.tmp 21) (.tmp 24) 27 27 rfl (.slice ao m co) (.slice (some ⟨wr.heap.size + 1, 0, none⟩) 1 1) rfl rfl HRUN.out ?_))
        go_roundw
        case rel => exact ⟨k + 1, by omega, by go_num, HNX⟩
        case measure => simp [intOf]; omega
      · rw [if_neg hq, List.append_nil] at HFT
        have HNX := HNR
        rw [← HFT.out] at HNX
        clear HAP HNR HFT
        have hq2 : (tn == node) = false := by simpa using hq
        clear hq
        go_wp2_with fail
        go_roundw
        case rel => exact ⟨k + 1, by omega, by go_num, HNX⟩
        case measure => simp [intOf]; omega
    · obtain rfl : k = n := by omega
      obtain ⟨a', n', c', rfl, hfin⟩ := HS.out _ _ hrl.out
      have HFIN := Lib.hid hfin
      clear hfin hrl
      go_wp2_with fail
      exact HFIN.out
end Go.Proofs.Ytcolaafgjlaikaa
