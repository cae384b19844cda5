/- A driver and a map are made; a driver's results; the law's own small functions. -/
import Derived.Test.YtmifgnibalbgjaaDoorW
namespace Go.Proofs.YtmifgnibalbgjaaDoor
open Go.RowKit
theorem mapA_of {w w' : World} {a : Option Addr} {n c : Nat} {ss : List ByteArray} (h : w'.ownsRow w.heap.size 9 1 (.slice a n c) n (ss.map Value.string)) (hs : StrsAt w' a n ss) (h7 : ss.length ≤ 7) (hb : Below w.heap.size w w') :
    Mem w [] (w'.alloc (.cells #[.slice a n c] 63)) [MapA w'.heap.size ss] := by
  have hb2 : Below w.heap.size w (w'.alloc (.cells #[.slice a n c] 63)) := hb.alloc hb.size _
  refine (Mem.nil w).new hb2 (As := [MapA w'.heap.size ss]) (D' := w'.heap.size :: (if n = 0 then [] else blkOf a)) (all_one ⟨a, n, c, rfl, cell_new1 _ _ _, hs.keep (Keep.alloc _ _), h7⟩) ?_
  intro x hx
  rcases List.mem_cons.1 hx with rfl | hx
  · exact hb.size
  · split at hx
    · cases hx
    · rename_i hn
      obtain ⟨_, ⟨hv, _⟩ | ⟨g, cap, cur, hv, hB, _⟩⟩ := h
      · simp only [Value.slice.injEq] at hv
        obtain ⟨rfl, _⟩ := hv
        simp [blkOf] at hx
      · simp only [Value.slice.injEq] at hv
        obtain ⟨rfl, _⟩ := hv
        simp [blkOf] at hx
        subst hx
        exact hB
set_option maxHeartbeats 400000 in
theorem mapNew (a : Option Addr) (n c : Nat) (ss : List ByteArray) (w : World) (hn : n ≤ maxLen) (h : StrsAt w a n ss) (he : rightL ss = 0) (h7 : ss.length ≤ 7) :
    Calls Tryd.prog 7 #[.slice a n c] w fun e w' => ∃ g, e = .returned (.tuple #[.pointer (some ⟨g, 0, none⟩), .int .i64 0]) ∧ Mem w [] w' [MapA g ss] := by
  have hr := right_any a n c ss w hn h
  have HC : Hid (∀ k, Calls Tryd.prog 24 #[.slice a n c] (w.drewN k) fun e w' => ∃ a' c', e = .returned (.slice a' n c') ∧ w'.ownsRow w.heap.size 9 1 (.slice a' n c') n (ss.map Value.string) ∧ StrsAt w' a' n ss ∧ Below w.heap.size w w') := Lib.hid fun k =>
    (clone_any a n c ss (w.drewN k) (by have := h.1; omega) (h.keep (Keep.drewN w k))).mono fun e w' ⟨a', c', h1, h0, h2, h3⟩ => ⟨a', c', h1, h0, h2, (bel_drewN w k).trans h3⟩
  have HFIN : Hid (∀ w' a' c', w'.ownsRow w.heap.size 9 1 (.slice a' n c') n (ss.map Value.string) → StrsAt w' a' n ss → Below w.heap.size w w' → Mem w [] (w'.alloc (.cells #[.slice a' n c'] 63)) [MapA w'.heap.size ss]) := Lib.hid fun w' a' c' h1 h2 h3 => mapA_of h1 h2 h7 h3
  rw [he] at hr
  have HR := Lib.hid hr
  clear hr he
  go_enter Tryd.func7, Tryd.ntmps7
  go_wp2_with fail
  refine HR.out.mono ?_
  rintro e w1 ⟨rfl, k, rfl⟩
  go_wp2_with fail
  refine (HC.out k).mono ?_
  rintro e w2 ⟨a1, c1, rfl, h1, h2, h3⟩
  have HF := Lib.hid (HFIN.out _ _ _ h1 h2 h3)
  clear h1 h2 h3 HC HFIN
  go_wp2_with fail
  go_ret2
  exact ⟨_, rfl, HF.out⟩
/-- may a driver's numbers be? -/
def numsB (tx stamp tries : Int) : Bool := decide (0 ≤ tx) && decide (tx ≤ 1048576) && decide (1 ≤ stamp) && decide (stamp ≤ 1099511627776) && decide (1 ≤ tries) && decide (tries ≤ 1048576)
def newErr (tx stamp tries : Int) (l : List Opp) : Int := if numsB tx stamp tries then planErr l else 1
/-- how New ends. -/
def NewPost (w0 : World) (D0 : List Nat) (mg : Nat) (l : List Opp) (tx stamp tries : Int) (r : List Asn) (e : Ending) (w' : World) : Prop :=
  (newErr tx stamp tries l ≠ 0 ∧ e = .returned (.tuple #[.pointer none, .int .i64 (newErr tx stamp tries l)]) ∧ Mem w0 D0 w' r) ∨
  (newErr tx stamp tries l = 0 ∧ ∃ g, e = .returned (.tuple #[.pointer (some ⟨g, 0, none⟩), .int .i64 0]) ∧ Mem w0 D0 w' (DrA g mg l ⟨tx, stamp, tries, 0, 0, 0, rs0, rs0, [], [], 1, false⟩ :: r))
def drNew (tx stamp tries : Int) : Dr := ⟨tx, stamp, tries, 0, 0, 0, rs0, rs0, [], [], 1, false⟩
section
variable {w0 w : World} {D0 : List Nat} {g mg : Nat} {l : List Opp} {d : Dr} {ss : List ByteArray} {r : List Asn} [Stables r]
set_option maxRecDepth 100000 in
set_option maxHeartbeats 8000000 in
theorem drvNew (tx stamp tries : Int) (a : Option Addr) (n c : Nat) (M : Mem w0 D0 w r) (hl : OpsAt w a n l) (hn : n ≤ 100000) :
    Calls Tryd.prog 8 #[.int .i64 tx, .int .i64 stamp, .pointer (some ⟨mg, 0, none⟩), .slice a n c, .int .i64 tries] w (NewPost w0 D0 mg l tx stamp tries r) := by
  have HM := Lib.hid M
  have HPR := Lib.hid (plan_right a n c l w (by unfold maxLen; omega) hl)
  have HL := Lib.hid hl
  clear M hl
  by_cases t0 : tx < 0
  · have HE : Hid (numsB tx stamp tries = false) := Lib.hid (by unfold numsB; rw [decide_eq_false (show ¬ (0 ≤ tx) by omega)]; simp)
    have HE2 : Hid (newErr tx stamp tries l = 1) := Lib.hid (by unfold newErr; rw [HE.out]; rfl)
    clear HPR
    go_enter Tryd.func8, Tryd.ntmps8
    go_wp2_with fail
    go_ret2
    exact Or.inl ⟨by rw [HE2.out]; decide, by rw [HE2.out]; rfl, HM.out⟩
  by_cases t1 : 1048576 < tx
  · have HE : Hid (numsB tx stamp tries = false) := Lib.hid (by unfold numsB; rw [decide_eq_false (show ¬ (tx ≤ 1048576) by omega)]; simp)
    have HE2 : Hid (newErr tx stamp tries l = 1) := Lib.hid (by unfold newErr; rw [HE.out]; rfl)
    clear HPR
    go_enter Tryd.func8, Tryd.ntmps8
    go_wp2_with fail
    go_ret2
    exact Or.inl ⟨by rw [HE2.out]; decide, by rw [HE2.out]; rfl, HM.out⟩
  by_cases t2 : stamp < 1
  · have HE : Hid (numsB tx stamp tries = false) := Lib.hid (by unfold numsB; rw [decide_eq_false (show ¬ (1 ≤ stamp) by omega)]; simp)
    have HE2 : Hid (newErr tx stamp tries l = 1) := Lib.hid (by unfold newErr; rw [HE.out]; rfl)
    clear HPR
    go_enter Tryd.func8, Tryd.ntmps8
    go_wp2_with fail
    go_ret2
    exact Or.inl ⟨by rw [HE2.out]; decide, by rw [HE2.out]; rfl, HM.out⟩
  by_cases t3 : 1099511627776 < stamp
  · have HE : Hid (numsB tx stamp tries = false) := Lib.hid (by unfold numsB; rw [decide_eq_false (show ¬ (stamp ≤ 1099511627776) by omega)]; simp)
    have HE2 : Hid (newErr tx stamp tries l = 1) := Lib.hid (by unfold newErr; rw [HE.out]; rfl)
    clear HPR
    go_enter Tryd.func8, Tryd.ntmps8
    go_wp2_with fail
    go_ret2
    exact Or.inl ⟨by rw [HE2.out]; decide, by rw [HE2.out]; rfl, HM.out⟩
  by_cases t4 : tries < 1
  · have HE : Hid (numsB tx stamp tries = false) := Lib.hid (by unfold numsB; rw [decide_eq_false (show ¬ (1 ≤ tries) by omega)]; simp)
    have HE2 : Hid (newErr tx stamp tries l = 1) := Lib.hid (by unfold newErr; rw [HE.out]; rfl)
    clear HPR
    go_enter Tryd.func8, Tryd.ntmps8
    go_wp2_with fail
    go_ret2
    exact Or.inl ⟨by rw [HE2.out]; decide, by rw [HE2.out]; rfl, HM.out⟩
  by_cases t5 : 1048576 < tries
  · have HE : Hid (numsB tx stamp tries = false) := Lib.hid (by unfold numsB; rw [decide_eq_false (show ¬ (tries ≤ 1048576) by omega)]; simp)
    have HE2 : Hid (newErr tx stamp tries l = 1) := Lib.hid (by unfold newErr; rw [HE.out]; rfl)
    clear HPR
    go_enter Tryd.func8, Tryd.ntmps8
    go_wp2_with fail
    go_ret2
    exact Or.inl ⟨by rw [HE2.out]; decide, by rw [HE2.out]; rfl, HM.out⟩
  have HE : Hid (newErr tx stamp tries l = planErr l) := Lib.hid (by unfold newErr numsB; rw [decide_eq_true (show 0 ≤ tx by omega), decide_eq_true (show tx ≤ 1048576 by omega), decide_eq_true (show 1 ≤ stamp by omega), decide_eq_true (show stamp ≤ 1099511627776 by omega), decide_eq_true (show 1 ≤ tries by omega), decide_eq_true (show tries ≤ 1048576 by omega)]; rfl)
  by_cases hp : planErr l = 0
  · have hn16 : n ≤ 16 := by
      have h1 := HL.out.1
      unfold planErr at hp
      split at hp
      · cases hp
      · omega
    have HCL := Lib.hid fun W (hb : Below w.heap.size w W) => cloneOp_any a n c l W (HL.out.below hb) (by omega)
    have HN := Lib.hid HL.out.1
    rw [hp] at HPR
    have HE2 : Hid (newErr tx stamp tries l = 0) := Lib.hid (by rw [HE.out]; exact hp)
    clear hp HE HL
    go_enter Tryd.func8, Tryd.ntmps8
    go_wp2_with fail
    refine HPR.out.mono ?_
    rintro e w1 ⟨rfl, hb⟩
    have HM1 := Lib.hid (Mem.below HM.out hb)
    have H1 := Lib.hid (HCL.out _ hb)
    clear hb HCL HPR HM
    go_wp2_with fail
    refine H1.out.mono ?_
    rintro e w2 ⟨a', c', rfl, hm⟩
    have HM2 : Hid (Mem w0 D0 w2 (RowA 60 4 a' n c' (opFlat l) :: r)) := Lib.hid (by
      obtain ⟨D, hA, hD⟩ := hm.out
      refine HM1.out.new hm.bel (As := [RowA 60 4 a' n c' (opFlat l)]) hA fun x hx => ?_
      rcases hD.fresh x hx with h | h
      · cases h
      · exact h)
    clear hm H1 HM1
    have HM3 : Hid (Mem w0 D0 (w2.alloc (.cells #[.int .i64 tx, .int .i64 stamp, .int .i64 tries, .pointer (some ⟨mg, 0, none⟩), .slice a' n c', .int .i64 0, .int .i64 0, .int .i64 0, .string ⟨#[]⟩, .bool false, .string ⟨#[]⟩, .bool false, .slice none 0 0, .slice none 0 0, .slice none 0 0, .int .i64 1, .bool false] 69)) (DrA w2.heap.size mg l (drNew tx stamp tries) :: r)) := Lib.hid (by
      have h1 := HM2.out.block #[.int .i64 tx, .int .i64 stamp, .int .i64 tries, .pointer (some ⟨mg, 0, none⟩), .slice a' n c', .int .i64 0, .int .i64 0, .int .i64 0, .string ⟨#[]⟩, .bool false, .string ⟨#[]⟩, .bool false, .slice none 0 0, .slice none 0 0, .slice none 0 0, .int .i64 1, .bool false] 69
      have h2 := Mem.nilRow (L := [BlockA w2.heap.size #[.int .i64 tx, .int .i64 stamp, .int .i64 tries, .pointer (some ⟨mg, 0, none⟩), .slice a' n c', .int .i64 0, .int .i64 0, .int .i64 0, .string ⟨#[]⟩, .bool false, .string ⟨#[]⟩, .bool false, .slice none 0 0, .slice none 0 0, .slice none 0 0, .int .i64 1, .bool false] 69, RowA 60 4 a' n c' (opFlat l)]) (r := r) 52 2 h1
      have h3 := Mem.nilRow (L := [BlockA w2.heap.size #[.int .i64 tx, .int .i64 stamp, .int .i64 tries, .pointer (some ⟨mg, 0, none⟩), .slice a' n c', .int .i64 0, .int .i64 0, .int .i64 0, .string ⟨#[]⟩, .bool false, .string ⟨#[]⟩, .bool false, .slice none 0 0, .slice none 0 0, .slice none 0 0, .int .i64 1, .bool false] 69, RowA 60 4 a' n c' (opFlat l), RowA 52 2 none 0 0 []]) (r := r) 3 1 h2
      refine Mem.closeW (d := drNew tx stamp tries) (pa := a') (pc := c') (ra := none) (rc := 0) (ta := none) (tc := 0) ?_ (by show (0 : Int) < 7; decide)
      rw [HN.out] at h3
      rw [HN.out]
      exact h3)
    go_wp2_with fail
    go_ret2
    exact Or.inr ⟨HE2.out, _, rfl, HM3.out⟩
  · have hp1 : (planErr l == 0) = false := by simpa using hp
    have hp2 : (planErr l != 0) = true := by simpa using hp
    have HP := Lib.hid hp
    clear hp HL
    generalize planErr l = pe at *
    go_enter Tryd.func8, Tryd.ntmps8
    go_wp2_with fail
    refine HPR.out.mono ?_
    rintro e w1 ⟨rfl, hb⟩
    have HM1 := Lib.hid (Mem.below HM.out hb)
    clear hb HPR HM
    go_wp2_with fail
    go_ret2
    exact Or.inl ⟨by rw [HE.out]; exact HP.out, by rw [HE.out]; rfl, HM1.out⟩
end
end Go.Proofs.YtmifgnibalbgjaaDoor

