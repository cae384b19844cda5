/- The reference's board: timers of four cells; is, without. -/
import Derived.Test.YtcolaafgjlaikaaAA
namespace Go.Proofs.Ytcolaafgjlaikaa
open Go.RowKit

structure Rt where
  node : Int
  id : Int
  due : Int
  every : Int
def cells4 (t : Rt) : List Value := [.int .i64 t.node, .int .i64 t.id, .int .i64 t.due, .int .i64 t.every]
def flat4 : List Rt → List Value
  | [] => []
  | t :: r => .int .i64 t.node :: .int .i64 t.id :: .int .i64 t.due :: .int .i64 t.every :: flat4 r
theorem flat4_len : ∀ l : List Rt, (flat4 l).length = l.length * 4
  | [] => rfl
  | t :: r => by simp only [flat4, List.length_cons, flat4_len r]; omega
theorem flat4_append : ∀ l r : List Rt, flat4 (l ++ r) = flat4 l ++ flat4 r
  | [], r => rfl
  | t :: l, r => by simp [flat4, flat4_append l r]
theorem flat4_get : ∀ (l : List Rt) (k : Nat) (h : k < l.length), (flat4 l)[k * 4]? = some (.int .i64 l[k].node) ∧ (flat4 l)[k * 4 + 1]? = some (.int .i64 l[k].id) ∧ (flat4 l)[k * 4 + 2]? = some (.int .i64 l[k].due) ∧ (flat4 l)[k * 4 + 3]? = some (.int .i64 l[k].every)
  | [], k, h => absurd h (by simp)
  | t :: r, 0, _ => by simp [flat4]
  | t :: r, k + 1, h => by
    have := flat4_get r k (by simpa using h)
    rw [show (k + 1) * 4 = k * 4 + 4 by omega]
    simpa [flat4] using this
theorem flat4_one : ∀ (l : List Rt), ∀ u ∈ flat4 l, u.oneCell' = true
  | [], _, h => by cases h
  | t :: r, u, h => by
    simp only [flat4, List.mem_cons] at h
    rcases h with rfl | rfl | rfl | rfl | h
    · rfl
    · rfl
    · rfl
    · rfl
    · exact flat4_one r u h
def CellsOf4 (w : World) (g o : Nat) (t : Rt) : Prop := w.cell? ⟨g, o, none⟩ = some (.int .i64 t.node) ∧ w.cell? ⟨g, o + 1, none⟩ = some (.int .i64 t.id) ∧ w.cell? ⟨g, o + 2, none⟩ = some (.int .i64 t.due) ∧ w.cell? ⟨g, o + 3, none⟩ = some (.int .i64 t.every)
theorem flat4_cells {w : World} {E : Nat} {a : Option Addr} {n c : Nat} {l : List Rt} (h : Row w E 4 a n c (flat4 l)) (k : Nat) (hk : k < l.length) : ∃ g, a = some ⟨g, 0, none⟩ ∧ CellsOf4 w g (k * 4) l[k] := by
  obtain ⟨h1, h2, h3, h4⟩ := flat4_get l k hk
  have hl := flat4_len l
  obtain ⟨g, e, c1⟩ := h.cellAt (k * 4) (by omega)
  obtain ⟨g', e', c2⟩ := h.cellAt (k * 4 + 1) (by omega)
  obtain ⟨g'', e'', c3⟩ := h.cellAt (k * 4 + 2) (by omega)
  obtain ⟨g3, e3, c4⟩ := h.cellAt (k * 4 + 3) (by omega)
  subst e
  simp only [Option.some.injEq, Addr.mk.injEq, and_true] at e' e'' e3
  subst e' e'' e3
  rw [List.getElem?_eq_getElem (by omega)] at h1 h2 h3 h4
  exact ⟨g, rfl, by rw [c1, h1], by rw [c2, h2], by rw [c3, h3], by rw [c4, h4]⟩
theorem CellsOf4.below {w w' : World} {g o : Nat} {t : Rt} (h : CellsOf4 w g o t) (b : Below w.heap.size w w') : CellsOf4 w' g o t :=
  have hk := fun {p : Addr} {v : Value} (hp : w.cell? p = some v) => (b.cell (World.block_lt_of_cell? w p hp)).trans hp
  ⟨hk h.1, hk h.2.1, hk h.2.2.1, hk h.2.2.2⟩

theorem info64 : (Try.prog.info? 64).map (fun i => (i.zero, i.size, i.bytes)) = some (some (.agg #[.int .i64 0, .int .i64 0, .int .i64 0, .int .i64 0]), 4, 32) := by kernel_rfl
/-- one timer is put behind a row. -/
theorem app_rt (w : World) (ty : TypeId) (a : Option Addr) (n c : Nat) (xs : List Value) (hr : Row w 64 4 a n c xs) (t : Rt) (hbig : n ≤ 1000000) :
    ∃ b' cap' w', (Builtin.append_ #[28, 28] ty #[.slice a n c, .slice (some ⟨w.heap.size, 0, none⟩) 1 1]).run Try.prog (w.alloc (.cells #[.int .i64 t.node, .int .i64 t.id, .int .i64 t.due, .int .i64 t.every] 64)) = .ok (.slice b' (n + 1) cap') w' ∧
      Row w' 64 4 b' (n + 1) cap' (xs ++ cells4 t) ∧ Touch (blkOf a) w w' ∧ Fresh w a b' ∧ w.heap.size + 1 ≤ w'.heap.size := by
  obtain ⟨i0, hi, hz0, hz1, hz2⟩ := info_parts info64
  have hb : Below w.heap.size w (w.alloc (.cells #[.int .i64 t.node, .int .i64 t.id, .int .i64 t.due, .int .i64 t.every] 64)) := Below.alloc (Below.refl _ _) (Nat.le_refl _) _
  have hr1 := hr.touch (Touch.of_below hb []) (by simp)
  obtain ⟨b', cap', w', h1, h2, h3, h4⟩ := run_append_row (P := Try.prog) (w.alloc (.cells #[.int .i64 t.node, .int .i64 t.id, .int .i64 t.due, .int .i64 t.every] 64)) 28 ty 64 i0 (.agg #[.int .i64 0, .int .i64 0, .int .i64 0, .int .i64 0]) 4 32 Try.underlying28 hi hz0 hz1 hz2 rfl (by decide) a n c xs hr1 ⟨w.heap.size, 0, none⟩ 1 1 (cells4 t) rfl
    (fun j u hj => by
      match j, hj with
      | 0, hj => simp only [cells4, List.getElem?_cons_zero, Option.some.injEq] at hj; subst hj; simp [go_sem]
      | 1, hj => simp only [cells4, List.getElem?_cons_succ, List.getElem?_cons_zero, Option.some.injEq] at hj; subst hj; simp [go_sem]
      | 2, hj => simp only [cells4, List.getElem?_cons_succ, List.getElem?_cons_zero, Option.some.injEq] at hj; subst hj; simp [go_sem]
      | 3, hj => simp only [cells4, List.getElem?_cons_succ, List.getElem?_cons_zero, Option.some.injEq] at hj; subst hj; simp [go_sem]
      | j + 4, hj => simp [cells4] at hj) (by simp [cells4, Value.oneCell']) (by unfold maxLen; omega) (by omega)
  refine ⟨b', cap', w', h1, h2, (Touch.of_below hb (blkOf a)).andThen h3, fun x hx => ?_, by have := h3.size; simpa using this⟩
  rcases h4 x hx with h | h
  · exact .inl h
  · exact .inr (by have := hb.size; omega)

/-- The reference's board. -/
structure Rf (w : World) (p gc : Nat) (a : Option Addr) (c : Nat) (ck : List Int) (L : List Rt) : Prop where
  hp : w.heap[p]? = some (.cells #[.slice (some ⟨gc, 0, none⟩) ck.length ck.length, .slice a L.length c] 30 (0, 0))
  hc : w.heap[gc]? = some (.cells (ints ck).toArray 3 (0, 0))
  row : Row w 64 4 a L.length c (flat4 L)
  ne : p ≠ gc
  np : p ∉ blkOf a
  nc : gc ∉ blkOf a
def RefA (p : Nat) (ck : List Int) (L : List Rt) : Asn := fun w D => ∃ gc a c, D = p :: gc :: blkOf a ∧ Rf w p gc a c ck L
theorem lt_of_heap {w : World} {g : Nat} {o : Obj} (h : w.heap[g]? = some o) : g < w.heap.size := (Array.getElem?_eq_some_iff.1 h).1
theorem Rf.lt {w : World} {p gc : Nat} {a : Option Addr} {c : Nat} {ck : List Int} {L : List Rt} (h : Rf w p gc a c ck L) : ∀ x ∈ p :: gc :: blkOf a, x < w.heap.size := fun x hx => by
  rcases List.mem_cons.1 hx with rfl | hx
  · exact lt_of_heap h.hp
  · rcases List.mem_cons.1 hx with rfl | hx
    · exact lt_of_heap h.hc
    · obtain ⟨y, hy, rfl⟩ := mem_blkOf.1 hx; exact h.row.lt y hy
theorem Rf.keep {w w' : World} {p gc : Nat} {a : Option Addr} {c : Nat} {ck : List Int} {L : List Rt} (h : Rf w p gc a c ck L) (hk : ∀ x ∈ p :: gc :: blkOf a, w'.heap[x]? = w.heap[x]?) : Rf w' p gc a c ck L :=
  ⟨(hk _ (by simp)).trans h.hp, (hk _ (by simp)).trans h.hc, h.row.keep fun x hx => hk x (by simp [hx]), h.ne, h.np, h.nc⟩
theorem Rf.below {w w' : World} {p gc : Nat} {a : Option Addr} {c : Nat} {ck : List Int} {L : List Rt} (h : Rf w p gc a c ck L) (b : Below w.heap.size w w') : Rf w' p gc a c ck L :=
  h.keep fun x hx => b.block x (h.lt x hx)
instance {p : Nat} {ck : List Int} {L : List Rt} : Stable (RefA p ck L) where
  lt := fun ⟨gc, a, c, e, h⟩ x hx => by subst e; exact h.lt x hx
  keep := fun ⟨gc, a, c, e, h⟩ hk => ⟨gc, a, c, e, h.keep (by subst e; exact hk)⟩
theorem Rf.cell0 {w : World} {p gc : Nat} {a : Option Addr} {c : Nat} {ck : List Int} {L : List Rt} (h : Rf w p gc a c ck L) : w.cell? ⟨p, 0, none⟩ = some (.slice (some ⟨gc, 0, none⟩) ck.length ck.length) := (cell_of_heap h.hp rfl).1
theorem Rf.cell1 {w : World} {p gc : Nat} {a : Option Addr} {c : Nat} {ck : List Int} {L : List Rt} (h : Rf w p gc a c ck L) : w.cell? ⟨p, 1, none⟩ = some (.slice a L.length c) ∧ w.frozen? ⟨p, 1, none⟩ = false := cell_of_heap h.hp rfl
theorem Rf.clk {w : World} {p gc : Nat} {a : Option Addr} {c : Nat} {ck : List Int} {L : List Rt} (h : Rf w p gc a c ck L) (j : Nat) (hj : j < ck.length) : w.cell? ⟨gc, j, none⟩ = some (.int .i64 ck[j]) ∧ w.frozen? ⟨gc, j, none⟩ = false :=
  cell_of_heap h.hc (by simp [ints, hj])

def rIs (ck : List Int) (i : Int) : Bool := decide (0 ≤ i ∧ i < ck.length)
set_option maxHeartbeats 800000 in
theorem rf_is (p gc : Nat) (a : Option Addr) (c : Nat) (ck : List Int) (L : List Rt) (i : Int) (w : World) (h : Rf w p gc a c ck L) : Calls Try.prog 26 #[.pointer (some ⟨p, 0, none⟩), .int .i64 i] w fun e w' => e = .returned (.bool (rIs ck i)) ∧ w = w' := by
  have hc := h.cell0
  have hr : Hid (rIs ck i = decide (0 ≤ i ∧ i < ck.length)) := Lib.hid rfl
  clear h
  generalize rIs ck i = r at *
  generalize ck.length = n at *
  by_cases h0 : 0 ≤ i
  · by_cases h1 : i < (n : Int)
    · have H : Hid (r = true) := Lib.hid (by rw [hr.out]; simp [h0, h1])
      clear hr
      go_enter Try.func26, Try.ntmps26
      go_wp2_with fail
      go_ret
      exact ⟨by rw [H.out]; first | rfl | simp [*] | (simp; omega), rfl⟩
    · have H : Hid (r = false) := Lib.hid (by rw [hr.out]; simp [h1])
      clear hr
      go_enter Try.func26, Try.ntmps26
      go_wp2_with fail
      go_ret
      exact ⟨by rw [H.out]; first | rfl | simp [*] | (simp; omega), rfl⟩
  · have H : Hid (r = false) := Lib.hid (by rw [hr.out]; simp [h0])
    clear hr
    go_enter Try.func26, Try.ntmps26
    go_wp2_with fail
    go_ret
    exact ⟨by rw [H.out]; first | rfl | simp [*] | (simp; omega), rfl⟩

/-- a new row of timers. -/
def NewRow (w : World) (l : List Rt) (v : Value) (wr : World) : Prop := ∃ a c, v = .slice a l.length c ∧ Row wr 64 4 a l.length c (flat4 l) ∧ Below w.heap.size w wr ∧ ∀ x ∈ blkOf a, w.heap.size ≤ x
theorem NewRow.nil (w : World) : NewRow w [] (.slice none 0 0) w := ⟨none, 0, rfl, Row.nil _ _ _, Below.refl _ _, fun x hx => by cases hx⟩
theorem NewRow.below {w wr wr' : World} {l : List Rt} {v : Value} (h : NewRow w l v wr) (b : Below wr.heap.size wr wr') : NewRow w l v wr' := by
  obtain ⟨a, c, hv, hr, hb, hf⟩ := h
  exact ⟨a, c, hv, hr.touch (Touch.of_below b []) (by simp), hb.trans (b.mono hb.size), hf⟩
theorem NewRow.app {w wr : World} {l : List Rt} {a : Option Addr} {n c : Nat} (h : NewRow w l (.slice a n c) wr) (t : Rt) (hbig : l.length ≤ 1000000) (ty : TypeId) :
    ∃ b' cap' w', (Builtin.append_ #[28, 28] ty #[.slice a n c, .slice (some ⟨wr.heap.size, 0, none⟩) 1 1]).run Try.prog (wr.alloc (.cells #[.int .i64 t.node, .int .i64 t.id, .int .i64 t.due, .int .i64 t.every] 64)) = .ok (.slice b' (n + 1) cap') w' ∧
      NewRow w (l ++ [t]) (.slice b' (n + 1) cap') w' := by
  obtain ⟨a', c', hv, hr, hb, hf⟩ := h
  simp only [Value.slice.injEq] at hv
  obtain ⟨rfl, rfl, rfl⟩ := hv
  obtain ⟨b', cap', w', h1, h2, h3, h4, _⟩ := app_rt wr ty a l.length c _ hr t hbig
  refine ⟨b', cap', w', h1, b', cap', by simp, ?_, ?_, fun x hx => ?_⟩
  · rw [flat4_append]; simpa [cells4, flat4] using h2
  · exact ((Touch.of_below hb []).trans (h3.mono (cs := blkOf a) fun x hx => .inl hx) (fun x hx => .inr (hf x hx))).keep
  · obtain ⟨y, hy, rfl⟩ := mem_blkOf.1 hx
    rcases h4 y hy with h' | h'
    · exact hf _ h'
    · have := hb.size; omega

def rWithout (L : List Rt) (node id : Int) : List Rt := L.filter fun t => t.node != node || t.id != id
theorem filter_take_succ {α : Type} (p : α → Bool) (L : List α) (k : Nat) (hk : k < L.length) : (L.take (k + 1)).filter p = (L.take k).filter p ++ (if p L[k] then [L[k]] else []) := by
  rw [List.take_succ_eq_append_getElem hk, List.filter_append]
  simp [List.filter_cons]
set_option maxRecDepth 100000 in
set_option maxHeartbeats 1600000 in
theorem rf_without (p gc : Nat) (a : Option Addr) (c : Nat) (ck : List Int) (L : List Rt) (node id : Int) (w : World) (h : Rf w p gc a c ck L) (hbig : L.length ≤ 100000) :
    Calls Try.prog 27 #[.pointer (some ⟨p, 0, none⟩), .int .i64 node, .int .i64 id] w fun e w' => ∃ v, e = .returned v ∧ NewRow w (rWithout L node id) v w' := by
  have hc := h.cell1.1
  have HR := Lib.hid h.row
  clear h
  have hfin : ∀ v w', NewRow w ((L.take L.length).filter fun t => t.node != node || t.id != id) v w' → ∃ v', Ending.returned v = .returned v' ∧ NewRow w (rWithout L node id) v' w' := fun v w' h => ⟨v, rfl, by rw [List.take_length] at h; exact h⟩
  have HFIN := Lib.hid hfin
  clear hfin
  generalize hQ : (fun e w' => ∃ v, e = Ending.returned v ∧ NewRow w (rWithout L node id) v w') = Q
  have HQ : Hid (∀ v w', (∃ v', Ending.returned v = .returned v' ∧ NewRow w (rWithout L node id) v' w') → Q (.returned v) w') := Lib.hid fun v w' h => by rw [← hQ]; exact h
  clear hQ
  have hn : L.length = L.length := rfl
  generalize hn2 : L.length = n at hc hbig
  have HN := Lib.hid hn2
  clear hn hn2
  go_enter Try.func27, Try.ntmps27
  go_wp2_with fail
  go_loopw [7, 15] (fun v j wr => ∃ k : Nat, k ≤ n ∧ j = .int .i64 k ∧ Hid (NewRow w ((L.take k).filter fun t => t.node != node || t.id != id) v wr)) (fun _ j _ => n - (intOf j).toNat)
  case atStart => exact ⟨0, Nat.zero_le _, rfl, Lib.hid (NewRow.nil w)⟩
  case round =>
    obtain ⟨k, hk, rfl, hrl⟩ := hrel
    by_cases hlt : k < n
    · obtain ⟨ao, co, rfl, hrow, hb, hf⟩ := hrl.out
      have hk2 : k < L.length := by rw [HN.out]; exact hlt
      obtain ⟨g, rfl, hcs⟩ := flat4_cells HR.out k hk2
      obtain ⟨hx0, hx1, hx2, hx3⟩ := hcs.below hb
      have hol : ((L.take k).filter fun t => t.node != node || t.id != id).length ≤ 100000 := Nat.le_trans (List.length_filter_le _ _) (by rw [List.length_take]; omega)
      have HFT := Lib.hid (filter_take_succ (fun t : Rt => t.node != node || t.id != id) L k hk2)
      have HNR := Lib.hid (NewRow.below hrl.out (Below.alloc (Below.refl wr.heap.size wr) (Nat.le_refl _) (.cells #[.int .i64 L[k].node, .int .i64 L[k].id, .int .i64 L[k].due, .int .i64 L[k].every] 64)))
      have HAP := Lib.hid fun ty => HNR.out.app L[k] (by omega) ty
      rw [show (wr.alloc (.cells #[.int .i64 L[k].node, .int .i64 L[k].id, .int .i64 L[k].due, .int .i64 L[k].every] 64)).heap.size = wr.heap.size + 1 by simp] at HAP
      clear hrl hcs hrow hb hf
      generalize hlk : L[k] = t at *
      clear hlk
      obtain ⟨tn, ti, td, te⟩ := t
      simp only at hx0 hx1 hx2 hx3 HAP HNR HFT
      generalize (L.take k).filter (fun t => t.node != node || t.id != id) = fl at *
      generalize hfl : fl.length = m at *
      clear hfl
      by_cases hq : (tn != node || ti != id) = true
      · rw [if_pos hq] at HFT
        obtain ⟨b', cap', w3, hrun, hnr⟩ := HAP.out 28
        have HRUN := Lib.hid hrun
        have HNX := Lib.hid hnr
        rw [← HFT.out] at HNX
        clear hrun hnr HAP HNR HFT
        have hq2 : ((tn != node) = true) ∨ ((tn != node) = false ∧ (ti != id) = true) := by
          cases h1 : (tn != node) with
          | true => exact .inl rfl
          | false => rw [h1, Bool.false_or] at hq; exact .inr ⟨rfl, hq⟩
        clear hq
        rcases hq2 with hq1 | ⟨hq1, hq2⟩
        all_goals
          go_wp2_with ((at_builtin; refine wpList_appendR _ rfl (.tmp 29) (.tmp 31) 28 28 rfl (.slice ao m co) (.slice (some ⟨wr.heap.size + 1, 0, none⟩) 1 1) rfl rfl HRUN.out ?_))
          go_roundw
          case rel => exact ⟨k + 1, by omega, by go_num, HNX⟩
          case measure => simp [intOf]; omega
      · rw [if_neg hq, List.append_nil] at HFT
        have HNX := HNR
        rw [← HFT.out] at HNX
        clear HAP HNR HFT
        have hq2 : (tn != node) = false ∧ (ti != id) = false := by
          cases h1 : (tn != node) with
          | true => rw [h1] at hq; simp at hq
          | false => rw [h1, Bool.false_or] at hq; exact ⟨rfl, by simpa using hq⟩
        obtain ⟨hq1, hq2⟩ := hq2
        clear hq
        go_wp2_with fail
        go_roundw
        case rel => exact ⟨k + 1, by omega, by go_num, HNX⟩
        case measure => simp [intOf]; omega
    · obtain rfl : k = n := by omega
      have HX := Lib.hid (fun v w' h => HQ.out v w' (HFIN.out v w' (by rw [HN.out]; exact h)))
      have HY := Lib.hid (HX.out _ _ hrl.out)
      clear HX HFIN HQ hrl
      go_wp2_with fail
      exact HY.out
end Go.Proofs.Ytcolaafgjlaikaa
