/- The reference's Set walked. -/
import Derived.Test.YtcolaafgjlaikaaJJ
import Derived.IntWalk
namespace Go.Proofs.Ytcolaafgjlaikaa
open Go.RowKit

set_option maxHeartbeats 800000 in
theorem rf_set_bad (p : Nat) (i id after every : Int) (hb : okSet id after every = false) (w : World) :
    Calls Try.prog 9 #[.pointer (some ⟨p, 0, none⟩), .int .i64 i, .int .i64 id, .int .i64 after, .int .i64 every] w fun e w' => e = .returned (.int .i64 1) ∧ w = w' := by
  have hb' := of_decide_eq_false hb
  clear hb
  by_cases h1 : id < 0
  · clear hb'
    go_enter Try.func9, Try.ntmps9
    go_wp2_with fail
    go_ret
    exact ⟨rfl, rfl⟩
  by_cases h2 : after < 1
  · clear hb'
    go_enter Try.func9, Try.ntmps9
    go_wp2_with fail
    go_ret
    exact ⟨rfl, rfl⟩
  by_cases h3 : 1099511627776 < after
  · clear hb'
    go_enter Try.func9, Try.ntmps9
    go_wp2_with fail
    go_ret
    exact ⟨rfl, rfl⟩
  by_cases h4 : every < 0
  · clear hb'
    go_enter Try.func9, Try.ntmps9
    go_wp2_with fail
    go_ret
    exact ⟨rfl, rfl⟩
  have h5 : 1099511627776 < every := by omega
  clear hb'
  go_enter Try.func9, Try.ntmps9
  go_wp2_with fail
  go_ret
  exact ⟨rfl, rfl⟩
set_option maxHeartbeats 800000 in
theorem rf_set_out (p : Nat) (ck : List Int) (L : List Rt) (i id after every : Int) (hb : okSet id after every = true) (hi : rIs ck i = false) (w : World) (D : List Nat) (h : RefA p ck L w D) :
    Calls Try.prog 9 #[.pointer (some ⟨p, 0, none⟩), .int .i64 i, .int .i64 id, .int .i64 after, .int .i64 every] w fun e w' => e = .returned (.int .i64 6) ∧ w = w' := by
  obtain ⟨gc, a, c, rfl, hf⟩ := h
  have HI := Lib.hid (rf_is p gc a c ck L i w hf)
  rw [hi] at HI
  obtain ⟨h1, h2, h3, h4, h5⟩ := of_decide_eq_true hb
  clear hb hf hi
  go_enter Try.func9, Try.ntmps9
  go_wp2_with fail
  refine HI.out.mono ?_
  rintro e _ ⟨rfl, rfl⟩
  go_wp2_with fail
  go_ret
  exact ⟨rfl, rfl⟩

def cntN (node : Int) (l : List Rt) : Nat := (l.filter fun t => t.node == node).length
theorem cntN_take (node : Int) (l : List Rt) (k : Nat) (hk : k < l.length) : cntN node (l.take (k + 1)) = cntN node (l.take k) + if l[k].node == node then 1 else 0 := by
  unfold cntN
  rw [filter_take_succ _ l k hk, List.length_append]
  split <;> rfl
/-- where the number lies. -/
theorem tw_len (id : Int) (l : List Rt) (k : Nat) (hk : k ≤ l.length) (h1 : ∀ j (h : j < l.length), j < k → l[j].id < id) (h2 : ∀ h : k < l.length, ¬ l[k].id < id) :
    l.takeWhile (fun t => decide (t.id < id)) = l.take k ∧ l.dropWhile (fun t => decide (t.id < id)) = l.drop k := by
  induction l generalizing k with
  | nil => simp at hk; subst hk; simp
  | cons x r ih =>
    cases k with
    | zero =>
      have := h2 (by simp)
      simp only [List.getElem_cons_zero] at this
      simp [this]
    | succ k =>
      have hx := h1 0 (by simp) (by omega)
      simp only [List.getElem_cons_zero] at hx
      obtain ⟨e1, e2⟩ := ih k (by simpa using hk) (fun j h hj => h1 (j + 1) (by simpa using h) (by omega)) (fun h => h2 (by simpa using h))
      simp [hx, e1, e2]

theorem flat4_take (l : List Rt) (k : Nat) : (flat4 l).take (k * 4) = flat4 (l.take k) := by
  induction l generalizing k with
  | nil => simp [flat4]
  | cons t r ih =>
    cases k with
    | zero => simp [flat4]
    | succ k =>
      rw [show (k + 1) * 4 = k * 4 + 1 + 1 + 1 + 1 by omega]
      simp [flat4, ih k]
theorem flat4_drop (l : List Rt) (k : Nat) : (flat4 l).drop (k * 4) = flat4 (l.drop k) := by
  induction l generalizing k with
  | nil => simp [flat4]
  | cons t r ih =>
    cases k with
    | zero => simp [flat4]
    | succ k =>
      rw [show (k + 1) * 4 = k * 4 + 1 + 1 + 1 + 1 by omega]
      simp [flat4, ih k]
/-- []Timer{} and l[:q] behind it. -/
theorem chain1 {V : World} {g0 : Nat} {al : Option Addr} {k cl q : Nat} {l : List Rt} (hr : Row V 64 4 al k cl (flat4 l)) (hg0 : V.heap[g0]? = some (.cells #[] 64 (0, 0))) (hlk : l.length = k) (hq : q ≤ k) (hk : k ≤ 1000) (hn : al = none → q = 0) :
    ∃ b1 c1 V2, (Builtin.append_ #[28, 28] 28 #[.slice (some ⟨g0, 0, none⟩) 0 0, .slice al q cl]).run Try.prog V = .ok (.slice b1 q c1) V2 ∧ Row V2 64 4 b1 q c1 (flat4 (l.take q)) ∧ Touch [g0] V V2 ∧ ∀ x ∈ blkOf b1, x = g0 ∨ V.heap.size ≤ x := by
  obtain ⟨i0, hi, hz0, hz1, hz2⟩ := info_parts info64
  have hr0 : Row V 64 4 (some ⟨g0, 0, none⟩) 0 0 [] := Row.mk hg0 (Nat.le_refl _) (Nat.zero_le _) rfl rfl
  rcases hr.out with ⟨rfl, rfl, rfl, _⟩ | ⟨g, cur, rfl, hg, hnc, hcm, hcs, htk, hxl⟩
  · obtain rfl := hn rfl
    refine ⟨_, _, V, run_append_none V 28 28 64 i0 Try.underlying28 hi _ 0 0 0 (Nat.le_refl _), by simpa [flat4] using hr0, Touch.refl _ _, fun x hx => ?_⟩
    simp [blkOf] at hx; exact .inl hx
  · obtain ⟨b1, c1, V2, h1, h2, h3, h4⟩ := run_append_row (P := Try.prog) V 28 28 64 i0 (.agg #[.int .i64 0, .int .i64 0, .int .i64 0, .int .i64 0]) 4 32 Try.underlying28 hi hz0 hz1 hz2 rfl (by decide) (some ⟨g0, 0, none⟩) 0 0 [] hr0 ⟨g, 0, none⟩ q cl (flat4 (l.take q))
      (by rw [flat4_len, List.length_take]; rw [Nat.min_eq_left (by omega)])
      (fun j u hj => by
        obtain ⟨hj', e⟩ := List.getElem?_eq_some_iff.1 hj
        rw [← flat4_take] at hj
        rw [List.getElem?_take] at hj
        split at hj
        · obtain ⟨hj2, e2⟩ := List.getElem?_eq_some_iff.1 hj
          obtain ⟨g', e', hc⟩ := hr.cellAt j hj2
          simp only [Option.some.injEq, Addr.mk.injEq, and_true] at e'
          subst e'
          rw [Addr.add_lit, Nat.zero_add, hc, e2]
        · cases hj) (flat4_one _) (by unfold maxLen; omega) (by omega)
    refine ⟨b1, c1, V2, by simpa using h1, by simpa using h2, h3, fun x hx => ?_⟩
    obtain ⟨y, hy, rfl⟩ := mem_blkOf.1 hx
    rcases h4 y hy with h | h
    · simp [blkOf] at h; exact .inl h
    · exact .inr h
/-- the timer behind it, and l[q:]. -/
theorem chain2 {V : World} {vb : Nat} {al b1 : Option Addr} {k cl q c1 q' d : Nat} {x : Option Addr} {l : List Rt} {t : Rt} (hr : Row V 64 4 al k cl (flat4 l)) (hrb : Row V 64 4 b1 q c1 (flat4 (l.take q))) (hvb : V.heap[vb]? = some (.cells #[.int .i64 t.node, .int .i64 t.id, .int .i64 t.due, .int .i64 t.every] 64 (0, 0)))
    (hlk : l.length = k) (hq : q ≤ k) (hk : k ≤ 1000) (hb1 : ∀ y ∈ blkOf al, y ∉ blkOf b1) (hx : (x = none ∧ q' = 0 ∧ k = q) ∨ (∃ y, x = some y ∧ q' = k - q ∧ ∀ g, al = some ⟨g, 0, none⟩ → q < k → y = ⟨g, q * 4, none⟩)) :
    ∃ b2 c2 V4 b3 c3 V5, (Builtin.append_ #[28, 28] 28 #[.slice b1 q c1, .slice (some ⟨vb, 0, none⟩) 1 1]).run Try.prog V = .ok (.slice b2 (q + 1) c2) V4 ∧ (Builtin.append_ #[28, 28] 28 #[.slice b2 (q + 1) c2, .slice x q' d]).run Try.prog V4 = .ok (.slice b3 (q + 1 + q') c3) V5
      ∧ Row V5 64 4 b3 (q + 1 + q') c3 (flat4 (l.take q ++ t :: l.drop q)) ∧ Touch (blkOf b1) V V5 ∧ (∀ y ∈ blkOf b3, y ∈ blkOf b1 ∨ V.heap.size ≤ y) ∧ Touch (blkOf b1) V V4 := by
  obtain ⟨i0, hi, hz0, hz1, hz2⟩ := info_parts info64
  obtain ⟨b2, c2, V4, h1, h2, h3, h4⟩ := run_append_row (P := Try.prog) V 28 28 64 i0 (.agg #[.int .i64 0, .int .i64 0, .int .i64 0, .int .i64 0]) 4 32 Try.underlying28 hi hz0 hz1 hz2 rfl (by decide) b1 q c1 _ hrb ⟨vb, 0, none⟩ 1 1 (cells4 t) rfl
    (fun j u hj => by
      have hc := fun i v h => (cell_of_heap (i := i) (v := v) hvb h).1
      match j, hj with
      | 0, hj => simp only [cells4, List.getElem?_cons_zero, Option.some.injEq] at hj; subst hj; exact hc 0 _ rfl
      | 1, hj => simp only [cells4, List.getElem?_cons_succ, List.getElem?_cons_zero, Option.some.injEq] at hj; subst hj; exact hc 1 _ rfl
      | 2, hj => simp only [cells4, List.getElem?_cons_succ, List.getElem?_cons_zero, Option.some.injEq] at hj; subst hj; exact hc 2 _ rfl
      | 3, hj => simp only [cells4, List.getElem?_cons_succ, List.getElem?_cons_zero, Option.some.injEq] at hj; subst hj; exact hc 3 _ rfl
      | j + 4, hj => simp [cells4] at hj) (by simp [cells4, Value.oneCell']) (by unfold maxLen; omega) (by omega)
  have hfl : flat4 (l.take q ++ t :: l.drop q) = flat4 (l.take q) ++ cells4 t ++ flat4 (l.drop q) := by
    rw [flat4_append]; simp [cells4, flat4]
  have hf2 : ∀ y ∈ blkOf b2, y ∈ blkOf b1 ∨ V.heap.size ≤ y := fun y hy => by
    obtain ⟨z, hz, rfl⟩ := mem_blkOf.1 hy
    exact h4 z hz
  rcases hx with ⟨rfl, rfl, rfl⟩ | ⟨y, rfl, rfl, hy⟩
  · refine ⟨b2, c2, V4, b2, c2, V4, h1, ?_, ?_, h3, hf2, h3⟩
    · have hnc : k + 1 ≤ c2 := by
        rcases h2.out with ⟨_, h, _⟩ | ⟨_, _, _, _, h, _⟩
        · omega
        · exact h
      exact run_append_none V4 28 28 64 i0 Try.underlying28 hi b2 (k + 1) c2 d hnc
    · rw [hfl, List.drop_of_length_le (by omega)]
      simpa [flat4] using h2
  · have hr4 : Row V4 64 4 al k cl (flat4 l) := hr.touch h3 fun z hz hm => hb1 z.block (mem_blkOf.2 ⟨z, hz, rfl⟩) hm
    obtain ⟨b3, c3, V5, k1, k2, k3, k4⟩ := run_append_row (P := Try.prog) V4 28 28 64 i0 (.agg #[.int .i64 0, .int .i64 0, .int .i64 0, .int .i64 0]) 4 32 Try.underlying28 hi hz0 hz1 hz2 rfl (by decide) b2 (q + 1) c2 _ h2 y (k - q) d (flat4 (l.drop q))
      (by rw [flat4_len, List.length_drop, hlk])
      (fun j u hj => by
        obtain ⟨hj', e⟩ := List.getElem?_eq_some_iff.1 hj
        rw [flat4_len, List.length_drop, hlk] at hj'
        have hqk : q < k := by omega
        rcases hr4.out with ⟨_, h, _⟩ | ⟨g, cur, rfl, _⟩
        · omega
        · obtain rfl := hy g rfl hqk
          rw [← flat4_drop, List.getElem?_drop] at hj
          obtain ⟨hj2, e2⟩ := List.getElem?_eq_some_iff.1 hj
          obtain ⟨g', e', hc⟩ := hr4.cellAt (q * 4 + j) hj2
          simp only [Option.some.injEq, Addr.mk.injEq, and_true] at e'
          subst e'
          rw [Addr.add_lit, hc, e2]) (flat4_one _) (by unfold maxLen; omega) (by omega)
    refine ⟨b2, c2, V4, b3, c3, V5, h1, k1, by rw [hfl]; exact k2, h3.trans k3 hf2, fun z hz => ?_, h3⟩
    obtain ⟨z', hz', rfl⟩ := mem_blkOf.1 hz
    rcases k4 z' hz' with h | h
    · exact hf2 _ h
    · exact .inr (Nat.le_trans h3.size h)

theorem set_fin {V : World} {p gc : Nat} {a : Option Addr} {c : Nat} {ck : List Int} {L : List Rt} (hrf : Rf V p gc a c ck L) (j : Nat) (hj : j < ck.length) (v : Value) :
    (V.setCell ⟨p, 1, none⟩ v).cell? ⟨p, 0, none⟩ = some (.slice (some ⟨gc, 0, none⟩) ck.length ck.length) ∧ (V.setCell ⟨p, 1, none⟩ v).cell? ⟨gc, j, none⟩ = some (.int .i64 ck[j]) :=
  ⟨(cell_of_heap (heap_set hrf.hp v) rfl).1, (Touch.setCell (bs := [p]) V ⟨p, 1, none⟩ v (by simp)).cell (hrf.clk j hj).1 (by simpa using hrf.ne.symm)⟩
/-- one of the orders, to its end. -/
structure Ord (w wr V2 : World) (p gc : Nat) (a : Option Addr) (c : Nat) (ck : List Int) (L L' : List Rt) (j : Nat) (W : World) (b1 b2 b3 : Option Addr) (q c1 c2 c3 q' d vb : Nat) (x : Option Addr) (V4 V5 : World) : Prop where
  r2 : (Builtin.append_ #[28, 28] 28 #[.slice b1 q c1, .slice (some ⟨vb, 0, none⟩) 1 1]).run Try.prog W = .ok (.slice b2 (q + 1) c2) V4
  r3 : (Builtin.append_ #[28, 28] 28 #[.slice b2 (q + 1) c2, .slice x q' d]).run Try.prog V4 = .ok (.slice b3 (q + 1 + q') c3) V5
  l2 : Below wr.heap.size wr V2
  l3 : Below wr.heap.size wr W
  l5 : Below wr.heap.size wr V5
  fin : RPost w (p :: gc :: blkOf a) p (.returned (.int .i64 0)) ck L' (.returned (.int .i64 0)) (V5.setCell ⟨p, 1, none⟩ (.slice b3 (q + 1 + q') c3))
theorem ord_mk {w wr V2 W : World} {p gc : Nat} {a : Option Addr} {c : Nat} {ck : List Int} {L L' l : List Rt} {j : Nat} {al b1 : Option Addr} {k cl q c1 q' d vb : Nat} {x : Option Addr} {t : Rt}
    (hf : Rf w p gc a c ck L) (hbw : Below w.heap.size w wr) (hr : Row wr 64 4 al k cl (flat4 l)) (h2 : Below wr.heap.size wr V2) (h3 : Below V2.heap.size V2 W) (hrb : Row W 64 4 b1 q c1 (flat4 (l.take q))) (hfr : ∀ y ∈ blkOf b1, wr.heap.size ≤ y)
    (hvb : W.heap[vb]? = some (.cells #[.int .i64 t.node, .int .i64 t.id, .int .i64 t.due, .int .i64 t.every] 64 (0, 0))) (hlk : l.length = k) (hq : q ≤ k) (hk : k ≤ 1000)
    (hx : (x = none ∧ q' = 0 ∧ k = q) ∨ (∃ y, x = some y ∧ q' = k - q ∧ ∀ g, al = some ⟨g, 0, none⟩ → q < k → y = ⟨g, q * 4, none⟩)) (hL : L' = l.take q ++ t :: l.drop q) :
    ∃ b2 c2 V4 b3 c3 V5, Ord w wr V2 p gc a c ck L L' j W b1 b2 b3 q c1 c2 c3 q' d vb x V4 V5 ∧ Below wr.heap.size wr V4 := by
  have hW : Below wr.heap.size wr W := h2.trans (h3.mono h2.size)
  have hr3 := hr.touch (Touch.of_below hW []) (by simp)
  have hall : ∀ y ∈ blkOf al, y < wr.heap.size := fun y hy => by obtain ⟨z, hz, rfl⟩ := mem_blkOf.1 hy; exact hr.lt z hz
  obtain ⟨b2, c2, V4, b3, c3, V5, k1, k2, k3, k4, k5, k6⟩ := chain2 (d := d) hr3 hrb hvb hlk hq hk (fun y hy hm => by have := hall y hy; have := hfr y hm; omega) hx
  have hV5 : Below wr.heap.size wr V5 := ((Touch.of_below hW []).trans k4 fun y hy => .inr (hfr y hy)).keep
  have hf3 : ∀ y ∈ blkOf b3, wr.heap.size ≤ y := fun y hy => by
    rcases k5 y hy with h | h
    · exact hfr y h
    · have := hW.size; omega
  have hlen : L'.length = q + 1 + q' := by
    have := k3.len
    rw [← hL, flat4_len] at this
    omega
  have hV4 : Below wr.heap.size wr V4 := ((Touch.of_below hW []).trans k6 fun y hy => .inr (hfr y hy)).keep
  refine ⟨b2, c2, V4, b3, c3, V5, ⟨k1, k2, h2, hW, hV5, rf_store hf ⟨b3, c3, by rw [hlen], by rw [hlen, hL]; exact k3, hbw.trans (hV5.mono hbw.size), fun y hy => Nat.le_trans hbw.size (hf3 y hy)⟩ _⟩, hV4⟩

theorem bel_new (wr : World) (o : Obj) : Below wr.heap.size wr (wr.alloc o) := Below.alloc (Below.refl _ _) (Nat.le_refl _) _
theorem heap_alloc_at (w : World) (o : Obj) (n : Nat) (h : n = w.heap.size) : (w.alloc o).heap[n]? = some o := by rw [h]; exact heap_alloc_new w o
theorem heap_drew (w : World) (g : Nat) : w.drew.heap[g]? = w.heap[g]? := rfl
/-- the first order: []Timer{}, l[:q], the timer. -/
theorem order1 {w wr : World} {p gc : Nat} {a : Option Addr} {c : Nat} {ck : List Int} {L L' l : List Rt} {j : Nat} {al : Option Addr} {k cl q q' d : Nat} {x : Option Addr} {t : Rt}
    (hf : Rf w p gc a c ck L) (hbw : Below w.heap.size w wr) (hr : Row wr 64 4 al k cl (flat4 l)) (hlk : l.length = k) (hq : q ≤ k) (hk : k ≤ 1000) (hn : al = none → q = 0)
    (hx : (x = none ∧ q' = 0 ∧ k = q) ∨ (∃ y, x = some y ∧ q' = k - q ∧ ∀ g, al = some ⟨g, 0, none⟩ → q < k → y = ⟨g, q * 4, none⟩)) (hL : L' = l.take q ++ t :: l.drop q) :
    ∃ b1 c1 V2, (Builtin.append_ #[28, 28] 28 #[.slice (some ⟨wr.heap.size, 0, none⟩) 0 0, .slice al q cl]).run Try.prog (wr.alloc (.cells #[] 64)).drew = .ok (.slice b1 q c1) V2 ∧
      ∃ b2 c2 V4 b3 c3 V5, Ord w wr V2 p gc a c ck L L' j (V2.alloc (.cells #[.int .i64 t.node, .int .i64 t.id, .int .i64 t.due, .int .i64 t.every] 64)) b1 b2 b3 q c1 c2 c3 q' d V2.heap.size x V4 V5 ∧ Below wr.heap.size wr V4 := by
  have h1 : Below wr.heap.size wr (wr.alloc (.cells #[] 64)).drew := (bel_new wr _).drew
  obtain ⟨b1, c1, V2, r1, row1, t1, f1⟩ := chain1 (V := (wr.alloc (.cells #[] 64)).drew) (g0 := wr.heap.size) (q := q) (hr.touch (Touch.of_below h1 []) (by simp)) (heap_alloc_new wr _) hlk hq hk hn
  have hf1 : ∀ y ∈ blkOf b1, wr.heap.size ≤ y := fun y hy => by
    rcases f1 y hy with h | h
    · omega
    · have := h1.size; omega
  have h2 : Below wr.heap.size wr V2 := ((Touch.of_below h1 []).trans t1 fun y hy => .inr (by simp at hy; omega)).keep
  exact ⟨b1, c1, V2, r1, ord_mk hf hbw hr h2 (bel_new V2 _) (row1.touch (Touch.of_below (bel_new V2 _) []) (by simp)) hf1 (heap_alloc_new V2 _) hlk hq hk hx hL⟩
/-- the second: []Timer{}, the timer, l[:q]. -/
theorem order2 {w wr : World} {p gc : Nat} {a : Option Addr} {c : Nat} {ck : List Int} {L L' l : List Rt} {j : Nat} {al : Option Addr} {k cl q q' d : Nat} {x : Option Addr} {t : Rt} {V1 : World} {g0 vb : Nat}
    (hf : Rf w p gc a c ck L) (hbw : Below w.heap.size w wr) (hr : Row wr 64 4 al k cl (flat4 l)) (h1 : Below wr.heap.size wr V1) (hg0 : V1.heap[g0]? = some (.cells #[] 64 (0, 0))) (hg1 : wr.heap.size ≤ g0)
    (hvb : V1.heap[vb]? = some (.cells #[.int .i64 t.node, .int .i64 t.id, .int .i64 t.due, .int .i64 t.every] 64 (0, 0))) (hne : vb ≠ g0) (hlk : l.length = k) (hq : q ≤ k) (hk : k ≤ 1000) (hn : al = none → q = 0)
    (hx : (x = none ∧ q' = 0 ∧ k = q) ∨ (∃ y, x = some y ∧ q' = k - q ∧ ∀ g, al = some ⟨g, 0, none⟩ → q < k → y = ⟨g, q * 4, none⟩)) (hL : L' = l.take q ++ t :: l.drop q) :
    ∃ b1 c1 V2, (Builtin.append_ #[28, 28] 28 #[.slice (some ⟨g0, 0, none⟩) 0 0, .slice al q cl]).run Try.prog V1 = .ok (.slice b1 q c1) V2 ∧
      ∃ b2 c2 V4 b3 c3 V5, Ord w wr V2 p gc a c ck L L' j V2 b1 b2 b3 q c1 c2 c3 q' d vb x V4 V5 ∧ Below wr.heap.size wr V4 := by
  obtain ⟨b1, c1, V2, r1, row1, t1, f1⟩ := chain1 (V := V1) (g0 := g0) (q := q) (hr.touch (Touch.of_below h1 []) (by simp)) hg0 hlk hq hk hn
  have hf1 : ∀ y ∈ blkOf b1, wr.heap.size ≤ y := fun y hy => by
    rcases f1 y hy with h | h
    · omega
    · have := h1.size; omega
  have h2 : Below wr.heap.size wr V2 := ((Touch.of_below h1 []).trans t1 fun y hy => .inr (by simp at hy; omega)).keep
  exact ⟨b1, c1, V2, r1, ord_mk hf hbw hr h2 (Below.refl _ _) row1 hf1 (t1.heap hvb (by simpa using hne)) hlk hq hk hx hL⟩
theorem orders3 : True := trivial

set_option maxRecDepth 100000 in
set_option maxHeartbeats 8000000 in
theorem rf_set_ok (p : Nat) (ck : List Int) (L : List Rt) (j : Nat) (hj : j < ck.length) (id after every : Int) (hb : okSet id after every = true) (w : World) (D : List Nat) (h : RefA p ck L w D) (hbig : L.length ≤ 1000) (hc0 : 0 ≤ ck[j]) (hc1 : ck[j] ≤ 1099511627776)
    (R : Ending → World → Prop) (hR7 : 64 ≤ cntN j (rWithout L j id) → ∀ w', Below w.heap.size w w' → R (.returned (.int .i64 7)) w')
    (hR0 : ¬ 64 ≤ cntN j (rWithout L j id) → ∀ w', RPost w D p (.returned (.int .i64 0)) ck (rSetL ck L j id after every) (.returned (.int .i64 0)) w' → R (.returned (.int .i64 0)) w') :
    Calls Try.prog 9 #[.pointer (some ⟨p, 0, none⟩), .int .i64 j, .int .i64 id, .int .i64 after, .int .i64 every] w R := by
  obtain ⟨gc, a, c, rfl, hf⟩ := h
  have HI := Lib.hid (rf_is p gc a c ck L j w hf)
  rw [show rIs ck j = true from decide_eq_true (by omega)] at HI
  have HW := Lib.hid (rf_without p gc a c ck L j id w hf (by omega))
  obtain ⟨h1, h2, h3, h4, h5⟩ := of_decide_eq_true hb
  have d1 : decide (id < 0) = false := decide_eq_false (by omega)
  have d2 : decide (after < 1) = false := decide_eq_false (by omega)
  have d3 : decide (1099511627776 < after) = false := decide_eq_false (by omega)
  have d4 : decide (every < 0) = false := decide_eq_false (by omega)
  have d5 : decide (1099511627776 < every) = false := decide_eq_false (by omega)
  have HR7 := Lib.hid hR7
  have HR0 := Lib.hid hR0
  have HST := Lib.hid fun w1 L' a' n' c' (hn : NewRow w L' (.slice a' n' c') w1) => rf_store hf hn (.returned (.int .i64 0))
  have HRF := Lib.hid hf
  have hll : (rWithout L j id).length ≤ 1000 := Nat.le_trans (List.length_filter_le _ _) hbig
  have HSL : Hid (∀ k, k ≤ (rWithout L j id).length → (∀ i (h : i < (rWithout L j id).length), i < k → (rWithout L j id)[i].id < id) → (∀ h : k < (rWithout L j id).length, ¬ (rWithout L j id)[k].id < id) → rSetL ck L j id after every = (rWithout L j id).take k ++ ⟨j, id, ck[j] + after, every⟩ :: (rWithout L j id).drop k) := Lib.hid fun k hk a1 a2 => by
    obtain ⟨e1, e2⟩ := tw_len id _ k hk a1 a2
    unfold rSetL
    rw [e1, e2]
    simp [List.getD, hj]
  clear hR7 hR0 hf hb
  generalize rSetL ck L j id after every = L' at *
  generalize rWithout L j id = l at *
  have HJ := Lib.hid hj
  go_enter Try.func9, Try.ntmps9
  go_wp2_with fail
  refine HI.out.mono ?_
  rintro e _ ⟨rfl, rfl⟩
  go_wp2_with fail
  refine HW.out.mono ?_
  rintro e w1 ⟨v, rfl, al, cl, rfl, hrow, hbel, hfr⟩
  have HROW := Lib.hid hrow
  have HBEL := Lib.hid hbel
  have HFR := Lib.hid hfr
  clear hrow hbel hfr
  generalize hln : l.length = n at hll HROW
  have HN := Lib.hid hln
  clear hln
  have hz : Hid (cntN j (l.take 0) = 0) := Lib.hid rfl
  go_wp2_with fail
  go_loopw [12, 44] (fun nv kv wr => ∃ k : Nat, k ≤ n ∧ kv = .int .i64 k ∧ nv = .int .i64 (cntN j (l.take k)) ∧ cntN j (l.take k) ≤ k ∧ Hid (Below w1.heap.size w1 wr)) (fun _ kv _ => n - (intOf kv).toNat)
  case atStart => exact ⟨0, Nat.zero_le _, rfl, rfl, Nat.le_refl _, Lib.hid (Below.refl _ _)⟩
  case round =>
    obtain ⟨k, hk, rfl, rfl, hcn, hbl⟩ := hrel
    by_cases hlt : k < n
    · have hk2 : k < l.length := by rw [HN.out]; exact hlt
      obtain ⟨g, rfl, hcs⟩ := flat4_cells HROW.out k hk2
      obtain ⟨hx0, hx1, hx2, hx3⟩ := hcs.below hbl.out
      have HCT := Lib.hid (cntN_take j l k hk2)
      have HB2 := Lib.hid (hbl.out.alloc hbl.out.size (.cells #[.int .i64 l[k].node, .int .i64 l[k].id, .int .i64 l[k].due, .int .i64 l[k].every] 64))
      clear hcs hbl
      generalize hlk : l[k] = t at *
      clear hlk
      obtain ⟨tn, ti, td, te⟩ := t
      simp only at hx0 hx1 hx2 hx3
      generalize cntN j (l.take k) = cc at *
      by_cases hq : tn = (j : Int)
      · have hqb : (tn == (j : Int)) = true := beq_iff_eq.2 hq
        have HCT2 : Hid (cntN j (l.take (k + 1)) = cc + 1) := Lib.hid (by rw [HCT.out]; simp [hq])
        clear hq
        go_wp2_with fail
        go_roundw
        case rel => exact ⟨k + 1, by omega, by go_num, by rw [HCT2.out]; go_num, by rw [HCT2.out]; omega, HB2⟩
        case measure => simp [intOf]; omega
      · have hqb : (tn == (j : Int)) = false := beq_eq_false_iff_ne.2 hq
        have HCT2 : Hid (cntN j (l.take (k + 1)) = cc) := Lib.hid (by rw [HCT.out]; simp [hq])
        clear hq
        go_wp2_with fail
        go_roundw
        case rel => exact ⟨k + 1, by omega, by go_num, by rw [HCT2.out], by rw [HCT2.out]; omega, HB2⟩
        case measure => simp [intOf]; omega
    · obtain rfl : k = n := by omega
      have hlk : l.take k = l := by rw [← HN.out, List.take_length]
      rw [hlk] at hcn ⊢
      clear hlk
      by_cases h64 : 64 ≤ cntN j l
      · have hF := Lib.hid (HR7.out h64 wr (HBEL.out.trans (hbl.out.mono HBEL.out.size)))
        have h64i : (64 : Int) ≤ (cntN j l : Int) := by omega
        go_wp2_with fail
        exact hF.out
      · have HR0' := Lib.hid (HR0.out h64)
        have h64i : ¬ (64 : Int) ≤ (cntN j l : Int) := by omega
        clear HR7 HR0
        go_wp2_with fail
        have HSL2 := HSL
        have HRW := Lib.hid (HROW.out.touch (Touch.of_below hbl.out []) (by simp))
        have HRF2 := Lib.hid (HRF.out.below (HBEL.out.trans (hbl.out.mono HBEL.out.size)))
        have HBW := Lib.hid (HBEL.out.trans (hbl.out.mono HBEL.out.size))
        clear HSL hcn hbl HROW h64 h64i
        go_loop [15] (fun av => ∃ q : Nat, q ≤ k ∧ av = .int .i64 q ∧ Hid (∀ i (h : i < l.length), i < q → l[i].id < id)) (fun av => k - (intOf av).toNat)
        case atStart => exact ⟨0, Nat.zero_le _, rfl, Lib.hid fun i _ h => absurd h (Nat.not_lt_zero _)⟩
        case round =>
          obtain ⟨q, hq, rfl, hall⟩ := hrel
          by_cases hlt2 : q < k
          · have hq2 : q < l.length := by rw [HN.out]; exact hlt2
            obtain ⟨g, rfl, hcs⟩ := flat4_cells HRW.out q hq2
            obtain ⟨hx0, hx1, hx2, hx3⟩ := hcs
            by_cases hid : l[q].id < id
            · have hdb : decide (l[q].id < id) = true := decide_eq_true hid
              have hnx : Hid (∀ i (h : i < l.length), i < q + 1 → l[i].id < id) := Lib.hid fun i h hi => by
                by_cases e : i = q
                · subst e; exact hid
                · exact hall.out i h (by omega)
              clear hid
              generalize l[q].id = ti at *
              go_wp2_with fail
              go_round
              case rel => exact ⟨q + 1, by omega, by go_num, hnx⟩
              case measure => simp [intOf]; omega
            · have hdb : decide (l[q].id < id) = false := decide_eq_false hid
              have HL := Lib.hid (HSL2.out q (by rw [HN.out]; exact hq) hall.out (fun _ => by omega))
              clear hid hall
              generalize l[q].id = ti at *
              have hkc : k ≤ cl := by
                rcases HRW.out.out with ⟨h, _⟩ | ⟨_, _, _, _, h, _⟩
                · cases h
                · exact h
              have hqc : q < cl := by omega
              have hqc2 : q ≤ cl := by omega
              have hqci : (q : Int) < (cl : Int) := by omega
              have hqki : (q : Int) ≤ (k : Int) := by omega
              have hqz : (0 : Int) ≤ (q : Int) := by omega
              have hne : ¬ cl = q := by omega
              have hne2 : ¬ q = cl := by omega
              have HS := Lib.hid fun W (hW : Below wr.heap.size wr W) => (⟨(HRF2.out.below hW).cell0, ((HRF2.out.below hW).clk j HJ.out).1⟩ : W.cell? ⟨p, 0, none⟩ = some (.slice (some ⟨gc, 0, none⟩) ck.length ck.length) ∧ W.cell? ⟨gc, j, none⟩ = some (.int .i64 ck[j]))
              have HT5 := Lib.hid fun W (hW : Below wr.heap.size wr W) => (HRF2.out.below hW).cell1
              have HSF := Lib.hid fun W (hW : Below wr.heap.size wr W) v => set_fin (HRF2.out.below hW) j HJ.out v
              obtain ⟨b1, c1, V2, r1, b2, c2, V4, b3, c3, V5, o1, z1⟩ := order1 (j := j) (d := (cl - q)) (x := (some ⟨g, q * 4, none⟩)) (q' := (k - q)) (q := q) (t := ⟨j, id, ck[j] + after, every⟩) HRF.out HBW.out HRW.out HN.out hq hll (fun h => by cases h) (.inr ⟨⟨g, q * 4, none⟩, rfl, rfl, fun g2 h _ => by simp only [Option.some.injEq, Addr.mk.injEq, and_true] at h; rw [h]⟩) HL.out
              obtain ⟨d1', e1, U2, s1, d2', e2, U4, d3', e3, U5, o2, z2⟩ := order2 (j := j) (d := (cl - q)) (x := (some ⟨g, q * 4, none⟩)) (q' := (k - q)) (q := q) (t := ⟨j, id, ck[j] + after, every⟩) (V1 := ((wr.alloc (.cells #[] 64)).alloc (.cells #[.int .i64 (j : Int), .int .i64 id, .int .i64 (ck[j] + after), .int .i64 every] 64)).drew) (g0 := wr.heap.size) (vb := wr.heap.size + 1) HRF.out HBW.out HRW.out
                ((bel_new wr _).trans ((bel_new _ _).mono (by simp))).drew ((bel_new (wr.alloc (.cells #[] 64)) _).block _ (by simp) |>.trans (heap_alloc_new wr _)) (Nat.le_refl _) (heap_alloc_at _ _ _ (by simp)) (by omega) HN.out hq hll (fun h => by cases h) (.inr ⟨⟨g, q * 4, none⟩, rfl, rfl, fun g2 h _ => by simp only [Option.some.injEq, Addr.mk.injEq, and_true] at h; rw [h]⟩) HL.out
              obtain ⟨f1', g1', T2, u1, f2', g2', T4, f3', g3', T5, o3, z3⟩ := order2 (j := j) (d := (cl - q)) (x := (some ⟨g, q * 4, none⟩)) (q' := (k - q)) (q := q) (t := ⟨j, id, ck[j] + after, every⟩) (V1 := ((wr.alloc (.cells #[.int .i64 (j : Int), .int .i64 id, .int .i64 (ck[j] + after), .int .i64 every] 64)).alloc (.cells #[] 64)).drew) (g0 := wr.heap.size + 1) (vb := wr.heap.size) HRF.out HBW.out HRW.out
                ((bel_new wr _).trans ((bel_new _ _).mono (by simp))).drew (heap_alloc_at _ _ _ (by simp)) (by omega) ((bel_new (wr.alloc (.cells #[.int .i64 (j : Int), .int .i64 id, .int .i64 (ck[j] + after), .int .i64 every] 64)) _).block _ (by simp) |>.trans (heap_alloc_new wr _)) (by omega) HN.out hq hll (fun h => by cases h) (.inr ⟨⟨g, q * 4, none⟩, rfl, rfl, fun g2 h _ => by simp only [Option.some.injEq, Addr.mk.injEq, and_true] at h; rw [h]⟩) HL.out
              have y1 := (bel_new wr (.cells #[] 64)).drew
              have y2 := ((bel_new wr (.cells #[] 64)).trans ((bel_new _ (.cells #[.int .i64 (j : Int), .int .i64 id, .int .i64 (ck[j] + after), .int .i64 every] 64)).mono (by simp))).drew
              have y3 := (bel_new wr (.cells #[.int .i64 (j : Int), .int .i64 id, .int .i64 (ck[j] + after), .int .i64 every] 64)).drew
              have y4 := ((bel_new wr (.cells #[.int .i64 (j : Int), .int .i64 id, .int .i64 (ck[j] + after), .int .i64 every] 64)).trans ((bel_new _ (.cells #[] 64)).mono (by simp))).drew
              have y0 : Below wr.heap.size wr wr.drew := (Below.refl _ _).drew
              have hc5 := HT5.out _ o1.l5
              have hd5 := HT5.out _ o2.l5
              have he5 := HT5.out _ o3.l5
              have fs1 := HSF.out _ o1.l5 (.slice b3 (q + 1 + (k - q)) c3)
              have fs2 := HSF.out _ o2.l5 (.slice d3' (q + 1 + (k - q)) e3)
              have fs3 := HSF.out _ o3.l5 (.slice f3' (q + 1 + (k - q)) g3')
              have fin1 := Lib.hid (HR0'.out _ o1.fin)
              have fin2 := Lib.hid (HR0'.out _ o2.fin)
              have fin3 := Lib.hid (HR0'.out _ o3.fin)
              have R1 := Lib.hid r1
              have R2 := Lib.hid s1
              have R3 := Lib.hid u1
              have Q1 := Lib.hid o1.r2
              have Q2 := Lib.hid o2.r2
              have Q3 := Lib.hid o3.r2
              have P1 := Lib.hid o1.r3
              have P2 := Lib.hid o2.r3
              have P3 := Lib.hid o3.r3
              have w12 := o1.l2
              have w13 := o1.l3
              have w15 := o1.l5
              have w22 := o2.l2
              have w25 := o2.l5
              have w32 := o3.l2
              have w35 := o3.l5
              clear o1 o2 o3 r1 s1 u1 HRF HST HL HR0' HSF HT5
              have hp0 := HRF2.out.cell0
              have hg0 := (HRF2.out.clk j HJ.out).1
              have hp1 := HRF2.out.cell1.1
              have hp1f := HRF2.out.cell1.2
              have hsum : 0 ≤ ck[j] + after := by omega
              have hsum2 : ck[j] + after ≤ 2199023255552 := by omega
              generalize ck[j] = x0 at *
              generalize ck.length = cn at *
              generalize L.length = ln at *
              have hjl : (j : Int) < (cn : Int) := by omega
              have hjz : (0 : Int) ≤ (j : Int) := by omega
              have hwr : IntKind.i64.wrap (x0 + after) = x0 + after := IntWalk.i64_in _ (by omega)
              go_wp2_with fail
              go_region_held3 (fun w' => w'.cell? ⟨p, 0, none⟩ = some (.slice (some ⟨gc, 0, none⟩) cn cn) ∧ w'.cell? ⟨gc, j, none⟩ = some (.int .i64 x0)) (first | (exact HS.out _ (by first | with_reducible assumption | assumption)) | (with_reducible assumption) | assumption)
                (first
                  | (refine step_appendR rfl (.tmp 73) (.tmp 76) 28 28 rfl (.slice (some ⟨wr.heap.size, 0, none⟩) 0 0) (.slice (some ⟨g, 0, none⟩) q cl) (by simp [Act.eval, Act.put]) (by simp [Act.eval, Act.put]) R1.out ?_)
                  | (refine step_appendR rfl (.tmp 73) (.tmp 76) 28 28 rfl (.slice (some ⟨wr.heap.size, 0, none⟩) 0 0) (.slice (some ⟨g, 0, none⟩) q cl) (by simp [Act.eval, Act.put]) (by simp [Act.eval, Act.put]) R2.out ?_)
                  | (refine step_appendR rfl (.tmp 73) (.tmp 76) 28 28 rfl (.slice (some ⟨wr.heap.size + 1, 0, none⟩) 0 0) (.slice (some ⟨g, 0, none⟩) q cl) (by simp [Act.eval, Act.put]) (by simp [Act.eval, Act.put]) R3.out ?_)
                  | (refine step_appendR rfl (.tmp 77) (.tmp 91) 28 28 rfl (.slice b1 q c1) (.slice (some ⟨V2.heap.size, 0, none⟩) 1 1) (by simp [Act.eval, Act.put]) (by simp [Act.eval, Act.put]) Q1.out ?_)
                  | (refine step_appendR rfl (.tmp 77) (.tmp 91) 28 28 rfl (.slice d1' q e1) (.slice (some ⟨wr.heap.size + 1, 0, none⟩) 1 1) (by simp [Act.eval, Act.put]) (by simp [Act.eval, Act.put]) Q2.out ?_)
                  | (refine step_appendR rfl (.tmp 77) (.tmp 91) 28 28 rfl (.slice f1' q g1') (.slice (some ⟨wr.heap.size, 0, none⟩) 1 1) (by simp [Act.eval, Act.put]) (by simp [Act.eval, Act.put]) Q3.out ?_)
                  | (refine step_appendR rfl (.tmp 92) (.tmp 95) 28 28 rfl (.slice b2 (q + 1) c2) (.slice (some ⟨g, q * 4, none⟩) (k - q) (cl - q)) (by simp [Act.eval, Act.put]) (by simp [Act.eval, Act.put]) P1.out ?_)
                  | (refine step_appendR rfl (.tmp 92) (.tmp 95) 28 28 rfl (.slice d2' (q + 1) e2) (.slice (some ⟨g, q * 4, none⟩) (k - q) (cl - q)) (by simp [Act.eval, Act.put]) (by simp [Act.eval, Act.put]) P2.out ?_)
                  | (refine step_appendR rfl (.tmp 92) (.tmp 95) 28 28 rfl (.slice f2' (q + 1) g2') (.slice (some ⟨g, q * 4, none⟩) (k - q) (cl - q)) (by simp [Act.eval, Act.put]) (by simp [Act.eval, Act.put]) P3.out ?_))
              all_goals
                go_wp2_with fail
                first | exact fin1.out | exact fin2.out | exact fin3.out
          · obtain rfl : q = k := by omega
            have HL := Lib.hid (HSL2.out q (by rw [HN.out]; exact hq) hall.out (fun h => absurd h (by rw [HN.out]; omega)))
            clear hall
            have hcs : (al = none ∧ q = 0 ∧ cl = 0) ∨ ((∃ g, al = some ⟨g, 0, none⟩) ∧ q ≤ cl) := by
              rcases HRW.out.out with ⟨h1, h2, h3, _⟩ | ⟨g, _, h1, _, h2, _⟩
              · exact .inl ⟨h1, h2, h3⟩
              · exact .inr ⟨⟨g, h1⟩, h2⟩
            rcases hcs with ⟨rfl, rfl, rfl⟩ | ⟨⟨g, rfl⟩, hqc⟩
            · have hzz : True := trivial
              have HS := Lib.hid fun W (hW : Below wr.heap.size wr W) => (⟨(HRF2.out.below hW).cell0, ((HRF2.out.below hW).clk j HJ.out).1⟩ : W.cell? ⟨p, 0, none⟩ = some (.slice (some ⟨gc, 0, none⟩) ck.length ck.length) ∧ W.cell? ⟨gc, j, none⟩ = some (.int .i64 ck[j]))
              have HT5 := Lib.hid fun W (hW : Below wr.heap.size wr W) => (HRF2.out.below hW).cell1
              have HSF := Lib.hid fun W (hW : Below wr.heap.size wr W) v => set_fin (HRF2.out.below hW) j HJ.out v
              obtain ⟨b1, c1, V2, r1, b2, c2, V4, b3, c3, V5, o1, z1⟩ := order1 (j := j) (d := 0) (x := none) (q' := 0) (q := 0) (t := ⟨j, id, ck[j] + after, every⟩) HRF.out HBW.out HRW.out HN.out (Nat.le_refl _) hll (fun _ => rfl) (.inl ⟨rfl, rfl, rfl⟩) HL.out
              obtain ⟨d1', e1, U2, s1, d2', e2, U4, d3', e3, U5, o2, z2⟩ := order2 (j := j) (d := 0) (x := none) (q' := 0) (q := 0) (t := ⟨j, id, ck[j] + after, every⟩) (V1 := ((wr.alloc (.cells #[] 64)).alloc (.cells #[.int .i64 (j : Int), .int .i64 id, .int .i64 (ck[j] + after), .int .i64 every] 64)).drew) (g0 := wr.heap.size) (vb := wr.heap.size + 1) HRF.out HBW.out HRW.out
                ((bel_new wr _).trans ((bel_new _ _).mono (by simp))).drew ((bel_new (wr.alloc (.cells #[] 64)) _).block _ (by simp) |>.trans (heap_alloc_new wr _)) (Nat.le_refl _) (heap_alloc_at _ _ _ (by simp)) (by omega) HN.out (Nat.le_refl _) hll (fun _ => rfl) (.inl ⟨rfl, rfl, rfl⟩) HL.out
              obtain ⟨f1', g1', T2, u1, f2', g2', T4, f3', g3', T5, o3, z3⟩ := order2 (j := j) (d := 0) (x := none) (q' := 0) (q := 0) (t := ⟨j, id, ck[j] + after, every⟩) (V1 := ((wr.alloc (.cells #[.int .i64 (j : Int), .int .i64 id, .int .i64 (ck[j] + after), .int .i64 every] 64)).alloc (.cells #[] 64)).drew) (g0 := wr.heap.size + 1) (vb := wr.heap.size) HRF.out HBW.out HRW.out
                ((bel_new wr _).trans ((bel_new _ _).mono (by simp))).drew (heap_alloc_at _ _ _ (by simp)) (by omega) ((bel_new (wr.alloc (.cells #[.int .i64 (j : Int), .int .i64 id, .int .i64 (ck[j] + after), .int .i64 every] 64)) _).block _ (by simp) |>.trans (heap_alloc_new wr _)) (by omega) HN.out (Nat.le_refl _) hll (fun _ => rfl) (.inl ⟨rfl, rfl, rfl⟩) HL.out
              have y1 := (bel_new wr (.cells #[] 64)).drew
              have y2 := ((bel_new wr (.cells #[] 64)).trans ((bel_new _ (.cells #[.int .i64 (j : Int), .int .i64 id, .int .i64 (ck[j] + after), .int .i64 every] 64)).mono (by simp))).drew
              have y3 := (bel_new wr (.cells #[.int .i64 (j : Int), .int .i64 id, .int .i64 (ck[j] + after), .int .i64 every] 64)).drew
              have y4 := ((bel_new wr (.cells #[.int .i64 (j : Int), .int .i64 id, .int .i64 (ck[j] + after), .int .i64 every] 64)).trans ((bel_new _ (.cells #[] 64)).mono (by simp))).drew
              have y0 : Below wr.heap.size wr wr.drew := (Below.refl _ _).drew
              have hc5 := HT5.out _ o1.l5
              have hd5 := HT5.out _ o2.l5
              have he5 := HT5.out _ o3.l5
              have fs1 := HSF.out _ o1.l5 (.slice b3 (0 + 1 + 0) c3)
              have fs2 := HSF.out _ o2.l5 (.slice d3' (0 + 1 + 0) e3)
              have fs3 := HSF.out _ o3.l5 (.slice f3' (0 + 1 + 0) g3')
              have fin1 := Lib.hid (HR0'.out _ o1.fin)
              have fin2 := Lib.hid (HR0'.out _ o2.fin)
              have fin3 := Lib.hid (HR0'.out _ o3.fin)
              have R1 := Lib.hid r1
              have R2 := Lib.hid s1
              have R3 := Lib.hid u1
              have Q1 := Lib.hid o1.r2
              have Q2 := Lib.hid o2.r2
              have Q3 := Lib.hid o3.r2
              have P1 := Lib.hid o1.r3
              have P2 := Lib.hid o2.r3
              have P3 := Lib.hid o3.r3
              have w12 := o1.l2
              have w13 := o1.l3
              have w15 := o1.l5
              have w22 := o2.l2
              have w25 := o2.l5
              have w32 := o3.l2
              have w35 := o3.l5
              clear o1 o2 o3 r1 s1 u1 HRF HST HL HR0' HSF HT5
              have hp0 := HRF2.out.cell0
              have hg0 := (HRF2.out.clk j HJ.out).1
              have hp1 := HRF2.out.cell1.1
              have hp1f := HRF2.out.cell1.2
              have hsum : 0 ≤ ck[j] + after := by omega
              have hsum2 : ck[j] + after ≤ 2199023255552 := by omega
              generalize ck[j] = x0 at *
              generalize ck.length = cn at *
              generalize L.length = ln at *
              have hjl : (j : Int) < (cn : Int) := by omega
              have hjz : (0 : Int) ≤ (j : Int) := by omega
              have hwr : IntKind.i64.wrap (x0 + after) = x0 + after := IntWalk.i64_in _ (by omega)
              go_wp2_with fail
              go_region_held3 (fun w' => w'.cell? ⟨p, 0, none⟩ = some (.slice (some ⟨gc, 0, none⟩) cn cn) ∧ w'.cell? ⟨gc, j, none⟩ = some (.int .i64 x0)) (first | (exact HS.out _ (by first | with_reducible assumption | assumption)) | (with_reducible assumption) | assumption)
                (first
                  | (refine step_appendR rfl (.tmp 73) (.tmp 76) 28 28 rfl (.slice (some ⟨wr.heap.size, 0, none⟩) 0 0) (.slice none 0 0) (by simp [Act.eval, Act.put]) (by simp [Act.eval, Act.put]) R1.out ?_)
                  | (refine step_appendR rfl (.tmp 73) (.tmp 76) 28 28 rfl (.slice (some ⟨wr.heap.size, 0, none⟩) 0 0) (.slice none 0 0) (by simp [Act.eval, Act.put]) (by simp [Act.eval, Act.put]) R2.out ?_)
                  | (refine step_appendR rfl (.tmp 73) (.tmp 76) 28 28 rfl (.slice (some ⟨wr.heap.size + 1, 0, none⟩) 0 0) (.slice none 0 0) (by simp [Act.eval, Act.put]) (by simp [Act.eval, Act.put]) R3.out ?_)
                  | (refine step_appendR rfl (.tmp 77) (.tmp 91) 28 28 rfl (.slice b1 0 c1) (.slice (some ⟨V2.heap.size, 0, none⟩) 1 1) (by simp [Act.eval, Act.put]) (by simp [Act.eval, Act.put]) Q1.out ?_)
                  | (refine step_appendR rfl (.tmp 77) (.tmp 91) 28 28 rfl (.slice d1' 0 e1) (.slice (some ⟨wr.heap.size + 1, 0, none⟩) 1 1) (by simp [Act.eval, Act.put]) (by simp [Act.eval, Act.put]) Q2.out ?_)
                  | (refine step_appendR rfl (.tmp 77) (.tmp 91) 28 28 rfl (.slice f1' 0 g1') (.slice (some ⟨wr.heap.size, 0, none⟩) 1 1) (by simp [Act.eval, Act.put]) (by simp [Act.eval, Act.put]) Q3.out ?_)
                  | (refine step_appendR rfl (.tmp 92) (.tmp 95) 28 28 rfl (.slice b2 (0 + 1) c2) (.slice none 0 0) (by simp [Act.eval, Act.put]) (by simp [Act.eval, Act.put]) P1.out ?_)
                  | (refine step_appendR rfl (.tmp 92) (.tmp 95) 28 28 rfl (.slice d2' (0 + 1) e2) (.slice none 0 0) (by simp [Act.eval, Act.put]) (by simp [Act.eval, Act.put]) P2.out ?_)
                  | (refine step_appendR rfl (.tmp 92) (.tmp 95) 28 28 rfl (.slice f2' (0 + 1) g2') (.slice none 0 0) (by simp [Act.eval, Act.put]) (by simp [Act.eval, Act.put]) P3.out ?_))
              all_goals
                go_wp2_with fail
                first | exact fin1.out | exact fin2.out | exact fin3.out
            · by_cases hcl : cl = q
              · subst hcl
                have HS := Lib.hid fun W (hW : Below wr.heap.size wr W) => (⟨(HRF2.out.below hW).cell0, ((HRF2.out.below hW).clk j HJ.out).1⟩ : W.cell? ⟨p, 0, none⟩ = some (.slice (some ⟨gc, 0, none⟩) ck.length ck.length) ∧ W.cell? ⟨gc, j, none⟩ = some (.int .i64 ck[j]))
                have HT5 := Lib.hid fun W (hW : Below wr.heap.size wr W) => (HRF2.out.below hW).cell1
                have HSF := Lib.hid fun W (hW : Below wr.heap.size wr W) v => set_fin (HRF2.out.below hW) j HJ.out v
                obtain ⟨b1, c1, V2, r1, b2, c2, V4, b3, c3, V5, o1, z1⟩ := order1 (j := j) (d := 0) (x := (some ⟨g, 0, none⟩)) (q' := 0) (q := cl) (t := ⟨j, id, ck[j] + after, every⟩) HRF.out HBW.out HRW.out HN.out (Nat.le_refl _) hll (fun h => by cases h) (.inr ⟨⟨g, 0, none⟩, rfl, by omega, fun _ _ h => absurd h (Nat.lt_irrefl _)⟩) HL.out
                obtain ⟨d1', e1, U2, s1, d2', e2, U4, d3', e3, U5, o2, z2⟩ := order2 (j := j) (d := 0) (x := (some ⟨g, 0, none⟩)) (q' := 0) (q := cl) (t := ⟨j, id, ck[j] + after, every⟩) (V1 := ((wr.alloc (.cells #[] 64)).alloc (.cells #[.int .i64 (j : Int), .int .i64 id, .int .i64 (ck[j] + after), .int .i64 every] 64)).drew) (g0 := wr.heap.size) (vb := wr.heap.size + 1) HRF.out HBW.out HRW.out
                  ((bel_new wr _).trans ((bel_new _ _).mono (by simp))).drew ((bel_new (wr.alloc (.cells #[] 64)) _).block _ (by simp) |>.trans (heap_alloc_new wr _)) (Nat.le_refl _) (heap_alloc_at _ _ _ (by simp)) (by omega) HN.out (Nat.le_refl _) hll (fun h => by cases h) (.inr ⟨⟨g, 0, none⟩, rfl, by omega, fun _ _ h => absurd h (Nat.lt_irrefl _)⟩) HL.out
                obtain ⟨f1', g1', T2, u1, f2', g2', T4, f3', g3', T5, o3, z3⟩ := order2 (j := j) (d := 0) (x := (some ⟨g, 0, none⟩)) (q' := 0) (q := cl) (t := ⟨j, id, ck[j] + after, every⟩) (V1 := ((wr.alloc (.cells #[.int .i64 (j : Int), .int .i64 id, .int .i64 (ck[j] + after), .int .i64 every] 64)).alloc (.cells #[] 64)).drew) (g0 := wr.heap.size + 1) (vb := wr.heap.size) HRF.out HBW.out HRW.out
                  ((bel_new wr _).trans ((bel_new _ _).mono (by simp))).drew (heap_alloc_at _ _ _ (by simp)) (by omega) ((bel_new (wr.alloc (.cells #[.int .i64 (j : Int), .int .i64 id, .int .i64 (ck[j] + after), .int .i64 every] 64)) _).block _ (by simp) |>.trans (heap_alloc_new wr _)) (by omega) HN.out (Nat.le_refl _) hll (fun h => by cases h) (.inr ⟨⟨g, 0, none⟩, rfl, by omega, fun _ _ h => absurd h (Nat.lt_irrefl _)⟩) HL.out
                have y1 := (bel_new wr (.cells #[] 64)).drew
                have y2 := ((bel_new wr (.cells #[] 64)).trans ((bel_new _ (.cells #[.int .i64 (j : Int), .int .i64 id, .int .i64 (ck[j] + after), .int .i64 every] 64)).mono (by simp))).drew
                have y3 := (bel_new wr (.cells #[.int .i64 (j : Int), .int .i64 id, .int .i64 (ck[j] + after), .int .i64 every] 64)).drew
                have y4 := ((bel_new wr (.cells #[.int .i64 (j : Int), .int .i64 id, .int .i64 (ck[j] + after), .int .i64 every] 64)).trans ((bel_new _ (.cells #[] 64)).mono (by simp))).drew
                have y0 : Below wr.heap.size wr wr.drew := (Below.refl _ _).drew
                have hc5 := HT5.out _ o1.l5
                have hd5 := HT5.out _ o2.l5
                have he5 := HT5.out _ o3.l5
                have fs1 := HSF.out _ o1.l5 (.slice b3 (cl + 1 + 0) c3)
                have fs2 := HSF.out _ o2.l5 (.slice d3' (cl + 1 + 0) e3)
                have fs3 := HSF.out _ o3.l5 (.slice f3' (cl + 1 + 0) g3')
                have fin1 := Lib.hid (HR0'.out _ o1.fin)
                have fin2 := Lib.hid (HR0'.out _ o2.fin)
                have fin3 := Lib.hid (HR0'.out _ o3.fin)
                have R1 := Lib.hid r1
                have R2 := Lib.hid s1
                have R3 := Lib.hid u1
                have Q1 := Lib.hid o1.r2
                have Q2 := Lib.hid o2.r2
                have Q3 := Lib.hid o3.r2
                have P1 := Lib.hid o1.r3
                have P2 := Lib.hid o2.r3
                have P3 := Lib.hid o3.r3
                have w12 := o1.l2
                have w13 := o1.l3
                have w15 := o1.l5
                have w22 := o2.l2
                have w25 := o2.l5
                have w32 := o3.l2
                have w35 := o3.l5
                clear o1 o2 o3 r1 s1 u1 HRF HST HL HR0' HSF HT5
                have hp0 := HRF2.out.cell0
                have hg0 := (HRF2.out.clk j HJ.out).1
                have hp1 := HRF2.out.cell1.1
                have hp1f := HRF2.out.cell1.2
                have hsum : 0 ≤ ck[j] + after := by omega
                have hsum2 : ck[j] + after ≤ 2199023255552 := by omega
                generalize ck[j] = x0 at *
                generalize ck.length = cn at *
                generalize L.length = ln at *
                have hjl : (j : Int) < (cn : Int) := by omega
                have hjz : (0 : Int) ≤ (j : Int) := by omega
                have hwr : IntKind.i64.wrap (x0 + after) = x0 + after := IntWalk.i64_in _ (by omega)
                go_wp2_with fail
                go_region_held3 (fun w' => w'.cell? ⟨p, 0, none⟩ = some (.slice (some ⟨gc, 0, none⟩) cn cn) ∧ w'.cell? ⟨gc, j, none⟩ = some (.int .i64 x0)) (first | (exact HS.out _ (by first | with_reducible assumption | assumption)) | (with_reducible assumption) | assumption)
                  (first
                    | (refine step_appendR rfl (.tmp 73) (.tmp 76) 28 28 rfl (.slice (some ⟨wr.heap.size, 0, none⟩) 0 0) (.slice (some ⟨g, 0, none⟩) cl cl) (by simp [Act.eval, Act.put]) (by simp [Act.eval, Act.put]) R1.out ?_)
                    | (refine step_appendR rfl (.tmp 73) (.tmp 76) 28 28 rfl (.slice (some ⟨wr.heap.size, 0, none⟩) 0 0) (.slice (some ⟨g, 0, none⟩) cl cl) (by simp [Act.eval, Act.put]) (by simp [Act.eval, Act.put]) R2.out ?_)
                    | (refine step_appendR rfl (.tmp 73) (.tmp 76) 28 28 rfl (.slice (some ⟨wr.heap.size + 1, 0, none⟩) 0 0) (.slice (some ⟨g, 0, none⟩) cl cl) (by simp [Act.eval, Act.put]) (by simp [Act.eval, Act.put]) R3.out ?_)
                    | (refine step_appendR rfl (.tmp 77) (.tmp 91) 28 28 rfl (.slice b1 cl c1) (.slice (some ⟨V2.heap.size, 0, none⟩) 1 1) (by simp [Act.eval, Act.put]) (by simp [Act.eval, Act.put]) Q1.out ?_)
                    | (refine step_appendR rfl (.tmp 77) (.tmp 91) 28 28 rfl (.slice d1' cl e1) (.slice (some ⟨wr.heap.size + 1, 0, none⟩) 1 1) (by simp [Act.eval, Act.put]) (by simp [Act.eval, Act.put]) Q2.out ?_)
                    | (refine step_appendR rfl (.tmp 77) (.tmp 91) 28 28 rfl (.slice f1' cl g1') (.slice (some ⟨wr.heap.size, 0, none⟩) 1 1) (by simp [Act.eval, Act.put]) (by simp [Act.eval, Act.put]) Q3.out ?_)
                    | (refine step_appendR rfl (.tmp 92) (.tmp 95) 28 28 rfl (.slice b2 (cl + 1) c2) (.slice (some ⟨g, 0, none⟩) 0 0) (by simp [Act.eval, Act.put]) (by simp [Act.eval, Act.put]) P1.out ?_)
                    | (refine step_appendR rfl (.tmp 92) (.tmp 95) 28 28 rfl (.slice d2' (cl + 1) e2) (.slice (some ⟨g, 0, none⟩) 0 0) (by simp [Act.eval, Act.put]) (by simp [Act.eval, Act.put]) P2.out ?_)
                    | (refine step_appendR rfl (.tmp 92) (.tmp 95) 28 28 rfl (.slice f2' (cl + 1) g2') (.slice (some ⟨g, 0, none⟩) 0 0) (by simp [Act.eval, Act.put]) (by simp [Act.eval, Act.put]) P3.out ?_))
                all_goals
                  go_wp2_with fail
                  first | exact fin1.out | exact fin2.out | exact fin3.out
              · have hlt5 : q < cl := by omega
                have hne : ¬ q = cl := by omega
                have hqi : (q : Int) < (cl : Int) := by omega
                have hqz : (0 : Int) ≤ (q : Int) := by omega
                have HS := Lib.hid fun W (hW : Below wr.heap.size wr W) => (⟨(HRF2.out.below hW).cell0, ((HRF2.out.below hW).clk j HJ.out).1⟩ : W.cell? ⟨p, 0, none⟩ = some (.slice (some ⟨gc, 0, none⟩) ck.length ck.length) ∧ W.cell? ⟨gc, j, none⟩ = some (.int .i64 ck[j]))
                have HT5 := Lib.hid fun W (hW : Below wr.heap.size wr W) => (HRF2.out.below hW).cell1
                have HSF := Lib.hid fun W (hW : Below wr.heap.size wr W) v => set_fin (HRF2.out.below hW) j HJ.out v
                obtain ⟨b1, c1, V2, r1, b2, c2, V4, b3, c3, V5, o1, z1⟩ := order1 (j := j) (d := (cl - q)) (x := (some ⟨g, q * 4, none⟩)) (q' := 0) (q := q) (t := ⟨j, id, ck[j] + after, every⟩) HRF.out HBW.out HRW.out HN.out (Nat.le_refl _) hll (fun h => by cases h) (.inr ⟨⟨g, q * 4, none⟩, rfl, by omega, fun _ _ h => absurd h (Nat.lt_irrefl _)⟩) HL.out
                obtain ⟨d1', e1, U2, s1, d2', e2, U4, d3', e3, U5, o2, z2⟩ := order2 (j := j) (d := (cl - q)) (x := (some ⟨g, q * 4, none⟩)) (q' := 0) (q := q) (t := ⟨j, id, ck[j] + after, every⟩) (V1 := ((wr.alloc (.cells #[] 64)).alloc (.cells #[.int .i64 (j : Int), .int .i64 id, .int .i64 (ck[j] + after), .int .i64 every] 64)).drew) (g0 := wr.heap.size) (vb := wr.heap.size + 1) HRF.out HBW.out HRW.out
                  ((bel_new wr _).trans ((bel_new _ _).mono (by simp))).drew ((bel_new (wr.alloc (.cells #[] 64)) _).block _ (by simp) |>.trans (heap_alloc_new wr _)) (Nat.le_refl _) (heap_alloc_at _ _ _ (by simp)) (by omega) HN.out (Nat.le_refl _) hll (fun h => by cases h) (.inr ⟨⟨g, q * 4, none⟩, rfl, by omega, fun _ _ h => absurd h (Nat.lt_irrefl _)⟩) HL.out
                obtain ⟨f1', g1', T2, u1, f2', g2', T4, f3', g3', T5, o3, z3⟩ := order2 (j := j) (d := (cl - q)) (x := (some ⟨g, q * 4, none⟩)) (q' := 0) (q := q) (t := ⟨j, id, ck[j] + after, every⟩) (V1 := ((wr.alloc (.cells #[.int .i64 (j : Int), .int .i64 id, .int .i64 (ck[j] + after), .int .i64 every] 64)).alloc (.cells #[] 64)).drew) (g0 := wr.heap.size + 1) (vb := wr.heap.size) HRF.out HBW.out HRW.out
                  ((bel_new wr _).trans ((bel_new _ _).mono (by simp))).drew (heap_alloc_at _ _ _ (by simp)) (by omega) ((bel_new (wr.alloc (.cells #[.int .i64 (j : Int), .int .i64 id, .int .i64 (ck[j] + after), .int .i64 every] 64)) _).block _ (by simp) |>.trans (heap_alloc_new wr _)) (by omega) HN.out (Nat.le_refl _) hll (fun h => by cases h) (.inr ⟨⟨g, q * 4, none⟩, rfl, by omega, fun _ _ h => absurd h (Nat.lt_irrefl _)⟩) HL.out
                have y1 := (bel_new wr (.cells #[] 64)).drew
                have y2 := ((bel_new wr (.cells #[] 64)).trans ((bel_new _ (.cells #[.int .i64 (j : Int), .int .i64 id, .int .i64 (ck[j] + after), .int .i64 every] 64)).mono (by simp))).drew
                have y3 := (bel_new wr (.cells #[.int .i64 (j : Int), .int .i64 id, .int .i64 (ck[j] + after), .int .i64 every] 64)).drew
                have y4 := ((bel_new wr (.cells #[.int .i64 (j : Int), .int .i64 id, .int .i64 (ck[j] + after), .int .i64 every] 64)).trans ((bel_new _ (.cells #[] 64)).mono (by simp))).drew
                have y0 : Below wr.heap.size wr wr.drew := (Below.refl _ _).drew
                have hc5 := HT5.out _ o1.l5
                have hd5 := HT5.out _ o2.l5
                have he5 := HT5.out _ o3.l5
                have fs1 := HSF.out _ o1.l5 (.slice b3 (q + 1 + 0) c3)
                have fs2 := HSF.out _ o2.l5 (.slice d3' (q + 1 + 0) e3)
                have fs3 := HSF.out _ o3.l5 (.slice f3' (q + 1 + 0) g3')
                have fin1 := Lib.hid (HR0'.out _ o1.fin)
                have fin2 := Lib.hid (HR0'.out _ o2.fin)
                have fin3 := Lib.hid (HR0'.out _ o3.fin)
                have R1 := Lib.hid r1
                have R2 := Lib.hid s1
                have R3 := Lib.hid u1
                have Q1 := Lib.hid o1.r2
                have Q2 := Lib.hid o2.r2
                have Q3 := Lib.hid o3.r2
                have P1 := Lib.hid o1.r3
                have P2 := Lib.hid o2.r3
                have P3 := Lib.hid o3.r3
                have w12 := o1.l2
                have w13 := o1.l3
                have w15 := o1.l5
                have w22 := o2.l2
                have w25 := o2.l5
                have w32 := o3.l2
                have w35 := o3.l5
                clear o1 o2 o3 r1 s1 u1 HRF HST HL HR0' HSF HT5
                have hp0 := HRF2.out.cell0
                have hg0 := (HRF2.out.clk j HJ.out).1
                have hp1 := HRF2.out.cell1.1
                have hp1f := HRF2.out.cell1.2
                have hsum : 0 ≤ ck[j] + after := by omega
                have hsum2 : ck[j] + after ≤ 2199023255552 := by omega
                generalize ck[j] = x0 at *
                generalize ck.length = cn at *
                generalize L.length = ln at *
                have hjl : (j : Int) < (cn : Int) := by omega
                have hjz : (0 : Int) ≤ (j : Int) := by omega
                have hwr : IntKind.i64.wrap (x0 + after) = x0 + after := IntWalk.i64_in _ (by omega)
                go_wp2_with fail
                go_region_held3 (fun w' => w'.cell? ⟨p, 0, none⟩ = some (.slice (some ⟨gc, 0, none⟩) cn cn) ∧ w'.cell? ⟨gc, j, none⟩ = some (.int .i64 x0)) (first | (exact HS.out _ (by first | with_reducible assumption | assumption)) | (with_reducible assumption) | assumption)
                  (first
                    | (refine step_appendR rfl (.tmp 73) (.tmp 76) 28 28 rfl (.slice (some ⟨wr.heap.size, 0, none⟩) 0 0) (.slice (some ⟨g, 0, none⟩) q cl) (by simp [Act.eval, Act.put]) (by simp [Act.eval, Act.put]) R1.out ?_)
                    | (refine step_appendR rfl (.tmp 73) (.tmp 76) 28 28 rfl (.slice (some ⟨wr.heap.size, 0, none⟩) 0 0) (.slice (some ⟨g, 0, none⟩) q cl) (by simp [Act.eval, Act.put]) (by simp [Act.eval, Act.put]) R2.out ?_)
                    | (refine step_appendR rfl (.tmp 73) (.tmp 76) 28 28 rfl (.slice (some ⟨wr.heap.size + 1, 0, none⟩) 0 0) (.slice (some ⟨g, 0, none⟩) q cl) (by simp [Act.eval, Act.put]) (by simp [Act.eval, Act.put]) R3.out ?_)
                    | (refine step_appendR rfl (.tmp 77) (.tmp 91) 28 28 rfl (.slice b1 q c1) (.slice (some ⟨V2.heap.size, 0, none⟩) 1 1) (by simp [Act.eval, Act.put]) (by simp [Act.eval, Act.put]) Q1.out ?_)
                    | (refine step_appendR rfl (.tmp 77) (.tmp 91) 28 28 rfl (.slice d1' q e1) (.slice (some ⟨wr.heap.size + 1, 0, none⟩) 1 1) (by simp [Act.eval, Act.put]) (by simp [Act.eval, Act.put]) Q2.out ?_)
                    | (refine step_appendR rfl (.tmp 77) (.tmp 91) 28 28 rfl (.slice f1' q g1') (.slice (some ⟨wr.heap.size, 0, none⟩) 1 1) (by simp [Act.eval, Act.put]) (by simp [Act.eval, Act.put]) Q3.out ?_)
                    | (refine step_appendR rfl (.tmp 92) (.tmp 95) 28 28 rfl (.slice b2 (q + 1) c2) (.slice (some ⟨g, q * 4, none⟩) 0 (cl - q)) (by simp [Act.eval, Act.put]) (by simp [Act.eval, Act.put]) P1.out ?_)
                    | (refine step_appendR rfl (.tmp 92) (.tmp 95) 28 28 rfl (.slice d2' (q + 1) e2) (.slice (some ⟨g, q * 4, none⟩) 0 (cl - q)) (by simp [Act.eval, Act.put]) (by simp [Act.eval, Act.put]) P2.out ?_)
                    | (refine step_appendR rfl (.tmp 92) (.tmp 95) 28 28 rfl (.slice f2' (q + 1) g2') (.slice (some ⟨g, q * 4, none⟩) 0 (cl - q)) (by simp [Act.eval, Act.put]) (by simp [Act.eval, Act.put]) P3.out ?_))
                all_goals
                  go_wp2_with fail
                  first | exact fin1.out | exact fin2.out | exact fin3.out
end Go.Proofs.Ytcolaafgjlaikaa
