/- same, slices.Sort of ints, Timers, Tick, New. -/
import Derived.Test.YtcolaafgjlaikaaV
import Derived.Test.YtcolaafgjlaikaaShelf
namespace Go.Proofs.Ytcolaafgjlaikaa
open Go.RowKit

/-- The slice at a holds these ints. -/
def IntsAt (w : World) (a : Option Addr) (o : List Int) : Prop := ∀ j, j < o.length → ∃ b off, a = some ⟨b, off, none⟩ ∧ w.cell? ⟨b, off + j, none⟩ = some (.int .i64 (o.getD j 0))
theorem IntsAt.below {w w' : World} {a : Option Addr} {o : List Int} (h : IntsAt w a o) (b : Below w.heap.size w w') : IntsAt w' a o := fun j hj =>
  let ⟨g, off, e, hc⟩ := h j hj; ⟨g, off, e, (b.cell (World.block_lt_of_cell? w _ hc)).trans hc⟩
theorem IntsAt.of_row {w : World} {a : Option Addr} {n c : Nat} {o : List Int} (h : Row w 3 1 a n c (ints o)) : IntsAt w a o := fun j hj => by
  obtain ⟨g, e, hc⟩ := h.cellAt j (by rw [ints_len]; exact hj)
  refine ⟨g, 0, e, ?_⟩
  rw [Nat.zero_add, hc]
  simp [ints, List.getD, hj]

set_option maxHeartbeats 400000 in
theorem same_any (a a' : Option Addr) (n c n' c' : Nat) (ss ss' : List Int) (w : World) (hn : n ≤ 1000000) (hl : n = ss.length) (hl' : n' = ss'.length) (hc : IntsAt w a ss) (hc' : IntsAt w a' ss') :
    Calls Try.prog 14 #[.slice a n c, .slice a' n' c'] w fun e w' => e = .returned (.bool (decide (ss = ss'))) ∧ ∃ k, w' = w.drewN k := by
  have HL : Hid (n = ss.length) := Lib.hid hl
  have HL' : Hid (n' = ss'.length) := Lib.hid hl'
  have HC := Lib.hid hc
  have HC' := Lib.hid hc'
  clear hl hl' hc hc'
  by_cases hlen : n = n'
  · subst hlen
    go_enter Try.func14, Try.ntmps14
    go_wp2
    go_loopw [5, 13] (fun _ i wr => ∃ k : Nat, k ≤ n ∧ (Hid (∀ j, j < k → ss.getD j 0 = ss'.getD j 0)) ∧ i = .int .i64 k ∧ ∃ q, wr = w.drewN q) (fun _ i _ => n - (intOf i).toNat)
    case atStart => exact ⟨0, Nat.zero_le _, Lib.hid (fun j hj => absurd hj (by omega)), rfl, 0, rfl⟩
    case round =>
      obtain ⟨k, hk, hall, rfl, q, rfl⟩ := hrel
      by_cases hlt : k < n
      · obtain ⟨b, off, rfl, hcell⟩ := HC.out k (by rw [← HL.out]; exact hlt)
        obtain ⟨b', off', rfl, hcell'⟩ := HC'.out k (by rw [← HL'.out]; exact hlt)
        generalize hx : ss.getD k 0 = x at *
        generalize hy : ss'.getD k 0 = y at *
        have HX := Lib.hid hx
        have HY := Lib.hid hy
        clear hx hy
        by_cases he : x = y
        · subst he
          have Hn : Hid (∀ j, j < k + 1 → ss.getD j 0 = ss'.getD j 0) := Lib.hid fun j hj => by
            by_cases e : j = k
            · subst e; rw [HX.out, HY.out]
            · exact hall.out j (by omega)
          clear hall
          go_wp2
          go_quiet (fail)
          go_wp2
          go_roundw
          case rel => exact ⟨k + 1, by omega, Hn, by go_num, _, rfl⟩
          case measure => simp [intOf]; omega
        · have H : Hid (decide (ss = ss') = false) := Lib.hid (decide_eq_false fun e => he (by rw [← HX.out, ← HY.out, e]))
          have he' : (x != y) = true := bne_iff_ne.2 he
          have he2 : (x == y) = false := beq_eq_false_iff_ne.2 he
          clear hall
          go_wp2
          go_quiet (fail)
          go_wp2
          go_ret
          exact ⟨by rw [H.out]; rfl, _, by first | exact rfl | exact World.drewN_drewN _ _ _⟩
      · have H : Hid (decide (ss = ss') = true) := Lib.hid (decide_eq_true (by
          refine List.ext_getElem (by have := HL.out; have := HL'.out; omega) fun j h1 h2 => ?_
          have := hall.out j (by have := HL.out; omega)
          simpa [List.getD, h1, h2] using this))
        clear hall
        go_wp2
        go_ret
        exact ⟨by rw [H.out]; rfl, _, by first | exact rfl | exact World.drewN_drewN _ _ _⟩
  · have H : Hid (decide (ss = ss') = false) := Lib.hid (decide_eq_false fun e => hlen (by rw [HL.out, HL'.out, e]))
    have hb : ((n : Int) == (n' : Int)) = false := beq_eq_false_iff_ne.2 (by omega)
    go_enter Try.func14, Try.ntmps14
    go_wp2
    go_ret
    exact ⟨by rw [H.out]; rfl, 0, rfl⟩

theorem holds_of_row {w : World} {g n c : Nat} {o : List Int} (h : Row w 3 1 (some ⟨g, 0, none⟩) n c (ints o)) : Go.Sort.Holds (Value.int .i64) w g 0 o.toArray := by
  rcases h.out with ⟨e, _⟩ | ⟨g', cur, e, hg, _⟩
  · simp at e
  · simp only [Option.some.injEq, Addr.mk.injEq, and_true] at e
    subst e
    intro j hj
    have hj' : j < o.length := by simpa using hj
    obtain ⟨g2, e2, hc⟩ := h.cellAt j (by rw [ints_len]; exact hj')
    simp only [Option.some.injEq, Addr.mk.injEq, and_true] at e2
    subst e2
    refine ⟨?_, ?_⟩
    · rw [Nat.zero_add, hc]
      simp [ints, hj']
    · unfold World.frozen?; rw [show (⟨g, 0 + j, none⟩ : Addr).block = g from rfl, hg]; simp
theorem touch_sorted {α : Type} [Inhabited α] (enc : α → Value) (w : World) (n blk off : Nat) (d : Array α) (os : Array Obj) : Touch [blk] w (Go.Sort.grow (Go.Sort.putRow enc (Go.Sort.ahead w n) blk off d) os) := by
  refine ⟨rfl, rfl, rfl, by simp [Go.Sort.grow], fun k hk hn => ?_⟩
  have hk2 : k < (Go.Sort.putRow enc (Go.Sort.ahead w n) blk off d).heap.size := by simpa using hk
  simp only [Go.Sort.grow]
  rw [Array.getElem?_append_left hk2]
  simp only [Go.Sort.putRow, Go.Sort.mapBlock, Go.Sort.heap_ahead, Array.getElem?_modify]
  rw [if_neg (by simp at hn; omega)]
theorem holds_grow {α : Type} [Inhabited α] {enc : α → Value} {w : World} {blk off : Nat} {d : Array α} (h : Go.Sort.Holds enc w blk off d) (os : Array Obj) : Go.Sort.Holds enc (Go.Sort.grow w os) blk off d := by
  intro j hj
  obtain ⟨h1, h2⟩ := h j hj
  have hb : blk < w.heap.size := World.block_lt_of_cell? w _ h1
  have e : (Go.Sort.grow w os).heap[(⟨blk, off + j, none⟩ : Addr).block]? = w.heap[(⟨blk, off + j, none⟩ : Addr).block]? := by simp only [Go.Sort.grow]; rw [Array.getElem?_append_left hb]
  exact ⟨(World.cell?_of_block e).trans h1, (World.frozen?_of_block e).trans h2⟩
def sortI (o : List Int) : List Int := o.mergeSort fun x y => decide (x ≤ y)
theorem sortI_len (o : List Int) : (sortI o).length = o.length := List.length_mergeSort _
theorem sort_any (a : Option Addr) (n c : Nat) (o : List Int) (w : World) (hn : n ≤ 1000000) (hl : n = o.length) (h : Row w 3 1 a n c (ints o)) :
    Calls Try.prog 29 #[.slice a n c] w fun e w' => e = .returned (.tuple #[]) ∧ IntsAt w' a (sortI o) ∧ Touch (blkOf a) w w' := by
  subst hl
  rcases h.out with ⟨rfl, h0, rfl, _⟩ | ⟨g, cur, rfl, hg, _⟩
  · obtain rfl : o = [] := List.length_eq_zero_iff.1 h0
    exact (Try.slices_Sort_int_none none 0 w).mono fun e w' ⟨he, hw⟩ => ⟨he, fun j hj => absurd hj (by simp [sortI]), by rw [hw]; exact Touch.refl _ _⟩
  · have hH := holds_of_row h
    refine (Try.slices_Sort_int g 0 c o w hH (h.lt _ rfl) (by omega)).mono fun e w' hw => ?_
    obtain ⟨he, q, os, hw'⟩ := hw
    have h1 : Go.Sort.Holds (Value.int .i64) (Go.Sort.ahead w q) g 0 o.toArray := hH
    have h2 := Go.Sort.holds_putRow (Value.int .i64) (Go.Sort.ahead w q) g 0 o.toArray (o.mergeSort fun x y => decide (x ≤ y)).toArray h1 (by simp)
    have h3 := holds_grow h2 os
    have h4 := touch_sorted (Value.int .i64) w q g 0 (o.mergeSort fun x y => decide (x ≤ y)).toArray os
    rw [← hw'] at h3 h4
    refine ⟨he, fun j hj => ⟨g, 0, rfl, ?_⟩, h4⟩
    have hj' : j < (o.mergeSort fun x y => decide (x ≤ y)).length := hj
    obtain ⟨h5, _⟩ := h3 j (by simpa using hj')
    rw [h5]
    rw [show (sortI o).getD j 0 = (o.mergeSort fun x y => decide (x ≤ y))[j] from by unfold sortI List.getD; rw [List.getElem?_eq_getElem hj']; rfl]
    rw [List.getElem!_toArray, getElem!_pos (o.mergeSort fun x y => decide (x ≤ y)) j hj']

/-- what Timers leaves. -/
def TimersPost (w : World) (o : List Int) (e : Ending) (w' : World) : Prop := ∃ a c, e = .returned (.slice a o.length c) ∧ IntsAt w' a o ∧ Below w.heap.size w w'
def TmRel (w : World) (ids : List Int) (k : Nat) (v : Value) (wr : World) : Prop := ∃ a c, v = .slice a k c ∧ Row wr 3 1 a k c (ints (ids.take k)) ∧ Below w.heap.size w wr ∧ ∀ x ∈ blkOf a, w.heap.size ≤ x

set_option maxHeartbeats 800000 in
theorem pt_timers_out (p N : Nat) (ns : List Nd) (i : Int) (hi : i < 0 ∨ (ns.length : Int) ≤ i) (w : World) (h : Bd w p N ns) :
    Calls Try.prog 20 #[.pointer (some ⟨p, 0, none⟩), .int .i64 i] w (TimersPost w []) := by
  have HF := Lib.hid (pt_find_out p N ns.length i w h.cellP hi)
  clear h hi
  have hfin : TimersPost w [] (.returned (.slice none 0 0)) w := ⟨none, 0, rfl, fun j hj => absurd hj (by simp), Below.refl _ _⟩
  generalize TimersPost w [] = R at *
  go_enter Try.func20, Try.ntmps20
  go_wp2_with fail
  refine HF.out.mono ?_
  rintro e w1 ⟨rfl, rfl⟩
  go_wp2_with fail
  exact hfin

set_option maxRecDepth 100000 in
set_option maxHeartbeats 1600000 in
theorem pt_timers (p N : Nat) (ns : List Nd) (i : Nat) (hi : i < ns.length) (w : World) (h : Bd w p N ns) (hbig : ns[i].l.length ≤ 1000) :
    Calls Try.prog 20 #[.pointer (some ⟨p, 0, none⟩), .int .i64 i] w (TimersPost w (sortI (ns[i].l.map (·.id)))) := by
  have HF := Lib.hid (pt_find p N ns.length i w h.cellP hi)
  have hc := (h.cellL i hi).1
  have HR := Lib.hid (h.row i hi)
  clear h
  have hfin : ∀ wr v, TmRel w (ns[i].l.map (·.id)) ns[i].l.length v wr → Calls Try.prog 29 #[v] wr fun e w' => e = .returned (.tuple #[]) ∧ TimersPost w (sortI (ns[i].l.map (·.id))) (.returned v) w' := fun wr v ⟨a, c, hv, hrow, hb, hf⟩ => by
    subst hv
    rw [List.take_of_length_le (by simp)] at hrow
    refine (sort_any a _ c _ wr (by omega) (by simp) hrow).mono fun e w' ⟨he, h1, h2⟩ => ⟨he, a, c, ?_, h1, ?_⟩
    · rw [sortI_len, List.length_map]
    · exact ((Touch.of_below hb []).trans (h2.mono (cs := blkOf a) fun x hx => .inl hx) (fun x hx => .inr (hf x hx))).keep
  have HFIN := Lib.hid hfin
  clear hfin
  generalize hR : TimersPost w (sortI (ns[i].l.map (·.id))) = R at *
  clear hR
  generalize ns[i].a = a0 at *
  generalize ns[i].c = c0 at *
  generalize ns[i].l = l at *
  have HS : Hid (TmRel w (l.map (·.id)) 0 (.slice none 0 0) w) := Lib.hid ⟨none, 0, rfl, Row.nil _ _ _, Below.refl _ _, fun x hx => by cases hx⟩
  generalize hn : l.length = n at *
  have HN := Lib.hid hn
  clear hn
  go_enter Try.func20, Try.ntmps20
  go_wp2_with fail
  refine HF.out.mono ?_
  rintro e w1 ⟨rfl, rfl⟩
  go_wp2_with fail
  go_loopw [7, 23] (fun v j wr => ∃ k : Nat, k ≤ n ∧ j = .int .i64 k ∧ Hid (TmRel w (l.map (·.id)) k v wr)) (fun _ j _ => n - (intOf j).toNat)
  case atStart => exact ⟨0, Nat.zero_le _, rfl, HS⟩
  case round =>
    obtain ⟨k, hk, rfl, hrl⟩ := hrel
    by_cases hlt : k < n
    · obtain ⟨a, c, rfl, hrow, hb, hf⟩ := hrl.out
      obtain ⟨g, rfl, hcs⟩ := flat_cells HR.out k (by rw [HN.out]; exact hlt)
      obtain ⟨hx0, hx1, hx2⟩ := flat_keep hb hcs
      have hk2 : k < l.length := by rw [HN.out]; exact hlt
      have hB1 : Below wr.heap.size wr (wr.alloc (.cells #[.int .i64 l[k].id, .int .i64 l[k].due, .int .i64 l[k].every] 61)) := Below.alloc (Below.refl _ _) (Nat.le_refl _) _
      obtain ⟨b', cap', w3, hrun, hrw, htou, hfr, hsz3, _⟩ := app_int (wr.alloc (.cells #[.int .i64 l[k].id, .int .i64 l[k].due, .int .i64 l[k].every] 61)) 27 a k c (ints ((l.map (·.id)).take k)) (hrow.touch (Touch.of_below hB1 []) (by simp)) l[k].id (by omega)
      rw [show (wr.alloc (.cells #[.int .i64 l[k].id, .int .i64 l[k].due, .int .i64 l[k].every] 61)).heap.size = wr.heap.size + 1 by simp] at hrun
      have HRUN := Lib.hid hrun
      have HNX : Hid (TmRel w (l.map (·.id)) (k + 1) (.slice b' (k + 1) cap') w3) := Lib.hid ⟨b', cap', rfl, by
        have e : (l.map (·.id)).take (k + 1) = (l.map (·.id)).take k ++ [l[k].id] := by
          rw [List.take_succ_eq_append_getElem (by simpa using hk2)]; simp
        rw [e]; simpa [ints] using hrw,
        ((Touch.of_below (hb.trans (hB1.mono hb.size)) []).trans (htou.mono (cs := blkOf a) fun x hx => .inl hx) (fun x hx => .inr (hf x hx))).keep,
        fun x hx => by
          obtain ⟨y, hy, rfl⟩ := mem_blkOf.1 hx
          rcases hfr y hy with h' | h'
          · exact hf _ h'
          · have := hb.size; have := hB1.size; omega⟩
      clear hrun hrw htou hfr hsz3 hB1 hf hb hrow hrl hcs
      generalize l[k].id = tid at *
      generalize l[k].due = tdue at *
      generalize l[k].every = tevery at *
      go_wp2_with ((at_builtin; refine wpList_appendR _ rfl (.tmp 27) (.tmp 30) 27 27 rfl (.slice a k c) (.slice (some ⟨wr.heap.size + 1, 0, none⟩) 1 1) rfl rfl HRUN.out ?_))
      go_roundw
      case rel => exact ⟨k + 1, by omega, by go_num, HNX⟩
      case measure => simp [intOf]; omega
    · obtain rfl : k = n := by omega
      have HC := Lib.hid (HFIN.out _ _ hrl.out)
      go_wp2_with fail
      refine HC.out.mono ?_
      rintro e w2 ⟨rfl, hfin⟩
      have HFF := Lib.hid hfin
      clear hfin
      go_wp2_with fail
      exact HFF.out

end Go.Proofs.Ytcolaafgjlaikaa
