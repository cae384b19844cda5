/- Do. -/
import Derived.Test.YtmifgnibalbgjaaGreatZM11
namespace Go.Proofs.YtmifgnibalbgjaaGreat
open Go.RowKit set_option linter.unusedVariables false set_option linter.unusedSimpArgs false
/-- the command, the reply, the shard. -/
def DM (w : World) (D : List Nat) (b0 b1 : Nat) (c : Cm) (r : Rp) (g : Nat) (S : Sh) (W : World) : Prop := Mem w D W [BlockA b1 r.arr 35, BlockA b0 c.arr 28, ShA g S]
section
variable {w W W' : World} {D : List Nat} {b0 b1 : Nat} {c : Cm} {r q : Rp} {g : Nat} {S S' : Sh}
theorem DM.begin (h : ShA g S w D) (c : Cm) : DM w D w.heap.size (w.heap.size + 1) c zeroR g S ((w.alloc (.cells c.arr 28)).alloc (.cells zeroR.arr 35)) := by
 have h1 := ((Mem.start h).block c.arr 28).block zeroR.arr 35
 rw [show (w.alloc (.cells c.arr 28)).heap.size = w.heap.size + 1 by simp] at h1
 exact h1
theorem DM.below (h : DM w D b0 b1 c r g S W) (b : Below W.heap.size W W') : DM w D b0 b1 c r g S W' := Mem.below h b
theorem DM.shard (h : DM w D b0 b1 c r g S W) : ∃ D', ShA g S W D' := Mem.get [BlockA b1 r.arr 35, BlockA b0 c.arr 28] (A := ShA g S) (r := []) h
theorem DM.rat (h : DM w D b0 b1 c r g S W) : RAt W b1 r := rat_of (Mem.get [] h).choose_spec.2
theorem DM.hc (h : DM w D b0 b1 c r g S W) : W.heap[b0]? = some (.cells c.arr 28 (0, 0)) := (Mem.get [BlockA b1 r.arr 35] (A := BlockA b0 c.arr 28) (r := [ShA g S]) h).choose_spec.2
theorem DM.call (h : DM w D b0 b1 c r g S W) {f : Nat} {args : Array Value} (hc : ∀ D', ShA g S W D' → Calls Tryz.prog f args W (CmPost W D' g (q, S'))) :
  Calls Tryz.prog f args W fun e w' => e = .returned q.val ∧ DM w D b0 b1 c r g S' w' := by
 have h1 := Mem.perm h (List.perm_middle (l₁ := [BlockA b1 r.arr 35, BlockA b0 c.arr 28]) (a := ShA g S) (l₂ := []))
 refine (Mem.head h1 (Q := fun e => e = .returned q.val) (B := fun _ => [ShA g S']) (fun D' hD' => hc D' hD')).mono fun e w' ⟨he, hm⟩ => ⟨he, ?_⟩
 exact Mem.perm hm (List.perm_middle (l₁ := [BlockA b1 r.arr 35, BlockA b0 c.arr 28]) (a := ShA g S') (l₂ := [])).symm
theorem DM.fin (h : DM w D b0 b1 c r g S W) (q : Rp) : ∀ W5, W5 = ((((W.setCell ⟨b1, 0, none⟩ (.int .i64 q.code)).setCell ⟨b1, 1, none⟩ (.int .i64 q.state)).setCell ⟨b1, 2, none⟩ (.string q.v)).setCell ⟨b1, 3, none⟩ (.bool q.h)) → RAt W5 b1 q ∧ CmPost w D g (q, S) (.returned q.val) W5 := by
 intro W5 hW5
 have h1 := Mem.setAt [] (r := [BlockA b0 c.arr 28, ShA g S]) (i := 0) h (.int .i64 q.code)
 have h2 := Mem.setAt [] (r := [BlockA b0 c.arr 28, ShA g S]) (i := 1) h1 (.int .i64 q.state)
 have h3 := Mem.setAt [] (r := [BlockA b0 c.arr 28, ShA g S]) (i := 2) h2 (.string q.v)
 have h4 : DM w D b0 b1 c q g S _ := Mem.setAt [] (r := [BlockA b0 c.arr 28, ShA g S]) (i := 3) h3 (.bool q.h)
 rw [← hW5] at h4
 exact ⟨h4.rat, rfl, Mem.drop [] (A := BlockA b0 c.arr 28) (r := [ShA g S]) (Mem.drop [] (A := BlockA b1 q.arr 35) (r := [BlockA b0 c.arr 28, ShA g S]) h4)⟩
theorem DM.tick (h : DM w D b0 b1 c r g S W) : (W.cell? ⟨g, 0, none⟩ = some (.int .i64 S.clock) ∧ W.frozen? ⟨g, 0, none⟩ = false) ∧ DM w D b0 b1 c r g (tickS S) (W.setCell ⟨g, 0, none⟩ (.int .i64 (min (S.clock + 1) 1099511627776))) := by
 have h1 := Mem.perm h (List.perm_middle (l₁ := [BlockA b1 r.arr 35, BlockA b0 c.arr 28]) (a := ShA g S) (l₂ := []))
 obtain ⟨pc, pl, ps, bl, bd, E, e, M⟩ := Mem.shOpen h1
 have hB := (Mem.get [] M).choose_spec.2
 have h2 := Mem.setAt [] (i := 0) M (.int .i64 (min (S.clock + 1) 1099511627776))
 have h3 := Mem.shShut (tickS S) (E := E) e h2
 exact ⟨⟨(cell_of_heap (i := 0) (v := .int .i64 S.clock) hB rfl).1, (cell_of_heap (i := 0) (v := .int .i64 S.clock) hB rfl).2⟩, Mem.perm h3 (List.perm_middle (l₁ := [BlockA b1 r.arr 35, BlockA b0 c.arr 28]) (a := ShA g (tickS S)) (l₂ := [])).symm⟩
end
theorem SInv.lives {K : List ByteArray} {n : Nat} {S : Sh} (h : SInv K n S) (hK : K.length ≤ 900) (tx : Int) : ∀ x, kGet tx S.lives = some x → SortW x.ws ∧ x.ws.length ≤ 1000 := fun x hx =>
 ⟨(h.live tx x hx).sort, by have := wok_len (h.live tx x hx).sort fun w hw => ((h.live tx x hx).ws w hw).1; omega⟩
set_option maxRecDepth 100000 in
set_option maxHeartbeats 4000000 in
theorem sdo_not (g : Nat) (S : Sh) (c : Cm) (w : World) {D : List Nat} (h : ShA g S w D) (htx : i64 c.tx) (hkey : c.key.size ≤ maxLen) (hval : c.value.size ≤ maxLen) (K : List ByteArray) (n : Nat) (hS : SInv K n S) (hn : n ≤ 390) (hK : K.length ≤ 900) (hr : rightC c = false) :
  Calls Tryz.prog 13 #[.pointer (some ⟨g, 0, none⟩), c.val] w (CmPost w D g ((codeR 1, S))) := by
 have HX0 := Lib.hid (DM.begin h c)
 have HRT := Lib.hid fun W => cright_any c hkey hval W
 obtain ⟨k, tx, att, stamp, op, key, value, mode, yes⟩ := c
 try simp only at HX0
 try simp only at HRT
 rw [hr] at HRT
 clear hr h
 go_enter Tryz.func13, Tryz.ntmps13
 go_wp2_with fail
 obtain ⟨w1, hw1⟩ : ∃ w1, w1 = (w.alloc (.cells #[.int .i64 k, .int .i64 tx, .int .i64 att, .int .i64 stamp, .int .i64 op, .string key, .string value, .int .i64 mode, .bool yes] 28)).alloc (.cells #[.int .i64 0, .int .i64 0, .string ⟨#[]⟩, .bool false] 35) := ⟨_, rfl⟩
 have HX1 : Hid (DM w D w.heap.size (w.heap.size + 1) ⟨k, tx, att, stamp, op, key, value, mode, yes⟩ zeroR g S w1) := Lib.hid (by rw [hw1]; exact HX0.out)
 clear HX0
 rw [← hw1]
 clear hw1
 have hc := HX1.out.hc
 have hk0 := (cell_of_heap (i := 0) (v := .int .i64 k) hc rfl).1
 have hk1 := (cell_of_heap (i := 1) (v := .int .i64 tx) hc rfl).1
 have hk2 := (cell_of_heap (i := 2) (v := .int .i64 att) hc rfl).1
 have hk3 := (cell_of_heap (i := 3) (v := .int .i64 stamp) hc rfl).1
 have hk4 := (cell_of_heap (i := 4) (v := .int .i64 op) hc rfl).1
 have hk5 := (cell_of_heap (i := 5) (v := .string key) hc rfl).1
 have hk6 := (cell_of_heap (i := 6) (v := .string value) hc rfl).1
 have hk7 := (cell_of_heap (i := 7) (v := .int .i64 mode) hc rfl).1
 have hk8 := (cell_of_heap (i := 8) (v := .bool yes) hc rfl).1
 clear hc
 go_wp2_with fail
 refine (HRT.out w1).mono ?_
 rintro e w2 ⟨rfl, hb⟩
 have HX2 := Lib.hid (HX1.out.below hb)
 clear HX1 hb HRT hk0 hk1 hk2 hk3 hk4 hk5 hk6 hk7 hk8
 have hc := HX2.out.hc
 have hk0 := (cell_of_heap (i := 0) (v := .int .i64 k) hc rfl).1
 have hk1 := (cell_of_heap (i := 1) (v := .int .i64 tx) hc rfl).1
 have hk2 := (cell_of_heap (i := 2) (v := .int .i64 att) hc rfl).1
 have hk3 := (cell_of_heap (i := 3) (v := .int .i64 stamp) hc rfl).1
 have hk4 := (cell_of_heap (i := 4) (v := .int .i64 op) hc rfl).1
 have hk5 := (cell_of_heap (i := 5) (v := .string key) hc rfl).1
 have hk6 := (cell_of_heap (i := 6) (v := .string value) hc rfl).1
 have hk7 := (cell_of_heap (i := 7) (v := .int .i64 mode) hc rfl).1
 have hk8 := (cell_of_heap (i := 8) (v := .bool yes) hc rfl).1
 clear hc
 obtain ⟨c0, c1, c2, c3, f0, f1, f2, f3⟩ := HX2.out.rat
 simp only [zeroR] at c0 c1 c2 c3
 have HEND := Lib.hid (HX2.out.fin (codeR 1))
 simp only [codeR] at HEND
 clear HX2 hk0 hk1 hk2 hk3 hk4 hk5 hk6 hk7 hk8
 go_wp2_with fail
 obtain ⟨W5, hW5⟩ : ∃ W5, W5 = ((((w2.setCell ⟨w.heap.size + 1, 0, none⟩ (.int .i64 1)).setCell ⟨w.heap.size + 1, 1, none⟩ (.int .i64 0)).setCell ⟨w.heap.size + 1, 2, none⟩ (.string ⟨#[]⟩)).setCell ⟨w.heap.size + 1, 3, none⟩ (.bool false)) := ⟨_, rfl⟩
 rw [← hW5]
 obtain ⟨⟨v0, v1, v2, v3, -, -, -, -⟩, hR⟩ := HEND.out W5 hW5
 simp only at v0 v1 v2 v3
 clear hW5
 refine bodyPost_ret (by simp [results, Tryz.results13, go_sem, v0, v1, v2, v3]; try rfl) rfl ?_
 exact hR
set_option maxRecDepth 100000 in
set_option maxHeartbeats 4000000 in
theorem sdo_tick (g : Nat) (S : Sh) (c : Cm) (w : World) {D : List Nat} (h : ShA g S w D) (htx : i64 c.tx) (hkey : c.key.size ≤ maxLen) (hval : c.value.size ≤ maxLen) (K : List ByteArray) (n : Nat) (hS : SInv K n S) (hn : n ≤ 390) (hK : K.length ≤ 900) (hr : rightC c = true) (hk : c.kind = 9) :
  Calls Tryz.prog 13 #[.pointer (some ⟨g, 0, none⟩), c.val] w (CmPost w D g ((codeR 0, tickS S))) := by
 have HCLK := Lib.hid hS.clock
 have HX0 := Lib.hid (DM.begin h c)
 have HRT := Lib.hid fun W => cright_any c hkey hval W
 obtain ⟨k, tx, att, stamp, op, key, value, mode, yes⟩ := c
 simp only at hk
 subst hk
 try simp only at HX0
 try simp only at HRT
 rw [hr] at HRT
 clear hr h
 go_enter Tryz.func13, Tryz.ntmps13
 go_wp2_with fail
 obtain ⟨w1, hw1⟩ : ∃ w1, w1 = (w.alloc (.cells #[.int .i64 9, .int .i64 tx, .int .i64 att, .int .i64 stamp, .int .i64 op, .string key, .string value, .int .i64 mode, .bool yes] 28)).alloc (.cells #[.int .i64 0, .int .i64 0, .string ⟨#[]⟩, .bool false] 35) := ⟨_, rfl⟩
 have HX1 : Hid (DM w D w.heap.size (w.heap.size + 1) ⟨9, tx, att, stamp, op, key, value, mode, yes⟩ zeroR g S w1) := Lib.hid (by rw [hw1]; exact HX0.out)
 clear HX0
 rw [← hw1]
 clear hw1
 have hc := HX1.out.hc
 have hk0 := (cell_of_heap (i := 0) (v := .int .i64 9) hc rfl).1
 have hk1 := (cell_of_heap (i := 1) (v := .int .i64 tx) hc rfl).1
 have hk2 := (cell_of_heap (i := 2) (v := .int .i64 att) hc rfl).1
 have hk3 := (cell_of_heap (i := 3) (v := .int .i64 stamp) hc rfl).1
 have hk4 := (cell_of_heap (i := 4) (v := .int .i64 op) hc rfl).1
 have hk5 := (cell_of_heap (i := 5) (v := .string key) hc rfl).1
 have hk6 := (cell_of_heap (i := 6) (v := .string value) hc rfl).1
 have hk7 := (cell_of_heap (i := 7) (v := .int .i64 mode) hc rfl).1
 have hk8 := (cell_of_heap (i := 8) (v := .bool yes) hc rfl).1
 clear hc
 go_wp2_with fail
 refine (HRT.out w1).mono ?_
 rintro e w2 ⟨rfl, hb⟩
 have HX2 := Lib.hid (HX1.out.below hb)
 clear HX1 hb HRT hk0 hk1 hk2 hk3 hk4 hk5 hk6 hk7 hk8
 have hc := HX2.out.hc
 have hk0 := (cell_of_heap (i := 0) (v := .int .i64 9) hc rfl).1
 have hk1 := (cell_of_heap (i := 1) (v := .int .i64 tx) hc rfl).1
 have hk2 := (cell_of_heap (i := 2) (v := .int .i64 att) hc rfl).1
 have hk3 := (cell_of_heap (i := 3) (v := .int .i64 stamp) hc rfl).1
 have hk4 := (cell_of_heap (i := 4) (v := .int .i64 op) hc rfl).1
 have hk5 := (cell_of_heap (i := 5) (v := .string key) hc rfl).1
 have hk6 := (cell_of_heap (i := 6) (v := .string value) hc rfl).1
 have hk7 := (cell_of_heap (i := 7) (v := .int .i64 mode) hc rfl).1
 have hk8 := (cell_of_heap (i := 8) (v := .bool yes) hc rfl).1
 clear hc
 obtain ⟨⟨hg0, hf0⟩, hT⟩ := HX2.out.tick
 have hck := HCLK.out
 obtain ⟨t, ht⟩ : ∃ t, t = min (S.clock + 1) 1099511627776 := ⟨_, rfl⟩
 rw [← ht] at hT
 have HT := Lib.hid hT
 have hmin : min (S.clock + 1) 1099511627776 = t := ht.symm
 have hwr : wrap64 (S.clock + 1) = S.clock + 1 := by unfold wrap64; omega
 obtain ⟨c0, c1, c2, c3, f0, f1, f2, f3⟩ := HT.out.rat
 simp only [zeroR] at c0 c1 c2 c3
 have HEND := Lib.hid (HT.out.fin (codeR 0))
 simp only [codeR] at HEND
 clear HX2 hT ht hck HCLK HT
 generalize tickS S = S9 at *
 generalize S.clock = ck at *
 go_wp2_with fail
 obtain ⟨W5, hW5⟩ : ∃ W5, W5 = (((((w2.setCell ⟨g, 0, none⟩ (.int .i64 t)).setCell ⟨w.heap.size + 1, 0, none⟩ (.int .i64 0)).setCell ⟨w.heap.size + 1, 1, none⟩ (.int .i64 0)).setCell ⟨w.heap.size + 1, 2, none⟩ (.string ⟨#[]⟩)).setCell ⟨w.heap.size + 1, 3, none⟩ (.bool false)) := ⟨_, rfl⟩
 rw [← hW5]
 obtain ⟨⟨v0, v1, v2, v3, -, -, -, -⟩, hR⟩ := HEND.out W5 hW5
 simp only at v0 v1 v2 v3
 clear hW5
 refine bodyPost_ret (by simp [results, Tryz.results13, go_sem, v0, v1, v2, v3]; try rfl) rfl ?_
 exact hR
set_option maxRecDepth 100000 in
set_option maxHeartbeats 4000000 in
theorem sdo_fin (g : Nat) (S : Sh) (c : Cm) (w : World) {D : List Nat} (h : ShA g S w D) (htx : i64 c.tx) (hkey : c.key.size ≤ maxLen) (hval : c.value.size ≤ maxLen) (K : List ByteArray) (n : Nat) (hS : SInv K n S) (hn : n ≤ 390) (hK : K.length ≤ 900) (hr : rightC c = true) (hk : c.kind = 7) :
  Calls Tryz.prog 13 #[.pointer (some ⟨g, 0, none⟩), c.val] w (CmPost w D g (finM S c)) := by
 have HCT := Lib.hid fun (W : World) (D' : List Nat) (hD' : ShA g S W D') => sfin_any g S c W hD' htx K n hS hn hK
 generalize finM S c = pp at HCT ⊢
 obtain ⟨⟨q0, q1, q2, q3⟩, S'⟩ := pp
 clear hS hn hK
 have HX0 := Lib.hid (DM.begin h c)
 have HRT := Lib.hid fun W => cright_any c hkey hval W
 obtain ⟨k, tx, att, stamp, op, key, value, mode, yes⟩ := c
 simp only at hk
 subst hk
 try simp only at HX0
 try simp only at HRT
 try simp only at HCT
 rw [hr] at HRT
 clear hr h
 go_enter Tryz.func13, Tryz.ntmps13
 go_wp2_with fail
 obtain ⟨w1, hw1⟩ : ∃ w1, w1 = (w.alloc (.cells #[.int .i64 7, .int .i64 tx, .int .i64 att, .int .i64 stamp, .int .i64 op, .string key, .string value, .int .i64 mode, .bool yes] 28)).alloc (.cells #[.int .i64 0, .int .i64 0, .string ⟨#[]⟩, .bool false] 35) := ⟨_, rfl⟩
 have HX1 : Hid (DM w D w.heap.size (w.heap.size + 1) ⟨7, tx, att, stamp, op, key, value, mode, yes⟩ zeroR g S w1) := Lib.hid (by rw [hw1]; exact HX0.out)
 clear HX0
 rw [← hw1]
 clear hw1
 have hc := HX1.out.hc
 have hk0 := (cell_of_heap (i := 0) (v := .int .i64 7) hc rfl).1
 have hk1 := (cell_of_heap (i := 1) (v := .int .i64 tx) hc rfl).1
 have hk2 := (cell_of_heap (i := 2) (v := .int .i64 att) hc rfl).1
 have hk3 := (cell_of_heap (i := 3) (v := .int .i64 stamp) hc rfl).1
 have hk4 := (cell_of_heap (i := 4) (v := .int .i64 op) hc rfl).1
 have hk5 := (cell_of_heap (i := 5) (v := .string key) hc rfl).1
 have hk6 := (cell_of_heap (i := 6) (v := .string value) hc rfl).1
 have hk7 := (cell_of_heap (i := 7) (v := .int .i64 mode) hc rfl).1
 have hk8 := (cell_of_heap (i := 8) (v := .bool yes) hc rfl).1
 clear hc
 go_wp2_with fail
 refine (HRT.out w1).mono ?_
 rintro e w2 ⟨rfl, hb⟩
 have HX2 := Lib.hid (HX1.out.below hb)
 clear HX1 hb HRT hk0 hk1 hk2 hk3 hk4 hk5 hk6 hk7 hk8
 have hc := HX2.out.hc
 have hk0 := (cell_of_heap (i := 0) (v := .int .i64 7) hc rfl).1
 have hk1 := (cell_of_heap (i := 1) (v := .int .i64 tx) hc rfl).1
 have hk2 := (cell_of_heap (i := 2) (v := .int .i64 att) hc rfl).1
 have hk3 := (cell_of_heap (i := 3) (v := .int .i64 stamp) hc rfl).1
 have hk4 := (cell_of_heap (i := 4) (v := .int .i64 op) hc rfl).1
 have hk5 := (cell_of_heap (i := 5) (v := .string key) hc rfl).1
 have hk6 := (cell_of_heap (i := 6) (v := .string value) hc rfl).1
 have hk7 := (cell_of_heap (i := 7) (v := .int .i64 mode) hc rfl).1
 have hk8 := (cell_of_heap (i := 8) (v := .bool yes) hc rfl).1
 clear hc
 have HCL := Lib.hid (HX2.out.call (q := (⟨q0, q1, q2, q3⟩ : Rp)) (S' := S') (fun D' hD' => HCT.out w2 D' hD'))
 clear HX2 HCT
 go_wp2_with fail
 refine HCL.out.mono ?_
 rintro e w4 ⟨rfl, hm⟩
 have HX4 := Lib.hid hm
 clear hm HCL
 obtain ⟨c0, c1, c2, c3, f0, f1, f2, f3⟩ := HX4.out.rat
 simp only [zeroR] at c0 c1 c2 c3
 have HEND := Lib.hid (HX4.out.fin (⟨q0, q1, q2, q3⟩ : Rp))
 clear HX4 hk0 hk1 hk2 hk3 hk4 hk5 hk6 hk7 hk8
 go_wp2_with fail
 obtain ⟨W5, hW5⟩ : ∃ W5, W5 = ((((w4.setCell ⟨w.heap.size + 1, 0, none⟩ (.int .i64 q0)).setCell ⟨w.heap.size + 1, 1, none⟩ (.int .i64 q1)).setCell ⟨w.heap.size + 1, 2, none⟩ (.string q2)).setCell ⟨w.heap.size + 1, 3, none⟩ (.bool q3)) := ⟨_, rfl⟩
 rw [← hW5]
 obtain ⟨⟨v0, v1, v2, v3, -, -, -, -⟩, hR⟩ := HEND.out W5 hW5
 simp only at v0 v1 v2 v3
 clear hW5
 refine bodyPost_ret (by simp [results, Tryz.results13, go_sem, v0, v1, v2, v3]; try rfl) rfl ?_
 exact hR
set_option maxRecDepth 100000 in
set_option maxHeartbeats 4000000 in
theorem sdo_open (g : Nat) (S : Sh) (c : Cm) (w : World) {D : List Nat} (h : ShA g S w D) (htx : i64 c.tx) (hkey : c.key.size ≤ maxLen) (hval : c.value.size ≤ maxLen) (K : List ByteArray) (n : Nat) (hS : SInv K n S) (hn : n ≤ 390) (hK : K.length ≤ 900) (hr : rightC c = true) (hk : c.kind = 1) :
  Calls Tryz.prog 13 #[.pointer (some ⟨g, 0, none⟩), c.val] w (CmPost w D g (tabM S c)) := by
 have HCT := Lib.hid fun (W : World) (D' : List Nat) (hD' : ShA g S W D') => table_open g S c W hD' htx hk hS.rows.1 (by have := hS.rows.2; omega)
 generalize tabM S c = pp at HCT ⊢
 obtain ⟨⟨q0, q1, q2, q3⟩, S'⟩ := pp
 clear hS hn hK
 have HX0 := Lib.hid (DM.begin h c)
 have HRT := Lib.hid fun W => cright_any c hkey hval W
 obtain ⟨k, tx, att, stamp, op, key, value, mode, yes⟩ := c
 simp only at hk
 subst hk
 try simp only at HX0
 try simp only at HRT
 try simp only at HCT
 rw [hr] at HRT
 clear hr h
 go_enter Tryz.func13, Tryz.ntmps13
 go_wp2_with fail
 obtain ⟨w1, hw1⟩ : ∃ w1, w1 = (w.alloc (.cells #[.int .i64 1, .int .i64 tx, .int .i64 att, .int .i64 stamp, .int .i64 op, .string key, .string value, .int .i64 mode, .bool yes] 28)).alloc (.cells #[.int .i64 0, .int .i64 0, .string ⟨#[]⟩, .bool false] 35) := ⟨_, rfl⟩
 have HX1 : Hid (DM w D w.heap.size (w.heap.size + 1) ⟨1, tx, att, stamp, op, key, value, mode, yes⟩ zeroR g S w1) := Lib.hid (by rw [hw1]; exact HX0.out)
 clear HX0
 rw [← hw1]
 clear hw1
 have hc := HX1.out.hc
 have hk0 := (cell_of_heap (i := 0) (v := .int .i64 1) hc rfl).1
 have hk1 := (cell_of_heap (i := 1) (v := .int .i64 tx) hc rfl).1
 have hk2 := (cell_of_heap (i := 2) (v := .int .i64 att) hc rfl).1
 have hk3 := (cell_of_heap (i := 3) (v := .int .i64 stamp) hc rfl).1
 have hk4 := (cell_of_heap (i := 4) (v := .int .i64 op) hc rfl).1
 have hk5 := (cell_of_heap (i := 5) (v := .string key) hc rfl).1
 have hk6 := (cell_of_heap (i := 6) (v := .string value) hc rfl).1
 have hk7 := (cell_of_heap (i := 7) (v := .int .i64 mode) hc rfl).1
 have hk8 := (cell_of_heap (i := 8) (v := .bool yes) hc rfl).1
 clear hc
 go_wp2_with fail
 refine (HRT.out w1).mono ?_
 rintro e w2 ⟨rfl, hb⟩
 have HX2 := Lib.hid (HX1.out.below hb)
 clear HX1 hb HRT hk0 hk1 hk2 hk3 hk4 hk5 hk6 hk7 hk8
 have hc := HX2.out.hc
 have hk0 := (cell_of_heap (i := 0) (v := .int .i64 1) hc rfl).1
 have hk1 := (cell_of_heap (i := 1) (v := .int .i64 tx) hc rfl).1
 have hk2 := (cell_of_heap (i := 2) (v := .int .i64 att) hc rfl).1
 have hk3 := (cell_of_heap (i := 3) (v := .int .i64 stamp) hc rfl).1
 have hk4 := (cell_of_heap (i := 4) (v := .int .i64 op) hc rfl).1
 have hk5 := (cell_of_heap (i := 5) (v := .string key) hc rfl).1
 have hk6 := (cell_of_heap (i := 6) (v := .string value) hc rfl).1
 have hk7 := (cell_of_heap (i := 7) (v := .int .i64 mode) hc rfl).1
 have hk8 := (cell_of_heap (i := 8) (v := .bool yes) hc rfl).1
 clear hc
 have HCL := Lib.hid (HX2.out.call (q := (⟨q0, q1, q2, q3⟩ : Rp)) (S' := S') (fun D' hD' => HCT.out w2 D' hD'))
 clear HX2 HCT
 go_wp2_with fail
 refine HCL.out.mono ?_
 rintro e w4 ⟨rfl, hm⟩
 have HX4 := Lib.hid hm
 clear hm HCL
 obtain ⟨c0, c1, c2, c3, f0, f1, f2, f3⟩ := HX4.out.rat
 simp only [zeroR] at c0 c1 c2 c3
 have HEND := Lib.hid (HX4.out.fin (⟨q0, q1, q2, q3⟩ : Rp))
 clear HX4 hk0 hk1 hk2 hk3 hk4 hk5 hk6 hk7 hk8
 go_wp2_with fail
 obtain ⟨W5, hW5⟩ : ∃ W5, W5 = ((((w4.setCell ⟨w.heap.size + 1, 0, none⟩ (.int .i64 q0)).setCell ⟨w.heap.size + 1, 1, none⟩ (.int .i64 q1)).setCell ⟨w.heap.size + 1, 2, none⟩ (.string q2)).setCell ⟨w.heap.size + 1, 3, none⟩ (.bool q3)) := ⟨_, rfl⟩
 rw [← hW5]
 obtain ⟨⟨v0, v1, v2, v3, -, -, -, -⟩, hR⟩ := HEND.out W5 hW5
 simp only at v0 v1 v2 v3
 clear hW5
 refine bodyPost_ret (by simp [results, Tryz.results13, go_sem, v0, v1, v2, v3]; try rfl) rfl ?_
 exact hR
set_option maxRecDepth 100000 in
set_option maxHeartbeats 4000000 in
theorem sdo_decide (g : Nat) (S : Sh) (c : Cm) (w : World) {D : List Nat} (h : ShA g S w D) (htx : i64 c.tx) (hkey : c.key.size ≤ maxLen) (hval : c.value.size ≤ maxLen) (K : List ByteArray) (n : Nat) (hS : SInv K n S) (hn : n ≤ 390) (hK : K.length ≤ 900) (hr : rightC c = true) (hk : c.kind = 5) :
  Calls Tryz.prog 13 #[.pointer (some ⟨g, 0, none⟩), c.val] w (CmPost w D g (tabM S c)) := by
 have HCT := Lib.hid fun (W : World) (D' : List Nat) (hD' : ShA g S W D') => table_decide g S c W hD' htx hk hS.rows.1 (by have := hS.rows.2; omega)
 generalize tabM S c = pp at HCT ⊢
 obtain ⟨⟨q0, q1, q2, q3⟩, S'⟩ := pp
 clear hS hn hK
 have HX0 := Lib.hid (DM.begin h c)
 have HRT := Lib.hid fun W => cright_any c hkey hval W
 obtain ⟨k, tx, att, stamp, op, key, value, mode, yes⟩ := c
 simp only at hk
 subst hk
 try simp only at HX0
 try simp only at HRT
 try simp only at HCT
 rw [hr] at HRT
 clear hr h
 go_enter Tryz.func13, Tryz.ntmps13
 go_wp2_with fail
 obtain ⟨w1, hw1⟩ : ∃ w1, w1 = (w.alloc (.cells #[.int .i64 5, .int .i64 tx, .int .i64 att, .int .i64 stamp, .int .i64 op, .string key, .string value, .int .i64 mode, .bool yes] 28)).alloc (.cells #[.int .i64 0, .int .i64 0, .string ⟨#[]⟩, .bool false] 35) := ⟨_, rfl⟩
 have HX1 : Hid (DM w D w.heap.size (w.heap.size + 1) ⟨5, tx, att, stamp, op, key, value, mode, yes⟩ zeroR g S w1) := Lib.hid (by rw [hw1]; exact HX0.out)
 clear HX0
 rw [← hw1]
 clear hw1
 have hc := HX1.out.hc
 have hk0 := (cell_of_heap (i := 0) (v := .int .i64 5) hc rfl).1
 have hk1 := (cell_of_heap (i := 1) (v := .int .i64 tx) hc rfl).1
 have hk2 := (cell_of_heap (i := 2) (v := .int .i64 att) hc rfl).1
 have hk3 := (cell_of_heap (i := 3) (v := .int .i64 stamp) hc rfl).1
 have hk4 := (cell_of_heap (i := 4) (v := .int .i64 op) hc rfl).1
 have hk5 := (cell_of_heap (i := 5) (v := .string key) hc rfl).1
 have hk6 := (cell_of_heap (i := 6) (v := .string value) hc rfl).1
 have hk7 := (cell_of_heap (i := 7) (v := .int .i64 mode) hc rfl).1
 have hk8 := (cell_of_heap (i := 8) (v := .bool yes) hc rfl).1
 clear hc
 go_wp2_with fail
 refine (HRT.out w1).mono ?_
 rintro e w2 ⟨rfl, hb⟩
 have HX2 := Lib.hid (HX1.out.below hb)
 clear HX1 hb HRT hk0 hk1 hk2 hk3 hk4 hk5 hk6 hk7 hk8
 have hc := HX2.out.hc
 have hk0 := (cell_of_heap (i := 0) (v := .int .i64 5) hc rfl).1
 have hk1 := (cell_of_heap (i := 1) (v := .int .i64 tx) hc rfl).1
 have hk2 := (cell_of_heap (i := 2) (v := .int .i64 att) hc rfl).1
 have hk3 := (cell_of_heap (i := 3) (v := .int .i64 stamp) hc rfl).1
 have hk4 := (cell_of_heap (i := 4) (v := .int .i64 op) hc rfl).1
 have hk5 := (cell_of_heap (i := 5) (v := .string key) hc rfl).1
 have hk6 := (cell_of_heap (i := 6) (v := .string value) hc rfl).1
 have hk7 := (cell_of_heap (i := 7) (v := .int .i64 mode) hc rfl).1
 have hk8 := (cell_of_heap (i := 8) (v := .bool yes) hc rfl).1
 clear hc
 have HCL := Lib.hid (HX2.out.call (q := (⟨q0, q1, q2, q3⟩ : Rp)) (S' := S') (fun D' hD' => HCT.out w2 D' hD'))
 clear HX2 HCT
 go_wp2_with fail
 refine HCL.out.mono ?_
 rintro e w4 ⟨rfl, hm⟩
 have HX4 := Lib.hid hm
 clear hm HCL
 obtain ⟨c0, c1, c2, c3, f0, f1, f2, f3⟩ := HX4.out.rat
 simp only [zeroR] at c0 c1 c2 c3
 have HEND := Lib.hid (HX4.out.fin (⟨q0, q1, q2, q3⟩ : Rp))
 clear HX4 hk0 hk1 hk2 hk3 hk4 hk5 hk6 hk7 hk8
 go_wp2_with fail
 obtain ⟨W5, hW5⟩ : ∃ W5, W5 = ((((w4.setCell ⟨w.heap.size + 1, 0, none⟩ (.int .i64 q0)).setCell ⟨w.heap.size + 1, 1, none⟩ (.int .i64 q1)).setCell ⟨w.heap.size + 1, 2, none⟩ (.string q2)).setCell ⟨w.heap.size + 1, 3, none⟩ (.bool q3)) := ⟨_, rfl⟩
 rw [← hW5]
 obtain ⟨⟨v0, v1, v2, v3, -, -, -, -⟩, hR⟩ := HEND.out W5 hW5
 simp only at v0 v1 v2 v3
 clear hW5
 refine bodyPost_ret (by simp [results, Tryz.results13, go_sem, v0, v1, v2, v3]; try rfl) rfl ?_
 exact hR
set_option maxRecDepth 100000 in
set_option maxHeartbeats 4000000 in
theorem sdo_kill (g : Nat) (S : Sh) (c : Cm) (w : World) {D : List Nat} (h : ShA g S w D) (htx : i64 c.tx) (hkey : c.key.size ≤ maxLen) (hval : c.value.size ≤ maxLen) (K : List ByteArray) (n : Nat) (hS : SInv K n S) (hn : n ≤ 390) (hK : K.length ≤ 900) (hr : rightC c = true) (hk : c.kind = 6) :
  Calls Tryz.prog 13 #[.pointer (some ⟨g, 0, none⟩), c.val] w (CmPost w D g (tabM S c)) := by
 have HCT := Lib.hid fun (W : World) (D' : List Nat) (hD' : ShA g S W D') => table_kill g S c W hD' htx hk hS.rows.1 (by have := hS.rows.2; omega)
 generalize tabM S c = pp at HCT ⊢
 obtain ⟨⟨q0, q1, q2, q3⟩, S'⟩ := pp
 clear hS hn hK
 have HX0 := Lib.hid (DM.begin h c)
 have HRT := Lib.hid fun W => cright_any c hkey hval W
 obtain ⟨k, tx, att, stamp, op, key, value, mode, yes⟩ := c
 simp only at hk
 subst hk
 try simp only at HX0
 try simp only at HRT
 try simp only at HCT
 rw [hr] at HRT
 clear hr h
 go_enter Tryz.func13, Tryz.ntmps13
 go_wp2_with fail
 obtain ⟨w1, hw1⟩ : ∃ w1, w1 = (w.alloc (.cells #[.int .i64 6, .int .i64 tx, .int .i64 att, .int .i64 stamp, .int .i64 op, .string key, .string value, .int .i64 mode, .bool yes] 28)).alloc (.cells #[.int .i64 0, .int .i64 0, .string ⟨#[]⟩, .bool false] 35) := ⟨_, rfl⟩
 have HX1 : Hid (DM w D w.heap.size (w.heap.size + 1) ⟨6, tx, att, stamp, op, key, value, mode, yes⟩ zeroR g S w1) := Lib.hid (by rw [hw1]; exact HX0.out)
 clear HX0
 rw [← hw1]
 clear hw1
 have hc := HX1.out.hc
 have hk0 := (cell_of_heap (i := 0) (v := .int .i64 6) hc rfl).1
 have hk1 := (cell_of_heap (i := 1) (v := .int .i64 tx) hc rfl).1
 have hk2 := (cell_of_heap (i := 2) (v := .int .i64 att) hc rfl).1
 have hk3 := (cell_of_heap (i := 3) (v := .int .i64 stamp) hc rfl).1
 have hk4 := (cell_of_heap (i := 4) (v := .int .i64 op) hc rfl).1
 have hk5 := (cell_of_heap (i := 5) (v := .string key) hc rfl).1
 have hk6 := (cell_of_heap (i := 6) (v := .string value) hc rfl).1
 have hk7 := (cell_of_heap (i := 7) (v := .int .i64 mode) hc rfl).1
 have hk8 := (cell_of_heap (i := 8) (v := .bool yes) hc rfl).1
 clear hc
 go_wp2_with fail
 refine (HRT.out w1).mono ?_
 rintro e w2 ⟨rfl, hb⟩
 have HX2 := Lib.hid (HX1.out.below hb)
 clear HX1 hb HRT hk0 hk1 hk2 hk3 hk4 hk5 hk6 hk7 hk8
 have hc := HX2.out.hc
 have hk0 := (cell_of_heap (i := 0) (v := .int .i64 6) hc rfl).1
 have hk1 := (cell_of_heap (i := 1) (v := .int .i64 tx) hc rfl).1
 have hk2 := (cell_of_heap (i := 2) (v := .int .i64 att) hc rfl).1
 have hk3 := (cell_of_heap (i := 3) (v := .int .i64 stamp) hc rfl).1
 have hk4 := (cell_of_heap (i := 4) (v := .int .i64 op) hc rfl).1
 have hk5 := (cell_of_heap (i := 5) (v := .string key) hc rfl).1
 have hk6 := (cell_of_heap (i := 6) (v := .string value) hc rfl).1
 have hk7 := (cell_of_heap (i := 7) (v := .int .i64 mode) hc rfl).1
 have hk8 := (cell_of_heap (i := 8) (v := .bool yes) hc rfl).1
 clear hc
 have HCL := Lib.hid (HX2.out.call (q := (⟨q0, q1, q2, q3⟩ : Rp)) (S' := S') (fun D' hD' => HCT.out w2 D' hD'))
 clear HX2 HCT
 go_wp2_with fail
 refine HCL.out.mono ?_
 rintro e w4 ⟨rfl, hm⟩
 have HX4 := Lib.hid hm
 clear hm HCL
 obtain ⟨c0, c1, c2, c3, f0, f1, f2, f3⟩ := HX4.out.rat
 simp only [zeroR] at c0 c1 c2 c3
 have HEND := Lib.hid (HX4.out.fin (⟨q0, q1, q2, q3⟩ : Rp))
 clear HX4 hk0 hk1 hk2 hk3 hk4 hk5 hk6 hk7 hk8
 go_wp2_with fail
 obtain ⟨W5, hW5⟩ : ∃ W5, W5 = ((((w4.setCell ⟨w.heap.size + 1, 0, none⟩ (.int .i64 q0)).setCell ⟨w.heap.size + 1, 1, none⟩ (.int .i64 q1)).setCell ⟨w.heap.size + 1, 2, none⟩ (.string q2)).setCell ⟨w.heap.size + 1, 3, none⟩ (.bool q3)) := ⟨_, rfl⟩
 rw [← hW5]
 obtain ⟨⟨v0, v1, v2, v3, -, -, -, -⟩, hR⟩ := HEND.out W5 hW5
 simp only at v0 v1 v2 v3
 clear hW5
 refine bodyPost_ret (by simp [results, Tryz.results13, go_sem, v0, v1, v2, v3]; try rfl) rfl ?_
 exact hR
set_option maxRecDepth 100000 in
set_option maxHeartbeats 4000000 in
theorem sdo_beat (g : Nat) (S : Sh) (c : Cm) (w : World) {D : List Nat} (h : ShA g S w D) (htx : i64 c.tx) (hkey : c.key.size ≤ maxLen) (hval : c.value.size ≤ maxLen) (K : List ByteArray) (n : Nat) (hS : SInv K n S) (hn : n ≤ 390) (hK : K.length ≤ 900) (hr : rightC c = true) (hk : c.kind = 8) :
  Calls Tryz.prog 13 #[.pointer (some ⟨g, 0, none⟩), c.val] w (CmPost w D g (tabM S c)) := by
 have HCT := Lib.hid fun (W : World) (D' : List Nat) (hD' : ShA g S W D') => table_beat g S c W hD' htx hk hS.rows.1 (by have := hS.rows.2; omega)
 generalize tabM S c = pp at HCT ⊢
 obtain ⟨⟨q0, q1, q2, q3⟩, S'⟩ := pp
 clear hS hn hK
 have HX0 := Lib.hid (DM.begin h c)
 have HRT := Lib.hid fun W => cright_any c hkey hval W
 obtain ⟨k, tx, att, stamp, op, key, value, mode, yes⟩ := c
 simp only at hk
 subst hk
 try simp only at HX0
 try simp only at HRT
 try simp only at HCT
 rw [hr] at HRT
 clear hr h
 go_enter Tryz.func13, Tryz.ntmps13
 go_wp2_with fail
 obtain ⟨w1, hw1⟩ : ∃ w1, w1 = (w.alloc (.cells #[.int .i64 8, .int .i64 tx, .int .i64 att, .int .i64 stamp, .int .i64 op, .string key, .string value, .int .i64 mode, .bool yes] 28)).alloc (.cells #[.int .i64 0, .int .i64 0, .string ⟨#[]⟩, .bool false] 35) := ⟨_, rfl⟩
 have HX1 : Hid (DM w D w.heap.size (w.heap.size + 1) ⟨8, tx, att, stamp, op, key, value, mode, yes⟩ zeroR g S w1) := Lib.hid (by rw [hw1]; exact HX0.out)
 clear HX0
 rw [← hw1]
 clear hw1
 have hc := HX1.out.hc
 have hk0 := (cell_of_heap (i := 0) (v := .int .i64 8) hc rfl).1
 have hk1 := (cell_of_heap (i := 1) (v := .int .i64 tx) hc rfl).1
 have hk2 := (cell_of_heap (i := 2) (v := .int .i64 att) hc rfl).1
 have hk3 := (cell_of_heap (i := 3) (v := .int .i64 stamp) hc rfl).1
 have hk4 := (cell_of_heap (i := 4) (v := .int .i64 op) hc rfl).1
 have hk5 := (cell_of_heap (i := 5) (v := .string key) hc rfl).1
 have hk6 := (cell_of_heap (i := 6) (v := .string value) hc rfl).1
 have hk7 := (cell_of_heap (i := 7) (v := .int .i64 mode) hc rfl).1
 have hk8 := (cell_of_heap (i := 8) (v := .bool yes) hc rfl).1
 clear hc
 go_wp2_with fail
 refine (HRT.out w1).mono ?_
 rintro e w2 ⟨rfl, hb⟩
 have HX2 := Lib.hid (HX1.out.below hb)
 clear HX1 hb HRT hk0 hk1 hk2 hk3 hk4 hk5 hk6 hk7 hk8
 have hc := HX2.out.hc
 have hk0 := (cell_of_heap (i := 0) (v := .int .i64 8) hc rfl).1
 have hk1 := (cell_of_heap (i := 1) (v := .int .i64 tx) hc rfl).1
 have hk2 := (cell_of_heap (i := 2) (v := .int .i64 att) hc rfl).1
 have hk3 := (cell_of_heap (i := 3) (v := .int .i64 stamp) hc rfl).1
 have hk4 := (cell_of_heap (i := 4) (v := .int .i64 op) hc rfl).1
 have hk5 := (cell_of_heap (i := 5) (v := .string key) hc rfl).1
 have hk6 := (cell_of_heap (i := 6) (v := .string value) hc rfl).1
 have hk7 := (cell_of_heap (i := 7) (v := .int .i64 mode) hc rfl).1
 have hk8 := (cell_of_heap (i := 8) (v := .bool yes) hc rfl).1
 clear hc
 have HCL := Lib.hid (HX2.out.call (q := (⟨q0, q1, q2, q3⟩ : Rp)) (S' := S') (fun D' hD' => HCT.out w2 D' hD'))
 clear HX2 HCT
 go_wp2_with fail
 refine HCL.out.mono ?_
 rintro e w4 ⟨rfl, hm⟩
 have HX4 := Lib.hid hm
 clear hm HCL
 obtain ⟨c0, c1, c2, c3, f0, f1, f2, f3⟩ := HX4.out.rat
 simp only [zeroR] at c0 c1 c2 c3
 have HEND := Lib.hid (HX4.out.fin (⟨q0, q1, q2, q3⟩ : Rp))
 clear HX4 hk0 hk1 hk2 hk3 hk4 hk5 hk6 hk7 hk8
 go_wp2_with fail
 obtain ⟨W5, hW5⟩ : ∃ W5, W5 = ((((w4.setCell ⟨w.heap.size + 1, 0, none⟩ (.int .i64 q0)).setCell ⟨w.heap.size + 1, 1, none⟩ (.int .i64 q1)).setCell ⟨w.heap.size + 1, 2, none⟩ (.string q2)).setCell ⟨w.heap.size + 1, 3, none⟩ (.bool q3)) := ⟨_, rfl⟩
 rw [← hW5]
 obtain ⟨⟨v0, v1, v2, v3, -, -, -, -⟩, hR⟩ := HEND.out W5 hW5
 simp only at v0 v1 v2 v3
 clear hW5
 refine bodyPost_ret (by simp [results, Tryz.results13, go_sem, v0, v1, v2, v3]; try rfl) rfl ?_
 exact hR
set_option maxRecDepth 100000 in
set_option maxHeartbeats 4000000 in
theorem sdo_late2 (g : Nat) (S : Sh) (c : Cm) (w : World) {D : List Nat} (h : ShA g S w D) (htx : i64 c.tx) (hkey : c.key.size ≤ maxLen) (hval : c.value.size ≤ maxLen) (K : List ByteArray) (n : Nat) (hS : SInv K n S) (hn : n ≤ 390) (hK : K.length ≤ 900) (hr : rightC c = true) (hk : c.kind = 2) (hl : ¬ lateM S c = 0) :
  Calls Tryz.prog 13 #[.pointer (some ⟨g, 0, none⟩), c.val] w (CmPost w D g ((codeR (lateM S c), S))) := by
 have HLT := Lib.hid fun (W : World) (D' : List Nat) (hD' : ShA g S W D') => late_any g S c W hD' htx
 have hne : (lateM S c != 0) = true := by simpa using hl
 generalize lateM S c = n9 at *
 clear hl hS hn hK
 have HX0 := Lib.hid (DM.begin h c)
 have HRT := Lib.hid fun W => cright_any c hkey hval W
 obtain ⟨k, tx, att, stamp, op, key, value, mode, yes⟩ := c
 simp only at hk
 subst hk
 try simp only at HX0
 try simp only at HRT
 try simp only at HLT
 rw [hr] at HRT
 clear hr h
 go_enter Tryz.func13, Tryz.ntmps13
 go_wp2_with fail
 obtain ⟨w1, hw1⟩ : ∃ w1, w1 = (w.alloc (.cells #[.int .i64 2, .int .i64 tx, .int .i64 att, .int .i64 stamp, .int .i64 op, .string key, .string value, .int .i64 mode, .bool yes] 28)).alloc (.cells #[.int .i64 0, .int .i64 0, .string ⟨#[]⟩, .bool false] 35) := ⟨_, rfl⟩
 have HX1 : Hid (DM w D w.heap.size (w.heap.size + 1) ⟨2, tx, att, stamp, op, key, value, mode, yes⟩ zeroR g S w1) := Lib.hid (by rw [hw1]; exact HX0.out)
 clear HX0
 rw [← hw1]
 clear hw1
 have hc := HX1.out.hc
 have hk0 := (cell_of_heap (i := 0) (v := .int .i64 2) hc rfl).1
 have hk1 := (cell_of_heap (i := 1) (v := .int .i64 tx) hc rfl).1
 have hk2 := (cell_of_heap (i := 2) (v := .int .i64 att) hc rfl).1
 have hk3 := (cell_of_heap (i := 3) (v := .int .i64 stamp) hc rfl).1
 have hk4 := (cell_of_heap (i := 4) (v := .int .i64 op) hc rfl).1
 have hk5 := (cell_of_heap (i := 5) (v := .string key) hc rfl).1
 have hk6 := (cell_of_heap (i := 6) (v := .string value) hc rfl).1
 have hk7 := (cell_of_heap (i := 7) (v := .int .i64 mode) hc rfl).1
 have hk8 := (cell_of_heap (i := 8) (v := .bool yes) hc rfl).1
 clear hc
 go_wp2_with fail
 refine (HRT.out w1).mono ?_
 rintro e w2 ⟨rfl, hb⟩
 have HX2 := Lib.hid (HX1.out.below hb)
 clear HX1 hb HRT hk0 hk1 hk2 hk3 hk4 hk5 hk6 hk7 hk8
 have hc := HX2.out.hc
 have hk0 := (cell_of_heap (i := 0) (v := .int .i64 2) hc rfl).1
 have hk1 := (cell_of_heap (i := 1) (v := .int .i64 tx) hc rfl).1
 have hk2 := (cell_of_heap (i := 2) (v := .int .i64 att) hc rfl).1
 have hk3 := (cell_of_heap (i := 3) (v := .int .i64 stamp) hc rfl).1
 have hk4 := (cell_of_heap (i := 4) (v := .int .i64 op) hc rfl).1
 have hk5 := (cell_of_heap (i := 5) (v := .string key) hc rfl).1
 have hk6 := (cell_of_heap (i := 6) (v := .string value) hc rfl).1
 have hk7 := (cell_of_heap (i := 7) (v := .int .i64 mode) hc rfl).1
 have hk8 := (cell_of_heap (i := 8) (v := .bool yes) hc rfl).1
 clear hc
 obtain ⟨D', hD'⟩ := HX2.out.shard
 have HL2 := Lib.hid (HLT.out w2 D' hD')
 clear hD' HLT
 go_wp2_with fail
 refine HL2.out.mono ?_
 rintro e w3 ⟨rfl, hb3⟩
 have HX3 := Lib.hid (HX2.out.below hb3)
 clear HL2 HX2 hb3 hk0 hk1 hk2 hk3 hk4 hk5 hk6 hk7 hk8
 obtain ⟨c0, c1, c2, c3, f0, f1, f2, f3⟩ := HX3.out.rat
 simp only [zeroR] at c0 c1 c2 c3
 have HEND := Lib.hid (HX3.out.fin (codeR n9))
 simp only [codeR] at HEND
 clear HX3
 go_wp2_with fail
 obtain ⟨W5, hW5⟩ : ∃ W5, W5 = ((((w3.setCell ⟨w.heap.size + 1, 0, none⟩ (.int .i64 n9)).setCell ⟨w.heap.size + 1, 1, none⟩ (.int .i64 0)).setCell ⟨w.heap.size + 1, 2, none⟩ (.string ⟨#[]⟩)).setCell ⟨w.heap.size + 1, 3, none⟩ (.bool false)) := ⟨_, rfl⟩
 rw [← hW5]
 obtain ⟨⟨v0, v1, v2, v3, -, -, -, -⟩, hR⟩ := HEND.out W5 hW5
 simp only at v0 v1 v2 v3
 clear hW5
 refine bodyPost_ret (by simp [results, Tryz.results13, go_sem, v0, v1, v2, v3]; try rfl) rfl ?_
 exact hR
set_option maxRecDepth 100000 in
set_option maxHeartbeats 4000000 in
theorem sdo_late3 (g : Nat) (S : Sh) (c : Cm) (w : World) {D : List Nat} (h : ShA g S w D) (htx : i64 c.tx) (hkey : c.key.size ≤ maxLen) (hval : c.value.size ≤ maxLen) (K : List ByteArray) (n : Nat) (hS : SInv K n S) (hn : n ≤ 390) (hK : K.length ≤ 900) (hr : rightC c = true) (hk : c.kind = 3) (hl : ¬ lateM S c = 0) :
  Calls Tryz.prog 13 #[.pointer (some ⟨g, 0, none⟩), c.val] w (CmPost w D g ((codeR (lateM S c), S))) := by
 have HLT := Lib.hid fun (W : World) (D' : List Nat) (hD' : ShA g S W D') => late_any g S c W hD' htx
 have hne : (lateM S c != 0) = true := by simpa using hl
 generalize lateM S c = n9 at *
 clear hl hS hn hK
 have HX0 := Lib.hid (DM.begin h c)
 have HRT := Lib.hid fun W => cright_any c hkey hval W
 obtain ⟨k, tx, att, stamp, op, key, value, mode, yes⟩ := c
 simp only at hk
 subst hk
 try simp only at HX0
 try simp only at HRT
 try simp only at HLT
 rw [hr] at HRT
 clear hr h
 go_enter Tryz.func13, Tryz.ntmps13
 go_wp2_with fail
 obtain ⟨w1, hw1⟩ : ∃ w1, w1 = (w.alloc (.cells #[.int .i64 3, .int .i64 tx, .int .i64 att, .int .i64 stamp, .int .i64 op, .string key, .string value, .int .i64 mode, .bool yes] 28)).alloc (.cells #[.int .i64 0, .int .i64 0, .string ⟨#[]⟩, .bool false] 35) := ⟨_, rfl⟩
 have HX1 : Hid (DM w D w.heap.size (w.heap.size + 1) ⟨3, tx, att, stamp, op, key, value, mode, yes⟩ zeroR g S w1) := Lib.hid (by rw [hw1]; exact HX0.out)
 clear HX0
 rw [← hw1]
 clear hw1
 have hc := HX1.out.hc
 have hk0 := (cell_of_heap (i := 0) (v := .int .i64 3) hc rfl).1
 have hk1 := (cell_of_heap (i := 1) (v := .int .i64 tx) hc rfl).1
 have hk2 := (cell_of_heap (i := 2) (v := .int .i64 att) hc rfl).1
 have hk3 := (cell_of_heap (i := 3) (v := .int .i64 stamp) hc rfl).1
 have hk4 := (cell_of_heap (i := 4) (v := .int .i64 op) hc rfl).1
 have hk5 := (cell_of_heap (i := 5) (v := .string key) hc rfl).1
 have hk6 := (cell_of_heap (i := 6) (v := .string value) hc rfl).1
 have hk7 := (cell_of_heap (i := 7) (v := .int .i64 mode) hc rfl).1
 have hk8 := (cell_of_heap (i := 8) (v := .bool yes) hc rfl).1
 clear hc
 go_wp2_with fail
 refine (HRT.out w1).mono ?_
 rintro e w2 ⟨rfl, hb⟩
 have HX2 := Lib.hid (HX1.out.below hb)
 clear HX1 hb HRT hk0 hk1 hk2 hk3 hk4 hk5 hk6 hk7 hk8
 have hc := HX2.out.hc
 have hk0 := (cell_of_heap (i := 0) (v := .int .i64 3) hc rfl).1
 have hk1 := (cell_of_heap (i := 1) (v := .int .i64 tx) hc rfl).1
 have hk2 := (cell_of_heap (i := 2) (v := .int .i64 att) hc rfl).1
 have hk3 := (cell_of_heap (i := 3) (v := .int .i64 stamp) hc rfl).1
 have hk4 := (cell_of_heap (i := 4) (v := .int .i64 op) hc rfl).1
 have hk5 := (cell_of_heap (i := 5) (v := .string key) hc rfl).1
 have hk6 := (cell_of_heap (i := 6) (v := .string value) hc rfl).1
 have hk7 := (cell_of_heap (i := 7) (v := .int .i64 mode) hc rfl).1
 have hk8 := (cell_of_heap (i := 8) (v := .bool yes) hc rfl).1
 clear hc
 obtain ⟨D', hD'⟩ := HX2.out.shard
 have HL2 := Lib.hid (HLT.out w2 D' hD')
 clear hD' HLT
 go_wp2_with fail
 refine HL2.out.mono ?_
 rintro e w3 ⟨rfl, hb3⟩
 have HX3 := Lib.hid (HX2.out.below hb3)
 clear HL2 HX2 hb3 hk0 hk1 hk2 hk3 hk4 hk5 hk6 hk7 hk8
 obtain ⟨c0, c1, c2, c3, f0, f1, f2, f3⟩ := HX3.out.rat
 simp only [zeroR] at c0 c1 c2 c3
 have HEND := Lib.hid (HX3.out.fin (codeR n9))
 simp only [codeR] at HEND
 clear HX3
 go_wp2_with fail
 obtain ⟨W5, hW5⟩ : ∃ W5, W5 = ((((w3.setCell ⟨w.heap.size + 1, 0, none⟩ (.int .i64 n9)).setCell ⟨w.heap.size + 1, 1, none⟩ (.int .i64 0)).setCell ⟨w.heap.size + 1, 2, none⟩ (.string ⟨#[]⟩)).setCell ⟨w.heap.size + 1, 3, none⟩ (.bool false)) := ⟨_, rfl⟩
 rw [← hW5]
 obtain ⟨⟨v0, v1, v2, v3, -, -, -, -⟩, hR⟩ := HEND.out W5 hW5
 simp only at v0 v1 v2 v3
 clear hW5
 refine bodyPost_ret (by simp [results, Tryz.results13, go_sem, v0, v1, v2, v3]; try rfl) rfl ?_
 exact hR
set_option maxRecDepth 100000 in
set_option maxHeartbeats 4000000 in
theorem sdo_late4 (g : Nat) (S : Sh) (c : Cm) (w : World) {D : List Nat} (h : ShA g S w D) (htx : i64 c.tx) (hkey : c.key.size ≤ maxLen) (hval : c.value.size ≤ maxLen) (K : List ByteArray) (n : Nat) (hS : SInv K n S) (hn : n ≤ 390) (hK : K.length ≤ 900) (hr : rightC c = true) (hk : c.kind = 4) (hl : ¬ lateM S c = 0) :
  Calls Tryz.prog 13 #[.pointer (some ⟨g, 0, none⟩), c.val] w (CmPost w D g ((codeR (lateM S c), S))) := by
 have HLT := Lib.hid fun (W : World) (D' : List Nat) (hD' : ShA g S W D') => late_any g S c W hD' htx
 have hne : (lateM S c != 0) = true := by simpa using hl
 generalize lateM S c = n9 at *
 clear hl hS hn hK
 have HX0 := Lib.hid (DM.begin h c)
 have HRT := Lib.hid fun W => cright_any c hkey hval W
 obtain ⟨k, tx, att, stamp, op, key, value, mode, yes⟩ := c
 simp only at hk
 subst hk
 try simp only at HX0
 try simp only at HRT
 try simp only at HLT
 rw [hr] at HRT
 clear hr h
 go_enter Tryz.func13, Tryz.ntmps13
 go_wp2_with fail
 obtain ⟨w1, hw1⟩ : ∃ w1, w1 = (w.alloc (.cells #[.int .i64 4, .int .i64 tx, .int .i64 att, .int .i64 stamp, .int .i64 op, .string key, .string value, .int .i64 mode, .bool yes] 28)).alloc (.cells #[.int .i64 0, .int .i64 0, .string ⟨#[]⟩, .bool false] 35) := ⟨_, rfl⟩
 have HX1 : Hid (DM w D w.heap.size (w.heap.size + 1) ⟨4, tx, att, stamp, op, key, value, mode, yes⟩ zeroR g S w1) := Lib.hid (by rw [hw1]; exact HX0.out)
 clear HX0
 rw [← hw1]
 clear hw1
 have hc := HX1.out.hc
 have hk0 := (cell_of_heap (i := 0) (v := .int .i64 4) hc rfl).1
 have hk1 := (cell_of_heap (i := 1) (v := .int .i64 tx) hc rfl).1
 have hk2 := (cell_of_heap (i := 2) (v := .int .i64 att) hc rfl).1
 have hk3 := (cell_of_heap (i := 3) (v := .int .i64 stamp) hc rfl).1
 have hk4 := (cell_of_heap (i := 4) (v := .int .i64 op) hc rfl).1
 have hk5 := (cell_of_heap (i := 5) (v := .string key) hc rfl).1
 have hk6 := (cell_of_heap (i := 6) (v := .string value) hc rfl).1
 have hk7 := (cell_of_heap (i := 7) (v := .int .i64 mode) hc rfl).1
 have hk8 := (cell_of_heap (i := 8) (v := .bool yes) hc rfl).1
 clear hc
 go_wp2_with fail
 refine (HRT.out w1).mono ?_
 rintro e w2 ⟨rfl, hb⟩
 have HX2 := Lib.hid (HX1.out.below hb)
 clear HX1 hb HRT hk0 hk1 hk2 hk3 hk4 hk5 hk6 hk7 hk8
 have hc := HX2.out.hc
 have hk0 := (cell_of_heap (i := 0) (v := .int .i64 4) hc rfl).1
 have hk1 := (cell_of_heap (i := 1) (v := .int .i64 tx) hc rfl).1
 have hk2 := (cell_of_heap (i := 2) (v := .int .i64 att) hc rfl).1
 have hk3 := (cell_of_heap (i := 3) (v := .int .i64 stamp) hc rfl).1
 have hk4 := (cell_of_heap (i := 4) (v := .int .i64 op) hc rfl).1
 have hk5 := (cell_of_heap (i := 5) (v := .string key) hc rfl).1
 have hk6 := (cell_of_heap (i := 6) (v := .string value) hc rfl).1
 have hk7 := (cell_of_heap (i := 7) (v := .int .i64 mode) hc rfl).1
 have hk8 := (cell_of_heap (i := 8) (v := .bool yes) hc rfl).1
 clear hc
 obtain ⟨D', hD'⟩ := HX2.out.shard
 have HL2 := Lib.hid (HLT.out w2 D' hD')
 clear hD' HLT
 go_wp2_with fail
 refine HL2.out.mono ?_
 rintro e w3 ⟨rfl, hb3⟩
 have HX3 := Lib.hid (HX2.out.below hb3)
 clear HL2 HX2 hb3 hk0 hk1 hk2 hk3 hk4 hk5 hk6 hk7 hk8
 obtain ⟨c0, c1, c2, c3, f0, f1, f2, f3⟩ := HX3.out.rat
 simp only [zeroR] at c0 c1 c2 c3
 have HEND := Lib.hid (HX3.out.fin (codeR n9))
 simp only [codeR] at HEND
 clear HX3
 go_wp2_with fail
 obtain ⟨W5, hW5⟩ : ∃ W5, W5 = ((((w3.setCell ⟨w.heap.size + 1, 0, none⟩ (.int .i64 n9)).setCell ⟨w.heap.size + 1, 1, none⟩ (.int .i64 0)).setCell ⟨w.heap.size + 1, 2, none⟩ (.string ⟨#[]⟩)).setCell ⟨w.heap.size + 1, 3, none⟩ (.bool false)) := ⟨_, rfl⟩
 rw [← hW5]
 obtain ⟨⟨v0, v1, v2, v3, -, -, -, -⟩, hR⟩ := HEND.out W5 hW5
 simp only at v0 v1 v2 v3
 clear hW5
 refine bodyPost_ret (by simp [results, Tryz.results13, go_sem, v0, v1, v2, v3]; try rfl) rfl ?_
 exact hR
set_option maxRecDepth 100000 in
set_option maxHeartbeats 4000000 in
theorem sdo_lock (g : Nat) (S : Sh) (c : Cm) (w : World) {D : List Nat} (h : ShA g S w D) (htx : i64 c.tx) (hkey : c.key.size ≤ maxLen) (hval : c.value.size ≤ maxLen) (K : List ByteArray) (n : Nat) (hS : SInv K n S) (hn : n ≤ 390) (hK : K.length ≤ 900) (hr : rightC c = true) (hk : c.kind = 2) (hl : lateM S c = 0) :
  Calls Tryz.prog 13 #[.pointer (some ⟨g, 0, none⟩), c.val] w (CmPost w D g (lockM S c)) := by
 have HCT := Lib.hid fun (W : World) (D' : List Nat) (hD' : ShA g S W D') => lock_any g S c W hD' htx (by have := hS.llen; omega) hS.locks (hS.lsm.mono (by omega))
 have HLT := Lib.hid fun (W : World) (D' : List Nat) (hD' : ShA g S W D') => late_any g S c W hD' htx
 rw [hl] at HLT
 clear hl
 generalize lockM S c = pp at HCT ⊢
 obtain ⟨⟨q0, q1, q2, q3⟩, S'⟩ := pp
 clear hS hn hK
 have HX0 := Lib.hid (DM.begin h c)
 have HRT := Lib.hid fun W => cright_any c hkey hval W
 obtain ⟨k, tx, att, stamp, op, key, value, mode, yes⟩ := c
 simp only at hk
 subst hk
 try simp only at HX0
 try simp only at HRT
 try simp only at HCT
 try simp only at HLT
 rw [hr] at HRT
 clear hr h
 go_enter Tryz.func13, Tryz.ntmps13
 go_wp2_with fail
 obtain ⟨w1, hw1⟩ : ∃ w1, w1 = (w.alloc (.cells #[.int .i64 2, .int .i64 tx, .int .i64 att, .int .i64 stamp, .int .i64 op, .string key, .string value, .int .i64 mode, .bool yes] 28)).alloc (.cells #[.int .i64 0, .int .i64 0, .string ⟨#[]⟩, .bool false] 35) := ⟨_, rfl⟩
 have HX1 : Hid (DM w D w.heap.size (w.heap.size + 1) ⟨2, tx, att, stamp, op, key, value, mode, yes⟩ zeroR g S w1) := Lib.hid (by rw [hw1]; exact HX0.out)
 clear HX0
 rw [← hw1]
 clear hw1
 have hc := HX1.out.hc
 have hk0 := (cell_of_heap (i := 0) (v := .int .i64 2) hc rfl).1
 have hk1 := (cell_of_heap (i := 1) (v := .int .i64 tx) hc rfl).1
 have hk2 := (cell_of_heap (i := 2) (v := .int .i64 att) hc rfl).1
 have hk3 := (cell_of_heap (i := 3) (v := .int .i64 stamp) hc rfl).1
 have hk4 := (cell_of_heap (i := 4) (v := .int .i64 op) hc rfl).1
 have hk5 := (cell_of_heap (i := 5) (v := .string key) hc rfl).1
 have hk6 := (cell_of_heap (i := 6) (v := .string value) hc rfl).1
 have hk7 := (cell_of_heap (i := 7) (v := .int .i64 mode) hc rfl).1
 have hk8 := (cell_of_heap (i := 8) (v := .bool yes) hc rfl).1
 clear hc
 go_wp2_with fail
 refine (HRT.out w1).mono ?_
 rintro e w2 ⟨rfl, hb⟩
 have HX2 := Lib.hid (HX1.out.below hb)
 clear HX1 hb HRT hk0 hk1 hk2 hk3 hk4 hk5 hk6 hk7 hk8
 have hc := HX2.out.hc
 have hk0 := (cell_of_heap (i := 0) (v := .int .i64 2) hc rfl).1
 have hk1 := (cell_of_heap (i := 1) (v := .int .i64 tx) hc rfl).1
 have hk2 := (cell_of_heap (i := 2) (v := .int .i64 att) hc rfl).1
 have hk3 := (cell_of_heap (i := 3) (v := .int .i64 stamp) hc rfl).1
 have hk4 := (cell_of_heap (i := 4) (v := .int .i64 op) hc rfl).1
 have hk5 := (cell_of_heap (i := 5) (v := .string key) hc rfl).1
 have hk6 := (cell_of_heap (i := 6) (v := .string value) hc rfl).1
 have hk7 := (cell_of_heap (i := 7) (v := .int .i64 mode) hc rfl).1
 have hk8 := (cell_of_heap (i := 8) (v := .bool yes) hc rfl).1
 clear hc
 obtain ⟨D', hD'⟩ := HX2.out.shard
 have HL2 := Lib.hid (HLT.out w2 D' hD')
 clear hD' HLT
 go_wp2_with fail
 refine HL2.out.mono ?_
 rintro e w3 ⟨rfl, hb3⟩
 have HX3 := Lib.hid (HX2.out.below hb3)
 clear HL2 HX2 hb3 hk0 hk1 hk2 hk3 hk4 hk5 hk6 hk7 hk8
 have hc := HX3.out.hc
 have hk0 := (cell_of_heap (i := 0) (v := .int .i64 2) hc rfl).1
 have hk1 := (cell_of_heap (i := 1) (v := .int .i64 tx) hc rfl).1
 have hk2 := (cell_of_heap (i := 2) (v := .int .i64 att) hc rfl).1
 have hk3 := (cell_of_heap (i := 3) (v := .int .i64 stamp) hc rfl).1
 have hk4 := (cell_of_heap (i := 4) (v := .int .i64 op) hc rfl).1
 have hk5 := (cell_of_heap (i := 5) (v := .string key) hc rfl).1
 have hk6 := (cell_of_heap (i := 6) (v := .string value) hc rfl).1
 have hk7 := (cell_of_heap (i := 7) (v := .int .i64 mode) hc rfl).1
 have hk8 := (cell_of_heap (i := 8) (v := .bool yes) hc rfl).1
 clear hc
 have HCL := Lib.hid (HX3.out.call (q := (⟨q0, q1, q2, q3⟩ : Rp)) (S' := S') (fun D' hD' => HCT.out w3 D' hD'))
 clear HX3 HCT
 go_wp2_with fail
 refine HCL.out.mono ?_
 rintro e w4 ⟨rfl, hm⟩
 have HX4 := Lib.hid hm
 clear hm HCL
 obtain ⟨c0, c1, c2, c3, f0, f1, f2, f3⟩ := HX4.out.rat
 simp only [zeroR] at c0 c1 c2 c3
 have HEND := Lib.hid (HX4.out.fin (⟨q0, q1, q2, q3⟩ : Rp))
 clear HX4 hk0 hk1 hk2 hk3 hk4 hk5 hk6 hk7 hk8
 go_wp2_with fail
 obtain ⟨W5, hW5⟩ : ∃ W5, W5 = ((((w4.setCell ⟨w.heap.size + 1, 0, none⟩ (.int .i64 q0)).setCell ⟨w.heap.size + 1, 1, none⟩ (.int .i64 q1)).setCell ⟨w.heap.size + 1, 2, none⟩ (.string q2)).setCell ⟨w.heap.size + 1, 3, none⟩ (.bool q3)) := ⟨_, rfl⟩
 rw [← hW5]
 obtain ⟨⟨v0, v1, v2, v3, -, -, -, -⟩, hR⟩ := HEND.out W5 hW5
 simp only at v0 v1 v2 v3
 clear hW5
 refine bodyPost_ret (by simp [results, Tryz.results13, go_sem, v0, v1, v2, v3]; try rfl) rfl ?_
 exact hR
set_option maxRecDepth 100000 in
set_option maxHeartbeats 4000000 in
theorem sdo_get (g : Nat) (S : Sh) (c : Cm) (w : World) {D : List Nat} (h : ShA g S w D) (htx : i64 c.tx) (hkey : c.key.size ≤ maxLen) (hval : c.value.size ≤ maxLen) (K : List ByteArray) (n : Nat) (hS : SInv K n S) (hn : n ≤ 390) (hK : K.length ≤ 900) (hr : rightC c = true) (hk : c.kind = 3) (hl : lateM S c = 0) :
  Calls Tryz.prog 13 #[.pointer (some ⟨g, 0, none⟩), c.val] w (CmPost w D g (getM S c)) := by
 have HCT := Lib.hid fun (W : World) (D' : List Nat) (hD' : ShA g S W D') => get_any g S c W hD' htx hkey (by have := hS.llen; omega) hS.locks (hS.lsm.mono (by omega)) (hS.cells.ok (by omega) (by omega)) (hS.lives hK c.tx)
 have HLT := Lib.hid fun (W : World) (D' : List Nat) (hD' : ShA g S W D') => late_any g S c W hD' htx
 rw [hl] at HLT
 clear hl
 generalize getM S c = pp at HCT ⊢
 obtain ⟨⟨q0, q1, q2, q3⟩, S'⟩ := pp
 clear hS hn hK
 have HX0 := Lib.hid (DM.begin h c)
 have HRT := Lib.hid fun W => cright_any c hkey hval W
 obtain ⟨k, tx, att, stamp, op, key, value, mode, yes⟩ := c
 simp only at hk
 subst hk
 try simp only at HX0
 try simp only at HRT
 try simp only at HCT
 try simp only at HLT
 rw [hr] at HRT
 clear hr h
 go_enter Tryz.func13, Tryz.ntmps13
 go_wp2_with fail
 obtain ⟨w1, hw1⟩ : ∃ w1, w1 = (w.alloc (.cells #[.int .i64 3, .int .i64 tx, .int .i64 att, .int .i64 stamp, .int .i64 op, .string key, .string value, .int .i64 mode, .bool yes] 28)).alloc (.cells #[.int .i64 0, .int .i64 0, .string ⟨#[]⟩, .bool false] 35) := ⟨_, rfl⟩
 have HX1 : Hid (DM w D w.heap.size (w.heap.size + 1) ⟨3, tx, att, stamp, op, key, value, mode, yes⟩ zeroR g S w1) := Lib.hid (by rw [hw1]; exact HX0.out)
 clear HX0
 rw [← hw1]
 clear hw1
 have hc := HX1.out.hc
 have hk0 := (cell_of_heap (i := 0) (v := .int .i64 3) hc rfl).1
 have hk1 := (cell_of_heap (i := 1) (v := .int .i64 tx) hc rfl).1
 have hk2 := (cell_of_heap (i := 2) (v := .int .i64 att) hc rfl).1
 have hk3 := (cell_of_heap (i := 3) (v := .int .i64 stamp) hc rfl).1
 have hk4 := (cell_of_heap (i := 4) (v := .int .i64 op) hc rfl).1
 have hk5 := (cell_of_heap (i := 5) (v := .string key) hc rfl).1
 have hk6 := (cell_of_heap (i := 6) (v := .string value) hc rfl).1
 have hk7 := (cell_of_heap (i := 7) (v := .int .i64 mode) hc rfl).1
 have hk8 := (cell_of_heap (i := 8) (v := .bool yes) hc rfl).1
 clear hc
 go_wp2_with fail
 refine (HRT.out w1).mono ?_
 rintro e w2 ⟨rfl, hb⟩
 have HX2 := Lib.hid (HX1.out.below hb)
 clear HX1 hb HRT hk0 hk1 hk2 hk3 hk4 hk5 hk6 hk7 hk8
 have hc := HX2.out.hc
 have hk0 := (cell_of_heap (i := 0) (v := .int .i64 3) hc rfl).1
 have hk1 := (cell_of_heap (i := 1) (v := .int .i64 tx) hc rfl).1
 have hk2 := (cell_of_heap (i := 2) (v := .int .i64 att) hc rfl).1
 have hk3 := (cell_of_heap (i := 3) (v := .int .i64 stamp) hc rfl).1
 have hk4 := (cell_of_heap (i := 4) (v := .int .i64 op) hc rfl).1
 have hk5 := (cell_of_heap (i := 5) (v := .string key) hc rfl).1
 have hk6 := (cell_of_heap (i := 6) (v := .string value) hc rfl).1
 have hk7 := (cell_of_heap (i := 7) (v := .int .i64 mode) hc rfl).1
 have hk8 := (cell_of_heap (i := 8) (v := .bool yes) hc rfl).1
 clear hc
 obtain ⟨D', hD'⟩ := HX2.out.shard
 have HL2 := Lib.hid (HLT.out w2 D' hD')
 clear hD' HLT
 go_wp2_with fail
 refine HL2.out.mono ?_
 rintro e w3 ⟨rfl, hb3⟩
 have HX3 := Lib.hid (HX2.out.below hb3)
 clear HL2 HX2 hb3 hk0 hk1 hk2 hk3 hk4 hk5 hk6 hk7 hk8
 have hc := HX3.out.hc
 have hk0 := (cell_of_heap (i := 0) (v := .int .i64 3) hc rfl).1
 have hk1 := (cell_of_heap (i := 1) (v := .int .i64 tx) hc rfl).1
 have hk2 := (cell_of_heap (i := 2) (v := .int .i64 att) hc rfl).1
 have hk3 := (cell_of_heap (i := 3) (v := .int .i64 stamp) hc rfl).1
 have hk4 := (cell_of_heap (i := 4) (v := .int .i64 op) hc rfl).1
 have hk5 := (cell_of_heap (i := 5) (v := .string key) hc rfl).1
 have hk6 := (cell_of_heap (i := 6) (v := .string value) hc rfl).1
 have hk7 := (cell_of_heap (i := 7) (v := .int .i64 mode) hc rfl).1
 have hk8 := (cell_of_heap (i := 8) (v := .bool yes) hc rfl).1
 clear hc
 have HCL := Lib.hid (HX3.out.call (q := (⟨q0, q1, q2, q3⟩ : Rp)) (S' := S') (fun D' hD' => HCT.out w3 D' hD'))
 clear HX3 HCT
 go_wp2_with fail
 refine HCL.out.mono ?_
 rintro e w4 ⟨rfl, hm⟩
 have HX4 := Lib.hid hm
 clear hm HCL
 obtain ⟨c0, c1, c2, c3, f0, f1, f2, f3⟩ := HX4.out.rat
 simp only [zeroR] at c0 c1 c2 c3
 have HEND := Lib.hid (HX4.out.fin (⟨q0, q1, q2, q3⟩ : Rp))
 clear HX4 hk0 hk1 hk2 hk3 hk4 hk5 hk6 hk7 hk8
 go_wp2_with fail
 obtain ⟨W5, hW5⟩ : ∃ W5, W5 = ((((w4.setCell ⟨w.heap.size + 1, 0, none⟩ (.int .i64 q0)).setCell ⟨w.heap.size + 1, 1, none⟩ (.int .i64 q1)).setCell ⟨w.heap.size + 1, 2, none⟩ (.string q2)).setCell ⟨w.heap.size + 1, 3, none⟩ (.bool q3)) := ⟨_, rfl⟩
 rw [← hW5]
 obtain ⟨⟨v0, v1, v2, v3, -, -, -, -⟩, hR⟩ := HEND.out W5 hW5
 simp only at v0 v1 v2 v3
 clear hW5
 refine bodyPost_ret (by simp [results, Tryz.results13, go_sem, v0, v1, v2, v3]; try rfl) rfl ?_
 exact hR
set_option maxRecDepth 100000 in
set_option maxHeartbeats 4000000 in
theorem sdo_put (g : Nat) (S : Sh) (c : Cm) (w : World) {D : List Nat} (h : ShA g S w D) (htx : i64 c.tx) (hkey : c.key.size ≤ maxLen) (hval : c.value.size ≤ maxLen) (K : List ByteArray) (n : Nat) (hS : SInv K n S) (hn : n ≤ 390) (hK : K.length ≤ 900) (hr : rightC c = true) (hk : c.kind = 4) (hl : lateM S c = 0) :
  Calls Tryz.prog 13 #[.pointer (some ⟨g, 0, none⟩), c.val] w (CmPost w D g (putM S c)) := by
 have HCT := Lib.hid fun (W : World) (D' : List Nat) (hD' : ShA g S W D') => shput_any g S c W hD' htx (by have := hS.llen; omega) hS.locks (hS.lsm.mono (by omega)) (hS.lives hK c.tx)
 have HLT := Lib.hid fun (W : World) (D' : List Nat) (hD' : ShA g S W D') => late_any g S c W hD' htx
 rw [hl] at HLT
 clear hl
 generalize putM S c = pp at HCT ⊢
 obtain ⟨⟨q0, q1, q2, q3⟩, S'⟩ := pp
 clear hS hn hK
 have HX0 := Lib.hid (DM.begin h c)
 have HRT := Lib.hid fun W => cright_any c hkey hval W
 obtain ⟨k, tx, att, stamp, op, key, value, mode, yes⟩ := c
 simp only at hk
 subst hk
 try simp only at HX0
 try simp only at HRT
 try simp only at HCT
 try simp only at HLT
 rw [hr] at HRT
 clear hr h
 go_enter Tryz.func13, Tryz.ntmps13
 go_wp2_with fail
 obtain ⟨w1, hw1⟩ : ∃ w1, w1 = (w.alloc (.cells #[.int .i64 4, .int .i64 tx, .int .i64 att, .int .i64 stamp, .int .i64 op, .string key, .string value, .int .i64 mode, .bool yes] 28)).alloc (.cells #[.int .i64 0, .int .i64 0, .string ⟨#[]⟩, .bool false] 35) := ⟨_, rfl⟩
 have HX1 : Hid (DM w D w.heap.size (w.heap.size + 1) ⟨4, tx, att, stamp, op, key, value, mode, yes⟩ zeroR g S w1) := Lib.hid (by rw [hw1]; exact HX0.out)
 clear HX0
 rw [← hw1]
 clear hw1
 have hc := HX1.out.hc
 have hk0 := (cell_of_heap (i := 0) (v := .int .i64 4) hc rfl).1
 have hk1 := (cell_of_heap (i := 1) (v := .int .i64 tx) hc rfl).1
 have hk2 := (cell_of_heap (i := 2) (v := .int .i64 att) hc rfl).1
 have hk3 := (cell_of_heap (i := 3) (v := .int .i64 stamp) hc rfl).1
 have hk4 := (cell_of_heap (i := 4) (v := .int .i64 op) hc rfl).1
 have hk5 := (cell_of_heap (i := 5) (v := .string key) hc rfl).1
 have hk6 := (cell_of_heap (i := 6) (v := .string value) hc rfl).1
 have hk7 := (cell_of_heap (i := 7) (v := .int .i64 mode) hc rfl).1
 have hk8 := (cell_of_heap (i := 8) (v := .bool yes) hc rfl).1
 clear hc
 go_wp2_with fail
 refine (HRT.out w1).mono ?_
 rintro e w2 ⟨rfl, hb⟩
 have HX2 := Lib.hid (HX1.out.below hb)
 clear HX1 hb HRT hk0 hk1 hk2 hk3 hk4 hk5 hk6 hk7 hk8
 have hc := HX2.out.hc
 have hk0 := (cell_of_heap (i := 0) (v := .int .i64 4) hc rfl).1
 have hk1 := (cell_of_heap (i := 1) (v := .int .i64 tx) hc rfl).1
 have hk2 := (cell_of_heap (i := 2) (v := .int .i64 att) hc rfl).1
 have hk3 := (cell_of_heap (i := 3) (v := .int .i64 stamp) hc rfl).1
 have hk4 := (cell_of_heap (i := 4) (v := .int .i64 op) hc rfl).1
 have hk5 := (cell_of_heap (i := 5) (v := .string key) hc rfl).1
 have hk6 := (cell_of_heap (i := 6) (v := .string value) hc rfl).1
 have hk7 := (cell_of_heap (i := 7) (v := .int .i64 mode) hc rfl).1
 have hk8 := (cell_of_heap (i := 8) (v := .bool yes) hc rfl).1
 clear hc
 obtain ⟨D', hD'⟩ := HX2.out.shard
 have HL2 := Lib.hid (HLT.out w2 D' hD')
 clear hD' HLT
 go_wp2_with fail
 refine HL2.out.mono ?_
 rintro e w3 ⟨rfl, hb3⟩
 have HX3 := Lib.hid (HX2.out.below hb3)
 clear HL2 HX2 hb3 hk0 hk1 hk2 hk3 hk4 hk5 hk6 hk7 hk8
 have hc := HX3.out.hc
 have hk0 := (cell_of_heap (i := 0) (v := .int .i64 4) hc rfl).1
 have hk1 := (cell_of_heap (i := 1) (v := .int .i64 tx) hc rfl).1
 have hk2 := (cell_of_heap (i := 2) (v := .int .i64 att) hc rfl).1
 have hk3 := (cell_of_heap (i := 3) (v := .int .i64 stamp) hc rfl).1
 have hk4 := (cell_of_heap (i := 4) (v := .int .i64 op) hc rfl).1
 have hk5 := (cell_of_heap (i := 5) (v := .string key) hc rfl).1
 have hk6 := (cell_of_heap (i := 6) (v := .string value) hc rfl).1
 have hk7 := (cell_of_heap (i := 7) (v := .int .i64 mode) hc rfl).1
 have hk8 := (cell_of_heap (i := 8) (v := .bool yes) hc rfl).1
 clear hc
 have HCL := Lib.hid (HX3.out.call (q := (⟨q0, q1, q2, q3⟩ : Rp)) (S' := S') (fun D' hD' => HCT.out w3 D' hD'))
 clear HX3 HCT
 go_wp2_with fail
 refine HCL.out.mono ?_
 rintro e w4 ⟨rfl, hm⟩
 have HX4 := Lib.hid hm
 clear hm HCL
 obtain ⟨c0, c1, c2, c3, f0, f1, f2, f3⟩ := HX4.out.rat
 simp only [zeroR] at c0 c1 c2 c3
 have HEND := Lib.hid (HX4.out.fin (⟨q0, q1, q2, q3⟩ : Rp))
 clear HX4 hk0 hk1 hk2 hk3 hk4 hk5 hk6 hk7 hk8
 go_wp2_with fail
 obtain ⟨W5, hW5⟩ : ∃ W5, W5 = ((((w4.setCell ⟨w.heap.size + 1, 0, none⟩ (.int .i64 q0)).setCell ⟨w.heap.size + 1, 1, none⟩ (.int .i64 q1)).setCell ⟨w.heap.size + 1, 2, none⟩ (.string q2)).setCell ⟨w.heap.size + 1, 3, none⟩ (.bool q3)) := ⟨_, rfl⟩
 rw [← hW5]
 obtain ⟨⟨v0, v1, v2, v3, -, -, -, -⟩, hR⟩ := HEND.out W5 hW5
 simp only at v0 v1 v2 v3
 clear hW5
 refine bodyPost_ret (by simp [results, Tryz.results13, go_sem, v0, v1, v2, v3]; try rfl) rfl ?_
 exact hR
/-- Do does what doM tells. -/
theorem sdo_any (g : Nat) (S : Sh) (c : Cm) (w : World) {D : List Nat} (h : ShA g S w D) (htx : i64 c.tx) (hkey : c.key.size ≤ maxLen) (hval : c.value.size ≤ maxLen) (K : List ByteArray) (n : Nat) (hS : SInv K n S) (hn : n ≤ 390) (hK : K.length ≤ 900) :
  Calls Tryz.prog 13 #[.pointer (some ⟨g, 0, none⟩), c.val] w (CmPost w D g (doM S c)) := by
 unfold doM
 split
 ·rename_i hr
  exact sdo_not g S c w h htx hkey hval K n hS hn hK hr
 ·rename_i hr
  have hr' : rightC c = true := by simpa using hr
  split
  ·rename_i hk
   exact sdo_tick g S c w h htx hkey hval K n hS hn hK hr' hk
  ·split
   ·rename_i hk
    exact sdo_fin g S c w h htx hkey hval K n hS hn hK hr' hk
   ·split
    ·rename_i hk
     rcases hk with hk | hk | hk | hk
     ·exact sdo_open g S c w h htx hkey hval K n hS hn hK hr' hk
     ·exact sdo_decide g S c w h htx hkey hval K n hS hn hK hr' hk
     ·exact sdo_kill g S c w h htx hkey hval K n hS hn hK hr' hk
     ·exact sdo_beat g S c w h htx hkey hval K n hS hn hK hr' hk
    ·rename_i h9 h7 ht
     have hkk : ¬ c.kind = 2 → ¬ c.kind = 3 → c.kind = 4 := fun h2 h3 => right_kind hr' h9 h7 ht h2 h3
     split
     ·rename_i hl
      by_cases h2 : c.kind = 2
      ·exact sdo_late2 g S c w h htx hkey hval K n hS hn hK hr' h2 hl
      ·by_cases h3 : c.kind = 3
       ·exact sdo_late3 g S c w h htx hkey hval K n hS hn hK hr' h3 hl
       ·exact sdo_late4 g S c w h htx hkey hval K n hS hn hK hr' (hkk h2 h3) hl
     ·rename_i hl
      have hl' := Decidable.not_not.1 hl
      split
      ·rename_i h2
       exact sdo_lock g S c w h htx hkey hval K n hS hn hK hr' h2 hl'
      ·rename_i h2
       split
       ·rename_i h3
        exact sdo_get g S c w h htx hkey hval K n hS hn hK hr' h3 hl'
       ·rename_i h3
        exact sdo_put g S c w h htx hkey hval K n hS hn hK hr' (hkk h2 h3) hl'
set_option maxRecDepth 100000 in
set_option maxHeartbeats 800000 in
theorem none_do (w : World) : Calls Tryz.prog 13 #[.pointer none, zeroC.val] w fun e w' => e = .returned (Rp.val (codeR 1)) ∧ Below w.heap.size w w' := by
 go_enter Tryz.func13, Tryz.ntmps13
 go_wp2_with fail
 refine bodyPost_ret (by simp [results, Tryz.results13, go_sem]; try rfl) rfl ?_
 exact ⟨rfl, bel_one (bel_new w _) _⟩
end Go.Proofs.YtmifgnibalbgjaaGreat
