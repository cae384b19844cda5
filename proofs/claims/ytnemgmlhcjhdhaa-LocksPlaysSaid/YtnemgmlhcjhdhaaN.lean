/- Holds, Waits, Clone, Holders, Queue. -/
import Derived.Test.YtnemgmlhcjhdhaaM
import Derived.Test.YtnemgmlhcjhdhaaMem3
import Derived.Lib.SliceRun
namespace Go.Proofs.Ytnemgmlhcjhdhaa
open Go.RowKit
theorem infoHd : (Try.prog.info? 36).map (fun i => (i.zero, i.size, i.bytes)) = some (some (.agg #[.int .i64 0, .int .i64 0]), 2, 16) := by kernel_rfl
theorem fld1 (k : ByteArray) (a b : Option Addr) (n c m d : Nat) (w : World) : (Instr.field 34 (.agg #[.string k, .slice a n c, .slice b m d]) 1).run Try.prog w = .ok (.slice a n c) w := by kernel_rfl
theorem fld2 (k : ByteArray) (a b : Option Addr) (n c m d : Nat) (w : World) : (Instr.field 34 (.agg #[.string k, .slice a n c, .slice b m d]) 2).run Try.prog w = .ok (.slice b m d) w := by kernel_rfl
set_option maxRecDepth 100000 in
set_option maxHeartbeats 800000 in
theorem tab_holds (p : Nat) (L : List Li) (o : Int) (k : ByteArray) (w : World) (D : List Nat) (h : TabA p L w D) (hs : SortL L) (hb : L.length ≤ 1000000) :
    Calls Try.prog 15 #[.pointer (some ⟨p, 0, none⟩), .int .i64 o, .string k] w fun e w' => e = .returned (.int .i64 (ofH (lineL L k).hs o)) ∧ Below w.heap.size w w' := by
  have HL := Lib.hid (tab_line p L k w D h hs hb)
  clear h hs hb
  generalize lineL L k = li at *
  go_enter Try.func15, Try.ntmps15
  go_wp2_with fail
  refine HL.out.mono ?_
  rintro e w1 ⟨⟨v, rfl, ky, ⟨ha, hn, hc⟩, ⟨qa, qn, qc⟩, rfl, h1, h2, h3, h4⟩, hb⟩
  have HB := Lib.hid hb
  have HO := Lib.hid (of_any ha hn hc li.hs o w1 h1 h3)
  clear hb h1 h2 h3 h4
  have hfl := fld1 ky ha qa hn hc qn qc
  have hf2 := fld2 ky ha qa hn hc qn qc
  simp only [slv]
  go_wp2_with fail
  refine HO.out.mono ?_
  rintro e w2 ⟨rfl, hb⟩
  have HB2 := Lib.hid (HB.out.trans (hb.mono HB.out.size))
  clear hb
  go_wp2_with fail
  go_ret
  exact ⟨rfl, HB2.out⟩
set_option maxRecDepth 100000 in
set_option maxHeartbeats 800000 in
theorem tab_waits (p : Nat) (L : List Li) (o : Int) (k : ByteArray) (w : World) (D : List Nat) (h : TabA p L w D) (hs : SortL L) (hb : L.length ≤ 1000000) :
    Calls Try.prog 14 #[.pointer (some ⟨p, 0, none⟩), .int .i64 o, .string k] w fun e w' => e = .returned (.int .i64 (ofH (lineL L k).qs o)) ∧ Below w.heap.size w w' := by
  have HL := Lib.hid (tab_line p L k w D h hs hb)
  clear h hs hb
  generalize lineL L k = li at *
  go_enter Try.func14, Try.ntmps14
  go_wp2_with fail
  refine HL.out.mono ?_
  rintro e w1 ⟨⟨v, rfl, ky, ⟨ha, hn, hc⟩, ⟨qa, qn, qc⟩, rfl, h1, h2, h3, h4⟩, hb⟩
  have HB := Lib.hid hb
  have HO := Lib.hid (of_any qa qn qc li.qs o w1 h2 h4)
  clear hb h1 h2 h3 h4
  have hfl := fld1 ky ha qa hn hc qn qc
  have hf2 := fld2 ky ha qa hn hc qn qc
  simp only [slv]
  go_wp2_with fail
  refine HO.out.mono ?_
  rintro e w2 ⟨rfl, hb⟩
  have HB2 := Lib.hid (HB.out.trans (hb.mono HB.out.size))
  clear hb
  go_wp2_with fail
  go_ret
  exact ⟨rfl, HB2.out⟩
theorem hds_cells {w : World} {a : Addr} {n : Nat} {l : List Hd} (h : HdsAt w (some a) n l) : ∀ j u, (hdFlat l)[j]? = some u → w.cell? (a.add j) = some u := fun j u hu => by
  have hj : j < l.length * 2 := by
    rcases Nat.lt_or_ge j (l.length * 2) with h1 | h1
    · exact h1
    · rw [List.getElem?_eq_none (by rw [hdFlat_len]; exact h1)] at hu; cases hu
  obtain ⟨g, o, e, c0, c1⟩ := h.2 (j / 2) (by omega)
  obtain ⟨e0, e1⟩ := hdFlat_get l (j / 2) (by omega)
  obtain rfl : a = ⟨g, o, none⟩ := by simpa using e
  rw [Addr.add_lit]
  rcases Nat.mod_two_eq_zero_or_one j with hm | hm
  · have hj2 : j / 2 * 2 = j := by omega
    rw [hj2] at e0 c0
    rw [e0] at hu
    rw [c0]; exact hu
  · have hj2 : j / 2 * 2 + 1 = j := by omega
    rw [hj2] at e1
    rw [show o + j / 2 * 2 + 1 = o + j by omega] at c1
    rw [e1] at hu
    rw [c1]; exact hu
set_option maxRecDepth 100000 in
set_option maxHeartbeats 800000 in
theorem clone_any (a : Option Addr) (n c : Nat) (l : List Hd) (w : World) (h : HdsAt w a n l) (hn : n ≤ 1000000) :
    Calls Try.prog 35 #[.slice a n c] w fun e w' => ∃ s, e = .returned (slv s) ∧ Row w' 36 2 s.a s.n s.c (hdFlat l) ∧ Below w.heap.size w w' ∧ ∀ x ∈ blkOf s.a, w.heap.size ≤ x := by
  cases a with
  | none =>
    have hl : l = [] := by
      match l, h with
      | [], _ => rfl
      | x :: r, h => obtain ⟨g, o, e, _⟩ := h.2 0 (by simp); cases e
    subst hl
    obtain rfl : n = 0 := h.1
    clear h hn
    have hnil := fun w => Lib.run_eql_slice_nil (P := Try.prog) w 32 36 none 0 c 0 0 Try.underlying32
    go_enter Try.func35, Try.ntmps35
    go_wp2_with fail
    go_ret
    exact ⟨⟨none, 0, 0⟩, rfl, Row.nil _ _ _, Below.refl _ _, fun x hx => by cases hx⟩
  | some a =>
    have hr0 : Row (w.alloc (.cells #[] 36)) 36 2 (some ⟨w.heap.size, 0, none⟩) 0 0 [] := row_empty (heap_new w _)
    obtain ⟨i0, hi, hz0, hz1, hz2⟩ := info_parts infoHd
    obtain ⟨b', cap', w', hrun, hrow, ht, hf⟩ := run_append_row (P := Try.prog) (w.alloc (.cells #[] 36)) 32 32 36 i0 _ 2 16 Try.underlying32 hi hz0 hz1 hz2 (by rfl) (by decide) (some ⟨w.heap.size, 0, none⟩) 0 0 [] hr0 a n c (hdFlat l) (by rw [hdFlat_len, h.1]) (hds_cells (h.below (bel_new w _))) (hdFlat_one l) (by unfold maxLen; omega) (by omega)
    have HRUN := Lib.hid hrun
    have HF : Hid (Row w' 36 2 b' n cap' (hdFlat l) ∧ Below w.heap.size w w' ∧ ∀ x ∈ blkOf b', w.heap.size ≤ x) := Lib.hid ⟨by simpa using hrow, (NewB.lit (Nat.le_refl _)).bel (bel_new w _) ht, (NewB.lit (Nat.le_refl _)).next (_w' := w') (bel_new w _) hf⟩
    clear hrun hrow ht hf h hr0 hi hz0 hz1 hz2
    have hnil := fun w => Lib.run_eql_slice_nil (P := Try.prog) w 32 36 (some a) n c 0 0 Try.underlying32
    go_enter Try.func35, Try.ntmps35
    go_wp2_with (at_builtin; refine wpList_appendR _ rfl (.tmp 5) (.tmp 6) 32 32 rfl (.slice (some ⟨w.heap.size, 0, none⟩) 0 0) (.slice (some a) n c) rfl rfl HRUN.out ?_)
    go_ret
    exact ⟨⟨b', n, cap'⟩, rfl, HF.out⟩
/-- a table of no more than so many. -/
def Sm (N : Nat) (L : List Li) : Prop := L.length ≤ N ∧ ∀ l ∈ L, l.hs.length + l.qs.length ≤ N
theorem Sm.line {N : Nat} {L : List Li} (h : Sm N L) (k : ByteArray) : (lineL L k).hs.length + (lineL L k).qs.length ≤ N := by
  unfold lineL
  split
  · cases hq : L[posL L k]? with
    | none => simp
    | some l => exact h.2 l (List.mem_of_getElem? hq)
  · simp
set_option maxRecDepth 100000 in
set_option maxHeartbeats 800000 in
theorem tab_holders (p : Nat) (L : List Li) (k : ByteArray) (w : World) (D : List Nat) (h : TabA p L w D) (hs : SortL L) (hb : Sm 1000 L) :
    Calls Try.prog 16 #[.pointer (some ⟨p, 0, none⟩), .string k] w fun e w' => ∃ s, e = .returned (slv s) ∧ Row w' 36 2 s.a s.n s.c (hdFlat (lineL L k).hs) ∧ Below w.heap.size w w' ∧ ∀ x ∈ blkOf s.a, w.heap.size ≤ x := by
  have HL := Lib.hid (tab_line p L k w D h hs (by have := hb.1; omega))
  have hsm := hb.line k
  clear h hs hb
  generalize lineL L k = li at *
  go_enter Try.func16, Try.ntmps16
  go_wp2_with fail
  refine HL.out.mono ?_
  rintro e w1 ⟨⟨v, rfl, ky, ⟨ha, hn, hc⟩, ⟨qa, qn, qc⟩, rfl, h1, h2, h3, h4⟩, hb⟩
  have HB := Lib.hid hb
  have HO := Lib.hid (clone_any ha hn hc li.hs w1 h1 (by have := h1.1; simp only at this; omega))
  clear hb h1 h2 h3 h4
  have hfl := fld1 ky ha qa hn hc qn qc
  have hf2 := fld2 ky ha qa hn hc qn qc
  simp only [slv]
  go_wp2_with fail
  refine HO.out.mono ?_
  rintro e w2 ⟨⟨sa, sn, sc⟩, rfl, hr, hb, hf⟩
  have HF : Hid (Row w2 36 2 sa sn sc (hdFlat li.hs) ∧ Below w.heap.size w w2 ∧ ∀ x ∈ blkOf sa, w.heap.size ≤ x) := Lib.hid ⟨hr, HB.out.trans (hb.mono HB.out.size), fun x hx => Nat.le_trans HB.out.size (hf x hx)⟩
  clear hb hr hf
  simp only [slv]
  go_wp2_with fail
  go_ret
  exact ⟨⟨sa, sn, sc⟩, rfl, HF.out⟩
set_option maxRecDepth 100000 in
set_option maxHeartbeats 800000 in
theorem tab_queue (p : Nat) (L : List Li) (k : ByteArray) (w : World) (D : List Nat) (h : TabA p L w D) (hs : SortL L) (hb : Sm 1000 L) :
    Calls Try.prog 22 #[.pointer (some ⟨p, 0, none⟩), .string k] w fun e w' => ∃ s, e = .returned (slv s) ∧ Row w' 36 2 s.a s.n s.c (hdFlat (lineL L k).qs) ∧ Below w.heap.size w w' ∧ ∀ x ∈ blkOf s.a, w.heap.size ≤ x := by
  have HL := Lib.hid (tab_line p L k w D h hs (by have := hb.1; omega))
  have hsm := hb.line k
  clear h hs hb
  generalize lineL L k = li at *
  go_enter Try.func22, Try.ntmps22
  go_wp2_with fail
  refine HL.out.mono ?_
  rintro e w1 ⟨⟨v, rfl, ky, ⟨ha, hn, hc⟩, ⟨qa, qn, qc⟩, rfl, h1, h2, h3, h4⟩, hb⟩
  have HB := Lib.hid hb
  have HO := Lib.hid (clone_any qa qn qc li.qs w1 h2 (by have := h2.1; simp only at this; omega))
  clear hb h1 h2 h3 h4
  have hfl := fld1 ky ha qa hn hc qn qc
  have hf2 := fld2 ky ha qa hn hc qn qc
  simp only [slv]
  go_wp2_with fail
  refine HO.out.mono ?_
  rintro e w2 ⟨⟨sa, sn, sc⟩, rfl, hr, hb, hf⟩
  have HF : Hid (Row w2 36 2 sa sn sc (hdFlat li.qs) ∧ Below w.heap.size w w2 ∧ ∀ x ∈ blkOf sa, w.heap.size ≤ x) := Lib.hid ⟨hr, HB.out.trans (hb.mono HB.out.size), fun x hx => Nat.le_trans HB.out.size (hf x hx)⟩
  clear hb hr hf
  simp only [slv]
  go_wp2_with fail
  go_ret
  exact ⟨⟨sa, sn, sc⟩, rfl, HF.out⟩
end Go.Proofs.Ytnemgmlhcjhdhaa
