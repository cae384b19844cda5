/- New, Lines of none, blocked. -/
import Derived.Test.YtnemgmlhcjhdhaaW
namespace Go.Proofs.Ytnemgmlhcjhdhaa
open Go.RowKit
set_option maxRecDepth 100000 in
set_option maxHeartbeats 800000 in
theorem tab_new (w : World) : Calls Try.prog 11 #[] w fun e w' => ∃ p, e = .returned (.pointer (some ⟨p, 0, none⟩)) ∧ All [TabA p []] w' [p] ∧ (∀ x ∈ [p], w.heap.size ≤ x) ∧ Below w.heap.size w w' := by
  go_enter Try.func11, Try.ntmps11
  go_wp2_with fail
  go_ret
  refine ⟨w.heap.size, rfl, all_one ⟨none, 0, 0, [], rfl, [w.heap.size], [], by simp, by simp, ⟨rfl, heap_new w _⟩, [], [], rfl, by simp, ⟨rfl, Row.nil _ _ _⟩, rfl⟩, by simp, bel_new _ _⟩
/-- the owners in a list that clash with one that waits. -/
def blkH (l : List Hd) (x : Hd) : List Int := (l.filter fun h => !(h.owner == x.owner) && clashM h.mode x.mode).map (·.owner)
theorem blkH_next {l : List Hd} {x : Hd} {i : Nat} (h : i < l.length) : blkH (l.take (i + 1)) x = blkH (l.take i) x ++ (if (!(l[i].owner == x.owner) && clashM l[i].mode x.mode) = true then [l[i].owner] else []) := by
  unfold blkH
  rw [List.take_succ_eq_append_getElem h, List.filter_append, List.map_append]
  congr 1
  rw [List.filter_cons]
  split <;> simp
theorem blkH_len (l : List Hd) (x : Hd) : (blkH l x).length ≤ l.length := by
  unfold blkH; rw [List.length_map]; exact List.length_filter_le _ _
set_option maxRecDepth 100000 in
set_option maxHeartbeats 4000000 in
theorem blocked_any (a : Option Addr) (n c : Nat) (l : List Hd) (x : Hd) (w : World) (h : HdsAt w a n l) (hn : n ≤ 1000) :
    Calls Try.prog 49 #[.slice a n c, .agg #[.int .i64 x.owner, .int .i64 x.mode]] w fun e w' => ∃ b d, e = .returned (.slice b (blkH l x).length d) ∧ Row w' 3 1 b (blkH l x).length d (intsV (blkH l x)) ∧ Below w.heap.size w w' ∧ ∀ y ∈ blkOf b, w.heap.size ≤ y := by
  obtain rfl := h.1
  obtain ⟨xo, xm⟩ := x
  have HR := Lib.hid (h.below (bel_new w (.cells #[.int .i64 xo, .int .i64 xm] 36)))
  have HX := Lib.hid (hdAt_new w ⟨xo, xm⟩ 36)
  have hB0 := Lib.hid (bel_new w (.cells #[.int .i64 xo, .int .i64 xm] 36))
  have hsz : (w.alloc (.cells #[.int .i64 xo, .int .i64 xm] 36)).heap.size = w.heap.size + 1 := by simp only [World.size_alloc]
  clear h
  simp only at HX
  go_enter Try.func49, Try.ntmps49
  go_wp2_with fail
  generalize hw0 : w.alloc (.cells #[.int .i64 xo, .int .i64 xm] 36) = w0 at *
  clear hw0
  have HSZ := Lib.hid hsz
  clear hsz
  go_loopw [5, 10] (fun v jv wr => ∃ i : Nat, i ≤ l.length ∧ jv = .int .i64 (i : Nat) ∧ Hid (NewRow 3 1 w0 (intsV (blkH (l.take i) ⟨xo, xm⟩)) (blkH (l.take i) ⟨xo, xm⟩).length v wr)) (fun _ jv _ => l.length - (intOf jv).toNat)
  case atStart => exact ⟨0, Nat.zero_le _, rfl, Lib.hid (NewRow.nil 3 1 w0)⟩
  case round =>
    obtain ⟨i, hi, rfl, hS⟩ := hrel
    obtain ⟨a5, c5, rfl, hr5, hb5, hf5⟩ := hS.out
    by_cases hlt : i < l.length
    · obtain ⟨g, off, rfl, hx⟩ := HR.out.2 i hlt
      obtain ⟨hc0, hc1⟩ := hx.below hb5
      obtain ⟨x0, x1⟩ := HX.out.below hb5
      have hnx := blkH_next (x := ⟨xo, xm⟩) hlt
      have HLN := Lib.hid (Nat.le_trans (blkH_len (l.take i) ⟨xo, xm⟩) (by rw [List.length_take]; omega : _ ≤ l.length))
      clear hx
      generalize l[i] = z at *
      obtain ⟨zo, zm⟩ := z
      simp only at hc0 hc1 x0 x1 hnx
      simp only [Nat.zero_add] at x0 x1
      have hx0a := fun oo => ((bel_new wr oo).cell (World.block_lt_of_cell? wr _ x0)).trans x0
      have hx1a := fun oo => ((bel_new wr oo).cell (World.block_lt_of_cell? wr _ x1)).trans x1
      have hS2 := Lib.hid (NewRow.below (w := w0) ⟨a5, c5, rfl, hr5, hb5, hf5⟩ (bel_new wr (.cells #[.int .i64 zo, .int .i64 zm] 36)))
      have HN := Lib.hid hnx
      clear hr5 hb5 hf5 hnx hS x0 x1
      cases hq : (zo == xo) with
      | true =>
        have he : Hid (blkH (l.take (i + 1)) ⟨xo, xm⟩ = blkH (l.take i) ⟨xo, xm⟩) := Lib.hid (by rw [HN.out, hq]; simp)
        clear HN
        obtain rfl : xo = zo := (beq_iff_eq.1 hq).symm
        clear hq
        generalize hbl : blkH (l.take i) ⟨xo, xm⟩ = bl at *
        have HBL := Lib.hid hbl
        clear hbl
        go_wp2_with fail
        go_roundw
        case rel => exact ⟨i + 1, by omega, by go_num, Lib.hid (by rw [he.out]; exact hS2.out)⟩
        case measure => simp [intOf]; omega
      | false =>
        have hne : (zo != xo) = true := by simp only [bne, hq, Bool.not_false]
        cases hcl : clashM zm xm with
        | false =>
          have he : Hid (blkH (l.take (i + 1)) ⟨xo, xm⟩ = blkH (l.take i) ⟨xo, xm⟩) := Lib.hid (by rw [HN.out, hq, hcl]; simp)
          have HCL := Lib.hid hcl
          clear HN hcl hq
          generalize hbl : blkH (l.take i) ⟨xo, xm⟩ = bl at *
          have HBL := Lib.hid hbl
          clear hbl
          go_wp2_with fail
          refine (clash_any _ _ _).mono ?_
          rintro e w1 ⟨rfl, rfl⟩
          rw [HCL.out]
          go_wp2_with fail
          go_roundw
          case rel => exact ⟨i + 1, by omega, by go_num, Lib.hid (by rw [he.out]; exact hS2.out)⟩
          case measure => simp [intOf]; omega
        | true =>
          have he : Hid (blkH (l.take (i + 1)) ⟨xo, xm⟩ = blkH (l.take i) ⟨xo, xm⟩ ++ [zo]) := Lib.hid (by rw [HN.out, hq, hcl]; simp)
          have HCL := Lib.hid hcl
          clear HN hcl hq
          generalize hbl : blkH (l.take i) ⟨xo, xm⟩ = bl at *
          have HBL := Lib.hid hbl
          clear hbl
          obtain ⟨b6, c6, w6, hrun, hnr⟩ := NewRow.app (P := Try.prog) (t := 43) Try.underlying43 infoInt (by rfl) (by decide) hS2.out [.int .i64 zo] (by rfl) (by simp [Value.oneCell']) (by have := HLN.out; omega) (by decide) 43
          rw [show (wr.alloc (.cells #[.int .i64 zo, .int .i64 zm] 36)).heap.size = wr.heap.size + 1 by simp only [World.size_alloc]] at hrun
          have HRUN := Lib.hid hrun
          have HNR := Lib.hid hnr
          clear hrun hnr
          go_wp2_with fail
          refine (clash_any _ _ _).mono ?_
          rintro e w1 ⟨rfl, rfl⟩
          rw [HCL.out]
          go_wp2_with ((at_builtin; refine wpList_appendR _ rfl (.tmp 26) (.tmp 29) 43 43 rfl (.slice a5 bl.length c5) (.slice (some ⟨wr.heap.size + 1, 0, none⟩) 1 1) rfl rfl HRUN.out ?_))
          go_roundw
          case rel => exact ⟨i + 1, by omega, by go_num, Lib.hid (by rw [he.out]; simpa [intsV] using HNR.out)⟩
          case measure => simp [intOf]; omega
    · obtain rfl : i = l.length := by omega
      rw [List.take_length] at *
      have HF : Hid (Row wr 3 1 a5 (blkH l ⟨xo, xm⟩).length c5 (intsV (blkH l ⟨xo, xm⟩)) ∧ Below w.heap.size w wr ∧ ∀ y ∈ blkOf a5, w.heap.size ≤ y) := Lib.hid ⟨hr5, hB0.out.trans (hb5.mono hB0.out.size), fun y hy => Nat.le_trans hB0.out.size (hf5 y hy)⟩
      clear hr5 hb5 hf5
      go_wp2_with fail
      go_ret
      exact ⟨a5, c5, rfl, HF.out⟩
end Go.Proofs.Ytnemgmlhcjhdhaa
