/- TimerPlays walked. -/
import Derived.Test.YtcolaafgjlaikaaLL
import Derived.Deep.CutRange
import Derived.Deep.CutBlock
namespace Go.Proofs.Ytcolaafgjlaikaa
open Go.RowKit

theorem make_ints (n : Nat) (h1 : 1 ≤ n) (h7 : n ≤ 7) : ∀ w, (Instr.makeSlice 27 (.int .i64 (n : Int)) (.int .i64 (n : Int))).run Try.prog w = .ok (.slice (some ⟨w.heap.size, 0, none⟩) n n) (w.alloc (.cells (ints (List.replicate n 0)).toArray 3)) := by
  rcases (show n = 1 ∨ n = 2 ∨ n = 3 ∨ n = 4 ∨ n = 5 ∨ n = 6 ∨ n = 7 by omega) with rfl | rfl | rfl | rfl | rfl | rfl | rfl
  · exact fun w => (show (Instr.makeSlice 27 (.int .i64 1) (.int .i64 1)).run Try.prog w = .ok (.slice (some ⟨w.heap.size, 0, none⟩) 1 1) (w.alloc (.cells (ints (List.replicate 1 0)).toArray 3)) from by kernel_rfl)
  · exact fun w => (show (Instr.makeSlice 27 (.int .i64 2) (.int .i64 2)).run Try.prog w = .ok (.slice (some ⟨w.heap.size, 0, none⟩) 2 2) (w.alloc (.cells (ints (List.replicate 2 0)).toArray 3)) from by kernel_rfl)
  · exact fun w => (show (Instr.makeSlice 27 (.int .i64 3) (.int .i64 3)).run Try.prog w = .ok (.slice (some ⟨w.heap.size, 0, none⟩) 3 3) (w.alloc (.cells (ints (List.replicate 3 0)).toArray 3)) from by kernel_rfl)
  · exact fun w => (show (Instr.makeSlice 27 (.int .i64 4) (.int .i64 4)).run Try.prog w = .ok (.slice (some ⟨w.heap.size, 0, none⟩) 4 4) (w.alloc (.cells (ints (List.replicate 4 0)).toArray 3)) from by kernel_rfl)
  · exact fun w => (show (Instr.makeSlice 27 (.int .i64 5) (.int .i64 5)).run Try.prog w = .ok (.slice (some ⟨w.heap.size, 0, none⟩) 5 5) (w.alloc (.cells (ints (List.replicate 5 0)).toArray 3)) from by kernel_rfl)
  · exact fun w => (show (Instr.makeSlice 27 (.int .i64 6) (.int .i64 6)).run Try.prog w = .ok (.slice (some ⟨w.heap.size, 0, none⟩) 6 6) (w.alloc (.cells (ints (List.replicate 6 0)).toArray 3)) from by kernel_rfl)
  · exact fun w => (show (Instr.makeSlice 27 (.int .i64 7) (.int .i64 7)).run Try.prog w = .ok (.slice (some ⟨w.heap.size, 0, none⟩) 7 7) (w.alloc (.cells (ints (List.replicate 7 0)).toArray 3)) from by kernel_rfl)
theorem act_cells {w0 W : World} {g : Nat} {xk xn xi xa xe : Int} {l : List Asn} [Stables l] (M : Mem w0 W (BlockA g #[.int .u8 xk, .int .i64 xn, .int .i64 xi, .int .i64 xa, .int .i64 xe] 32 :: l)) :
    W.cell? ⟨g, 1, none⟩ = some (.int .i64 xn) ∧ W.cell? ⟨g, 2, none⟩ = some (.int .i64 xi) ∧ W.cell? ⟨g, 3, none⟩ = some (.int .i64 xa) ∧ W.cell? ⟨g, 4, none⟩ = some (.int .i64 xe) :=
  ⟨block_cell (i := 1) M rfl, block_cell (i := 2) M rfl, block_cell (i := 3) M rfl, block_cell (i := 4) M rfl⟩
theorem bel_drew (w : World) : Below w.heap.size w w.drew := ⟨rfl, rfl, rfl, Nat.le_refl _, fun _ _ => rfl⟩
theorem bel_drewN (w : World) (n : Nat) : Below w.heap.size w (w.drewN n) := ⟨rfl, rfl, rfl, Nat.le_refl _, fun _ _ => rfl⟩
/-- the reference's board, made. -/
theorem ref_new {w : World} (n : Nat) {l : List Asn} [Stables l] {w0 : World} (h : Mem w0 w l) :
    Mem w0 ((w.alloc (.cells (ints (List.replicate n 0)).toArray 3)).alloc (.cells #[.slice (some ⟨w.heap.size, 0, none⟩) n n, .slice none 0 0] 30)) (RefA (w.heap.size + 1) (List.replicate n 0) [] :: l) := by
  have hb1 := Below.alloc (Below.refl w.heap.size w) (Nat.le_refl _) (.cells (ints (List.replicate n 0)).toArray 3)
  have hb2 := Below.alloc (Below.refl (w.alloc (.cells (ints (List.replicate n 0)).toArray 3)).heap.size (w.alloc (.cells (ints (List.replicate n 0)).toArray 3))) (Nat.le_refl _) (.cells #[.slice (some ⟨w.heap.size, 0, none⟩) n n, .slice none 0 0] 30)
  refine h.new (hb1.trans (hb2.mono hb1.size)) (As := [RefA (w.heap.size + 1) (List.replicate n 0) []]) (D' := (w.heap.size + 1) :: w.heap.size :: blkOf none) (all_one ⟨w.heap.size, none, 0, rfl, ⟨?_, ?_, Row.nil _ _ _, by omega, by simp [blkOf], by simp [blkOf]⟩⟩) (fun x hx => ?_)
  · rw [List.length_replicate]
    exact heap_alloc_at _ _ _ (by simp)
  · exact (hb2.block _ (by simp)).trans (heap_alloc_new w _)
  · simp [blkOf] at hx; omega

set_option maxRecDepth 100000 in
set_option maxHeartbeats 800000 in
theorem plays_bad (n : Int) (a : Option Addr) (m c : Nat) (w : World) (hm : m ≤ maxLen) (h : 60 < (m : Int) ∨ n < 1 ∨ 7 < n) : Calls Try.prog 3 #[.int .i64 n, .slice a m c] w fun e w' => e = .returned (.bool true) ∧ Below w.heap.size w w' := by
  unfold maxLen at hm
  have HF := Lib.hid (fixed_any w)
  by_cases h60 : 60 < (m : Int)
  · clear h
    go_enter Try.func3, Try.ntmps3
    go_wp2_with fail
    refine HF.out.mono ?_
    rintro e w1 ⟨rfl, hb⟩
    have HB := Lib.hid hb
    clear hb
    go_wp2_with fail
    go_ret
    exact ⟨rfl, HB.out⟩
  · have HN := Lib.hid fun w => pt_new_bad n (by omega) w
    have b60 : decide (60 < (m : Int)) = false := decide_eq_false h60
    by_cases h1 : n < 1
    · clear h h60
      go_enter Try.func3, Try.ntmps3
      go_wp2_with fail
      refine HF.out.mono ?_
      rintro e w1 ⟨rfl, hb⟩
      have HB := Lib.hid hb
      clear hb
      go_wp2_with fail
      refine (HN.out w1).mono ?_
      rintro e _ ⟨rfl, rfl⟩
      go_wp2_with fail
      go_ret
      exact ⟨rfl, HB.out⟩
    · have h7 : 7 < n := by omega
      clear h h60
      go_enter Try.func3, Try.ntmps3
      go_wp2_with fail
      refine HF.out.mono ?_
      rintro e w1 ⟨rfl, hb⟩
      have HB := Lib.hid hb
      clear hb
      go_wp2_with fail
      refine (HN.out w1).mono ?_
      rintro e _ ⟨rfl, rfl⟩
      go_wp2_with fail
      go_ret
      exact ⟨rfl, HB.out⟩

set_option maxRecDepth 100000 in
set_option maxHeartbeats 16000000 in
theorem plays_any (N : Nat) (a : Option Addr) (n c : Nat) (l : List Ac) (w : World) (hn : n ≤ 60) (hN1 : 1 ≤ N) (hN7 : N ≤ 7) (hA : ActsAt w a n l) :
    Calls Try.prog 3 #[.int .i64 (N : Int), .slice a n c] w fun e w' => e = .returned (.bool true) ∧ Below w.heap.size w w' := by
  have HF := Lib.hid (fixed_any w)
  have HN := Lib.hid fun w => bd_new N hN1 hN7 w
  have hmk := make_ints N hN1 hN7
  have HA := Lib.hid hA
  clear hA
  have b60 : decide (60 < (n : Int)) = false := decide_eq_false (by omega)
  have n1 : decide ((N : Int) < 1) = false := decide_eq_false (by omega)
  have n7 : decide (7 < (N : Int)) = false := decide_eq_false (by omega)
  have HREF := Lib.hid fun w1 (M : Mem w w1 []) => ref_new N M
  have HREF2 := Lib.hid fun w1 p (M : Mem w w1 [BoardA p (m0 N)]) => ref_new N M
  have HBO := Lib.hid (Both.start N)
  generalize hcs : (ints (List.replicate N 0)).toArray = cs at *
  clear hcs
  generalize hrp : List.replicate N (0 : Int) = rp at *
  clear hrp
  go_enter Try.func3, Try.ntmps3
  go_wp2_with fail
  refine HF.out.mono ?_
  rintro e w1 ⟨rfl, hb⟩
  have HB1 := Lib.hid hb
  clear hb
  go_wp2_with fail
  refine (HN.out w1).mono ?_
  rintro e w2 ⟨pb, D, rfl, hb, hd, hbel⟩
  have M1 := Lib.hid (show Mem w w2 [BoardA pb (m0 N)] from ((Mem.nil w).below HB1.out).new hbel hb hd)
  clear hb hd hbel
  have M2 := Lib.hid (HREF2.out w2 pb M1.out)
  clear HREF HREF2
  go_wp2_with fail
  go_loopw [44] (fun j wr => ∃ k : Nat, k ≤ n ∧ j = .int .i64 k ∧ Hid (∃ m ck L, Both N m ck L k ∧ Mem w wr [RefA (w2.heap.size + 1) ck L, BoardA pb m])) (fun j _ => n - (intOf j).toNat)
  case atStart => exact ⟨0, Nat.zero_le _, rfl, Lib.hid ⟨_, _, _, HBO.out, M2.out⟩⟩
  case round =>
    obtain ⟨k, hk, rfl, hS⟩ := hrel
    clear M1 M2 HB1 hmk
    generalize w2.heap.size + 1 = pr at *
    obtain ⟨m, ck, L, hbo, hmem⟩ := hS.out
    have BO := Lib.hid hbo
    have M3 := Lib.hid hmem
    clear hbo hmem hS
    by_cases hlt : k < n
    · obtain ⟨g, off, rfl, ⟨hx0, hx1, hx2, hx3, hx4⟩, hk0, hk1⟩ := (HA.out.below M3.out.bel).2 k (by rw [← HA.out.1]; exact hlt)
      generalize l[k]'(by rw [← HA.out.1]; exact hlt) = x at *
      obtain ⟨xk, xn, xi, xa, xe⟩ := x
      simp only at hx0 hx1 hx2 hx3 hx4 hk0 hk1
      have M4 := Lib.hid (M3.out.block #[.int .u8 xk, .int .i64 xn, .int .i64 xi, .int .i64 xa, .int .i64 xe] 32)
      have hgz : ¬ g = wr.heap.size := by
        have := World.block_lt_of_cell? wr _ hx0
        simp at this; omega
      have hk1000 : k ≤ 1000 := by omega
      have hk1000b : k + 1 ≤ 1000 := by omega
      have h7 : xk % 7 = 0 ∨ xk % 7 = 1 ∨ xk % 7 = 2 ∨ xk % 7 = 3 ∨ xk % 7 = 4 ∨ xk % 7 = 5 ∨ xk % 7 = 6 := by omega
      have hq0 : 0 ≤ xk % 7 := by omega
      have hq1 : xk % 7 ≤ 6 := by omega
      go_upto_block 2 with (fail)
      clear hx0 hx1 hx2 hx3 hx4 hgz M3
      generalize wr.alloc (.cells #[.int .u8 xk, .int .i64 xn, .int .i64 xi, .int .i64 xa, .int .i64 xe] 32) = W0 at *
      generalize wr.heap.size = gB at *
      go_cut [9] from 45 to 217 (fun ok wx => ok = .bool true ∧ Hid (∃ m' ck' L', Both N m' ck' L' (k + 1) ∧ Mem w wx [BlockA gB #[.int .u8 xk, .int .i64 xn, .int .i64 xi, .int .i64 xa, .int .i64 xe] 32, RefA pr ck' L', BoardA pb m']))
      case first =>
        have HMEET := Lib.hid fun (wx : World) m' ck' L' (hb : Both N m' ck' L' (k + 1)) (M : Mem w wx [BlockA gB #[.int .u8 xk, .int .i64 xn, .int .i64 xi, .int .i64 xa, .int .i64 xe] 32, RefA pr ck' L', BoardA pb m']) => (show Hid (∃ m' ck' L', Both N m' ck' L' (k + 1) ∧ Mem w wx [BlockA gB #[.int .u8 xk, .int .i64 xn, .int .i64 xi, .int .i64 xa, .int .i64 xe] 32, RefA pr ck' L', BoardA pb m']) from Lib.hid ⟨m', ck', L', hb, M⟩)
        obtain ⟨ac1, ac2, ac3, ac4⟩ := act_cells M4.out
        rcases h7 with h7 | h7 | h7 | h7 | h7 | h7 | h7
        · as_aux_lemma =>
            go_wp2_with fail
            obtain ⟨xr, m', L', hs1, hs2, hbo'⟩ := BO.out.set xn xi xa xe
            have BO' := Lib.hid hbo'
            have HB1 := Lib.hid ((M4.out.below (bel_drew W0)).call [BlockA gB #[.int .u8 xk, .int .i64 xn, .int .i64 xi, .int .i64 xa, .int .i64 xe] 32, RefA pr ck L] fun D h => bd_set' BO.out.ok hs1 h)
            have HB2 := Lib.hid fun W (M : Mem w W [BlockA gB #[.int .u8 xk, .int .i64 xn, .int .i64 xi, .int .i64 xa, .int .i64 xe] 32, RefA pr ck L, BoardA pb m']) => M.call [BlockA gB #[.int .u8 xk, .int .i64 xn, .int .i64 xi, .int .i64 xa, .int .i64 xe] 32] (Q := ToR pr (.returned (.int .i64 xr)) ck L') fun D h => rf_set pr BO.out hk1000 hs2 W D h
            have sd := act_cells (M4.out.below (bel_drew W0))
            clear hbo' hs1 hs2
            go_region_held3 (fun w' => w'.cell? ⟨gB, 1, none⟩ = some (.int .i64 xn) ∧ w'.cell? ⟨gB, 2, none⟩ = some (.int .i64 xi) ∧ w'.cell? ⟨gB, 3, none⟩ = some (.int .i64 xa) ∧ w'.cell? ⟨gB, 4, none⟩ = some (.int .i64 xe)) (first | assumption | exact act_cells (by assumption))
              (first
                | ((go_at_call 8; refine HB1.out.mono ?_; rintro e w5 ⟨As, ⟨rfl, rfl⟩, hm⟩; have hm5 := (show Mem w w5 [BlockA gB #[.int .u8 xk, .int .i64 xn, .int .i64 xi, .int .i64 xa, .int .i64 xe] 32, RefA pr ck L, BoardA pb m'] from hm); clear hm))
                | ((go_at_call 9; refine (HB2.out _ hm5).mono ?_; rintro e w6 ⟨As2, ⟨rfl, rfl⟩, hm⟩; have hm6 := (show Mem w w6 [BlockA gB #[.int .u8 xk, .int .i64 xn, .int .i64 xi, .int .i64 xa, .int .i64 xe] 32, RefA pr ck L', BoardA pb m'] from hm); clear hm)))
            have M5 := Lib.hid hm6
            clear hm5 hm6 HB1 HB2 sd ac1 ac2 ac3 ac4 M4
            generalize w6 = W at *
            have HR := Lib.hid (HMEET.out _ _ _ _ BO'.out M5.out)
            go_wp2_with fail
            go_meet
            case rel => exact ⟨rfl, HR.out⟩
        · as_aux_lemma =>
            go_wp2_with fail
            obtain ⟨xr, m', L', hs1, hs2, hbo'⟩ := BO.out.set xn xi xa xe
            have BO' := Lib.hid hbo'
            have HB1 := Lib.hid ((M4.out.below (bel_drew W0)).call [BlockA gB #[.int .u8 xk, .int .i64 xn, .int .i64 xi, .int .i64 xa, .int .i64 xe] 32, RefA pr ck L] fun D h => bd_set' BO.out.ok hs1 h)
            have HB2 := Lib.hid fun W (M : Mem w W [BlockA gB #[.int .u8 xk, .int .i64 xn, .int .i64 xi, .int .i64 xa, .int .i64 xe] 32, RefA pr ck L, BoardA pb m']) => M.call [BlockA gB #[.int .u8 xk, .int .i64 xn, .int .i64 xi, .int .i64 xa, .int .i64 xe] 32] (Q := ToR pr (.returned (.int .i64 xr)) ck L') fun D h => rf_set pr BO.out hk1000 hs2 W D h
            have sd := act_cells (M4.out.below (bel_drew W0))
            clear hbo' hs1 hs2
            go_region_held3 (fun w' => w'.cell? ⟨gB, 1, none⟩ = some (.int .i64 xn) ∧ w'.cell? ⟨gB, 2, none⟩ = some (.int .i64 xi) ∧ w'.cell? ⟨gB, 3, none⟩ = some (.int .i64 xa) ∧ w'.cell? ⟨gB, 4, none⟩ = some (.int .i64 xe)) (first | assumption | exact act_cells (by assumption))
              (first
                | ((go_at_call 8; refine HB1.out.mono ?_; rintro e w5 ⟨As, ⟨rfl, rfl⟩, hm⟩; have hm5 := (show Mem w w5 [BlockA gB #[.int .u8 xk, .int .i64 xn, .int .i64 xi, .int .i64 xa, .int .i64 xe] 32, RefA pr ck L, BoardA pb m'] from hm); clear hm))
                | ((go_at_call 9; refine (HB2.out _ hm5).mono ?_; rintro e w6 ⟨As2, ⟨rfl, rfl⟩, hm⟩; have hm6 := (show Mem w w6 [BlockA gB #[.int .u8 xk, .int .i64 xn, .int .i64 xi, .int .i64 xa, .int .i64 xe] 32, RefA pr ck L', BoardA pb m'] from hm); clear hm)))
            have M5 := Lib.hid hm6
            clear hm5 hm6 HB1 HB2 sd ac1 ac2 ac3 ac4 M4
            generalize w6 = W at *
            have HR := Lib.hid (HMEET.out _ _ _ _ BO'.out M5.out)
            go_wp2_with fail
            go_meet
            case rel => exact ⟨rfl, HR.out⟩
        · as_aux_lemma =>
            go_wp2_with fail
            obtain ⟨xr, m', L', hs1, hs2, hbo'⟩ := BO.out.cancel xn xi
            have BO' := Lib.hid hbo'
            have HB1 := Lib.hid ((M4.out.below (bel_drew W0)).call [BlockA gB #[.int .u8 xk, .int .i64 xn, .int .i64 xi, .int .i64 xa, .int .i64 xe] 32, RefA pr ck L] fun D h => bd_cancel' BO.out.ok hs1 h)
            have HB2 := Lib.hid fun W (M : Mem w W [BlockA gB #[.int .u8 xk, .int .i64 xn, .int .i64 xi, .int .i64 xa, .int .i64 xe] 32, RefA pr ck L, BoardA pb m']) => M.call [BlockA gB #[.int .u8 xk, .int .i64 xn, .int .i64 xi, .int .i64 xa, .int .i64 xe] 32] (Q := ToR pr (.returned (.int .i64 xr)) ck L') fun D h => rf_cancel' pr BO.out hk1000 hs2 W D h
            have sd := act_cells (M4.out.below (bel_drew W0))
            clear hbo' hs1 hs2
            go_region_held3 (fun w' => w'.cell? ⟨gB, 1, none⟩ = some (.int .i64 xn) ∧ w'.cell? ⟨gB, 2, none⟩ = some (.int .i64 xi) ∧ w'.cell? ⟨gB, 3, none⟩ = some (.int .i64 xa) ∧ w'.cell? ⟨gB, 4, none⟩ = some (.int .i64 xe)) (first | assumption | exact act_cells (by assumption))
              (first
                | ((go_at_call 10; refine HB1.out.mono ?_; rintro e w5 ⟨As, ⟨rfl, rfl⟩, hm⟩; have hm5 := (show Mem w w5 [BlockA gB #[.int .u8 xk, .int .i64 xn, .int .i64 xi, .int .i64 xa, .int .i64 xe] 32, RefA pr ck L, BoardA pb m'] from hm); clear hm))
                | ((go_at_call 11; refine (HB2.out _ hm5).mono ?_; rintro e w6 ⟨As2, ⟨rfl, rfl⟩, hm⟩; have hm6 := (show Mem w w6 [BlockA gB #[.int .u8 xk, .int .i64 xn, .int .i64 xi, .int .i64 xa, .int .i64 xe] 32, RefA pr ck L', BoardA pb m'] from hm); clear hm)))
            have M5 := Lib.hid hm6
            clear hm5 hm6 HB1 HB2 sd ac1 ac2 ac3 ac4 M4
            generalize w6 = W at *
            have HR := Lib.hid (HMEET.out _ _ _ _ BO'.out M5.out)
            go_wp2_with fail
            go_meet
            case rel => exact ⟨rfl, HR.out⟩
        · as_aux_lemma =>
            go_wp2_with fail
            obtain ⟨xr, o, m', ck', L', hs1, hs2, hbo', hol⟩ := BO.out.skip hk1000 xn 1
            have BO' := Lib.hid hbo'
            have HB2 := Lib.hid fun W a c (M : Mem w W [BlockA gB #[.int .u8 xk, .int .i64 xn, .int .i64 xi, .int .i64 xa, .int .i64 xe] 32, RefA pr ck L, BoardA pb m', IntsA a c o]) => M.call [BlockA gB #[.int .u8 xk, .int .i64 xn, .int .i64 xi, .int .i64 xa, .int .i64 xe] 32] (Q := fun e As => ∃ a c, e = .returned (.tuple #[.slice a o.length c, .int .i64 xr]) ∧ As = [RefA pr ck' L', IntsA a c o]) fun D h => rf_skip pr BO.out hk1000 hs2 W D h
            refine (M4.out.call [BlockA gB #[.int .u8 xk, .int .i64 xn, .int .i64 xi, .int .i64 xa, .int .i64 xe] 32, RefA pr ck L] fun D h => bd_tick' BO.out.ok hs1 h).mono ?_
            rintro e w5 ⟨As, ⟨a5, c5, rfl, rfl⟩, hm⟩
            have hm5 := (show Mem w w5 [BlockA gB #[.int .u8 xk, .int .i64 xn, .int .i64 xi, .int .i64 xa, .int .i64 xe] 32, RefA pr ck L, BoardA pb m', IntsA a5 c5 o] from hm)
            have M4b := Lib.hid hm5
            clear hbo' hs1 hs2 hm hm5 ac1 ac2 ac3 ac4
            obtain ⟨ac1, ac2, ac3, ac4⟩ := act_cells M4b.out
            go_wp2_with fail
            refine (HB2.out _ a5 c5 M4b.out).mono ?_
            rintro e w6 ⟨As2, ⟨a6, c6, rfl, rfl⟩, hm⟩
            have hm6 := (show Mem w w6 [BlockA gB #[.int .u8 xk, .int .i64 xn, .int .i64 xi, .int .i64 xa, .int .i64 xe] 32, RefA pr ck' L', IntsA a6 c6 o, BoardA pb m', IntsA a5 c5 o] from hm)
            have M4c := Lib.hid hm6
            clear hm hm6 ac1 ac2 ac3 ac4
            obtain ⟨E1, hE1⟩ := M4c.out.get [BlockA gB #[.int .u8 xk, .int .i64 xn, .int .i64 xi, .int .i64 xa, .int .i64 xe] 32, RefA pr ck' L'] (r := [BoardA pb m', IntsA a5 c5 o])
            obtain ⟨E2, hE2⟩ := M4c.out.get [BlockA gB #[.int .u8 xk, .int .i64 xn, .int .i64 xi, .int .i64 xa, .int .i64 xe] 32, RefA pr ck' L', IntsA a6 c6 o, BoardA pb m'] (r := [])
            have HSM := Lib.hid (same_any a5 a6 o.length c5 o.length c6 o o w6 hol rfl rfl (IntsAt.of_row hE2.2) (IntsAt.of_row hE1.2))
            have M4d := Lib.hid (show Mem w w6 [BlockA gB #[.int .u8 xk, .int .i64 xn, .int .i64 xi, .int .i64 xa, .int .i64 xe] 32, RefA pr ck' L', BoardA pb m', IntsA a5 c5 o] from M4c.out.drop [BlockA gB #[.int .u8 xk, .int .i64 xn, .int .i64 xi, .int .i64 xa, .int .i64 xe] 32, RefA pr ck' L'] (r := [BoardA pb m', IntsA a5 c5 o]))
            have M4e := Lib.hid (show Mem w w6 [BlockA gB #[.int .u8 xk, .int .i64 xn, .int .i64 xi, .int .i64 xa, .int .i64 xe] 32, RefA pr ck' L', BoardA pb m'] from M4d.out.drop [BlockA gB #[.int .u8 xk, .int .i64 xn, .int .i64 xi, .int .i64 xa, .int .i64 xe] 32, RefA pr ck' L', BoardA pb m'] (r := []))
            clear hE1 hE2
            go_wp2_with fail
            refine HSM.out.mono ?_
            rintro e w7 ⟨he, q7, hw7⟩
            obtain rfl : e = .returned (.bool true) := by rw [he]; simp
            have M5 := Lib.hid (M4e.out.below (show Below w6.heap.size w6 w7 from by rw [hw7]; exact bel_drewN w6 q7))
            clear he hw7 HSM M4b M4c M4d M4e HB2 M4
            generalize w7 = W at *
            have HR := Lib.hid (HMEET.out _ _ _ _ BO'.out M5.out)
            go_wp2_with fail
            go_meet
            case rel => exact ⟨rfl, HR.out⟩
        · as_aux_lemma =>
            go_wp2_with fail
            obtain ⟨xr, o, m', ck', L', hs1, hs2, hbo', hol⟩ := BO.out.skip hk1000 xn xa
            have BO' := Lib.hid hbo'
            have HB2 := Lib.hid fun W a c (M : Mem w W [BlockA gB #[.int .u8 xk, .int .i64 xn, .int .i64 xi, .int .i64 xa, .int .i64 xe] 32, RefA pr ck L, BoardA pb m', IntsA a c o]) => M.call [BlockA gB #[.int .u8 xk, .int .i64 xn, .int .i64 xi, .int .i64 xa, .int .i64 xe] 32] (Q := fun e As => ∃ a c, e = .returned (.tuple #[.slice a o.length c, .int .i64 xr]) ∧ As = [RefA pr ck' L', IntsA a c o]) fun D h => rf_skip pr BO.out hk1000 hs2 W D h
            refine (M4.out.call [BlockA gB #[.int .u8 xk, .int .i64 xn, .int .i64 xi, .int .i64 xa, .int .i64 xe] 32, RefA pr ck L] fun D h => bd_skip' BO.out.ok hs1 h).mono ?_
            rintro e w5 ⟨As, ⟨a5, c5, rfl, rfl⟩, hm⟩
            have hm5 := (show Mem w w5 [BlockA gB #[.int .u8 xk, .int .i64 xn, .int .i64 xi, .int .i64 xa, .int .i64 xe] 32, RefA pr ck L, BoardA pb m', IntsA a5 c5 o] from hm)
            have M4b := Lib.hid hm5
            clear hbo' hs1 hs2 hm hm5 ac1 ac2 ac3 ac4
            obtain ⟨ac1, ac2, ac3, ac4⟩ := act_cells M4b.out
            go_wp2_with fail
            refine (HB2.out _ a5 c5 M4b.out).mono ?_
            rintro e w6 ⟨As2, ⟨a6, c6, rfl, rfl⟩, hm⟩
            have hm6 := (show Mem w w6 [BlockA gB #[.int .u8 xk, .int .i64 xn, .int .i64 xi, .int .i64 xa, .int .i64 xe] 32, RefA pr ck' L', IntsA a6 c6 o, BoardA pb m', IntsA a5 c5 o] from hm)
            have M4c := Lib.hid hm6
            clear hm hm6 ac1 ac2 ac3 ac4
            obtain ⟨E1, hE1⟩ := M4c.out.get [BlockA gB #[.int .u8 xk, .int .i64 xn, .int .i64 xi, .int .i64 xa, .int .i64 xe] 32, RefA pr ck' L'] (r := [BoardA pb m', IntsA a5 c5 o])
            obtain ⟨E2, hE2⟩ := M4c.out.get [BlockA gB #[.int .u8 xk, .int .i64 xn, .int .i64 xi, .int .i64 xa, .int .i64 xe] 32, RefA pr ck' L', IntsA a6 c6 o, BoardA pb m'] (r := [])
            have HSM := Lib.hid (same_any a5 a6 o.length c5 o.length c6 o o w6 hol rfl rfl (IntsAt.of_row hE2.2) (IntsAt.of_row hE1.2))
            have M4d := Lib.hid (show Mem w w6 [BlockA gB #[.int .u8 xk, .int .i64 xn, .int .i64 xi, .int .i64 xa, .int .i64 xe] 32, RefA pr ck' L', BoardA pb m', IntsA a5 c5 o] from M4c.out.drop [BlockA gB #[.int .u8 xk, .int .i64 xn, .int .i64 xi, .int .i64 xa, .int .i64 xe] 32, RefA pr ck' L'] (r := [BoardA pb m', IntsA a5 c5 o]))
            have M4e := Lib.hid (show Mem w w6 [BlockA gB #[.int .u8 xk, .int .i64 xn, .int .i64 xi, .int .i64 xa, .int .i64 xe] 32, RefA pr ck' L', BoardA pb m'] from M4d.out.drop [BlockA gB #[.int .u8 xk, .int .i64 xn, .int .i64 xi, .int .i64 xa, .int .i64 xe] 32, RefA pr ck' L', BoardA pb m'] (r := []))
            clear hE1 hE2
            go_wp2_with fail
            refine HSM.out.mono ?_
            rintro e w7 ⟨he, q7, hw7⟩
            obtain rfl : e = .returned (.bool true) := by rw [he]; simp
            have M5 := Lib.hid (M4e.out.below (show Below w6.heap.size w6 w7 from by rw [hw7]; exact bel_drewN w6 q7))
            clear he hw7 HSM M4b M4c M4d M4e HB2 M4
            generalize w7 = W at *
            have HR := Lib.hid (HMEET.out _ _ _ _ BO'.out M5.out)
            go_wp2_with fail
            go_meet
            case rel => exact ⟨rfl, HR.out⟩
        · as_aux_lemma =>
            go_wp2_with fail
            obtain ⟨xr, o, m', ck', L', hs1, hs2, hbo', hol⟩ := BO.out.skip hk1000 xn xa
            have BO' := Lib.hid hbo'
            have HB2 := Lib.hid fun W a c (M : Mem w W [BlockA gB #[.int .u8 xk, .int .i64 xn, .int .i64 xi, .int .i64 xa, .int .i64 xe] 32, RefA pr ck L, BoardA pb m', IntsA a c o]) => M.call [BlockA gB #[.int .u8 xk, .int .i64 xn, .int .i64 xi, .int .i64 xa, .int .i64 xe] 32] (Q := fun e As => ∃ a c, e = .returned (.tuple #[.slice a o.length c, .int .i64 xr]) ∧ As = [RefA pr ck' L', IntsA a c o]) fun D h => rf_skip pr BO.out hk1000 hs2 W D h
            refine (M4.out.call [BlockA gB #[.int .u8 xk, .int .i64 xn, .int .i64 xi, .int .i64 xa, .int .i64 xe] 32, RefA pr ck L] fun D h => bd_skip' BO.out.ok hs1 h).mono ?_
            rintro e w5 ⟨As, ⟨a5, c5, rfl, rfl⟩, hm⟩
            have hm5 := (show Mem w w5 [BlockA gB #[.int .u8 xk, .int .i64 xn, .int .i64 xi, .int .i64 xa, .int .i64 xe] 32, RefA pr ck L, BoardA pb m', IntsA a5 c5 o] from hm)
            have M4b := Lib.hid hm5
            clear hbo' hs1 hs2 hm hm5 ac1 ac2 ac3 ac4
            obtain ⟨ac1, ac2, ac3, ac4⟩ := act_cells M4b.out
            go_wp2_with fail
            refine (HB2.out _ a5 c5 M4b.out).mono ?_
            rintro e w6 ⟨As2, ⟨a6, c6, rfl, rfl⟩, hm⟩
            have hm6 := (show Mem w w6 [BlockA gB #[.int .u8 xk, .int .i64 xn, .int .i64 xi, .int .i64 xa, .int .i64 xe] 32, RefA pr ck' L', IntsA a6 c6 o, BoardA pb m', IntsA a5 c5 o] from hm)
            have M4c := Lib.hid hm6
            clear hm hm6 ac1 ac2 ac3 ac4
            obtain ⟨E1, hE1⟩ := M4c.out.get [BlockA gB #[.int .u8 xk, .int .i64 xn, .int .i64 xi, .int .i64 xa, .int .i64 xe] 32, RefA pr ck' L'] (r := [BoardA pb m', IntsA a5 c5 o])
            obtain ⟨E2, hE2⟩ := M4c.out.get [BlockA gB #[.int .u8 xk, .int .i64 xn, .int .i64 xi, .int .i64 xa, .int .i64 xe] 32, RefA pr ck' L', IntsA a6 c6 o, BoardA pb m'] (r := [])
            have HSM := Lib.hid (same_any a5 a6 o.length c5 o.length c6 o o w6 hol rfl rfl (IntsAt.of_row hE2.2) (IntsAt.of_row hE1.2))
            have M4d := Lib.hid (show Mem w w6 [BlockA gB #[.int .u8 xk, .int .i64 xn, .int .i64 xi, .int .i64 xa, .int .i64 xe] 32, RefA pr ck' L', BoardA pb m', IntsA a5 c5 o] from M4c.out.drop [BlockA gB #[.int .u8 xk, .int .i64 xn, .int .i64 xi, .int .i64 xa, .int .i64 xe] 32, RefA pr ck' L'] (r := [BoardA pb m', IntsA a5 c5 o]))
            have M4e := Lib.hid (show Mem w w6 [BlockA gB #[.int .u8 xk, .int .i64 xn, .int .i64 xi, .int .i64 xa, .int .i64 xe] 32, RefA pr ck' L', BoardA pb m'] from M4d.out.drop [BlockA gB #[.int .u8 xk, .int .i64 xn, .int .i64 xi, .int .i64 xa, .int .i64 xe] 32, RefA pr ck' L', BoardA pb m'] (r := []))
            clear hE1 hE2
            go_wp2_with fail
            refine HSM.out.mono ?_
            rintro e w7 ⟨he, q7, hw7⟩
            obtain rfl : e = .returned (.bool true) := by rw [he]; simp
            have M5 := Lib.hid (M4e.out.below (show Below w6.heap.size w6 w7 from by rw [hw7]; exact bel_drewN w6 q7))
            clear he hw7 HSM M4b M4c M4d M4e HB2 M4
            generalize w7 = W at *
            have HR := Lib.hid (HMEET.out _ _ _ _ BO'.out M5.out)
            go_wp2_with fail
            go_meet
            case rel => exact ⟨rfl, HR.out⟩
        · as_aux_lemma =>
            go_wp2_with fail
            obtain ⟨xr, m', L', hs1, hs2, hbo'⟩ := BO.out.crash xn
            have BO' := Lib.hid hbo'
            have HB1 := Lib.hid ((M4.out.below (bel_drew W0)).call [BlockA gB #[.int .u8 xk, .int .i64 xn, .int .i64 xi, .int .i64 xa, .int .i64 xe] 32, RefA pr ck L] fun D h => bd_crash' hs1 h)
            have HB2 := Lib.hid fun W (M : Mem w W [BlockA gB #[.int .u8 xk, .int .i64 xn, .int .i64 xi, .int .i64 xa, .int .i64 xe] 32, RefA pr ck L, BoardA pb m']) => M.call [BlockA gB #[.int .u8 xk, .int .i64 xn, .int .i64 xi, .int .i64 xa, .int .i64 xe] 32] (Q := ToR pr (.returned (.int .i64 xr)) ck L') fun D h => rf_crash' pr BO.out hk1000 hs2 W D h
            have sd := act_cells (M4.out.below (bel_drew W0))
            clear hbo' hs1 hs2
            go_region_held3 (fun w' => w'.cell? ⟨gB, 1, none⟩ = some (.int .i64 xn) ∧ w'.cell? ⟨gB, 2, none⟩ = some (.int .i64 xi) ∧ w'.cell? ⟨gB, 3, none⟩ = some (.int .i64 xa) ∧ w'.cell? ⟨gB, 4, none⟩ = some (.int .i64 xe)) (first | assumption | exact act_cells (by assumption))
              (first
                | ((go_at_call 16; refine HB1.out.mono ?_; rintro e w5 ⟨As, ⟨rfl, rfl⟩, hm⟩; have hm5 := (show Mem w w5 [BlockA gB #[.int .u8 xk, .int .i64 xn, .int .i64 xi, .int .i64 xa, .int .i64 xe] 32, RefA pr ck L, BoardA pb m'] from hm); clear hm))
                | ((go_at_call 17; refine (HB2.out _ hm5).mono ?_; rintro e w6 ⟨As2, ⟨rfl, rfl⟩, hm⟩; have hm6 := (show Mem w w6 [BlockA gB #[.int .u8 xk, .int .i64 xn, .int .i64 xi, .int .i64 xa, .int .i64 xe] 32, RefA pr ck L', BoardA pb m'] from hm); clear hm)))
            have M5 := Lib.hid hm6
            clear hm5 hm6 HB1 HB2 sd ac1 ac2 ac3 ac4 M4
            generalize w6 = W at *
            have HR := Lib.hid (HMEET.out _ _ _ _ BO'.out M5.out)
            go_wp2_with fail
            go_meet
            case rel => exact ⟨rfl, HR.out⟩
      case rest =>
        as_aux_lemma =>
          obtain ⟨rfl, hcu⟩ := hcut
          obtain ⟨m', ck', L', hb', hm'⟩ := hcu.out
          have BO' := Lib.hid hb'
          have M5 := Lib.hid hm'
          clear hb' hm' hcu M4 BO h7
          generalize wc = W at *
          have hfew := BO'.out.few
          have HNX := Lib.hid (plays_next BO'.out.pr BO'.out.ok xn (by rw [BO'.out.len]; exact BO'.out.rng))
          have HID := Lib.hid (plays_ids BO'.out.pr xn (by rw [BO'.out.len]; exact BO'.out.rng))
          have HCL := Lib.hid (plays_clock BO'.out.pr xn)
          obtain ⟨nd, ns, hnp⟩ : ∃ nd ns, rNext L' xn = (nd, ns) := ⟨_, _, rfl⟩
          have HNP := Lib.hid hnp
          clear hnp
          obtain ⟨D1, hD1⟩ := M5.out.get [BlockA gB #[.int .u8 xk, .int .i64 xn, .int .i64 xi, .int .i64 xa, .int .i64 xe] 32, RefA pr ck' L'] (r := [])
          obtain ⟨D2, hD2⟩ := M5.out.get [BlockA gB #[.int .u8 xk, .int .i64 xn, .int .i64 xi, .int .i64 xa, .int .i64 xe] 32] (r := [BoardA pb m'])
          have HN1 := Lib.hid (bd_next' (x := nd) (y := ns) (by rw [HNX.out, HNP.out]) hD1)
          have HN2 := Lib.hid (rf_next pr ck' L' xn W D2 hD2 (by omega))
          rw [HNP.out] at HN2
          clear hD1 hD2
          obtain ⟨ac1, ac2, ac3, ac4⟩ := act_cells M5.out
          go_wp2_with fail
          refine HN1.out.mono ?_
          rintro e _ ⟨rfl, rfl⟩
          go_wp2_with fail
          refine HN2.out.mono ?_
          rintro e W7 ⟨rfl, hb7⟩
          have M6 := Lib.hid (M5.out.below hb7)
          clear hb7 HN1 HN2 ac1 ac2 ac3 ac4 M5
          obtain ⟨ac1, ac2, ac3, ac4⟩ := act_cells M6.out
          by_cases hI : rIs ck' xn = true
          · have hIr := of_decide_eq_true hI
            rw [BO'.out.len] at hIr
            obtain ⟨j, rfl⟩ := Int.eq_ofNat_of_zero_le hIr.1
            have hjl : (j : Int) < (N : Int) := hIr.2
            have hjz : (0 : Int) ≤ (j : Int) := hIr.1
            have bz : decide ((0 : Int) ≤ (j : Int)) = true := decide_eq_true hjz
            have bl : decide ((j : Int) < (N : Int)) = true := decide_eq_true hjl
            have hjN : j < N := by omega
            have hjc : j < ck'.length := by rw [BO'.out.len]; omega
            obtain ⟨D3, gc, ra, rc, _, hrf⟩ := M6.out.get [BlockA gB #[.int .u8 xk, .int .i64 (j : Int), .int .i64 xi, .int .i64 xa, .int .i64 xe] 32] (r := [BoardA pb m'])
            have hp0 := hrf.cell0
            have hg0 := (hrf.clk j hjc).1
            rw [BO'.out.len] at hp0
            have HCV : Hid (mClock m' (j : Int) = ck'[j]) := Lib.hid (by rw [HCL.out, hI]; simp [List.getD, hjc])
            clear hrf hIr hI HCL
            generalize ck'[j] = cv at *
            go_wp2_with fail
            go_quiet (fail)
            have M7 := Lib.hid (M6.out.below (bel_drewN W7 nq))
            clear M6 hp0 hg0 ac1 ac2 ac3 ac4
            generalize W7.drewN nq = W8 at *
            have hil : (rIds L' (j : Int)).length ≤ 1000000 := by
              have h1 : (rIds L' (j : Int)).length ≤ L'.length := by unfold rIds; rw [List.length_map]; exact List.length_filter_le _ _
              have := BO'.out.few
              omega
            have M8 := Lib.hid (M7.out.below (bel_drew W8))
            obtain ⟨D4, hD4⟩ := M8.out.get [BlockA gB #[.int .u8 xk, .int .i64 (j : Int), .int .i64 xi, .int .i64 xa, .int .i64 xe] 32, RefA pr ck' L'] (r := [])
            have HT1 := Lib.hid (bd_timers' BO'.out.ok HID.out hD4)
            have HT2 := Lib.hid fun W (M : Mem w W [BlockA gB #[.int .u8 xk, .int .i64 (j : Int), .int .i64 xi, .int .i64 xa, .int .i64 xe] 32, RefA pr ck' L', BoardA pb m']) => rf_timers pr ck' L' (j : Int) W _ (M.get [BlockA gB #[.int .u8 xk, .int .i64 (j : Int), .int .i64 xi, .int .i64 xa, .int .i64 xe] 32] (r := [BoardA pb m'])).choose_spec (by omega)
            have HT3 := Lib.hid fun W (M : Mem w W [BlockA gB #[.int .u8 xk, .int .i64 (j : Int), .int .i64 xi, .int .i64 xa, .int .i64 xe] 32, RefA pr ck' L', BoardA pb m']) => bd_clock' (x := cv) HCV.out (M.get [BlockA gB #[.int .u8 xk, .int .i64 (j : Int), .int .i64 xi, .int .i64 xa, .int .i64 xe] 32, RefA pr ck' L'] (r := [])).choose_spec
            have sd := act_cells M8.out
            clear hD4
            generalize rIds L' (j : Int) = ids at *
            go_wp2_with fail
            go_region_held3 (fun w' => w'.cell? ⟨gB, 1, none⟩ = some (.int .i64 (j : Int)) ∧ w'.cell? ⟨gB, 2, none⟩ = some (.int .i64 xi) ∧ w'.cell? ⟨gB, 3, none⟩ = some (.int .i64 xa) ∧ w'.cell? ⟨gB, 4, none⟩ = some (.int .i64 xe)) (first | assumption | exact act_cells (by assumption))
              (first
                | ((go_at_call 20; refine HT1.out.mono ?_; rintro e w9 ⟨a9, c9, rfl, hi9, hb9⟩; have hm9 := M8.out.below hb9; clear hb9))
                | ((go_at_call 21; refine (HT2.out _ hm9).mono ?_; rintro e w10 ⟨a10, c10, rfl, hi10, hb10⟩; have hm10 := hm9.below hb10; have hj9 := hi9.below hb10; clear hb10))
                | ((go_at_call 14; refine (same_any a9 a10 ids.length c9 ids.length c10 ids ids _ hil rfl rfl hj9 hi10).mono ?_; rintro e w11 ⟨he, q11, hw11⟩; have he2 := he.trans (show _ = Ending.returned (.bool true) from by simp); subst he2; have hm11 := hm10.below (show Below w10.heap.size w10 w11 from by rw [hw11]; exact bel_drewN w10 q11); clear he hw11))
                | ((go_at_call 22; refine (HT3.out _ hm11).mono ?_; rintro e w12 ⟨rfl, rfl⟩)))
            have M9 := Lib.hid (show Mem w _ [RefA pr ck' L', BoardA pb m'] from (show Mem w _ ([] ++ BlockA gB #[.int .u8 xk, .int .i64 (j : Int), .int .i64 xi, .int .i64 xa, .int .i64 xe] 32 :: [RefA pr ck' L', BoardA pb m']) from hm11).drop [])
            clear hm9 hm10 hm11 hi9 hi10 hj9 sd
            go_wp2_with fail
            go_roundw
            case rel => exact ⟨k + 1, by omega, by go_num, Lib.hid ⟨m', ck', L', BO'.out, M9.out⟩⟩
            case measure => simp [intOf]; omega
          · have hI' : rIs ck' xn = false := by simpa using hI
            have hIr : ¬ (0 ≤ xn ∧ xn < (N : Int)) := by have := of_decide_eq_false hI'; rw [BO'.out.len] at this; exact this
            have HCV : Hid (mClock m' xn = 0) := Lib.hid (by rw [HCL.out, hI']; rfl)
            have M7 := M6
            clear hI hI' HCL M6
            generalize W7 = W8 at *
            have hor : decide (0 ≤ xn) = false ∨ (decide (0 ≤ xn) = true ∧ decide (xn < (N : Int)) = false) := by
              by_cases h0 : 0 ≤ xn
              · exact .inr ⟨decide_eq_true h0, decide_eq_false fun h => hIr ⟨h0, h⟩⟩
              · exact .inl (decide_eq_false h0)
            clear hIr
            rcases hor with hz | ⟨hz, hz2⟩
            all_goals
              have hil : (rIds L' xn).length ≤ 1000000 := by
                have h1 : (rIds L' xn).length ≤ L'.length := by unfold rIds; rw [List.length_map]; exact List.length_filter_le _ _
                have := BO'.out.few
                omega
              have M8 := Lib.hid (M7.out.below (bel_drew W8))
              obtain ⟨D4, hD4⟩ := M8.out.get [BlockA gB #[.int .u8 xk, .int .i64 xn, .int .i64 xi, .int .i64 xa, .int .i64 xe] 32, RefA pr ck' L'] (r := [])
              have HT1 := Lib.hid (bd_timers' BO'.out.ok HID.out hD4)
              have HT2 := Lib.hid fun W (M : Mem w W [BlockA gB #[.int .u8 xk, .int .i64 xn, .int .i64 xi, .int .i64 xa, .int .i64 xe] 32, RefA pr ck' L', BoardA pb m']) => rf_timers pr ck' L' xn W _ (M.get [BlockA gB #[.int .u8 xk, .int .i64 xn, .int .i64 xi, .int .i64 xa, .int .i64 xe] 32] (r := [BoardA pb m'])).choose_spec (by omega)
              have HT3 := Lib.hid fun W (M : Mem w W [BlockA gB #[.int .u8 xk, .int .i64 xn, .int .i64 xi, .int .i64 xa, .int .i64 xe] 32, RefA pr ck' L', BoardA pb m']) => bd_clock' (x := 0) HCV.out (M.get [BlockA gB #[.int .u8 xk, .int .i64 xn, .int .i64 xi, .int .i64 xa, .int .i64 xe] 32, RefA pr ck' L'] (r := [])).choose_spec
              have sd := act_cells M8.out
              clear hD4
              generalize rIds L' xn = ids at *
              go_wp2_with fail
              go_region_held3 (fun w' => w'.cell? ⟨gB, 1, none⟩ = some (.int .i64 xn) ∧ w'.cell? ⟨gB, 2, none⟩ = some (.int .i64 xi) ∧ w'.cell? ⟨gB, 3, none⟩ = some (.int .i64 xa) ∧ w'.cell? ⟨gB, 4, none⟩ = some (.int .i64 xe)) (first | assumption | exact act_cells (by assumption))
                (first
                  | ((go_at_call 20; refine HT1.out.mono ?_; rintro e w9 ⟨a9, c9, rfl, hi9, hb9⟩; have hm9 := M8.out.below hb9; clear hb9))
                  | ((go_at_call 21; refine (HT2.out _ hm9).mono ?_; rintro e w10 ⟨a10, c10, rfl, hi10, hb10⟩; have hm10 := hm9.below hb10; have hj9 := hi9.below hb10; clear hb10))
                  | ((go_at_call 14; refine (same_any a9 a10 ids.length c9 ids.length c10 ids ids _ hil rfl rfl hj9 hi10).mono ?_; rintro e w11 ⟨he, q11, hw11⟩; have he2 := he.trans (show _ = Ending.returned (.bool true) from by simp); subst he2; have hm11 := hm10.below (show Below w10.heap.size w10 w11 from by rw [hw11]; exact bel_drewN w10 q11); clear he hw11))
                  | ((go_at_call 22; refine (HT3.out _ hm11).mono ?_; rintro e w12 ⟨rfl, rfl⟩)))
              have M9 := Lib.hid (show Mem w _ [RefA pr ck' L', BoardA pb m'] from (show Mem w _ ([] ++ BlockA gB #[.int .u8 xk, .int .i64 xn, .int .i64 xi, .int .i64 xa, .int .i64 xe] 32 :: [RefA pr ck' L', BoardA pb m']) from hm11).drop [])
              clear hm9 hm10 hm11 hi9 hi10 hj9 sd
              go_wp2_with fail
              go_roundw
              case rel => exact ⟨k + 1, by omega, by go_num, Lib.hid ⟨m', ck', L', BO'.out, M9.out⟩⟩
              case measure => simp [intOf]; omega
    · obtain rfl : k = n := by omega
      have HB := Lib.hid M3.out.bel
      go_wp2_with fail
      go_ret
      exact ⟨rfl, HB.out⟩
end Go.Proofs.Ytcolaafgjlaikaa
