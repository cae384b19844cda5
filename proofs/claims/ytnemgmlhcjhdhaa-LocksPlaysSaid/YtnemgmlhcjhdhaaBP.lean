/- LocksPlays walked. -/
import Derived.Test.YtnemgmlhcjhdhaaBN
import Derived.Test.YtnemgmlhcjhdhaaAL
import Derived.Deep.RegionHeld3
import Derived.Deep.Cut
import Derived.Deep.CutRange
namespace Go.Proofs.Ytnemgmlhcjhdhaa
open Go.RowKit Go.Sort
theorem askR_len (l : List Wn) (o : Int) (k : ByteArray) (m : Int) : (askR l o k m).2.length ≤ l.length + 1 := by
  have hq : atR l o k ≤ l.length := by unfold atR; split; exact posBy_le _ _; exact Nat.le_refl _
  have hA : (askedR l o k m).length = l.length + 1 := by
    unfold askedR
    rw [List.length_append, List.length_cons, List.length_take, List.length_drop]
    omega
  have h := (letR_len k (l.length + 1) (askedR l o k m)).1
  unfold askR
  split
  · exact Nat.le_succ _
  · split
    · exact Nat.le_succ _
    · split
      · exact Nat.le_succ _
      · show (letR k (l.length + 1) (askedR l o k m)).2.length ≤ _
        omega
theorem leaveR_len (l : List Wn) (o : Int) : (leaveR l o).2.length ≤ l.length := by
  have h := (letsR_len (outR l o) l _ (Nat.le_refl _)).1
  have h2 : (outR l o).length ≤ l.length := List.length_filter_le _ _
  unfold leaveR
  omega
theorem ref_new {w0 w : World} {D0 : List Nat} {r : List Asn} [Stables r] (h : Mem w0 D0 w r) : Mem w0 D0 (w.alloc (.cells #[.slice none 0 0] 55)) (RefA w.heap.size [] :: r) :=
  h.new (bel_new w _) (As := [RefA w.heap.size []]) (D' := [w.heap.size]) (all_one ⟨none, 0, 0, [w.heap.size], [], by simp, by simp, ⟨rfl, heap_new w _⟩, [], [], rfl, by simp, ⟨rfl, Row.nil _ _ _⟩, rfl⟩) (by simp)
/-- the table and the row stand for one another. -/
def PHead (w : World) (p q N : Nat) (wr : World) : Prop := ∃ L V, LOk L ∧ Sm N L ∧ RInv L V ∧ V.length ≤ N ∧ Mem w [] wr [TabA p L, RefA q V]
def PMid (w : World) (p q N b13 : Nat) (xo : Int) (xk : ByteArray) (xm : Int) (xl : Bool) (wr : World) : Prop := ∃ L V, LOk L ∧ Sm N L ∧ RInv L V ∧ V.length ≤ N ∧ Mem w [] wr [TabA p L, RefA q V, BlockA b13 #[.int .i64 xo, .string xk, .int .i64 xm, .bool xl] 28]
set_option maxRecDepth 100000 in
set_option maxHeartbeats 16000000 in
theorem plays_any (a : Option Addr) (n c : Nat) (l : List Ac) (w : World) (hn : n ≤ maxLen) (h : ActsAt w a n l) :
    Calls Try.prog 8 #[.slice a n c] w (fun e w' => e = .returned (.bool true) ∧ Below w.heap.size w w') := by
  have HA := Lib.hid h
  have HFX := Lib.hid fixed_any
  have HFW := Lib.hid fun W (hb : Below w.heap.size w W) => few_any a n c l W hn (h.below hb)
  have HNW := Lib.hid tab_new
  have HNL := Lib.hid h.1
  unfold maxLen at hn
  clear h
  go_enter Try.func8, Try.ntmps8
  go_wp2_with fail
  refine (HFX.out w).mono ?_
  rintro e w1 ⟨rfl, hb⟩
  have HB := Lib.hid hb
  clear hb
  go_wp2_with fail
  refine (HFW.out _ HB.out).mono ?_
  rintro e w2 ⟨rfl, hb⟩
  have HB2 := Lib.hid (HB.out.trans (hb.mono HB.out.size))
  clear hb HFX HFW HB
  cases hfw : fewA l with
  | false =>
    clear hfw
    go_wp2_with fail
    go_ret
    exact ⟨rfl, HB2.out⟩
  | true =>
    have hn60 : n ≤ 60 := by rw [HNL.out]; exact few_len hfw
    clear hfw
    go_wp2_with fail
    refine (HNW.out w2).mono ?_
    rintro e w3 ⟨p, rfl, hA, hf, hb⟩
    have HI0 : Hid (PHead w p w3.heap.size 0 (w3.alloc (.cells #[.slice none 0 0] 55))) := Lib.hid ⟨[], [], LOk.nil, Sm.nil, RInv.nil, Nat.le_refl _, Mem.swap [] (r := []) (ref_new (((Mem.nil w).below HB2.out).new hb hA hf))⟩
    clear hA hf hb HB2 HNW
    go_wp2_with fail
    obtain ⟨w4, hw4⟩ : ∃ w4, w4 = w3.alloc (.cells #[.slice none 0 0] 55) := ⟨_, rfl⟩
    rw [← hw4] at HI0 ⊢
    clear hw4
    generalize w3.heap.size = q at *
    go_loopw [19] (fun j wr => ∃ k : Nat, k ≤ n ∧ j = .int .i64 k ∧ Hid (PHead w p q k wr)) (fun j _ => n - (intOf j).toNat)
    case atStart => exact ⟨0, Nat.zero_le _, rfl, HI0⟩
    case round =>
      obtain ⟨W0, rfl⟩ : ∃ W0, W0 = wr := ⟨_, rfl⟩
      obtain ⟨k, hk, rfl, hS⟩ := hrel
      clear HI0
      obtain ⟨L, V, hok, hsm, hri, hvl, hmem⟩ := hS.out
      clear hS
      by_cases hlt : k < n
      · have hmem' := hmem
        obtain ⟨g, off, rfl, ⟨hx0, hx1, hx2, hx3⟩, r0, r1, r2, r3, r4⟩ := (HA.out.below hmem.bel).2 k (by rw [← HA.out.1]; exact hlt)
        generalize l[k]'(by rw [← HA.out.1]; exact hlt) = x at *
        obtain ⟨xo, xk, xm, xl⟩ := x
        simp only at hx0 hx1 hx2 hx3
        have hm8 := (hmem.block #[.int .i64 xo, .string xk, .int .i64 xm, .bool xl] 28).perm (l' := [TabA p L, RefA q V, BlockA W0.heap.size #[.int .i64 xo, .string xk, .int .i64 xm, .bool xl] 28]) (perm_ct fun x => by simp only [cnt_cons, cnt_nil]; omega)
        have M8 := Lib.hid hm8
        have OK := Lib.hid hok
        have SM := Lib.hid hsm
        have RI := Lib.hid hri
        have VL := Lib.hid hvl
        clear hm8 hok hsm hri hvl hmem hmem' r0 r1 r2 r3 r4
        go_upto_if 24 with (fail)
        obtain ⟨w8, hw8⟩ : ∃ w8, w8 = W0.alloc (.cells #[.int .i64 xo, .string xk, .int .i64 xm, .bool xl] 28) := ⟨_, rfl⟩
        rw [← hw8] at M8 ⊢
        clear hw8 hx0 hx1 hx2 hx3
        generalize W0.heap.size = b13 at *
        have K8 : Hid (∀ W l, Mem w [] W l → BlockA b13 #[.int .i64 xo, .string xk, .int .i64 xm, .bool xl] 28 ∈ l → W.cell? ⟨b13, 0, none⟩ = some (.int .i64 xo) ∧ W.cell? ⟨b13, 1, none⟩ = some (.string xk) ∧ W.cell? ⟨b13, 2, none⟩ = some (.int .i64 xm) ∧ W.cell? ⟨b13, 3, none⟩ = some (.bool xl)) := Lib.hid fun W l h h7 => ⟨(cell_of_heap (Mem.blk h h7) rfl).1, (cell_of_heap (Mem.blk h h7) rfl).1, (cell_of_heap (Mem.blk h h7) rfl).1, (cell_of_heap (Mem.blk h h7) rfl).1⟩
        go_cut [] from 25 to 51 (fun wx => Hid (PMid w p q (k + 1) b13 xo xk xm xl wx))
        case first =>
          have m0 := M8.out.below (bel_drew w8)
          cases xl with
          | true =>
            have HC := Lib.hid fun W r (_ : Stables r) (hW : Mem w [] W (TabA p L :: r)) => mem_tleave hW OK.out (SM.out.mono (by omega)) xo
            have HR := Lib.hid fun W r (_ : Stables r) (hW : Mem w [] W (RefA q V :: r)) => mem_rleave hW (by have := VL.out; omega) xo
            have hlr := leave_row RI.out OK.out xo
            rw [rise_ext hlr.1] at HR
            have OK2 := Lib.hid (OK.out.leave xo)
            have SM2 := Lib.hid (SM.out.leave xo)
            have RI2 := Lib.hid hlr.2
            have VL2 := Lib.hid (Nat.le_trans (leaveR_len V xo) VL.out)
            have hIn : (riseI (leaveL L xo).1).length ≤ 1000000 := by
              have h1 := Lib.compact_length_le (sortI (leaveL L xo).1)
              rw [sortI_len] at h1
              have h2 := midI_len (SM.out.mono (by omega : k ≤ 400)) xo L.length
              rw [show midI L xo L.length = (leaveL L xo).1 by unfold midI leaveL; rw [List.take_length]] at h2
              have h3 : L.length * 400 ≤ 120 * 400 := Nat.mul_le_mul (by have := SM.out.1; omega) (Nat.le_refl _)
              unfold riseI
              omega
            clear hlr
            generalize (leaveL L xo).2 = L2 at *
            generalize riseI (leaveL L xo).1 = I at *
            generalize (leaveR V xo).2 = V2 at *
            have HFIN : Hid (∀ W, Mem w [] W [TabA p L2, RefA q V2, BlockA b13 #[.int .i64 xo, .string xk, .int .i64 xm, .bool true] 28] → PMid w p q (k + 1) b13 xo xk xm true W) := Lib.hid fun W hW => ⟨L2, V2, OK2.out, SM2.out.mono (by omega), RI2.out, by have := VL2.out; omega, hW⟩
            have HSI := Lib.hid fun W a1 c1 a2 c2 r (_ : Stables r) (hW : Mem w [] W (RowI a2 c2 I :: RowI a1 c1 I :: r)) => same_i a1 a2 I.length I.length c1 c2 I W (IntsAt.row (Mem.rowAt [RowI a2 c2 I] hW)) (IntsAt.row (Mem.rowAt [] hW)) hIn
            clear OK SM RI VL OK2 SM2 RI2 VL2 HA hIn
            go_wp2_with fail
            clear M8
            obtain ⟨z0, z1, z2, z3⟩ := K8.out _ _ m0 (by simp)
            go_region_held3 (fun W => W.cell? ⟨b13, 0, none⟩ = some (.int .i64 xo)) (first | exact (K8.out _ _ (by assumption) (by simp)).1)
              (first
                | ((go_at_call 19; refine (HC.out _ _ inferInstance m0).mono ?_; rintro e w9 ⟨a9, c9, rfl, m1⟩; have m2 := Mem.perm m1 (l' := [RefA q V, RowI a9 c9 I, TabA p L2, BlockA b13 #[.int .i64 xo, .string xk, .int .i64 xm, .bool true] 28]) (perm_ct fun x => by simp only [cnt_cons, cnt_nil]; omega); clear m0))
                | ((go_at_call 26; refine (HR.out _ _ inferInstance m2).mono ?_; rintro e w10 ⟨a10, c10, rfl, m3⟩; have m4 := Mem.perm m3 (l' := [RowI a10 c10 I, RowI a9 c9 I, TabA p L2, RefA q V2, BlockA b13 #[.int .i64 xo, .string xk, .int .i64 xm, .bool true] 28]) (perm_ct fun x => by simp only [cnt_cons, cnt_nil]; omega); clear m1 m2 m3))
                | ((go_at_call 18; refine (HSI.out _ a9 c9 a10 c10 _ inferInstance m4).mono ?_; rintro e w11 ⟨rfl, hb⟩; have m5 := cutRef (Mem.below m4 hb); clear hb m4))
                | (fail "none"))
            all_goals
              have HF := Lib.hid (HFIN.out _ m5)
              clear m5 K8 HC HR HSI HFIN
              go_wp2_with fail
              go_meet
              case rel => exact HF
          | false =>
            obtain ⟨y, L2, he⟩ : ∃ y L2, askL L xo xk xm = (y, L2) := ⟨_, _, rfl⟩
            have HC := Lib.hid fun W r (_ : Stables r) (hW : Mem w [] W (TabA p L :: r)) => mem_task hW OK.out (SM.out.mono (by omega)) he
            have HR := Lib.hid fun W r (_ : Stables r) (hW : Mem w [] W (RefA q V :: r)) => mem_rask hW (by have := VL.out; omega) xo xk xm
            have har := ask_row RI.out OK.out xo xk xm
            rw [har.1] at HR
            have RI2 := har.2
            have OK2 := OK.out.ask xo xk xm
            have SM2 := SM.out.ask xo xk xm
            rw [he] at OK2 SM2 RI2 HR
            have VL2 : (askR V xo xk xm).2.length ≤ k + 1 := Nat.le_trans (askR_len V xo xk xm) (Nat.succ_le_succ VL.out)
            clear har
            generalize (askR V xo xk xm).2 = V2 at *
            have HFIN : Hid (∀ W, Mem w [] W [TabA p L2, RefA q V2, BlockA b13 #[.int .i64 xo, .string xk, .int .i64 xm, .bool false] 28] → PMid w p q (k + 1) b13 xo xk xm false W) := Lib.hid fun W hW => ⟨L2, V2, OK2, SM2, RI2, VL2, hW⟩
            clear OK SM RI VL OK2 SM2 RI2 VL2 HA he
            go_wp2_with fail
            clear M8
            obtain ⟨z0, z1, z2, z3⟩ := K8.out _ _ m0 (by simp)
            go_region_held3 (fun W => W.cell? ⟨b13, 0, none⟩ = some (.int .i64 xo) ∧ W.cell? ⟨b13, 1, none⟩ = some (.string xk) ∧ W.cell? ⟨b13, 2, none⟩ = some (.int .i64 xm)) (first | exact (fun h => ⟨h.1, h.2.1, h.2.2.1⟩) (K8.out _ _ (by assumption) (by simp)))
              (first
                | ((go_at_call 20; refine (HC.out _ _ inferInstance m0).mono ?_; rintro e w9 ⟨rfl, m1⟩; have m2 := Mem.swap [] (r := [BlockA b13 #[.int .i64 xo, .string xk, .int .i64 xm, .bool false] 28]) m1; clear m0))
                | ((go_at_call 27; refine (HR.out _ _ inferInstance m2).mono ?_; rintro e w10 ⟨rfl, m3⟩; have m4 := Mem.swap [] (r := [BlockA b13 #[.int .i64 xo, .string xk, .int .i64 xm, .bool false] 28]) m3; clear m1 m2 m3))
                | (fail "none"))
            all_goals
              have HF := Lib.hid (HFIN.out _ m4)
              clear m4 K8 HC HR HFIN
              go_wp2_with fail
              go_meet
              case rel => exact HF
        case rest =>
          clear M8 OK SM RI VL
          obtain ⟨L2, V2, hok, hsm, hri, hvl, hmem⟩ := hcut.out
          clear hcut
          have HAL := Lib.hid (alike_any hmem hri hok (hsm.mono (by omega)) (by omega) ⟨xo, xk, xm, xl⟩)
          have HTK := Lib.hid fun W r (_ : Stables r) (hW : Mem w [] W (TabA p L2 :: r)) => mem_tkeys hW (hsm.mono (by omega))
          have HTO := Lib.hid fun W r (_ : Stables r) (hW : Mem w [] W (TabA p L2 :: r)) => mem_towners hW (hsm.mono (by omega))
          have HRK := Lib.hid fun W r (_ : Stables r) (hW : Mem w [] W (RefA q V2 :: r)) => mem_rkeys hW (by omega)
          have HRO := Lib.hid fun W r (_ : Stables r) (hW : Mem w [] W (RefA q V2 :: r)) => mem_rowners hW (by omega)
          have hkr := keys_row hri hok
          have hor := owners_row hri hok
          have hKL : (L2.map (·.key)).length ≤ 1000000 := by have := hsm.1; rw [List.length_map]; omega
          have hOL : (riseI (ownsL L2)).length ≤ 1000000 := by
            rw [← hor]
            have h1 := Lib.compact_length_le (sortI (V2.map (·.owner)))
            rw [sortI_len, List.length_map] at h1
            unfold riseI
            omega
          rw [hkr] at HRK
          rw [hor] at HRO
          have HFIN : Hid (∀ W, Mem w [] W [TabA p L2, RefA q V2] → PHead w p q (k + 1) W) := Lib.hid fun W hW => ⟨L2, V2, hok, hsm, hri, hvl, hW⟩
          have hb5 := K8.out _ _ hmem (by simp)
          obtain ⟨z0, z1, z2, z3⟩ := hb5
          clear hok hsm hri hvl hmem hkr hor
          generalize L2.map (·.key) = KS at *
          generalize riseI (ownsL L2) = OS at *
          have HSS := Lib.hid fun W a1 c1 a2 c2 r (_ : Stables r) (hW : Mem w [] W (RowS a2 c2 KS :: RowS a1 c1 KS :: r)) => same_s a1 a2 KS.length KS.length c1 c2 KS W rfl rfl (Mem.rowAt [RowS a2 c2 KS] hW) (Mem.rowAt [] hW) hKL
          have HSI := Lib.hid fun W a1 c1 a2 c2 r (_ : Stables r) (hW : Mem w [] W (RowI a2 c2 OS :: RowI a1 c1 OS :: r)) => same_i a1 a2 OS.length OS.length c1 c2 OS W (IntsAt.row (Mem.rowAt [RowI a2 c2 OS] hW)) (IntsAt.row (Mem.rowAt [] hW)) hOL
          clear hKL hOL K8
          go_wp2_with fail
          refine HAL.out.mono ?_
          rintro e w9 ⟨rfl, m0⟩
          have H1 := Lib.hid (HTK.out _ _ inferInstance m0)
          clear m0 HAL z0 z1 z2 z3 HTK
          go_wp2_with fail
          refine H1.out.mono ?_
          rintro e w10 ⟨a1, c1, rfl, m1⟩
          have H2 := Lib.hid (HRK.out _ _ inferInstance (Mem.perm m1 (l' := [RefA q V2, RowS a1 c1 KS, TabA p L2, BlockA b13 #[.int .i64 xo, .string xk, .int .i64 xm, .bool xl] 28]) (perm_ct fun x => by simp only [cnt_cons, cnt_nil]; omega)))
          clear m1 H1 HRK
          go_wp2_with fail
          refine H2.out.mono ?_
          rintro e w11 ⟨a2, c2, rfl, m2⟩
          have M3 := Lib.hid (Mem.perm m2 (l' := [RowS a2 c2 KS, RowS a1 c1 KS, TabA p L2, RefA q V2, BlockA b13 #[.int .i64 xo, .string xk, .int .i64 xm, .bool xl] 28]) (perm_ct fun x => by simp only [cnt_cons, cnt_nil]; omega))
          have H3 := Lib.hid (HSS.out _ a1 c1 a2 c2 _ inferInstance M3.out)
          clear m2 H2 HSS
          go_wp2_with fail
          refine H3.out.mono ?_
          rintro e w12 ⟨rfl, hb⟩
          have H4 := Lib.hid (HTO.out _ _ inferInstance (cutRef (M3.out.below hb)))
          clear hb H3 M3 HTO
          go_wp2_with fail
          refine H4.out.mono ?_
          rintro e w13 ⟨a3, c3, rfl, m4⟩
          have H5 := Lib.hid (HRO.out _ _ inferInstance (Mem.perm m4 (l' := [RefA q V2, RowI a3 c3 OS, TabA p L2, BlockA b13 #[.int .i64 xo, .string xk, .int .i64 xm, .bool xl] 28]) (perm_ct fun x => by simp only [cnt_cons, cnt_nil]; omega)))
          clear m4 H4 HRO
          go_wp2_with fail
          refine H5.out.mono ?_
          rintro e w14 ⟨a4, c4, rfl, m5⟩
          have M6 := Lib.hid (Mem.perm m5 (l' := [RowI a4 c4 OS, RowI a3 c3 OS, TabA p L2, RefA q V2, BlockA b13 #[.int .i64 xo, .string xk, .int .i64 xm, .bool xl] 28]) (perm_ct fun x => by simp only [cnt_cons, cnt_nil]; omega))
          have H6 := Lib.hid (HSI.out _ a3 c3 a4 c4 _ inferInstance M6.out)
          clear m5 H5 HSI
          go_wp2_with fail
          refine H6.out.mono ?_
          rintro e w15 ⟨rfl, hb⟩
          have HF := Lib.hid (HFIN.out _ (Mem.drop [TabA p L2, RefA q V2] (r := []) (cutRef (M6.out.below hb))))
          clear hb H6 M6 HFIN
          go_wp2_with fail
          go_roundw
          case rel => exact ⟨k + 1, by omega, by go_num, HF⟩
          case measure => simp [intOf]; omega
      · obtain rfl : k = n := by omega
        have HI2 : Hid (PHead w p q k W0) := Lib.hid ⟨L, V, hok, hsm, hri, hvl, hmem⟩
        clear hok hsm hri hvl hmem
        go_wp2_with fail
        go_loopw [76] (fun j wr => ∃ i : Nat, i ≤ k ∧ j = .int .i64 i ∧ Hid (PHead w p q k wr)) (fun j _ => k - (intOf j).toNat)
        case atStart => exact ⟨0, Nat.zero_le _, rfl, HI2⟩
        case round =>
          obtain ⟨W1, rfl⟩ : ∃ W1, W1 = wr := ⟨_, rfl⟩
          obtain ⟨i, hik, rfl, hS⟩ := hrel
          clear HI2
          obtain ⟨L, V, hok, hsm, hri, hvl, hmem⟩ := hS.out
          clear hS
          by_cases hlt : i < k
          · obtain ⟨g, off, rfl, ⟨hx0, hx1, hx2, hx3⟩, r0, r1, r2, r3, r4⟩ := (HA.out.below hmem.bel).2 i (by rw [← HA.out.1]; exact hlt)
            generalize l[i]'(by rw [← HA.out.1]; exact hlt) = x at *
            obtain ⟨xo, xk, xm, xl⟩ := x
            simp only at hx0 hx1 hx2 hx3
            have HAL := Lib.hid (alike_any ((hmem.block #[.int .i64 xo, .string xk, .int .i64 xm, .bool xl] 28).perm (l' := [TabA p L, RefA q V, BlockA W1.heap.size #[.int .i64 xo, .string xk, .int .i64 xm, .bool xl] 28]) (perm_ct fun x => by simp only [cnt_cons, cnt_nil]; omega)) hri hok (hsm.mono (by omega)) (by omega) ⟨xo, xk, xm, xl⟩)
            have HFIN : Hid (∀ W, Mem w [] W [TabA p L, RefA q V] → PHead w p q k W) := Lib.hid fun W hW => ⟨L, V, hok, hsm, hri, hvl, hW⟩
            clear hok hsm hri hvl hmem r0 r1 r2 r3 r4
            go_wp2_with fail
            refine HAL.out.mono ?_
            rintro e w9 ⟨rfl, m0⟩
            have HF := Lib.hid (HFIN.out _ (Mem.drop [TabA p L, RefA q V] (r := []) m0))
            clear m0 HAL HFIN hx0 hx1 hx2 hx3
            go_wp2_with fail
            go_roundw
            case rel => exact ⟨i + 1, by omega, by go_num, HF⟩
            case measure => simp [intOf]; omega
          · obtain rfl : i = k := by omega
            have HF := Lib.hid hmem.bel
            clear hok hsm hri hvl hmem
            go_wp2_with fail
            go_ret
            exact ⟨rfl, HF.out⟩
end Go.Proofs.Ytnemgmlhcjhdhaa
