/- LocksFrom walked. -/
import Derived.Test.YtnemgmlhcjhdhaaAL
import Derived.Test.YtnemgmlhcjhdhaaAU
import Derived.Test.YtnemgmlhcjhdhaaAV
import Derived.Deep.RegionHeld3
namespace Go.Proofs.Ytnemgmlhcjhdhaa
open Go.RowKit Go.Sort
theorem Mem.cutTo {w0 w : World} {D0 : List Nat} (l : List Asn) {r : List Asn} (h : Mem w0 D0 w (l ++ r)) : Mem w0 D0 w l := by
  obtain ⟨D, hA, hD⟩ := h.out
  obtain ⟨D1, D2, rfl, -, h1, -⟩ := all_append l r hA
  exact ⟨D1, h1, hD.touch, fun x hx => hD.fresh x (List.mem_append_left _ hx)⟩
/-- two tables that are alike. -/
def F2Head (w : World) (p q N : Nat) (wr : World) : Prop := ∃ L, LOk L ∧ Sm N L ∧ Mem w [] wr [TabA q L, TabA p L]
def F2Mid (w : World) (p q N b13 : Nat) (xo : Int) (xk : ByteArray) (xm : Int) (xl : Bool) (wr : World) : Prop := ∃ L, LOk L ∧ Sm N L ∧ Mem w [] wr [TabA p L, TabA q L, BlockA b13 #[.int .i64 xo, .string xk, .int .i64 xm, .bool xl] 28]
set_option maxRecDepth 100000 in
set_option maxHeartbeats 16000000 in
theorem fromlaw_any (a : Option Addr) (n c : Nat) (l : List Ac) (a2 : Option Addr) (n2 c2 : Nat) (l2 : List Ac) (a3 : Option Addr) (n3 c3 : Nat) (R : List Li) (w : World) (hn : n ≤ maxLen) (h : ActsAt w a n l) (hn2 : n2 ≤ maxLen) (h2 : ActsAt w a2 n2 l2) (h3 : LinesC w a3 n3 R) (hk3 : ∀ li ∈ R, li.key.size ≤ maxLen) (hn3 : n3 ≤ maxLen) :
    Calls Try.prog 4 #[.slice a n c, .slice a2 n2 c2, .slice a3 n3 c3] w (fun e w' => e = .returned (.bool true) ∧ Below w.heap.size w w') := by
  obtain rfl := h3.1
  have HA := Lib.hid h
  have HA2 := Lib.hid h2
  have HA3 := Lib.hid h3
  have HK3 := Lib.hid hk3
  have HFX := Lib.hid fixed_any
  have HFW := Lib.hid fun W (hb : Below w.heap.size w W) => few_any a n c l W hn (h.below hb)
  have HFW2 := Lib.hid fun W (hb : Below w.heap.size w W) => few_any a2 n2 c2 l2 W hn2 (h2.below hb)
  have HNW := Lib.hid tab_new
  have HNL := Lib.hid h.1
  have HNL2 := Lib.hid h2.1
  unfold maxLen at hn hn2 hn3
  clear h h2 h3 hk3
  go_enter Try.func4, Try.ntmps4
  go_wp2_with fail
  refine (HFX.out w).mono ?_
  rintro e w1 ⟨rfl, hb⟩
  have HB := Lib.hid hb
  clear hb
  go_wp2_with fail
  refine (HFW.out _ HB.out).mono ?_
  rintro e w2 ⟨rfl, hb⟩
  have HB2 := Lib.hid (HB.out.trans (hb.mono HB.out.size))
  clear hb HFX HFW HB
  cases hfw : fewA l with
  | false =>
    clear hfw
    go_wp2_with fail
    go_ret
    exact ⟨rfl, HB2.out⟩
  | true =>
  have hn60 : n ≤ 60 := by rw [HNL.out]; exact few_len hfw
  clear hfw
  go_wp2_with fail
  refine (HFW2.out _ HB2.out).mono ?_
  rintro e w2b ⟨rfl, hb⟩
  have HB3 := Lib.hid (HB2.out.trans (hb.mono HB2.out.size))
  clear hb HFW2 HB2
  cases hfw : fewA l2 with
  | false =>
    clear hfw
    go_wp2_with fail
    go_ret
    exact ⟨rfl, HB3.out⟩
  | true =>
  have hn260 : n2 ≤ 60 := by rw [HNL2.out]; exact few_len hfw
  clear hfw
  by_cases hR20 : R.length ≤ 20
  case neg =>
    have hR : (20 : Int) < (R.length : Int) := by omega
    go_wp2_with fail
    go_ret
    exact ⟨rfl, HB3.out⟩
  case pos =>
    have hR : ¬ (20 : Int) < (R.length : Int) := by omega
    go_wp2_with fail
    refine (HNW.out w2b).mono ?_
    rintro e w3 ⟨p, rfl, hA, hf, hb⟩
    have HI : Hid (LHead w p 0 w3) := Lib.hid ⟨[], LOk.nil, Sm.nil, ((Mem.nil w).below HB3.out).new hb hA hf⟩
    clear hA hf hb HB3 HNW hR
    go_wp2_with fail
    go_loopw [39] (fun j wr => ∃ k : Nat, k ≤ n ∧ j = .int .i64 k ∧ Hid (LHead w p k wr)) (fun j _ => n - (intOf j).toNat)
    case atStart => exact ⟨0, Nat.zero_le _, rfl, HI⟩
    case round =>
      obtain ⟨W0, rfl⟩ : ∃ W0, W0 = wr := ⟨_, rfl⟩
      obtain ⟨k, hk, rfl, hS⟩ := hrel
      clear HI
      obtain ⟨L, hok, hsm, hmem⟩ := hS.out
      clear hS
      by_cases hlt : k < n
      · obtain ⟨g, off, rfl, ⟨hx0, hx1, hx2, hx3⟩, r0, r1, r2, r3, r4⟩ := (HA.out.below hmem.bel).2 k (by rw [← HA.out.1]; exact hlt)
        generalize l[k]'(by rw [← HA.out.1]; exact hlt) = x at *
        have HD := Lib.hid (mem_do (r := [BlockA W0.heap.size #[.int .i64 x.owner, .string x.key, .int .i64 x.mode, .bool x.leave] 28]) (Mem.swap [] (r := []) (hmem.block #[.int .i64 x.owner, .string x.key, .int .i64 x.mode, .bool x.leave] 28)) hok (hsm.mono (by omega)) x)
        have OK2 := Lib.hid (hok.doT x)
        have SM2 := Lib.hid (hsm.doT x)
        clear hok hsm hmem
        generalize doT L x = L2 at *
        obtain ⟨xo, xk, xm, xl⟩ := x
        simp only at hx0 hx1 hx2 hx3 r0 r1 r2 r3 r4 HD
        go_wp2_with fail
        generalize W0.heap.size = g8 at *
        refine HD.out.mono ?_
        rintro e w4 ⟨rfl, hm⟩
        have M4 := Lib.hid (Mem.drop [TabA p L2] (r := []) hm)
        clear hm HD hx0 hx1 hx2 hx3 r0 r1 r2 r3 r4
        go_wp2_with fail
        go_roundw
        case rel => exact ⟨k + 1, by omega, by go_num, Lib.hid ⟨L2, OK2.out, SM2.out, M4.out⟩⟩
        case measure => simp [intOf]; omega
      · obtain rfl : k = n := by omega
        have HLN := Lib.hid (mem_tlines (r := []) hmem (hsm.mono (by omega)))
        have HSM := Lib.hid (hsm.mono hn60)
        have HOK := Lib.hid hok
        clear hok hsm hmem HA HNL
        go_wp2_with fail
        refine HLN.out.mono ?_
        rintro e w5 ⟨b, d, X, rfl, hkX, hm⟩
        have HFR := Lib.hid (from_any b L.length d L w5 (LinesC.mem (b := b) (d := d) (r := [TabA p L]) hkX hm) (HSM.out.mono (by decide)))
        have HM5 := Lib.hid hm
        clear hm hkX HLN
        go_wp2_with fail
        refine HFR.out.mono ?_
        rintro e w6 hp
        rcases hp with ⟨-, q, rfl, hm6⟩ | ⟨hf, -, -⟩
        case inr => rw [HOK.out.fromB] at hf; cases hf
        have hm7 := (HM5.out.join hm6).perm (l' := [TabA q L, TabA p L] ++ (RowA 34 3 b L.length d (lnFlat X) :: rowsOf X L)) (perm_ct fun x => by simp only [cnt_cons, cnt_append, cnt_nil]; omega)
        have HI2 : Hid (F2Head w p q 60 w6) := Lib.hid ⟨L, HOK.out, HSM.out, Mem.cutTo [TabA q L, TabA p L] hm7⟩
        clear hm6 hm7 HM5 HFR HOK HSM
        go_wp2_with fail
        go_loopw [57] (fun j wr => ∃ k : Nat, k ≤ n2 ∧ j = .int .i64 k ∧ Hid (F2Head w p q (60 + k) wr)) (fun j _ => n2 - (intOf j).toNat)
        case atStart => exact ⟨0, Nat.zero_le _, rfl, HI2⟩
        case round =>
          obtain ⟨W0, rfl⟩ : ∃ W0, W0 = wr := ⟨_, rfl⟩
          obtain ⟨k, hk, rfl, hS⟩ := hrel
          clear HI2
          obtain ⟨L, hok, hsm, hmem⟩ := hS.out
          clear hS
          by_cases hlt : k < n2
          · obtain ⟨g, off, rfl, ⟨hx0, hx1, hx2, hx3⟩, r0, r1, r2, r3, r4⟩ := (HA2.out.below hmem.bel).2 k (by rw [← HA2.out.1]; exact hlt)
            generalize l2[k]'(by rw [← HA2.out.1]; exact hlt) = x at *
            obtain ⟨xo, xk, xm, xl⟩ := x
            simp only at hx0 hx1 hx2 hx3
            have hm8 := (hmem.block #[.int .i64 xo, .string xk, .int .i64 xm, .bool xl] 28).perm (l' := [TabA p L, TabA q L, BlockA W0.heap.size #[.int .i64 xo, .string xk, .int .i64 xm, .bool xl] 28]) (perm_ct fun x => by simp only [cnt_cons, cnt_nil]; omega)
            have M8 := Lib.hid hm8
            have OK := Lib.hid hok
            have SM := Lib.hid hsm
            clear hm8 hok hsm hmem r0 r1 r2 r3 r4
            go_upto_if 62 with (fail)
            obtain ⟨w8, hw8⟩ : ∃ w8, w8 = W0.alloc (.cells #[.int .i64 xo, .string xk, .int .i64 xm, .bool xl] 28) := ⟨_, rfl⟩
            rw [← hw8] at M8 ⊢
            clear hw8 hx0 hx1 hx2 hx3
            generalize W0.heap.size = b13 at *
            have K8 : Hid (∀ W l, Mem w [] W l → BlockA b13 #[.int .i64 xo, .string xk, .int .i64 xm, .bool xl] 28 ∈ l → W.cell? ⟨b13, 0, none⟩ = some (.int .i64 xo) ∧ W.cell? ⟨b13, 1, none⟩ = some (.string xk) ∧ W.cell? ⟨b13, 2, none⟩ = some (.int .i64 xm)) := Lib.hid fun W l h h7 => ⟨(cell_of_heap (Mem.blk h h7) rfl).1, (cell_of_heap (Mem.blk h h7) rfl).1, (cell_of_heap (Mem.blk h h7) rfl).1⟩
            go_cut [] from 63 to 89 (fun wx => Hid (F2Mid w p q (60 + (k + 1)) b13 xo xk xm xl wx))
            case first =>
              have m0 := M8.out.below (bel_drew w8)
              cases xl with
              | true =>
                have HC := Lib.hid fun pp W r (_ : Stables r) (hW : Mem w [] W (TabA pp L :: r)) => mem_tleave hW OK.out (SM.out.mono (by omega)) xo
                have OK2 := Lib.hid (OK.out.leave xo)
                have SM2 := Lib.hid (SM.out.leave xo)
                have hIn : (riseI (leaveL L xo).1).length ≤ 1000000 := by
                  have h1 := Lib.compact_length_le (sortI (leaveL L xo).1)
                  rw [sortI_len] at h1
                  have h2 := midI_len (SM.out.mono (by omega : 60 + k ≤ 400)) xo L.length
                  rw [show midI L xo L.length = (leaveL L xo).1 by unfold midI leaveL; rw [List.take_length]] at h2
                  have h3 : L.length * 400 ≤ 120 * 400 := Nat.mul_le_mul (by have := SM.out.1; omega) (Nat.le_refl _)
                  unfold riseI
                  omega
                generalize (leaveL L xo).2 = L2 at *
                generalize riseI (leaveL L xo).1 = I at *
                have HFIN : Hid (∀ W r, Mem w [] W ([TabA p L2, TabA q L2, BlockA b13 #[.int .i64 xo, .string xk, .int .i64 xm, .bool true] 28] ++ r) → F2Mid w p q (60 + (k + 1)) b13 xo xk xm true W) := Lib.hid fun W r hW => ⟨L2, OK2.out, SM2.out.mono (by omega), Mem.cutTo _ hW⟩
                have HSI := Lib.hid fun W a1 c1 a2 c2 r (_ : Stables r) (hW : Mem w [] W (RowI a2 c2 I :: RowI a1 c1 I :: r)) => same_i a1 a2 I.length I.length c1 c2 I W (IntsAt.row (Mem.rowAt [RowI a2 c2 I] hW)) (IntsAt.row (Mem.rowAt [] hW)) hIn
                clear OK SM OK2 SM2 HA2 HA3 HK3 hIn
                go_wp2_with fail
                clear M8
                obtain ⟨z0, z1, z2⟩ := K8.out _ _ m0 (by simp)
                go_region_held3 (fun W => W.cell? ⟨b13, 0, none⟩ = some (.int .i64 xo)) (first | exact (K8.out _ _ (by assumption) (by simp)).1)
                  (first
                    | ((go_at_call_of 19 (Value.pointer (some ⟨p, 0, none⟩)); refine (HC.out p _ _ inferInstance (by assumption)).mono ?_; rintro e w9 ⟨a9, c9, rfl, m1⟩))
                    | ((go_at_call_of 19 (Value.pointer (some ⟨q, 0, none⟩)); have m1' := Mem.perm m1 (l' := TabA q L :: [RowI a9 c9 I, TabA p L2, BlockA b13 #[.int .i64 xo, .string xk, .int .i64 xm, .bool true] 28]) (perm_ct fun x => by simp only [cnt_cons, cnt_nil]; omega); refine (HC.out q _ _ inferInstance m1').mono ?_; rintro e w10 ⟨a10, c10, rfl, m2⟩; have m3 := Mem.perm m2 (l' := RowI a10 c10 I :: RowI a9 c9 I :: [TabA p L2, TabA q L2, BlockA b13 #[.int .i64 xo, .string xk, .int .i64 xm, .bool true] 28]) (perm_ct fun x => by simp only [cnt_cons, cnt_nil]; omega); clear m2 m1'))
                    | ((go_at_call 18; refine (HSI.out _ _ _ _ _ _ inferInstance m3).mono ?_; rintro e w11 ⟨rfl, hb⟩; have m4 := Mem.below m3 hb))
                    | (fail "none"))
                all_goals
                  have HF := Lib.hid (HFIN.out _ [RowI a10 c10 I, RowI a9 c9 I] (m4.perm (perm_ct fun x => by simp only [cnt_cons, cnt_append, cnt_nil]; omega)))
                  clear m0 m1 m3 m4 K8 hb HC HSI HFIN
                  go_wp2_with fail
                  go_meet
                  case rel => exact HF
              | false =>
                obtain ⟨y, L2, he⟩ : ∃ y L2, askL L xo xk xm = (y, L2) := ⟨_, _, rfl⟩
                have HC := Lib.hid fun pp W r (_ : Stables r) (hW : Mem w [] W (TabA pp L :: r)) => mem_task hW OK.out (SM.out.mono (by omega)) he
                have OK2 := OK.out.ask xo xk xm
                have SM2 := SM.out.ask xo xk xm
                rw [he] at OK2 SM2
                have HFIN : Hid (∀ W r, Mem w [] W ([TabA p L2, TabA q L2, BlockA b13 #[.int .i64 xo, .string xk, .int .i64 xm, .bool false] 28] ++ r) → F2Mid w p q (60 + (k + 1)) b13 xo xk xm false W) := Lib.hid fun W r hW => ⟨L2, OK2, SM2.mono (by omega), Mem.cutTo _ hW⟩
                clear OK SM OK2 SM2 HA2 HA3 HK3 he
                go_wp2_with fail
                clear M8
                obtain ⟨z0, z1, z2⟩ := K8.out _ _ m0 (by simp)
                go_region_held3 (fun W => W.cell? ⟨b13, 0, none⟩ = some (.int .i64 xo) ∧ W.cell? ⟨b13, 1, none⟩ = some (.string xk) ∧ W.cell? ⟨b13, 2, none⟩ = some (.int .i64 xm)) (first | exact K8.out _ _ (by assumption) (by simp))
                  (first
                    | ((go_at_call_of 20 (Value.pointer (some ⟨p, 0, none⟩)); refine (HC.out p _ _ inferInstance (by assumption)).mono ?_; rintro e w9 ⟨rfl, m1⟩))
                    | ((go_at_call_of 20 (Value.pointer (some ⟨q, 0, none⟩)); have m1' := Mem.perm m1 (l' := TabA q L :: [TabA p L2, BlockA b13 #[.int .i64 xo, .string xk, .int .i64 xm, .bool false] 28]) (perm_ct fun x => by simp only [cnt_cons, cnt_nil]; omega); refine (HC.out q _ _ inferInstance m1').mono ?_; rintro e w10 ⟨rfl, m2⟩))
                    | (fail "none"))
                all_goals
                  have HF := Lib.hid (HFIN.out _ [] (m2.perm (perm_ct fun x => by simp only [cnt_cons, cnt_append, cnt_nil]; omega)))
                  clear m0 m1 m1' m2 K8 HC HFIN
                  go_wp2_with fail
                  go_meet
                  case rel => exact HF
            case rest =>
              clear M8 OK SM
              obtain ⟨L2, hok, hsm, hmem⟩ := hcut.out
              clear hcut
              have HCH := Lib.hid fun pp W r (_ : Stables r) (hW : Mem w [] W (TabA pp L2 :: r)) => (mem_tholders hW hok (hsm.mono (by omega)) xk).mono fun e w' (h : ∃ s, e = .returned (slv s) ∧ Mem w [] w' (RowH s (lineL L2 xk).hs :: TabA pp L2 :: r)) => (by obtain ⟨⟨sa, sn, sc⟩, he, hm⟩ := h; exact ⟨sa, sn, sc, he, hm⟩ : ∃ sa sn sc, e = .returned (.slice sa sn sc) ∧ Mem w [] w' (RowH ⟨sa, sn, sc⟩ (lineL L2 xk).hs :: TabA pp L2 :: r))
              have HCQ := Lib.hid fun pp W r (_ : Stables r) (hW : Mem w [] W (TabA pp L2 :: r)) => (mem_tqueue hW hok (hsm.mono (by omega)) xk).mono fun e w' (h : ∃ s, e = .returned (slv s) ∧ Mem w [] w' (RowH s (lineL L2 xk).qs :: TabA pp L2 :: r)) => (by obtain ⟨⟨sa, sn, sc⟩, he, hm⟩ := h; exact ⟨sa, sn, sc, he, hm⟩ : ∃ sa sn sc, e = .returned (.slice sa sn sc) ∧ Mem w [] w' (RowH ⟨sa, sn, sc⟩ (lineL L2 xk).qs :: TabA pp L2 :: r))
              have hlb := (hsm.mono (by omega : 60 + (k + 1) ≤ 121)).line xk
              have HFIN : Hid (∀ W r, Mem w [] W ([TabA q L2, TabA p L2] ++ r) → F2Head w p q (60 + (k + 1)) W) := Lib.hid fun W r hW => ⟨L2, hok, hsm, Mem.cutTo _ hW⟩
              clear hok hsm
              generalize (lineL L2 xk).hs = H at *
              generalize (lineL L2 xk).qs = Q at *
              have HSH := Lib.hid fun (l : List Hd) (hl : l.length ≤ 1000) W (x1 x2 : Option Addr) (n1 n2 c1 c2 : Nat) r (_ : Stables r) (hW : Mem w [] W (RowH ⟨x2, n2, c2⟩ l :: RowH ⟨x1, n1, c1⟩ l :: r)) => same_h x1 x2 n1 n2 c1 c2 l W (HdsAt.row (Mem.rowAt [RowH ⟨x2, n2, c2⟩ l] hW)) (HdsAt.row (Mem.rowAt [] hW)) (by have h := Mem.sl_len [RowH ⟨x2, n2, c2⟩ l] hW; have h : n1 = l.length := h; omega)
              have hH : H.length ≤ 1000 := by omega
              have hQ : Q.length ≤ 1000 := by omega
              have HHL := Lib.hid hH
              have HQL := Lib.hid hQ
              clear hH hQ hlb
              have m0 := hmem.below (bel_drew wc)
              clear hmem
              go_wp2_with fail
              obtain ⟨z0, z1, z2⟩ := K8.out _ _ m0 (by simp)
              go_region_held3 (fun W => W.cell? ⟨b13, 1, none⟩ = some (.string xk)) (first | exact (K8.out _ _ (by assumption) (by simp)).2.1)
                (first
                  | ((go_at_call_of 16 (Value.pointer (some ⟨p, 0, none⟩)); refine (HCH.out p _ _ inferInstance (by assumption)).mono ?_; rintro e w9 ⟨s1a, s1n, s1c, rfl, m1⟩))
                  | ((go_at_call_of 16 (Value.pointer (some ⟨q, 0, none⟩)); have m1' := Mem.perm m1 (l' := TabA q L2 :: [RowH ⟨s1a, s1n, s1c⟩ H, TabA p L2, BlockA b13 #[.int .i64 xo, .string xk, .int .i64 xm, .bool xl] 28]) (perm_ct fun x => by simp only [cnt_cons, cnt_nil]; omega); refine (HCH.out q _ _ inferInstance m1').mono ?_; rintro e w10 ⟨s2a, s2n, s2c, rfl, m2⟩; have m3 := Mem.perm m2 (l' := RowH ⟨s2a, s2n, s2c⟩ H :: RowH ⟨s1a, s1n, s1c⟩ H :: [TabA p L2, TabA q L2, BlockA b13 #[.int .i64 xo, .string xk, .int .i64 xm, .bool xl] 28]) (perm_ct fun x => by simp only [cnt_cons, cnt_nil]; omega); clear m2 m1'))
                  | ((go_at_call_of 21 (Value.slice s1a s1n s1c); refine (HSH.out H HHL.out _ s1a s2a s1n s2n s1c s2c _ inferInstance m3).mono ?_; rintro e w11 ⟨rfl, hb⟩; have m4 := Mem.perm (Mem.below m3 hb) (l' := TabA p L2 :: [TabA q L2, BlockA b13 #[.int .i64 xo, .string xk, .int .i64 xm, .bool xl] 28, RowH ⟨s2a, s2n, s2c⟩ H, RowH ⟨s1a, s1n, s1c⟩ H]) (perm_ct fun x => by simp only [cnt_cons, cnt_nil]; omega); clear hb))
                  | ((go_at_call_of 22 (Value.pointer (some ⟨p, 0, none⟩)); refine (HCQ.out p _ _ inferInstance m4).mono ?_; rintro e w12 ⟨s3a, s3n, s3c, rfl, m5⟩))
                  | ((go_at_call_of 22 (Value.pointer (some ⟨q, 0, none⟩)); have m5' := Mem.perm m5 (l' := TabA q L2 :: [RowH ⟨s3a, s3n, s3c⟩ Q, TabA p L2, BlockA b13 #[.int .i64 xo, .string xk, .int .i64 xm, .bool xl] 28, RowH ⟨s2a, s2n, s2c⟩ H, RowH ⟨s1a, s1n, s1c⟩ H]) (perm_ct fun x => by simp only [cnt_cons, cnt_nil]; omega); refine (HCQ.out q _ _ inferInstance m5').mono ?_; rintro e w13 ⟨s4a, s4n, s4c, rfl, m6⟩; have m7 := Mem.perm m6 (l' := RowH ⟨s4a, s4n, s4c⟩ Q :: RowH ⟨s3a, s3n, s3c⟩ Q :: [TabA p L2, TabA q L2, BlockA b13 #[.int .i64 xo, .string xk, .int .i64 xm, .bool xl] 28, RowH ⟨s2a, s2n, s2c⟩ H, RowH ⟨s1a, s1n, s1c⟩ H]) (perm_ct fun x => by simp only [cnt_cons, cnt_nil]; omega); clear m6 m5'))
                  | ((go_at_call_of 21 (Value.slice s3a s3n s3c); refine (HSH.out Q HQL.out _ s3a s4a s3n s4n s3c s4c _ inferInstance m7).mono ?_; rintro e w14 ⟨rfl, hb⟩; have m8 := Mem.below m7 hb; clear hb))
                  | (fail "none"))
              all_goals
                have HF := Lib.hid (HFIN.out _ [RowH ⟨s4a, s4n, s4c⟩ Q, RowH ⟨s3a, s3n, s3c⟩ Q, BlockA b13 #[.int .i64 xo, .string xk, .int .i64 xm, .bool xl] 28, RowH ⟨s2a, s2n, s2c⟩ H, RowH ⟨s1a, s1n, s1c⟩ H] (m8.perm (perm_ct fun x => by simp only [cnt_cons, cnt_append, cnt_nil]; omega)))
                clear m0 m1 m3 m4 m5 m7 m8 K8 HCH HCQ HSH HFIN
                go_wp2_with fail
                go_roundw
                case rel => exact ⟨k + 1, by omega, by go_num, HF⟩
                case measure => simp [intOf]; omega
          · obtain rfl : k = n2 := by omega
            have HB6 := Lib.hid hmem.bel
            clear hok hsm hmem HA2 HNL2
            go_wp2_with fail
            go_loopw [115] (fun jv wr => ∃ j : Nat, j ≤ R.length ∧ jv = .int .i64 j ∧ Hid (∀ t (ht : t < R.length), t < j → R[t].hs.length ≤ 20 ∧ R[t].qs.length ≤ 20) ∧ Hid (Below w.heap.size w wr)) (fun jv _ => R.length - (intOf jv).toNat)
            case atStart => exact ⟨0, Nat.zero_le _, rfl, Lib.hid fun t ht h => absurd h (Nat.not_lt_zero _), HB6⟩
            case round =>
              obtain ⟨w7, rfl⟩ : ∃ w7, w7 = wr := ⟨_, rfl⟩
              obtain ⟨j, hj, rfl, HALL, HB7⟩ := hrel
              clear HB6
              by_cases hltj : j < R.length
              · obtain ⟨g, o, y, rfl, hy, hyk, hyh, hyq, hy1, hy2, hy3⟩ := HA3.out.2 j hltj
                obtain ⟨k0, k1, k2⟩ := hy.below HB7.out
                have hks := HK3.out _ (List.getElem_mem hltj)
                have HNX : Hid (R[j].hs.length ≤ 20 → R[j].qs.length ≤ 20 → ∀ t (ht : t < R.length), t < j + 1 → R[t].hs.length ≤ 20 ∧ R[t].qs.length ≤ 20) := Lib.hid fun h1 h2 t ht htj => by
                  by_cases e : t = j
                  · subst e; exact ⟨h1, h2⟩
                  · exact HALL.out t ht (by omega)
                clear hy HALL
                rw [← hyh.1, ← hyq.1] at HNX
                rw [← hyk] at hks
                clear hyk hyh hyq
                obtain ⟨yk, ⟨ha, hn', hc'⟩, ⟨qa, qn, qc⟩⟩ := y
                simp only at k0 k1 k2 hy1 hy2 hy3 HNX hks
                unfold maxLen at hy1 hy2 hks
                generalize hsz : yk.size = z at *
                have HB8 := Lib.hid (bel_one HB7.out (.cells #[.string yk, .slice ha hn' hc', .slice qa qn qc] 34))
                clear HB7
                by_cases c0 : 20 < hn'
                · have d0 : decide ((20 : Int) < (hn' : Int)) = true := decide_eq_true (by omega)
                  clear HNX
                  go_wp2_with fail
                  go_ret
                  exact ⟨rfl, HB8.out⟩
                · have d0 : decide ((20 : Int) < (hn' : Int)) = false := decide_eq_false (by omega)
                  by_cases c1 : 20 < qn
                  · have d1 : decide ((20 : Int) < (qn : Int)) = true := decide_eq_true (by omega)
                    clear HNX
                    go_wp2_with fail
                    go_ret
                    exact ⟨rfl, HB8.out⟩
                  · have d1 : decide ((20 : Int) < (qn : Int)) = false := decide_eq_false (by omega)
                    by_cases c2 : 100 < z
                    · have d2 : decide ((100 : Int) < (z : Int)) = true := decide_eq_true (by omega)
                      clear HNX
                      go_wp2_with fail
                      go_ret
                      exact ⟨rfl, HB8.out⟩
                    · have d2 : decide ((100 : Int) < (z : Int)) = false := decide_eq_false (by omega)
                      have HN := Lib.hid (HNX.out (by omega) (by omega))
                      clear HNX
                      go_wp2_with fail
                      go_roundw
                      case rel => exact ⟨j + 1, by omega, by go_num, HN, HB8⟩
                      case measure => simp [intOf]; omega
              · obtain rfl : j = R.length := by omega
                have HSR : Hid (Sm 40 R) := Lib.hid ⟨by omega, fun li hli => by
                  obtain ⟨t, ht, rfl⟩ := List.getElem_of_mem hli
                  have := HALL.out t ht ht
                  omega⟩
                have HFR := Lib.hid (from_any a3 R.length c3 R w7 (HA3.out.below HB7.out) (HSR.out.mono (by decide)))
                clear HALL HK3
                go_wp2_with fail
                refine HFR.out.mono ?_
                rintro e w8 hp
                rcases hp with ⟨-, q2, rfl, hm8⟩ | ⟨-, rfl, hb8⟩
                case inr =>
                  have HF := Lib.hid (HB7.out.trans (hb8.mono HB7.out.size))
                  clear hb8 HFR HB7
                  go_wp2_with fail
                  go_ret
                  exact ⟨rfl, HF.out⟩
                case inl =>
                  have HLN := Lib.hid (mem_tlines (r := []) hm8 (HSR.out.mono (by decide)))
                  clear hm8 HFR
                  go_wp2_with fail
                  refine HLN.out.mono ?_
                  rintro e w9 ⟨b, d, X, rfl, hkX, hm⟩
                  have HL9 := Lib.hid (LinesC.mem (b := b) (d := d) (r := [TabA q2 R]) hkX hm)
                  have HA9 : Hid (LinesC w9 a3 R.length R) := Lib.hid ((HA3.out.below HB7.out).below hm.bel)
                  have HB9 := Lib.hid (HB7.out.trans (hm.bel.mono HB7.out.size))
                  have HBS : Hid (Below w9.heap.size w9 w9) := Lib.hid (Below.refl _ _)
                  have hmix : Try.prog.follows .mixedOrders = true := by kernel_rfl
                  clear hm hkX HLN HA3 HB7
                  go_wp2_with fail
                  go_loopw [153] (fun jv wr => ∃ j : Nat, j ≤ R.length ∧ jv = .int .i64 j ∧ Hid (Below w9.heap.size w9 wr)) (fun jv _ => R.length - (intOf jv).toNat)
                  case atStart => exact ⟨0, Nat.zero_le _, rfl, HBS⟩
                  case round =>
                    obtain ⟨w10, rfl⟩ : ∃ w10, w10 = wr := ⟨_, rfl⟩
                    obtain ⟨j, hj, rfl, HB10⟩ := hrel
                    clear HBS
                    by_cases hltj : j < R.length
                    · obtain ⟨g, o, y, rfl, hy, hyk, hyh, hyq, hy1, hy2, hy3⟩ := HA9.out.2 j hltj
                      obtain ⟨k0, k1, k2⟩ := hy.below HB10.out
                      obtain ⟨g2, o2, y2, rfl, hl, hlk, hlh, hlq, hl1, hl2, hl3⟩ := HL9.out.2 j hltj
                      obtain ⟨e0, e1, e2⟩ := hl.below HB10.out
                      have hsj := HSR.out.2 _ (List.getElem_mem hltj)
                      have hkk : y2.key = y.key := hlk.trans hyk.symm
                      have HSM1 := Lib.hid fun W (hb : Below w9.heap.size w9 W) => same_h y2.hs.a y.hs.a y2.hs.n y.hs.n y2.hs.c y.hs.c R[j].hs W (hlh.below hb) (hyh.below hb) (by have := hlh.1; omega)
                      have HSM2 := Lib.hid fun W (hb : Below w9.heap.size w9 W) => same_h y2.qs.a y.qs.a y2.qs.n y.qs.n y2.qs.c y.qs.c R[j].qs W (hlq.below hb) (hyq.below hb) (by have := hlq.1; omega)
                      clear hy hyk hyh hyq hy1 hy2 hy3 hl hlk hlh hlq hl1 hl2 hl3 hsj
                      obtain ⟨yk, ⟨ha, hn', hc'⟩, ⟨qa, qn, qc⟩⟩ := y
                      obtain ⟨lk, ⟨la, ln, lc⟩, ⟨ma, mn, mc⟩⟩ := y2
                      simp only at k0 k1 k2 e0 e1 e2 hkk HSM1 HSM2
                      subst hkk
                      go_upto_region 38 with (fail)
                      obtain ⟨w11, hw11⟩ : ∃ w11, w11 = w10.alloc (.cells #[.string lk, .slice ha hn' hc', .slice qa qn qc] 34) := ⟨_, rfl⟩
                      have hb11 : Below w9.heap.size w9 w11 := by rw [hw11]; exact bel_one HB10.out _
                      have y0 : w11.cell? ⟨w10.heap.size, 0, none⟩ = some (.string lk) := by rw [hw11]; simp [go_sem]
                      have y1 : w11.cell? ⟨w10.heap.size, 1, none⟩ = some (.slice ha hn' hc') := by rw [hw11]; simp [go_sem]
                      have y2 : w11.cell? ⟨w10.heap.size, 2, none⟩ = some (.slice qa qn qc) := by rw [hw11]; simp [go_sem]
                      have hbo : Below w10.heap.size w10 w11 := by rw [hw11]; exact bel_new _ _
                      have f0 := (hbo.cell (World.block_lt_of_cell? w10 _ e0)).trans e0
                      have f1 := (hbo.cell (World.block_lt_of_cell? w10 _ e1)).trans e1
                      have f2 := (hbo.cell (World.block_lt_of_cell? w10 _ e2)).trans e2
                      rw [← hw11]
                      clear hw11 k0 k1 k2 e0 e1 e2 hbo
                      generalize w10.heap.size = b20 at *
                      have q0 := cell_regrown y0
                      have q1 := cell_regrown y1
                      have q2' := cell_regrown y2
                      have q3 := cell_regrown f0
                      have q4 := cell_regrown f1
                      have q5 := cell_regrown f2
                      have cS1 : ∀ d os, Calls Try.prog 21 #[.slice la ln lc, .slice ha hn' hc'] (grow (redrawn w11 d) os) fun e w'' => e = .returned (.bool true) ∧ ∃ p : Regrown, w'' = grow (redrawn w11 p.d) p.os := fun d os => Calls.regrown_of (HSM1.out _ (hb11.trans ((below_regrown w11 d os).mono hb11.size)))
                      have cS2 : ∀ d os, Calls Try.prog 21 #[.slice ma mn mc, .slice qa qn qc] (grow (redrawn w11 d) os) fun e w'' => e = .returned (.bool true) ∧ ∃ p : Regrown, w'' = grow (redrawn w11 p.d) p.os := fun d os => Calls.regrown_of (HSM2.out _ (hb11.trans ((below_regrown w11 d os).mono hb11.size)))
                      have HGR : Hid (∀ d os, Below w9.heap.size w9 (grow (redrawn w11 d) os)) := Lib.hid fun d os => hb11.trans ((below_regrown w11 d os).mono hb11.size)
                      have hjd : decide ((R.length : Int) ≤ (j : Int)) = false := decide_eq_false (by omega)
                      have hjdn : decide (R.length ≤ j) = false := decide_eq_false (by omega)
                      have hjd2 : (j : Int) < (R.length : Int) := by omega
                      have hjd3 : (0 : Int) ≤ (j : Int) := by omega
                      clear HSM1 HSM2 hb11 y0 y1 y2 f0 f1 f2
                      refine wp_region_quiet_below hmix (by kernel_rfl) ?_
                      repeat (go_big_quiet_step (first | with_reducible exact cS1 _ _ | with_reducible exact cS2 _ _))
                      refine wpQuiet_nil ?_
                      intro _ hw'
                      obtain ⟨⟨dq, osq⟩, hw'⟩ := hw'
                      subst hw'
                      have HW := Lib.hid (HGR.out dq osq)
                      clear HGR q0 q1 q2' q3 q4 q5 cS1 cS2 hjd hjdn
                      go_wp2_with fail
                      go_roundw
                      case rel => exact ⟨j + 1, by omega, by go_num, HW⟩
                      case measure => simp [intOf]; omega
                    · obtain rfl : j = R.length := by omega
                      have HF := Lib.hid (HB9.out.trans (HB10.out.mono HB9.out.size))
                      clear HB10
                      go_wp2_with fail
                      go_ret
                      exact ⟨by simp, HF.out⟩
end Go.Proofs.Ytnemgmlhcjhdhaa
