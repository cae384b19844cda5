/- LocksSafe walked. -/
import Derived.Test.YtnemgmlhcjhdhaaAK
import Derived.Deep.Cut
import Derived.Deep.CutRange
import Derived.Deep.CutBlock
namespace Go.Proofs.Ytnemgmlhcjhdhaa
open Go.RowKit Go.Sort
theorem reg_tholds {w0 W : World} {D0 : List Nat} {p : Nat} {L : List Li} {r : List Asn} [Stables r] (h : Mem w0 D0 W (TabA p L :: r)) (ok : LOk L) (hb : Sm 400 L) (o : Int) (k : ByteArray) :
    ∀ d os, Calls Try.prog 15 #[.pointer (some ⟨p, 0, none⟩), .int .i64 o, .string k] (grow (redrawn W d) os) fun e w'' => e = .returned (.int .i64 (ofH (lineL L k).hs o)) ∧ ∃ p : Regrown, w'' = grow (redrawn W p.d) p.os := fun d os => by
  obtain ⟨D, hA⟩ := Mem.get [] (h.below (below_regrown W d os))
  exact Calls.regrown_of (tab_holds p L o k _ D hA ok.s (by have := hb.1; omega))
theorem reg_twaits {w0 W : World} {D0 : List Nat} {p : Nat} {L : List Li} {r : List Asn} [Stables r] (h : Mem w0 D0 W (TabA p L :: r)) (ok : LOk L) (hb : Sm 400 L) (o : Int) (k : ByteArray) :
    ∀ d os, Calls Try.prog 14 #[.pointer (some ⟨p, 0, none⟩), .int .i64 o, .string k] (grow (redrawn W d) os) fun e w'' => e = .returned (.int .i64 (ofH (lineL L k).qs o)) ∧ ∃ p : Regrown, w'' = grow (redrawn W p.d) p.os := fun d os => by
  obtain ⟨D, hA⟩ := Mem.get [] (h.below (below_regrown W d os))
  exact Calls.regrown_of (tab_waits p L o k _ D hA ok.s (by have := hb.1; omega))
/-- at the head of a law's loop. -/
def LHead (w : World) (p N : Nat) (wr : World) : Prop := ∃ L, LOk L ∧ Sm N L ∧ Mem w [] wr [TabA p L]
theorem Sm.doT {N : Nat} {L : List Li} (h : Sm N L) (a : Ac) : Sm (N + 1) (doT L a) := by
  unfold Go.Proofs.Ytnemgmlhcjhdhaa.doT; split
  · exact (h.leave _).mono (by omega)
  · exact h.ask _ _ _
theorem few_len {l : List Ac} (h : fewA l = true) : l.length ≤ 60 := by
  unfold fewA at h
  simp only [Bool.and_eq_true, decide_eq_true_eq] at h
  exact h.2
/-- what the act did to its own owner. -/
theorem do_left {L : List Li} (h : LOk L) {a : Ac} (ha : a.leave = true) (k : ByteArray) : ofH (lineL (doT L a) k).hs a.owner = 0 ∧ ofH (lineL (doT L a) k).qs a.owner = 0 := by
  unfold doT
  rw [if_pos ha]
  obtain ⟨h1, h2⟩ := lineL_leave h a.owner k
  obtain ⟨h3, h4⟩ := leaveLi_none (h.line k).1 a.owner
  rw [h1, h2]
  exact ⟨ofH_none h3, ofH_none h4⟩
theorem do_asked {L : List Li} (h : LOk L) {a : Ac} (ha : a.leave = false) (h0 : 0 ≤ a.owner) (hk : a.key.size ≤ 16) (hm : modeM a.mode = true) (hlt : ofH (lineL (doT L a) a.key).hs a.owner < a.mode) : 0 < ofH (lineL (doT L a) a.key).qs a.owner := by
  unfold doT at hlt ⊢
  rw [ha] at hlt ⊢
  simp only [Bool.false_eq_true, if_false] at hlt ⊢
  rw [lineL_ask_eq h h0 hk hm] at hlt ⊢
  split at hlt <;> rename_i hh
  · rw [if_pos hh]
    exact askLi_has (h.line a.key).1 (w := ⟨a.owner, a.mode⟩) h0 hm hlt
  · simp [ofH] at hlt
set_option maxRecDepth 100000 in
set_option maxHeartbeats 16000000 in
theorem safe_any (a : Option Addr) (n c : Nat) (l : List Ac) (w : World) (hn : n ≤ maxLen) (h : ActsAt w a n l) :
    Calls Try.prog 5 #[.slice a n c] w (fun e w' => e = .returned (.bool true) ∧ Below w.heap.size w w') := by
  have HA := Lib.hid h
  have HFX := Lib.hid fixed_any
  have HFW := Lib.hid fun W (hb : Below w.heap.size w W) => few_any a n c l W hn (h.below hb)
  have HNW := Lib.hid tab_new
  have HNL := Lib.hid h.1
  unfold maxLen at hn
  clear h
  go_enter Try.func5, Try.ntmps5
  go_wp2_with fail
  refine (HFX.out w).mono ?_
  rintro e w1 ⟨rfl, hb⟩
  have HB := Lib.hid hb
  clear hb
  go_wp2_with fail
  refine (HFW.out _ HB.out).mono ?_
  rintro e w2 ⟨rfl, hb⟩
  have HB2 := Lib.hid (HB.out.trans (hb.mono HB.out.size))
  clear hb HFX HFW HB
  cases hfw : fewA l with
  | false =>
    clear hfw
    go_wp2_with fail
    go_ret
    exact ⟨rfl, HB2.out⟩
  | true =>
    have hn60 : n ≤ 60 := by rw [HNL.out]; exact few_len hfw
    clear hfw
    go_wp2_with fail
    refine (HNW.out w2).mono ?_
    rintro e w3 ⟨p, rfl, hA, hf, hb⟩
    have HI : Hid (LHead w p 0 w3) := Lib.hid ⟨[], LOk.nil, Sm.nil, ((Mem.nil w).below HB2.out).new hb hA hf⟩
    clear hA hf hb HB2 HNW
    go_wp2_with fail
    go_loopw [20] (fun j wr => ∃ k : Nat, k ≤ n ∧ j = .int .i64 k ∧ Hid (LHead w p k wr)) (fun j _ => n - (intOf j).toNat)
    case atStart => exact ⟨0, Nat.zero_le _, rfl, HI⟩
    case round =>
      obtain ⟨W0, rfl⟩ : ∃ W0, W0 = wr := ⟨_, rfl⟩
      obtain ⟨k, hk, rfl, hS⟩ := hrel
      clear HI
      obtain ⟨L, hok, hsm, hmem⟩ := hS.out
      clear hS
      by_cases hlt : k < n
      · obtain ⟨g, off, rfl, ⟨hx0, hx1, hx2, hx3⟩, r0, r1, r2, r3, r4⟩ := (HA.out.below hmem.bel).2 k (by rw [← HA.out.1]; exact hlt)
        generalize l[k]'(by rw [← HA.out.1]; exact hlt) = x at *
        have HL1 := Lib.hid fun (h : x.leave = true) => do_left hok h x.key
        have HL2 := Lib.hid fun (h : x.leave = false) => do_asked hok h
        have HD := Lib.hid (mem_do (r := [BlockA W0.heap.size #[.int .i64 x.owner, .string x.key, .int .i64 x.mode, .bool x.leave] 28]) (Mem.swap [] (r := []) (hmem.block #[.int .i64 x.owner, .string x.key, .int .i64 x.mode, .bool x.leave] 28)) hok (hsm.mono (by omega)) x)
        have OK2 := Lib.hid (hok.doT x)
        have SM2 := Lib.hid (hsm.doT x)
        clear hok hsm hmem
        generalize doT L x = L2 at *
        obtain ⟨xo, xk, xm, xl⟩ := x
        simp only at hx0 hx1 hx2 hx3 r0 r1 r2 r3 r4 HL1 HL2 HD
        unfold maxLen at r2
        generalize hsz : xk.size = sz at *
        go_wp2_with fail
        generalize W0.heap.size = g8 at *
        refine HD.out.mono ?_
        rintro e w4 ⟨rfl, hm⟩
        have M2 := Lib.hid hm
        obtain ⟨z0, -⟩ := Mem.cellAt (i := 0) (v := .int .i64 xo) [TabA p L2] (r := []) hm rfl
        obtain ⟨z1, -⟩ := Mem.cellAt (i := 1) (v := .string xk) [TabA p L2] (r := []) hm rfl
        obtain ⟨z2, -⟩ := Mem.cellAt (i := 2) (v := .int .i64 xm) [TabA p L2] (r := []) hm rfl
        clear hm HD hx0 hx1 hx2 hx3
        go_upto_region 10 with (fail)
        go_cut [6] from 27 to 45 (fun v wx => v = .bool (decide (0 ≤ xo) && decide (sz ≤ 16) && modeM xm) ∧ Hid (Mem w [] wx [TabA p L2, BlockA g8 #[.int .i64 xo, .string xk, .int .i64 xm, .bool xl] 28]))
        case first =>
          clear HL1 HL2 OK2 SM2
          by_cases c0 : 0 ≤ xo
          · have d0 : decide (0 ≤ xo) = true := decide_eq_true c0
            by_cases c1 : sz ≤ 16
            · have d1 : decide ((sz : Int) ≤ 16) = true := decide_eq_true (by omega)
              have d1' : decide (sz ≤ 16) = true := decide_eq_true c1
              cases c2 : (xm == 1) with
              | true =>
                have hmm : modeM xm = true := by unfold modeM; rw [c2]; rfl
                go_wp2_with fail
                go_meet
                case rel => exact ⟨by rw [d0, d1', hmm]; rfl, M2⟩
              | false =>
                have hmm : modeM xm = (xm == 2) := by unfold modeM; rw [c2]; rfl
                go_wp2_with fail
                go_meet
                case rel => exact ⟨by rw [d0, d1', hmm]; rfl, M2⟩
            · have d1 : decide ((sz : Int) ≤ 16) = false := decide_eq_false (by omega)
              have d1' : decide (sz ≤ 16) = false := decide_eq_false c1
              go_wp2_with fail
              go_meet
              case rel => exact ⟨by rw [d0, d1']; rfl, M2⟩
          · have d0 : decide (0 ≤ xo) = false := decide_eq_false c0
            go_wp2_with fail
            go_meet
            case rel => exact ⟨by rw [d0]; rfl, M2⟩
        case rest =>
          clear M2 z0 z1 z2
          obtain ⟨rfl, M3⟩ := hcut
          obtain ⟨z0, -⟩ := Mem.cellAt (i := 0) (v := .int .i64 xo) [TabA p L2] (r := []) M3.out rfl
          obtain ⟨z1, -⟩ := Mem.cellAt (i := 1) (v := .string xk) [TabA p L2] (r := []) M3.out rfl
          obtain ⟨z2, -⟩ := Mem.cellAt (i := 2) (v := .int .i64 xm) [TabA p L2] (r := []) M3.out rfl
          obtain ⟨z3, -⟩ := Mem.cellAt (i := 3) (v := .bool xl) [TabA p L2] (r := []) M3.out rfl
          have q0 := cell_regrown z0
          have q1 := cell_regrown z1
          have q2 := cell_regrown z2
          have q3 := cell_regrown z3
          have cH := reg_tholds M3.out OK2.out (SM2.out.mono (by omega)) xo xk
          have cW := reg_twaits M3.out OK2.out (SM2.out.mono (by omega)) xo xk
          have HGR : Hid (∀ d os, Mem w [] (grow (redrawn wc d) os) [TabA p L2]) := Lib.hid fun d os => Mem.drop [TabA p L2] (r := []) (M3.out.below (below_regrown wc d os))
          clear z0 z1 z2 z3 M3
          have hmix : Try.prog.follows .mixedOrders = true := by kernel_rfl
          have HL1b := HL1
          have HL2b := HL2
          clear HL1 HL2
          generalize hvh : ofH (lineL L2 xk).hs xo = vh at *
          generalize hvw : ofH (lineL L2 xk).qs xo = vw at *
          have HVH := Lib.hid hvh
          have HVW := Lib.hid hvw
          clear hvh hvw
          have HTR : Hid ((decide (0 ≤ xo) && decide (sz ≤ 16) && modeM xm) = true → 0 ≤ xo ∧ sz ≤ 16 ∧ modeM xm = true) := Lib.hid fun h => by
            simp only [Bool.and_eq_true, decide_eq_true_eq] at h
            exact ⟨h.1.1, h.1.2, h.2⟩
          generalize (decide (0 ≤ xo) && decide (sz ≤ 16) && modeM xm) = rb at *
          go_upto_region 11 with (fail)
          go_cut [91] from 46 to 91 (fun v wx => v = .bool false ∧ Hid (Mem w [] wx [TabA p L2]))
          case first =>
            cases xl with
            | true =>
              obtain ⟨e1, e2⟩ := HL1b.out rfl
              rw [e1] at cH
              rw [e2] at cW
              clear HL1b HL2b e1 e2 HVH HVW HTR
              refine wp_region_quiet_below hmix (by kernel_rfl) ?_
              repeat (go_big_quiet_step (first | exact cH _ _ | exact cW _ _))
              refine wpQuiet_nil ?_
              intro _ hw'
              obtain ⟨⟨dq, osq⟩, hw'⟩ := hw'
              subst hw'
              have HW := Lib.hid (HGR.out dq osq)
              clear HGR q0 q1 q2 q3 cH cW
              go_wp2_with fail
              go_meet
              case rel => exact ⟨rfl, HW⟩
            | false =>
              cases rb with
              | false =>
                clear HL1b HL2b HVH HVW HTR
                refine wp_region_quiet_below hmix (by kernel_rfl) ?_
                repeat (go_big_quiet_step (first | exact cH _ _ | exact cW _ _))
                refine wpQuiet_nil ?_
                intro _ hw'
                obtain ⟨⟨dq, osq⟩, hw'⟩ := hw'
                subst hw'
                have HW := Lib.hid (HGR.out dq osq)
                clear HGR q0 q1 q2 q3 cH cW
                go_wp2_with fail
                go_meet
                case rel => exact ⟨rfl, HW⟩
              | true =>
                obtain ⟨t0, t1, t2⟩ := HTR.out rfl
                have HPOS := Lib.hid (HL2b.out rfl t0 t1 t2)
                clear HL1b HL2b HVH HVW HTR t0 t1 t2
                by_cases hlt2 : vh < xm
                · have hd1 : decide (vh < xm) = true := decide_eq_true hlt2
                  have hne := HPOS.out hlt2
                  have hd2 : (vw == 0) = false := by simp; omega
                  clear HPOS hne
                  refine wp_region_quiet_below hmix (by kernel_rfl) ?_
                  repeat (go_big_quiet_step (first | exact cH _ _ | exact cW _ _))
                  refine wpQuiet_nil ?_
                  intro _ hw'
                  obtain ⟨⟨dq, osq⟩, hw'⟩ := hw'
                  subst hw'
                  have HW := Lib.hid (HGR.out dq osq)
                  clear HGR q0 q1 q2 q3 cH cW
                  go_wp2_with fail
                  go_meet
                  case rel => exact ⟨rfl, HW⟩
                · have hd1 : decide (vh < xm) = false := decide_eq_false hlt2
                  clear HPOS
                  refine wp_region_quiet_below hmix (by kernel_rfl) ?_
                  repeat (go_big_quiet_step (first | exact cH _ _ | exact cW _ _))
                  refine wpQuiet_nil ?_
                  intro _ hw'
                  obtain ⟨⟨dq, osq⟩, hw'⟩ := hw'
                  subst hw'
                  have HW := Lib.hid (HGR.out dq osq)
                  clear HGR q0 q1 q2 q3 cH cW
                  go_wp2_with fail
                  go_meet
                  case rel => exact ⟨rfl, HW⟩
          case rest =>
            clear HGR q0 q1 q2 q3 cH cW HL1b HL2b HVH HVW HTR
            obtain ⟨rfl, M4⟩ := hcut
            have hL2n : L2.length ≤ 100 := by have := SM2.out.1; omega
            have HKY := Lib.hid (mem_tkeys (r := []) M4.out (SM2.out.mono (by omega)))
            simp only [List.length_map] at HKY
            clear M4
            go_wp2_with fail
            refine HKY.out.mono ?_
            rintro e w5 ⟨ak, ck, rfl, hm⟩
            have M5 := Lib.hid (Mem.swap [] (r := []) hm)
            clear hm HKY
            go_wp2_with fail
            go_loopw [95] (fun jv wr => ∃ j : Nat, j ≤ L2.length ∧ jv = .int .i64 j ∧ Hid (Mem w [] wr [TabA p L2, RowS ak ck (L2.map (·.key))])) (fun jv _ => L2.length - (intOf jv).toNat)
            case atStart => exact ⟨0, Nat.zero_le _, rfl, M5⟩
            case round =>
              obtain ⟨w6, rfl⟩ : ∃ w6, w6 = wr := ⟨_, rfl⟩
              obtain ⟨j, hj, rfl, hS⟩ := hrel
              clear M5
              by_cases hltj : j < L2.length
              · obtain ⟨gk, rfl, hck⟩ := (Mem.rowAt [TabA p L2] (r := []) hS.out).cellAt j (by simp [strsV]; omega)
                have hkv : (strsV (L2.map (·.key)))[j]'(by simp [strsV]; omega) = .string L2[j].key := by simp [strsV]
                rw [hkv] at hck
                have hle := lineL_eq OK2.out.s (List.getElem_mem hltj)
                have hokj := OK2.out.ok _ (List.getElem_mem hltj)
                have hne := OK2.out.held (List.getElem_mem hltj)
                have HHB := Lib.hid (SM2.out.2 _ (List.getElem_mem hltj))
                have HHS := Lib.hid (mem_tholders (r := [RowS (some ⟨gk, 0, none⟩) ck (L2.map (·.key))]) hS.out OK2.out (SM2.out.mono (by omega)) L2[j].key)
                rw [hle] at HHS
                have HLE := Lib.hid hle
                have HHO := Lib.hid fun x (hx : x ∈ L2[j].hs) => hokj.w.hof hx
                have HSO := Lib.hid fun x (hx : x ∈ L2[j].hs) => And.intro (hokj.w.hp x hx).2 (hokj.w.sole x hx)
                clear hle hokj hkv
                generalize hKS : L2.map (·.key) = KS at *
                clear hKS
                generalize L2[j] = lj at *
                obtain ⟨lk, H, Q⟩ := lj
                simp only at hck hne HHS HHO HSO HLE HHB
                have hne1 : 0 < H.length := List.length_pos_iff.2 hne
                clear hS hne
                go_wp2_with fail
                refine HHS.out.mono ?_
                rintro e w7 ⟨⟨sa, sn, sc⟩, rfl, hm⟩
                have hsn := Mem.sl_len [] (r := [TabA p L2, RowS (some ⟨gk, 0, none⟩) ck KS]) hm
                have hsn : sn = H.length := hsn
                have M7 := Lib.hid (Mem.swap [] (r := [RowS (some ⟨gk, 0, none⟩) ck KS]) hm)
                have HSN := Lib.hid hsn
                have hsn0 : ((sn : Int) == 0) = false := by simp; omega
                have hsnb : sn ≤ 100 := by have := HHB.out; omega
                simp only [slv]
                clear hm HHS hck hne1 hsn
                go_wp2_with fail
                go_loopw [104] (fun jv wr => ∃ i : Nat, i ≤ sn ∧ jv = .int .i64 i ∧ Hid (Mem w [] wr [TabA p L2, RowH ⟨sa, sn, sc⟩ H, RowS (some ⟨gk, 0, none⟩) ck KS])) (fun jv _ => sn - (intOf jv).toNat)
                case atStart => exact ⟨0, Nat.zero_le _, rfl, M7⟩
                case round =>
                  obtain ⟨w8, rfl⟩ : ∃ w8, w8 = wr := ⟨_, rfl⟩
                  obtain ⟨i, hi, rfl, hS⟩ := hrel
                  clear M7
                  by_cases hlti : i < sn
                  · have hiH : i < H.length := by rw [← HSN.out]; exact hlti
                    obtain ⟨gh, rfl, hcz⟩ := hdAt_row (Mem.rowAt [TabA p L2] (r := [RowS (some ⟨gk, 0, none⟩) ck KS]) hS.out) i hiH
                    obtain ⟨c0, c1⟩ := hcz
                    have hof := HHO.out _ (List.getElem_mem hiH)
                    have hso := HSO.out _ (List.getElem_mem hiH)
                    have hm9 := hS.out.block #[.int .i64 H[i].owner, .int .i64 H[i].mode] 36
                    clear hS
                    generalize H[i] = z at *
                    obtain ⟨zo, zm⟩ := z
                    simp only at c0 c1 hof hso hm9
                    have hso2 : (zm == 1) = false → sn = 1 := fun h => by
                      rw [HSN.out]
                      refine hso.2 ?_
                      rcases modeM_iff.1 hso.1 with e | e
                      · rw [e] at h; cases h
                      · exact e
                    have HSO2 := Lib.hid hso2
                    have HOF := Lib.hid hof
                    have M9 := Lib.hid hm9
                    clear hso hso2 hof hm9
                    go_upto_region 20 with (fail)
                    obtain ⟨w9, hw9⟩ : ∃ w9, w9 = w8.alloc (.cells #[.int .i64 zo, .int .i64 zm] 36) := ⟨_, rfl⟩
                    rw [← hw9] at M9 ⊢
                    clear hw9 c0 c1
                    generalize w8.heap.size = b9 at *
                    have M10 := Lib.hid (Mem.swap [] (r := [RowH ⟨some ⟨gh, 0, none⟩, sn, sc⟩ H, RowS (some ⟨gk, 0, none⟩) ck KS]) M9.out)
                    obtain ⟨y0, -⟩ := Mem.cellAt (i := 0) (v := .int .i64 zo) [] (r := [TabA p L2, RowH ⟨some ⟨gh, 0, none⟩, sn, sc⟩ H, RowS (some ⟨gk, 0, none⟩) ck KS]) M9.out rfl
                    obtain ⟨y1, -⟩ := Mem.cellAt (i := 1) (v := .int .i64 zm) [] (r := [TabA p L2, RowH ⟨some ⟨gh, 0, none⟩, sn, sc⟩ H, RowS (some ⟨gk, 0, none⟩) ck KS]) M9.out rfl
                    have q0 := cell_regrown y0
                    have q1 := cell_regrown y1
                    have cH := reg_tholds M10.out OK2.out (SM2.out.mono (by omega)) zo lk
                    rw [HLE.out] at cH
                    simp only [HOF.out] at cH
                    have HGR : Hid (∀ d os, Mem w [] (grow (redrawn w9 d) os) [TabA p L2, RowH ⟨some ⟨gh, 0, none⟩, sn, sc⟩ H, RowS (some ⟨gk, 0, none⟩) ck KS]) := Lib.hid fun d os => Mem.drop [] (r := [TabA p L2, RowH ⟨some ⟨gh, 0, none⟩, sn, sc⟩ H, RowS (some ⟨gk, 0, none⟩) ck KS]) (M9.out.below (below_regrown w9 d os))
                    clear y0 y1 M9 M10 HOF
                    cases hz1 : (zm == 1) with
                    | true =>
                      have hz2 : (zm != 1) = false := by simp only [bne, hz1, Bool.not_true]
                      clear HSO2 hz1
                      refine wp_region_quiet_below hmix (by kernel_rfl) ?_
                      repeat (go_big_quiet_step (exact cH _ _))
                      refine wpQuiet_nil ?_
                      intro _ hw'
                      obtain ⟨⟨dq, osq⟩, hw'⟩ := hw'
                      subst hw'
                      have HW := Lib.hid (HGR.out dq osq)
                      clear HGR q0 q1 cH
                      go_wp2_with fail
                      go_roundw
                      case rel => exact ⟨i + 1, by omega, by go_num, HW⟩
                      case measure => simp [intOf]; omega
                    | false =>
                      have hz2 : (zm != 1) = true := by simp only [bne, hz1, Bool.not_false]
                      have hs1 := HSO2.out hz1
                      have hd1 : decide ((1 : Int) < (sn : Int)) = false := decide_eq_false (by omega)
                      have hd2 : decide ((1 : Int) < (H.length : Int)) = false := decide_eq_false (by have := HSN.out; omega)
                      clear HSO2 hz1 hs1
                      refine wp_region_quiet_below hmix (by kernel_rfl) ?_
                      repeat (go_big_quiet_step (exact cH _ _))
                      refine wpQuiet_nil ?_
                      intro _ hw'
                      obtain ⟨⟨dq, osq⟩, hw'⟩ := hw'
                      subst hw'
                      have HW := Lib.hid (HGR.out dq osq)
                      clear HGR q0 q1 cH
                      go_wp2_with fail
                      go_roundw
                      case rel => exact ⟨i + 1, by omega, by go_num, HW⟩
                      case measure => simp [intOf]; omega
                  · obtain rfl : i = sn := by omega
                    have HM := Lib.hid (Mem.drop [TabA p L2] (r := [RowS (some ⟨gk, 0, none⟩) ck KS]) hS.out)
                    clear hS
                    go_wp2_with fail
                    go_roundw
                    case rel => exact ⟨j + 1, by omega, by go_num, HM⟩
                    case measure => simp [intOf]; omega
              · obtain rfl : j = L2.length := by omega
                have HM := Lib.hid (Mem.drop [TabA p L2] (r := []) hS.out)
                clear hS
                go_wp2_with fail
                go_roundw
                case rel => exact ⟨k + 1, by omega, by go_num, Lib.hid ⟨L2, OK2.out, SM2.out, HM.out⟩⟩
                case measure => simp [intOf]; omega
      · obtain rfl : k = n := by omega
        have HF := Lib.hid hmem.bel
        clear hok hsm hmem
        go_wp2_with fail
        go_ret
        exact ⟨rfl, HF.out⟩
end Go.Proofs.Ytnemgmlhcjhdhaa
