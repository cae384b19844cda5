/- LocksFair walked. -/
import Derived.Test.YtnemgmlhcjhdhaaAM
import Derived.Test.YtnemgmlhcjhdhaaAL
namespace Go.Proofs.Ytnemgmlhcjhdhaa
open Go.RowKit Go.Sort
theorem HdsAt.tail {w : World} {g o n : Nat} {l : List Hd} (h : HdsAt w (some ⟨g, o, none⟩) n l) (i : Nat) : ∀ r (hr : r < (l.drop (i + 1)).length), hdAt w g (o + (i + 1 + r) * 2) (l.drop (i + 1))[r] := fun r hr => by
  have hr' : i + 1 + r < l.length := by rw [List.length_drop] at hr; omega
  obtain ⟨g', o', e, h1⟩ := h.2 (i + 1 + r) hr'
  simp only [Option.some.injEq, Addr.mk.injEq, and_true] at e
  obtain ⟨rfl, rfl⟩ := e
  rw [List.getElem_drop]; exact h1
theorem own_next {l : List Hd} {o : Int} {j : Nat} (h : j < l.length) : ((l.take (j + 1)).any fun y => y.owner == o) = (((l.take j).any fun y => y.owner == o) || l[j].owner == o) := by
  rw [List.take_succ_eq_append_getElem h, List.any_append]; simp
theorem own_any {l : List Hd} {o : Int} : (l.any fun y => y.owner == o) = true ↔ ∃ y ∈ l, y.owner = o := by
  rw [List.any_eq_true]; simp
set_option maxRecDepth 100000 in
set_option maxHeartbeats 16000000 in
theorem fair_any (a : Option Addr) (n c : Nat) (l : List Ac) (w : World) (hn : n ≤ maxLen) (h : ActsAt w a n l) :
    Calls Try.prog 3 #[.slice a n c] w (fun e w' => e = .returned (.bool true) ∧ Below w.heap.size w w') := by
  have HA := Lib.hid h
  have HFX := Lib.hid fixed_any
  have HFW := Lib.hid fun W (hb : Below w.heap.size w W) => few_any a n c l W hn (h.below hb)
  have HNW := Lib.hid tab_new
  have HNL := Lib.hid h.1
  unfold maxLen at hn
  clear h
  go_enter Try.func3, Try.ntmps3
  go_wp2_with fail
  refine (HFX.out w).mono ?_
  rintro e w1 ⟨rfl, hb⟩
  have HB := Lib.hid hb
  clear hb
  go_wp2_with fail
  refine (HFW.out _ HB.out).mono ?_
  rintro e w2 ⟨rfl, hb⟩
  have HB2 := Lib.hid (HB.out.trans (hb.mono HB.out.size))
  clear hb HFX HFW HB
  cases hfw : fewA l with
  | false =>
    clear hfw
    go_wp2_with fail
    go_ret
    exact ⟨rfl, HB2.out⟩
  | true =>
    have hn60 : n ≤ 60 := by rw [HNL.out]; exact few_len hfw
    clear hfw
    go_wp2_with fail
    refine (HNW.out w2).mono ?_
    rintro e w3 ⟨p, rfl, hA, hf, hb⟩
    have HI : Hid (LHead w p 0 w3) := Lib.hid ⟨[], LOk.nil, Sm.nil, ((Mem.nil w).below HB2.out).new hb hA hf⟩
    clear hA hf hb HB2 HNW
    go_wp2_with fail
    go_loopw [31] (fun j wr => ∃ k : Nat, k ≤ n ∧ j = .int .i64 k ∧ Hid (LHead w p k wr)) (fun j _ => n - (intOf j).toNat)
    case atStart => exact ⟨0, Nat.zero_le _, rfl, HI⟩
    case round =>
      obtain ⟨W0, rfl⟩ : ∃ W0, W0 = wr := ⟨_, rfl⟩
      obtain ⟨k, hk, rfl, hS⟩ := hrel
      clear HI
      obtain ⟨L, hok, hsm, hmem⟩ := hS.out
      clear hS
      by_cases hlt : k < n
      · obtain ⟨g, off, rfl, ⟨hx0, hx1, hx2, hx3⟩, r0, r1, r2, r3, r4⟩ := (HA.out.below hmem.bel).2 k (by rw [← HA.out.1]; exact hlt)
        generalize l[k]'(by rw [← HA.out.1]; exact hlt) = x at *
        have HLS := Lib.hid (mem_tlines (r := [BlockA W0.heap.size #[.int .i64 x.owner, .string x.key, .int .i64 x.mode, .bool x.leave] 28]) (Mem.swap [] (r := []) (hmem.block #[.int .i64 x.owner, .string x.key, .int .i64 x.mode, .bool x.leave] 28)) (hsm.mono (by omega)))
        have HFD := Lib.hid fun li (hli : li ∈ L) i (hi : i < li.qs.length) => fair_do hok x hli hi
        have HD := Lib.hid fun W r (_ : Stables r) (h : Mem w [] W (TabA p L :: r)) => mem_do (r := r) h hok (hsm.mono (by omega)) x
        have OK2 := Lib.hid (hok.doT x)
        have SM2 := Lib.hid (hsm.doT x)
        have HSM := Lib.hid hsm
        have hLn : L.length ≤ 100 := by have := hsm.1; omega
        clear hok hsm hmem
        generalize doT L x = L2 at *
        obtain ⟨xo, xk, xm, xl⟩ := x
        simp only at hx0 hx1 hx2 hx3 r0 r1 r2 r3 r4 HD HLS HFD
        go_wp2_with fail
        generalize W0.heap.size = g8 at *
        refine HLS.out.mono ?_
        rintro e w4 ⟨b, d, X, rfl, hkX, hm⟩
        have M4 := Lib.hid (hm.perm (l' := TabA p L :: BlockA g8 #[.int .i64 xo, .string xk, .int .i64 xm, .bool xl] 28 :: RowA 34 3 b L.length d (lnFlat X) :: rowsOf X L) (perm_ct fun x => by simp only [cnt_cons, cnt_append, cnt_nil]; omega))
        obtain ⟨z0, -⟩ := Mem.cellAt (i := 0) (v := .int .i64 xo) [TabA p L] (r := RowA 34 3 b L.length d (lnFlat X) :: rowsOf X L) M4.out rfl
        obtain ⟨z1, -⟩ := Mem.cellAt (i := 1) (v := .string xk) [TabA p L] (r := RowA 34 3 b L.length d (lnFlat X) :: rowsOf X L) M4.out rfl
        obtain ⟨z2, -⟩ := Mem.cellAt (i := 2) (v := .int .i64 xm) [TabA p L] (r := RowA 34 3 b L.length d (lnFlat X) :: rowsOf X L) M4.out rfl
        obtain ⟨z3, -⟩ := Mem.cellAt (i := 3) (v := .bool xl) [TabA p L] (r := RowA 34 3 b L.length d (lnFlat X) :: rowsOf X L) M4.out rfl
        clear hm HLS hx0 hx1 hx2 hx3 r0 r1 r2 r3 r4
        go_wp2_with fail
        refine (HD.out _ _ inferInstance M4.out).mono ?_
        rintro e w5 ⟨rfl, hm⟩
        obtain ⟨z0, -⟩ := Mem.cellAt (i := 0) (v := .int .i64 xo) [TabA p L2] (r := RowA 34 3 b L.length d (lnFlat X) :: rowsOf X L) hm rfl
        obtain ⟨z3, -⟩ := Mem.cellAt (i := 3) (v := .bool xl) [TabA p L2] (r := RowA 34 3 b L.length d (lnFlat X) :: rowsOf X L) hm rfl
        have HZ : Hid (∀ W, Below w5.heap.size w5 W → W.cell? ⟨g8, 0, none⟩ = some (.int .i64 xo) ∧ W.cell? ⟨g8, 3, none⟩ = some (.bool xl)) := Lib.hid fun W hb => ⟨(hb.cell (World.block_lt_of_cell? w5 _ z0)).trans z0, (hb.cell (World.block_lt_of_cell? w5 _ z3)).trans z3⟩
        have HLN := Lib.hid (LinesC.mem (b := b) (d := d) (r := [TabA p L2, BlockA g8 #[.int .i64 xo, .string xk, .int .i64 xm, .bool xl] 28]) hkX (hm.perm (perm_ct fun x => by simp only [cnt_cons, cnt_append, cnt_nil]; omega)))
        have hm5 : Mem w [] w5 [TabA p L2] := (Mem.pack [TabA p L2] (r := BlockA g8 #[.int .i64 xo, .string xk, .int .i64 xm, .bool xl] 28 :: RowA 34 3 b L.length d (lnFlat X) :: rowsOf X L) hm) |> fun h => by
          obtain ⟨D, hA, hD⟩ := hm.out
          obtain ⟨D1, D2, rfl, -, h1, -⟩ := hA
          exact ⟨D1, all_one h1, hD.touch, fun x hx => hD.fresh x (List.mem_append_left _ hx)⟩
        obtain ⟨DT, hTA⟩ := Mem.get [] (r := []) hm5
        have hTW : ∀ W, Below w5.heap.size w5 W → TabA p L2 W DT := fun W hb => Stable.keep hTA fun x hx => hb.block x (Stable.lt hTA x hx)
        have HM5 := Lib.hid fun W (hb : Below w5.heap.size w5 W) => hm5.below hb
        have hSMb : Sm 1000 L2 := SM2.out.mono (by omega)
        have hL2b : L2.length ≤ 1000000 := by have := SM2.out.1; omega
        have HTW := Lib.hid fun W (hb : Below w5.heap.size w5 W) o k => (tab_waits p L2 o k W DT (hTW W hb) OK2.out.s hL2b).mono fun e w' (h : e = .returned (.int .i64 (ofH (lineL L2 k).qs o)) ∧ Below W.heap.size W w') => And.intro h.1 (And.intro (hb.trans (h.2.mono hb.size)) h.2)
        have HTH := Lib.hid fun W (hb : Below w5.heap.size w5 W) o k d os => Calls.regrown_of (w := W) (d := d) (os := os) (tab_holds p L2 o k _ DT (hTW _ (hb.trans ((below_regrown W d os).mono hb.size))) OK2.out.s hL2b)
        have HTS := Lib.hid fun W (hb : Below w5.heap.size w5 W) k => (tab_holders p L2 k W DT (hTW W hb) OK2.out.s hSMb).mono fun e w' (h : ∃ s, e = .returned (slv s) ∧ Row w' 36 2 s.a s.n s.c (hdFlat (lineL L2 k).hs) ∧ Below W.heap.size W w' ∧ ∀ x ∈ blkOf s.a, W.heap.size ≤ x) => (by
          obtain ⟨s, he, hr, hb2, -⟩ := h
          exact ⟨s, he, HdsAt.row hr, hb.trans (hb2.mono hb.size), hb2⟩ : ∃ s : Sl, e = .returned (slv s) ∧ HdsAt w' s.a s.n (lineL L2 k).hs ∧ Below w5.heap.size w5 w' ∧ Below W.heap.size W w')
        clear hSMb hL2b hm hm5 hTA hTW M4 HD z0 z1 z2 z3 hkX
        have hmix : Try.prog.follows .mixedOrders = true := by kernel_rfl
        go_wp2_with fail
        go_loopw [42] (fun jv wr => ∃ j : Nat, j ≤ L.length ∧ jv = .int .i64 j ∧ Hid (Below w5.heap.size w5 wr)) (fun jv _ => L.length - (intOf jv).toNat)
        case atStart => exact ⟨0, Nat.zero_le _, rfl, Lib.hid (Below.refl _ _)⟩
        case round =>
          obtain ⟨w6, rfl⟩ : ∃ w6, w6 = wr := ⟨_, rfl⟩
          obtain ⟨j, hj, rfl, HB6⟩ := hrel
          by_cases hltj : j < L.length
          · obtain ⟨gl, ol, y, rfl, hy, hyk, hyh, hyq, hy1, hy2, hy3⟩ := HLN.out.2 j hltj
            obtain ⟨k0, k1, k2⟩ := hy.below HB6.out
            have HFJ := Lib.hid (HFD.out L[j] (List.getElem_mem hltj))
            have hszj := HSM.out.2 _ (List.getElem_mem hltj)
            have hsz2 := SM2.out.mono (by omega : k + 1 ≤ 100)
            have HSL := Lib.hid (hsz2.line L[j].key)
            clear hy hsz2
            generalize L[j] = lj at *
            obtain ⟨lk, H, Q⟩ := lj
            obtain ⟨yk, ⟨ha, hn', hc'⟩, ⟨qa, qn, qc⟩⟩ := y
            simp only at k0 k1 k2 hyk hyh hyq hy1 hy2 hy3 HFJ hszj HSL
            subst hyk
            obtain rfl : hn' = H.length := hyh.1
            obtain rfl : qn = Q.length := hyq.1
            have HH := Lib.hid hyh
            have HQ := Lib.hid hyq
            have hH100 : H.length ≤ 100 := by omega
            have hQ100 : Q.length ≤ 100 := by omega
            clear hyh hyq hy1 hy2 hszj
            generalize hl2 : lineL L2 yk = l2 at *
            have HE2 := Lib.hid hl2
            clear hl2
            obtain ⟨l2k, H2, Q2⟩ := l2
            simp only at HFJ HSL
            go_upto_region 14 with (fail)
            obtain ⟨w7, hw7⟩ : ∃ w7, w7 = w6.alloc (.cells #[.string yk, .slice ha H.length hc', .slice qa Q.length qc] 34) := ⟨_, rfl⟩
            have hb7 : Below w5.heap.size w5 w7 := by rw [hw7]; exact bel_one HB6.out _
            have y0 : w7.cell? ⟨w6.heap.size, 0, none⟩ = some (.string yk) := by rw [hw7]; simp [go_sem]
            have y1 : w7.cell? ⟨w6.heap.size, 1, none⟩ = some (.slice ha H.length hc') := by rw [hw7]; simp [go_sem]
            have y2 : w7.cell? ⟨w6.heap.size, 2, none⟩ = some (.slice qa Q.length qc) := by rw [hw7]; simp [go_sem]
            rw [← hw7]
            clear hw7 k0 k1 k2
            generalize w6.heap.size = b8 at *
            have q0 := cell_regrown y0
            have q1 := cell_regrown y1
            have q2 := cell_regrown y2
            have HGR : Hid (∀ d os, Below w5.heap.size w5 (grow (redrawn w7 d) os)) := Lib.hid fun d os => hb7.trans ((below_regrown w7 d os).mono hb7.size)
            clear hb7 y0 y1 y2
            refine wp_region_quiet_below hmix (by kernel_rfl) ?_
            repeat (go_big_quiet_step (fail))
            refine wpQuiet_nil ?_
            intro _ hw'
            obtain ⟨⟨dq, osq⟩, hw'⟩ := hw'
            subst hw'
            have HB8 := Lib.hid (HGR.out dq osq)
            clear HGR q0 q1 q2
            obtain ⟨w8, hw8⟩ : ∃ w8, w8 = grow (redrawn w7 dq) osq := ⟨_, rfl⟩
            rw [← hw8] at HB8 ⊢
            clear hw8
            go_wp2_with fail
            go_loopw [54] (fun jv wr => ∃ i : Nat, i ≤ Q.length ∧ jv = .int .i64 i ∧ Hid (Below w5.heap.size w5 wr)) (fun jv _ => Q.length - (intOf jv).toNat)
            case atStart => exact ⟨0, Nat.zero_le _, rfl, HB8⟩
            case round =>
              obtain ⟨w9, rfl⟩ : ∃ w9, w9 = wr := ⟨_, rfl⟩
              obtain ⟨i, hi, rfl, HB9⟩ := hrel
              clear HB8
              by_cases hlti : i < Q.length
              · obtain ⟨gq, oq, rfl, hcz⟩ := HQ.out.2 i hlti
                obtain ⟨c0, c1⟩ := hcz.below HB9.out
                have HFI := Lib.hid (HFJ.out i hlti)
                have HTL := Lib.hid (HQ.out.tail i)
                clear hcz
                generalize Q[i] = z at *
                obtain ⟨zo, zm⟩ := z
                simp only at c0 c1 HFI
                go_upto_region 18 with (fail)
                obtain ⟨w10, hw10⟩ : ∃ w10, w10 = w9.alloc (.cells #[.int .i64 zo, .int .i64 zm] 36) := ⟨_, rfl⟩
                have HB10 : Hid (Below w5.heap.size w5 w10) := Lib.hid (by rw [hw10]; exact bel_one HB9.out _)
                have y0 : w10.cell? ⟨w9.heap.size, 0, none⟩ = some (.int .i64 zo) := by rw [hw10]; simp [go_sem]
                have y1 : w10.cell? ⟨w9.heap.size, 1, none⟩ = some (.int .i64 zm) := by rw [hw10]; simp [go_sem]
                rw [← hw10]
                clear hw10 c0 c1
                generalize w9.heap.size = b13 at *
                obtain ⟨z0, z3⟩ := HZ.out w10 HB10.out
                have HZM : Hid (∀ W, Below w10.heap.size w10 W → W.cell? ⟨b13, 1, none⟩ = some (.int .i64 zm)) := Lib.hid fun W hb => (hb.cell (World.block_lt_of_cell? w10 _ y1)).trans y1
                clear y1
                go_cut [75] from 59 to 75 (fun v wx => ∃ bb : Bool, v = .bool bb ∧ Hid (bb = false → ¬ (zo = xo ∧ xl = true) ∧ ofH Q2 zo ≠ 0) ∧ Hid (Below w5.heap.size w5 wx) ∧ Hid (Below w10.heap.size w10 wx))
                case first =>
                  clear HFD HFI HTL HZM HLN HTH HTS HFJ HM5
                  have hTw := HTW.out w10 HB10.out zo yk
                  rw [HE2.out] at hTw
                  have HCW := Lib.hid hTw
                  have HRF := Lib.hid (Below.refl w10.heap.size w10)
                  clear HTW hTw
                  cases h1 : (zo == xo) with
                  | true =>
                    obtain rfl : xo = zo := (beq_iff_eq.1 h1).symm
                    clear h1
                    cases xl with
                    | true =>
                      go_wp2_with fail
                      go_meet
                      case rel => exact ⟨true, rfl, Lib.hid (by simp), HB10, HRF⟩
                    | false =>
                      go_wp2_with fail
                      refine HCW.out.mono ?_
                      rintro e w11 ⟨rfl, hb⟩
                      have HB11 := Lib.hid hb.1
                      have HB12 := Lib.hid hb.2
                      clear hb HCW
                      generalize ofH Q2 xo = vq at *
                      cases hv : (vq == 0) with
                      | true =>
                        go_wp2_with fail
                        go_meet
                        case rel => exact ⟨true, rfl, Lib.hid (by simp), HB11, HB12⟩
                      | false =>
                        have hv2 : vq ≠ 0 := by simpa using hv
                        have HV := Lib.hid hv2
                        clear hv2
                        go_wp2_with fail
                        go_meet
                        case rel => exact ⟨false, rfl, Lib.hid fun _ => ⟨fun h => (by cases h.2), HV.out⟩, HB11, HB12⟩
                  | false =>
                    have h2 : ¬ zo = xo := by rw [beq_eq_false_iff_ne] at h1; exact h1
                    have HNE := Lib.hid h2
                    clear h2
                    go_wp2_with fail
                    refine HCW.out.mono ?_
                    rintro e w11 ⟨rfl, hb⟩
                    have HB11 := Lib.hid hb.1
                    have HB12 := Lib.hid hb.2
                    clear hb HCW
                    generalize ofH Q2 zo = vq at *
                    cases hv : (vq == 0) with
                    | true =>
                      go_wp2_with fail
                      go_meet
                      case rel => exact ⟨true, rfl, Lib.hid (by simp), HB11, HB12⟩
                    | false =>
                      have hv2 : vq ≠ 0 := by simpa using hv
                      have HV := Lib.hid hv2
                      clear hv2
                      go_wp2_with fail
                      go_meet
                      case rel => exact ⟨false, rfl, Lib.hid fun _ => ⟨fun h => HNE.out h.1, HV.out⟩, HB11, HB12⟩
                case rest =>
                  obtain ⟨bb, rfl, HBB, HB11, HB12⟩ := hcut
                  clear z0 z3 y0 HTW HZ
                  cases bb with
                  | true =>
                    clear HBB
                    go_wp2_with fail
                    go_roundw
                    case rel => exact ⟨i + 1, by omega, by go_num, HB11⟩
                    case measure => simp [intOf]; omega
                  | false =>
                    obtain ⟨hlaw1, hlaw2⟩ := HFI.out (HBB.out rfl).1 (HBB.out rfl).2
                    have HL1 := Lib.hid hlaw1
                    have HL2 := Lib.hid hlaw2
                    clear hlaw1 hlaw2 HBB HFI
                    have hz1 := HZM.out wc HB12.out
                    have hi1 : (i : Int) + 1 ≤ (Q.length : Int) := by omega
                    have hi2 : (i : Int) + 1 ≤ (qc : Int) := by omega
                    have hi3 : i + 1 ≤ Q.length := by omega
                    have hi4 : i + 1 ≤ qc := by omega
                    have hdl : (Q.drop (i + 1)).length = Q.length - (i + 1) := List.length_drop
                    have HTN : Hid ((Q.drop (i + 1)).length ≤ 100) := Lib.hid (by rw [hdl]; omega)
                    go_upto_region 19 with (fail)
                    go_cut [79, 80, 81] from 76 to 81 (fun v79 v80 v81 wx => ∃ (ta : Option Addr) (tc : Nat), v79 = .slice ta (Q.length - (i + 1)) tc ∧ v80 = .int .i64 (Q.length - (i + 1) : Nat) ∧ v81 = .int .i64 0 ∧ Hid (∀ r (hr : r < (Q.drop (i + 1)).length), ∃ g o, ta = some ⟨g, o, none⟩ ∧ hdAt w5 g (o + r * 2) (Q.drop (i + 1))[r]) ∧ Hid (Below w5.heap.size w5 wx) ∧ Hid (Below w10.heap.size w10 wx))
                    case first =>
                      rcases Nat.lt_or_ge (i + 1) qc with hcap | hcap
                      · have hcap2 : (i : Int) + 1 < (qc : Int) := by omega
                        go_wp2_with fail
                        go_meet
                        case rel =>
                          refine ⟨some ⟨gq, oq + (i + 1) * 2, none⟩, _, rfl, rfl, rfl, Lib.hid fun r hr => ⟨gq, oq + (i + 1) * 2, rfl, ?_⟩, HB11, HB12⟩
                          have := HTL.out r hr
                          rw [show oq + (i + 1 + r) * 2 = oq + (i + 1) * 2 + r * 2 by omega] at this
                          exact this
                      · have hcap2 : qc = i + 1 := by omega
                        subst hcap2
                        go_wp2_with fail
                        go_meet
                        case rel =>
                          have h0 : Q.length - (i + 1) = 0 := by omega
                          exact ⟨some ⟨gq, oq, none⟩, 0, by rw [h0], by rw [h0]; rfl, rfl, Lib.hid fun r hr => (by rw [hdl, h0] at hr; exact absurd hr (Nat.not_lt_zero _)), HB11, HB12⟩
                    case rest =>
                      obtain ⟨ta, tc, rfl, rfl, rfl, HTT, HB13, HB14⟩ := hcut
                      clear HTL hi1 hi2 hi3 hi4
                      generalize Q.drop (i + 1) = T at *
                      rw [← hdl]
                      clear hdl hz1 HB11 HB12
                      have hTn : T.length ≤ 100 := HTN.out
                      go_wp2_with fail
                      go_loopw [81] (fun jv wr => ∃ r : Nat, r ≤ T.length ∧ jv = .int .i64 r ∧ Hid (Below w5.heap.size w5 wr) ∧ Hid (Below w10.heap.size w10 wr)) (fun jv _ => T.length - (intOf jv).toNat)
                      case atStart => exact ⟨0, Nat.zero_le _, rfl, HB13, HB14⟩
                      case round =>
                        obtain ⟨w14, rfl⟩ : ∃ w14, w14 = wr := ⟨_, rfl⟩
                        obtain ⟨r, hr, rfl, HB5, HB1⟩ := hrel
                        clear HB13 HB14
                        by_cases hltr : r < T.length
                        · obtain ⟨gt, ot, rfl, hct⟩ := HTT.out r hltr
                          obtain ⟨c0, c1⟩ := hct.below HB5.out
                          have hlw := HL1.out _ (List.getElem_mem hltr)
                          have HLW := Lib.hid hlw
                          clear hct hlw
                          generalize T[r] = x2 at *
                          obtain ⟨x2o, x2m⟩ := x2
                          simp only at c0 c1 HLW
                          go_upto_region 22 with (fail)
                          obtain ⟨w15, hw15⟩ : ∃ w15, w15 = w14.alloc (.cells #[.int .i64 x2o, .int .i64 x2m] 36) := ⟨_, rfl⟩
                          have hb5 : Below w5.heap.size w5 w15 := by rw [hw15]; exact bel_one HB5.out _
                          have hb10 : Below w10.heap.size w10 w15 := by rw [hw15]; exact bel_one HB1.out _
                          have y0 : w15.cell? ⟨w14.heap.size, 0, none⟩ = some (.int .i64 x2o) := by rw [hw15]; simp [go_sem]
                          have y1 : w15.cell? ⟨w14.heap.size, 1, none⟩ = some (.int .i64 x2m) := by rw [hw15]; simp [go_sem]
                          rw [← hw15]
                          clear hw15 c0 c1
                          generalize w14.heap.size = b15 at *
                          have q0 := cell_regrown y0
                          have q1 := cell_regrown y1
                          have q2 := cell_regrown (HZM.out w15 hb10)
                          have cH := HTH.out w15 hb5 x2o yk
                          rw [HE2.out] at cH
                          simp only at cH
                          have HGR : Hid (∀ d os, Below w5.heap.size w5 (grow (redrawn w15 d) os)) := Lib.hid fun d os => hb5.trans ((below_regrown w15 d os).mono hb5.size)
                          have HGR2 : Hid (∀ d os, Below w10.heap.size w10 (grow (redrawn w15 d) os)) := Lib.hid fun d os => hb10.trans ((below_regrown w15 d os).mono hb10.size)
                          clear hb5 hb10 y0 y1 HB5 HB1
                          generalize ofH H2 x2o = vh at *
                          have hvd : decide (x2m ≤ vh) = false := decide_eq_false (by have := HLW.out; omega)
                          clear HLW
                          cases hx2 : (x2m == 2) with
                          | true =>
                            refine wp_region_quiet_below hmix (by kernel_rfl) ?_
                            repeat (go_big_quiet_step (exact cH _ _))
                            refine wpQuiet_nil ?_
                            intro _ hw'
                            obtain ⟨⟨dq, osq⟩, hw'⟩ := hw'
                            subst hw'
                            have HW1 := Lib.hid (HGR.out dq osq)
                            have HW2 := Lib.hid (HGR2.out dq osq)
                            clear HGR HGR2 q0 q1 q2 cH
                            go_wp2_with fail
                            go_roundw
                            case rel => exact ⟨r + 1, by omega, by go_num, HW1, HW2⟩
                            case measure => simp [intOf]; omega
                          | false =>
                            cases hz2 : (zm == 2) with
                            | true =>
                              refine wp_region_quiet_below hmix (by kernel_rfl) ?_
                              repeat (go_big_quiet_step (exact cH _ _))
                              refine wpQuiet_nil ?_
                              intro _ hw'
                              obtain ⟨⟨dq, osq⟩, hw'⟩ := hw'
                              subst hw'
                              have HW1 := Lib.hid (HGR.out dq osq)
                              have HW2 := Lib.hid (HGR2.out dq osq)
                              clear HGR HGR2 q0 q1 q2 cH
                              go_wp2_with fail
                              go_roundw
                              case rel => exact ⟨r + 1, by omega, by go_num, HW1, HW2⟩
                              case measure => simp [intOf]; omega
                            | false =>
                              refine wp_region_quiet_below hmix (by kernel_rfl) ?_
                              repeat (go_big_quiet_step (exact cH _ _))
                              refine wpQuiet_nil ?_
                              intro _ hw'
                              obtain ⟨⟨dq, osq⟩, hw'⟩ := hw'
                              subst hw'
                              have HW1 := Lib.hid (HGR.out dq osq)
                              have HW2 := Lib.hid (HGR2.out dq osq)
                              clear HGR HGR2 q0 q1 q2 cH
                              go_wp2_with fail
                              go_roundw
                              case rel => exact ⟨r + 1, by omega, by go_num, HW1, HW2⟩
                              case measure => simp [intOf]; omega
                        · obtain rfl : r = T.length := by omega
                          have hhs := HTS.out w14 HB5.out yk
                          rw [HE2.out] at hhs
                          have HHS := Lib.hid hhs
                          clear hhs HTT HL1
                          go_wp2_with fail
                          refine HHS.out.mono ?_
                          rintro e w16 ⟨⟨sa, sn, sc⟩, rfl, hhd, hb16, hb14⟩
                          have hsn : sn = H2.length := hhd.1
                          subst hsn
                          have HHD := Lib.hid hhd
                          have HBA := Lib.hid hb16
                          have HBC : Hid (Below w16.heap.size w16 w16) := Lib.hid (Below.refl _ _)
                          have HBB : Hid (Below w10.heap.size w10 w16) := Lib.hid (HB1.out.trans (hb14.mono HB1.out.size))
                          have hH2 : H2.length ≤ 100 := by have := HSL.out; omega
                          simp only [slv]
                          clear hhd hb16 hb14 HHS HB5 HB1
                          go_wp2_with fail
                          go_loopw [108] (fun jv wr => ∃ r : Nat, r ≤ H2.length ∧ jv = .int .i64 r ∧ Hid (Below w5.heap.size w5 wr) ∧ Hid (Below w10.heap.size w10 wr) ∧ Hid (Below w16.heap.size w16 wr)) (fun jv _ => H2.length - (intOf jv).toNat)
                          case atStart => exact ⟨0, Nat.zero_le _, rfl, HBA, HBB, HBC⟩
                          case round =>
                            obtain ⟨wa, rfl⟩ : ∃ wa, wa = wr := ⟨_, rfl⟩
                            obtain ⟨r, hr, rfl, HB5, HB1, HB6⟩ := hrel
                            clear HBA HBB HBC
                            by_cases hltr : r < H2.length
                            · obtain ⟨gt, ot, rfl, hct⟩ := HHD.out.2 r hltr
                              obtain ⟨c0, c1⟩ := hct.below HB6.out
                              have hth := HL2.out _ (List.getElem_mem hltr)
                              have HTHR := Lib.hid hth
                              clear hct hth
                              generalize H2[r] = x3 at *
                              obtain ⟨x3o, x3m⟩ := x3
                              simp only at c0 c1 HTHR
                              have HTH2 : Hid (((H.any fun y => y.owner == x3o) || (Q.any fun y => y.owner == x3o)) = true) := Lib.hid (by
                                rw [Bool.or_eq_true, own_any, own_any]; exact HTHR.out)
                              clear HTHR
                              go_wp2_with fail
                              obtain ⟨w17, hw17⟩ : ∃ w17, w17 = wa.alloc (.cells #[.int .i64 x3o, .int .i64 x3m] 36) := ⟨_, rfl⟩
                              have HB57 : Hid (Below w5.heap.size w5 w17) := Lib.hid (by rw [hw17]; exact bel_one HB5.out _)
                              have HB107 : Hid (Below w10.heap.size w10 w17) := Lib.hid (by rw [hw17]; exact bel_one HB1.out _)
                              have HB167 : Hid (Below w16.heap.size w16 w17) := Lib.hid (by rw [hw17]; exact bel_one HB6.out _)
                              have y0 : w17.cell? ⟨wa.heap.size, 0, none⟩ = some (.int .i64 x3o) := by rw [hw17]; simp [go_sem]
                              rw [← hw17]
                              clear hw17 c0 c1
                              generalize wa.heap.size = b17 at *
                              have HX17 : Hid (∀ W, Below w17.heap.size w17 W → W.cell? ⟨b17, 0, none⟩ = some (.int .i64 x3o)) := Lib.hid fun W hb => (hb.cell (World.block_lt_of_cell? w17 _ y0)).trans y0
                              have HB0 : Hid (Below w17.heap.size w17 w17) := Lib.hid (Below.refl _ _)
                              clear y0 HB5 HB1 HB6
                              go_loopw [18, 114] (fun v jv wr => ∃ q : Nat, q ≤ H.length ∧ jv = .int .i64 q ∧ v = .bool ((H.take q).any fun y => y.owner == x3o) ∧ Hid (Below w17.heap.size w17 wr)) (fun _ jv _ => H.length - (intOf jv).toNat)
                              case atStart => exact ⟨0, Nat.zero_le _, rfl, by simp, HB0⟩
                              case round =>
                                obtain ⟨w18, rfl⟩ : ∃ w18, w18 = wr := ⟨_, rfl⟩
                                obtain ⟨q, hq, rfl, rfl, HB18⟩ := hrel
                                clear HB0
                                by_cases hltq : q < H.length
                                · obtain ⟨gy, oy, rfl, hcy⟩ := HH.out.2 q hltq
                                  obtain ⟨c0, c1⟩ := hcy.below (HB57.out.trans (HB18.out.mono HB57.out.size))
                                  have hnx := own_next (o := x3o) hltq
                                  have HNX := Lib.hid hnx
                                  clear hcy hnx
                                  generalize H[q] = y2 at *
                                  obtain ⟨y2o, y2m⟩ := y2
                                  simp only at c0 c1 HNX
                                  go_upto_region 32 with (fail)
                                  obtain ⟨w19, hw19⟩ : ∃ w19, w19 = w18.alloc (.cells #[.int .i64 y2o, .int .i64 y2m] 36) := ⟨_, rfl⟩
                                  have HB19 : Hid (Below w17.heap.size w17 w19) := Lib.hid (by rw [hw19]; exact bel_one HB18.out _)
                                  have y0 : w19.cell? ⟨w18.heap.size, 0, none⟩ = some (.int .i64 y2o) := by rw [hw19]; simp [go_sem]
                                  rw [← hw19]
                                  clear hw19 c0 c1
                                  generalize w18.heap.size = b20 at *
                                  have x0 := HX17.out w19 HB19.out
                                  generalize ((H.take q).any fun y => y.owner == x3o) = av at *
                                  cases av with
                                  | true =>
                                    have HE : Hid (((H.take (q + 1)).any fun y => y.owner == x3o) = true) := Lib.hid (by rw [HNX.out]; rfl)
                                    clear HNX
                                    go_wp2_with fail
                                    go_roundw
                                    case rel => exact ⟨q + 1, by omega, by go_num, by rw [HE.out], HB19⟩
                                    case measure => simp [intOf]; omega
                                  | false =>
                                    have HE : Hid (((H.take (q + 1)).any fun y => y.owner == x3o) = (y2o == x3o)) := Lib.hid (by rw [HNX.out]; rfl)
                                    clear HNX
                                    go_wp2_with fail
                                    go_roundw
                                    case rel => exact ⟨q + 1, by omega, by go_num, by rw [HE.out], HB19⟩
                                    case measure => simp [intOf]; omega
                                · obtain rfl : q = H.length := by omega
                                  rw [List.take_length]
                                  have HB0 := HB18
                                  clear HB18
                                  go_wp2_with fail
                                  go_loopw [18, 129] (fun v jv wr => ∃ q : Nat, q ≤ Q.length ∧ jv = .int .i64 q ∧ v = .bool ((H.any fun y => y.owner == x3o) || ((Q.take q).any fun y => y.owner == x3o)) ∧ Hid (Below w17.heap.size w17 wr)) (fun _ jv _ => Q.length - (intOf jv).toNat)
                                  case atStart => exact ⟨0, Nat.zero_le _, rfl, by simp, HB0⟩
                                  case round =>
                                    obtain ⟨w18, rfl⟩ : ∃ w18, w18 = wr := ⟨_, rfl⟩
                                    obtain ⟨q, hq, rfl, rfl, HB18⟩ := hrel
                                    clear HB0
                                    by_cases hltq : q < Q.length
                                    · obtain ⟨gy, oy, ey, hcy⟩ := HQ.out.2 q hltq
                                      simp only [Option.some.injEq, Addr.mk.injEq, and_true] at ey
                                      obtain ⟨rfl, rfl⟩ := ey
                                      obtain ⟨c0, c1⟩ := hcy.below (HB57.out.trans (HB18.out.mono HB57.out.size))
                                      have hnx := (show ((H.any fun y => y.owner == x3o) || ((Q.take (q + 1)).any fun y => y.owner == x3o)) = (((H.any fun y => y.owner == x3o) || ((Q.take q).any fun y => y.owner == x3o)) || Q[q].owner == x3o) by rw [own_next hltq, Bool.or_assoc])
                                      have HNX := Lib.hid hnx
                                      clear hcy hnx
                                      generalize Q[q] = y2 at *
                                      obtain ⟨y2o, y2m⟩ := y2
                                      simp only at c0 c1 HNX
                                      go_upto_region 37 with (fail)
                                      obtain ⟨w19, hw19⟩ : ∃ w19, w19 = w18.alloc (.cells #[.int .i64 y2o, .int .i64 y2m] 36) := ⟨_, rfl⟩
                                      have HB19 : Hid (Below w17.heap.size w17 w19) := Lib.hid (by rw [hw19]; exact bel_one HB18.out _)
                                      have y0 : w19.cell? ⟨w18.heap.size, 0, none⟩ = some (.int .i64 y2o) := by rw [hw19]; simp [go_sem]
                                      rw [← hw19]
                                      clear hw19 c0 c1
                                      generalize w18.heap.size = b20 at *
                                      have x0 := HX17.out w19 HB19.out
                                      generalize ((H.any fun y => y.owner == x3o) || ((Q.take q).any fun y => y.owner == x3o)) = av at *
                                      cases av with
                                      | true =>
                                        have HE : Hid (((H.any fun y => y.owner == x3o) || ((Q.take (q + 1)).any fun y => y.owner == x3o)) = true) := Lib.hid (by rw [HNX.out]; rfl)
                                        clear HNX
                                        go_wp2_with fail
                                        go_roundw
                                        case rel => exact ⟨q + 1, by omega, by go_num, by rw [HE.out], HB19⟩
                                        case measure => simp [intOf]; omega
                                      | false =>
                                        have HE : Hid (((H.any fun y => y.owner == x3o) || ((Q.take (q + 1)).any fun y => y.owner == x3o)) = (y2o == x3o)) := Lib.hid (by rw [HNX.out]; rfl)
                                        clear HNX
                                        go_wp2_with fail
                                        go_roundw
                                        case rel => exact ⟨q + 1, by omega, by go_num, by rw [HE.out], HB19⟩
                                        case measure => simp [intOf]; omega
                                    · obtain rfl : q = Q.length := by omega
                                      rw [List.take_length]
                                      have hth : ((H.any fun y => y.owner == x3o) || (Q.any fun y => y.owner == x3o)) = true := HTH2.out
                                      rw [hth]
                                      have HW1 := Lib.hid (HB57.out.trans (HB18.out.mono HB57.out.size))
                                      have HW2 := Lib.hid (HB107.out.trans (HB18.out.mono HB107.out.size))
                                      have HW3 := Lib.hid (HB167.out.trans (HB18.out.mono HB167.out.size))
                                      clear HB18 hth
                                      go_wp2_with fail
                                      go_roundw
                                      case rel => exact ⟨r + 1, by omega, by go_num, HW1, HW2, HW3⟩
                                      case measure => simp [intOf]; omega
                            · obtain rfl : r = H2.length := by omega
                              have HM := HB5
                              clear HB5 HB1 HB6
                              go_wp2_with fail
                              go_roundw
                              case rel => exact ⟨i + 1, by omega, by go_num, HM⟩
                              case measure => simp [intOf]; omega
              · obtain rfl : i = Q.length := by omega
                have HM := HB9
                go_wp2_with fail
                go_roundw
                case rel => exact ⟨j + 1, by omega, by go_num, HM⟩
                case measure => simp [intOf]; omega
          · obtain rfl : j = L.length := by omega
            have HM := Lib.hid (HM5.out w6 HB6.out)
            clear HB6
            go_wp2_with fail
            go_roundw
            case rel => exact ⟨k + 1, by omega, by go_num, Lib.hid ⟨L2, OK2.out, SM2.out, HM.out⟩⟩
            case measure => simp [intOf]; omega
      · obtain rfl : k = n := by omega
        have HF := Lib.hid hmem.bel
        clear hok hsm hmem
        go_wp2_with fail
        go_ret
        exact ⟨rfl, HF.out⟩
end Go.Proofs.Ytnemgmlhcjhdhaa

