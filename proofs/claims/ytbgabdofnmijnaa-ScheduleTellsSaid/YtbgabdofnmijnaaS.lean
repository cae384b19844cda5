/- Strict; Rigorous. -/
import Derived.Test.YtbgabdofnmijnaaR
namespace Go.Proofs.Ytbgabdofnmijnaa
open Go.RowKit
/-- did a transaction end between two places? -/
def endsIn (l : List Mk) (j i : Nat) (tx : Int) : Bool := ((l.take i).drop j).any fun m => m.tx == tx && endB m
theorem endsIn_true {l : List Mk} {j i : Nat} {tx : Int} (k : Nat) (hk : k < l.length) (h1 : j ≤ k) (h2 : k < i) (h : (l[k].tx == tx && endB l[k]) = true) : endsIn l j i tx = true := by
  refine List.any_eq_true.2 ⟨l[k], List.mem_iff_getElem.2 ⟨k - j, by rw [List.length_drop, List.length_take]; omega, ?_⟩, h⟩
  rw [List.getElem_drop, List.getElem_take]
  congr 1
  omega
theorem endsIn_false {l : List Mk} {j i : Nat} {tx : Int} (h : ∀ k (hk : k < l.length), j ≤ k → k < i → (l[k].tx == tx && endB l[k]) = false) : endsIn l j i tx = false := by
  unfold endsIn
  rw [List.any_eq_false]
  intro m hm
  obtain ⟨k, hk, rfl⟩ := List.mem_iff_getElem.1 hm
  rw [List.length_drop, List.length_take] at hk
  rw [List.getElem_drop, List.getElem_take, h (j + k) (by omega) (by omega) (by omega)]
  simp
/-- does one at a place touch what one has touched that hasn't ended? -/
def badB (l : List Mk) (T : Mk → Mk → Bool) (j i : Nat) (x y : Mk) : Bool := accB y && accB x && !(x.tx == y.tx) && (x.key.toList == y.key.toList) && T x y && !endsIn l j i x.tx
def apartB (l : List Mk) (T : Mk → Mk → Bool) : Bool := rightM l == 0 && (List.range l.length).all fun i => (List.range i).all fun j => !badB l T j i l[j]! l[i]!
theorem apartB_true {l : List Mk} {T : Mk → Mk → Bool} (h0 : rightM l = 0) (h : ∀ i (h : i < l.length), ∀ j (h' : j < l.length), j < i → badB l T j i l[j] l[i] = false) : apartB l T = true := by
  unfold apartB
  rw [h0, show ((0 : Int) == 0) = true from rfl, Bool.true_and, List.all_eq_true]
  intro i hi
  have hi' : i < l.length := by simpa using hi
  rw [List.all_eq_true]
  intro j hj
  have hj' : j < i := by simpa using hj
  rw [getElem!_pos l i hi', getElem!_pos l j (by omega), h i hi' j (by omega) hj']; rfl
theorem apartB_false {l : List Mk} {T : Mk → Mk → Bool} (_ : rightM l = 0) (i : Nat) (hi : i < l.length) (j : Nat) (hj : j < l.length) (hji : j < i) (h : badB l T j i l[j] l[i] = true) : apartB l T = false := by
  unfold apartB
  rw [Bool.and_eq_false_iff]
  right
  rw [List.all_eq_false]
  refine ⟨i, by simpa using hi, ?_⟩
  rw [Bool.not_eq_true, List.all_eq_false]
  exact ⟨j, by simpa using hji, by rw [getElem!_pos l i hi, getElem!_pos l j hj, h]; simp⟩
theorem apartB_wrong {l : List Mk} {T : Mk → Mk → Bool} (h0 : rightM l ≠ 0) : apartB l T = false := by
  unfold apartB
  rw [show (rightM l == 0) = false by simpa using h0]; rfl
def strT (x _y : Mk) : Bool := x.kind == 2
def rigT (x y : Mk) : Bool := x.kind == 2 || y.kind == 2
theorem str_any (x y : Mk) (w : World) : Calls Try.prog 51 #[mkV x, mkV y] w fun e w' => e = .returned (.bool (strT x y)) ∧ Below w.heap.size w w' := by
  obtain ⟨xk, xt, xy⟩ := x
  obtain ⟨yk, yt, yy⟩ := y
  have HB0 := Lib.hid (box2_new w xk xt xy yk yt yy)
  unfold strT mkV
  simp only
  go_enter Try.func51, Try.ntmps51
  go_wp2_with fail
  go_ret
  exact ⟨rfl, HB0.out.bel⟩
theorem rig_any (x y : Mk) (w : World) : Calls Try.prog 52 #[mkV x, mkV y] w fun e w' => e = .returned (.bool (rigT x y)) ∧ Below w.heap.size w w' := by
  obtain ⟨xk, xt, xy⟩ := x
  obtain ⟨yk, yt, yy⟩ := y
  have HB0 := Lib.hid (box2_new w xk xt xy yk yt yy)
  unfold rigT mkV
  simp only
  by_cases h1 : xk = 2
  · subst h1
    go_enter Try.func52, Try.ntmps52
    go_wp2_with fail
    go_ret
    exact ⟨by simp, HB0.out.bel⟩
  · have hb1 : (xk == 2) = false := by simpa using h1
    go_enter Try.func52, Try.ntmps52
    go_wp2_with fail
    go_ret
    exact ⟨by simp [hb1], HB0.out.bel⟩

set_option maxRecDepth 100000 in
set_option maxHeartbeats 8000000 in
theorem str_apart (a : Option Addr) (n c : Nat) (l : List Mk) (w : World) (hr : MksAt w a n l) (hn : n ≤ 1000) (hnc : n ≤ c) :
    Calls Try.prog 50 #[.slice a n c, .func (.func 51) #[] #[]] w fun e w' => e = .returned (.bool (apartB l strT)) ∧ Below w.heap.size w w' := by
  have HRT := Lib.hid (right_any a n c l w hr (by omega))
  have HACC := Lib.hid access_any
  have HEND := Lib.hid ends_any
  have HTCH := Lib.hid str_any
  have HL := Lib.hid hr.1
  have HR := Lib.hid hr
  have HFIN := Lib.hid (show (rightM l = 0 → (∀ i (h : i < l.length), ∀ j (h' : j < l.length), j < i → badB l strT j i l[j] l[i] = false) → apartB l strT = true) ∧ (rightM l = 0 → ∀ i (h : i < l.length) j (h' : j < l.length), j < i → badB l strT j i l[j] l[i] = true → apartB l strT = false) ∧ (rightM l ≠ 0 → apartB l strT = false) from ⟨apartB_true, apartB_false, apartB_wrong⟩)
  clear hr
  generalize hrb : apartB l strT = rb at *
  clear hrb
  by_cases h0 : rightM l = 0
  · have HF := Lib.hid (And.intro (HFIN.out.1 h0) (HFIN.out.2.1 h0))
    rw [h0] at HRT
    clear h0 HFIN
    go_enter Try.func50, Try.ntmps50
    go_wp2_with fail
    refine HRT.out.mono ?_
    rintro e w1 ⟨rfl, hb⟩
    have HB1 := Lib.hid hb
    clear hb HRT
    go_wp2_with fail
    go_loopg [16] n (fun gh j wr => ∃ gk k : Nat, gk = gh ∧ k + gk = n ∧ j = .int .i64 k ∧ Hid ((∀ i (h : i < l.length), i < k → ∀ j (h' : j < l.length), j < i → badB l strT j i l[j] l[i] = false) ∧ Below w.heap.size w wr))
    case atStart => exact ⟨n, 0, rfl, by omega, rfl, Lib.hid ⟨fun i h hi => by omega, HB1.out⟩⟩
    case round =>
      obtain ⟨W1, rfl⟩ : ∃ W1, W1 = wr := ⟨_, rfl⟩
      obtain ⟨gk, k, rfl, hk, rfl, HS⟩ := hrel
      clear HB1
      have HALL := Lib.hid HS.out.1
      have HB := Lib.hid HS.out.2
      clear HS
      by_cases hlt : k < n
      · have hlt' : k < l.length := by rw [← HL.out]; exact hlt
        obtain ⟨g, off, rfl, hcA, hcB, hcD⟩ := (HR.out.below HB.out).at k hlt'
        have HNX := Lib.hid fun (h : ∀ j (h' : j < l.length), j < k → badB l strT j k l[j] l[k] = false) => (show ∀ i (h : i < l.length), i < k + 1 → ∀ j (h' : j < l.length), j < i → badB l strT j i l[j] l[i] = false from fun i hi hik => by
          by_cases e : i = k
          · subst e; exact h
          · exact HALL.out i hi (by omega))
        have HBAD := Lib.hid (HF.out.2 k hlt')
        have HEMP := Lib.hid fun (h : accB l[k] = false) => (show ∀ j (h' : j < l.length), j < k → badB l strT j k l[j] l[k] = false from fun j hj _ => by unfold badB; rw [h]; rfl)
        have M1 := Lib.hid (((Mem.nil w).below HB.out).block #[.int .i64 l[k].kind, .int .i64 l[k].tx, .string l[k].key] 36)
        have HA1 := Lib.hid (HACC.out l[k])
        clear HALL HB
        generalize l[k] = x at *
        obtain ⟨xk, xt, xy⟩ := x
        unfold mkV at HA1
        simp only at hcA hcB hcD M1 HA1
        obtain ⟨k0, k1, k2⟩ := box_cells M1.out
        go_wp2_with fail
        repeat (go_step3; go_wp2_with fail)
        refine (HA1.out _).mono ?_
        rintro e w2 ⟨rfl, hb⟩
        have M2 := Lib.hid (M1.out.below hb)
        clear hb M1 k0 k1 k2 HA1
        generalize W1.heap.size = b6 at *
        cases hac : accB ⟨xk, xt, xy⟩ with
        | false =>
          have HX := Lib.hid (And.intro (HNX.out (HEMP.out hac)) M2.out.bel)
          clear HNX HBAD HEMP M2 hac
          go_wp2_with fail
          try rw [Exit.noGoto_exit]
          go_wp2_with fail
          go_roundg (gk - 1)
          case rel => exact ⟨gk - 1, k + 1, rfl, by omega, by go_num, HX⟩
          case measure => omega
        | true =>
          clear HEMP
          go_wp2_with fail
          repeat (go_step3; go_wp2_with fail)
          go_loopg [28] k (fun gh j wr => ∃ gq q : Nat, gq = gh ∧ q + gq = k ∧ j = .int .i64 q ∧ Hid ((∀ j (h' : j < l.length), j < q → badB l strT j k l[j] ⟨xk, xt, xy⟩ = false) ∧ Mem w [] wr [BlockA b6 #[.int .i64 xk, .int .i64 xt, .string xy] 36]))
          case atStart => exact ⟨k, 0, rfl, by omega, rfl, Lib.hid ⟨fun i h hi => by omega, M2.out⟩⟩
          case round =>
            obtain ⟨W2, rfl⟩ : ∃ W2, W2 = wr := ⟨_, rfl⟩
            obtain ⟨gq, q, rfl, hq, rfl, HS⟩ := hrel
            clear M2
            have HALL := Lib.hid HS.out.1
            have M3 := Lib.hid HS.out.2
            clear HS
            by_cases hlq : q < k
            · have hlq' : q < l.length := by omega
              obtain ⟨g', off', he, hdA, hdB, hdD⟩ := (HR.out.below M3.out.bel).at q hlq'
              obtain ⟨rfl, rfl⟩ : g = g' ∧ off = off' := by simpa using he
              clear he
              have HNX2 := Lib.hid fun (h : badB l strT q k l[q] ⟨xk, xt, xy⟩ = false) => (show ∀ j (h' : j < l.length), j < q + 1 → badB l strT j k l[j] ⟨xk, xt, xy⟩ = false from fun j hj hjq => by
                by_cases e : j = q
                · subst e; exact h
                · exact HALL.out j hj (by omega))
              have HBAD2 := Lib.hid (HBAD.out q hlq' hlq)
              have M4 := Lib.hid (M3.out.block #[.int .i64 l[q].kind, .int .i64 l[q].tx, .string l[q].key] 36)
              have HA2 := Lib.hid (HACC.out l[q])
              have HT2 := Lib.hid (HTCH.out l[q] ⟨xk, xt, xy⟩)
              clear HALL M3
              unfold badB at HNX2 HBAD2
              generalize l[q] = z at *
              obtain ⟨zk, zt, zy⟩ := z
              unfold mkV at HA2 HT2
              simp only at hdA hdB hdD M4 HA2 HT2 HNX2 HBAD2
              obtain ⟨k0, k1, k2⟩ := box_cells M4.out
              obtain ⟨j0, j1, j2⟩ := box_cells2 M4.out
              go_wp2_with fail
              refine (HA2.out _).mono ?_
              rintro e w3 ⟨rfl, hb⟩
              have M5 := Lib.hid (M4.out.below hb)
              clear hb M4 k0 k1 k2 j0 j1 j2 HA2
              generalize W2.heap.size = b8 at *
              obtain ⟨k0, k1, k2⟩ := box_cells M5.out
              obtain ⟨j0, j1, j2⟩ := box_cells2 M5.out
              have HGO := Lib.hid fun (W : World) (hm : Mem w [] W [BlockA b8 #[.int .i64 zk, .int .i64 zt, .string zy] 36, BlockA b6 #[.int .i64 xk, .int .i64 xt, .string xy] 36]) (h : _) => And.intro (HNX2.out h) (Mem.drop [] (A := BlockA b8 #[.int .i64 zk, .int .i64 zt, .string zy] 36) (r := [BlockA b6 #[.int .i64 xk, .int .i64 xt, .string xy] 36]) hm)
              clear HNX2
              cases hz : accB ⟨zk, zt, zy⟩ with
              | false =>
                have HX := Lib.hid (HGO.out _ M5.out (by rw [hac, hz]; rfl))
                clear HGO HBAD2 hz M5
                go_wp2_with fail
                go_roundg (gq - 1)
                case rel => exact ⟨gq - 1, q + 1, rfl, by omega, by go_num, HX⟩
                case measure => omega
              | true =>
                by_cases ht : zt = xt
                · have ht' : (zt == xt) = true := by simpa using ht
                  have HX := Lib.hid (HGO.out _ M5.out (by rw [hac, hz, ht']; rfl))
                  clear HGO HBAD2 hz M5 ht
                  go_wp2_with fail
                  go_roundg (gq - 1)
                  case rel => exact ⟨gq - 1, q + 1, rfl, by omega, by go_num, HX⟩
                  case measure => omega
                · have ht' : (zt == xt) = false := by simpa using ht
                  clear ht
                  cases hky : (zy.toList == xy.toList) with
                  | false =>
                    have HX := Lib.hid (HGO.out _ M5.out (by rw [hac, hz, ht', hky]; rfl))
                    clear HGO HBAD2 hz M5
                    go_wp2_with fail
                    go_roundg (gq - 1)
                    case rel => exact ⟨gq - 1, q + 1, rfl, by omega, by go_num, HX⟩
                    case measure => omega
                  | true =>
                    go_wp2_with fail
                    refine (HT2.out _).mono ?_
                    rintro e w4 ⟨rfl, hb⟩
                    have M6 := Lib.hid (M5.out.below hb)
                    clear hb M5 k0 k1 k2 j0 j1 j2 HT2
                    obtain ⟨k0, k1, k2⟩ := box_cells M6.out
                    cases htc : strT ⟨zk, zt, zy⟩ ⟨xk, xt, xy⟩ with
                    | false =>
                      have HX := Lib.hid (HGO.out _ M6.out (by rw [hac, hz, ht', hky, htc]; rfl))
                      clear HGO HBAD2 hz M6 htc
                      go_wp2_with fail
                      go_roundg (gq - 1)
                      case rel => exact ⟨gq - 1, q + 1, rfl, by omega, by go_num, HX⟩
                      case measure => omega
                    | true =>
                      have HGO3 := Lib.hid fun W hm (h : endsIn l q k zt = true) => HGO.out W hm (by rw [h]; simp)
                      have HBAD3 := Lib.hid fun (h : endsIn l q k zt = false) => HBAD2.out (by rw [hac, hz, ht', hky, htc, h]; rfl)
                      clear HGO HBAD2 hz htc
                      go_wp2_with fail
                      go_loopg [62] (k - q) (fun gh j wr => ∃ gs s : Nat, gs = gh ∧ s + gs = k - q ∧ j = .int .i64 s ∧ Hid ((∀ j (h' : j < l.length), q ≤ j → j < q + s → (l[j].tx == zt && endB l[j]) = false) ∧ Mem w [] wr [BlockA b8 #[.int .i64 zk, .int .i64 zt, .string zy] 36, BlockA b6 #[.int .i64 xk, .int .i64 xt, .string xy] 36]))
                      case atStart => exact ⟨k - q, 0, rfl, by omega, rfl, Lib.hid ⟨fun i h hi h2 => by omega, M6.out⟩⟩
                      case round =>
                        obtain ⟨W3, rfl⟩ : ∃ W3, W3 = wr := ⟨_, rfl⟩
                        obtain ⟨gs, s, rfl, hs, rfl, HS⟩ := hrel
                        clear M6 k0 k1 k2
                        have HALL := Lib.hid HS.out.1
                        have M7 := Lib.hid HS.out.2
                        clear HS
                        by_cases hls : s < k - q
                        · have hls' : q + s < l.length := by omega
                          obtain ⟨g', off', he, heA, heB, heD⟩ := (HR.out.below M7.out.bel).at (q + s) hls'
                          obtain ⟨rfl, rfl⟩ : g = g' ∧ off = off' := by simpa using he
                          clear he
                          rw [show off + (q + s) * 3 = off + q * 3 + s * 3 by omega] at heA heB heD
                          have HNX3 := Lib.hid fun (h : (l[q + s].tx == zt && endB l[q + s]) = false) => (show ∀ j (h' : j < l.length), q ≤ j → j < q + (s + 1) → (l[j].tx == zt && endB l[j]) = false from fun j hj h1 h2 => by
                            by_cases e : j = q + s
                            · subst e; exact h
                            · exact HALL.out j hj h1 (by omega))
                          have HYE := Lib.hid fun (h : (l[q + s].tx == zt && endB l[q + s]) = true) => endsIn_true (l := l) (j := q) (i := k) (tx := zt) (q + s) hls' (by omega) (by omega) h
                          have M8 := Lib.hid (M7.out.block #[.int .i64 l[q + s].kind, .int .i64 l[q + s].tx, .string l[q + s].key] 36)
                          have HE2 := Lib.hid (HEND.out l[q + s])
                          clear HALL M7
                          generalize l[q + s] = y at *
                          obtain ⟨yk, yt, yy⟩ := y
                          unfold mkV at HE2
                          simp only at heA heB heD M8 HE2 HNX3 HYE
                          obtain ⟨k0, k1, k2⟩ := box_cells M8.out
                          obtain ⟨j0, j1, j2⟩ := box_cells2 M8.out
                          by_cases hyt : yt = zt
                          · have hyt' : (yt == zt) = true := by simpa using hyt
                            rw [hyt'] at HNX3 HYE
                            clear hyt
                            go_wp2_with fail
                            refine (HE2.out _).mono ?_
                            rintro e w5 ⟨rfl, hb⟩
                            have M9 := Lib.hid (Mem.drop [] (A := BlockA W3.heap.size #[.int .i64 yk, .int .i64 yt, .string yy] 36) (r := [BlockA b8 #[.int .i64 zk, .int .i64 zt, .string zy] 36, BlockA b6 #[.int .i64 xk, .int .i64 xt, .string xy] 36]) (M8.out.below hb))
                            clear hb M8 k0 k1 k2 j0 j1 j2 HE2
                            cases hye : endB ⟨yk, yt, yy⟩ with
                            | true =>
                              have HX := Lib.hid (HGO3.out _ M9.out (HYE.out (by rw [hye]; rfl)))
                              clear HGO3 HBAD3 HNX3 HYE M9 hye
                              go_wp2_with fail
                              go_roundg (gq - 1)
                              case rel => exact ⟨gq - 1, q + 1, rfl, by omega, by go_num, HX⟩
                              case measure => omega
                            | false =>
                              have HX := Lib.hid (And.intro (HNX3.out (by rw [hye]; rfl)) M9.out)
                              clear HGO3 HBAD3 HNX3 HYE M9 hye
                              go_wp2_with fail
                              go_roundg (gs - 1)
                              case rel => exact ⟨gs - 1, s + 1, rfl, by omega, by go_num, HX⟩
                              case measure => omega
                          · have hyt' : (yt == zt) = false := by simpa using hyt
                            have M9 := Lib.hid (Mem.drop [] (A := BlockA W3.heap.size #[.int .i64 yk, .int .i64 yt, .string yy] 36) (r := [BlockA b8 #[.int .i64 zk, .int .i64 zt, .string zy] 36, BlockA b6 #[.int .i64 xk, .int .i64 xt, .string xy] 36]) M8.out)
                            have HX := Lib.hid (And.intro (HNX3.out (by rw [hyt']; rfl)) M9.out)
                            clear HGO3 HBAD3 HNX3 HYE M9 hyt HE2 M8
                            go_wp2_with fail
                            go_roundg (gs - 1)
                            case rel => exact ⟨gs - 1, s + 1, rfl, by omega, by go_num, HX⟩
                            case measure => omega
                        · have HX := Lib.hid (And.intro (HBAD3.out (endsIn_false fun j hj h1 h2 => HALL.out j hj h1 (by omega))) M7.out.bel)
                          clear HGO3 HBAD3 HALL M7
                          have hse : s = k - q := by omega
                          subst hse
                          go_wp2_with fail
                          try rw [Exit.noGoto_ret]
                          go_ret
                          exact ⟨by rw [HX.out.1]; rfl, HX.out.2⟩
            · obtain rfl : q = k := by omega
              have HX := Lib.hid (And.intro (HNX.out HALL.out) M3.out.bel)
              clear HNX HBAD HALL M3
              go_wp2_with fail
              try rw [Exit.noGoto_normal]
              go_wp2_with fail
              go_roundg (gk - 1)
              case rel => exact ⟨gk - 1, q + 1, rfl, by omega, by go_num, HX⟩
              case measure => omega
      · obtain rfl : k = n := by omega
        have HX := Lib.hid (And.intro (HF.out.1 fun i hi => HALL.out i hi (by rw [HL.out]; exact hi)) HB.out)
        clear HALL HB HF
        go_wp2_with fail
        try rw [Exit.noGoto_ret]
        go_ret
        exact ⟨by rw [HX.out.1]; rfl, HX.out.2⟩
  · have hq2 : (rightM l != 0) = true := by simpa using h0
    have HF := Lib.hid (HFIN.out.2.2 h0)
    clear h0 HFIN
    generalize rightM l = q at *
    go_enter Try.func50, Try.ntmps50
    go_wp2_with fail
    refine HRT.out.mono ?_
    rintro e w1 ⟨rfl, hb⟩
    have HB := Lib.hid hb
    clear hb
    go_wp2_with fail
    try rw [Exit.noGoto_ret]
    go_ret
    exact ⟨by rw [HF.out]; rfl, HB.out⟩

set_option maxRecDepth 100000 in
set_option maxHeartbeats 8000000 in
theorem rig_apart (a : Option Addr) (n c : Nat) (l : List Mk) (w : World) (hr : MksAt w a n l) (hn : n ≤ 1000) (hnc : n ≤ c) :
    Calls Try.prog 50 #[.slice a n c, .func (.func 52) #[] #[]] w fun e w' => e = .returned (.bool (apartB l rigT)) ∧ Below w.heap.size w w' := by
  have HRT := Lib.hid (right_any a n c l w hr (by omega))
  have HACC := Lib.hid access_any
  have HEND := Lib.hid ends_any
  have HTCH := Lib.hid rig_any
  have HL := Lib.hid hr.1
  have HR := Lib.hid hr
  have HFIN := Lib.hid (show (rightM l = 0 → (∀ i (h : i < l.length), ∀ j (h' : j < l.length), j < i → badB l rigT j i l[j] l[i] = false) → apartB l rigT = true) ∧ (rightM l = 0 → ∀ i (h : i < l.length) j (h' : j < l.length), j < i → badB l rigT j i l[j] l[i] = true → apartB l rigT = false) ∧ (rightM l ≠ 0 → apartB l rigT = false) from ⟨apartB_true, apartB_false, apartB_wrong⟩)
  clear hr
  generalize hrb : apartB l rigT = rb at *
  clear hrb
  by_cases h0 : rightM l = 0
  · have HF := Lib.hid (And.intro (HFIN.out.1 h0) (HFIN.out.2.1 h0))
    rw [h0] at HRT
    clear h0 HFIN
    go_enter Try.func50, Try.ntmps50
    go_wp2_with fail
    refine HRT.out.mono ?_
    rintro e w1 ⟨rfl, hb⟩
    have HB1 := Lib.hid hb
    clear hb HRT
    go_wp2_with fail
    go_loopg [16] n (fun gh j wr => ∃ gk k : Nat, gk = gh ∧ k + gk = n ∧ j = .int .i64 k ∧ Hid ((∀ i (h : i < l.length), i < k → ∀ j (h' : j < l.length), j < i → badB l rigT j i l[j] l[i] = false) ∧ Below w.heap.size w wr))
    case atStart => exact ⟨n, 0, rfl, by omega, rfl, Lib.hid ⟨fun i h hi => by omega, HB1.out⟩⟩
    case round =>
      obtain ⟨W1, rfl⟩ : ∃ W1, W1 = wr := ⟨_, rfl⟩
      obtain ⟨gk, k, rfl, hk, rfl, HS⟩ := hrel
      clear HB1
      have HALL := Lib.hid HS.out.1
      have HB := Lib.hid HS.out.2
      clear HS
      by_cases hlt : k < n
      · have hlt' : k < l.length := by rw [← HL.out]; exact hlt
        obtain ⟨g, off, rfl, hcA, hcB, hcD⟩ := (HR.out.below HB.out).at k hlt'
        have HNX := Lib.hid fun (h : ∀ j (h' : j < l.length), j < k → badB l rigT j k l[j] l[k] = false) => (show ∀ i (h : i < l.length), i < k + 1 → ∀ j (h' : j < l.length), j < i → badB l rigT j i l[j] l[i] = false from fun i hi hik => by
          by_cases e : i = k
          · subst e; exact h
          · exact HALL.out i hi (by omega))
        have HBAD := Lib.hid (HF.out.2 k hlt')
        have HEMP := Lib.hid fun (h : accB l[k] = false) => (show ∀ j (h' : j < l.length), j < k → badB l rigT j k l[j] l[k] = false from fun j hj _ => by unfold badB; rw [h]; rfl)
        have M1 := Lib.hid (((Mem.nil w).below HB.out).block #[.int .i64 l[k].kind, .int .i64 l[k].tx, .string l[k].key] 36)
        have HA1 := Lib.hid (HACC.out l[k])
        clear HALL HB
        generalize l[k] = x at *
        obtain ⟨xk, xt, xy⟩ := x
        unfold mkV at HA1
        simp only at hcA hcB hcD M1 HA1
        obtain ⟨k0, k1, k2⟩ := box_cells M1.out
        go_wp2_with fail
        repeat (go_step3; go_wp2_with fail)
        refine (HA1.out _).mono ?_
        rintro e w2 ⟨rfl, hb⟩
        have M2 := Lib.hid (M1.out.below hb)
        clear hb M1 k0 k1 k2 HA1
        generalize W1.heap.size = b6 at *
        cases hac : accB ⟨xk, xt, xy⟩ with
        | false =>
          have HX := Lib.hid (And.intro (HNX.out (HEMP.out hac)) M2.out.bel)
          clear HNX HBAD HEMP M2 hac
          go_wp2_with fail
          try rw [Exit.noGoto_exit]
          go_wp2_with fail
          go_roundg (gk - 1)
          case rel => exact ⟨gk - 1, k + 1, rfl, by omega, by go_num, HX⟩
          case measure => omega
        | true =>
          clear HEMP
          go_wp2_with fail
          repeat (go_step3; go_wp2_with fail)
          go_loopg [28] k (fun gh j wr => ∃ gq q : Nat, gq = gh ∧ q + gq = k ∧ j = .int .i64 q ∧ Hid ((∀ j (h' : j < l.length), j < q → badB l rigT j k l[j] ⟨xk, xt, xy⟩ = false) ∧ Mem w [] wr [BlockA b6 #[.int .i64 xk, .int .i64 xt, .string xy] 36]))
          case atStart => exact ⟨k, 0, rfl, by omega, rfl, Lib.hid ⟨fun i h hi => by omega, M2.out⟩⟩
          case round =>
            obtain ⟨W2, rfl⟩ : ∃ W2, W2 = wr := ⟨_, rfl⟩
            obtain ⟨gq, q, rfl, hq, rfl, HS⟩ := hrel
            clear M2
            have HALL := Lib.hid HS.out.1
            have M3 := Lib.hid HS.out.2
            clear HS
            by_cases hlq : q < k
            · have hlq' : q < l.length := by omega
              obtain ⟨g', off', he, hdA, hdB, hdD⟩ := (HR.out.below M3.out.bel).at q hlq'
              obtain ⟨rfl, rfl⟩ : g = g' ∧ off = off' := by simpa using he
              clear he
              have HNX2 := Lib.hid fun (h : badB l rigT q k l[q] ⟨xk, xt, xy⟩ = false) => (show ∀ j (h' : j < l.length), j < q + 1 → badB l rigT j k l[j] ⟨xk, xt, xy⟩ = false from fun j hj hjq => by
                by_cases e : j = q
                · subst e; exact h
                · exact HALL.out j hj (by omega))
              have HBAD2 := Lib.hid (HBAD.out q hlq' hlq)
              have M4 := Lib.hid (M3.out.block #[.int .i64 l[q].kind, .int .i64 l[q].tx, .string l[q].key] 36)
              have HA2 := Lib.hid (HACC.out l[q])
              have HT2 := Lib.hid (HTCH.out l[q] ⟨xk, xt, xy⟩)
              clear HALL M3
              unfold badB at HNX2 HBAD2
              generalize l[q] = z at *
              obtain ⟨zk, zt, zy⟩ := z
              unfold mkV at HA2 HT2
              simp only at hdA hdB hdD M4 HA2 HT2 HNX2 HBAD2
              obtain ⟨k0, k1, k2⟩ := box_cells M4.out
              obtain ⟨j0, j1, j2⟩ := box_cells2 M4.out
              go_wp2_with fail
              refine (HA2.out _).mono ?_
              rintro e w3 ⟨rfl, hb⟩
              have M5 := Lib.hid (M4.out.below hb)
              clear hb M4 k0 k1 k2 j0 j1 j2 HA2
              generalize W2.heap.size = b8 at *
              obtain ⟨k0, k1, k2⟩ := box_cells M5.out
              obtain ⟨j0, j1, j2⟩ := box_cells2 M5.out
              have HGO := Lib.hid fun (W : World) (hm : Mem w [] W [BlockA b8 #[.int .i64 zk, .int .i64 zt, .string zy] 36, BlockA b6 #[.int .i64 xk, .int .i64 xt, .string xy] 36]) (h : _) => And.intro (HNX2.out h) (Mem.drop [] (A := BlockA b8 #[.int .i64 zk, .int .i64 zt, .string zy] 36) (r := [BlockA b6 #[.int .i64 xk, .int .i64 xt, .string xy] 36]) hm)
              clear HNX2
              cases hz : accB ⟨zk, zt, zy⟩ with
              | false =>
                have HX := Lib.hid (HGO.out _ M5.out (by rw [hac, hz]; rfl))
                clear HGO HBAD2 hz M5
                go_wp2_with fail
                go_roundg (gq - 1)
                case rel => exact ⟨gq - 1, q + 1, rfl, by omega, by go_num, HX⟩
                case measure => omega
              | true =>
                by_cases ht : zt = xt
                · have ht' : (zt == xt) = true := by simpa using ht
                  have HX := Lib.hid (HGO.out _ M5.out (by rw [hac, hz, ht']; rfl))
                  clear HGO HBAD2 hz M5 ht
                  go_wp2_with fail
                  go_roundg (gq - 1)
                  case rel => exact ⟨gq - 1, q + 1, rfl, by omega, by go_num, HX⟩
                  case measure => omega
                · have ht' : (zt == xt) = false := by simpa using ht
                  clear ht
                  cases hky : (zy.toList == xy.toList) with
                  | false =>
                    have HX := Lib.hid (HGO.out _ M5.out (by rw [hac, hz, ht', hky]; rfl))
                    clear HGO HBAD2 hz M5
                    go_wp2_with fail
                    go_roundg (gq - 1)
                    case rel => exact ⟨gq - 1, q + 1, rfl, by omega, by go_num, HX⟩
                    case measure => omega
                  | true =>
                    go_wp2_with fail
                    refine (HT2.out _).mono ?_
                    rintro e w4 ⟨rfl, hb⟩
                    have M6 := Lib.hid (M5.out.below hb)
                    clear hb M5 k0 k1 k2 j0 j1 j2 HT2
                    obtain ⟨k0, k1, k2⟩ := box_cells M6.out
                    cases htc : rigT ⟨zk, zt, zy⟩ ⟨xk, xt, xy⟩ with
                    | false =>
                      have HX := Lib.hid (HGO.out _ M6.out (by rw [hac, hz, ht', hky, htc]; rfl))
                      clear HGO HBAD2 hz M6 htc
                      go_wp2_with fail
                      go_roundg (gq - 1)
                      case rel => exact ⟨gq - 1, q + 1, rfl, by omega, by go_num, HX⟩
                      case measure => omega
                    | true =>
                      have HGO3 := Lib.hid fun W hm (h : endsIn l q k zt = true) => HGO.out W hm (by rw [h]; simp)
                      have HBAD3 := Lib.hid fun (h : endsIn l q k zt = false) => HBAD2.out (by rw [hac, hz, ht', hky, htc, h]; rfl)
                      clear HGO HBAD2 hz htc
                      go_wp2_with fail
                      go_loopg [62] (k - q) (fun gh j wr => ∃ gs s : Nat, gs = gh ∧ s + gs = k - q ∧ j = .int .i64 s ∧ Hid ((∀ j (h' : j < l.length), q ≤ j → j < q + s → (l[j].tx == zt && endB l[j]) = false) ∧ Mem w [] wr [BlockA b8 #[.int .i64 zk, .int .i64 zt, .string zy] 36, BlockA b6 #[.int .i64 xk, .int .i64 xt, .string xy] 36]))
                      case atStart => exact ⟨k - q, 0, rfl, by omega, rfl, Lib.hid ⟨fun i h hi h2 => by omega, M6.out⟩⟩
                      case round =>
                        obtain ⟨W3, rfl⟩ : ∃ W3, W3 = wr := ⟨_, rfl⟩
                        obtain ⟨gs, s, rfl, hs, rfl, HS⟩ := hrel
                        clear M6 k0 k1 k2
                        have HALL := Lib.hid HS.out.1
                        have M7 := Lib.hid HS.out.2
                        clear HS
                        by_cases hls : s < k - q
                        · have hls' : q + s < l.length := by omega
                          obtain ⟨g', off', he, heA, heB, heD⟩ := (HR.out.below M7.out.bel).at (q + s) hls'
                          obtain ⟨rfl, rfl⟩ : g = g' ∧ off = off' := by simpa using he
                          clear he
                          rw [show off + (q + s) * 3 = off + q * 3 + s * 3 by omega] at heA heB heD
                          have HNX3 := Lib.hid fun (h : (l[q + s].tx == zt && endB l[q + s]) = false) => (show ∀ j (h' : j < l.length), q ≤ j → j < q + (s + 1) → (l[j].tx == zt && endB l[j]) = false from fun j hj h1 h2 => by
                            by_cases e : j = q + s
                            · subst e; exact h
                            · exact HALL.out j hj h1 (by omega))
                          have HYE := Lib.hid fun (h : (l[q + s].tx == zt && endB l[q + s]) = true) => endsIn_true (l := l) (j := q) (i := k) (tx := zt) (q + s) hls' (by omega) (by omega) h
                          have M8 := Lib.hid (M7.out.block #[.int .i64 l[q + s].kind, .int .i64 l[q + s].tx, .string l[q + s].key] 36)
                          have HE2 := Lib.hid (HEND.out l[q + s])
                          clear HALL M7
                          generalize l[q + s] = y at *
                          obtain ⟨yk, yt, yy⟩ := y
                          unfold mkV at HE2
                          simp only at heA heB heD M8 HE2 HNX3 HYE
                          obtain ⟨k0, k1, k2⟩ := box_cells M8.out
                          obtain ⟨j0, j1, j2⟩ := box_cells2 M8.out
                          by_cases hyt : yt = zt
                          · have hyt' : (yt == zt) = true := by simpa using hyt
                            rw [hyt'] at HNX3 HYE
                            clear hyt
                            go_wp2_with fail
                            refine (HE2.out _).mono ?_
                            rintro e w5 ⟨rfl, hb⟩
                            have M9 := Lib.hid (Mem.drop [] (A := BlockA W3.heap.size #[.int .i64 yk, .int .i64 yt, .string yy] 36) (r := [BlockA b8 #[.int .i64 zk, .int .i64 zt, .string zy] 36, BlockA b6 #[.int .i64 xk, .int .i64 xt, .string xy] 36]) (M8.out.below hb))
                            clear hb M8 k0 k1 k2 j0 j1 j2 HE2
                            cases hye : endB ⟨yk, yt, yy⟩ with
                            | true =>
                              have HX := Lib.hid (HGO3.out _ M9.out (HYE.out (by rw [hye]; rfl)))
                              clear HGO3 HBAD3 HNX3 HYE M9 hye
                              go_wp2_with fail
                              go_roundg (gq - 1)
                              case rel => exact ⟨gq - 1, q + 1, rfl, by omega, by go_num, HX⟩
                              case measure => omega
                            | false =>
                              have HX := Lib.hid (And.intro (HNX3.out (by rw [hye]; rfl)) M9.out)
                              clear HGO3 HBAD3 HNX3 HYE M9 hye
                              go_wp2_with fail
                              go_roundg (gs - 1)
                              case rel => exact ⟨gs - 1, s + 1, rfl, by omega, by go_num, HX⟩
                              case measure => omega
                          · have hyt' : (yt == zt) = false := by simpa using hyt
                            have M9 := Lib.hid (Mem.drop [] (A := BlockA W3.heap.size #[.int .i64 yk, .int .i64 yt, .string yy] 36) (r := [BlockA b8 #[.int .i64 zk, .int .i64 zt, .string zy] 36, BlockA b6 #[.int .i64 xk, .int .i64 xt, .string xy] 36]) M8.out)
                            have HX := Lib.hid (And.intro (HNX3.out (by rw [hyt']; rfl)) M9.out)
                            clear HGO3 HBAD3 HNX3 HYE M9 hyt HE2 M8
                            go_wp2_with fail
                            go_roundg (gs - 1)
                            case rel => exact ⟨gs - 1, s + 1, rfl, by omega, by go_num, HX⟩
                            case measure => omega
                        · have HX := Lib.hid (And.intro (HBAD3.out (endsIn_false fun j hj h1 h2 => HALL.out j hj h1 (by omega))) M7.out.bel)
                          clear HGO3 HBAD3 HALL M7
                          have hse : s = k - q := by omega
                          subst hse
                          go_wp2_with fail
                          try rw [Exit.noGoto_ret]
                          go_ret
                          exact ⟨by rw [HX.out.1]; rfl, HX.out.2⟩
            · obtain rfl : q = k := by omega
              have HX := Lib.hid (And.intro (HNX.out HALL.out) M3.out.bel)
              clear HNX HBAD HALL M3
              go_wp2_with fail
              try rw [Exit.noGoto_normal]
              go_wp2_with fail
              go_roundg (gk - 1)
              case rel => exact ⟨gk - 1, q + 1, rfl, by omega, by go_num, HX⟩
              case measure => omega
      · obtain rfl : k = n := by omega
        have HX := Lib.hid (And.intro (HF.out.1 fun i hi => HALL.out i hi (by rw [HL.out]; exact hi)) HB.out)
        clear HALL HB HF
        go_wp2_with fail
        try rw [Exit.noGoto_ret]
        go_ret
        exact ⟨by rw [HX.out.1]; rfl, HX.out.2⟩
  · have hq2 : (rightM l != 0) = true := by simpa using h0
    have HF := Lib.hid (HFIN.out.2.2 h0)
    clear h0 HFIN
    generalize rightM l = q at *
    go_enter Try.func50, Try.ntmps50
    go_wp2_with fail
    refine HRT.out.mono ?_
    rintro e w1 ⟨rfl, hb⟩
    have HB := Lib.hid hb
    clear hb
    go_wp2_with fail
    try rw [Exit.noGoto_ret]
    go_ret
    exact ⟨by rw [HF.out]; rfl, HB.out⟩

set_option maxRecDepth 100000 in
theorem strict_any (a : Option Addr) (n c : Nat) (l : List Mk) (w : World) (hr : MksAt w a n l) (hn : n ≤ 1000) (hnc : n ≤ c) :
    Calls Try.prog 16 #[.slice a n c] w fun e w' => e = .returned (.bool (apartB l strT)) ∧ Below w.heap.size w w' := by
  have HC := Lib.hid (str_apart a n c l w hr hn hnc)
  clear hr
  go_enter Try.func16, Try.ntmps16
  go_wp2_with fail
  refine HC.out.mono ?_
  rintro e w1 ⟨rfl, hb⟩
  have HB := Lib.hid hb
  clear hb
  go_wp2_with fail
  go_ret
  exact ⟨rfl, HB.out⟩

set_option maxRecDepth 100000 in
theorem rigor_any (a : Option Addr) (n c : Nat) (l : List Mk) (w : World) (hr : MksAt w a n l) (hn : n ≤ 1000) (hnc : n ≤ c) :
    Calls Try.prog 17 #[.slice a n c] w fun e w' => e = .returned (.bool (apartB l rigT)) ∧ Below w.heap.size w w' := by
  have HC := Lib.hid (rig_apart a n c l w hr hn hnc)
  clear hr
  go_enter Try.func17, Try.ntmps17
  go_wp2_with fail
  refine HC.out.mono ?_
  rintro e w1 ⟨rfl, hb⟩
  have HB := Lib.hid hb
  clear hb
  go_wp2_with fail
  go_ret
  exact ⟨rfl, HB.out⟩
end Go.Proofs.Ytbgabdofnmijnaa
