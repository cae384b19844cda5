/- The document's Edge, walked. -/
import Derived.Test.YtbgabdofnmijnaaAJ
namespace Go.Proofs.Ytbgabdofnmijnaa
open Go.RowKit
def pairB (x y : Mk) (p q : Int) : Bool := x.tx == p && y.tx == q && decide (x.kind < 3) && decide (y.kind < 3) && (x.key.toList == y.key.toList) && decide (2 < x.kind + y.kind)
theorem isR4_live {l : List Mk} (h : RightP l) (x : Int) : isR l 4 x l.length = !liveB l x := by
  rw [Bool.eq_iff_iff, isR_iff, Bool.not_eq_true', ← Bool.not_eq_true, live_iff h]
  constructor
  · rintro ⟨j, hj, _, h1, h2⟩ hn; exact hn j hj h1 h2
  · intro hn
    false_or_by_contra
    rename_i hc
    exact hn fun i hi h1 h2 => hc ⟨i, hi, hi, h1, h2⟩
theorem pair_meet {l : List Mk} {x y : Mk} (h1 : oddB x = false) (h2 : oddB y = false) (hne : x.tx ≠ y.tx) (l1 : liveB l x.tx = true) (l2 : liveB l y.tx = true) : pairB x y x.tx y.tx = meetB l x y := by
  obtain ⟨a1, _⟩ := nodd h1
  obtain ⟨a2, _⟩ := nodd h2
  unfold pairB meetB clashB
  rw [l1, l2, show (x.tx == y.tx) = false by simpa using hne]
  cases hk : (x.key.toList == y.key.toList) with
  | false => simp
  | true =>
    rw [Bool.eq_iff_iff]
    simp only [Bool.and_eq_true, decide_eq_true_eq, beq_iff_eq, Bool.or_eq_true, accB_kind, Bool.not_false, and_true, true_and]
    omega
set_option maxRecDepth 100000 in
set_option maxHeartbeats 8000000 in
/-- R: is there such an edge? -/
theorem redge_any (a : Option Addr) (n c : Nat) (l : List Mk) (p q : Int) (R : Bool) (w : World) (hr : MksAt w a n l) (hn : n ≤ 1000) (hnc : n ≤ c) (hR : RightP l)
    (hF : p = q ∨ isR l 4 p l.length = true ∨ isR l 4 q l.length = true → R = false)
    (hT : p ≠ q → isR l 4 p l.length = false → isR l 4 q l.length = false → ∀ i (hi : i < l.length) j (hj : j < l.length), i < j → pairB l[i] l[j] p q = true → R = true)
    (hN : (∀ i (hi : i < l.length) j (hj : j < l.length), i < j → pairB l[i] l[j] p q = false) → R = false) :
    Calls Try.prog 55 #[.slice a n c, .int .i64 p, .int .i64 q] w fun e w' => e = .returned (.bool R) ∧ Below w.heap.size w w' := by
  have HIS := Lib.hid fun tx W (hb : Below w.heap.size w W) => is_any a n c l 4 tx n W (hr.below hb) hn hnc (Nat.le_refl _)
  have HL := Lib.hid hr.1
  have HR := Lib.hid hr
  have HKD : Hid (∀ i (hi : i < l.length), 1 ≤ l[i].kind ∧ l[i].kind ≤ 4) := Lib.hid fun i hi => (nodd (hR.odd _ (List.getElem_mem hi))).1
  rw [← hr.1] at hF
  have HF := Lib.hid hF
  have HN := Lib.hid hN
  have HT := Lib.hid fun (h1 : p ≠ q) (h2 : isR l 4 p n = false) (h3 : isR l 4 q n = false) => hT h1 (by rw [← hr.1]; exact h2) (by rw [← hr.1]; exact h3)
  clear hr hR hF hN hT
  by_cases e1 : p = q
  · have hR0 := HF.out (.inl e1)
    have e1' : (p == q) = true := by simpa using e1
    subst hR0
    clear e1
    go_enter Try.func55, Try.ntmps55
    go_wp2_with fail
    go_ret
    exact ⟨rfl, Below.refl _ _⟩
  · have e1' : (p == q) = false := by simpa using e1
    have H1 := Lib.hid (HIS.out p w (Below.refl _ _))
    cases h1 : isR l 4 p n with
    | true =>
      have hR0 := HF.out (.inr (.inl h1))
      rw [h1] at H1
      subst hR0
      clear e1 h1
      go_enter Try.func55, Try.ntmps55
      go_wp2_with fail
      refine H1.out.mono ?_
      rintro e w1 ⟨rfl, hb⟩
      have HB := Lib.hid hb
      clear hb
      go_wp2_with fail
      go_ret
      exact ⟨rfl, HB.out⟩
    | false =>
      rw [h1] at H1
      cases h2 : isR l 4 q n with
      | true =>
        have hR0 := HF.out (.inr (.inr h2))
        have H2 := Lib.hid fun W hb => HIS.out q W hb
        rw [h2] at H2
        subst hR0
        clear e1 h1 h2
        go_enter Try.func55, Try.ntmps55
        go_wp2_with fail
        refine H1.out.mono ?_
        rintro e w1 ⟨rfl, hb⟩
        have HB := Lib.hid hb
        have H3 := Lib.hid (H2.out _ hb)
        clear hb H2
        go_wp2_with fail
        refine H3.out.mono ?_
        rintro e w2 ⟨rfl, hb⟩
        have HB2 := Lib.hid (HB.out.trans (hb.mono HB.out.size))
        clear hb
        go_wp2_with fail
        go_ret
        exact ⟨rfl, HB2.out⟩
      | false =>
        have H2 := Lib.hid fun W hb => HIS.out q W hb
        rw [h2] at H2
        have HT2 := Lib.hid (HT.out e1 h1 h2)
        clear e1 h1 h2 HT HF HIS
        go_enter Try.func55, Try.ntmps55
        go_wp2_with fail
        refine H1.out.mono ?_
        rintro e w1 ⟨rfl, hb⟩
        have HB := Lib.hid hb
        have H3 := Lib.hid (H2.out _ hb)
        clear hb H2
        go_wp2_with fail
        refine H3.out.mono ?_
        rintro e w2 ⟨rfl, hb⟩
        have M0 := Lib.hid ((Mem.nil w).below (HB.out.trans (hb.mono HB.out.size)))
        clear hb H3 H1 HB
        go_wp2_with fail
        go_loopw [30] (fun j wr => ∃ k : Nat, k ≤ n ∧ j = .int .i64 k ∧ Hid ((∀ i (hi : i < l.length) j (hj : j < l.length), i < k → i < j → pairB l[i] l[j] p q = false) ∧ Mem w [] wr [])) (fun j _ => n - (intOf j).toNat)
        case atStart => exact ⟨0, Nat.zero_le _, rfl, Lib.hid ⟨fun i _ j _ h => by omega, M0.out⟩⟩
        case round =>
          obtain ⟨W1, rfl⟩ : ∃ W1, W1 = wr := ⟨_, rfl⟩
          obtain ⟨k, hk, rfl, HS⟩ := hrel
          clear M0
          have HALL := Lib.hid HS.out.1
          have M1 := Lib.hid HS.out.2
          clear HS
          by_cases hlt : k < n
          · have hlt' : k < l.length := by rw [← HL.out]; exact hlt
            obtain ⟨g, off, rfl, hcA, hcB, hcD⟩ := (HR.out.below M1.out.bel).at k hlt'
            have HNX := Lib.hid fun (h : ∀ j (hj : j < l.length), k < j → pairB l[k] l[j] p q = false) => (show ∀ i (hi : i < l.length) j (hj : j < l.length), i < k + 1 → i < j → pairB l[i] l[j] p q = false from fun i hi j hj hik hij => by
              by_cases e : i = k
              · subst e; exact h j hj hij
              · exact HALL.out i hi j hj (by omega) hij)
            have HYE := Lib.hid (HT2.out k hlt')
            obtain ⟨hkd1, hkd2⟩ := HKD.out k hlt'
            have M2 := Lib.hid (M1.out.block #[.int .i64 l[k].kind, .int .i64 l[k].tx, .string l[k].key] 36)
            clear HALL M1
            generalize l[k] = x at *
            obtain ⟨xk, xt, xy⟩ := x
            simp only at hcA hcB hcD M2 hkd1 hkd2
            have hkc : k + 1 ≤ c := by omega
            have hwk : IntKind.i64.wrap ((k : Int) + 1) = (k : Int) + 1 := IntWalk.i64_in _ (by omega)
            by_cases hcc : c = k + 1
            · -- the last mark, at the end of its memory
              have hkn : n = k + 1 := by omega
              have HX : Hid (∀ j (hj : j < l.length), k < j → pairB ⟨xk, xt, xy⟩ l[j] p q = false) := Lib.hid fun j hj h => by have := HL.out; omega
              have M3 := Lib.hid (Mem.drop [] (A := BlockA W1.heap.size #[.int .i64 xk, .int .i64 xt, .string xy] 36) (r := []) M2.out)
              have HX2 := Lib.hid (And.intro (HNX.out HX.out) M3.out)
              clear HX HNX HYE M2 M3
              subst hkn
              subst hcc
              go_wp2_with fail
              go_loopw [40] (fun j wr => j = .int .i64 0 ∧ Hid ((∀ i (hi : i < l.length) j (hj : j < l.length), i < k + 1 → i < j → pairB l[i] l[j] p q = false) ∧ Mem w [] wr [])) (fun _ _ => 0)
              case atStart => exact ⟨rfl, HX2⟩
              case round =>
                obtain ⟨W2, rfl⟩ : ∃ W2, W2 = wr := ⟨_, rfl⟩
                obtain ⟨rfl, HX3⟩ := hrel
                clear HX2
                go_wp2_with fail
                go_roundw
                case rel => exact ⟨k + 1, by omega, by go_num, HX3⟩
                case measure => simp [intOf]
            · have hcn : ¬ k + 1 = c := by omega
              have hcz : ¬ c = k + 1 := hcc
              go_wp2_with fail
              obtain ⟨W2, hW2⟩ : ∃ W2, W2 = W1.alloc (.cells #[.int .i64 xk, .int .i64 xt, .string xy] 36) := ⟨_, rfl⟩
              rw [← hW2] at M2 ⊢
              clear hW2 hcA hcB hcD
              generalize W1.heap.size = b8 at *
              go_loopw [40] (fun j wr => ∃ s : Nat, k + 1 + s ≤ n ∧ j = .int .i64 s ∧ Hid ((∀ j (hj : j < l.length), k < j → j < k + 1 + s → pairB ⟨xk, xt, xy⟩ l[j] p q = false) ∧ Mem w [] wr [BlockA b8 #[.int .i64 xk, .int .i64 xt, .string xy] 36])) (fun j _ => n - (intOf j).toNat)
              case atStart => exact ⟨0, by omega, rfl, Lib.hid ⟨fun j hj h1 h2 => by omega, M2.out⟩⟩
              case round =>
                obtain ⟨W3, rfl⟩ : ∃ W3, W3 = wr := ⟨_, rfl⟩
                obtain ⟨s, hs, rfl, HS⟩ := hrel
                clear M2
                have HALL := Lib.hid HS.out.1
                have M3 := Lib.hid HS.out.2
                clear HS
                by_cases hls : k + 1 + s < n
                · have hls' : k + 1 + s < l.length := by rw [← HL.out]; exact hls
                  obtain ⟨g', off', he, hdA, hdB, hdD⟩ := (HR.out.below M3.out.bel).at (k + 1 + s) hls'
                  obtain ⟨rfl, rfl⟩ : g = g' ∧ off = off' := by simpa using he
                  clear he
                  rw [show off + (k + 1 + s) * 3 = off + (k + 1) * 3 + s * 3 by omega] at hdA hdB hdD
                  have HN2 := Lib.hid fun (h : pairB ⟨xk, xt, xy⟩ l[k + 1 + s] p q = false) => (show ∀ j (hj : j < l.length), k < j → j < k + 1 + (s + 1) → pairB ⟨xk, xt, xy⟩ l[j] p q = false from fun j hj h1 h2 => by
                    by_cases e : j = k + 1 + s
                    · subst e; exact h
                    · exact HALL.out j hj h1 (by omega))
                  have HY2 := Lib.hid (HYE.out (k + 1 + s) hls' (by omega))
                  obtain ⟨hze1, hze2⟩ := HKD.out (k + 1 + s) hls'
                  have M4 := Lib.hid (M3.out.block #[.int .i64 l[k + 1 + s].kind, .int .i64 l[k + 1 + s].tx, .string l[k + 1 + s].key] 36)
                  clear HALL M3
                  unfold pairB at HN2 HY2
                  generalize l[k + 1 + s] = z at *
                  obtain ⟨zk, zt, zy⟩ := z
                  simp only at hdA hdB hdD M4 HN2 HY2 hze1 hze2
                  have hwz : IntKind.i64.wrap (xk + zk) = xk + zk := IntWalk.i64_in _ (by omega)
                  obtain ⟨k0, k1, k2⟩ := box_cells M4.out
                  obtain ⟨j0, j1, j2⟩ := box_cells2 M4.out
                  have HGO := Lib.hid fun (h : _) => And.intro (HN2.out h) (Mem.drop [] (A := BlockA W3.heap.size #[.int .i64 zk, .int .i64 zt, .string zy] 36) (r := [BlockA b8 #[.int .i64 xk, .int .i64 xt, .string xy] 36]) M4.out)
                  have HBE := Lib.hid M4.out.bel
                  clear HN2 M4
                  by_cases a1 : xt = p
                  · have a1' : (xt == p) = true := by simpa using a1
                    clear a1
                    by_cases a2 : zt = q
                    · have a2' : (zt == q) = true := by simpa using a2
                      clear a2
                      by_cases a3 : xk < 3
                      · by_cases a4 : zk < 3
                        · cases hky : (xy.toList == zy.toList) with
                          | true =>
                            by_cases a5 : 2 < xk + zk
                            · have HX := Lib.hid (HY2.out (by rw [a1', a2', hky, decide_eq_true a3, decide_eq_true a4, decide_eq_true a5]; rfl))
                              clear HY2 HGO
                              go_wp2_with fail
                              go_ret
                              exact ⟨by rw [HX.out]; rfl, HBE.out⟩
                            · have HX := Lib.hid (HGO.out (by rw [decide_eq_false a5]; simp))
                              have a5' : decide (2 < xk + zk) = false := decide_eq_false a5
                              clear HY2 HGO
                              go_wp2_with fail
                              go_roundw
                              case rel => exact ⟨s + 1, by omega, by go_num, HX⟩
                              case measure => simp [intOf]; omega
                          | false =>
                            have HX := Lib.hid (HGO.out (by rw [hky]; simp))
                            clear HY2 HGO
                            go_wp2_with fail
                            go_roundw
                            case rel => exact ⟨s + 1, by omega, by go_num, HX⟩
                            case measure => simp [intOf]; omega
                        · have HX := Lib.hid (HGO.out (by rw [decide_eq_false a4]; simp))
                          clear HY2 HGO
                          go_wp2_with fail
                          go_roundw
                          case rel => exact ⟨s + 1, by omega, by go_num, HX⟩
                          case measure => simp [intOf]; omega
                      · have HX := Lib.hid (HGO.out (by rw [decide_eq_false a3]; simp))
                        clear HY2 HGO
                        go_wp2_with fail
                        go_roundw
                        case rel => exact ⟨s + 1, by omega, by go_num, HX⟩
                        case measure => simp [intOf]; omega
                    · have a2' : (zt == q) = false := by simpa using a2
                      have HX := Lib.hid (HGO.out (by rw [a2']; simp))
                      clear HY2 HGO a2
                      go_wp2_with fail
                      go_roundw
                      case rel => exact ⟨s + 1, by omega, by go_num, HX⟩
                      case measure => simp [intOf]; omega
                  · have a1' : (xt == p) = false := by simpa using a1
                    have HX := Lib.hid (HGO.out (by rw [a1']; rfl))
                    clear HY2 HGO a1
                    go_wp2_with fail
                    go_roundw
                    case rel => exact ⟨s + 1, by omega, by go_num, HX⟩
                    case measure => simp [intOf]; omega
                · have hse : k + 1 + s = n := by omega
                  have HX := Lib.hid (And.intro (HNX.out fun j hj h1 => HALL.out j hj h1 (by have := HL.out; omega)) (Mem.drop [] (A := BlockA b8 #[.int .i64 xk, .int .i64 xt, .string xy] 36) (r := []) M3.out))
                  have hse2 : n - (k + 1) = s := by omega
                  clear HALL M3 HNX HYE
                  go_wp2_with fail
                  go_roundw
                  case rel => exact ⟨k + 1, by omega, by go_num, HX⟩
                  case measure => simp [intOf]; omega
          · obtain rfl : k = n := by omega
            have HX := Lib.hid (And.intro (HN.out fun i hi j hj hij => HALL.out i hi j hj (by rw [HL.out]; exact hi) hij) M1.out.bel)
            clear HALL M1
            go_wp2_with fail
            go_ret
            exact ⟨by rw [HX.out.1]; rfl, HX.out.2⟩
open Classical in
/-- is there such an edge? -/
noncomputable def edgeQ (l : List Mk) (p q : Int) : Bool := decide (EdgeP l p q)
theorem edgeQ_iff (l : List Mk) (p q : Int) : edgeQ l p q = true ↔ EdgeP l p q := by unfold edgeQ; simp
theorem redge_is (a : Option Addr) (n c : Nat) (l : List Mk) (p q : Int) (w : World) (hr : MksAt w a n l) (hn : n ≤ 1000) (hnc : n ≤ c) (hR : RightP l) :
    Calls Try.prog 55 #[.slice a n c, .int .i64 p, .int .i64 q] w fun e w' => e = .returned (.bool (edgeQ l p q)) ∧ Below w.heap.size w w' := by
  have hfalse : ∀ {P : Prop}, (EdgeP l p q → False) → P ∨ edgeQ l p q = false := fun h => .inr (by cases hc : edgeQ l p q with | false => rfl | true => exact absurd ((edgeQ_iff l p q).1 hc) h)
  have hf : (EdgeP l p q → False) → edgeQ l p q = false := fun h => (hfalse (P := False) h).resolve_left id
  refine redge_any a n c l p q _ w hr hn hnc hR ?_ ?_ ?_
  · rintro (h | h | h)
    · exact hf fun he => (edge_live he).2.2 h
    · refine hf fun he => ?_
      rw [isR4_live hR, ((allM_mem l p).1 (edge_live he).1).1] at h
      cases h
    · refine hf fun he => ?_
      rw [isR4_live hR, ((allM_mem l q).1 (edge_live he).2.1).1] at h
      cases h
  · intro hne h1 h2 i hi j hj hij hp
    rw [isR4_live hR] at h1 h2
    have l1 : liveB l p = true := by simpa using h1
    have l2 : liveB l q = true := by simpa using h2
    have e1 : l[i].tx = p := by unfold pairB at hp; simp only [Bool.and_eq_true, beq_iff_eq] at hp; exact hp.1.1.1.1.1
    have e2 : l[j].tx = q := by unfold pairB at hp; simp only [Bool.and_eq_true, beq_iff_eq] at hp; exact hp.1.1.1.1.2
    subst e1 e2
    rw [pair_meet (hR.odd _ (List.getElem_mem hi)) (hR.odd _ (List.getElem_mem hj)) hne l1 l2] at hp
    exact (edgeQ_iff l _ _).2 ⟨j, i, hj, hi, hij, hp, rfl, rfl⟩
  · intro hall
    refine hf fun he => ?_
    obtain ⟨j, i, hj, hi, hij, hm, rfl, rfl⟩ := he
    obtain ⟨p1, _, _, _, _, p6, p7⟩ := meet_parts hm
    have := hall i hi j hj hij
    rw [pair_meet (hR.odd _ (List.getElem_mem hi)) (hR.odd _ (List.getElem_mem hj)) p1 p6 p7, hm] at this
    cases this
end Go.Proofs.Ytbgabdofnmijnaa
