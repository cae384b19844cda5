/- AgingEnds walked. -/
import Derived.Test.YtlmfpkfgjfdhgaaCA
import Derived.Test.YtlmfpkfgjfdhgaaAF
import Derived.Deep.CutRange
import Derived.Deep.CutBlock
import Derived.BigRegion
namespace Go.Proofs.Ytlmfpkfgjfdhgaa
open Go.RowKit
theorem leftE_le (n : Nat) (o : Nat → Bool) : leftE n o ≤ n := by
  unfold leftE
  have := List.length_filter_le (fun j => !o j) (List.range n)
  rwa [List.length_range] at this
def stE (sm : List Int) (i : Nat) : Int := sm[i]?.getD 0
theorem mem_waitsC {w0 w : World} {D0 : List Nat} {p : Nat} {wd : Bool} {M : List Mb} {K : List Lk} (l : List Asn) {r : List Asn} [Stables l] [Stables r] (h : Mem w0 D0 w (l ++ TbA p wd M K :: r)) (ok : SOk M K) (id : Int) :
    Calls Try.prog 30 #[.pointer (some ⟨p, 0, none⟩), .int .i64 id] w fun e w' => e = .returned (.tuple #[.string (waitsM M id).1, .bool (waitsM M id).2]) ∧ Mem w0 D0 w' (l ++ TbA p wd M K :: r) := by
  obtain ⟨D, la, lc, ka, kc, rfl, ht⟩ := Mem.get l h
  exact (tb_waits p wd la lc M ka kc K id w ht ok.ok.sm ok.ok.fm).mono fun e w' ⟨he, hb⟩ => ⟨he, h.below hb⟩
theorem natRow_cell {w : World} {g n : Nat} {f : Nat → Nat} (h : Row w 3 1 (some ⟨g, 0, none⟩) n n (natRow n f)) {j : Nat} (hj : j < n) : w.cell? ⟨g, j, none⟩ = some (.int .i64 (f j : Nat)) ∧ w.frozen? ⟨g, j, none⟩ = false := by
  rcases h.out with ⟨e, _⟩ | ⟨g', cur, e, hg, h1, h2, h3, h4, _⟩
  · cases e
  · obtain rfl : g = g' := by simpa using e
    have hlt : j < cur.size := by omega
    have hc : cur[j]? = some (.int .i64 (f j : Nat)) := by
      have e2 : (natRow n f)[j]? = some (.int .i64 (f j : Nat)) := by simp [natRow, hj]
      rw [← h4, List.getElem?_take] at e2
      split at e2
      · simpa using e2
      · cases e2
    exact cell_of_heap hg hc
/-- what holds at a round's head, and ahead of a turn. -/
def RHead (w : World) (p ga gb n : Nat) (wd : Bool) (ws : List (List Int)) (sm : List Int) (s : ES) (wr : World) : Prop :=
  EI wd n (WE ws) (stE sm) KSE s ∧ Mem w [] wr [RowA 3 1 (some ⟨gb, 0, none⟩) n n (natRow n (ovN s.o)), RowA 3 1 (some ⟨ga, 0, none⟩) n n (natRow n s.a), TbA p wd s.M s.K]
set_option maxRecDepth 100000 in
set_option maxHeartbeats 8000000 in
theorem ends_law (wd : Bool) (a : Option Addr) (n c : Nat) (ws : List (List Int)) (b : Option Addr) (k d : Nat) (sm : List Int) (w : World) (hn : n ≤ maxLen) (h : WantsAt w a n ws) (hk : k ≤ maxLen) (hs : BytesAt w b k sm) :
    Calls Try.prog 6 #[.bool wd, .slice a n c, .slice b k d] w fun e w' => e = .returned (.bool true) ∧ Below w.heap.size w w' := by
  have HF := Lib.hid (fixed_any w)
  have HW := Lib.hid h
  have HS := Lib.hid hs
  have HNL := Lib.hid h.1
  have HKL := Lib.hid hs.1
  unfold maxLen at hn hk
  clear h hs
  by_cases hg : 5 < n ∨ k < n
  · have hor : decide ((5 : Int) < (n : Int)) = true ∨ (decide ((5 : Int) < (n : Int)) = false ∧ k < n) := by
      by_cases h1 : 5 < n
      · exact .inl (decide_eq_true (by omega))
      · exact .inr ⟨decide_eq_false (by omega), by omega⟩
    clear hg
    rcases hor with h1 | ⟨h1, h2⟩
    all_goals
      go_enter Try.func6, Try.ntmps6
      go_wp2_with fail
      refine HF.out.mono ?_
      rintro e w1 ⟨rfl, hb⟩
      have HB := Lib.hid hb
      clear hb
      go_wp2_with fail
      go_ret
      exact ⟨rfl, HB.out⟩
  have hn5 : n ≤ 5 := by omega
  have hnk : n ≤ k := by omega
  clear hg
  have h1 : decide ((5 : Int) < (n : Int)) = false := decide_eq_false (by omega)
  have h2 : ¬ k < n := by omega
  have HNEW := Lib.hid (tb_new wd)
  go_enter Try.func6, Try.ntmps6
  go_wp2_with fail
  refine HF.out.mono ?_
  rintro e w1 ⟨rfl, hb⟩
  have HB := Lib.hid hb
  clear hb
  go_wp2_with fail
  refine (HNEW.out w1).mono ?_
  rintro e w3 ⟨p, rfl, hA, hd, hb⟩
  have M1 := Lib.hid (show Mem w [] w3 (TbA p wd [] [] :: []) from ((Mem.nil w).below HB.out).new hb hA hd)
  clear hA hd hb
  go_wp2_with fail
  go_loopw [37] (fun jv wr => ∃ i : Nat, i ≤ n ∧ jv = .int .i64 i ∧ Hid (∃ M, EJ wd (stE sm) i M ∧ (∀ j (h : j < ws.length), j < i → ws[j].length ≤ 4) ∧ Mem w [] wr [TbA p wd M []])) (fun jv _ => n - (intOf jv).toNat)
  case atStart => exact ⟨0, Nat.zero_le _, rfl, Lib.hid ⟨[], EJ.start wd _, fun j h hj => by omega, M1.out⟩⟩
  case round =>
    obtain ⟨i, hi, rfl, hS⟩ := hrel
    clear M1 HB
    obtain ⟨M, hej, hfour, hmem⟩ := hS.out
    have EJH := Lib.hid hej
    have HFO := Lib.hid hfour
    have M2 := Lib.hid hmem
    clear hej hfour hmem hS
    by_cases hlt : i < n
    · have hil : i < ws.length := by rw [← HNL.out]; exact hlt
      obtain ⟨g, off, rfl, aj, nj, cj, hx, hnj, hbj⟩ := (HW.out.below M2.out.bel).2 i hil
      obtain ⟨gs, offs, rfl, hy, hy0, hy1⟩ := (HS.out.below M2.out.bel).2 i (by rw [← HKL.out]; omega)
      have hst : stE sm i = sm[i]'(by rw [← HKL.out]; omega) := by unfold stE; simp [show i < sm.length by rw [← HKL.out]; omega]
      rw [← hst] at hy hy0 hy1
      have hjl := hbj.1
      unfold maxLen at hnj
      by_cases h4 : 4 < nj
      · have hd4 : decide ((4 : Int) < (nj : Int)) = true := decide_eq_true (by omega)
        have HBW := Lib.hid M2.out.bel
        clear hbj hst hjl
        go_wp2_with fail
        go_ret
        exact ⟨rfl, HBW.out⟩
      · have hd4 : decide ((4 : Int) < (nj : Int)) = false := decide_eq_false (by omega)
        obtain ⟨M', hj, hej'⟩ := EJH.out.join (show i < 5 by omega) hy0 hy1
        have HJ := Lib.hid (mem_join [] (r := []) M2.out EJH.out.c.sok hj)
        have HFIN : Hid (∀ W, Mem w [] W [TbA p wd M' []] → ∃ M, EJ wd (stE sm) (i + 1) M ∧ (∀ j (h : j < ws.length), j < i + 1 → ws[j].length ≤ 4) ∧ Mem w [] W [TbA p wd M []]) := Lib.hid fun W hm => ⟨M', hej', fun j hjl2 hji => by
          by_cases e : j = i
          · subst e; omega
          · exact HFO.out j hjl2 (by omega), hm⟩
        clear hj hej' hbj hst hjl
        generalize stE sm i = sti at *
        go_wp2_with fail
        refine HJ.out.mono ?_
        rintro e w4 ⟨rfl, hm⟩
        have HF2 := Lib.hid (HFIN.out w4 hm)
        clear hm HJ HFIN
        go_wp2_with fail
        go_roundw
        case rel => exact ⟨i + 1, by omega, by go_num, HF2⟩
        case measure => simp [intOf]; omega
    · obtain rfl : i = n := by omega
      have hmk := fun (w : World) => run_make_row' (P := Try.prog) 40 3 (.int .i64 0) 8 Try.underlying40 info3 rfl .i64 .i64 i (by omega) (by omega) w
      have HEI := Lib.hid (EJH.out.all (WE ws) KSE)
      have M3 := Lib.hid (mem_made (mem_made M2.out i (by omega)) i (by omega))
      go_wp2_with fail
      obtain ⟨r, hr⟩ := rk_ex hn5 (stE sm)
      have HRK := Lib.hid hr
      have hws0 : ∀ x ∈ ws, x.length ≤ 4 := fun x hx => by
        obtain ⟨j, hj, rfl⟩ := List.getElem_of_mem hx
        exact HFO.out j hj (by rw [HNL.out]; exact hj)
      have H4 : Hid (∀ j < i, (WE ws j).length ≤ 4) := Lib.hid (by have := WE_four hws0; rw [← HNL.out] at this; exact this)
      have HWO : Hid (WOk i (WE ws) KSE) := Lib.hid (by rw [HNL.out]; exact WE_ok ws)
      have HI : Hid (RHead w p wr.heap.size (wr.heap.size + 1) i wd ws sm ⟨M, [], fun _ => 0, fun _ => false⟩ ((wr.alloc (.cells (madeCells #[.int .i64 0] i) 3)).alloc (.cells (madeCells #[.int .i64 0] i) 3))) := Lib.hid ⟨HEI.out, by
        have := M3.out
        simp only [World.size_alloc] at this
        exact this⟩
      have HWS : Hid (Worth wd i (WE ws) r ⟨M, [], fun _ => 0, fun _ => false⟩ 7776) := Lib.hid (worth_start HEI.out H4.out HRK.out)
      have hl0 : (i : Int) = (leftE i (fun _ => false) : Nat) := by rw [leftE_start]
      clear HEI M3 M2 HFO EJH hr hws0 hmk
      generalize wr.heap.size = ga at *
      go_loopw [11, 13] (fun lv qv wr => ∃ q v : Nat, ∃ s : ES, q + v = 7776 ∧ qv = .int .i64 (q : Nat) ∧ lv = .int .i64 (leftE i s.o : Nat) ∧ Hid (RHead w p ga (ga + 1) i wd ws sm s wr) ∧ Hid (Worth wd i (WE ws) r s v)) (fun _ qv _ => 7777 - (intOf qv).toNat)
      case atStart => exact ⟨0, 7776, ⟨M, [], fun _ => 0, fun _ => false⟩, rfl, rfl, by rw [leftE_start], HI, HWS⟩
      case round =>
        obtain ⟨W1, rfl⟩ : ∃ W1, W1 = wr := ⟨_, rfl⟩
        obtain ⟨q, v, s, hqv, rfl, rfl, hS, hWo⟩ := hrel
        clear HI HWS hl0
        by_cases hl : 0 < leftE i s.o
        · obtain ⟨hv2, hw2⟩ := worth_falls hS.out.1 HWO.out H4.out HRK.out hWo.out (leftE_pos.1 hl)
          have HW2 := Lib.hid hw2
          clear hw2 hWo
          have hql : decide ((20000 : Int) < (q : Int)) = false := decide_eq_false (by omega)
          have HT0 : Hid (RHead w p ga (ga + 1) i wd ws sm (turnsE wd (WE ws) s 0) W1) := hS
          go_wp2_with fail
          go_loopw [11, 76] (fun lv jv wr => ∃ j : Nat, j ≤ i ∧ jv = .int .i64 (j : Nat) ∧ lv = .int .i64 (leftE i (turnsE wd (WE ws) s j).o : Nat) ∧ Hid (RHead w p ga (ga + 1) i wd ws sm (turnsE wd (WE ws) s j) wr)) (fun _ jv _ => i - (intOf jv).toNat)
          case atStart => exact ⟨0, Nat.zero_le _, rfl, rfl, HT0⟩
          case round =>
            obtain ⟨W2, rfl⟩ : ∃ W2, W2 = wr := ⟨_, rfl⟩
            obtain ⟨j, hj, rfl, rfl, hT⟩ := hrel
            clear HT0 hS
            by_cases hlj : j < i
            · obtain ⟨hE, hm⟩ := hT.out
              have HE := Lib.hid hE
              have M5 := Lib.hid hm
              have HNX : Hid (∀ s', turnE wd (WE ws) (turnsE wd (WE ws) s j) j = s' → turnsE wd (WE ws) s (j + 1) = s') := Lib.hid fun s' e => e
              have HEN := Lib.hid (hE.turn HWO.out hlj)
              obtain ⟨g, off, rfl, aj, nj, cj, hx0, hnj, hbj⟩ := HW.out.2 j (by rw [← HNL.out]; exact hlj)
              have hx := (hm.bel.cell (World.block_lt_of_cell? w _ hx0)).trans hx0
              clear hx0
              have HWJ : Hid ((WE ws j) = ws[j].map kyE) := Lib.hid (WE_at (by rw [← HNL.out]; exact hlj))
              have HBJ := Lib.hid hbj
              clear hE hm hbj hT
              generalize turnsE wd (WE ws) s j = t at *
              have HWAI := Lib.hid (mem_waitsC [RowA 3 1 (some ⟨ga + 1, 0, none⟩) i i (natRow i (ovN t.o)), RowA 3 1 (some ⟨ga, 0, none⟩) i i (natRow i t.a)] (r := []) M5.out HE.out.c.sok (j : Int))
              go_wp2_with fail
              refine HWAI.out.mono ?_
              rintro e w6 ⟨rfl, hm⟩
              have M6 := Lib.hid (show Mem w [] w6 [RowA 3 1 (some ⟨ga + 1, 0, none⟩) i i (natRow i (ovN t.o)), RowA 3 1 (some ⟨ga, 0, none⟩) i i (natRow i t.a), TbA p wd t.M t.K] from hm)
              obtain ⟨hoc, hof⟩ := natRow_cell (Mem.rowAt [] (r := [RowA 3 1 (some ⟨ga, 0, none⟩) i i (natRow i t.a), TbA p wd t.M t.K]) hm) hlj
              obtain ⟨hac, haf⟩ := natRow_cell (Mem.rowAt [RowA 3 1 (some ⟨ga + 1, 0, none⟩) i i (natRow i (ovN t.o))] (r := [TbA p wd t.M t.K]) hm) hlj
              have hjz : (0 : Int) ≤ (j : Int) := by omega
              have hjn : (j : Int) < (i : Int) := by omega
              clear hm M5 HWAI
              have HSK : Hid (((waitsM t.M j).2 = true ∨ t.o j = true) → RHead w p ga (ga + 1) i wd ws sm (turnsE wd (WE ws) s (j + 1)) w6) := Lib.hid fun hc => by
                rw [HNX.out t (by unfold turnE; rw [if_pos hc])]
                exact ⟨HE.out, M6.out⟩
              have HSL : Hid (((waitsM t.M j).2 = true ∨ t.o j = true) → leftE i t.o = leftE i (turnsE wd (WE ws) s (j + 1)).o) := Lib.hid fun hc => by
                rw [HNX.out t (by unfold turnE; rw [if_pos hc])]
              cases hw : (waitsM t.M j).2 with
              | true =>
                have HF2 := Lib.hid (HSK.out (.inl hw))
                have HF3 := Lib.hid (HSL.out (.inl hw))
                clear HSK HSL
                generalize (waitsM t.M j).1 = wk at *
                go_wp2_with fail
                go_roundw
                case rel => exact ⟨j + 1, by omega, by go_num, by rw [← HF3.out], HF2⟩
                case measure => simp [intOf]; omega
              | false =>
                generalize (waitsM t.M j).1 = wk at *
                cases ho : t.o j with
                | true =>
                  have HF2 := Lib.hid (HSK.out (.inr ho))
                  have HF3 := Lib.hid (HSL.out (.inr ho))
                  clear HSK HSL
                  rw [show ovN t.o j = 1 by unfold ovN; rw [ho]; rfl] at hoc
                  go_wp2_with fail
                  go_roundw
                  case rel => exact ⟨j + 1, by omega, by go_num, by rw [← HF3.out], HF2⟩
                  case measure => simp [intOf]; omega
                | false =>
                  rw [show ovN t.o j = 0 by unfold ovN; rw [ho]; rfl] at hoc
                  clear HSK HSL
                  have HNW := Lib.hid ((waitsM_not HE.out.c.sok.ok.sm (j : Int)).1 hw)
                  have HHAS := Lib.hid (HE.out.has hlj ho)
                  have HGO : Hid (∀ s', goE wd (WE ws) t j = s' → turnsE wd (WE ws) s (j + 1) = s') := Lib.hid fun s' e => HNX.out s' (by unfold turnE; rw [if_neg (by rw [hw, ho]; simp)]; exact e)
                  have HLE := Lib.hid (HE.out.eat_le hlj)
                  have HENG : Hid (EI wd i (WE ws) (stE sm) KSE (goE wd (WE ws) t j)) := Lib.hid (by
                    have := HEN.out
                    unfold turnE at this
                    rwa [if_neg (by rw [hw, ho]; simp)] at this)
                  have HHO := Lib.hid (mem_holds [RowA 3 1 (some ⟨ga + 1, 0, none⟩) i i (natRow i (ovN t.o)), RowA 3 1 (some ⟨ga, 0, none⟩) i i (natRow i t.a)] (r := []) M6.out HE.out.c.sok (j : Int))
                  clear HNX
                  go_upto_region 25 with (fail)
                  go_cut [106] from 95 to 105 (fun v wx => ∃ b0 : Bool, v = .bool b0 ∧ Hid (b0 = true → eatE t j = 0) ∧ Hid (b0 = false → eatE t j = t.a j) ∧ Hid (Mem w [] wx [RowA 3 1 (some ⟨ga + 1, 0, none⟩) i i (natRow i (ovN t.o)), RowA 3 1 (some ⟨ga, 0, none⟩) i i (natRow i t.a), TbA p wd t.M t.K]))
                  case first =>
                    rcases Nat.eq_zero_or_pos (t.a j) with ha0 | ha0
                    · have HFIN : Hid (eatE t j = t.a j) := Lib.hid (by rw [eatE_zero ha0, ha0])
                      have HM := M6
                      rw [ha0] at hac
                      clear HHO M6
                      go_wp2_with fail
                      go_meet
                      case rel => exact ⟨false, rfl, Lib.hid (by simp), Lib.hid fun _ => HFIN.out, HM⟩
                    · have HEN2 := Lib.hid fun h => eatE_none (s := t) (i := j) hw h
                      have HES := Lib.hid fun h => eatE_some (s := t) (i := j) h
                      have ha1 : decide ((0 : Int) < (t.a j : Nat)) = true := decide_eq_true (by omega)
                      clear M6
                      go_wp2_with fail
                      refine HHO.out.mono ?_
                      rintro e w7 ⟨a7, c7, rfl, hm⟩
                      have M7 := Lib.hid (show Mem w [] w7 [RowA 3 1 (some ⟨ga + 1, 0, none⟩) i i (natRow i (ovN t.o)), RowA 3 1 (some ⟨ga, 0, none⟩) i i (natRow i t.a), TbA p wd t.M t.K] from Mem.drop [] (A := RowA 9 1 a7 _ c7 _) (r := [RowA 3 1 (some ⟨ga + 1, 0, none⟩) i i (natRow i (ovN t.o)), RowA 3 1 (some ⟨ga, 0, none⟩) i i (natRow i t.a), TbA p wd t.M t.K]) hm)
                      clear hm HHO
                      generalize (holdsK t.K (j : Int)).length = nh at *
                      by_cases hnh : nh = 0
                      · have HFIN := Lib.hid (HEN2.out hnh)
                        have hnh2 : ((nh : Int) == 0) = true := by rw [hnh]; rfl
                        clear HEN2 HES hnh
                        go_wp2_with fail
                        go_meet
                        case rel => exact ⟨true, rfl, Lib.hid fun _ => HFIN.out, Lib.hid (by simp), M7⟩
                      · have hnh2 : ((nh : Int) == 0) = false := by simpa using hnh
                        have HFIN := Lib.hid (HES.out hnh)
                        clear HEN2 HES hnh
                        go_wp2_with fail
                        go_meet
                        case rel => exact ⟨false, rfl, Lib.hid (by simp), Lib.hid fun _ => HFIN.out, M7⟩
                  case rest =>
                    obtain ⟨b0, rfl, HB1, HB2, M7⟩ := hcut
                    obtain ⟨hac2, haf2⟩ := natRow_cell (Mem.rowAt [RowA 3 1 (some ⟨ga + 1, 0, none⟩) i i (natRow i (ovN t.o))] (r := [TbA p wd t.M t.K]) M7.out) hlj
                    clear hac haf hoc hof M6 HHO
                    rename_i hKa
                    refine hKa _ _ ?_
                    go_cut [] from 107 to 109 (fun wx => Hid (Mem w [] wx [RowA 3 1 (some ⟨ga + 1, 0, none⟩) i i (natRow i (ovN t.o)), RowA 3 1 (some ⟨ga, 0, none⟩) i i (natRow i (upd t.a j (eatE t j))), TbA p wd t.M t.K]))
                    case first =>
                      cases b0 with
                      | true =>
                        have HFIN : Hid (Mem w [] (wc.setCell ⟨ga, j, none⟩ (.int .i64 0)) [RowA 3 1 (some ⟨ga + 1, 0, none⟩) i i (natRow i (ovN t.o)), RowA 3 1 (some ⟨ga, 0, none⟩) i i (natRow i (upd t.a j (eatE t j))), TbA p wd t.M t.K]) := Lib.hid (by rw [HB1.out rfl]; exact mem_natSet [RowA 3 1 (some ⟨ga + 1, 0, none⟩) i i (natRow i (ovN t.o))] M7.out j 0)
                        clear M7 HB1 HB2
                        go_wp2_with fail
                        go_meet
                        case rel => exact HFIN
                      | false =>
                        have HFIN : Hid (Mem w [] wc [RowA 3 1 (some ⟨ga + 1, 0, none⟩) i i (natRow i (ovN t.o)), RowA 3 1 (some ⟨ga, 0, none⟩) i i (natRow i (upd t.a j (eatE t j))), TbA p wd t.M t.K]) := Lib.hid (by rw [HB2.out rfl, upd_same t.a j rfl]; exact M7.out)
                        clear M7 HB1 HB2
                        go_wp2_with fail
                        go_meet
                        case rel => exact HFIN
                    case rest =>
                    clear M7 HB1 HB2 hac2 haf2
                    have M8 := hcut
                    have hcnj : nj = (WE ws j).length := by rw [HWJ.out, List.length_map]; exact HBJ.out.1
                    have h4 := H4.out j hlj
                    obtain ⟨hac3, haf3⟩ := natRow_cell (Mem.rowAt [RowA 3 1 (some ⟨ga + 1, 0, none⟩) i i (natRow i (ovN t.o))] (r := [TbA p wd t.M t.K]) M8.out) hlj
                    rw [upd_eq] at hac3
                    clear hcut
                    by_cases hfull : eatE t j = (WE ws j).length
                    · obtain ⟨x, M', K', hlv⟩ : ∃ x M' K', leaveT wd t.M t.K (j : Int) = (x, M', K') := ⟨_, _, _, rfl⟩
                      have hx0 : x = 0 := by
                        have := (leave_lost (wd := wd) HE.out.c.sok.ok HHAS.out).1
                        rw [hlv] at this
                        exact this
                      subst hx0
                      have HL := Lib.hid (mem_leave [RowA 3 1 (some ⟨ga + 1, 0, none⟩) i i (natRow i (ovN t.o)), RowA 3 1 (some ⟨ga, 0, none⟩) i i (natRow i (upd t.a j (eatE t j)))] (r := []) M8.out HE.out.c.sok hlv)
                      have HFIN : Hid (∀ W, Mem w [] W [RowA 3 1 (some ⟨ga + 1, 0, none⟩) i i (natRow i (upd (ovN t.o) j 1)), RowA 3 1 (some ⟨ga, 0, none⟩) i i (natRow i (upd t.a j (eatE t j))), TbA p wd M' K'] → RHead w p ga (ga + 1) i wd ws sm (turnsE wd (WE ws) s (j + 1)) W) := Lib.hid fun W hm => by
                        have h1 := HENG.out
                        rw [goE_leave hfull hlv] at h1
                        rw [ovN_upd] at hm
                        rw [HGO.out _ (goE_leave hfull hlv)]
                        exact ⟨h1, hm⟩
                      have hlf : leftE i (turnsE wd (WE ws) s (j + 1)).o + 1 = leftE i t.o := by
                        rw [HGO.out _ (goE_leave hfull hlv)]
                        exact leftE_over i t.o j hlj ho
                      have hl5 := leftE_le i t.o
                      have hen : ((eatE t j : Int) == (nj : Int)) = true := by rw [hfull, hcnj]; simp
                      clear HGO HENG hlv hfull M8 HEN
                      generalize hl2 : leftE i (turnsE wd (WE ws) s (j + 1)).o = lf2 at *
                      have HL2 := Lib.hid hl2
                      clear hl2
                      generalize leftE i t.o = lf at *
                      generalize eatE t j = ee at *
                      go_wp2_with fail
                      refine HL.out.mono ?_
                      rintro e w9 ⟨rfl, hm⟩
                      obtain ⟨hoc3, hof3⟩ := natRow_cell (Mem.rowAt [] (r := [RowA 3 1 (some ⟨ga, 0, none⟩) i i (natRow i (upd t.a j ee)), TbA p wd M' K']) hm) hlj
                      have HF := Lib.hid (HFIN.out (w9.setCell ⟨ga + 1, j, none⟩ (.int .i64 1)) (mem_natSet [] (r := [RowA 3 1 (some ⟨ga, 0, none⟩) i i (natRow i (upd t.a j ee)), TbA p wd M' K']) hm j 1))
                      clear hm HL HFIN
                      go_wp2_with fail
                      go_roundw
                      case rel => exact ⟨j + 1, by omega, by go_num, by rw [HL2.out]; go_num, HF⟩
                      case measure => simp [intOf]; omega
                    · have hlt : eatE t j < (WE ws j).length := by have := HLE.out; omega
                      have hltw : eatE t j < (ws[j]'(by rw [← HNL.out]; exact hlj)).length := by
                        have := congrArg List.length HWJ.out
                        rw [List.length_map] at this
                        omega
                      obtain ⟨gj, oj, rfl, hy, hy0, hy1⟩ := (HBJ.out.below M8.out.bel).2 (eatE t j) hltw
                      have hk : (WE ws j)[eatE t j] = kyE (ws[j]'(by rw [← HNL.out]; exact hlj))[eatE t j] := by
                        rw [List.getElem_of_eq HWJ.out hlt, List.getElem_map]
                      generalize (ws[j]'(by rw [← HNL.out]; exact hlj))[eatE t j] = c at *
                      obtain ⟨x, y, M', K', hak⟩ : ∃ x y M' K', askT wd t.M t.K (j : Int) (kyE c) = ((x, y), M', K') := ⟨_, _, _, _, rfl⟩
                      have hcode := ask_code HE.out.c.sok.ok HE.out.c.sok.hold (by rw [kyE_size]; decide) HHAS.out HNW.out hak (by omega)
                      have HFIN : Hid (∀ W, Mem w [] W [RowA 3 1 (some ⟨ga + 1, 0, none⟩) i i (natRow i (ovN t.o)), RowA 3 1 (some ⟨ga, 0, none⟩) i i (natRow i (upd t.a j (if y = 11 then 0 else eatE t j + 1))), TbA p wd M' K'] → RHead w p ga (ga + 1) i wd ws sm (turnsE wd (WE ws) s (j + 1)) W) := Lib.hid fun W hm => by
                        have h1 := HENG.out
                        rw [goE_ask hlt hk hak] at h1
                        rw [HGO.out _ (goE_ask hlt hk hak)]
                        exact ⟨h1, hm⟩
                      have hlf : leftE i (turnsE wd (WE ws) s (j + 1)).o = leftE i t.o := by
                        rw [HGO.out _ (goE_ask hlt hk hak)]
                      have hen : ((eatE t j : Int) == (nj : Int)) = false := by simp only [beq_eq_false_iff_ne, ne_eq]; omega
                      have hen2 : eatE t j < nj := by omega
                      have hb4 : 0 ≤ c % 4 ∧ c % 4 < 4 := ⟨Int.emod_nonneg _ (by decide), Int.emod_lt_of_pos _ (by decide)⟩
                      have hkc := fun W : World => key_conv W c hy0
                      have M9 := fun W (hb : Below wc.heap.size wc W) => M8.out.below hb
                      have HASK : Hid (∀ W, Below wc.heap.size wc W → Calls Try.prog 12 #[.pointer (some ⟨p, 0, none⟩), .int .i64 (j : Int), .string (kyE c)] W fun e w' => e = two x y ∧ Mem w [] w' [RowA 3 1 (some ⟨ga + 1, 0, none⟩) i i (natRow i (ovN t.o)), RowA 3 1 (some ⟨ga, 0, none⟩) i i (natRow i (upd t.a j (eatE t j))), TbA p wd M' K']) := Lib.hid fun W hb => mem_ask [RowA 3 1 (some ⟨ga + 1, 0, none⟩) i i (natRow i (ovN t.o)), RowA 3 1 (some ⟨ga, 0, none⟩) i i (natRow i (upd t.a j (eatE t j)))] (r := []) (M8.out.below hb) HE.out.c.sok hak
                      have he4 : eatE t j ≤ 4 := by omega
                      have HL2 : Hid (leftE i (turnsE wd (WE ws) s (j + 1)).o = leftE i t.o) := Lib.hid hlf
                      clear HGO HENG hak HEN M8 M9 hk hlt hltw hcnj hfull hlf
                      generalize eatE t j = ee at *
                      generalize hkk : kyE c = kk at *
                      clear hkk
                      go_wp2_with fail
                      refine (HASK.out _ (by exact bel_new _ _)).mono ?_
                      rintro e w9 ⟨rfl, hm⟩
                      have M9 := Lib.hid (show Mem w [] w9 [RowA 3 1 (some ⟨ga + 1, 0, none⟩) i i (natRow i (ovN t.o)), RowA 3 1 (some ⟨ga, 0, none⟩) i i (natRow i (upd t.a j ee)), TbA p wd M' K'] from hm)
                      obtain ⟨hac4, haf4⟩ := natRow_cell (Mem.rowAt [RowA 3 1 (some ⟨ga + 1, 0, none⟩) i i (natRow i (ovN t.o))] (r := [TbA p wd M' K']) M9.out) hlj
                      rw [upd_eq] at hac4
                      clear hm HASK hac3 haf3 hy
                      have HFI : Hid (∀ v : Nat, v = (if y = 11 then 0 else ee + 1) → RHead w p ga (ga + 1) i wd ws sm (turnsE wd (WE ws) s (j + 1)) (w9.setCell ⟨ga, j, none⟩ (.int .i64 (v : Nat)))) := Lib.hid fun v hv => HFIN.out _ (by
                        have := mem_natSet [RowA 3 1 (some ⟨ga + 1, 0, none⟩) i i (natRow i (ovN t.o))] (r := [TbA p wd M' K']) M9.out j v
                        rw [upd_upd, hv] at this
                        rw [hv]
                        exact this)
                      clear HFIN M9
                      rcases hcode with rfl | ⟨rfl, hne⟩ | rfl
                      · have HF := Lib.hid (HFI.out (ee + 1) rfl)
                        clear HFI
                        go_wp2_with fail
                        go_roundw
                        case rel => exact ⟨j + 1, by omega, by go_num, by rw [HL2.out], HF⟩
                        case measure => simp [intOf]; omega
                      · have HF := Lib.hid (HFI.out (ee + 1) rfl)
                        have hne2 : (x == (j : Int)) = false := by simpa using hne
                        clear HFI
                        go_wp2_with fail
                        go_roundw
                        case rel => exact ⟨j + 1, by omega, by go_num, by rw [HL2.out], HF⟩
                        case measure => simp [intOf]; omega
                      · have HF := Lib.hid (HFI.out 0 rfl)
                        clear HFI
                        go_wp2_with fail
                        go_roundw
                        case rel => exact ⟨j + 1, by omega, by go_num, by rw [HL2.out], HF⟩
                        case measure => simp [intOf]; omega
            · obtain rfl : i = j := by omega
              go_wp2_with fail
              go_roundw
              case rel => exact ⟨q + 1, v - 1, turnsE wd (WE ws) s i, by omega, by go_num, rfl, hT, HW2⟩
              case measure => simp [intOf]; omega
        · have hall : ∀ j < i, s.o j = true := fun j hj => by
            cases e : s.o j with
            | true => rfl
            | false => exact absurd (leftE_pos.2 ⟨j, hj, e⟩) hl
          have hnone := hS.out.1.none hall
          have hm := hS.out.2
          have hsok := hS.out.1.c.sok
          rw [hnone] at hm hsok
          have h0 : leftE i s.o = 0 := by omega
          have HME := Lib.hid (mem_members [RowA 3 1 (some ⟨ga + 1, 0, none⟩) i i (natRow i (ovN s.o)), RowA 3 1 (some ⟨ga, 0, none⟩) i i (natRow i s.a)] (r := []) hm hsok)
          clear hnone hm hsok hall hS hWo
          rw [h0]
          go_wp2_with fail
          refine HME.out.mono ?_
          rintro e w5 ⟨a5, c5, rfl, hm⟩
          have HBB := Lib.hid hm.bel
          clear hm HME
          simp only [List.length_nil]
          go_wp2_with fail
          go_ret
          exact ⟨by simp, HBB.out⟩
end Go.Proofs.Ytlmfpkfgjfdhgaa
