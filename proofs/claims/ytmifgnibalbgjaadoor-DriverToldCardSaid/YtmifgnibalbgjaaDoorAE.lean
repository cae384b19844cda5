/- DriverTold walked. -/
import Derived.Test.YtmifgnibalbgjaaDoorZ
import Derived.Test.YtmifgnibalbgjaaDoorAD
namespace Go.Proofs.YtmifgnibalbgjaaDoor
open Go.RowKit
def bcL : List ByteArray := [⟨#[98]⟩, ⟨#[99]⟩]
theorem drNew_ok {l : List Opp} {tx stamp tries : Int} (h : newErr tx stamp tries l = 0) : DOk bcL l (drNew tx stamp tries) := by
  have hn : numsB tx stamp tries = true ∧ planErr l = 0 := by
    unfold newErr at h
    split at h
    · exact ⟨by assumption, h⟩
    · omega
  obtain ⟨h1, h2⟩ := hn
  unfold numsB at h1
  simp only [Bool.and_eq_true, decide_eq_true_eq] at h1
  have h16 : l.length ≤ 16 := by
    unfold planErr at h2
    split at h2
    · omega
    · omega
  exact ⟨by decide +kernel, by omega, by simp only [drNew]; omega, by simp only [drNew]; decide, by simp only [drNew]; decide, fun h => by simp only [drNew] at h; omega, fun h => by simp only [drNew] at h; omega, by simp [drNew], by simp [drNew], by simp [drNew], fun _ => List.Pairwise.nil, by simp only [drNew]; omega⟩
theorem drNew_inv {l : List Opp} {tx stamp tries : Int} (h : newErr tx stamp tries l = 0) : Inv bcL l stamp (drNew tx stamp tries) 0 0 0 :=
  ⟨⟨drNew_ok h, fun _ => ⟨rfl, rfl⟩, fun h => by simp only [drNew] at h; omega⟩, rfl, .inl ⟨by simp only [drNew]; decide, rfl, rfl, fun _ => rfl, fun h => by simp only [drNew] at h; omega, fun h => by simp only [drNew] at h; omega, fun h => by simp only [drNew] at h; omega⟩⟩
theorem nextC_facts {l : List Opp} {d : Dr} {got st : Int} (h1 : Inv1 l d got st) (h0 : 0 ≤ d.phase) : (nextC l d).kind = kindN d.phase ∧ (nextC l d).attempt = d.attempt ∧ (kindN d.phase = 1 → (nextC l d).stamp = d.stamp) ∧ (kindN d.phase = 5 → got = l.length) ∧ (kindN d.phase = 7 → (nextC l d).yes = (st == 2) ∧ 2 ≤ st) ∧ (kindN d.phase = 1 ∨ kindN d.phase = 2 ∨ kindN d.phase = 3 ∨ kindN d.phase = 4 ∨ kindN d.phase = 5 ∨ kindN d.phase = 6 ∨ kindN d.phase = 7 ∨ kindN d.phase = 8) := by
  have hp : d.phase = 0 ∨ d.phase = 1 ∨ d.phase = 2 ∨ d.phase = 3 ∨ d.phase = 4 ∨ d.phase = 5 ∨ d.phase = 6 ∨ d.phase = 7 := by
    rcases h1 with ⟨h, _⟩ | ⟨h, _⟩ <;> omega
  have hg5 : d.phase = 5 → got = l.length := fun h => by
    rcases h1 with ⟨_, _, h1⟩ | ⟨h1, _⟩
    · exact h1.2.2.2 h
    · omega
  have hg7 : d.phase = 7 → d.outcome = st ∧ 2 ≤ st := fun h => by
    rcases h1 with ⟨h1, _⟩ | ⟨_, h1, h2⟩
    · omega
    · exact ⟨h1.symm, by omega⟩
  unfold nextC kindN
  rcases hp with h | h | h | h | h | h | h | h <;> simp only [h] at hg5 hg7 ⊢ <;> simp [cmd0, accC] <;> first | done | (split <;> exact ⟨rfl, rfl⟩) | exact hg5 trivial | (obtain ⟨a, b⟩ := hg7 trivial; rw [a]; exact ⟨rfl, b⟩)
section
set_option maxRecDepth 100000
set_option maxHeartbeats 16000000
theorem told_law (tx stamp tries : Int) (a a2 : Option Addr) (n c n2 c2 : Nat) (l : List Opp) (ps : List Rep) (w : World) (hl : OpsAt w a n l) (hps : RepsAt w a2 n2 ps) (hn : n ≤ maxLen) (hn2 : n2 ≤ maxLen) (hv : LibV w) (hsz : ∀ p ∈ ps, p.v.size ≤ 140737488355328) :
    Calls Tryd.prog 3 #[.int .i64 tx, .int .i64 stamp, .int .i64 tries, .slice a n c, .slice a2 n2 c2] w fun e w' => e = .returned (.bool true) ∧ Below w.heap.size w w' := by
  have HV := Lib.hid hv
  have HF := Lib.hid (fixed_any w hv)
  have HFEW := Lib.hid fun W (b : Below w.heap.size w W) => few_any none a 0 0 n c [] l W (Nat.zero_le _) hn ⟨rfl, fun j hj => by omega⟩ (hl.below b)
  have HR9 := Lib.hid fun W (b : Below w.heap.size w W) => right9 tx stamp tries a n c l W (hl.below b) hn
  have HOL := Lib.hid fun W (b : Below w.heap.size w W) => hl.below b
  have HRP := Lib.hid fun W (b : Below w.heap.size w W) => hps.below b
  have HSZ := Lib.hid hsz
  have HN2 := Lib.hid hps.1
  have HNL := Lib.hid hl.1
  have HFL : Hid (fewB [] l = true → n ≤ 30) := Lib.hid fun h => by
    unfold fewB at h
    simp only [Bool.and_eq_true, decide_eq_true_eq] at h
    have := hl.1
    omega
  unfold maxLen at hn hn2
  clear hv hl hps hsz
  generalize hfb : fewB [] l = fb at *
  clear hfb
  go_enter Tryd.func3, Tryd.ntmps3
  go_wp2_with fail
  refine HF.out.mono ?_
  rintro e w1 ⟨rfl, hb⟩
  have Mw1 := Lib.hid ((Mem.nil w).below hb)
  clear hb HF
  have H1 := Lib.hid (HFEW.out _ Mw1.out.bel)
  go_wp2_with fail
  refine H1.out.mono ?_
  rintro e w2 ⟨rfl, hb⟩
  have Mw2 := Lib.hid (Mw1.out.below hb)
  clear hb H1 Mw1 HFEW
  cases fb
  · go_wp2_with fail
    go_ret
    exact ⟨rfl, Mw2.out.bel⟩
  have hn30 := HFL.out rfl
  clear HFL
  by_cases hc : n2 > 200
  · have hc1 : decide (200 < (n2 : Int)) = true := by simp; omega
    go_wp2_with fail
    go_ret
    exact ⟨rfl, Mw2.out.bel⟩
  have hc1 : decide (200 < (n2 : Int)) = false := by simp; omega
  go_wp2_with fail
  obtain ⟨w3, hw3⟩ : ∃ w3, w3 = w2.alloc (.cells #[.string ⟨#[98]⟩, .string ⟨#[99]⟩] 9) := ⟨_, rfl⟩
  have hS3 : StrsAt w3 (some ⟨w2.heap.size, 0, none⟩) 2 bcL := ⟨rfl, fun j hj => ⟨w2.heap.size, 0, rfl, by
    have hcs := heap_new w2 (.cells #[.string ⟨#[98]⟩, .string ⟨#[99]⟩] 9)
    rw [← hw3] at hcs
    rcases (show j = 0 ∨ j = 1 by omega) with rfl | rfl
    · exact (cell_of_heap (i := 0) (v := .string ⟨#[98]⟩) hcs rfl).1
    · exact (cell_of_heap (i := 1) (v := .string ⟨#[99]⟩) hcs rfl).1⟩⟩
  have Mw3 : Hid (Mem w [] w3 []) := Lib.hid (by rw [hw3]; exact Mw2.out.below (bel_new _ _))
  have H1 := Lib.hid (mapNew (some ⟨w2.heap.size, 0, none⟩) 2 2 bcL w3 (by decide) hS3 (by decide +kernel) (by decide))
  rw [← hw3]
  clear hw3 hS3
  go_wp2_with fail
  refine H1.out.mono ?_
  rintro e w4 ⟨mg, rfl, hm⟩
  have Mw4 : Hid (Mem w [] w4 [MapA mg bcL]) := Lib.hid (by
    obtain ⟨D, hA, hD⟩ := hm.out
    exact Mw3.out.new hm.bel (As := [MapA mg bcL]) hA fun x hx => by
      rcases hD.fresh x hx with h | h
      · cases h
      · exact h)
  clear hm H1 Mw3 Mw2
  have H1 := Lib.hid (drvNew (mg := mg) tx stamp tries a n c Mw4.out (HOL.out _ Mw4.out.bel) (by omega))
  go_wp2_with fail
  refine H1.out.mono ?_
  rintro e w5 (⟨he, rfl, hm⟩ | ⟨he, g, rfl, hm⟩)
  · have Mw5 := Lib.hid hm
    clear hm H1 Mw4
    have H1 := Lib.hid (HR9.out _ Mw5.out.bel)
    have hb1 : (newErr tx stamp tries l != 0) = true := by simpa using he
    clear he HR9
    generalize newErr tx stamp tries l = ne at *
    go_wp2_with fail
    refine H1.out.mono ?_
    rintro e w6 ⟨rfl, hb⟩
    have Mw6 := Lib.hid (Mw5.out.below hb)
    clear hb H1 Mw5
    go_wp2_with fail
    go_ret
    exact ⟨by simp, Mw6.out.bel⟩
  have HI := Lib.hid (drNew_inv he)
  have Mw5 := Lib.hid (show Mem w [] w5 (DrA g mg l (drNew tx stamp tries) :: [MapA mg bcL]) from hm)
  clear hm H1 Mw4 he HR9 HOL
  generalize drNew tx stamp tries = d0 at *
  go_wp2_with fail
  go_loopw [15, 16, 17, 59] (fun v1 v2 v3 v4 wr => ∃ (k : Nat) (d : Dr) (x y z : Int), k ≤ n2 ∧ 0 ≤ y ∧ y ≤ k ∧ v1 = .int .i64 x ∧ v2 = .int .i64 y ∧ v3 = .int .i64 z ∧ v4 = .int .i64 (k : Nat) ∧ Hid (Inv bcL l stamp d x y z ∧ Mem w [] wr [DrA g mg l d, MapA mg bcL])) (fun _ _ _ v4 _ => n2 - (intOf v4).toNat)
  case atStart => exact ⟨0, d0, 0, 0, 0, Nat.zero_le _, Int.le_refl _, Int.le_refl _, rfl, rfl, rfl, rfl, Lib.hid ⟨HI.out, Mw5.out⟩⟩
  case round =>
    obtain ⟨k, d, x, y, z, hk, hy0, hyk, rfl, rfl, rfl, rfl, HS⟩ := hrel
    clear Mw5 HI
    by_cases hlt : k < n2
    · have hlt' : k < ps.length := by have := HN2.out; omega
      have HINV := Lib.hid HS.out.1
      have M0 := Lib.hid HS.out.2
      clear HS
      obtain ⟨b, off, rfl, ⟨q0, q1, q2, q3⟩, -⟩ := (HRP.out _ M0.out.bel).2 k hlt'
      have hsz1 := HSZ.out ps[k] (List.getElem_mem hlt')
      generalize ps[k] = p at *
      obtain ⟨pc, pt, pv, ph⟩ := p
      simp only at q0 q1 q2 q3 hsz1
      have M1 : Hid (Mem w [] (wr.alloc (.cells #[.int .i64 pc, .int .i64 pt, .string pv, .bool ph] 36)) (DrA g mg l d :: MapA mg bcL :: BlockA wr.heap.size #[.int .i64 pc, .int .i64 pt, .string pv, .bool ph] 36 :: [])) := Lib.hid (Mem.blockB M0.out #[.int .i64 pc, .int .i64 pt, .string pv, .bool ph] 36)
      have hok := HINV.out.1.ok
      have HN := Lib.hid (next_any M1.out hok)
      clear M0
      by_cases hp8 : d.phase = 8
      · have hz : d.outcome = z ∧ 2 ≤ z := by
          obtain ⟨-, -, h⟩ := HINV.out
          rcases h with h | h | ⟨_, _, h1, h2⟩
          · omega
          · omega
          · exact ⟨h1.symm, by omega⟩
        have HST : Hid (∀ W, Mem w [] W (DrA g mg l d :: MapA mg bcL :: BlockA wr.heap.size #[.int .i64 pc, .int .i64 pt, .string pv, .bool ph] 36 :: []) → Calls Tryd.prog 11 #[.pointer (some ⟨g, 0, none⟩)] W fun e w' => e = .returned (.int .i64 z) ∧ W = w') := Lib.hid fun W hW => by
          have h := state_any hW
          rw [if_pos hp8, hz.1] at h
          exact h
        have hz2 : decide (2 ≤ z) = true := by simpa using hz.2
        unfold nextE Cmd.val at HN
        rw [show decide (d.phase ≠ 8) = false by simpa using hp8] at HN
        generalize nextC l d = cq at *
        generalize nextS bcL l d = ns at *
        clear hok HINV hp8 hz
        go_wp2_with fail
        refine HN.out.mono ?_
        rintro e w6 ⟨rfl, hb⟩
        have M2 := Lib.hid (M1.out.below hb)
        clear hb HN M1
        obtain ⟨w7, hw7⟩ : ∃ w7, w7 = w6.alloc (.cells #[.int .i64 cq.kind, .int .i64 cq.tx, .int .i64 cq.attempt, .int .i64 cq.stamp, .int .i64 cq.op, .string cq.key, .string cq.value, .int .i64 cq.mode, .bool cq.yes] 38) := ⟨_, rfl⟩
        have M3 : Hid (Mem w [] w7 (DrA g mg l d :: MapA mg bcL :: BlockA wr.heap.size #[.int .i64 pc, .int .i64 pt, .string pv, .bool ph] 36 :: [])) := Lib.hid (by rw [hw7]; exact M2.out.below (bel_new _ _))
        have H1 := Lib.hid (HST.out _ M3.out)
        rw [hw7] at H1 M3
        clear M2 HST hw7
        go_wp2_with fail
        refine H1.out.mono ?_
        rintro e w8 ⟨rfl, rfl⟩
        go_wp2_with fail
        go_ret
        exact ⟨rfl, M3.out.bel⟩
      have HNX := inv_next HINV.out hp8
      have HT : Hid (∀ W B, Stable B → Mem w [] W (DrA g mg l d :: MapA mg bcL :: B :: BlockA wr.heap.size #[.int .i64 pc, .int .i64 pt, .string pv, .bool ph] 36 :: []) → Calls Tryd.prog 12 #[.pointer (some ⟨g, 0, none⟩), Cmd.val (nextC l d), .agg #[.int .i64 pc, .int .i64 pt, .string pv, .bool ph]] W fun e w' => e = .returned (.bool true) ∧ Mem w [] w' (DrA g mg l (toldM bcL l d ⟨pc, pt, pv, ph⟩) :: MapA mg bcL :: B :: BlockA wr.heap.size #[.int .i64 pc, .int .i64 pt, .string pv, .bool ph] 36 :: [])) := Lib.hid fun W B hB hW => told_any ⟨pc, pt, pv, ph⟩ hW hok hp8 hsz1 (HV.out.below hW.bel)
      have hph0 := hok.ph0
      obtain ⟨ha0, ha1, -⟩ := hok.att
      unfold nextE Cmd.val at HN
      unfold Cmd.val at HT
      rw [show decide (d.phase ≠ 8) = true by simpa using hp8] at HN
      by_cases hatt : d.attempt = x
      · have hI1 := HNX.1 hatt
        have HFIN := Lib.hid (inv_told HINV.out.1 HINV.out.2.1 hI1 hp8 ⟨pc, pt, pv, ph⟩)
        obtain ⟨f1, f2, f3, f4, f5, f6⟩ := nextC_facts hI1 hph0
        rw [HINV.out.2.1] at f3
        rw [hatt] at f2 HFIN
        clear HNX hI1 HINV hok
        generalize nextC l d = cq at *
        generalize nextS bcL l d = ns at *
        generalize toldM bcL l d ⟨pc, pt, pv, ph⟩ = d2 at *
        generalize kindN d.phase = K at *
        clear hp8 hph0 hatt ha0 ha1
        obtain ⟨ck, cx, ca, cs, co, cy, cv, cm, cb⟩ := cq
        simp only at f1 f2 f3 f4 f5 HN HT
        subst f1 f2
        rcases f6 with rfl | rfl | rfl | rfl | rfl | rfl | rfl | rfl
        · as_aux_lemma =>
            have bx : (ca != ca) = false := by simp
            obtain rfl := f3 (by trivial)
            have bs : (cs != cs) = false := by simp
            go_wp2_with fail
            refine HN.out.mono ?_
            rintro e w6 ⟨rfl, hb⟩
            have M2 := Lib.hid (Mem.blockB (M1.out.below hb) #[.int .i64 1, .int .i64 cx, .int .i64 ca, .int .i64 cs, .int .i64 co, .string cy, .string cv, .int .i64 cm, .bool cb] 38)
            have hh := Mem.heapAt [DrA g mg l d, MapA mg bcL] (r := [BlockA wr.heap.size #[.int .i64 pc, .int .i64 pt, .string pv, .bool ph] 36]) M2.out
            have hh2 := Mem.heapAt [DrA g mg l d, MapA mg bcL, BlockA w6.heap.size #[.int .i64 1, .int .i64 cx, .int .i64 ca, .int .i64 cs, .int .i64 co, .string cy, .string cv, .int .i64 cm, .bool cb] 38] (r := []) M2.out
            have u0 := (cell_of_heap (i := 0) (v := .int .i64 1) hh rfl).1
            have u1 := (cell_of_heap (i := 1) (v := .int .i64 cx) hh rfl).1
            have u2 := (cell_of_heap (i := 2) (v := .int .i64 ca) hh rfl).1
            have u3 := (cell_of_heap (i := 3) (v := .int .i64 cs) hh rfl).1
            have u4 := (cell_of_heap (i := 4) (v := .int .i64 co) hh rfl).1
            have u5 := (cell_of_heap (i := 5) (v := .string cy) hh rfl).1
            have u6 := (cell_of_heap (i := 6) (v := .string cv) hh rfl).1
            have u7 := (cell_of_heap (i := 7) (v := .int .i64 cm) hh rfl).1
            have u8 := (cell_of_heap (i := 8) (v := .bool cb) hh rfl).1
            have t0 := (cell_of_heap (i := 0) (v := .int .i64 pc) hh2 rfl).1
            have t1 := (cell_of_heap (i := 1) (v := .int .i64 pt) hh2 rfl).1
            have t2 := (cell_of_heap (i := 2) (v := .string pv) hh2 rfl).1
            have t3 := (cell_of_heap (i := 3) (v := .bool ph) hh2 rfl).1
            clear hh hh2
            clear hb HN M1
            have H1 := Lib.hid (HT.out _ _ inferInstance M2.out)
            go_wp2_with fail
            refine H1.out.mono ?_
            rintro e w7 ⟨rfl, hm⟩
            have M3 := Lib.hid hm
            clear hm H1 HT M2 u0 u1 u2 u3 u4 u5 u6 u7 u8 t0 t1 t2 t3
            have hh := Mem.heapAt [DrA g mg l d2, MapA mg bcL] (r := [BlockA wr.heap.size #[.int .i64 pc, .int .i64 pt, .string pv, .bool ph] 36]) M3.out
            have hh2 := Mem.heapAt [DrA g mg l d2, MapA mg bcL, BlockA w6.heap.size #[.int .i64 1, .int .i64 cx, .int .i64 ca, .int .i64 cs, .int .i64 co, .string cy, .string cv, .int .i64 cm, .bool cb] 38] (r := []) M3.out
            have u0 := (cell_of_heap (i := 0) (v := .int .i64 1) hh rfl).1
            have u1 := (cell_of_heap (i := 1) (v := .int .i64 cx) hh rfl).1
            have u2 := (cell_of_heap (i := 2) (v := .int .i64 ca) hh rfl).1
            have u3 := (cell_of_heap (i := 3) (v := .int .i64 cs) hh rfl).1
            have u4 := (cell_of_heap (i := 4) (v := .int .i64 co) hh rfl).1
            have u5 := (cell_of_heap (i := 5) (v := .string cy) hh rfl).1
            have u6 := (cell_of_heap (i := 6) (v := .string cv) hh rfl).1
            have u7 := (cell_of_heap (i := 7) (v := .int .i64 cm) hh rfl).1
            have u8 := (cell_of_heap (i := 8) (v := .bool cb) hh rfl).1
            have t0 := (cell_of_heap (i := 0) (v := .int .i64 pc) hh2 rfl).1
            have t1 := (cell_of_heap (i := 1) (v := .int .i64 pt) hh2 rfl).1
            have t2 := (cell_of_heap (i := 2) (v := .string pv) hh2 rfl).1
            have t3 := (cell_of_heap (i := 3) (v := .bool ph) hh2 rfl).1
            clear hh hh2
            have M4 : Hid (Mem w [] w7 [DrA g mg l d2, MapA mg bcL]) := Lib.hid (Mem.drop [DrA g mg l d2, MapA mg bcL] (r := []) (Mem.drop [DrA g mg l d2, MapA mg bcL] (A := BlockA w6.heap.size #[.int .i64 1, .int .i64 cx, .int .i64 ca, .int .i64 cs, .int .i64 co, .string cy, .string cv, .int .i64 cm, .bool cb] 38) (r := [BlockA wr.heap.size #[.int .i64 pc, .int .i64 pt, .string pv, .bool ph] 36]) M3.out))
            clear M3
            generalize w6.heap.size = g6 at *
            generalize wr.heap.size = g5 at *
            by_cases h0 : pc = 0
            · subst h0
              by_cases h3 : pt = 3
              · subst h3
                have e1 : gotN 1 ⟨0, 3, pv, ph⟩ y = y := gotN_no (by decide)
                have e2 : stN 1 ⟨0, 3, pv, ph⟩ z = z := stN_c1' rfl (by simp only; omega)
                rw [e1, e2] at HFIN
                have HG := Lib.hid (And.intro HFIN.out M4.out)
                clear e1 e2 HFIN M4
                go_wp2_with fail
                go_roundw
                case rel => exact ⟨k + 1, d2, ca, y, z, by omega, by omega, by omega, rfl, by first | rfl | go_num, rfl, by go_num, HG⟩
                case measure => simp [intOf]; omega
              · have b3 : (pt == 3) = false := by simpa using h3
                by_cases h2 : pt = 2
                · subst h2
                  have e1 : gotN 1 ⟨0, 2, pv, ph⟩ y = y := gotN_no (by decide)
                  have e2 : stN 1 ⟨0, 2, pv, ph⟩ z = z := stN_c1' rfl (by simp only; omega)
                  rw [e1, e2] at HFIN
                  have HG := Lib.hid (And.intro HFIN.out M4.out)
                  clear e1 e2 HFIN M4
                  go_wp2_with fail
                  go_roundw
                  case rel => exact ⟨k + 1, d2, ca, y, z, by omega, by omega, by omega, rfl, by first | rfl | go_num, rfl, by go_num, HG⟩
                  case measure => simp [intOf]; omega
                · have b2 : (pt == 2) = false := by simpa using h2
                  have e1 : gotN 1 ⟨0, pt, pv, ph⟩ y = y := gotN_no (by decide)
                  have e2 : stN 1 ⟨0, pt, pv, ph⟩ z = z := stN_c1' rfl (by simp only; omega)
                  rw [e1, e2] at HFIN
                  have HG := Lib.hid (And.intro HFIN.out M4.out)
                  clear e1 e2 HFIN M4
                  go_wp2_with fail
                  go_roundw
                  case rel => exact ⟨k + 1, d2, ca, y, z, by omega, by omega, by omega, rfl, by first | rfl | go_num, rfl, by go_num, HG⟩
                  case measure => simp [intOf]; omega
            · have b0 : (pc == 0) = false := by simpa using h0
              by_cases h9 : pc = 9
              · subst h9
                have e1 : gotN 1 ⟨9, pt, pv, ph⟩ y = y := gotN_no (by decide)
                have e2 : stN 1 ⟨9, pt, pv, ph⟩ z = 3 := stN_9 rfl rfl
                rw [e1, e2] at HFIN
                have HG := Lib.hid (And.intro HFIN.out M4.out)
                clear e1 e2 HFIN M4
                go_wp2_with fail
                go_roundw
                case rel => exact ⟨k + 1, d2, ca, y, 3, by omega, by omega, by omega, rfl, by first | rfl | go_num, rfl, by go_num, HG⟩
                case measure => simp [intOf]; omega
              · have b9 : (pc == 9) = false := by simpa using h9
                have e1 : gotN 1 ⟨pc, pt, pv, ph⟩ y = y := gotN_no (by decide)
                have e2 : stN 1 ⟨pc, pt, pv, ph⟩ z = z := stN_c1' rfl (by simp only; omega)
                rw [e1, e2] at HFIN
                have HG := Lib.hid (And.intro HFIN.out M4.out)
                clear e1 e2 HFIN M4
                go_wp2_with fail
                go_roundw
                case rel => exact ⟨k + 1, d2, ca, y, z, by omega, by omega, by omega, rfl, by first | rfl | go_num, rfl, by go_num, HG⟩
                case measure => simp [intOf]; omega
        · as_aux_lemma =>
            have bx : (ca != ca) = false := by simp
            go_wp2_with fail
            refine HN.out.mono ?_
            rintro e w6 ⟨rfl, hb⟩
            have M2 := Lib.hid (Mem.blockB (M1.out.below hb) #[.int .i64 2, .int .i64 cx, .int .i64 ca, .int .i64 cs, .int .i64 co, .string cy, .string cv, .int .i64 cm, .bool cb] 38)
            have hh := Mem.heapAt [DrA g mg l d, MapA mg bcL] (r := [BlockA wr.heap.size #[.int .i64 pc, .int .i64 pt, .string pv, .bool ph] 36]) M2.out
            have hh2 := Mem.heapAt [DrA g mg l d, MapA mg bcL, BlockA w6.heap.size #[.int .i64 2, .int .i64 cx, .int .i64 ca, .int .i64 cs, .int .i64 co, .string cy, .string cv, .int .i64 cm, .bool cb] 38] (r := []) M2.out
            have u0 := (cell_of_heap (i := 0) (v := .int .i64 2) hh rfl).1
            have u1 := (cell_of_heap (i := 1) (v := .int .i64 cx) hh rfl).1
            have u2 := (cell_of_heap (i := 2) (v := .int .i64 ca) hh rfl).1
            have u3 := (cell_of_heap (i := 3) (v := .int .i64 cs) hh rfl).1
            have u4 := (cell_of_heap (i := 4) (v := .int .i64 co) hh rfl).1
            have u5 := (cell_of_heap (i := 5) (v := .string cy) hh rfl).1
            have u6 := (cell_of_heap (i := 6) (v := .string cv) hh rfl).1
            have u7 := (cell_of_heap (i := 7) (v := .int .i64 cm) hh rfl).1
            have u8 := (cell_of_heap (i := 8) (v := .bool cb) hh rfl).1
            have t0 := (cell_of_heap (i := 0) (v := .int .i64 pc) hh2 rfl).1
            have t1 := (cell_of_heap (i := 1) (v := .int .i64 pt) hh2 rfl).1
            have t2 := (cell_of_heap (i := 2) (v := .string pv) hh2 rfl).1
            have t3 := (cell_of_heap (i := 3) (v := .bool ph) hh2 rfl).1
            clear hh hh2
            clear hb HN M1
            have H1 := Lib.hid (HT.out _ _ inferInstance M2.out)
            go_wp2_with fail
            refine H1.out.mono ?_
            rintro e w7 ⟨rfl, hm⟩
            have M3 := Lib.hid hm
            clear hm H1 HT M2 u0 u1 u2 u3 u4 u5 u6 u7 u8 t0 t1 t2 t3
            have hh := Mem.heapAt [DrA g mg l d2, MapA mg bcL] (r := [BlockA wr.heap.size #[.int .i64 pc, .int .i64 pt, .string pv, .bool ph] 36]) M3.out
            have hh2 := Mem.heapAt [DrA g mg l d2, MapA mg bcL, BlockA w6.heap.size #[.int .i64 2, .int .i64 cx, .int .i64 ca, .int .i64 cs, .int .i64 co, .string cy, .string cv, .int .i64 cm, .bool cb] 38] (r := []) M3.out
            have u0 := (cell_of_heap (i := 0) (v := .int .i64 2) hh rfl).1
            have u1 := (cell_of_heap (i := 1) (v := .int .i64 cx) hh rfl).1
            have u2 := (cell_of_heap (i := 2) (v := .int .i64 ca) hh rfl).1
            have u3 := (cell_of_heap (i := 3) (v := .int .i64 cs) hh rfl).1
            have u4 := (cell_of_heap (i := 4) (v := .int .i64 co) hh rfl).1
            have u5 := (cell_of_heap (i := 5) (v := .string cy) hh rfl).1
            have u6 := (cell_of_heap (i := 6) (v := .string cv) hh rfl).1
            have u7 := (cell_of_heap (i := 7) (v := .int .i64 cm) hh rfl).1
            have u8 := (cell_of_heap (i := 8) (v := .bool cb) hh rfl).1
            have t0 := (cell_of_heap (i := 0) (v := .int .i64 pc) hh2 rfl).1
            have t1 := (cell_of_heap (i := 1) (v := .int .i64 pt) hh2 rfl).1
            have t2 := (cell_of_heap (i := 2) (v := .string pv) hh2 rfl).1
            have t3 := (cell_of_heap (i := 3) (v := .bool ph) hh2 rfl).1
            clear hh hh2
            have M4 : Hid (Mem w [] w7 [DrA g mg l d2, MapA mg bcL]) := Lib.hid (Mem.drop [DrA g mg l d2, MapA mg bcL] (r := []) (Mem.drop [DrA g mg l d2, MapA mg bcL] (A := BlockA w6.heap.size #[.int .i64 2, .int .i64 cx, .int .i64 ca, .int .i64 cs, .int .i64 co, .string cy, .string cv, .int .i64 cm, .bool cb] 38) (r := [BlockA wr.heap.size #[.int .i64 pc, .int .i64 pt, .string pv, .bool ph] 36]) M3.out))
            clear M3
            generalize w6.heap.size = g6 at *
            generalize wr.heap.size = g5 at *
            have e1 : gotN 2 ⟨pc, pt, pv, ph⟩ y = y := gotN_no (by decide)
            have e2 : stN 2 ⟨pc, pt, pv, ph⟩ z = z := stN_no (by unfold c1; simp only; omega) (by decide)
            rw [e1, e2] at HFIN
            have HG := Lib.hid (And.intro HFIN.out M4.out)
            clear e1 e2 HFIN M4
            go_wp2_with fail
            go_roundw
            case rel => exact ⟨k + 1, d2, ca, y, z, by omega, by omega, by omega, rfl, by first | rfl | go_num, rfl, by go_num, HG⟩
            case measure => simp [intOf]; omega
        · as_aux_lemma =>
            have bx : (ca != ca) = false := by simp
            go_wp2_with fail
            refine HN.out.mono ?_
            rintro e w6 ⟨rfl, hb⟩
            have M2 := Lib.hid (Mem.blockB (M1.out.below hb) #[.int .i64 3, .int .i64 cx, .int .i64 ca, .int .i64 cs, .int .i64 co, .string cy, .string cv, .int .i64 cm, .bool cb] 38)
            have hh := Mem.heapAt [DrA g mg l d, MapA mg bcL] (r := [BlockA wr.heap.size #[.int .i64 pc, .int .i64 pt, .string pv, .bool ph] 36]) M2.out
            have hh2 := Mem.heapAt [DrA g mg l d, MapA mg bcL, BlockA w6.heap.size #[.int .i64 3, .int .i64 cx, .int .i64 ca, .int .i64 cs, .int .i64 co, .string cy, .string cv, .int .i64 cm, .bool cb] 38] (r := []) M2.out
            have u0 := (cell_of_heap (i := 0) (v := .int .i64 3) hh rfl).1
            have u1 := (cell_of_heap (i := 1) (v := .int .i64 cx) hh rfl).1
            have u2 := (cell_of_heap (i := 2) (v := .int .i64 ca) hh rfl).1
            have u3 := (cell_of_heap (i := 3) (v := .int .i64 cs) hh rfl).1
            have u4 := (cell_of_heap (i := 4) (v := .int .i64 co) hh rfl).1
            have u5 := (cell_of_heap (i := 5) (v := .string cy) hh rfl).1
            have u6 := (cell_of_heap (i := 6) (v := .string cv) hh rfl).1
            have u7 := (cell_of_heap (i := 7) (v := .int .i64 cm) hh rfl).1
            have u8 := (cell_of_heap (i := 8) (v := .bool cb) hh rfl).1
            have t0 := (cell_of_heap (i := 0) (v := .int .i64 pc) hh2 rfl).1
            have t1 := (cell_of_heap (i := 1) (v := .int .i64 pt) hh2 rfl).1
            have t2 := (cell_of_heap (i := 2) (v := .string pv) hh2 rfl).1
            have t3 := (cell_of_heap (i := 3) (v := .bool ph) hh2 rfl).1
            clear hh hh2
            clear hb HN M1
            have H1 := Lib.hid (HT.out _ _ inferInstance M2.out)
            go_wp2_with fail
            refine H1.out.mono ?_
            rintro e w7 ⟨rfl, hm⟩
            have M3 := Lib.hid hm
            clear hm H1 HT M2 u0 u1 u2 u3 u4 u5 u6 u7 u8 t0 t1 t2 t3
            have hh := Mem.heapAt [DrA g mg l d2, MapA mg bcL] (r := [BlockA wr.heap.size #[.int .i64 pc, .int .i64 pt, .string pv, .bool ph] 36]) M3.out
            have hh2 := Mem.heapAt [DrA g mg l d2, MapA mg bcL, BlockA w6.heap.size #[.int .i64 3, .int .i64 cx, .int .i64 ca, .int .i64 cs, .int .i64 co, .string cy, .string cv, .int .i64 cm, .bool cb] 38] (r := []) M3.out
            have u0 := (cell_of_heap (i := 0) (v := .int .i64 3) hh rfl).1
            have u1 := (cell_of_heap (i := 1) (v := .int .i64 cx) hh rfl).1
            have u2 := (cell_of_heap (i := 2) (v := .int .i64 ca) hh rfl).1
            have u3 := (cell_of_heap (i := 3) (v := .int .i64 cs) hh rfl).1
            have u4 := (cell_of_heap (i := 4) (v := .int .i64 co) hh rfl).1
            have u5 := (cell_of_heap (i := 5) (v := .string cy) hh rfl).1
            have u6 := (cell_of_heap (i := 6) (v := .string cv) hh rfl).1
            have u7 := (cell_of_heap (i := 7) (v := .int .i64 cm) hh rfl).1
            have u8 := (cell_of_heap (i := 8) (v := .bool cb) hh rfl).1
            have t0 := (cell_of_heap (i := 0) (v := .int .i64 pc) hh2 rfl).1
            have t1 := (cell_of_heap (i := 1) (v := .int .i64 pt) hh2 rfl).1
            have t2 := (cell_of_heap (i := 2) (v := .string pv) hh2 rfl).1
            have t3 := (cell_of_heap (i := 3) (v := .bool ph) hh2 rfl).1
            clear hh hh2
            have M4 : Hid (Mem w [] w7 [DrA g mg l d2, MapA mg bcL]) := Lib.hid (Mem.drop [DrA g mg l d2, MapA mg bcL] (r := []) (Mem.drop [DrA g mg l d2, MapA mg bcL] (A := BlockA w6.heap.size #[.int .i64 3, .int .i64 cx, .int .i64 ca, .int .i64 cs, .int .i64 co, .string cy, .string cv, .int .i64 cm, .bool cb] 38) (r := [BlockA wr.heap.size #[.int .i64 pc, .int .i64 pt, .string pv, .bool ph] 36]) M3.out))
            clear M3
            generalize w6.heap.size = g6 at *
            generalize wr.heap.size = g5 at *
            by_cases h0 : pc = 0
            · subst h0
              have e1 : gotN 3 ⟨0, pt, pv, ph⟩ y = (y + 1) := (gotN_at (by unfold c1; simp only; omega) (by decide)).trans (if_pos ⟨rfl, rfl⟩)
              have e2 : stN 3 ⟨0, pt, pv, ph⟩ z = z := stN_no (by unfold c1; simp only; omega) (by decide)
              rw [e1, e2] at HFIN
              have HG := Lib.hid (And.intro HFIN.out M4.out)
              clear e1 e2 HFIN M4
              go_wp2_with fail
              go_roundw
              case rel => exact ⟨k + 1, d2, ca, (y + 1), z, by omega, by omega, by omega, rfl, by first | rfl | go_num, rfl, by go_num, HG⟩
              case measure => simp [intOf]; omega
            · have b0 : (pc == 0) = false := by simpa using h0
              have e1 : gotN 3 ⟨pc, pt, pv, ph⟩ y = y := (gotN_at (by unfold c1; simp only; omega) (by decide)).trans (if_neg (fun h => h0 h.2))
              have e2 : stN 3 ⟨pc, pt, pv, ph⟩ z = z := stN_no (by unfold c1; simp only; omega) (by decide)
              rw [e1, e2] at HFIN
              have HG := Lib.hid (And.intro HFIN.out M4.out)
              clear e1 e2 HFIN M4
              go_wp2_with fail
              go_roundw
              case rel => exact ⟨k + 1, d2, ca, y, z, by omega, by omega, by omega, rfl, by first | rfl | go_num, rfl, by go_num, HG⟩
              case measure => simp [intOf]; omega
        · as_aux_lemma =>
            have bx : (ca != ca) = false := by simp
            go_wp2_with fail
            refine HN.out.mono ?_
            rintro e w6 ⟨rfl, hb⟩
            have M2 := Lib.hid (Mem.blockB (M1.out.below hb) #[.int .i64 4, .int .i64 cx, .int .i64 ca, .int .i64 cs, .int .i64 co, .string cy, .string cv, .int .i64 cm, .bool cb] 38)
            have hh := Mem.heapAt [DrA g mg l d, MapA mg bcL] (r := [BlockA wr.heap.size #[.int .i64 pc, .int .i64 pt, .string pv, .bool ph] 36]) M2.out
            have hh2 := Mem.heapAt [DrA g mg l d, MapA mg bcL, BlockA w6.heap.size #[.int .i64 4, .int .i64 cx, .int .i64 ca, .int .i64 cs, .int .i64 co, .string cy, .string cv, .int .i64 cm, .bool cb] 38] (r := []) M2.out
            have u0 := (cell_of_heap (i := 0) (v := .int .i64 4) hh rfl).1
            have u1 := (cell_of_heap (i := 1) (v := .int .i64 cx) hh rfl).1
            have u2 := (cell_of_heap (i := 2) (v := .int .i64 ca) hh rfl).1
            have u3 := (cell_of_heap (i := 3) (v := .int .i64 cs) hh rfl).1
            have u4 := (cell_of_heap (i := 4) (v := .int .i64 co) hh rfl).1
            have u5 := (cell_of_heap (i := 5) (v := .string cy) hh rfl).1
            have u6 := (cell_of_heap (i := 6) (v := .string cv) hh rfl).1
            have u7 := (cell_of_heap (i := 7) (v := .int .i64 cm) hh rfl).1
            have u8 := (cell_of_heap (i := 8) (v := .bool cb) hh rfl).1
            have t0 := (cell_of_heap (i := 0) (v := .int .i64 pc) hh2 rfl).1
            have t1 := (cell_of_heap (i := 1) (v := .int .i64 pt) hh2 rfl).1
            have t2 := (cell_of_heap (i := 2) (v := .string pv) hh2 rfl).1
            have t3 := (cell_of_heap (i := 3) (v := .bool ph) hh2 rfl).1
            clear hh hh2
            clear hb HN M1
            have H1 := Lib.hid (HT.out _ _ inferInstance M2.out)
            go_wp2_with fail
            refine H1.out.mono ?_
            rintro e w7 ⟨rfl, hm⟩
            have M3 := Lib.hid hm
            clear hm H1 HT M2 u0 u1 u2 u3 u4 u5 u6 u7 u8 t0 t1 t2 t3
            have hh := Mem.heapAt [DrA g mg l d2, MapA mg bcL] (r := [BlockA wr.heap.size #[.int .i64 pc, .int .i64 pt, .string pv, .bool ph] 36]) M3.out
            have hh2 := Mem.heapAt [DrA g mg l d2, MapA mg bcL, BlockA w6.heap.size #[.int .i64 4, .int .i64 cx, .int .i64 ca, .int .i64 cs, .int .i64 co, .string cy, .string cv, .int .i64 cm, .bool cb] 38] (r := []) M3.out
            have u0 := (cell_of_heap (i := 0) (v := .int .i64 4) hh rfl).1
            have u1 := (cell_of_heap (i := 1) (v := .int .i64 cx) hh rfl).1
            have u2 := (cell_of_heap (i := 2) (v := .int .i64 ca) hh rfl).1
            have u3 := (cell_of_heap (i := 3) (v := .int .i64 cs) hh rfl).1
            have u4 := (cell_of_heap (i := 4) (v := .int .i64 co) hh rfl).1
            have u5 := (cell_of_heap (i := 5) (v := .string cy) hh rfl).1
            have u6 := (cell_of_heap (i := 6) (v := .string cv) hh rfl).1
            have u7 := (cell_of_heap (i := 7) (v := .int .i64 cm) hh rfl).1
            have u8 := (cell_of_heap (i := 8) (v := .bool cb) hh rfl).1
            have t0 := (cell_of_heap (i := 0) (v := .int .i64 pc) hh2 rfl).1
            have t1 := (cell_of_heap (i := 1) (v := .int .i64 pt) hh2 rfl).1
            have t2 := (cell_of_heap (i := 2) (v := .string pv) hh2 rfl).1
            have t3 := (cell_of_heap (i := 3) (v := .bool ph) hh2 rfl).1
            clear hh hh2
            have M4 : Hid (Mem w [] w7 [DrA g mg l d2, MapA mg bcL]) := Lib.hid (Mem.drop [DrA g mg l d2, MapA mg bcL] (r := []) (Mem.drop [DrA g mg l d2, MapA mg bcL] (A := BlockA w6.heap.size #[.int .i64 4, .int .i64 cx, .int .i64 ca, .int .i64 cs, .int .i64 co, .string cy, .string cv, .int .i64 cm, .bool cb] 38) (r := [BlockA wr.heap.size #[.int .i64 pc, .int .i64 pt, .string pv, .bool ph] 36]) M3.out))
            clear M3
            generalize w6.heap.size = g6 at *
            generalize wr.heap.size = g5 at *
            have e1 : gotN 4 ⟨pc, pt, pv, ph⟩ y = y := gotN_no (by decide)
            have e2 : stN 4 ⟨pc, pt, pv, ph⟩ z = z := stN_no (by unfold c1; simp only; omega) (by decide)
            rw [e1, e2] at HFIN
            have HG := Lib.hid (And.intro HFIN.out M4.out)
            clear e1 e2 HFIN M4
            go_wp2_with fail
            go_roundw
            case rel => exact ⟨k + 1, d2, ca, y, z, by omega, by omega, by omega, rfl, by first | rfl | go_num, rfl, by go_num, HG⟩
            case measure => simp [intOf]; omega
        · as_aux_lemma =>
            have bx : (ca != ca) = false := by simp
            have f4b := f4 (by trivial)
            rw [← HNL.out] at f4b
            clear f4
            subst f4b
            have b5 : ((n : Int) != (n : Int)) = false := by simp
            go_wp2_with fail
            refine HN.out.mono ?_
            rintro e w6 ⟨rfl, hb⟩
            have M2 := Lib.hid (Mem.blockB (M1.out.below hb) #[.int .i64 5, .int .i64 cx, .int .i64 ca, .int .i64 cs, .int .i64 co, .string cy, .string cv, .int .i64 cm, .bool cb] 38)
            have hh := Mem.heapAt [DrA g mg l d, MapA mg bcL] (r := [BlockA wr.heap.size #[.int .i64 pc, .int .i64 pt, .string pv, .bool ph] 36]) M2.out
            have hh2 := Mem.heapAt [DrA g mg l d, MapA mg bcL, BlockA w6.heap.size #[.int .i64 5, .int .i64 cx, .int .i64 ca, .int .i64 cs, .int .i64 co, .string cy, .string cv, .int .i64 cm, .bool cb] 38] (r := []) M2.out
            have u0 := (cell_of_heap (i := 0) (v := .int .i64 5) hh rfl).1
            have u1 := (cell_of_heap (i := 1) (v := .int .i64 cx) hh rfl).1
            have u2 := (cell_of_heap (i := 2) (v := .int .i64 ca) hh rfl).1
            have u3 := (cell_of_heap (i := 3) (v := .int .i64 cs) hh rfl).1
            have u4 := (cell_of_heap (i := 4) (v := .int .i64 co) hh rfl).1
            have u5 := (cell_of_heap (i := 5) (v := .string cy) hh rfl).1
            have u6 := (cell_of_heap (i := 6) (v := .string cv) hh rfl).1
            have u7 := (cell_of_heap (i := 7) (v := .int .i64 cm) hh rfl).1
            have u8 := (cell_of_heap (i := 8) (v := .bool cb) hh rfl).1
            have t0 := (cell_of_heap (i := 0) (v := .int .i64 pc) hh2 rfl).1
            have t1 := (cell_of_heap (i := 1) (v := .int .i64 pt) hh2 rfl).1
            have t2 := (cell_of_heap (i := 2) (v := .string pv) hh2 rfl).1
            have t3 := (cell_of_heap (i := 3) (v := .bool ph) hh2 rfl).1
            clear hh hh2
            clear hb HN M1
            have H1 := Lib.hid (HT.out _ _ inferInstance M2.out)
            go_wp2_with fail
            refine H1.out.mono ?_
            rintro e w7 ⟨rfl, hm⟩
            have M3 := Lib.hid hm
            clear hm H1 HT M2 u0 u1 u2 u3 u4 u5 u6 u7 u8 t0 t1 t2 t3
            have hh := Mem.heapAt [DrA g mg l d2, MapA mg bcL] (r := [BlockA wr.heap.size #[.int .i64 pc, .int .i64 pt, .string pv, .bool ph] 36]) M3.out
            have hh2 := Mem.heapAt [DrA g mg l d2, MapA mg bcL, BlockA w6.heap.size #[.int .i64 5, .int .i64 cx, .int .i64 ca, .int .i64 cs, .int .i64 co, .string cy, .string cv, .int .i64 cm, .bool cb] 38] (r := []) M3.out
            have u0 := (cell_of_heap (i := 0) (v := .int .i64 5) hh rfl).1
            have u1 := (cell_of_heap (i := 1) (v := .int .i64 cx) hh rfl).1
            have u2 := (cell_of_heap (i := 2) (v := .int .i64 ca) hh rfl).1
            have u3 := (cell_of_heap (i := 3) (v := .int .i64 cs) hh rfl).1
            have u4 := (cell_of_heap (i := 4) (v := .int .i64 co) hh rfl).1
            have u5 := (cell_of_heap (i := 5) (v := .string cy) hh rfl).1
            have u6 := (cell_of_heap (i := 6) (v := .string cv) hh rfl).1
            have u7 := (cell_of_heap (i := 7) (v := .int .i64 cm) hh rfl).1
            have u8 := (cell_of_heap (i := 8) (v := .bool cb) hh rfl).1
            have t0 := (cell_of_heap (i := 0) (v := .int .i64 pc) hh2 rfl).1
            have t1 := (cell_of_heap (i := 1) (v := .int .i64 pt) hh2 rfl).1
            have t2 := (cell_of_heap (i := 2) (v := .string pv) hh2 rfl).1
            have t3 := (cell_of_heap (i := 3) (v := .bool ph) hh2 rfl).1
            clear hh hh2
            have M4 : Hid (Mem w [] w7 [DrA g mg l d2, MapA mg bcL]) := Lib.hid (Mem.drop [DrA g mg l d2, MapA mg bcL] (r := []) (Mem.drop [DrA g mg l d2, MapA mg bcL] (A := BlockA w6.heap.size #[.int .i64 5, .int .i64 cx, .int .i64 ca, .int .i64 cs, .int .i64 co, .string cy, .string cv, .int .i64 cm, .bool cb] 38) (r := [BlockA wr.heap.size #[.int .i64 pc, .int .i64 pt, .string pv, .bool ph] 36]) M3.out))
            clear M3
            generalize w6.heap.size = g6 at *
            generalize wr.heap.size = g5 at *
            by_cases h0 : pc = 0
            · subst h0
              by_cases h3 : pt = 3
              · subst h3
                have e1 : gotN 5 ⟨0, 3, pv, ph⟩ (n : Int) = (n : Int) := gotN_no (by decide)
                have e2 : stN 5 ⟨0, 3, pv, ph⟩ z = 3 := stN_c1 ⟨by decide, rfl, .inl rfl⟩ (by decide)
                rw [e1, e2] at HFIN
                have HG := Lib.hid (And.intro HFIN.out M4.out)
                clear e1 e2 HFIN M4
                go_wp2_with fail
                go_roundw
                case rel => exact ⟨k + 1, d2, ca, (n : Int), 3, by omega, by omega, by omega, rfl, by first | rfl | go_num, rfl, by go_num, HG⟩
                case measure => simp [intOf]; omega
              · have b3 : (pt == 3) = false := by simpa using h3
                by_cases h2 : pt = 2
                · subst h2
                  have e1 : gotN 5 ⟨0, 2, pv, ph⟩ (n : Int) = (n : Int) := gotN_no (by decide)
                  have e2 : stN 5 ⟨0, 2, pv, ph⟩ z = 2 := stN_c1 ⟨by decide, rfl, .inr ⟨rfl, by decide, by decide⟩⟩ (by decide)
                  rw [e1, e2] at HFIN
                  have HG := Lib.hid (And.intro HFIN.out M4.out)
                  clear e1 e2 HFIN M4
                  go_wp2_with fail
                  go_roundw
                  case rel => exact ⟨k + 1, d2, ca, (n : Int), 2, by omega, by omega, by omega, rfl, by first | rfl | go_num, rfl, by go_num, HG⟩
                  case measure => simp [intOf]; omega
                · have b2 : (pt == 2) = false := by simpa using h2
                  have e1 : gotN 5 ⟨0, pt, pv, ph⟩ (n : Int) = (n : Int) := gotN_no (by decide)
                  have e2 : stN 5 ⟨0, pt, pv, ph⟩ z = z := stN_no (by unfold c1; simp only; omega) (by decide)
                  rw [e1, e2] at HFIN
                  have HG := Lib.hid (And.intro HFIN.out M4.out)
                  clear e1 e2 HFIN M4
                  go_wp2_with fail
                  go_roundw
                  case rel => exact ⟨k + 1, d2, ca, (n : Int), z, by omega, by omega, by omega, rfl, by first | rfl | go_num, rfl, by go_num, HG⟩
                  case measure => simp [intOf]; omega
            · have b0 : (pc == 0) = false := by simpa using h0
              have e1 : gotN 5 ⟨pc, pt, pv, ph⟩ (n : Int) = (n : Int) := gotN_no (by decide)
              have e2 : stN 5 ⟨pc, pt, pv, ph⟩ z = z := stN_no (by unfold c1; simp only; omega) (by decide)
              rw [e1, e2] at HFIN
              have HG := Lib.hid (And.intro HFIN.out M4.out)
              clear e1 e2 HFIN M4
              go_wp2_with fail
              go_roundw
              case rel => exact ⟨k + 1, d2, ca, (n : Int), z, by omega, by omega, by omega, rfl, by first | rfl | go_num, rfl, by go_num, HG⟩
              case measure => simp [intOf]; omega
        · as_aux_lemma =>
            have bx : (ca != ca) = false := by simp
            go_wp2_with fail
            refine HN.out.mono ?_
            rintro e w6 ⟨rfl, hb⟩
            have M2 := Lib.hid (Mem.blockB (M1.out.below hb) #[.int .i64 6, .int .i64 cx, .int .i64 ca, .int .i64 cs, .int .i64 co, .string cy, .string cv, .int .i64 cm, .bool cb] 38)
            have hh := Mem.heapAt [DrA g mg l d, MapA mg bcL] (r := [BlockA wr.heap.size #[.int .i64 pc, .int .i64 pt, .string pv, .bool ph] 36]) M2.out
            have hh2 := Mem.heapAt [DrA g mg l d, MapA mg bcL, BlockA w6.heap.size #[.int .i64 6, .int .i64 cx, .int .i64 ca, .int .i64 cs, .int .i64 co, .string cy, .string cv, .int .i64 cm, .bool cb] 38] (r := []) M2.out
            have u0 := (cell_of_heap (i := 0) (v := .int .i64 6) hh rfl).1
            have u1 := (cell_of_heap (i := 1) (v := .int .i64 cx) hh rfl).1
            have u2 := (cell_of_heap (i := 2) (v := .int .i64 ca) hh rfl).1
            have u3 := (cell_of_heap (i := 3) (v := .int .i64 cs) hh rfl).1
            have u4 := (cell_of_heap (i := 4) (v := .int .i64 co) hh rfl).1
            have u5 := (cell_of_heap (i := 5) (v := .string cy) hh rfl).1
            have u6 := (cell_of_heap (i := 6) (v := .string cv) hh rfl).1
            have u7 := (cell_of_heap (i := 7) (v := .int .i64 cm) hh rfl).1
            have u8 := (cell_of_heap (i := 8) (v := .bool cb) hh rfl).1
            have t0 := (cell_of_heap (i := 0) (v := .int .i64 pc) hh2 rfl).1
            have t1 := (cell_of_heap (i := 1) (v := .int .i64 pt) hh2 rfl).1
            have t2 := (cell_of_heap (i := 2) (v := .string pv) hh2 rfl).1
            have t3 := (cell_of_heap (i := 3) (v := .bool ph) hh2 rfl).1
            clear hh hh2
            clear hb HN M1
            have H1 := Lib.hid (HT.out _ _ inferInstance M2.out)
            go_wp2_with fail
            refine H1.out.mono ?_
            rintro e w7 ⟨rfl, hm⟩
            have M3 := Lib.hid hm
            clear hm H1 HT M2 u0 u1 u2 u3 u4 u5 u6 u7 u8 t0 t1 t2 t3
            have hh := Mem.heapAt [DrA g mg l d2, MapA mg bcL] (r := [BlockA wr.heap.size #[.int .i64 pc, .int .i64 pt, .string pv, .bool ph] 36]) M3.out
            have hh2 := Mem.heapAt [DrA g mg l d2, MapA mg bcL, BlockA w6.heap.size #[.int .i64 6, .int .i64 cx, .int .i64 ca, .int .i64 cs, .int .i64 co, .string cy, .string cv, .int .i64 cm, .bool cb] 38] (r := []) M3.out
            have u0 := (cell_of_heap (i := 0) (v := .int .i64 6) hh rfl).1
            have u1 := (cell_of_heap (i := 1) (v := .int .i64 cx) hh rfl).1
            have u2 := (cell_of_heap (i := 2) (v := .int .i64 ca) hh rfl).1
            have u3 := (cell_of_heap (i := 3) (v := .int .i64 cs) hh rfl).1
            have u4 := (cell_of_heap (i := 4) (v := .int .i64 co) hh rfl).1
            have u5 := (cell_of_heap (i := 5) (v := .string cy) hh rfl).1
            have u6 := (cell_of_heap (i := 6) (v := .string cv) hh rfl).1
            have u7 := (cell_of_heap (i := 7) (v := .int .i64 cm) hh rfl).1
            have u8 := (cell_of_heap (i := 8) (v := .bool cb) hh rfl).1
            have t0 := (cell_of_heap (i := 0) (v := .int .i64 pc) hh2 rfl).1
            have t1 := (cell_of_heap (i := 1) (v := .int .i64 pt) hh2 rfl).1
            have t2 := (cell_of_heap (i := 2) (v := .string pv) hh2 rfl).1
            have t3 := (cell_of_heap (i := 3) (v := .bool ph) hh2 rfl).1
            clear hh hh2
            have M4 : Hid (Mem w [] w7 [DrA g mg l d2, MapA mg bcL]) := Lib.hid (Mem.drop [DrA g mg l d2, MapA mg bcL] (r := []) (Mem.drop [DrA g mg l d2, MapA mg bcL] (A := BlockA w6.heap.size #[.int .i64 6, .int .i64 cx, .int .i64 ca, .int .i64 cs, .int .i64 co, .string cy, .string cv, .int .i64 cm, .bool cb] 38) (r := [BlockA wr.heap.size #[.int .i64 pc, .int .i64 pt, .string pv, .bool ph] 36]) M3.out))
            clear M3
            generalize w6.heap.size = g6 at *
            generalize wr.heap.size = g5 at *
            by_cases h0 : pc = 0
            · subst h0
              by_cases h3 : pt = 3
              · subst h3
                have e1 : gotN 6 ⟨0, 3, pv, ph⟩ y = y := gotN_no (by decide)
                have e2 : stN 6 ⟨0, 3, pv, ph⟩ z = 3 := stN_c1 ⟨by decide, rfl, .inl rfl⟩ (by decide)
                rw [e1, e2] at HFIN
                have HG := Lib.hid (And.intro HFIN.out M4.out)
                clear e1 e2 HFIN M4
                go_wp2_with fail
                go_roundw
                case rel => exact ⟨k + 1, d2, ca, y, 3, by omega, by omega, by omega, rfl, by first | rfl | go_num, rfl, by go_num, HG⟩
                case measure => simp [intOf]; omega
              · have b3 : (pt == 3) = false := by simpa using h3
                by_cases h2 : pt = 2
                · subst h2
                  have e1 : gotN 6 ⟨0, 2, pv, ph⟩ y = y := gotN_no (by decide)
                  have e2 : stN 6 ⟨0, 2, pv, ph⟩ z = 2 := stN_c1 ⟨by decide, rfl, .inr ⟨rfl, by decide, by decide⟩⟩ (by decide)
                  rw [e1, e2] at HFIN
                  have HG := Lib.hid (And.intro HFIN.out M4.out)
                  clear e1 e2 HFIN M4
                  go_wp2_with fail
                  go_roundw
                  case rel => exact ⟨k + 1, d2, ca, y, 2, by omega, by omega, by omega, rfl, by first | rfl | go_num, rfl, by go_num, HG⟩
                  case measure => simp [intOf]; omega
                · have b2 : (pt == 2) = false := by simpa using h2
                  have e1 : gotN 6 ⟨0, pt, pv, ph⟩ y = y := gotN_no (by decide)
                  have e2 : stN 6 ⟨0, pt, pv, ph⟩ z = z := stN_no (by unfold c1; simp only; omega) (by decide)
                  rw [e1, e2] at HFIN
                  have HG := Lib.hid (And.intro HFIN.out M4.out)
                  clear e1 e2 HFIN M4
                  go_wp2_with fail
                  go_roundw
                  case rel => exact ⟨k + 1, d2, ca, y, z, by omega, by omega, by omega, rfl, by first | rfl | go_num, rfl, by go_num, HG⟩
                  case measure => simp [intOf]; omega
            · have b0 : (pc == 0) = false := by simpa using h0
              have e1 : gotN 6 ⟨pc, pt, pv, ph⟩ y = y := gotN_no (by decide)
              have e2 : stN 6 ⟨pc, pt, pv, ph⟩ z = z := stN_no (by unfold c1; simp only; omega) (by decide)
              rw [e1, e2] at HFIN
              have HG := Lib.hid (And.intro HFIN.out M4.out)
              clear e1 e2 HFIN M4
              go_wp2_with fail
              go_roundw
              case rel => exact ⟨k + 1, d2, ca, y, z, by omega, by omega, by omega, rfl, by first | rfl | go_num, rfl, by go_num, HG⟩
              case measure => simp [intOf]; omega
        · as_aux_lemma =>
            have bx : (ca != ca) = false := by simp
            obtain ⟨rfl, hz2⟩ := f5 (by trivial)
            have b7 : ((z == 2) != (z == 2)) = false := by simp
            have b72 : decide (z < 2) = false := by simp; omega
            go_wp2_with fail
            refine HN.out.mono ?_
            rintro e w6 ⟨rfl, hb⟩
            have M2 := Lib.hid (Mem.blockB (M1.out.below hb) #[.int .i64 7, .int .i64 cx, .int .i64 ca, .int .i64 cs, .int .i64 co, .string cy, .string cv, .int .i64 cm, .bool (z == 2)] 38)
            have hh := Mem.heapAt [DrA g mg l d, MapA mg bcL] (r := [BlockA wr.heap.size #[.int .i64 pc, .int .i64 pt, .string pv, .bool ph] 36]) M2.out
            have hh2 := Mem.heapAt [DrA g mg l d, MapA mg bcL, BlockA w6.heap.size #[.int .i64 7, .int .i64 cx, .int .i64 ca, .int .i64 cs, .int .i64 co, .string cy, .string cv, .int .i64 cm, .bool (z == 2)] 38] (r := []) M2.out
            have u0 := (cell_of_heap (i := 0) (v := .int .i64 7) hh rfl).1
            have u1 := (cell_of_heap (i := 1) (v := .int .i64 cx) hh rfl).1
            have u2 := (cell_of_heap (i := 2) (v := .int .i64 ca) hh rfl).1
            have u3 := (cell_of_heap (i := 3) (v := .int .i64 cs) hh rfl).1
            have u4 := (cell_of_heap (i := 4) (v := .int .i64 co) hh rfl).1
            have u5 := (cell_of_heap (i := 5) (v := .string cy) hh rfl).1
            have u6 := (cell_of_heap (i := 6) (v := .string cv) hh rfl).1
            have u7 := (cell_of_heap (i := 7) (v := .int .i64 cm) hh rfl).1
            have u8 := (cell_of_heap (i := 8) (v := .bool (z == 2)) hh rfl).1
            have t0 := (cell_of_heap (i := 0) (v := .int .i64 pc) hh2 rfl).1
            have t1 := (cell_of_heap (i := 1) (v := .int .i64 pt) hh2 rfl).1
            have t2 := (cell_of_heap (i := 2) (v := .string pv) hh2 rfl).1
            have t3 := (cell_of_heap (i := 3) (v := .bool ph) hh2 rfl).1
            clear hh hh2
            clear hb HN M1
            have H1 := Lib.hid (HT.out _ _ inferInstance M2.out)
            go_wp2_with fail
            refine H1.out.mono ?_
            rintro e w7 ⟨rfl, hm⟩
            have M3 := Lib.hid hm
            clear hm H1 HT M2 u0 u1 u2 u3 u4 u5 u6 u7 u8 t0 t1 t2 t3
            have hh := Mem.heapAt [DrA g mg l d2, MapA mg bcL] (r := [BlockA wr.heap.size #[.int .i64 pc, .int .i64 pt, .string pv, .bool ph] 36]) M3.out
            have hh2 := Mem.heapAt [DrA g mg l d2, MapA mg bcL, BlockA w6.heap.size #[.int .i64 7, .int .i64 cx, .int .i64 ca, .int .i64 cs, .int .i64 co, .string cy, .string cv, .int .i64 cm, .bool (z == 2)] 38] (r := []) M3.out
            have u0 := (cell_of_heap (i := 0) (v := .int .i64 7) hh rfl).1
            have u1 := (cell_of_heap (i := 1) (v := .int .i64 cx) hh rfl).1
            have u2 := (cell_of_heap (i := 2) (v := .int .i64 ca) hh rfl).1
            have u3 := (cell_of_heap (i := 3) (v := .int .i64 cs) hh rfl).1
            have u4 := (cell_of_heap (i := 4) (v := .int .i64 co) hh rfl).1
            have u5 := (cell_of_heap (i := 5) (v := .string cy) hh rfl).1
            have u6 := (cell_of_heap (i := 6) (v := .string cv) hh rfl).1
            have u7 := (cell_of_heap (i := 7) (v := .int .i64 cm) hh rfl).1
            have u8 := (cell_of_heap (i := 8) (v := .bool (z == 2)) hh rfl).1
            have t0 := (cell_of_heap (i := 0) (v := .int .i64 pc) hh2 rfl).1
            have t1 := (cell_of_heap (i := 1) (v := .int .i64 pt) hh2 rfl).1
            have t2 := (cell_of_heap (i := 2) (v := .string pv) hh2 rfl).1
            have t3 := (cell_of_heap (i := 3) (v := .bool ph) hh2 rfl).1
            clear hh hh2
            have M4 : Hid (Mem w [] w7 [DrA g mg l d2, MapA mg bcL]) := Lib.hid (Mem.drop [DrA g mg l d2, MapA mg bcL] (r := []) (Mem.drop [DrA g mg l d2, MapA mg bcL] (A := BlockA w6.heap.size #[.int .i64 7, .int .i64 cx, .int .i64 ca, .int .i64 cs, .int .i64 co, .string cy, .string cv, .int .i64 cm, .bool (z == 2)] 38) (r := [BlockA wr.heap.size #[.int .i64 pc, .int .i64 pt, .string pv, .bool ph] 36]) M3.out))
            clear M3
            generalize w6.heap.size = g6 at *
            generalize wr.heap.size = g5 at *
            have e1 : gotN 7 ⟨pc, pt, pv, ph⟩ y = y := gotN_no (by decide)
            have e2 : stN 7 ⟨pc, pt, pv, ph⟩ z = z := stN_no (by unfold c1; simp only; omega) (by decide)
            rw [e1, e2] at HFIN
            have HG := Lib.hid (And.intro HFIN.out M4.out)
            clear e1 e2 HFIN M4
            go_wp2_with fail
            go_roundw
            case rel => exact ⟨k + 1, d2, ca, y, z, by omega, by omega, by omega, rfl, by first | rfl | go_num, rfl, by go_num, HG⟩
            case measure => simp [intOf]; omega
        · as_aux_lemma =>
            have bx : (ca != ca) = false := by simp
            go_wp2_with fail
            refine HN.out.mono ?_
            rintro e w6 ⟨rfl, hb⟩
            have M2 := Lib.hid (Mem.blockB (M1.out.below hb) #[.int .i64 8, .int .i64 cx, .int .i64 ca, .int .i64 cs, .int .i64 co, .string cy, .string cv, .int .i64 cm, .bool cb] 38)
            have hh := Mem.heapAt [DrA g mg l d, MapA mg bcL] (r := [BlockA wr.heap.size #[.int .i64 pc, .int .i64 pt, .string pv, .bool ph] 36]) M2.out
            have hh2 := Mem.heapAt [DrA g mg l d, MapA mg bcL, BlockA w6.heap.size #[.int .i64 8, .int .i64 cx, .int .i64 ca, .int .i64 cs, .int .i64 co, .string cy, .string cv, .int .i64 cm, .bool cb] 38] (r := []) M2.out
            have u0 := (cell_of_heap (i := 0) (v := .int .i64 8) hh rfl).1
            have u1 := (cell_of_heap (i := 1) (v := .int .i64 cx) hh rfl).1
            have u2 := (cell_of_heap (i := 2) (v := .int .i64 ca) hh rfl).1
            have u3 := (cell_of_heap (i := 3) (v := .int .i64 cs) hh rfl).1
            have u4 := (cell_of_heap (i := 4) (v := .int .i64 co) hh rfl).1
            have u5 := (cell_of_heap (i := 5) (v := .string cy) hh rfl).1
            have u6 := (cell_of_heap (i := 6) (v := .string cv) hh rfl).1
            have u7 := (cell_of_heap (i := 7) (v := .int .i64 cm) hh rfl).1
            have u8 := (cell_of_heap (i := 8) (v := .bool cb) hh rfl).1
            have t0 := (cell_of_heap (i := 0) (v := .int .i64 pc) hh2 rfl).1
            have t1 := (cell_of_heap (i := 1) (v := .int .i64 pt) hh2 rfl).1
            have t2 := (cell_of_heap (i := 2) (v := .string pv) hh2 rfl).1
            have t3 := (cell_of_heap (i := 3) (v := .bool ph) hh2 rfl).1
            clear hh hh2
            clear hb HN M1
            have H1 := Lib.hid (HT.out _ _ inferInstance M2.out)
            go_wp2_with fail
            refine H1.out.mono ?_
            rintro e w7 ⟨rfl, hm⟩
            have M3 := Lib.hid hm
            clear hm H1 HT M2 u0 u1 u2 u3 u4 u5 u6 u7 u8 t0 t1 t2 t3
            have hh := Mem.heapAt [DrA g mg l d2, MapA mg bcL] (r := [BlockA wr.heap.size #[.int .i64 pc, .int .i64 pt, .string pv, .bool ph] 36]) M3.out
            have hh2 := Mem.heapAt [DrA g mg l d2, MapA mg bcL, BlockA w6.heap.size #[.int .i64 8, .int .i64 cx, .int .i64 ca, .int .i64 cs, .int .i64 co, .string cy, .string cv, .int .i64 cm, .bool cb] 38] (r := []) M3.out
            have u0 := (cell_of_heap (i := 0) (v := .int .i64 8) hh rfl).1
            have u1 := (cell_of_heap (i := 1) (v := .int .i64 cx) hh rfl).1
            have u2 := (cell_of_heap (i := 2) (v := .int .i64 ca) hh rfl).1
            have u3 := (cell_of_heap (i := 3) (v := .int .i64 cs) hh rfl).1
            have u4 := (cell_of_heap (i := 4) (v := .int .i64 co) hh rfl).1
            have u5 := (cell_of_heap (i := 5) (v := .string cy) hh rfl).1
            have u6 := (cell_of_heap (i := 6) (v := .string cv) hh rfl).1
            have u7 := (cell_of_heap (i := 7) (v := .int .i64 cm) hh rfl).1
            have u8 := (cell_of_heap (i := 8) (v := .bool cb) hh rfl).1
            have t0 := (cell_of_heap (i := 0) (v := .int .i64 pc) hh2 rfl).1
            have t1 := (cell_of_heap (i := 1) (v := .int .i64 pt) hh2 rfl).1
            have t2 := (cell_of_heap (i := 2) (v := .string pv) hh2 rfl).1
            have t3 := (cell_of_heap (i := 3) (v := .bool ph) hh2 rfl).1
            clear hh hh2
            have M4 : Hid (Mem w [] w7 [DrA g mg l d2, MapA mg bcL]) := Lib.hid (Mem.drop [DrA g mg l d2, MapA mg bcL] (r := []) (Mem.drop [DrA g mg l d2, MapA mg bcL] (A := BlockA w6.heap.size #[.int .i64 8, .int .i64 cx, .int .i64 ca, .int .i64 cs, .int .i64 co, .string cy, .string cv, .int .i64 cm, .bool cb] 38) (r := [BlockA wr.heap.size #[.int .i64 pc, .int .i64 pt, .string pv, .bool ph] 36]) M3.out))
            clear M3
            generalize w6.heap.size = g6 at *
            generalize wr.heap.size = g5 at *
            by_cases h0 : pc = 0
            · subst h0
              by_cases h3 : pt = 3
              · subst h3
                have e1 : gotN 8 ⟨0, 3, pv, ph⟩ y = y := gotN_no (by decide)
                have e2 : stN 8 ⟨0, 3, pv, ph⟩ z = 3 := stN_c1 ⟨by decide, rfl, .inl rfl⟩ (by decide)
                rw [e1, e2] at HFIN
                have HG := Lib.hid (And.intro HFIN.out M4.out)
                clear e1 e2 HFIN M4
                go_wp2_with fail
                go_roundw
                case rel => exact ⟨k + 1, d2, ca, y, 3, by omega, by omega, by omega, rfl, by first | rfl | go_num, rfl, by go_num, HG⟩
                case measure => simp [intOf]; omega
              · have b3 : (pt == 3) = false := by simpa using h3
                by_cases h2 : pt = 2
                · subst h2
                  have e1 : gotN 8 ⟨0, 2, pv, ph⟩ y = y := gotN_no (by decide)
                  have e2 : stN 8 ⟨0, 2, pv, ph⟩ z = z := stN_no (by unfold c1; simp only; omega) (by decide)
                  rw [e1, e2] at HFIN
                  have HG := Lib.hid (And.intro HFIN.out M4.out)
                  clear e1 e2 HFIN M4
                  go_wp2_with fail
                  go_roundw
                  case rel => exact ⟨k + 1, d2, ca, y, z, by omega, by omega, by omega, rfl, by first | rfl | go_num, rfl, by go_num, HG⟩
                  case measure => simp [intOf]; omega
                · have b2 : (pt == 2) = false := by simpa using h2
                  have e1 : gotN 8 ⟨0, pt, pv, ph⟩ y = y := gotN_no (by decide)
                  have e2 : stN 8 ⟨0, pt, pv, ph⟩ z = z := stN_no (by unfold c1; simp only; omega) (by decide)
                  rw [e1, e2] at HFIN
                  have HG := Lib.hid (And.intro HFIN.out M4.out)
                  clear e1 e2 HFIN M4
                  go_wp2_with fail
                  go_roundw
                  case rel => exact ⟨k + 1, d2, ca, y, z, by omega, by omega, by omega, rfl, by first | rfl | go_num, rfl, by go_num, HG⟩
                  case measure => simp [intOf]; omega
            · have b0 : (pc == 0) = false := by simpa using h0
              have e1 : gotN 8 ⟨pc, pt, pv, ph⟩ y = y := gotN_no (by decide)
              have e2 : stN 8 ⟨pc, pt, pv, ph⟩ z = z := stN_no (by unfold c1; simp only; omega) (by decide)
              rw [e1, e2] at HFIN
              have HG := Lib.hid (And.intro HFIN.out M4.out)
              clear e1 e2 HFIN M4
              go_wp2_with fail
              go_roundw
              case rel => exact ⟨k + 1, d2, ca, y, z, by omega, by omega, by omega, rfl, by first | rfl | go_num, rfl, by go_num, HG⟩
              case measure => simp [intOf]; omega
      · obtain ⟨hx, hz, hp0, hI1⟩ := HNX.2 hatt
        have hK : kindN d.phase = 1 := by unfold kindN; rw [if_pos hp0]
        have HFIN := Lib.hid (inv_told HINV.out.1 HINV.out.2.1 hI1 hp8 ⟨pc, pt, pv, ph⟩)
        obtain ⟨f1, f2, f3, -, -, -⟩ := nextC_facts hI1 hph0
        rw [HINV.out.2.1] at f3
        rw [hx] at f2 HFIN ha0 ha1
        rw [hK] at f1 f3 HFIN
        subst hz
        clear HNX hI1 HINV hok
        generalize nextC l d = cq at *
        generalize nextS bcL l d = ns at *
        generalize toldM bcL l d ⟨pc, pt, pv, ph⟩ = d2 at *
        clear hp8 hph0 hatt hp0 hK hx
        obtain ⟨ck, cx, ca, cs, co, cy, cv, cm, cb⟩ := cq
        simp only at f1 f2 f3 HN HT
        subst f1 f2
        as_aux_lemma =>
          obtain rfl := f3 (by trivial)
          have bs : (cs != cs) = false := by simp
          have bx : (x + 1 != x) = true := by rw [bne_iff_ne]; omega
          have bx2 : (x + 1 != x + 1) = false := by simp
          go_wp2_with fail
          refine HN.out.mono ?_
          rintro e w6 ⟨rfl, hb⟩
          have M2 := Lib.hid (Mem.blockB (M1.out.below hb) #[.int .i64 1, .int .i64 cx, .int .i64 (x + 1), .int .i64 cs, .int .i64 co, .string cy, .string cv, .int .i64 cm, .bool cb] 38)
          have hh := Mem.heapAt [DrA g mg l d, MapA mg bcL] (r := [BlockA wr.heap.size #[.int .i64 pc, .int .i64 pt, .string pv, .bool ph] 36]) M2.out
          have hh2 := Mem.heapAt [DrA g mg l d, MapA mg bcL, BlockA w6.heap.size #[.int .i64 1, .int .i64 cx, .int .i64 (x + 1), .int .i64 cs, .int .i64 co, .string cy, .string cv, .int .i64 cm, .bool cb] 38] (r := []) M2.out
          have u0 := (cell_of_heap (i := 0) (v := .int .i64 1) hh rfl).1
          have u1 := (cell_of_heap (i := 1) (v := .int .i64 cx) hh rfl).1
          have u2 := (cell_of_heap (i := 2) (v := .int .i64 (x + 1)) hh rfl).1
          have u3 := (cell_of_heap (i := 3) (v := .int .i64 cs) hh rfl).1
          have u4 := (cell_of_heap (i := 4) (v := .int .i64 co) hh rfl).1
          have u5 := (cell_of_heap (i := 5) (v := .string cy) hh rfl).1
          have u6 := (cell_of_heap (i := 6) (v := .string cv) hh rfl).1
          have u7 := (cell_of_heap (i := 7) (v := .int .i64 cm) hh rfl).1
          have u8 := (cell_of_heap (i := 8) (v := .bool cb) hh rfl).1
          have t0 := (cell_of_heap (i := 0) (v := .int .i64 pc) hh2 rfl).1
          have t1 := (cell_of_heap (i := 1) (v := .int .i64 pt) hh2 rfl).1
          have t2 := (cell_of_heap (i := 2) (v := .string pv) hh2 rfl).1
          have t3 := (cell_of_heap (i := 3) (v := .bool ph) hh2 rfl).1
          clear hh hh2
          clear hb HN M1
          have H1 := Lib.hid (HT.out _ _ inferInstance M2.out)
          go_wp2_with fail
          refine H1.out.mono ?_
          rintro e w7 ⟨rfl, hm⟩
          have M3 := Lib.hid hm
          clear hm H1 HT M2 u0 u1 u2 u3 u4 u5 u6 u7 u8 t0 t1 t2 t3
          have hh := Mem.heapAt [DrA g mg l d2, MapA mg bcL] (r := [BlockA wr.heap.size #[.int .i64 pc, .int .i64 pt, .string pv, .bool ph] 36]) M3.out
          have hh2 := Mem.heapAt [DrA g mg l d2, MapA mg bcL, BlockA w6.heap.size #[.int .i64 1, .int .i64 cx, .int .i64 (x + 1), .int .i64 cs, .int .i64 co, .string cy, .string cv, .int .i64 cm, .bool cb] 38] (r := []) M3.out
          have u0 := (cell_of_heap (i := 0) (v := .int .i64 1) hh rfl).1
          have u1 := (cell_of_heap (i := 1) (v := .int .i64 cx) hh rfl).1
          have u2 := (cell_of_heap (i := 2) (v := .int .i64 (x + 1)) hh rfl).1
          have u3 := (cell_of_heap (i := 3) (v := .int .i64 cs) hh rfl).1
          have u4 := (cell_of_heap (i := 4) (v := .int .i64 co) hh rfl).1
          have u5 := (cell_of_heap (i := 5) (v := .string cy) hh rfl).1
          have u6 := (cell_of_heap (i := 6) (v := .string cv) hh rfl).1
          have u7 := (cell_of_heap (i := 7) (v := .int .i64 cm) hh rfl).1
          have u8 := (cell_of_heap (i := 8) (v := .bool cb) hh rfl).1
          have t0 := (cell_of_heap (i := 0) (v := .int .i64 pc) hh2 rfl).1
          have t1 := (cell_of_heap (i := 1) (v := .int .i64 pt) hh2 rfl).1
          have t2 := (cell_of_heap (i := 2) (v := .string pv) hh2 rfl).1
          have t3 := (cell_of_heap (i := 3) (v := .bool ph) hh2 rfl).1
          clear hh hh2
          have M4 : Hid (Mem w [] w7 [DrA g mg l d2, MapA mg bcL]) := Lib.hid (Mem.drop [DrA g mg l d2, MapA mg bcL] (r := []) (Mem.drop [DrA g mg l d2, MapA mg bcL] (A := BlockA w6.heap.size #[.int .i64 1, .int .i64 cx, .int .i64 (x + 1), .int .i64 cs, .int .i64 co, .string cy, .string cv, .int .i64 cm, .bool cb] 38) (r := [BlockA wr.heap.size #[.int .i64 pc, .int .i64 pt, .string pv, .bool ph] 36]) M3.out))
          clear M3
          generalize w6.heap.size = g6 at *
          generalize wr.heap.size = g5 at *
          by_cases h0 : pc = 0
          · subst h0
            by_cases h3 : pt = 3
            · subst h3
              have e1 : gotN 1 ⟨0, 3, pv, ph⟩ 0 = 0 := gotN_no (by decide)
              have e2 : stN 1 ⟨0, 3, pv, ph⟩ 0 = 0 := stN_c1' rfl (by simp only; omega)
              rw [e1, e2] at HFIN
              have HG := Lib.hid (And.intro HFIN.out M4.out)
              clear e1 e2 HFIN M4
              go_wp2_with fail
              go_roundw
              case rel => exact ⟨k + 1, d2, (x + 1), 0, 0, by omega, by omega, by omega, rfl, by first | rfl | go_num, rfl, by go_num, HG⟩
              case measure => simp [intOf]; omega
            · have b3 : (pt == 3) = false := by simpa using h3
              by_cases h2 : pt = 2
              · subst h2
                have e1 : gotN 1 ⟨0, 2, pv, ph⟩ 0 = 0 := gotN_no (by decide)
                have e2 : stN 1 ⟨0, 2, pv, ph⟩ 0 = 0 := stN_c1' rfl (by simp only; omega)
                rw [e1, e2] at HFIN
                have HG := Lib.hid (And.intro HFIN.out M4.out)
                clear e1 e2 HFIN M4
                go_wp2_with fail
                go_roundw
                case rel => exact ⟨k + 1, d2, (x + 1), 0, 0, by omega, by omega, by omega, rfl, by first | rfl | go_num, rfl, by go_num, HG⟩
                case measure => simp [intOf]; omega
              · have b2 : (pt == 2) = false := by simpa using h2
                have e1 : gotN 1 ⟨0, pt, pv, ph⟩ 0 = 0 := gotN_no (by decide)
                have e2 : stN 1 ⟨0, pt, pv, ph⟩ 0 = 0 := stN_c1' rfl (by simp only; omega)
                rw [e1, e2] at HFIN
                have HG := Lib.hid (And.intro HFIN.out M4.out)
                clear e1 e2 HFIN M4
                go_wp2_with fail
                go_roundw
                case rel => exact ⟨k + 1, d2, (x + 1), 0, 0, by omega, by omega, by omega, rfl, by first | rfl | go_num, rfl, by go_num, HG⟩
                case measure => simp [intOf]; omega
          · have b0 : (pc == 0) = false := by simpa using h0
            by_cases h9 : pc = 9
            · subst h9
              have e1 : gotN 1 ⟨9, pt, pv, ph⟩ 0 = 0 := gotN_no (by decide)
              have e2 : stN 1 ⟨9, pt, pv, ph⟩ 0 = 3 := stN_9 rfl rfl
              rw [e1, e2] at HFIN
              have HG := Lib.hid (And.intro HFIN.out M4.out)
              clear e1 e2 HFIN M4
              go_wp2_with fail
              go_roundw
              case rel => exact ⟨k + 1, d2, (x + 1), 0, 3, by omega, by omega, by omega, rfl, by first | rfl | go_num, rfl, by go_num, HG⟩
              case measure => simp [intOf]; omega
            · have b9 : (pc == 9) = false := by simpa using h9
              have e1 : gotN 1 ⟨pc, pt, pv, ph⟩ 0 = 0 := gotN_no (by decide)
              have e2 : stN 1 ⟨pc, pt, pv, ph⟩ 0 = 0 := stN_c1' rfl (by simp only; omega)
              rw [e1, e2] at HFIN
              have HG := Lib.hid (And.intro HFIN.out M4.out)
              clear e1 e2 HFIN M4
              go_wp2_with fail
              go_roundw
              case rel => exact ⟨k + 1, d2, (x + 1), 0, 0, by omega, by omega, by omega, rfl, by first | rfl | go_num, rfl, by go_num, HG⟩
              case measure => simp [intOf]; omega
    · obtain rfl : k = n2 := by omega
      have M0 := Lib.hid HS.out.2
      clear HS
      go_wp2_with fail
      go_ret
      exact ⟨rfl, M0.out.bel⟩
end
end Go.Proofs.YtmifgnibalbgjaaDoor
