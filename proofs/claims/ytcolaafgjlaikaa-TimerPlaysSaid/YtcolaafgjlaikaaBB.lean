/- TimerSkips walked. -/
import Derived.Test.YtcolaafgjlaikaaAA
namespace Go.Proofs.Ytcolaafgjlaikaa
open Go.RowKit

/-- A block known whole. -/
def BlockA (g : Nat) (cur : Array Value) (T : TypeId) : Asn := fun w D => D = [g] ∧ w.heap[g]? = some (.cells cur T (0, 0))
instance {g : Nat} {cur : Array Value} {T : TypeId} : Stable (BlockA g cur T) where
  lt := fun ⟨e, h⟩ x hx => by subst e; simp at hx; subst hx; exact (Array.getElem?_eq_some_iff.1 h).1
  keep := fun ⟨e, h⟩ hk => ⟨e, by subst e; rw [hk _ (by simp)]; exact h⟩
theorem Mem.block {w0 w : World} {l : List Asn} [Stables l] (h : Mem w0 w l) (cur : Array Value) (T : TypeId) : Mem w0 (w.alloc (.cells cur T)) (BlockA w.heap.size cur T :: l) :=
  h.new (Below.alloc (Below.refl _ _) (Nat.le_refl _) _) (As := [BlockA w.heap.size cur T]) (all_one ⟨rfl, by show (w.heap.push _)[w.heap.size]? = _; rw [Array.getElem?_push, if_pos rfl]⟩) (by simp)

instance {l r : List Asn} [hl : Stables l] [hr : Stables r] : Stables (l ++ r) := ⟨fun A hA => by
  rcases List.mem_append.1 hA with h | h
  · exact hl.all A h
  · exact hr.all A h⟩
theorem block_cell {w0 W : World} {g i : Nat} {cur : Array Value} {T : TypeId} {v : Value} {l : List Asn} [Stables l] (M : Mem w0 W (BlockA g cur T :: l)) (h : cur[i]? = some v) : W.cell? ⟨g, i, none⟩ = some v := by
  obtain ⟨D, _, hD⟩ := M.get []
  exact (cell_of_heap hD h).1

theorem set_one (L : List Tm) (id after every : Int) : ∃ x L', mSet [(0, L)] 0 id after every = (x, [(0, L')]) := by
  unfold mSet
  split
  · exact ⟨_, _, by simp [nodeAt]; exact ⟨rfl, rfl⟩⟩
  · exact ⟨_, _, rfl⟩
theorem skip_one (T k : Int) (L L' : List Tm) (o : List Int) (h0 : 0 ≤ k) (h1 : k ≤ 256) (h2 : T + k ≤ 1099511627776) (hd : Drain (T + k) L o L') : mSkip [(T, L)] 0 k = (0, o, [(T + k, L')]) := by
  unfold mSkip
  rw [if_neg (by omega)]
  simp only [nodeAt, Int.lt_irrefl, if_false, Int.toNat_zero, List.getElem?_cons_zero, List.set_cons_zero]
  rw [if_neg (by omega), drainF_eq hd]
theorem bok_one {T : Int} {L : List Tm} (h0 : 0 ≤ T) (h1 : T ≤ 1000) (h : LOk T (T + 1099511627776) L) : BOk [(T, L)] := fun x hx => by
  rcases List.mem_cons.1 hx with rfl | hx
  · exact ⟨h0, by simp only; omega, h⟩
  · cases hx
theorem one_ok {T : Int} {L : List Tm} (h : BOk [(T, L)]) : LOk T (T + 1099511627776) L := (h _ (List.mem_cons_self ..)).ok
theorem drain_len {clk : Int} {l l' : List Tm} {o : List Int} (h : Drain clk l o l') : o.length ≤ leftT clk l := by
  obtain ⟨o2, l2, k, hk⟩ := Drain.total clk _ l (Nat.le_refl _)
  rw [(h.det k).1]; exact hk
/-- ticks T, one by one or at once. -/
theorem drain_bd {T : Int} {L0 L : List Tm} {o : List Int} (h : LOk 0 1099511627776 L0) (hd : Drain T L0 o L) (h0 : 0 ≤ T) (h1 : T ≤ 300) : o.length ≤ 20000 ∧ LOk T (T + 1099511627776) L := by
  refine ⟨?_, hd.after (lo := 0) (h.mono (by omega) (by omega)) (by omega)⟩
  have := drain_len hd
  have h2 := leftT_le (lo := 0) (clk := T) (l := L0) 300 (by omega) (fun t ht => (h.rng t ht).1)
  have := h.len
  omega

set_option maxRecDepth 100000 in
set_option maxHeartbeats 8000000 in
theorem skips_any (a b : Option Addr) (n c m d : Nat) (l : List Ac) (cuts : List Int) (w : World) (hn : n ≤ maxLen) (hm : m ≤ maxLen) (hA : ActsAt w a n l) (hB : BytesAt w b m cuts) :
    Calls Try.prog 4 #[.slice a n c, .slice b m d] w fun e w' => e = .returned (.bool true) ∧ Below w.heap.size w w' := by
  unfold maxLen at hn hm
  have HF := Lib.hid (fixed_any w)
  have HN := Lib.hid fun w => (show Calls Try.prog 7 #[.int .i64 1] w _ from bd_new 1 (by decide) (by decide) w)
  have HA := Lib.hid hA
  have HBy := Lib.hid hB
  clear hA hB
  by_cases h60 : 60 < (n : Int)
  · go_enter Try.func4, Try.ntmps4
    go_wp2_with fail
    refine HF.out.mono ?_
    rintro e w1 ⟨rfl, hb⟩
    have HB := Lib.hid hb
    clear hb
    go_wp2_with fail
    go_ret
    exact ⟨rfl, HB.out⟩
  by_cases h40 : 40 < (m : Int)
  · go_enter Try.func4, Try.ntmps4
    go_wp2_with fail
    refine HF.out.mono ?_
    rintro e w1 ⟨rfl, hb⟩
    have HB := Lib.hid hb
    clear hb
    go_wp2_with fail
    go_ret
    exact ⟨rfl, HB.out⟩
  have b60 : decide (60 < (n : Int)) = false := decide_eq_false h60
  have b40 : decide (40 < (m : Int)) = false := decide_eq_false h40
  go_enter Try.func4, Try.ntmps4
  go_wp2_with fail
  refine HF.out.mono ?_
  rintro e w1 ⟨rfl, hb⟩
  have HB1 := Lib.hid hb
  clear hb
  go_wp2_with fail
  refine (HN.out w1).mono ?_
  rintro e w2 ⟨pa, D, rfl, hb, hd, hbel⟩
  have M1 := Lib.hid (show Mem w w2 [BoardA pa (m0 1)] from ((Mem.nil w).below HB1.out).new hbel hb hd)
  clear hb hd hbel
  go_wp2_with fail
  refine (HN.out w2).mono ?_
  rintro e w3 ⟨pb, D2, rfl, hb, hd, hbel⟩
  have M2 := Lib.hid (show Mem w w3 [BoardA pb (m0 1), BoardA pa (m0 1)] from M1.out.new hbel hb hd)
  clear hb hd hbel
  go_wp2_with fail
  refine (HN.out w3).mono ?_
  rintro e w4 ⟨pc, D3, rfl, hb, hd, hbel⟩
  have M3 := Lib.hid (show Mem w w4 [BoardA pc [(0, [])], BoardA pb [(0, [])], BoardA pa [(0, [])]] from M2.out.new hbel hb hd)
  clear hb hd hbel
  go_wp2_with fail
  go_loopw [38] (fun j wr => ∃ k : Nat, k ≤ n ∧ j = .int .i64 k ∧ Hid (∃ L, BOk [(0, L)] ∧ Mem w wr [BoardA pc [(0, L)], BoardA pb [(0, L)], BoardA pa [(0, L)]])) (fun j _ => n - (intOf j).toNat)
  case atStart => exact ⟨0, Nat.zero_le _, rfl, Lib.hid ⟨[], m0_ok 1, M3.out⟩⟩
  case round =>
    obtain ⟨k, hk, rfl, hS⟩ := hrel
    clear M1 M2 M3 HB1
    obtain ⟨L, hok, hmem⟩ := hS.out
    have ok := Lib.hid hok
    have M4 := Lib.hid hmem
    clear hok hmem hS
    by_cases hlt : k < n
    · obtain ⟨g, off, rfl, ⟨hx0, hx1, hx2, hx3, hx4⟩, hk0, hk1⟩ := (HA.out.below M4.out.bel).2 k (by rw [← HA.out.1]; exact hlt)
      generalize l[k]'(by rw [← HA.out.1]; exact hlt) = x at *
      obtain ⟨xk, xn, xi, xa, xe⟩ := x
      simp only at hx0 hx1 hx2 hx3 hx4 hk0 hk1
      obtain ⟨xr, L', hset⟩ := set_one L xi xa xe
      have HSET := Lib.hid hset
      have ok' := Lib.hid (bok_of ok.out hset)
      have M5 := Lib.hid (M4.out.block #[.int .u8 xk, .int .i64 xn, .int .i64 xi, .int .i64 xa, .int .i64 xe] 32)
      clear hset
      go_wp2_with fail
      refine (M5.out.call [BlockA wr.heap.size _ 32, BoardA pc [(0, L)], BoardA pb [(0, L)]] fun D h => bd_set' ok.out HSET.out h).mono ?_
      rintro e w5 ⟨As, ⟨rfl, rfl⟩, hm⟩
      have M6 := Lib.hid (show Mem w w5 [BlockA wr.heap.size #[.int .u8 xk, .int .i64 xn, .int .i64 xi, .int .i64 xa, .int .i64 xe] 32, BoardA pc [(0, L)], BoardA pb [(0, L)], BoardA pa [(0, L')]] from hm)
      clear hm
      have y2 := block_cell (i := 2) M6.out rfl
      have y3 := block_cell (i := 3) M6.out rfl
      have y4 := block_cell (i := 4) M6.out rfl
      go_wp2_with fail
      refine (M6.out.call [BlockA wr.heap.size _ 32, BoardA pc [(0, L)]] fun D h => bd_set' ok.out HSET.out h).mono ?_
      rintro e w6 ⟨As, ⟨rfl, rfl⟩, hm⟩
      have M7 := Lib.hid (show Mem w w6 [BlockA wr.heap.size #[.int .u8 xk, .int .i64 xn, .int .i64 xi, .int .i64 xa, .int .i64 xe] 32, BoardA pc [(0, L)], BoardA pb [(0, L')], BoardA pa [(0, L')]] from hm)
      clear hm
      have z2 := block_cell (i := 2) M7.out rfl
      have z3 := block_cell (i := 3) M7.out rfl
      have z4 := block_cell (i := 4) M7.out rfl
      go_wp2_with fail
      refine (M7.out.call [BlockA wr.heap.size _ 32] fun D h => bd_set' ok.out HSET.out h).mono ?_
      rintro e w7 ⟨As, ⟨rfl, rfl⟩, hm⟩
      have M8 := Lib.hid ((show Mem w w7 ([] ++ BlockA wr.heap.size #[.int .u8 xk, .int .i64 xn, .int .i64 xi, .int .i64 xa, .int .i64 xe] 32 :: [BoardA pc [(0, L')], BoardA pb [(0, L')], BoardA pa [(0, L')]]) from hm).drop [])
      clear hm
      go_wp2_with fail
      go_roundw
      case rel => exact ⟨k + 1, by omega, by go_num, Lib.hid ⟨L', ok'.out, M8.out⟩⟩
      case measure => simp [intOf]; omega
    · have L0 := one_ok ok.out
      have HL0 := Lib.hid L0
      clear L0
      have M5 := Lib.hid (show Mem w wr [BoardA pc [(0, L)], BoardA pb [(0, L)], BoardA pa [(0, L)], IntsA none 0 [], IntsA none 0 []] from by
        have h1 := M4.out.new (Below.refl _ _) (As := [IntsA none 0 []]) (D' := []) (all_one ⟨rfl, Row.nil _ _ _⟩) (by simp)
        have h2 := h1.new (Below.refl _ _) (As := [IntsA none 0 []]) (D' := []) (all_one ⟨rfl, Row.nil _ _ _⟩) (by simp)
        have h3 := Mem.swap [IntsA none 0 []] h2
        have h4 := Mem.swap [IntsA none 0 [], BoardA pc [(0, L)]] h3
        have h5 := Mem.swap [IntsA none 0 [], BoardA pc [(0, L)], BoardA pb [(0, L)]] h4
        have h6 := Mem.swap [] h5
        have h7 := Mem.swap [BoardA pc [(0, L)]] h6
        exact Mem.swap [BoardA pc [(0, L)], BoardA pb [(0, L)]] h7)
      have hL0 : Hid (Drain 0 L [] L) := Lib.hid (.done fun t ht => by
        have hm : t ∈ L := by cases L with | nil => cases ht | cons x r => simp at ht; subst ht; exact List.mem_cons_self ..
        have := (HL0.out.rng t hm).1; omega)
      have ok0 := ok
      clear ok
      generalize L = L0 at *
      go_wp2_with fail
      go_loopw [11, 12, 13, 75] (fun ov pv tv iv wr => ∃ (k : Nat) (T : Int), k ≤ m ∧ iv = .int .i64 k ∧ tv = .int .i64 T ∧ 0 ≤ T ∧ T ≤ 250 ∧ Hid (∃ a1 c1 a2 c2 o L, ov = .slice a1 o.length c1 ∧ pv = .slice a2 o.length c2 ∧ Drain T L0 o L ∧ Mem w wr [BoardA pc [(0, L0)], BoardA pb [(T, L)], BoardA pa [(T, L)], IntsA a1 c1 o, IntsA a2 c2 o])) (fun _ _ _ iv _ => m - (intOf iv).toNat)
      case atStart => exact ⟨0, 0, Nat.zero_le _, rfl, rfl, by omega, by omega, Lib.hid ⟨none, 0, none, 0, [], L0, rfl, rfl, hL0.out, M5.out⟩⟩
      case round =>
        obtain ⟨k2, T, hk2, rfl, rfl, hT0, hT1, hS⟩ := hrel
        clear M5 M4 hL0
        obtain ⟨a1, c1, a2, c2, o, L, rfl, rfl, hdr, hmem⟩ := hS.out
        obtain ⟨hol, hlok⟩ := drain_bd HL0.out hdr hT0 (by omega)
        have hol : o.length ≤ 1000000 := by omega
        have HDR := Lib.hid hdr
        have HLOK := Lib.hid hlok
        have M6 := Lib.hid hmem
        clear hdr hmem hS hlok
        have HSKF := Lib.hid fun L (hd : Drain T L0 o L) => skip_one 0 T L0 L o hT0 (by omega) (by omega) (by rw [Int.zero_add]; exact hd)
        have HSK := Lib.hid (HSKF.out L HDR.out)
        rw [Int.zero_add] at HSK
        by_cases hlt : k2 < m
        · obtain ⟨g, off, rfl, hx0, hk0, hk1⟩ := (HBy.out.below M6.out.bel).2 k2 (by rw [← HBy.out.1]; exact hlt)
          generalize cuts[k2]'(by rw [← HBy.out.1]; exact hlt) = x at *
          have hq0 : 0 ≤ x % 16 := by omega
          have hq1 : x % 16 ≤ 15 := by omega
          obtain ⟨y, L', hdk, _⟩ := Drain.total (T + x % 16) _ L (Nat.le_refl _)
          have okT := Lib.hid (bok_one hT0 (by omega) HLOK.out)
          have HSA := Lib.hid (skip_one T (x % 16) L L' y hq0 (by omega) (by omega) hdk)
          have HDK := Lib.hid hdk
          have hyl := drain_len hdk
          have hyl2 := leftT_le (lo := T) (clk := T + x % 16) (l := L) 15 (by omega) (fun t ht => (HLOK.out.rng t ht).1)
          have hyl3 := HLOK.out.len
          have hyb : y.length ≤ 1000 := by omega
          clear hdk hyl hyl2 hyl3
          go_wp2_with fail
          generalize x % 16 = q at *
          refine (M6.out.call [BoardA pc [(0, L0)], BoardA pb [(T, L)]] fun D h => bd_skip' okT.out HSA.out h).mono ?_
          rintro e w5 ⟨As, ⟨ax, cx, rfl, rfl⟩, hm7⟩
          have M7 := Lib.hid (show Mem w w5 [BoardA pc [(0, L0)], BoardA pb [(T, L)], BoardA pa [(T + q, L')], IntsA ax cx y, IntsA a1 c1 o, IntsA a2 c2 o] from hm7)
          clear hm7
          by_cases hbig : 250 < T + q
          · have hbb : decide (250 < T + q) = true := decide_eq_true hbig
            have MD := Lib.hid (show Mem w w5 [BoardA pc [(0, L0)], BoardA pb [(T, L)], BoardA pa [(T + q, L')], IntsA a1 c1 o, IntsA a2 c2 o] from M7.out.drop [BoardA pc [(0, L0)], BoardA pb [(T, L)], BoardA pa [(T + q, L')]] (r := [IntsA a1 c1 o, IntsA a2 c2 o]))
            go_wp2_with fail
            refine (MD.out.call [] fun D h => bd_skip' ok0.out HSK.out h).mono ?_
            rintro e w9 ⟨As, ⟨az, cz, rfl, rfl⟩, hm⟩
            have MF := Lib.hid (show Mem w w9 (BoardA pc [(T, L)] :: IntsA az cz o :: [BoardA pb [(T, L)], BoardA pa [(T + q, L')], IntsA a1 c1 o, IntsA a2 c2 o]) from hm)
            clear hm
            obtain ⟨E1, hE1⟩ := MF.out.get [BoardA pc [(T, L)], IntsA az cz o, BoardA pb [(T, L)], BoardA pa [(T + q, L')]] (r := [IntsA a2 c2 o])
            obtain ⟨E2, hE2⟩ := MF.out.get [BoardA pc [(T, L)], IntsA az cz o, BoardA pb [(T, L)], BoardA pa [(T + q, L')], IntsA a1 c1 o] (r := [])
            obtain ⟨E3, hE3⟩ := MF.out.get [BoardA pc [(T, L)]] (r := [BoardA pb [(T, L)], BoardA pa [(T + q, L')], IntsA a1 c1 o, IntsA a2 c2 o])
            have HS1 := Lib.hid (same_any a1 a2 o.length c1 o.length c2 o o w9 hol rfl rfl (IntsAt.of_row hE1.2) (IntsAt.of_row hE2.2))
            have HI1 := Lib.hid (IntsAt.of_row hE1.2)
            have HI3 := Lib.hid (IntsAt.of_row hE3.2)
            clear hE1 hE2 hE3
            go_wp2_with fail
            refine HS1.out.mono ?_
            rintro e w10 ⟨he, q9, hw⟩
            obtain rfl : e = .returned (.bool true) := by rw [he]; simp
            have hb10 : Below w9.heap.size w9 w10 := by rw [hw]; exact ⟨rfl, rfl, rfl, Nat.le_refl _, fun _ _ => rfl⟩
            have HS2 := Lib.hid (same_any az a1 o.length cz o.length c1 o o w10 hol rfl rfl (HI3.out.below hb10) (HI1.out.below hb10))
            have M10 := Lib.hid (MF.out.below hb10)
            clear he hw hb10
            go_wp2_with fail
            refine HS2.out.mono ?_
            rintro e w11 ⟨he, q2, hw⟩
            obtain rfl : e = .returned (.bool true) := by rw [he]; simp
            have hb11 : Below w10.heap.size w10 w11 := by rw [hw]; exact ⟨rfl, rfl, rfl, Nat.le_refl _, fun _ _ => rfl⟩
            have M11 := Lib.hid (M10.out.below hb11)
            clear he hw hb11
            obtain ⟨E4, hE4⟩ := M11.out.get [] (r := [IntsA az cz o, BoardA pb [(T, L)], BoardA pa [(T + q, L')], IntsA a1 c1 o, IntsA a2 c2 o])
            go_wp2_with fail
            refine (bd_clock' (x := T) (by simp [mClock, nodeAt]) hE4).mono ?_
            rintro e _ ⟨rfl, rfl⟩
            have HB := Lib.hid M11.out.bel
            clear hE4
            go_wp2_with fail
            go_ret
            exact ⟨rfl, HB.out⟩
          · have hbb : decide (250 < T + q) = false := decide_eq_false hbig
            obtain ⟨E, hE⟩ := M7.out.get [BoardA pc [(0, L0)], BoardA pb [(T, L)], BoardA pa [(T + q, L')]]
            obtain ⟨a2', c2', w6, hrun, hm8⟩ := M7.out.app [BoardA pc [(0, L0)], BoardA pb [(T, L)], BoardA pa [(T + q, L')], IntsA ax cx y, IntsA a1 c1 o] (r := []) hE (by omega)
            have HRUN := Lib.hid hrun
            have M8 := Lib.hid ((show Mem w w6 ([BoardA pc [(0, L0)], BoardA pb [(T, L)], BoardA pa [(T + q, L')]] ++ IntsA ax cx y :: [IntsA a1 c1 o, IntsA a2' c2' (o ++ y)]) from hm8).drop [BoardA pc [(0, L0)], BoardA pb [(T, L)], BoardA pa [(T + q, L')]])
            clear hrun hm8 hE
            go_wp2_with ((at_builtin; refine wpList_appendR _ rfl (.tmp 96) (.tmp 97) 27 27 rfl (.slice a2 o.length c2) (.slice ax y.length cx) rfl rfl HRUN.out ?_))
            have HS3 : Hid (∃ a1' c1' o1 L1, Value.slice a1 o.length c1 = .slice a1' (o ++ o1).length c1' ∧ Drain (T + ((0 : Nat) : Int)) L o1 L1 ∧ Mem w w6 [BoardA pc [(0, L0)], BoardA pb [(T + ((0 : Nat) : Int), L1)], BoardA pa [(T + q, L')], IntsA a1' c1' (o ++ o1), IntsA a2' c2' (o ++ y)]) := Lib.hid ⟨a1, c1, [], L, by rw [List.append_nil], .done fun t ht => by
                have hm : t ∈ L := by cases L with | nil => cases ht | cons x r => simp at ht; subst ht; exact List.mem_cons_self ..
                have := (HLOK.out.rng t hm).1; simp; omega, by rw [List.append_nil, Int.natCast_zero, Int.add_zero]; exact M8.out⟩
            clear M8 M7 M6 HRUN okT HSA HSK
            go_loopw [11, 100] (fun ov jv wr => ∃ j : Nat, (j : Int) ≤ q ∧ jv = .int .i64 j ∧ Hid (∃ a1 c1 o1 L1, ov = .slice a1 (o ++ o1).length c1 ∧ Drain (T + (j : Int)) L o1 L1 ∧ Mem w wr [BoardA pc [(0, L0)], BoardA pb [(T + (j : Int), L1)], BoardA pa [(T + q, L')], IntsA a1 c1 (o ++ o1), IntsA a2' c2' (o ++ y)])) (fun _ jv _ => (q - intOf jv).toNat)
            case atStart => exact ⟨0, by omega, rfl, HS3⟩
            case round =>
              obtain ⟨j, hj, rfl, hS⟩ := hrel
              clear HS3
              obtain ⟨a1, c1, o1, L1, rfl, hdr, hmem⟩ := hS.out
              have HD1 := Lib.hid hdr
              have M9 := Lib.hid hmem
              clear hdr hmem hS
              by_cases hlj : (j : Int) < q
              · have okb := Lib.hid (bok_one (T := T + (j : Int)) (by omega) (by omega) (HD1.out.after (lo := T) (HLOK.out.mono (by omega) (by omega)) (by omega)))
                obtain ⟨y1, L2, hd2, _⟩ := Drain.total (T + (j : Int) + 1) _ L1 (Nat.le_refl _)
                have HSA := Lib.hid (skip_one (T + (j : Int)) 1 L1 L2 y1 (by omega) (by omega) (by omega) hd2)
                have HD2 := Lib.hid (HD1.out.trans (by omega) hd2)
                have hl1 := drain_len HD2.out
                have hl2 := leftT_le (lo := T) (clk := T + (j : Int) + 1) (l := L) 16 (by omega) (fun t ht => (HLOK.out.rng t ht).1)
                have hl3 := HLOK.out.len
                have hl4 : o1.length + y1.length ≤ 2000 := by rw [List.length_append] at hl1; omega
                clear hd2 hl1 hl2 hl3
                go_wp2_with fail
                refine (M9.out.call [BoardA pc [(0, L0)]] fun D h => bd_tick' okb.out HSA.out h).mono ?_
                rintro e w7 ⟨As, ⟨at', ct, rfl, rfl⟩, hm10⟩
                have M10 := Lib.hid (show Mem w w7 [BoardA pc [(0, L0)], BoardA pb [(T + (j : Int) + 1, L2)], IntsA at' ct y1, BoardA pa [(T + q, L')], IntsA a1 c1 (o ++ o1), IntsA a2' c2' (o ++ y)] from hm10)
                clear hm10
                obtain ⟨E, hE⟩ := M10.out.get [BoardA pc [(0, L0)], BoardA pb [(T + (j : Int) + 1, L2)]] (r := [BoardA pa [(T + q, L')], IntsA a1 c1 (o ++ o1), IntsA a2' c2' (o ++ y)])
                obtain ⟨a1', c1', w8, hrun, hm11⟩ := M10.out.app [BoardA pc [(0, L0)], BoardA pb [(T + (j : Int) + 1, L2)], IntsA at' ct y1, BoardA pa [(T + q, L')]] (r := [IntsA a2' c2' (o ++ y)]) hE (by rw [List.length_append]; omega)
                have HRUN := Lib.hid hrun
                have M11 := Lib.hid (show Mem w w8 [BoardA pc [(0, L0)], BoardA pb [(T + (j : Int) + 1, L2)], BoardA pa [(T + q, L')], IntsA a1' c1' (o ++ o1 ++ y1), IntsA a2' c2' (o ++ y)] from (show Mem w w8 ([BoardA pc [(0, L0)], BoardA pb [(T + (j : Int) + 1, L2)]] ++ IntsA at' ct y1 :: [BoardA pa [(T + q, L')], IntsA a1' c1' (o ++ o1 ++ y1), IntsA a2' c2' (o ++ y)]) from hm11).drop [BoardA pc [(0, L0)], BoardA pb [(T + (j : Int) + 1, L2)]] (r := [BoardA pa [(T + q, L')], IntsA a1' c1' (o ++ o1 ++ y1), IntsA a2' c2' (o ++ y)]))
                clear hrun hm11 hE
                generalize hgl : (o ++ o1).length = gl at *
                have HGL := Lib.hid hgl
                clear hgl
                go_wp2_with ((at_builtin; refine wpList_appendR _ rfl (.tmp 109) (.tmp 110) 27 27 rfl (.slice a1 gl c1) (.slice at' y1.length ct) rfl rfl HRUN.out ?_))
                go_roundw
                case rel => exact ⟨j + 1, by omega, by go_num, Lib.hid ⟨a1', c1', o1 ++ y1, L2, by rw [← List.append_assoc, List.length_append, HGL.out], by rw [show T + ((j + 1 : Nat) : Int) = T + (j : Int) + 1 by omega]; exact HD2.out, by rw [← List.append_assoc, show T + ((j + 1 : Nat) : Int) = T + (j : Int) + 1 by omega]; exact M11.out⟩⟩
                case measure => simp [intOf]; omega
              · have hjq : T + (j : Int) = T + q := by omega
                have HJ := Lib.hid hjq
                clear hjq
                rw [HJ.out] at HD1 M9
                obtain ⟨e1, e2⟩ := HD1.out.det HDK.out
                subst e1 e2
                have HDT := Lib.hid (HDR.out.trans (by omega) HDK.out)
                generalize hgl : (o ++ o1).length = gl at *
                have HGL := Lib.hid hgl
                clear hgl
                go_wp2_with fail
                go_roundw
                case rel => exact ⟨k2 + 1, T + q, by omega, by go_num, rfl, by omega, by omega, Lib.hid ⟨_, _, _, _, o ++ o1, L1, by rw [HGL.out], by rw [List.length_append], HDT.out, M9.out⟩⟩
                case measure => simp [intOf]; omega
        · obtain rfl : k2 = m := by omega
          go_wp2_with fail
          refine (M6.out.call [] fun D h => bd_skip' ok0.out HSK.out h).mono ?_
          rintro e w9 ⟨As, ⟨az, cz, rfl, rfl⟩, hm⟩
          have MF := Lib.hid (show Mem w w9 (BoardA pc [(T, L)] :: IntsA az cz o :: [BoardA pb [(T, L)], BoardA pa [(T, L)], IntsA a1 c1 o, IntsA a2 c2 o]) from hm)
          clear hm
          obtain ⟨E1, hE1⟩ := MF.out.get [BoardA pc [(T, L)], IntsA az cz o, BoardA pb [(T, L)], BoardA pa [(T, L)]] (r := [IntsA a2 c2 o])
          obtain ⟨E2, hE2⟩ := MF.out.get [BoardA pc [(T, L)], IntsA az cz o, BoardA pb [(T, L)], BoardA pa [(T, L)], IntsA a1 c1 o] (r := [])
          obtain ⟨E3, hE3⟩ := MF.out.get [BoardA pc [(T, L)]] (r := [BoardA pb [(T, L)], BoardA pa [(T, L)], IntsA a1 c1 o, IntsA a2 c2 o])
          have HS1 := Lib.hid (same_any a1 a2 o.length c1 o.length c2 o o w9 hol rfl rfl (IntsAt.of_row hE1.2) (IntsAt.of_row hE2.2))
          have HI1 := Lib.hid (IntsAt.of_row hE1.2)
          have HI3 := Lib.hid (IntsAt.of_row hE3.2)
          clear hE1 hE2 hE3
          go_wp2_with fail
          refine HS1.out.mono ?_
          rintro e w10 ⟨he, q9, hw⟩
          obtain rfl : e = .returned (.bool true) := by rw [he]; simp
          have hb10 : Below w9.heap.size w9 w10 := by rw [hw]; exact ⟨rfl, rfl, rfl, Nat.le_refl _, fun _ _ => rfl⟩
          have HS2 := Lib.hid (same_any az a1 o.length cz o.length c1 o o w10 hol rfl rfl (HI3.out.below hb10) (HI1.out.below hb10))
          have M10 := Lib.hid (MF.out.below hb10)
          clear he hw hb10
          go_wp2_with fail
          refine HS2.out.mono ?_
          rintro e w11 ⟨he, q2, hw⟩
          obtain rfl : e = .returned (.bool true) := by rw [he]; simp
          have hb11 : Below w10.heap.size w10 w11 := by rw [hw]; exact ⟨rfl, rfl, rfl, Nat.le_refl _, fun _ _ => rfl⟩
          have M11 := Lib.hid (M10.out.below hb11)
          clear he hw hb11
          obtain ⟨E4, hE4⟩ := M11.out.get [] (r := [IntsA az cz o, BoardA pb [(T, L)], BoardA pa [(T, L)], IntsA a1 c1 o, IntsA a2 c2 o])
          go_wp2_with fail
          refine (bd_clock' (x := T) (by simp [mClock, nodeAt]) hE4).mono ?_
          rintro e _ ⟨rfl, rfl⟩
          have HB := Lib.hid M11.out.bel
          clear hE4
          go_wp2_with fail
          go_ret
          exact ⟨rfl, HB.out⟩
end Go.Proofs.Ytcolaafgjlaikaa
