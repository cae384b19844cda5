/- Lines that are copied. -/
import Derived.Test.YtmifgnibalbgjaaGreatZLX
namespace Go.Proofs.YtmifgnibalbgjaaGreat
open Go.RowKit
theorem infoLn : (Tryz.prog.info? 66).map (fun i => (i.zero, i.size, i.bytes)) = some (some (.agg #[.string ⟨#[]⟩, .slice none 0 0, .slice none 0 0]), 3, 64) := by kernel_rfl
/-- lines that can be read. -/
def LinesAt (w : World) (a : Option Addr) (n : Nat) (L : List Li) : Prop := n = L.length ∧ ∀ j (h : j < L.length), ∃ g o x, a = some ⟨g, o, none⟩ ∧ lnAt w g (o + j * 3) x ∧ x.key = L[j].key ∧ HdsAt w x.hs.a x.hs.n L[j].hs ∧ HdsAt w x.qs.a x.qs.n L[j].qs ∧ x.hs.n ≤ maxLen ∧ x.qs.n ≤ maxLen
theorem LinesAt.below {w w' : World} {a : Option Addr} {n : Nat} {L : List Li} (h : LinesAt w a n L) (b : Below w.heap.size w w') : LinesAt w' a n L :=
  ⟨h.1, fun j hj => let ⟨g, o, x, e, h1, h2, h3, h4, h5⟩ := h.2 j hj; ⟨g, o, x, e, h1.below b, h2, h3.below b, h4.below b, h5⟩⟩
/-- an answer that is new lines. -/
def NewL (w : World) (L : List Li) (e : Ending) (w' : World) : Prop := ∃ b d X, e = .returned (.slice b L.length d) ∧ X.map (·.key) = L.map (·.key) ∧ Mem w [] w' (RowA 66 3 b L.length d (lnFlat X) :: rowsOf X L)
set_option maxRecDepth 100000 in
set_option maxHeartbeats 8000000 in
theorem copied_any (a : Option Addr) (n c : Nat) (L : List Li) (w : World) (h : LinesAt w a n L) (hb : Sm 1000 L) : Calls Tryz.prog 99 #[.slice a n c] w (NewL w L) := by
  obtain rfl := h.1
  have HL := Lib.hid h
  have HSM := Lib.hid hb
  have hn4 : L.length ≤ 1000 := hb.1
  have M0 := Lib.hid ((Mem.nil w).new (Below.refl _ _) (As := [RowA 66 3 none 0 0 (lnFlat [])]) (all_one ⟨rfl, Row.nil _ _ _⟩) (by simp [blkOf]))
  clear h hb
  go_enter Tryz.func99, Tryz.ntmps99
  go_wp2_with fail
  go_loopw [3, 8] (fun v jv wr => ∃ i : Nat, i ≤ L.length ∧ jv = .int .i64 (i : Nat) ∧ Hid (∃ b d X, v = .slice b i d ∧ X.map (·.key) = (L.take i).map (·.key) ∧ Mem w [] wr (RowA 66 3 b i d (lnFlat X) :: rowsOf X (L.take i)))) (fun _ jv _ => L.length - (intOf jv).toNat)
  case atStart => exact ⟨0, Nat.zero_le _, rfl, Lib.hid ⟨none, 0, [], rfl, by simp, by simpa [rowsOf] using M0.out⟩⟩
  case round =>
    obtain ⟨w1, rfl⟩ : ∃ w1, w1 = wr := ⟨_, rfl⟩
    obtain ⟨i, hi, rfl, hS⟩ := hrel
    clear M0
    obtain ⟨b, d, X, rfl, hk, hm⟩ := hS.out
    clear hS
    by_cases hlt : i < L.length
    · obtain ⟨g, o, x, rfl, hx, hxk, hxh, hxq, hx1, hx2⟩ := HL.out.2 i hlt
      obtain ⟨k0, k1, k2⟩ := hx.below hm.bel
      have hsm := HSM.out.2 _ (List.getElem_mem hlt)
      have HH := Lib.hid hxh
      have HQ := Lib.hid hxq
      have htk : L.take (i + 1) = L.take i ++ [L[i]] := List.take_succ_eq_append_getElem hlt
      have hxl : X.length = (L.take i).length := by have := congrArg List.length hk; simpa using this
      have HFIN : Hid (∀ W b' d' (s1 s2 : Sl), Mem w [] W (RowH s2 L[i].qs :: RowH s1 L[i].hs :: RowA 66 3 b' (i + 1) d' (lnFlat X ++ [.string x.key, slv s1, slv s2]) :: rowsOf X (L.take i)) → ∃ b d X, Value.slice b' (i + 1) d' = .slice b (i + 1) d ∧ X.map (·.key) = (L.take (i + 1)).map (·.key) ∧ Mem w [] W (RowA 66 3 b (i + 1) d (lnFlat X) :: rowsOf X (L.take (i + 1)))) := Lib.hid fun W b' d' s1 s2 hW => by
        refine ⟨b', d', X ++ [⟨x.key, s1, s2⟩], rfl, ?_, ?_⟩
        · rw [htk, List.map_append, List.map_append, hk, List.map_cons, List.map_cons, hxk]; rfl
        · rw [htk, rowsOf_append _ _ _ _ hxl, lnFlat_append]
          exact hW.perm (by
            show (RowH s2 L[i].qs :: RowH s1 L[i].hs :: RowA 66 3 b' (i + 1) d' (lnFlat X ++ [.string x.key, slv s1, slv s2]) :: rowsOf X (L.take i)).Perm (RowA 66 3 b' (i + 1) d' (lnFlat X ++ lnFlat [⟨x.key, s1, s2⟩]) :: (rowsOf X (L.take i) ++ [RowH s1 L[i].hs, RowH s2 L[i].qs]))
            rw [show lnFlat [⟨x.key, s1, s2⟩] = [.string x.key, slv s1, slv s2] from rfl]
            exact perm_ct fun x => by simp only [cnt_cons, cnt_append, cnt_nil]; omega)
      clear hk htk hxl hxk hx hxh hxq
      generalize L[i].hs = H at *
      generalize L[i].qs = Q at *
      obtain ⟨xk, ⟨ha, hn, hc⟩, ⟨qa, qn, qc⟩⟩ := x
      simp only at k0 k1 k2 HH HQ hx1 hx2 HFIN
      have HNH := Lib.hid (HH.out.1)
      have HNQ := Lib.hid (HQ.out.1)
      have HSZ := Lib.hid hsm
      have M1 := Lib.hid (hm.block #[.string xk, .slice ha hn hc, .slice qa qn qc] 66)
      clear hm hsm hx1 hx2
      have HC1 := Lib.hid fun W l (_ : Stables l) (hW : Mem w [] W l) => (clone_any ha hn hc H W (HH.out.below hW.bel) (by have := HNH.out; have := HSZ.out; omega)).mono fun e W' (h : ∃ s, e = .returned (slv s) ∧ Row W' 32 2 s.a s.n s.c (hdFlat H) ∧ Below W.heap.size W W' ∧ ∀ x ∈ blkOf s.a, W.heap.size ≤ x) => (by
        obtain ⟨s, he, hr, hb, hf⟩ := h
        exact ⟨s, he, hW.new hb (As := [RowH s H]) (all_one ⟨rfl, hr⟩) hf⟩ : ∃ s : Sl, e = .returned (slv s) ∧ Mem w [] W' (RowH s H :: l))
      have HC2 := Lib.hid fun W l (_ : Stables l) (hW : Mem w [] W l) => (clone_any qa qn qc Q W (HQ.out.below hW.bel) (by have := HNQ.out; have := HSZ.out; omega)).mono fun e W' (h : ∃ s, e = .returned (slv s) ∧ Row W' 32 2 s.a s.n s.c (hdFlat Q) ∧ Below W.heap.size W W' ∧ ∀ x ∈ blkOf s.a, W.heap.size ≤ x) => (by
        obtain ⟨s, he, hr, hb, hf⟩ := h
        exact ⟨s, he, hW.new hb (As := [RowH s Q]) (all_one ⟨rfl, hr⟩) hf⟩ : ∃ s : Sl, e = .returned (slv s) ∧ Mem w [] W' (RowH s Q :: l))
      go_wp2_with fail
      obtain ⟨w5, hw5⟩ : ∃ w5, w5 = w1.alloc (.cells #[.string xk, .slice ha hn hc, .slice qa qn qc] 66) := ⟨_, rfl⟩
      rw [← hw5] at M1 ⊢
      clear hw5 k0 k1 k2
      generalize w1.heap.size = b5 at *
      have m0 := M1.out.below (bel_drew w5)
      have hB5 := Mem.blk M1.out (g := b5) (cur := #[.string xk, .slice ha hn hc, .slice qa qn qc]) (T := 66) (by simp)
      obtain ⟨z0, -⟩ := cell_of_heap (i := 0) (v := .string xk) hB5 rfl
      obtain ⟨z1, -⟩ := cell_of_heap (i := 1) (v := .slice ha hn hc) hB5 rfl
      obtain ⟨z2, -⟩ := cell_of_heap (i := 2) (v := .slice qa qn qc) hB5 rfl
      clear hB5
      have K8 : Hid (∀ W l, Mem w [] W l → BlockA b5 #[.string xk, .slice ha hn hc, .slice qa qn qc] 66 ∈ l → W.cell? ⟨b5, 0, none⟩ = some (.string xk) ∧ W.cell? ⟨b5, 1, none⟩ = some (.slice ha hn hc) ∧ W.cell? ⟨b5, 2, none⟩ = some (.slice qa qn qc)) := Lib.hid fun W l h h7 => ⟨(cell_of_heap (Mem.blk h h7) rfl).1, (cell_of_heap (Mem.blk h h7) rfl).1, (cell_of_heap (Mem.blk h h7) rfl).1⟩
      go_region_held3 (fun W => W.cell? ⟨b5, 0, none⟩ = some (.string xk) ∧ W.cell? ⟨b5, 1, none⟩ = some (.slice ha hn hc) ∧ W.cell? ⟨b5, 2, none⟩ = some (.slice qa qn qc)) (first | exact K8.out _ _ (by assumption) (by simp) | exact K8.out _ _ (Mem.below (by assumption) (bel_new _ _)) (by simp))
        (first
          | ((go_at_call_of 79 (Value.slice ha hn hc); refine (HC1.out _ _ inferInstance (by assumption)).mono ?_; rintro e w2 ⟨⟨h1a, h1n, h1c⟩, rfl, m1⟩))
          | ((go_at_call_of 79 (Value.slice qa qn qc); refine (HC2.out _ _ inferInstance (by assumption)).mono ?_; rintro e w3 ⟨⟨q1a, q1n, q1c⟩, rfl, m3⟩))
          | ((obtain ⟨b4, d4, w4, hrun4, mB⟩ := Mem.app1 (P := Tryz.prog) (t := 51) (ty := 51) [RowH ⟨q1a, q1n, q1c⟩ Q, RowH ⟨h1a, h1n, h1c⟩ H, BlockA b5 #[.string xk, .slice ha hn hc, .slice qa qn qc] 66] (r := rowsOf X (L.take i)) Tryz.underlying51 infoLn (by rfl) (by decide) m3 [.string xk, .slice h1a h1n h1c, .slice q1a q1n q1c] (by rfl) (by simp [Value.oneCell']) (by omega) (by decide); have mB := Mem.perm mB (l' := RowH ⟨q1a, q1n, q1c⟩ Q :: RowH ⟨h1a, h1n, h1c⟩ H :: BlockA b5 #[.string xk, .slice ha hn hc, .slice qa qn qc] 66 :: RowA 66 3 b4 (i + 1) d4 (lnFlat X ++ [.string xk, .slice h1a h1n h1c, .slice q1a q1n q1c]) :: rowsOf X (L.take i)) (perm_ct fun x => by simp only [cnt_cons, cnt_append, cnt_nil]; omega); have HR4 := Lib.hid hrun4; clear hrun4; refine step_appendR rfl (.tmp 12) (.tmp 22) 51 51 rfl (.slice b i d) (.slice (some ⟨w3.heap.size, 0, none⟩) 1 1) (by simp [Act.eval]) (by simp [Act.eval]) HR4.out ?_))
          | ((obtain ⟨b4, d4, w4, hrun4, mB⟩ := Mem.app1 (P := Tryz.prog) (t := 51) (ty := 51) [RowH ⟨h1a, h1n, h1c⟩ H, RowH ⟨q1a, q1n, q1c⟩ Q, BlockA b5 #[.string xk, .slice ha hn hc, .slice qa qn qc] 66] (r := rowsOf X (L.take i)) Tryz.underlying51 infoLn (by rfl) (by decide) m1 [.string xk, .slice h1a h1n h1c, .slice q1a q1n q1c] (by rfl) (by simp [Value.oneCell']) (by omega) (by decide); have mB := Mem.perm mB (l' := RowH ⟨q1a, q1n, q1c⟩ Q :: RowH ⟨h1a, h1n, h1c⟩ H :: BlockA b5 #[.string xk, .slice ha hn hc, .slice qa qn qc] 66 :: RowA 66 3 b4 (i + 1) d4 (lnFlat X ++ [.string xk, .slice h1a h1n h1c, .slice q1a q1n q1c]) :: rowsOf X (L.take i)) (perm_ct fun x => by simp only [cnt_cons, cnt_append, cnt_nil]; omega); have HR4 := Lib.hid hrun4; clear hrun4; refine step_appendR rfl (.tmp 12) (.tmp 22) 51 51 rfl (.slice b i d) (.slice (some ⟨w2.heap.size, 0, none⟩) 1 1) (by simp [Act.eval, Act.put]) (by simp [Act.eval, Act.put]) HR4.out ?_))
          | (fail "none"))
      all_goals
        have HF := Lib.hid (HFIN.out w4 b4 d4 ⟨h1a, h1n, h1c⟩ ⟨q1a, q1n, q1c⟩ (Mem.drop [RowH ⟨q1a, q1n, q1c⟩ Q, RowH ⟨h1a, h1n, h1c⟩ H] (r := RowA 66 3 b4 (i + 1) d4 (lnFlat X ++ [.string xk, .slice h1a h1n h1c, .slice q1a q1n q1c]) :: rowsOf X (L.take i)) mB))
        clear m0 M1 K8 mB m1 m3
        go_wp2_with fail
        go_roundw
        case rel => exact ⟨i + 1, by omega, by go_num, HF⟩
        case measure => simp [intOf]; omega
    · obtain rfl : i = L.length := by omega
      rw [List.take_length] at hk hm
      have HF := Lib.hid (And.intro hk hm)
      clear hk hm
      go_wp2_with fail
      go_ret
      exact ⟨b, d, X, rfl, HF.out.1, HF.out.2⟩
end Go.Proofs.YtmifgnibalbgjaaGreat
/- Lines; held. -/
namespace Go.Proofs.YtmifgnibalbgjaaGreat
open Go.RowKit
theorem LinesAt.tab {w : World} {p : Nat} {L : List Li} {D : List Nat} (h : TabA p L w D) : ∃ la n c, w.cell? ⟨p, 0, none⟩ = some (.slice la n c) ∧ LinesAt w la n L := by
  obtain ⟨la, n, c, X, hk, hm⟩ := Mem.table (Mem.start h)
  have hl := lnrow_len (Mem.rowAt [BlockA p #[.slice la n c] 144] (r := rowsOf X L ++ []) hm)
  obtain ⟨hk1, hk2⟩ := keys_at hk
  obtain ⟨hc, -⟩ := Mem.cellAt (i := 0) (v := .slice la n c) [] (r := RowA 66 3 la n c (lnFlat X) :: (rowsOf X L ++ [])) hm rfl
  refine ⟨la, n, c, hc, by omega, fun j hj => ?_⟩
  obtain ⟨g, e, h1⟩ := lnAt_row (Mem.rowAt [BlockA p #[.slice la n c] 144] (r := rowsOf X L ++ []) hm) j (by omega)
  obtain ⟨r1, r2⟩ := rowsOf_read [BlockA p #[.slice la n c] 144, RowA 66 3 la n c (lnFlat X)] hm (i := j) (by omega) hj
  exact ⟨g, 0, X[j]'(by omega), e, by rw [Nat.zero_add]; exact h1, hk2 j (by omega) hj, HdsAt.row r1, HdsAt.row r2, row_max r1, row_max r2⟩
set_option maxRecDepth 100000 in
set_option maxHeartbeats 800000 in
theorem tab_lines (p : Nat) (L : List Li) (w : World) (D : List Nat) (h : TabA p L w D) (hb : Sm 1000 L) : Calls Tryz.prog 48 #[.pointer (some ⟨p, 0, none⟩)] w (NewL w L) := by
  obtain ⟨la, n, c, hc, hl⟩ := LinesAt.tab h
  have HC := Lib.hid (copied_any la n c L w hl hb)
  clear h hl
  go_enter Tryz.func48, Tryz.ntmps48
  go_wp2_with fail
  refine HC.out.mono ?_
  rintro e w1 ⟨b, d, X, rfl, hk, hm⟩
  have HF := Lib.hid (And.intro hk hm)
  clear hk hm
  go_wp2_with fail
  go_ret
  exact ⟨b, d, X, rfl, HF.out.1, HF.out.2⟩
set_option maxRecDepth 100000 in
set_option maxHeartbeats 800000 in
theorem none_lines (w : World) : Calls Tryz.prog 48 #[.pointer none] w fun e w' => e = .returned (.slice none 0 0) ∧ w = w' := by
  go_enter Tryz.func48, Tryz.ntmps48
  go_wp2_with fail
  go_ret
  exact ⟨rfl, rfl⟩
set_option maxRecDepth 100000 in
set_option maxHeartbeats 800000 in
theorem none_ask (o : Int) (k : ByteArray) (m : Int) (w : World) : Calls Tryz.prog 88 #[.pointer none, .int .i64 o, .string k, .int .i64 m] w fun e w' => e = .returned (.int .i64 1) ∧ w = w' := by
  go_enter Tryz.func88, Tryz.ntmps88
  go_wp2_with fail
  go_ret
  exact ⟨rfl, rfl⟩
/-- may holders be? -/
def heldF (n : Nat) : Int → List Hd → Bool
  | _, [] => true
  | last, h :: r => !(decide (h.owner ≤ last) || !modeM h.mode || h.mode == 2 && decide (1 < n)) && heldF n h.owner r
def heldB (l : List Hd) : Bool := heldF l.length (-1) l
set_option maxRecDepth 100000 in
set_option maxHeartbeats 2000000 in
theorem held_any (a : Option Addr) (n c : Nat) (l : List Hd) (w : World) (h : HdsAt w a n l) (hn : n ≤ maxLen) :
    Calls Tryz.prog 183 #[.slice a n c] w fun e w' => e = .returned (.bool (heldB l)) ∧ Below w.heap.size w w' := by
  obtain rfl := h.1
  have HR := Lib.hid h
  unfold maxLen at hn
  clear h
  generalize hr : heldB l = r
  have HV : Hid (heldF l.length (-1) l = r) := Lib.hid hr
  clear hr
  go_enter Tryz.func183, Tryz.ntmps183
  go_wp2_with fail
  go_loopw [3, 8] (fun v jv wr => ∃ (i : Nat) (last : Int), i ≤ l.length ∧ jv = .int .i64 (i : Nat) ∧ v = .int .i64 last ∧ Hid (heldF l.length last (l.drop i) = r) ∧ Hid (Below w.heap.size w wr)) (fun _ jv _ => l.length - (intOf jv).toNat)
  case atStart => exact ⟨0, -1, Nat.zero_le _, rfl, rfl, HV, Lib.hid (Below.refl _ _)⟩
  case round =>
    obtain ⟨i, last, hi, rfl, rfl, he, HB⟩ := hrel
    by_cases hlt : i < l.length
    · obtain ⟨g, off, rfl, hx⟩ := HR.out.2 i hlt
      obtain ⟨hc0, hc1⟩ := hx.below HB.out
      have he2 := he.out
      rw [List.drop_eq_getElem_cons hlt] at he2
      generalize l[i] = z at *
      obtain ⟨zo, zm⟩ := z
      simp only at hc0 hc1
      unfold heldF at he2
      simp only at he2
      clear hx he HV
      cases q1 : decide (zo ≤ last) with
      | true =>
        rw [q1] at he2
        simp only [Bool.true_or, Bool.not_true, Bool.false_and] at he2
        subst he2
        go_wp2_with fail
        go_ret
        exact ⟨rfl, bel_one HB.out _⟩
      | false =>
        rw [q1] at he2
        cases q2 : modeM zm with
        | false =>
          rw [q2] at he2
          simp only [Bool.not_false, Bool.or_true, Bool.true_or, Bool.not_true, Bool.false_and] at he2
          subst he2
          have HM := Lib.hid q2
          clear q2
          go_wp2_with fail
          refine (mode_any _ _).mono ?_
          rintro e w1 ⟨rfl, rfl⟩
          rw [HM.out]
          go_wp2_with fail
          go_ret
          exact ⟨rfl, bel_one HB.out _⟩
        | true =>
          rw [q2] at he2
          have HM := Lib.hid q2
          clear q2
          cases q3 : (zm == 2) with
          | false =>
            rw [q3] at he2
            simp only [Bool.not_true, Bool.or_false, Bool.false_and, Bool.not_false, Bool.true_and] at he2
            have HE := Lib.hid he2
            clear he2
            go_wp2_with fail
            refine (mode_any _ _).mono ?_
            rintro e w1 ⟨rfl, rfl⟩
            rw [HM.out]
            go_wp2_with fail
            go_roundw
            case rel => exact ⟨i + 1, zo, by omega, by go_num, rfl, HE, Lib.hid (bel_one HB.out _)⟩
            case measure => simp [intOf]; omega
          | true =>
            rw [q3] at he2
            cases q4 : decide (1 < l.length) with
            | true =>
              have q5 : decide ((1 : Int) < (l.length : Int)) = true := by rw [← q4, decide_eq_decide]; omega
              rw [q4] at he2
              simp only [Bool.not_true, Bool.or_false, Bool.false_and, Bool.and_self, Bool.or_true] at he2
              subst he2
              clear q4
              go_wp2_with fail
              refine (mode_any _ _).mono ?_
              rintro e w1 ⟨rfl, rfl⟩
              rw [HM.out]
              go_wp2_with fail
              go_ret
              exact ⟨rfl, bel_one HB.out _⟩
            | false =>
              have q5 : decide ((1 : Int) < (l.length : Int)) = false := by rw [← q4, decide_eq_decide]; omega
              rw [q4] at he2
              simp only [Bool.not_true, Bool.or_false, Bool.and_false, Bool.not_false, Bool.true_and] at he2
              have HE := Lib.hid he2
              clear he2 q4
              go_wp2_with fail
              refine (mode_any _ _).mono ?_
              rintro e w1 ⟨rfl, rfl⟩
              rw [HM.out]
              go_wp2_with fail
              go_roundw
              case rel => exact ⟨i + 1, zo, by omega, by go_num, rfl, HE, Lib.hid (bel_one HB.out _)⟩
              case measure => simp [intOf]; omega
    · obtain rfl : i = l.length := by omega
      have he2 := he.out
      rw [List.drop_length] at he2
      subst he2
      go_wp2_with fail
      go_ret
      exact ⟨rfl, HB.out⟩
end Go.Proofs.YtmifgnibalbgjaaGreat
/- The table's calls beside other things; do. -/
namespace Go.Proofs.YtmifgnibalbgjaaGreat
open Go.RowKit
section
variable {w0 w : World} {D0 : List Nat} {p : Nat} {L L' : List Li} {r : List Asn} [Stables r] {o m x : Int} {k : ByteArray}
theorem mem_task (h : Mem w0 D0 w (TabA p L :: r)) (ok : LOk L) (hb : Sm 400 L) (e : askL L o k m = (x, L')) :
    Calls Tryz.prog 88 #[.pointer (some ⟨p, 0, none⟩), .int .i64 o, .string k, .int .i64 m] w fun e w' => e = .returned (.int .i64 x) ∧ Mem w0 D0 w' (TabA p L' :: r) := by
  obtain ⟨D, hA, kk⟩ := Mem.focus [] h
  refine (tab_ask p L o k m w D hA ok hb).mono ?_
  rw [e]
  rintro e w' ⟨rfl, hm⟩
  obtain ⟨D', h1, h2⟩ := hm.out
  exact ⟨rfl, kk _ w' D' h1 h2⟩
theorem mem_tleave (h : Mem w0 D0 w (TabA p L :: r)) (ok : LOk L) (hb : Sm 400 L) (o : Int) :
    Calls Tryz.prog 83 #[.pointer (some ⟨p, 0, none⟩), .int .i64 o] w fun e w' => ∃ a c, e = .returned (.slice a (riseI (leaveL L o).1).length c) ∧ Mem w0 D0 w' (RowI a c (riseI (leaveL L o).1) :: TabA p (leaveL L o).2 :: r) := by
  obtain ⟨D, hA, kk⟩ := Mem.focus [] h
  refine (tab_leave p L o w D hA ok hb).mono ?_
  rintro e w' ⟨a, c, rfl, hm⟩
  obtain ⟨D', h1, h2⟩ := hm.out
  exact ⟨a, c, rfl, kk _ w' D' h1 h2⟩
theorem mem_tholds (h : Mem w0 D0 w (TabA p L :: r)) (ok : LOk L) (hb : Sm 400 L) (o : Int) (k : ByteArray) :
    Calls Tryz.prog 89 #[.pointer (some ⟨p, 0, none⟩), .int .i64 o, .string k] w fun e w' => e = .returned (.int .i64 (ofH (lineL L k).hs o)) ∧ Mem w0 D0 w' (TabA p L :: r) := by
  obtain ⟨D, hA⟩ := Mem.get [] h
  exact (tab_holds p L o k w D hA ok.s (by have := hb.1; omega)).mono fun e w' ⟨he, hb⟩ => ⟨he, h.below hb⟩
theorem Sm.mono {N M : Nat} {L : List Li} (h : Sm N L) (hNM : N ≤ M) : Sm M L := ⟨by have := h.1; omega, fun l hl => by have := h.2 l hl; omega⟩
theorem mem_tholders (h : Mem w0 D0 w (TabA p L :: r)) (ok : LOk L) (hb : Sm 400 L) (k : ByteArray) :
    Calls Tryz.prog 34 #[.pointer (some ⟨p, 0, none⟩), .string k] w fun e w' => ∃ s, e = .returned (slv s) ∧ Mem w0 D0 w' (RowH s (lineL L k).hs :: TabA p L :: r) := by
  obtain ⟨D, hA⟩ := Mem.get [] h
  exact (tab_holders p L k w D hA ok.s (hb.mono (by decide))).mono fun e w' ⟨s, he, hr, hb, hf⟩ => ⟨s, he, h.new hb (As := [RowH s (lineL L k).hs]) (all_one ⟨rfl, hr⟩) hf⟩
theorem mem_tblockers (h : Mem w0 D0 w (TabA p L :: r)) (hb : Sm 64 L) (o : Int) :
    Calls Tryz.prog 74 #[.pointer (some ⟨p, 0, none⟩), .int .i64 o] w fun e w' => ∃ a c, e = .returned (.slice a (riseI (blkL L o)).length c) ∧ Mem w0 D0 w' (RowI a c (riseI (blkL L o)) :: TabA p L :: r) := by
  obtain ⟨D, hA⟩ := Mem.get [] h
  exact (tab_blockers p L o w D hA hb).mono fun e w' ⟨a, c, he, hm⟩ => ⟨a, c, he, h.join hm⟩
theorem mem_tlines (h : Mem w0 D0 w (TabA p L :: r)) (hb : Sm 400 L) :
    Calls Tryz.prog 48 #[.pointer (some ⟨p, 0, none⟩)] w fun e w' => ∃ b d X, e = .returned (.slice b L.length d) ∧ X.map (·.key) = L.map (·.key) ∧ Mem w0 D0 w' (RowA 66 3 b L.length d (lnFlat X) :: (rowsOf X L ++ (TabA p L :: r))) := by
  obtain ⟨D, hA⟩ := Mem.get [] h
  exact (tab_lines p L w D hA (hb.mono (by decide))).mono fun e w' ⟨b, d, X, he, hk, hm⟩ => ⟨b, d, X, he, hk, h.join hm⟩
end
end Go.Proofs.YtmifgnibalbgjaaGreat
