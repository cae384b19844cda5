/- DriverPlays walked. -/
import Derived.Test.YtmifgnibalbgjaaDoorBK
namespace Go.Proofs.YtmifgnibalbgjaaDoor
open Go.RowKit
theorem drNew_ok2 {ss : List ByteArray} {l : List Opp} {tx stamp tries : Int} (h : newErr tx stamp tries l = 0) (hr : rightL ss = 0) : DOk ss l (drNew tx stamp tries) := by
  have hn : numsB tx stamp tries = true ∧ planErr l = 0 := by
    unfold newErr at h
    split at h
    · exact ⟨by assumption, h⟩
    · omega
  obtain ⟨h1, h2⟩ := hn
  unfold numsB at h1
  simp only [Bool.and_eq_true, decide_eq_true_eq] at h1
  have h16 : l.length ≤ 16 := by
    unfold planErr at h2
    split at h2
    · omega
    · omega
  exact ⟨hr, by omega, by simp only [drNew]; omega, by simp only [drNew]; decide, by simp only [drNew]; decide, fun h => by simp only [drNew] at h; omega, fun h => by simp only [drNew] at h; omega, by simp [drNew], by simp [drNew], by simp [drNew], fun _ => List.Pairwise.nil, by simp only [drNew]; omega⟩
theorem drNew_inv2 {ss : List ByteArray} {l : List Opp} {tx stamp tries : Int} (h : newErr tx stamp tries l = 0) (hr : rightL ss = 0) : Inv ss l stamp (drNew tx stamp tries) 0 0 0 :=
  ⟨⟨drNew_ok2 h hr, fun _ => ⟨rfl, rfl⟩, fun h => by simp only [drNew] at h; omega⟩, rfl, .inl ⟨by simp only [drNew]; decide, rfl, rfl, fun _ => rfl, fun h => by simp only [drNew] at h; omega, fun h => by simp only [drNew] at h; omega, fun h => by simp only [drNew] at h; omega⟩⟩
theorem newErr_plan {l : List Opp} {tx stamp tries : Int} (h : newErr tx stamp tries l = 0) : planErr l = 0 := by
  unfold newErr at h
  split at h
  · exact h
  · omega
theorem rightL_len {ss : List ByteArray} (h : rightL ss = 0) : ss.length ≤ 7 := by
  unfold rightL at h
  split at h
  · omega
  · omega
theorem wrap_mod (m : Nat) (h : m < 18446744073709551616) : IntKind.i64.wrap (m : Int) % 18446744073709551616 = (m : Int) := by
  simp [IntKind.wrap, IntKind.bits, IntKind.signed]
  split <;> omega
theorem xor1_ne (a : Int) : bits .xor .i64 a 1 ≠ a := by
  intro h
  have h1 : IntKind.i64.wrap ((BitVec.ofInt 64 a ^^^ BitVec.ofInt 64 1).toNat : Int) = a := h
  have h2 := wrap_mod (BitVec.ofInt 64 a ^^^ BitVec.ofInt 64 1).toNat (BitVec.isLt _)
  rw [h1] at h2
  have h3 : (BitVec.ofInt 64 a).toNat = (a % 18446744073709551616).toNat := by
    rw [BitVec.toNat_ofInt]; rfl
  have h4 : BitVec.ofInt 64 a = BitVec.ofInt 64 a ^^^ BitVec.ofInt 64 1 := BitVec.eq_of_toNat_eq (by omega)
  have h5 := congrArg (fun x : BitVec 64 => x.getLsbD 0) h4
  simp at h5
theorem rel_state {ss : List ByteArray} {l : List Opp} {d : Dr} {r : Rd} (hR : Rel ss l d r) (h3 : 0 ≤ d.phase) (h4 : d.phase ≤ 8) : stateR r = (if d.phase = 8 then d.outcome else 1) := by
  unfold stateR
  have h1 := hR.asks
  have h2 := hR.fin
  rcases askN_ph h1 h3 h4 with ⟨ha, hd⟩ | h
  · rw [if_neg (by omega), if_pos hd]; exact h2 (by omega)
  · rw [if_pos (by omega), if_neg (by omega)]
theorem Mem.blockD {w0 w : World} {D0 : List Nat} {A B E F : Asn} {r : List Asn} [Stable A] [Stable B] [Stable E] [Stable F] [Stables r] (h : Mem w0 D0 w (A :: B :: E :: F :: r)) (C : Array Value) (T : TypeId) : Mem w0 D0 (w.alloc (.cells C T)) (A :: B :: E :: F :: BlockA w.heap.size C T :: r) :=
  Mem.swap [A, B, E] (Mem.swap [A, B] (Mem.swap [A] (Mem.swap [] (h.block C T))))
/-- what the law holds at a round's head. -/
def PInv (ss : List ByteArray) (l : List Opp) (tx stamp : Int) (d : Dr) (r : Rd) : Prop := Rel ss l d r ∧ d.tx = tx ∧ ∃ att got st, Inv ss l stamp d att got st
theorem PInv.told {ss : List ByteArray} {l : List Opp} {tx stamp : Int} {d : Dr} {r : Rd} (h : PInv ss l tx stamp d r) (hr : planErr l = 0) (hp : d.phase ≠ 8) (p : Rep) : PInv ss l tx stamp (toldM ss l d p) (tellR ss l r p) := by
  obtain ⟨h1, h2, att, got, st, h3⟩ := h
  refine ⟨rel_told h1 h3.1 hr hp p, (told_tx ss l d p).trans h2, ?_⟩
  have hn := inv_next h3 hp
  by_cases ha : d.attempt = att
  · exact ⟨_, _, _, inv_told h3.1 h3.2.1 (hn.1 ha) hp p⟩
  · exact ⟨_, _, _, inv_told h3.1 h3.2.1 (hn.2 ha).2.2.2 hp p⟩
theorem Mem.blockC {w0 w : World} {D0 : List Nat} {A B E : Asn} {r : List Asn} [Stable A] [Stable B] [Stable E] [Stables r] (h : Mem w0 D0 w (A :: B :: E :: r)) (C : Array Value) (T : TypeId) : Mem w0 D0 (w.alloc (.cells C T)) (A :: B :: E :: BlockA w.heap.size C T :: r) :=
  Mem.swap [A, B] (Mem.swap [A] (Mem.swap [] (h.block C T)))
/-- the document's driver comes to the fore, and back. -/
theorem Mem.fore {w0 w : World} {D0 : List Nat} {A B E : Asn} {r : List Asn} (h : Mem w0 D0 w (A :: B :: E :: r)) : Mem w0 D0 w (E :: A :: B :: r) := Mem.swap [] (Mem.swap [A] h)
theorem Mem.aft {w0 w : World} {D0 : List Nat} {A B E : Asn} {r : List Asn} (h : Mem w0 D0 w (E :: A :: B :: r)) : Mem w0 D0 w (A :: B :: E :: r) := Mem.swap [A] (Mem.swap [] h)
section
set_option maxRecDepth 100000
set_option maxHeartbeats 16000000
theorem plays_law (tx stamp tries : Int) (sa a a2 : Option Addr) (sn sc n c n2 c2 : Nat) (ss : List ByteArray) (l : List Opp) (ps : List Ans) (w : World) (hs : StrsAt w sa sn ss) (hl : OpsAt w a n l) (hps : AnsAt w a2 n2 ps) (hsn : sn ≤ maxLen) (hn : n ≤ maxLen) (hn2 : n2 ≤ maxLen) (hv : LibV w) :
    Calls Tryd.prog 4 #[.int .i64 tx, .int .i64 stamp, .int .i64 tries, .slice sa sn sc, .slice a n c, .slice a2 n2 c2] w fun e w' => e = .returned (.bool true) ∧ Below w.heap.size w w' := by
  have HV := Lib.hid hv
  have HF := Lib.hid (fixed_any w hv)
  have HFEW := Lib.hid fun W (b : Below w.heap.size w W) => few_any sa a sn sc n c ss l W hsn hn (hs.keep b) (hl.below b)
  have HR13 := Lib.hid fun W (b : Below w.heap.size w W) => refRight_any sa sn sc ss W hsn (hs.keep b)
  have HR9 := Lib.hid fun W (b : Below w.heap.size w W) => right9 tx stamp tries a n c l W (hl.below b) hn
  have HST0 := Lib.hid hs
  have HOL0 := Lib.hid hl
  have HRP := Lib.hid fun W (b : Below w.heap.size w W) => hps.below b
  have HN2 := Lib.hid hps.1
  have HNL := Lib.hid hl.1
  have HSL := Lib.hid hs.1
  have HFL : Hid (fewB ss l = true → n ≤ 30) := Lib.hid fun h => by
    unfold fewB at h
    simp only [Bool.and_eq_true, decide_eq_true_eq] at h
    have := hl.1
    omega
  unfold maxLen at hn hn2 hsn
  clear hv hl hps hs
  generalize hfb : fewB ss l = fb at *
  clear hfb
  go_enter Tryd.func4, Tryd.ntmps4
  go_wp2_with fail
  refine HF.out.mono ?_
  rintro e w1 ⟨rfl, hb⟩
  have Mw1 := Lib.hid ((Mem.nil w).below hb)
  clear hb HF
  have H1 := Lib.hid (HFEW.out _ Mw1.out.bel)
  go_wp2_with fail
  refine H1.out.mono ?_
  rintro e w2 ⟨rfl, hb⟩
  have Mw2 := Lib.hid (Mw1.out.below hb)
  clear hb H1 Mw1 HFEW
  cases fb
  · go_wp2_with fail
    go_ret
    exact ⟨rfl, Mw2.out.bel⟩
  have hn30 := HFL.out rfl
  clear HFL
  by_cases hc : n2 > 200
  · have hc1 : decide (200 < (n2 : Int)) = true := by simp; omega
    go_wp2_with fail
    go_ret
    exact ⟨rfl, Mw2.out.bel⟩
  have hc1 : decide (200 < (n2 : Int)) = false := by simp; omega
  have H1 := Lib.hid (HR13.out _ Mw2.out.bel)
  clear HR13
  by_cases hr1 : rightL ss ≠ 0
  · have hb1 : (rightL ss != 0) = true := by simpa using hr1
    generalize rightL ss = rl at *
    go_wp2_with fail
    refine H1.out.mono ?_
    rintro e w3 ⟨rfl, k3, rfl⟩
    have Mw3 := Lib.hid (Mw2.out.below (bel_drewN _ k3))
    clear H1 Mw2
    go_wp2_with fail
    go_ret
    exact ⟨rfl, Mw3.out.bel⟩
  have hr0 : rightL ss = 0 := Classical.byContradiction hr1
  clear hr1
  rw [hr0] at H1
  go_wp2_with fail
  refine H1.out.mono ?_
  rintro e w3 ⟨rfl, k3, rfl⟩
  have Mw3 := Lib.hid (Mw2.out.below (bel_drewN _ k3))
  clear H1 Mw2
  generalize w2.drewN k3 = w3 at *
  have hss7 := rightL_len hr0
  have hsn7 : sn ≤ 7 := by have := HSL.out; omega
  have H1 := Lib.hid (mapNew sa sn sc ss w3 (by unfold maxLen; omega) (HST0.out.keep Mw3.out.bel) hr0 hss7)
  go_wp2_with fail
  refine H1.out.mono ?_
  rintro e w4 ⟨mg, rfl, hm⟩
  have Mw4 : Hid (Mem w [] w4 [MapA mg ss]) := Lib.hid (by
    obtain ⟨D, hA, hD⟩ := hm.out
    exact Mw3.out.new hm.bel (As := [MapA mg ss]) hA fun x hx => by
      rcases hD.fresh x hx with h | h
      · cases h
      · exact h)
  clear hm H1 Mw3
  have H1 := Lib.hid (drvNew (mg := mg) tx stamp tries a n c Mw4.out (HOL0.out.below Mw4.out.bel) (by omega))
  go_wp2_with fail
  refine H1.out.mono ?_
  rintro e w5 (⟨he, rfl, hm⟩ | ⟨he, g, rfl, hm⟩)
  · have Mw5 := Lib.hid hm
    clear hm H1 Mw4
    have H1 := Lib.hid (HR9.out _ Mw5.out.bel)
    have hb1 : (newErr tx stamp tries l != 0) = true := by simpa using he
    clear he HR9
    generalize newErr tx stamp tries l = ne at *
    go_wp2_with fail
    refine H1.out.mono ?_
    rintro e w6 ⟨rfl, hb⟩
    have Mw6 := Lib.hid (Mw5.out.below hb)
    clear hb H1 Mw5
    have hq : (ne == ne) = true := by simp
    go_wp2_with fail
    go_ret
    exact ⟨by simp, Mw6.out.bel⟩
  have HI := Lib.hid (show PInv ss l tx stamp (drNew tx stamp tries) ⟨tx, stamp, tries, 0, 1, -1, rs0, [], 0, 0, false⟩ from ⟨rel_new, rfl, _, _, _, drNew_inv2 he hr0⟩)
  have HPL := Lib.hid (newErr_plan he)
  have Mw5 := Lib.hid (show Mem w [] w5 (DrA g mg l (drNew tx stamp tries) :: [MapA mg ss]) from hm)
  clear hm H1 Mw4
  have H1 := Lib.hid (HR9.out _ Mw5.out.bel)
  rw [he] at H1
  clear he HR9
  generalize drNew tx stamp tries = d0 at *
  go_wp2_with fail
  refine H1.out.mono ?_
  rintro e w6 ⟨rfl, hb⟩
  have Mw6 := Lib.hid (Mw5.out.below hb)
  clear hb H1 Mw5
  have H1 := Lib.hid (rnew_any (sa := sa) (sn := sn) (sc := sc) (pa := a) (pn := n) (pc := c) tx stamp tries Mw6.out)
  go_wp2_with fail
  refine H1.out.mono ?_
  rintro e w7 ⟨g2, rfl, hm⟩
  have Mw7 := Lib.hid (Mem.aft hm)
  clear hm H1 Mw6
  generalize (⟨tx, stamp, tries, 0, 1, -1, rs0, [], 0, 0, false⟩ : Rd) = r0 at *
  go_wp2_with fail
  go_loopw [82] (fun jv wr => ∃ (k : Nat) (d : Dr) (r : Rd), k ≤ n2 ∧ jv = .int .i64 (k : Nat) ∧ Hid (PInv ss l tx stamp d r ∧ Mem w [] wr [DrA g mg l d, MapA mg ss, RefA g2 (.slice sa sn sc) (.slice a n c) r])) (fun jv _ => n2 - (intOf jv).toNat)
  case atStart => exact ⟨0, d0, r0, Nat.zero_le _, rfl, Lib.hid ⟨HI.out, Mw7.out⟩⟩
  case round =>
    obtain ⟨k, d, r, hk, rfl, HS⟩ := hrel
    clear Mw7 HI
    by_cases hlt : k < n2
    · as_aux_lemma =>
        have hlt' : k < ps.length := by have := HN2.out; omega
        have HP := Lib.hid HS.out.1
        have M0 := Lib.hid HS.out.2
        clear HS
        obtain ⟨b, off, rfl, q0, q1, q2, q3, q4⟩ := (HRP.out _ M0.out.bel).2 k hlt'
        generalize ps[k] = p at *
        obtain ⟨aodd, pc, pt, pv, ph⟩ := p
        simp only at q0 q1 q2 q3 q4
        have M1 : Hid (Mem w [] (wr.alloc (.cells #[.bool aodd, .int .i64 pc, .int .i64 pt, .string pv, .bool ph] 49)) (DrA g mg l d :: MapA mg ss :: RefA g2 (.slice sa sn sc) (.slice a n c) r :: BlockA wr.heap.size #[.bool aodd, .int .i64 pc, .int .i64 pt, .string pv, .bool ph] 49 :: [])) := Lib.hid (Mem.blockC M0.out _ 49)
        by_cases h100 : 100 < pv.size
        · have hc2 : decide ((100 : Int) < (pv.size : Nat)) = true := decide_eq_true (by omega)
          have hc3 : decide (100 < pv.size) = true := decide_eq_true h100
          go_wp2_with fail
          go_ret
          exact ⟨rfl, M1.out.bel⟩
        have hc2 : decide ((100 : Int) < (pv.size : Nat)) = false := decide_eq_false (by omega)
        have hc3 : decide (100 < pv.size) = false := decide_eq_false h100
        have hpv : pv.size ≤ 140737488355328 := by omega
        obtain ⟨hR, htx, att, got, st, hinv⟩ := HP.out
        have hB := hinv.1
        have hok := hB.ok
        have hpl := HPL.out
        obtain ⟨en1, en2, en3⟩ := rel_next hR hB hpl
        have HNX := Lib.hid fun W L (hst : Stables L) (hW : Mem w [] W (DrA g mg l d :: MapA mg ss :: L)) => next_any (r := L) hW hok
        have HNR := Lib.hid fun W L (hst : Stables L) (hW : Mem w [] W (RefA g2 (.slice sa sn sc) (.slice a n c) r :: L)) => (rnext_any (q := L) hW HST0.out HOL0.out hsn7 (by omega) hR hB)
        have hE : rnE ss l r = nextE ss l d := by
          have e3 : decide (r.asks ≠ 0) = decide (d.phase ≠ 8) := by
            by_cases h : d.phase = 8
            · have := en3.2 h
              simp [h, this]
            · have h' : r.asks ≠ 0 := fun e => h (en3.1 e)
              simp [h, h']
          unfold rnE nextE
          rw [en1, en2, e3]
        rw [hE] at HNR
        have HST1 : Hid (stateR r = (if d.phase = 8 then d.outcome else 1)) := Lib.hid (rel_state hR hok.ph0 hok.ph8)
        have HAT : Hid (r.attempt = d.attempt) := Lib.hid hR.att
        unfold nextE Cmd.val at HNX HNR
        by_cases hp8 : d.phase = 8
        · have HT : Hid (∀ q W L (_ : Stables L), Mem w [] W (DrA g mg l d :: MapA mg ss :: L) → Calls Tryd.prog 12 #[.pointer (some ⟨g, 0, none⟩), Cmd.val q, .agg #[.int .i64 pc, .int .i64 pt, .string pv, .bool ph]] W fun e w' => e = .returned (.bool false) ∧ Mem w [] w' (DrA g mg l d :: MapA mg ss :: L)) := Lib.hid fun q W L hst hW => told_no (r := L) q ⟨pc, pt, pv, ph⟩ hW hok hp8
          rw [show decide (d.phase ≠ 8) = false by simpa using hp8] at HNX HNR
          unfold Cmd.val at HT
          have ec : nextC l d = czero := by unfold nextC; simp [hp8]
          have es : nextS ss l d = 0 := by unfold nextS; simp [hp8]
          rw [ec, es] at HNX HNR
          unfold czero at HNX HNR
          clear hR htx hinv hB hok hpl en1 en2 en3 hE ec es
          simp only at HNX HNR
          have H1 := Lib.hid (HNX.out _ _ inferInstance M1.out)
          go_wp2_with fail
          refine H1.out.mono ?_
          rintro e w6 ⟨rfl, hb⟩
          have M2 := Lib.hid (M1.out.below hb)
          clear hb H1 HNX M1
          obtain ⟨w7, hw7⟩ : ∃ w7, w7 = w6.alloc (.cells #[.int .i64 0, .int .i64 0, .int .i64 0, .int .i64 0, .int .i64 0, .string ⟨#[]⟩, .string ⟨#[]⟩, .int .i64 0, .bool false] 38) := ⟨_, rfl⟩
          have M3 := Lib.hid (show Mem w [] w7 (DrA g mg l d :: MapA mg ss :: RefA g2 (.slice sa sn sc) (.slice a n c) r :: BlockA wr.heap.size #[.bool aodd, .int .i64 pc, .int .i64 pt, .string pv, .bool ph] 49 :: BlockA w6.heap.size #[.int .i64 0, .int .i64 0, .int .i64 0, .int .i64 0, .int .i64 0, .string ⟨#[]⟩, .string ⟨#[]⟩, .int .i64 0, .bool false] 38 :: []) by rw [hw7]; exact Mem.blockD M2.out _ 38)
          have H1 := Lib.hid (HNR.out _ _ inferInstance (Mem.fore M3.out))
          rw [hw7] at H1
          have HW7 := Lib.hid hw7
          clear hw7 M2 HNR
          go_wp2_with fail
          refine H1.out.mono ?_
          rintro e w8 ⟨rfl, hb⟩
          rw [← HW7.out] at hb
          clear H1 HW7
          have M4 := Lib.hid (M3.out.below hb)
          clear hb M3
          obtain ⟨w9, hw9⟩ : ∃ w9, w9 = w8.alloc (.cells #[.int .i64 0, .int .i64 0, .int .i64 0, .int .i64 0, .int .i64 0, .string ⟨#[]⟩, .string ⟨#[]⟩, .int .i64 0, .bool false] 38) := ⟨_, rfl⟩
          have M5 := Lib.hid (show Mem w [] w9 (DrA g mg l d :: MapA mg ss :: RefA g2 (.slice sa sn sc) (.slice a n c) r :: BlockA wr.heap.size #[.bool aodd, .int .i64 pc, .int .i64 pt, .string pv, .bool ph] 49 :: BlockA w6.heap.size #[.int .i64 0, .int .i64 0, .int .i64 0, .int .i64 0, .int .i64 0, .string ⟨#[]⟩, .string ⟨#[]⟩, .int .i64 0, .bool false] 38 :: []) by rw [hw9]; exact M4.out.below (bel_new _ _))
          have hd1 : w9.heap[w8.heap.size]? = some (.cells #[.int .i64 0, .int .i64 0, .int .i64 0, .int .i64 0, .int .i64 0, .string ⟨#[]⟩, .string ⟨#[]⟩, .int .i64 0, .bool false] 38 (0, 0)) := by rw [hw9]; exact heap_new _ _
          go_upto_region 20 with (fail)
          rw [← hw9]
          clear hw9 M4
          generalize w8.heap.size = gx at *
          generalize w6.heap.size = gc at *
          generalize wr.heap.size = gB at *
          have x0 := (cell_of_heap (i := 0) (v := .int .i64 0) hd1 rfl).1
          have x1 := (cell_of_heap (i := 1) (v := .int .i64 0) hd1 rfl).1
          have x2 := (cell_of_heap (i := 2) (v := .int .i64 0) hd1 rfl).1
          have x3 := (cell_of_heap (i := 3) (v := .int .i64 0) hd1 rfl).1
          have x4 := (cell_of_heap (i := 4) (v := .int .i64 0) hd1 rfl).1
          have x5 := (cell_of_heap (i := 5) (v := .string ⟨#[]⟩) hd1 rfl).1
          have x6 := (cell_of_heap (i := 6) (v := .string ⟨#[]⟩) hd1 rfl).1
          have x7 := (cell_of_heap (i := 7) (v := .int .i64 0) hd1 rfl).1
          have x8 := (cell_of_heap (i := 8) (v := .bool false) hd1 rfl).1
          clear hd1
          have hd2 := Mem.heapAt [DrA g mg l d, MapA mg ss, RefA g2 (.slice sa sn sc) (.slice a n c) r, BlockA gB #[.bool aodd, .int .i64 pc, .int .i64 pt, .string pv, .bool ph] 49] (r := []) M5.out
          have hbx := Mem.heapAt [DrA g mg l d, MapA mg ss, RefA g2 (.slice sa sn sc) (.slice a n c) r] (r := [BlockA gc #[.int .i64 0, .int .i64 0, .int .i64 0, .int .i64 0, .int .i64 0, .string ⟨#[]⟩, .string ⟨#[]⟩, .int .i64 0, .bool false] 38]) M5.out
          obtain ⟨y0, yf0⟩ := cell_of_heap (i := 0) (v := .int .i64 0) hd2 rfl
          obtain ⟨y1, yf1⟩ := cell_of_heap (i := 1) (v := .int .i64 0) hd2 rfl
          obtain ⟨y2, yf2⟩ := cell_of_heap (i := 2) (v := .int .i64 0) hd2 rfl
          obtain ⟨y3, yf3⟩ := cell_of_heap (i := 3) (v := .int .i64 0) hd2 rfl
          obtain ⟨y4, yf4⟩ := cell_of_heap (i := 4) (v := .int .i64 0) hd2 rfl
          obtain ⟨y5, yf5⟩ := cell_of_heap (i := 5) (v := .string ⟨#[]⟩) hd2 rfl
          obtain ⟨y6, yf6⟩ := cell_of_heap (i := 6) (v := .string ⟨#[]⟩) hd2 rfl
          obtain ⟨y7, yf7⟩ := cell_of_heap (i := 7) (v := .int .i64 0) hd2 rfl
          obtain ⟨y8, yf8⟩ := cell_of_heap (i := 8) (v := .bool false) hd2 rfl
          obtain ⟨z0, -⟩ := cell_of_heap (i := 0) (v := .bool aodd) hbx rfl
          obtain ⟨z1, -⟩ := cell_of_heap (i := 1) (v := .int .i64 pc) hbx rfl
          obtain ⟨z2, -⟩ := cell_of_heap (i := 2) (v := .int .i64 pt) hbx rfl
          obtain ⟨z3, -⟩ := cell_of_heap (i := 3) (v := .string pv) hbx rfl
          obtain ⟨z4, -⟩ := cell_of_heap (i := 4) (v := .bool ph) hbx rfl
          clear hd2 hbx
          cases aodd with
          | true =>
            go_upto_region 24 with (fail)
            obtain ⟨opx, hopx⟩ : ∃ opx, opx = bits .xor .i64 0 1 := ⟨_, rfl⟩
            rw [← hopx]
            have hne : opx ≠ 0 := by rw [hopx]; exact xor1_ne _
            clear hopx
            have M6 := Lib.hid (Mem.setAt [DrA g mg l d, MapA mg ss, RefA g2 (.slice sa sn sc) (.slice a n c) r, BlockA gB #[.bool true, .int .i64 pc, .int .i64 pt, .string pv, .bool ph] 49] (r := []) (i := 4) M5.out (.int .i64 opx))
            obtain ⟨wA, hwA⟩ : ∃ wA, wA = w9.setCell ⟨gc, 4, none⟩ (.int .i64 opx) := ⟨_, rfl⟩
            rw [← hwA] at M6 ⊢
            have M7 : Hid (Mem w [] wA (DrA g mg l d :: MapA mg ss :: RefA g2 (.slice sa sn sc) (.slice a n c) r :: BlockA gB #[.bool true, .int .i64 pc, .int .i64 pt, .string pv, .bool ph] 49 :: BlockA gc #[.int .i64 0, .int .i64 0, .int .i64 0, .int .i64 0, .int .i64 opx, .string ⟨#[]⟩, .string ⟨#[]⟩, .int .i64 0, .bool false] 38 :: [])) := M6
            clear hwA M6 M5
            clear x0 x1 x2 x3 x4 x5 x6 x7 x8
            clear y0 yf0 y1 yf1 y2 yf2 y3 yf3 y4 yf4 y5 yf5 y6 yf6 y7 yf7 y8 yf8 z0 z1 z2 z3 z4
            have hd2 := Mem.heapAt [DrA g mg l d, MapA mg ss, RefA g2 (.slice sa sn sc) (.slice a n c) r, BlockA gB #[.bool true, .int .i64 pc, .int .i64 pt, .string pv, .bool ph] 49] (r := []) M7.out
            have hbx := Mem.heapAt [DrA g mg l d, MapA mg ss, RefA g2 (.slice sa sn sc) (.slice a n c) r] (r := [BlockA gc #[.int .i64 0, .int .i64 0, .int .i64 0, .int .i64 0, .int .i64 opx, .string ⟨#[]⟩, .string ⟨#[]⟩, .int .i64 0, .bool false] 38]) M7.out
            obtain ⟨y0, yf0⟩ := cell_of_heap (i := 0) (v := .int .i64 0) hd2 rfl
            obtain ⟨y1, yf1⟩ := cell_of_heap (i := 1) (v := .int .i64 0) hd2 rfl
            obtain ⟨y2, yf2⟩ := cell_of_heap (i := 2) (v := .int .i64 0) hd2 rfl
            obtain ⟨y3, yf3⟩ := cell_of_heap (i := 3) (v := .int .i64 0) hd2 rfl
            obtain ⟨y4, yf4⟩ := cell_of_heap (i := 4) (v := .int .i64 opx) hd2 rfl
            obtain ⟨y5, yf5⟩ := cell_of_heap (i := 5) (v := .string ⟨#[]⟩) hd2 rfl
            obtain ⟨y6, yf6⟩ := cell_of_heap (i := 6) (v := .string ⟨#[]⟩) hd2 rfl
            obtain ⟨y7, yf7⟩ := cell_of_heap (i := 7) (v := .int .i64 0) hd2 rfl
            obtain ⟨y8, yf8⟩ := cell_of_heap (i := 8) (v := .bool false) hd2 rfl
            obtain ⟨z0, -⟩ := cell_of_heap (i := 0) (v := .bool true) hbx rfl
            obtain ⟨z1, -⟩ := cell_of_heap (i := 1) (v := .int .i64 pc) hbx rfl
            obtain ⟨z2, -⟩ := cell_of_heap (i := 2) (v := .int .i64 pt) hbx rfl
            obtain ⟨z3, -⟩ := cell_of_heap (i := 3) (v := .string pv) hbx rfl
            obtain ⟨z4, -⟩ := cell_of_heap (i := 4) (v := .bool ph) hbx rfl
            clear hd2 hbx
            have H1 := Lib.hid (HT.out ⟨0, 0, 0, 0, opx, ⟨#[]⟩, ⟨#[]⟩, 0, false⟩ _ _ inferInstance M7.out)
            go_wp2_with fail
            refine H1.out.mono ?_
            rintro e wB ⟨rfl, hm⟩
            have M8 : Hid (Mem w [] wB [DrA g mg l d, MapA mg ss, RefA g2 (.slice sa sn sc) (.slice a n c) r]) := Lib.hid (Mem.drop [DrA g mg l d, MapA mg ss, RefA g2 (.slice sa sn sc) (.slice a n c) r] (A := BlockA gB #[.bool true, .int .i64 pc, .int .i64 pt, .string pv, .bool ph] 49) (r := []) (Mem.drop [DrA g mg l d, MapA mg ss, RefA g2 (.slice sa sn sc) (.slice a n c) r, BlockA gB #[.bool true, .int .i64 pc, .int .i64 pt, .string pv, .bool ph] 49] (A := BlockA gc #[.int .i64 0, .int .i64 0, .int .i64 0, .int .i64 0, .int .i64 opx, .string ⟨#[]⟩, .string ⟨#[]⟩, .int .i64 0, .bool false] 38) (r := []) hm))
            clear hm H1 M7 hne
            clear y0 yf0 y1 yf1 y2 yf2 y3 yf3 y4 yf4 y5 yf5 y6 yf6 y7 yf7 y8 yf8 z0 z1 z2 z3 z4
            have HF := Lib.hid (And.intro HP.out M8.out)
            clear M8 HP
            go_wp2_with fail
            go_roundw
            case rel => exact ⟨k + 1, d, r, by omega, by go_num, HF⟩
            case measure => simp [intOf]; omega
          | false =>
            have H1 := Lib.hid (HT.out ⟨0, 0, 0, 0, 0, ⟨#[]⟩, ⟨#[]⟩, 0, false⟩ _ _ inferInstance M5.out)
            go_wp2_with fail
            refine H1.out.mono ?_
            rintro e wB ⟨rfl, hm⟩
            have M8 := Lib.hid hm
            have HSX : Hid ((if d.phase = 8 then d.outcome else 1) = stateR r) := Lib.hid HST1.out.symm
            have HSA : Hid (d.attempt = r.attempt) := Lib.hid HAT.out.symm
            clear hm H1 M5 HST1 HAT hp8 HT
            clear x0 x1 x2 x3 x4 x5 x6 x7 x8
            clear y0 yf0 y1 yf1 y2 yf2 y3 yf3 y4 yf4 y5 yf5 y6 yf6 y7 yf7 y8 yf8 z0 z1 z2 z3 z4
            have HQ1 : Hid (∀ k, Calls Tryd.prog 11 #[.pointer (some ⟨g, 0, none⟩)] (wB.drewN k) fun e w' => e = .returned (.int .i64 (stateR r)) ∧ w' = (wB.drewN k).drewN 0) := Lib.hid fun k => (state_any (M8.out.below (bel_drewN _ k))).mono fun e w' hh => ⟨by rw [hh.1, HSX.out], hh.2 ▸ rfl⟩
            have HQ2 : Hid (∀ k, Calls Tryd.prog 17 #[.pointer (some ⟨g2, 0, none⟩)] (wB.drewN k) fun e w' => e = .returned (.int .i64 (stateR r)) ∧ w' = (wB.drewN k).drewN 0) := Lib.hid fun k => (rstate_any ((Mem.fore M8.out).below (bel_drewN _ k))).mono fun e w' hh => ⟨hh.1, hh.2 ▸ rfl⟩
            have HQ3 : Hid (∀ k, Calls Tryd.prog 18 #[.pointer (some ⟨g, 0, none⟩)] (wB.drewN k) fun e w' => e = .returned (.int .i64 r.attempt) ∧ w' = (wB.drewN k).drewN 0) := Lib.hid fun k => (attempt_any (M8.out.below (bel_drewN _ k))).mono fun e w' hh => ⟨by rw [hh.1, HSA.out], hh.2 ▸ rfl⟩
            have t5 := (Mem.rdAt (Mem.fore M8.out)).c5
            have HM9 : Hid (∀ k, Mem w [] (wB.drewN k) [DrA g mg l d, MapA mg ss, RefA g2 (.slice sa sn sc) (.slice a n c) r]) := Lib.hid fun k => Mem.below (Mem.drop [DrA g mg l d, MapA mg ss, RefA g2 (.slice sa sn sc) (.slice a n c) r] (A := BlockA gB #[.bool false, .int .i64 pc, .int .i64 pt, .string pv, .bool ph] 49) (r := []) (Mem.drop [DrA g mg l d, MapA mg ss, RefA g2 (.slice sa sn sc) (.slice a n c) r, BlockA gB #[.bool false, .int .i64 pc, .int .i64 pt, .string pv, .bool ph] 49] (A := BlockA gc #[.int .i64 0, .int .i64 0, .int .i64 0, .int .i64 0, .int .i64 0, .string ⟨#[]⟩, .string ⟨#[]⟩, .int .i64 0, .bool false] 38) (r := []) M8.out)) (bel_drewN _ k)
            clear M8 HSX HSA
            generalize (stateR r) = sta at *
            generalize r.attempt = ata at *
            have hq1 : (sta != sta) = false := by simp
            have hq2 : (ata != ata) = false := by simp
            go_wp2_with fail
            go_quiet (first
              | ((go_at_call 11; exact Calls.quiet_of_same (HQ1.out _)))
              | ((go_at_call 17; exact Calls.quiet_of_same (HQ2.out _)))
              | ((go_at_call 18; exact Calls.quiet_of_same (HQ3.out _)))
              | (fail "none"))
            have HF := Lib.hid (And.intro HP.out (HM9.out nq))
            clear HM9 HQ1 HQ2 HQ3 t5
            go_wp2_with fail
            go_roundw
            case rel => exact ⟨k + 1, d, r, by omega, by go_num, HF⟩
            case measure => simp [intOf]; omega
        · have HT : Hid (∀ W L (_ : Stables L), Mem w [] W (DrA g mg l d :: MapA mg ss :: L) → Calls Tryd.prog 12 #[.pointer (some ⟨g, 0, none⟩), Cmd.val (nextC l d), .agg #[.int .i64 pc, .int .i64 pt, .string pv, .bool ph]] W fun e w' => e = .returned (.bool true) ∧ Mem w [] w' (DrA g mg l (toldM ss l d ⟨pc, pt, pv, ph⟩) :: MapA mg ss :: L)) := Lib.hid fun W L hst hW => told_any (r := L) ⟨pc, pt, pv, ph⟩ hW hok hp8 hpv (HV.out.below hW.bel)
          have HTN : Hid (∀ q W L (_ : Stables L), q ≠ (nextC l d).op → Mem w [] W (DrA g mg l d :: MapA mg ss :: L) → Calls Tryd.prog 12 #[.pointer (some ⟨g, 0, none⟩), Cmd.val { nextC l d with op := q }, .agg #[.int .i64 pc, .int .i64 pt, .string pv, .bool ph]] W fun e w' => e = .returned (.bool false) ∧ Mem w [] w' (DrA g mg l d :: MapA mg ss :: L)) := Lib.hid fun q W L hst hq hW => told_ne (r := L) q ⟨pc, pt, pv, ph⟩ hW hok hp8 hq
          have HTL : Hid (∀ W L (_ : Stables L), Mem w [] W (RefA g2 (.slice sa sn sc) (.slice a n c) r :: L) → Calls Tryd.prog 16 #[.pointer (some ⟨g2, 0, none⟩), .agg #[.int .i64 pc, .int .i64 pt, .string pv, .bool ph]] W fun e w' => e = .returned (.tuple #[]) ∧ Mem w [] w' (RefA g2 (.slice sa sn sc) (.slice a n c) (tellR ss l r ⟨pc, pt, pv, ph⟩) :: L)) := Lib.hid fun W L hst hW => rtell_any (q := L) ⟨pc, pt, pv, ph⟩ hW HST0.out HOL0.out hsn7 (by omega) hR hB hpl hp8 hpv
          have HP2 := Lib.hid (HP.out.told hpl hp8 ⟨pc, pt, pv, ph⟩)
          have HST2 : Hid (stateR (tellR ss l r ⟨pc, pt, pv, ph⟩) = (if (toldM ss l d ⟨pc, pt, pv, ph⟩).phase = 8 then (toldM ss l d ⟨pc, pt, pv, ph⟩).outcome else 1) ∧ (tellR ss l r ⟨pc, pt, pv, ph⟩).attempt = (toldM ss l d ⟨pc, pt, pv, ph⟩).attempt) := Lib.hid (by
            obtain ⟨k1, -, _, _, _, k2⟩ := HP2.out
            exact ⟨rel_state k1 k2.1.ok.ph0 k2.1.ok.ph8, k1.att⟩)
          rw [show decide (d.phase ≠ 8) = true by simpa using hp8] at HNX HNR
          clear hR htx hinv hB hok hpl en1 en2 en3 hE HST1 HAT
          unfold Cmd.val at HT HTN
          generalize nextC l d = cq at *
          generalize nextS ss l d = ns at *
          obtain ⟨ck, cx, ca, cs, co, cy, cv, cm, cb⟩ := cq
          simp only at HT HTN HNX HNR
          have H1 := Lib.hid (HNX.out _ _ inferInstance M1.out)
          go_wp2_with fail
          refine H1.out.mono ?_
          rintro e w6 ⟨rfl, hb⟩
          have M2 := Lib.hid (M1.out.below hb)
          clear hb H1 HNX M1
          obtain ⟨w7, hw7⟩ : ∃ w7, w7 = w6.alloc (.cells #[.int .i64 ck, .int .i64 cx, .int .i64 ca, .int .i64 cs, .int .i64 co, .string cy, .string cv, .int .i64 cm, .bool cb] 38) := ⟨_, rfl⟩
          have M3 := Lib.hid (show Mem w [] w7 (DrA g mg l d :: MapA mg ss :: RefA g2 (.slice sa sn sc) (.slice a n c) r :: BlockA wr.heap.size #[.bool aodd, .int .i64 pc, .int .i64 pt, .string pv, .bool ph] 49 :: BlockA w6.heap.size #[.int .i64 ck, .int .i64 cx, .int .i64 ca, .int .i64 cs, .int .i64 co, .string cy, .string cv, .int .i64 cm, .bool cb] 38 :: []) by rw [hw7]; exact Mem.blockD M2.out _ 38)
          have H1 := Lib.hid (HNR.out _ _ inferInstance (Mem.fore M3.out))
          rw [hw7] at H1
          have HW7 := Lib.hid hw7
          clear hw7 M2 HNR
          go_wp2_with fail
          refine H1.out.mono ?_
          rintro e w8 ⟨rfl, hb⟩
          rw [← HW7.out] at hb
          clear H1 HW7
          have M4 := Lib.hid (M3.out.below hb)
          clear hb M3
          obtain ⟨w9, hw9⟩ : ∃ w9, w9 = w8.alloc (.cells #[.int .i64 ck, .int .i64 cx, .int .i64 ca, .int .i64 cs, .int .i64 co, .string cy, .string cv, .int .i64 cm, .bool cb] 38) := ⟨_, rfl⟩
          have M5 := Lib.hid (show Mem w [] w9 (DrA g mg l d :: MapA mg ss :: RefA g2 (.slice sa sn sc) (.slice a n c) r :: BlockA wr.heap.size #[.bool aodd, .int .i64 pc, .int .i64 pt, .string pv, .bool ph] 49 :: BlockA w6.heap.size #[.int .i64 ck, .int .i64 cx, .int .i64 ca, .int .i64 cs, .int .i64 co, .string cy, .string cv, .int .i64 cm, .bool cb] 38 :: []) by rw [hw9]; exact M4.out.below (bel_new _ _))
          have hd1 : w9.heap[w8.heap.size]? = some (.cells #[.int .i64 ck, .int .i64 cx, .int .i64 ca, .int .i64 cs, .int .i64 co, .string cy, .string cv, .int .i64 cm, .bool cb] 38 (0, 0)) := by rw [hw9]; exact heap_new _ _
          go_upto_region 20 with (fail)
          rw [← hw9]
          clear hw9 M4
          generalize w8.heap.size = gx at *
          generalize w6.heap.size = gc at *
          generalize wr.heap.size = gB at *
          have x0 := (cell_of_heap (i := 0) (v := .int .i64 ck) hd1 rfl).1
          have x1 := (cell_of_heap (i := 1) (v := .int .i64 cx) hd1 rfl).1
          have x2 := (cell_of_heap (i := 2) (v := .int .i64 ca) hd1 rfl).1
          have x3 := (cell_of_heap (i := 3) (v := .int .i64 cs) hd1 rfl).1
          have x4 := (cell_of_heap (i := 4) (v := .int .i64 co) hd1 rfl).1
          have x5 := (cell_of_heap (i := 5) (v := .string cy) hd1 rfl).1
          have x6 := (cell_of_heap (i := 6) (v := .string cv) hd1 rfl).1
          have x7 := (cell_of_heap (i := 7) (v := .int .i64 cm) hd1 rfl).1
          have x8 := (cell_of_heap (i := 8) (v := .bool cb) hd1 rfl).1
          clear hd1
          have hd2 := Mem.heapAt [DrA g mg l d, MapA mg ss, RefA g2 (.slice sa sn sc) (.slice a n c) r, BlockA gB #[.bool aodd, .int .i64 pc, .int .i64 pt, .string pv, .bool ph] 49] (r := []) M5.out
          have hbx := Mem.heapAt [DrA g mg l d, MapA mg ss, RefA g2 (.slice sa sn sc) (.slice a n c) r] (r := [BlockA gc #[.int .i64 ck, .int .i64 cx, .int .i64 ca, .int .i64 cs, .int .i64 co, .string cy, .string cv, .int .i64 cm, .bool cb] 38]) M5.out
          obtain ⟨y0, yf0⟩ := cell_of_heap (i := 0) (v := .int .i64 ck) hd2 rfl
          obtain ⟨y1, yf1⟩ := cell_of_heap (i := 1) (v := .int .i64 cx) hd2 rfl
          obtain ⟨y2, yf2⟩ := cell_of_heap (i := 2) (v := .int .i64 ca) hd2 rfl
          obtain ⟨y3, yf3⟩ := cell_of_heap (i := 3) (v := .int .i64 cs) hd2 rfl
          obtain ⟨y4, yf4⟩ := cell_of_heap (i := 4) (v := .int .i64 co) hd2 rfl
          obtain ⟨y5, yf5⟩ := cell_of_heap (i := 5) (v := .string cy) hd2 rfl
          obtain ⟨y6, yf6⟩ := cell_of_heap (i := 6) (v := .string cv) hd2 rfl
          obtain ⟨y7, yf7⟩ := cell_of_heap (i := 7) (v := .int .i64 cm) hd2 rfl
          obtain ⟨y8, yf8⟩ := cell_of_heap (i := 8) (v := .bool cb) hd2 rfl
          obtain ⟨z0, -⟩ := cell_of_heap (i := 0) (v := .bool aodd) hbx rfl
          obtain ⟨z1, -⟩ := cell_of_heap (i := 1) (v := .int .i64 pc) hbx rfl
          obtain ⟨z2, -⟩ := cell_of_heap (i := 2) (v := .int .i64 pt) hbx rfl
          obtain ⟨z3, -⟩ := cell_of_heap (i := 3) (v := .string pv) hbx rfl
          obtain ⟨z4, -⟩ := cell_of_heap (i := 4) (v := .bool ph) hbx rfl
          clear hd2 hbx
          cases aodd with
          | true =>
            clear HT HTL HP2 HST2
            go_upto_region 24 with (fail)
            obtain ⟨opx, hopx⟩ : ∃ opx, opx = bits .xor .i64 co 1 := ⟨_, rfl⟩
            rw [← hopx]
            have hne : opx ≠ co := by rw [hopx]; exact xor1_ne _
            clear hopx
            have M6 := Lib.hid (Mem.setAt [DrA g mg l d, MapA mg ss, RefA g2 (.slice sa sn sc) (.slice a n c) r, BlockA gB #[.bool true, .int .i64 pc, .int .i64 pt, .string pv, .bool ph] 49] (r := []) (i := 4) M5.out (.int .i64 opx))
            obtain ⟨wA, hwA⟩ : ∃ wA, wA = w9.setCell ⟨gc, 4, none⟩ (.int .i64 opx) := ⟨_, rfl⟩
            rw [← hwA] at M6 ⊢
            have M7 : Hid (Mem w [] wA (DrA g mg l d :: MapA mg ss :: RefA g2 (.slice sa sn sc) (.slice a n c) r :: BlockA gB #[.bool true, .int .i64 pc, .int .i64 pt, .string pv, .bool ph] 49 :: BlockA gc #[.int .i64 ck, .int .i64 cx, .int .i64 ca, .int .i64 cs, .int .i64 opx, .string cy, .string cv, .int .i64 cm, .bool cb] 38 :: [])) := M6
            clear hwA M6 M5
            clear x0 x1 x2 x3 x4 x5 x6 x7 x8
            clear y0 yf0 y1 yf1 y2 yf2 y3 yf3 y4 yf4 y5 yf5 y6 yf6 y7 yf7 y8 yf8 z0 z1 z2 z3 z4
            have hd2 := Mem.heapAt [DrA g mg l d, MapA mg ss, RefA g2 (.slice sa sn sc) (.slice a n c) r, BlockA gB #[.bool true, .int .i64 pc, .int .i64 pt, .string pv, .bool ph] 49] (r := []) M7.out
            have hbx := Mem.heapAt [DrA g mg l d, MapA mg ss, RefA g2 (.slice sa sn sc) (.slice a n c) r] (r := [BlockA gc #[.int .i64 ck, .int .i64 cx, .int .i64 ca, .int .i64 cs, .int .i64 opx, .string cy, .string cv, .int .i64 cm, .bool cb] 38]) M7.out
            obtain ⟨y0, yf0⟩ := cell_of_heap (i := 0) (v := .int .i64 ck) hd2 rfl
            obtain ⟨y1, yf1⟩ := cell_of_heap (i := 1) (v := .int .i64 cx) hd2 rfl
            obtain ⟨y2, yf2⟩ := cell_of_heap (i := 2) (v := .int .i64 ca) hd2 rfl
            obtain ⟨y3, yf3⟩ := cell_of_heap (i := 3) (v := .int .i64 cs) hd2 rfl
            obtain ⟨y4, yf4⟩ := cell_of_heap (i := 4) (v := .int .i64 opx) hd2 rfl
            obtain ⟨y5, yf5⟩ := cell_of_heap (i := 5) (v := .string cy) hd2 rfl
            obtain ⟨y6, yf6⟩ := cell_of_heap (i := 6) (v := .string cv) hd2 rfl
            obtain ⟨y7, yf7⟩ := cell_of_heap (i := 7) (v := .int .i64 cm) hd2 rfl
            obtain ⟨y8, yf8⟩ := cell_of_heap (i := 8) (v := .bool cb) hd2 rfl
            obtain ⟨z0, -⟩ := cell_of_heap (i := 0) (v := .bool true) hbx rfl
            obtain ⟨z1, -⟩ := cell_of_heap (i := 1) (v := .int .i64 pc) hbx rfl
            obtain ⟨z2, -⟩ := cell_of_heap (i := 2) (v := .int .i64 pt) hbx rfl
            obtain ⟨z3, -⟩ := cell_of_heap (i := 3) (v := .string pv) hbx rfl
            obtain ⟨z4, -⟩ := cell_of_heap (i := 4) (v := .bool ph) hbx rfl
            clear hd2 hbx
            have H1 := Lib.hid (HTN.out opx _ _ inferInstance hne M7.out)
            go_wp2_with fail
            refine H1.out.mono ?_
            rintro e wB ⟨rfl, hm⟩
            have M8 : Hid (Mem w [] wB [DrA g mg l d, MapA mg ss, RefA g2 (.slice sa sn sc) (.slice a n c) r]) := Lib.hid (Mem.drop [DrA g mg l d, MapA mg ss, RefA g2 (.slice sa sn sc) (.slice a n c) r] (A := BlockA gB #[.bool true, .int .i64 pc, .int .i64 pt, .string pv, .bool ph] 49) (r := []) (Mem.drop [DrA g mg l d, MapA mg ss, RefA g2 (.slice sa sn sc) (.slice a n c) r, BlockA gB #[.bool true, .int .i64 pc, .int .i64 pt, .string pv, .bool ph] 49] (A := BlockA gc #[.int .i64 ck, .int .i64 cx, .int .i64 ca, .int .i64 cs, .int .i64 opx, .string cy, .string cv, .int .i64 cm, .bool cb] 38) (r := []) hm))
            clear hm H1 M7 hne
            clear y0 yf0 y1 yf1 y2 yf2 y3 yf3 y4 yf4 y5 yf5 y6 yf6 y7 yf7 y8 yf8 z0 z1 z2 z3 z4
            have HF := Lib.hid (And.intro HP.out M8.out)
            clear M8 HP
            go_wp2_with fail
            go_roundw
            case rel => exact ⟨k + 1, d, r, by omega, by go_num, HF⟩
            case measure => simp [intOf]; omega
          | false =>
            have H1 := Lib.hid (HT.out _ _ inferInstance M5.out)
            clear HTN
            generalize toldM ss l d ⟨pc, pt, pv, ph⟩ = d2 at *
            go_wp2_with fail
            refine H1.out.mono ?_
            rintro e wB ⟨rfl, hm⟩
            have M6 := Lib.hid hm
            clear hm H1 M5 HT
            clear x0 x1 x2 x3 x4 x5 x6 x7 x8
            clear y0 yf0 y1 yf1 y2 yf2 y3 yf3 y4 yf4 y5 yf5 y6 yf6 y7 yf7 y8 yf8 z0 z1 z2 z3 z4
            have hbx := Mem.heapAt [DrA g mg l d2, MapA mg ss, RefA g2 (.slice sa sn sc) (.slice a n c) r] (r := [BlockA gc #[.int .i64 ck, .int .i64 cx, .int .i64 ca, .int .i64 cs, .int .i64 co, .string cy, .string cv, .int .i64 cm, .bool cb] 38]) M6.out
            obtain ⟨z1, -⟩ := cell_of_heap (i := 1) (v := .int .i64 pc) hbx rfl
            obtain ⟨z2, -⟩ := cell_of_heap (i := 2) (v := .int .i64 pt) hbx rfl
            obtain ⟨z3, -⟩ := cell_of_heap (i := 3) (v := .string pv) hbx rfl
            obtain ⟨z4, -⟩ := cell_of_heap (i := 4) (v := .bool ph) hbx rfl
            have H1 := Lib.hid (HTL.out _ _ inferInstance (Mem.fore M6.out))
            generalize tellR ss l r ⟨pc, pt, pv, ph⟩ = r2 at *
            clear hbx M6 HTL HP
            go_wp2_with fail
            refine H1.out.mono ?_
            rintro e wC ⟨rfl, hm⟩
            have M8 := Lib.hid (Mem.aft hm)
            have HSX : Hid ((if d2.phase = 8 then d2.outcome else 1) = stateR r2) := Lib.hid HST2.out.1.symm
            have HSA : Hid (d2.attempt = r2.attempt) := Lib.hid HST2.out.2.symm
            clear hm H1 HST2 z1 z2 z3 z4 hp8
            have HQ1 : Hid (∀ k, Calls Tryd.prog 11 #[.pointer (some ⟨g, 0, none⟩)] (wC.drewN k) fun e w' => e = .returned (.int .i64 (stateR r2)) ∧ w' = (wC.drewN k).drewN 0) := Lib.hid fun k => (state_any (M8.out.below (bel_drewN _ k))).mono fun e w' hh => ⟨by rw [hh.1, HSX.out], hh.2 ▸ rfl⟩
            have HQ2 : Hid (∀ k, Calls Tryd.prog 17 #[.pointer (some ⟨g2, 0, none⟩)] (wC.drewN k) fun e w' => e = .returned (.int .i64 (stateR r2)) ∧ w' = (wC.drewN k).drewN 0) := Lib.hid fun k => (rstate_any ((Mem.fore M8.out).below (bel_drewN _ k))).mono fun e w' hh => ⟨hh.1, hh.2 ▸ rfl⟩
            have HQ3 : Hid (∀ k, Calls Tryd.prog 18 #[.pointer (some ⟨g, 0, none⟩)] (wC.drewN k) fun e w' => e = .returned (.int .i64 r2.attempt) ∧ w' = (wC.drewN k).drewN 0) := Lib.hid fun k => (attempt_any (M8.out.below (bel_drewN _ k))).mono fun e w' hh => ⟨by rw [hh.1, HSA.out], hh.2 ▸ rfl⟩
            have t5 := (Mem.rdAt (Mem.fore M8.out)).c5
            have HM9 : Hid (∀ k, Mem w [] (wC.drewN k) [DrA g mg l d2, MapA mg ss, RefA g2 (.slice sa sn sc) (.slice a n c) r2]) := Lib.hid fun k => Mem.below (Mem.drop [DrA g mg l d2, MapA mg ss, RefA g2 (.slice sa sn sc) (.slice a n c) r2] (A := BlockA gB #[.bool false, .int .i64 pc, .int .i64 pt, .string pv, .bool ph] 49) (r := []) (Mem.drop [DrA g mg l d2, MapA mg ss, RefA g2 (.slice sa sn sc) (.slice a n c) r2, BlockA gB #[.bool false, .int .i64 pc, .int .i64 pt, .string pv, .bool ph] 49] (A := BlockA gc #[.int .i64 ck, .int .i64 cx, .int .i64 ca, .int .i64 cs, .int .i64 co, .string cy, .string cv, .int .i64 cm, .bool cb] 38) (r := []) M8.out)) (bel_drewN _ k)
            clear M8 HSX HSA
            generalize (stateR r2) = sta at *
            generalize r2.attempt = ata at *
            have hq1 : (sta != sta) = false := by simp
            have hq2 : (ata != ata) = false := by simp
            go_wp2_with fail
            go_quiet (first
              | ((go_at_call 11; exact Calls.quiet_of_same (HQ1.out _)))
              | ((go_at_call 17; exact Calls.quiet_of_same (HQ2.out _)))
              | ((go_at_call 18; exact Calls.quiet_of_same (HQ3.out _)))
              | (fail "none"))
            have HF := Lib.hid (And.intro HP2.out (HM9.out nq))
            clear HM9 HQ1 HQ2 HQ3 t5
            go_wp2_with fail
            go_roundw
            case rel => exact ⟨k + 1, d2, r2, by omega, by go_num, HF⟩
            case measure => simp [intOf]; omega
    · obtain rfl : k = n2 := by omega
      have HP := Lib.hid HS.out.1
      have M0 := Lib.hid HS.out.2
      clear HS
      obtain ⟨hR, htx, att, got, st, hinv⟩ := HP.out
      have hok := hinv.1.ok
      have hst := rel_state hR hok.ph0 hok.ph8
      have hnr := hR.nr
      have hres := hR.res
      have hrl : d.res.length ≤ 100000 := by have := hok.reslen; have := hok.nlen; have := hok.len; omega
      have hstm := hinv.2.1
      obtain ⟨ra, rc, MO⟩ := Mem.openR (Mem.fore M0.out)
      have t10 := (rdC_cell (Mem.heapAt [] MO) 10 (.slice ra r.res.length rc) rfl).1
      have HRW := Lib.hid (Mem.rowAt [BlockA g2 (rdC r (.slice sa sn sc) (.slice a n c) ra rc) 55] MO)
      rw [hres] at t10
      have M9 := Lib.hid (Mem.swap [DrA g mg l d] (Mem.swap [] (Mem.swap [_, _] (Mem.swap [_] MO))))
      rw [hres] at M9
      have HS17 := Lib.hid (rstate_any (Mem.fore M0.out))
      have HTX := Lib.hid fun W L (hst : Stables L) (hW : Mem w [] W (DrA g mg l d :: L)) => tx_any (r := L) hW
      have HSM := Lib.hid fun W L (hst : Stables L) (hW : Mem w [] W (DrA g mg l d :: L)) => stamp_any (r := L) hW
      rw [htx] at HTX
      rw [hstm] at HSM
      have hq1 : (tx == tx) = true := by simp
      have hq2 : (stamp == stamp) = true := by simp
      by_cases hp8 : d.phase = 8
      · rw [if_pos hp8] at hst
        rw [hst] at HS17
        by_cases h2 : d.outcome = 2
        · have HRS := Lib.hid (results_any M9.out hp8 hrl)
          rw [h2] at HS17
          have HSAME := Lib.hid fun a b c c2 W ha hb => sameRs_any a b d.res.length c c2 d.res W ha hb rfl hrl
          clear hR htx hinv hok hst hnr hres hstm MO HP h2 hp8 M0 M9 HRW
          generalize hdl : d.res.length = dn at *
          clear hdl
          go_wp2_with fail
          refine HS17.out.mono ?_
          rintro e w5 ⟨rfl, rfl⟩
          go_wp2_with fail
          refine HRS.out.mono ?_
          rintro e w6 ⟨a9, c9, rfl, hm⟩
          have H1 := Lib.hid (HSAME.out _ _ _ _ _ (Mem.rowAt [DrA g mg l d, MapA mg ss] hm) (Mem.rowAt [_, _, _, _] (r := []) hm))
          have M6 := Lib.hid hm
          clear hm HRS HSAME HS17 t10
          go_wp2_with fail
          refine H1.out.mono ?_
          rintro e w7 ⟨rfl, hb⟩
          have M7 := Lib.hid (M6.out.below hb)
          have H2 := Lib.hid (HTX.out _ _ inferInstance M7.out)
          have H3 := Lib.hid (HSM.out _ _ inferInstance M7.out)
          clear hb H1 M6 HTX HSM
          go_wp2_with fail
          refine H2.out.mono ?_
          rintro e w8 ⟨rfl, rfl⟩
          go_wp2_with fail
          refine H3.out.mono ?_
          rintro e w9 ⟨rfl, rfl⟩
          go_wp2_with fail
          go_ret
          exact ⟨rfl, M7.out.bel⟩
        · have HRS := Lib.hid (results_any M0.out hp8 hrl)
          have e := hnr hp8 h2
          rw [e] at HRS
          simp only [List.length_nil] at HRS
          have hb2 : (d.outcome != 2) = true := by simpa using h2
          clear hR htx hinv hok hst hnr hres hstm MO HP h2 hp8 M0 M9 HRW e
          generalize d.outcome = oc at *
          generalize d.res.length = dn at *
          go_wp2_with fail
          refine HS17.out.mono ?_
          rintro e w5 ⟨rfl, rfl⟩
          go_wp2_with fail
          refine HRS.out.mono ?_
          rintro e w6 ⟨a9, c9, rfl, hm⟩
          have H1 := Lib.hid (sameRs_any a9 none 0 c9 0 [] w6 (Mem.rowAt [DrA g mg l d, MapA mg ss] hm) (Row.nil _ _ _) rfl (by decide))
          have M6 := Lib.hid hm
          clear hm HRS HS17 t10
          go_wp2_with fail
          refine H1.out.mono ?_
          rintro e w7 ⟨rfl, hb⟩
          have M7 := Lib.hid (M6.out.below hb)
          have H2 := Lib.hid (HTX.out _ _ inferInstance M7.out)
          have H3 := Lib.hid (HSM.out _ _ inferInstance M7.out)
          clear hb H1 M6 HTX HSM
          go_wp2_with fail
          refine H2.out.mono ?_
          rintro e w8 ⟨rfl, rfl⟩
          go_wp2_with fail
          refine H3.out.mono ?_
          rintro e w9 ⟨rfl, rfl⟩
          go_wp2_with fail
          go_ret
          exact ⟨rfl, M7.out.bel⟩
      · rw [if_neg hp8] at hst
        rw [hst] at HS17
        have HRS := Lib.hid (results_no M0.out hp8)
        have H1 := Lib.hid (sameRs_any none none 0 0 0 [] wr (Row.nil _ _ _) (Row.nil _ _ _) rfl (by decide))
        have M6 := M0
        clear hR htx hinv hok hst hnr hres hstm MO HP hp8 M0 M9 HRW
        generalize d.res.length = dn at *
        go_wp2_with fail
        refine HS17.out.mono ?_
        rintro e w5 ⟨rfl, rfl⟩
        go_wp2_with fail
        refine HRS.out.mono ?_
        rintro e w6 ⟨rfl, rfl⟩
        clear HRS HS17 t10
        go_wp2_with fail
        refine H1.out.mono ?_
        rintro e w7 ⟨rfl, hb⟩
        have M7 := Lib.hid (M6.out.below hb)
        have H2 := Lib.hid (HTX.out _ _ inferInstance M7.out)
        have H3 := Lib.hid (HSM.out _ _ inferInstance M7.out)
        clear hb H1 M6 HTX HSM
        go_wp2_with fail
        refine H2.out.mono ?_
        rintro e w8 ⟨rfl, rfl⟩
        go_wp2_with fail
        refine H3.out.mono ?_
        rintro e w9 ⟨rfl, rfl⟩
        go_wp2_with fail
        go_ret
        exact ⟨rfl, M7.out.bel⟩
end
end Go.Proofs.YtmifgnibalbgjaaDoor
