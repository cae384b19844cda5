/- From. -/
import Derived.Test.YtnemgmlhcjhdhaaAI
import Derived.Test.YtnemgmlhcjhdhaaAG
namespace Go.Proofs.Ytnemgmlhcjhdhaa
open Go.RowKit Go.Sort
/-- lines that can be read, the queues up to their room, too. -/
def LinesC (w : World) (a : Option Addr) (n : Nat) (L : List Li) : Prop := n = L.length ∧ ∀ j (h : j < L.length), ∃ g o x, a = some ⟨g, o, none⟩ ∧ lnAt w g (o + j * 3) x ∧ x.key = L[j].key ∧ HdsAt w x.hs.a x.hs.n L[j].hs ∧ HdsAt w x.qs.a x.qs.n L[j].qs ∧ x.hs.n ≤ maxLen ∧ x.qs.n ≤ maxLen ∧ x.qs.n ≤ x.qs.c
theorem LinesC.at {w : World} {a : Option Addr} {n : Nat} {L : List Li} (h : LinesC w a n L) : LinesAt w a n L :=
  ⟨h.1, fun j hj => let ⟨g, o, x, e, h1, h2, h3, h4, h5, h6, _⟩ := h.2 j hj; ⟨g, o, x, e, h1, h2, h3, h4, h5, h6⟩⟩
theorem LinesC.below {w w' : World} {a : Option Addr} {n : Nat} {L : List Li} (h : LinesC w a n L) (b : Below w.heap.size w w') : LinesC w' a n L :=
  ⟨h.1, fun j hj => let ⟨g, o, x, e, h1, h2, h3, h4, h5⟩ := h.2 j hj; ⟨g, o, x, e, h1.below b, h2, h3.below b, h4.below b, h5⟩⟩
/-- new lines can be read. -/
theorem LinesC.mem {w0 w : World} {D0 : List Nat} {b : Option Addr} {d : Nat} {X : List Ln} {L : List Li} {r : List Asn} [Stables r] (hk : X.map (·.key) = L.map (·.key)) (hm : Mem w0 D0 w (RowA 34 3 b L.length d (lnFlat X) :: (rowsOf X L ++ r))) : LinesC w b L.length L := by
  obtain ⟨hk1, hk2⟩ := keys_at hk
  refine ⟨rfl, fun j hj => ?_⟩
  obtain ⟨g, e, h1⟩ := lnAt_row (Mem.rowAt [] hm) j (by omega)
  obtain ⟨r1, r2⟩ := rowsOf_read [RowA 34 3 b L.length d (lnFlat X)] hm (i := j) (by omega) hj
  exact ⟨g, 0, X[j]'(by omega), e, by rw [Nat.zero_add]; exact h1, hk2 j (by omega) hj, HdsAt.row r1, HdsAt.row r2, row_max r1, row_max r2, row_cap r2⟩
/-- may there be a table of these lines? -/
def okAt (L : List Li) (i : Nat) : Bool := rightB (L.getD i Li0) && (i == 0 || ltS (L.getD (i - 1) Li0).key (L.getD i Li0).key)
def fromB (L : List Li) : Bool := (List.range L.length).all (okAt L)
def FromPost (w : World) (L : List Li) (e : Ending) (w' : World) : Prop :=
  (fromB L = true ∧ ∃ q, e = .returned (.tuple #[.pointer (some ⟨q, 0, none⟩), .int .i64 0]) ∧ Mem w [] w' [TabA q L]) ∨ (fromB L = false ∧ e = .returned (.tuple #[.pointer none, .int .i64 2]) ∧ Below w.heap.size w w')
set_option maxRecDepth 100000 in
set_option maxHeartbeats 8000000 in
theorem from_any (a : Option Addr) (n c : Nat) (L : List Li) (w : World) (h : LinesC w a n L) (hb : Sm 1000 L) : Calls Try.prog 17 #[.slice a n c] w (FromPost w L) := by
  obtain rfl := h.1
  have HL := Lib.hid h
  have HC := Lib.hid fun W (hW : Below w.heap.size w W) => copied_any a L.length c L W (h.at.below hW) hb
  have HSM := Lib.hid hb
  have hn4 : L.length ≤ 1000 := hb.1
  have HNO : Hid (∀ i W, i < L.length → okAt L i = false → Below w.heap.size w W → FromPost w L (.returned (.tuple #[.pointer none, .int .i64 2])) W) := Lib.hid fun i W hi ho hW =>
    .inr ⟨by unfold fromB; rw [List.all_eq_false]; exact ⟨i, List.mem_range.2 hi, by rw [ho]; decide⟩, rfl, hW⟩
  clear h hb
  go_enter Try.func17, Try.ntmps17
  go_wp2_with fail
  go_loopw [8] (fun jv wr => ∃ i : Nat, i ≤ L.length ∧ jv = .int .i64 (i : Nat) ∧ Hid ((∀ t, t < i → okAt L t = true) ∧ Below w.heap.size w wr)) (fun jv _ => L.length - (intOf jv).toNat)
  case atStart => exact ⟨0, Nat.zero_le _, rfl, Lib.hid ⟨fun t ht => absurd ht (by omega), Below.refl _ _⟩⟩
  case round =>
    obtain ⟨w1, rfl⟩ : ∃ w1, w1 = wr := ⟨_, rfl⟩
    obtain ⟨i, hi, rfl, hS⟩ := hrel
    obtain ⟨hall, hb1⟩ := hS.out
    clear hS
    by_cases hlt : i < L.length
    · obtain ⟨g, o, x, rfl, hx, hxk, hxh, hxq, hx1, hx2, hx3⟩ := HL.out.2 i hlt
      obtain ⟨k0, k1, k2⟩ := hx.below hb1
      have hsm := HSM.out.2 _ (List.getElem_mem hlt)
      have HRT := Lib.hid fun W (hW : Below w.heap.size w W) => right_any x L[i] W hxk (hxh.below hW) (hxq.below hW) (by have := hxh.1; omega) (by have := hxq.1; omega) hx3
      have hoki : okAt L i = (rightB L[i] && (i == 0 || ltS (L.getD (i - 1) Li0).key x.key)) := by
        unfold okAt
        rw [List.getD_eq_getElem?_getD (l := L) (i := i), List.getElem?_eq_getElem hlt, Option.getD_some, hxk]
      have hprev : ∀ W, Below w.heap.size w W → 0 < i → W.cell? ⟨g, o + (i - 1) * 3, none⟩ = some (.string (L.getD (i - 1) Li0).key) := fun W hW h0 => by
        obtain ⟨g', o', x', e, hx', hxk', -⟩ := HL.out.2 (i - 1) (by omega)
        simp only [Option.some.injEq, Addr.mk.injEq, and_true] at e
        obtain ⟨rfl, rfl⟩ := e
        obtain ⟨y0, -, -⟩ := hx'.below hW
        rw [List.getD_eq_getElem?_getD, List.getElem?_eq_getElem (by omega : i - 1 < L.length), Option.getD_some, ← hxk']
        exact y0
      have HPV := Lib.hid hprev
      have HNX : Hid (okAt L i = true → ∀ t, t < i + 1 → okAt L t = true) := Lib.hid fun ho t ht => by
        rcases Nat.lt_or_ge t i with h | h
        · exact hall t h
        · obtain rfl : t = i := by omega
          exact ho
      have HNO2 := Lib.hid fun W => HNO.out i W hlt
      have HOK := Lib.hid hoki
      generalize okAt L i = ok at *
      generalize rightB L[i] = br at *
      generalize (L.getD (i - 1) Li0).key = pk at *
      clear hx hxk hxh hxq hx1 hx2 hx3 hsm hoki hprev hall
      obtain ⟨xk, ⟨ha, hn, hc⟩, ⟨qa, qn, qc⟩⟩ := x
      simp only at k0 k1 k2 HRT HOK
      have HB1 := Lib.hid hb1
      clear hb1
      go_upto_region 4 with (fail)
      obtain ⟨w6, hw6⟩ : ∃ w6, w6 = w1.alloc (.cells #[.string xk, .slice ha hn hc, .slice qa qn qc] 34) := ⟨_, rfl⟩
      have hb60 : Below w.heap.size w w6 := by rw [hw6]; exact bel_one HB1.out _
      have y0 : w6.cell? ⟨w1.heap.size, 0, none⟩ = some (.string xk) := by rw [hw6]; simp [go_sem]
      have y1 : w6.cell? ⟨w1.heap.size, 1, none⟩ = some (.slice ha hn hc) := by rw [hw6]; simp [go_sem]
      have y2 : w6.cell? ⟨w1.heap.size, 2, none⟩ = some (.slice qa qn qc) := by rw [hw6]; simp [go_sem]
      rw [← hw6]
      clear hw6 k0 k1 k2
      generalize w1.heap.size = b5 at *
      have q0 := cell_regrown y0
      have q1 := cell_regrown y1
      have q2 := cell_regrown y2
      have cR : ∀ d os, Calls Try.prog 36 #[.agg #[.string xk, .slice ha hn hc, .slice qa qn qc]] (grow (redrawn w6 d) os) fun e w'' => e = .returned (.bool br) ∧ ∃ p : Regrown, w'' = grow (redrawn w6 p.d) p.os := fun d os => Calls.regrown_of (HRT.out _ (hb60.trans ((below_regrown w6 d os).mono hb60.size)))
      have HGR : Hid (∀ d os, Below w.heap.size w (grow (redrawn w6 d) os)) := Lib.hid fun d os => hb60.trans ((below_regrown w6 d os).mono hb60.size)
      have hmix : Try.prog.follows .mixedOrders = true := by kernel_rfl
      have HP6 := Lib.hid (HPV.out w6 hb60)
      clear HRT HPV hb60 HL HSM y0 y1 y2
      cases br with
      | false =>
        have ho : ok = false := by rw [HOK.out]; rfl
        have HN := Lib.hid fun W => HNO2.out W ho
        clear HOK HNX HNO2 ho
        refine wp_region_quiet_below hmix (by kernel_rfl) ?_
        repeat (go_big_quiet_step (exact cR _ _))
        refine wpQuiet_nil ?_
        intro _ hw'
        obtain ⟨⟨dq, osq⟩, hw'⟩ := hw'
        subst hw'
        have HF := Lib.hid (HN.out _ (HGR.out dq osq))
        clear HGR HN q0 q1 q2 cR
        go_wp2_with fail
        go_ret2
        exact HF.out
      | true =>
        cases i with
        | zero =>
          have ho : ok = true := by rw [HOK.out]; rfl
          have HN := Lib.hid (HNX.out ho)
          clear HOK HNX HNO2 ho
          refine wp_region_quiet_below hmix (by kernel_rfl) ?_
          repeat (go_big_quiet_step (exact cR _ _))
          refine wpQuiet_nil ?_
          intro _ hw'
          obtain ⟨⟨dq, osq⟩, hw'⟩ := hw'
          subst hw'
          have HW := Lib.hid (HGR.out dq osq)
          clear HGR q0 q1 q2 cR
          go_wp2_with fail
          go_roundw
          case rel => exact ⟨1, by omega, by go_num, Lib.hid ⟨HN.out, HW.out⟩⟩
          case measure => simp [intOf]; omega
        | succ k =>
          have p0 := HP6.out (by omega)
          rw [Nat.add_sub_cancel] at p0
          have q3 := cell_regrown p0
          have hok2 : ok = ltS pk xk := by rw [HOK.out]; simp
          have hk1 : (0 : Int) < (k : Int) + 1 := by omega
          have hk2 : (k : Int) < (L.length : Int) := by omega
          have hk3 : (0 : Int) ≤ (k : Int) := by omega
          have hk4 : k < L.length := by omega
          clear HP6 p0
          cases hl2 : ltS pk xk with
          | true =>
            have hl3 : Op.bytesLess pk.toList xk.toList = true := hl2
            have HN := Lib.hid (HNX.out (hok2.trans hl2))
            clear HOK HNX HNO2 hok2 hl2
            refine wp_region_quiet_below hmix (by kernel_rfl) ?_
            repeat (go_big_quiet_step (exact cR _ _))
            refine wpQuiet_nil ?_
            intro _ hw'
            obtain ⟨⟨dq, osq⟩, hw'⟩ := hw'
            subst hw'
            have HW := Lib.hid (HGR.out dq osq)
            clear HGR q0 q1 q2 q3 cR
            go_wp2_with fail
            go_roundw
            case rel => exact ⟨k + 1 + 1, by omega, by go_num, Lib.hid ⟨HN.out, HW.out⟩⟩
            case measure => simp [intOf]; omega
          | false =>
            have hl3 : Op.bytesLess pk.toList xk.toList = false := hl2
            have HN := Lib.hid fun W => HNO2.out W (hok2.trans hl2)
            clear HOK HNX HNO2 hok2 hl2
            refine wp_region_quiet_below hmix (by kernel_rfl) ?_
            repeat (go_big_quiet_step (exact cR _ _))
            refine wpQuiet_nil ?_
            intro _ hw'
            obtain ⟨⟨dq, osq⟩, hw'⟩ := hw'
            subst hw'
            have HF := Lib.hid (HN.out _ (HGR.out dq osq))
            clear HGR HN q0 q1 q2 q3 cR
            go_wp2_with fail
            go_ret2
            exact HF.out
    · obtain rfl : i = L.length := by omega
      have hf : fromB L = true := by
        unfold fromB
        rw [List.all_eq_true]
        exact fun t ht => hall t (List.mem_range.1 ht)
      have HF := Lib.hid hf
      have HB1 := Lib.hid hb1
      have HCC := Lib.hid (HC.out w1 hb1)
      clear hf hb1 hall
      go_wp2_with fail
      refine HCC.out.mono ?_
      rintro e w2 ⟨b, d, X, rfl, hk, hm⟩
      have hm2 := hm.block #[.slice b L.length d] 59
      have hm3 := Mem.shut (r := []) hk (by rw [List.append_nil]; exact hm2)
      have HT := Lib.hid hm3
      have HB2 := Lib.hid hm.bel
      clear hm hm2 hm3 hk
      go_wp2_with fail
      go_ret2
      refine .inl ⟨HF.out, w2.heap.size, rfl, ?_⟩
      exact (Step.of_below HB1.out []).mem HT.out
end Go.Proofs.Ytnemgmlhcjhdhaa
