/- queued. -/
import Derived.Test.YtnemgmlhcjhdhaaI
import Derived.Test.YtnemgmlhcjhdhaaMem3
import Derived.Lib.QuietBelow
import Derived.Deep.Cut
import Derived.BigQuiet
namespace Go.Proofs.Ytnemgmlhcjhdhaa
open Go.RowKit Go.Sort
/-- may one not be in a queue? -/
def badQ (hs qs : List Hd) (i : Nat) (z : Hd) : Bool := decide (z.owner < 0) || !modeM z.mode || decide (z.mode ≤ ofH hs z.owner) || decide (0 < ofH (qs.take i) z.owner) || decide (0 < ofH hs z.owner) && (qs.take i).any fun y => ofH hs y.owner == 0
/-- may a queue be? -/
def queuedF (hs qs : List Hd) (i : Nat) : List Hd → Bool
  | [] => true
  | z :: r => !badQ hs qs i z && queuedF hs qs (i + 1) r
def queuedB (hs qs : List Hd) : Bool := queuedF hs qs 0 qs
set_option maxRecDepth 100000 in
set_option maxHeartbeats 8000000 in
theorem queued_any (x : Ln) (hs qs : List Hd) (w : World) (h1 : HdsAt w x.hs.a x.hs.n hs) (h2 : HdsAt w x.qs.a x.qs.n qs) (n1 : x.hs.n ≤ maxLen) (n2 : x.qs.n ≤ 1000000) (n3 : x.qs.n ≤ x.qs.c) :
    Calls Try.prog 57 #[.agg #[.string x.key, .slice x.hs.a x.hs.n x.hs.c, .slice x.qs.a x.qs.n x.qs.c]] w fun e w' => e = .returned (.bool (queuedB hs qs)) ∧ Below w.heap.size w w' := by
  obtain ⟨xk, ⟨ha, hn, hc⟩, ⟨qa, qn, qc⟩⟩ := x
  simp only at h1 h2 n1 n2 n3 ⊢
  obtain rfl : qn = qs.length := h2.1
  have H1 := Lib.hid h1
  have H2 := Lib.hid h2
  have HN1 := Lib.hid n1
  have HV : Hid (queuedF hs qs 0 qs = queuedB hs qs) := Lib.hid rfl
  generalize queuedB hs qs = r at *
  clear h1 h2 n1
  go_enter Try.func57, Try.ntmps57
  go_wp2_with fail
  obtain ⟨w0, hw0⟩ : ∃ w0, w0 = w.alloc (.cells #[.string xk, .slice ha hn hc, .slice qa qs.length qc] 34) := ⟨_, rfl⟩
  have HX : Hid (∀ W, Below w0.heap.size w0 W → W.cell? ⟨w.heap.size, 1, none⟩ = some (.slice ha hn hc) ∧ W.cell? ⟨w.heap.size, 2, none⟩ = some (.slice qa qs.length qc)) := Lib.hid fun W hb => by
    subst hw0
    exact ⟨(hb.cell (by simp only [World.size_alloc]; omega)).trans (by simp [go_sem]), (hb.cell (by simp only [World.size_alloc]; omega)).trans (by simp [go_sem])⟩
  have HB0 : Hid (Below w.heap.size w w0) := Lib.hid (by rw [hw0]; exact bel_new _ _)
  rw [← hw0]
  clear hw0
  generalize w.heap.size = b1 at HX ⊢
  go_loopw [3, 10] (fun v jv wr => ∃ i : Nat, i ≤ qs.length ∧ jv = .int .i64 (i : Nat) ∧ v = .bool ((qs.take i).any fun y => ofH hs y.owner == 0) ∧ Hid (queuedF hs qs i (qs.drop i) = r) ∧ Hid (Below w0.heap.size w0 wr)) (fun _ jv _ => qs.length - (intOf jv).toNat)
  case atStart => exact ⟨0, Nat.zero_le _, rfl, by simp, HV, Lib.hid (Below.refl _ _)⟩
  case round =>
    obtain ⟨i, hi, rfl, rfl, he, HB⟩ := hrel
    clear HV
    by_cases hlt : i < qs.length
    · obtain ⟨gq, oq, rfl, hz⟩ := H2.out.2 i hlt
      obtain ⟨c0, c1⟩ := (hz.below HB0.out).below HB.out
      have hxx := HX.out wr HB.out
      obtain ⟨x1, x2⟩ := hxx
      have HOH := Lib.hid fun W (hb : Below w0.heap.size w0 W) => of_any ha hn hc hs qs[i].owner W (H1.out.below (HB0.out.trans (hb.mono HB0.out.size))) HN1.out
      have HOQ := Lib.hid fun W (hb : Below w0.heap.size w0 W) => of_any (some ⟨gq, oq, none⟩) i qc (qs.take i) qs[i].owner W ((H2.out.below (HB0.out.trans (hb.mono HB0.out.size))).take (by omega)) (by unfold maxLen; omega)
      have he2 := he.out
      rw [List.drop_eq_getElem_cons hlt] at he2
      unfold queuedF at he2
      have HE := Lib.hid he2
      have hpl : ((qs.take (i + 1)).any fun y => ofH hs y.owner == 0) = (((qs.take i).any fun y => ofH hs y.owner == 0) || ofH hs qs[i].owner == 0) := by
        rw [List.take_succ_eq_append_getElem hlt, List.any_append]; simp
      have HPL := Lib.hid hpl
      have hbq : badQ hs qs i qs[i] = (decide (qs[i].owner < 0) || !modeM qs[i].mode || decide (qs[i].mode ≤ ofH hs qs[i].owner) || decide (0 < ofH (qs.take i) qs[i].owner) || decide (0 < ofH hs qs[i].owner) && (qs.take i).any fun y => ofH hs y.owner == 0) := rfl
      have HBQ := Lib.hid hbq
      clear hz he he2 hpl hbq
      generalize badQ hs qs i qs[i] = bad at *
      generalize ofH hs qs[i].owner = vh at *
      generalize ofH (qs.take i) qs[i].owner = vq at *
      generalize hpp : ((qs.take i).any fun y => ofH hs y.owner == 0) = pl at *
      clear hpp
      generalize qs[i] = z at *
      obtain ⟨zo, zm⟩ := z
      simp only at c0 c1 HOH HOQ HBQ
      have x1a := fun oo => ((bel_new wr oo).cell (World.block_lt_of_cell? wr _ x1)).trans x1
      go_wp2_with fail
      refine (HOH.out (wr.alloc (.cells #[.int .i64 zo, .int .i64 zm] 36)) (bel_one HB.out _)).mono ?_
      rintro e w6 ⟨rfl, hb6⟩
      have hb60 := (bel_one HB.out (.cells #[.int .i64 zo, .int .i64 zm] 36)).trans (hb6.mono (bel_one HB.out _).size)
      obtain ⟨y0, y1⟩ := (hdAt_new wr ⟨zo, zm⟩ 36).below hb6
      simp only [Nat.zero_add] at y0 y1
      have HB6 := Lib.hid hb60
      clear hb6 c0 c1 x1 x2 x1a
      generalize wr.heap.size = b5 at *
      have HX6 := HX.out w6 hb60
      obtain ⟨x1, x2⟩ := HX6
      have k1 := cell_regrown x2
      have k2 := cell_regrown y0
      have k3 := cell_regrown y1
      have cM : ∀ d os, Calls Try.prog 44 #[.int .i64 zm] (grow (redrawn w6 d) os) fun e w'' => e = .returned (.bool (modeM zm)) ∧ ∃ p : Regrown, w'' = grow (redrawn w6 p.d) p.os := fun d os => Calls.regrown_of ((mode_any zm _).mono fun e w' (h : _ ∧ _) => ⟨h.1, by rw [← h.2]; exact Below.refl _ _⟩)
      have cF : ∀ d os, Calls Try.prog 33 #[.slice (some ⟨gq, oq, none⟩) i qc, .int .i64 zo] (grow (redrawn w6 d) os) fun e w'' => e = .returned (.int .i64 vq) ∧ ∃ p : Regrown, w'' = grow (redrawn w6 p.d) p.os := fun d os => Calls.regrown_of (HOQ.out _ (hb60.trans ((below_regrown w6 d os).mono hb60.size)))
      have HGR : Hid (∀ d os, Below w0.heap.size w0 (grow (redrawn w6 d) os)) := Lib.hid fun d os => hb60.trans ((below_regrown w6 d os).mono hb60.size)
      have hmix : Try.prog.follows .mixedOrders = true := by kernel_rfl
      have hi1 : (i : Int) ≤ (qc : Int) := by omega
      have hi2 : (0 : Int) ≤ (i : Int) := by omega
      have hi3 : i ≤ qc := by omega
      have HP2 : Hid (((qs.take (i + 1)).any fun y => ofH hs y.owner == 0) = (pl || vh == 0)) := HPL
      clear HOH HOQ HB HPL hb60 HX x1 x2 y0 y1 HB6
      go_upto_region 6 with (fail)
      cases q1 : decide (zo < 0) with
      | true =>
        have HBV : Hid (bad = true) := Lib.hid (by rw [HBQ.out, q1]; simp)
        clear HBQ
        refine wp_region_quiet_below hmix (by kernel_rfl) ?_
        repeat (go_big_quiet_step (first | exact cM _ _ | exact cF _ _))
        refine wpQuiet_nil ?_
        intro _ hw'
        obtain ⟨⟨dq, osq⟩, hw'⟩ := hw'
        subst hw'
        have HW := Lib.hid (HGR.out dq osq)
        clear HGR k1 k2 k3 cM cF
        obtain ⟨w9, hw9⟩ : ∃ w9, w9 = grow (redrawn w6 dq) osq := ⟨_, rfl⟩
        rw [← hw9] at HW ⊢
        clear hw9
        have he3 : Hid (false = r) := Lib.hid (by have := HE.out; rw [HBV.out] at this; exact this)
        clear HE HBV
        go_wp2_with fail
        go_ret
        exact ⟨by rw [← he3.out]; rfl, HB0.out.trans (HW.out.mono HB0.out.size)⟩
      | false =>
        cases q2 : modeM zm with
        | false =>
          have HBV : Hid (bad = true) := Lib.hid (by rw [HBQ.out, q2]; simp)
          rw [q2] at cM
          clear HBQ q2
          refine wp_region_quiet_below hmix (by kernel_rfl) ?_
          repeat (go_big_quiet_step (first | exact cM _ _ | exact cF _ _))
          refine wpQuiet_nil ?_
          intro _ hw'
          obtain ⟨⟨dq, osq⟩, hw'⟩ := hw'
          subst hw'
          have HW := Lib.hid (HGR.out dq osq)
          clear HGR k1 k2 k3 cM cF
          obtain ⟨w9, hw9⟩ : ∃ w9, w9 = grow (redrawn w6 dq) osq := ⟨_, rfl⟩
          rw [← hw9] at HW ⊢
          clear hw9
          have he3 : Hid (false = r) := Lib.hid (by have := HE.out; rw [HBV.out] at this; exact this)
          clear HE HBV
          go_wp2_with fail
          go_ret
          exact ⟨by rw [← he3.out]; rfl, HB0.out.trans (HW.out.mono HB0.out.size)⟩
        | true =>
          rw [q2] at cM
          cases q3 : decide (zm ≤ vh) with
          | true =>
            have HBV : Hid (bad = true) := Lib.hid (by rw [HBQ.out, q3]; simp)
            clear HBQ q2
            refine wp_region_quiet_below hmix (by kernel_rfl) ?_
            repeat (go_big_quiet_step (first | exact cM _ _ | exact cF _ _))
            refine wpQuiet_nil ?_
            intro _ hw'
            obtain ⟨⟨dq, osq⟩, hw'⟩ := hw'
            subst hw'
            have HW := Lib.hid (HGR.out dq osq)
            clear HGR k1 k2 k3 cM cF
            obtain ⟨w9, hw9⟩ : ∃ w9, w9 = grow (redrawn w6 dq) osq := ⟨_, rfl⟩
            rw [← hw9] at HW ⊢
            clear hw9
            have he3 : Hid (false = r) := Lib.hid (by have := HE.out; rw [HBV.out] at this; exact this)
            clear HE HBV
            go_wp2_with fail
            go_ret
            exact ⟨by rw [← he3.out]; rfl, HB0.out.trans (HW.out.mono HB0.out.size)⟩
          | false =>
            cases q4 : decide (0 < vq) with
            | true =>
              have HBV : Hid (bad = true) := Lib.hid (by rw [HBQ.out, q4]; simp)
              clear HBQ q2
              refine wp_region_quiet_below hmix (by kernel_rfl) ?_
              repeat (go_big_quiet_step (first | exact cM _ _ | exact cF _ _))
              refine wpQuiet_nil ?_
              intro _ hw'
              obtain ⟨⟨dq, osq⟩, hw'⟩ := hw'
              subst hw'
              have HW := Lib.hid (HGR.out dq osq)
              clear HGR k1 k2 k3 cM cF
              obtain ⟨w9, hw9⟩ : ∃ w9, w9 = grow (redrawn w6 dq) osq := ⟨_, rfl⟩
              rw [← hw9] at HW ⊢
              clear hw9
              have he3 : Hid (false = r) := Lib.hid (by have := HE.out; rw [HBV.out] at this; exact this)
              clear HE HBV
              go_wp2_with fail
              go_ret
              exact ⟨by rw [← he3.out]; rfl, HB0.out.trans (HW.out.mono HB0.out.size)⟩
            | false =>
              cases q5 : decide (0 < vh) with
              | true =>
                cases pl with
                | true =>
                  have HBV : Hid (bad = true) := Lib.hid (by rw [HBQ.out, q1, q2, q3, q4, q5]; simp)
                  clear HBQ q2
                  refine wp_region_quiet_below hmix (by kernel_rfl) ?_
                  repeat (go_big_quiet_step (first | exact cM _ _ | exact cF _ _))
                  refine wpQuiet_nil ?_
                  intro _ hw'
                  obtain ⟨⟨dq, osq⟩, hw'⟩ := hw'
                  subst hw'
                  have HW := Lib.hid (HGR.out dq osq)
                  clear HGR k1 k2 k3 cM cF
                  obtain ⟨w9, hw9⟩ : ∃ w9, w9 = grow (redrawn w6 dq) osq := ⟨_, rfl⟩
                  rw [← hw9] at HW ⊢
                  clear hw9
                  have he3 : Hid (false = r) := Lib.hid (by have := HE.out; rw [HBV.out] at this; exact this)
                  clear HE HBV
                  go_wp2_with fail
                  go_ret
                  exact ⟨by rw [← he3.out]; rfl, HB0.out.trans (HW.out.mono HB0.out.size)⟩
                | false =>
                  have HBV : Hid (bad = false) := Lib.hid (by rw [HBQ.out, q1, q2, q3, q4, q5]; simp)
                  clear HBQ q2
                  refine wp_region_quiet_below hmix (by kernel_rfl) ?_
                  repeat (go_big_quiet_step (first | exact cM _ _ | exact cF _ _))
                  refine wpQuiet_nil ?_
                  intro _ hw'
                  obtain ⟨⟨dq, osq⟩, hw'⟩ := hw'
                  subst hw'
                  have HW := Lib.hid (HGR.out dq osq)
                  clear HGR k1 k2 k3 cM cF
                  obtain ⟨w9, hw9⟩ : ∃ w9, w9 = grow (redrawn w6 dq) osq := ⟨_, rfl⟩
                  rw [← hw9] at HW ⊢
                  clear hw9
                  have he3 : Hid (queuedF hs qs (i + 1) (qs.drop (i + 1)) = r) := Lib.hid (by have := HE.out; rw [HBV.out] at this; simpa using this)
                  have hp3 : Hid ((vh == 0) = (qs.take (i + 1)).any fun y => ofH hs y.owner == 0) := Lib.hid (by rw [HP2.out]; rfl)
                  clear HE HBV HP2
                  go_wp2_with fail
                  go_roundw
                  case rel => exact ⟨i + 1, by omega, by go_num, by rw [← hp3.out], he3, HW⟩
                  case measure => simp [intOf]; omega
              | false =>
                have HBV : Hid (bad = false) := Lib.hid (by rw [HBQ.out, q1, q2, q3, q4, q5]; simp)
                clear HBQ q2
                cases pl with
                | true =>
                  refine wp_region_quiet_below hmix (by kernel_rfl) ?_
                  repeat (go_big_quiet_step (first | exact cM _ _ | exact cF _ _))
                  refine wpQuiet_nil ?_
                  intro _ hw'
                  obtain ⟨⟨dq, osq⟩, hw'⟩ := hw'
                  subst hw'
                  have HW := Lib.hid (HGR.out dq osq)
                  clear HGR k1 k2 k3 cM cF
                  obtain ⟨w9, hw9⟩ : ∃ w9, w9 = grow (redrawn w6 dq) osq := ⟨_, rfl⟩
                  rw [← hw9] at HW ⊢
                  clear hw9
                  have he3 : Hid (queuedF hs qs (i + 1) (qs.drop (i + 1)) = r) := Lib.hid (by have := HE.out; rw [HBV.out] at this; simpa using this)
                  have hp3 : Hid (true = (qs.take (i + 1)).any fun y => ofH hs y.owner == 0) := Lib.hid (by rw [HP2.out]; rfl)
                  clear HE HBV HP2
                  go_wp2_with fail
                  go_roundw
                  case rel => exact ⟨i + 1, by omega, by go_num, by rw [← hp3.out], he3, HW⟩
                  case measure => simp [intOf]; omega
                | false =>
                  refine wp_region_quiet_below hmix (by kernel_rfl) ?_
                  repeat (go_big_quiet_step (first | exact cM _ _ | exact cF _ _))
                  refine wpQuiet_nil ?_
                  intro _ hw'
                  obtain ⟨⟨dq, osq⟩, hw'⟩ := hw'
                  subst hw'
                  have HW := Lib.hid (HGR.out dq osq)
                  clear HGR k1 k2 k3 cM cF
                  obtain ⟨w9, hw9⟩ : ∃ w9, w9 = grow (redrawn w6 dq) osq := ⟨_, rfl⟩
                  rw [← hw9] at HW ⊢
                  clear hw9
                  have he3 : Hid (queuedF hs qs (i + 1) (qs.drop (i + 1)) = r) := Lib.hid (by have := HE.out; rw [HBV.out] at this; simpa using this)
                  have hp3 : Hid ((vh == 0) = (qs.take (i + 1)).any fun y => ofH hs y.owner == 0) := Lib.hid (by rw [HP2.out]; rfl)
                  clear HE HBV HP2
                  go_wp2_with fail
                  go_roundw
                  case rel => exact ⟨i + 1, by omega, by go_num, by rw [← hp3.out], he3, HW⟩
                  case measure => simp [intOf]; omega
    · obtain rfl : i = qs.length := by omega
      have he2 := he.out
      rw [List.drop_length] at he2
      have HE := Lib.hid (show true = r from he2)
      clear he2
      go_wp2_with fail
      go_ret
      exact ⟨by rw [← HE.out]; rfl, HB0.out.trans (HB.out.mono HB0.out.size)⟩
end Go.Proofs.Ytnemgmlhcjhdhaa
